/- Up, part y2: a region that draws: pure operations, written slices, one append to an array and one store of a variable, in all orders. -/
import Derived.Test.YtppobdnacmdgbaaDoorUy
set_option linter.unusedVariables false
set_option linter.unusedSimpArgs false
namespace Go.Up
open Go.RowKit

def isApp (o : Oper) : Bool :=
  match o.op with
  | .call c => (match c.callee with
    | .builtin .append => true
    | _ => false)
  | _ => false
section
variable {P : Program} {E0 : Env} {n0 : NB} {w0 : World} {nt : Nat} {ops : Array Oper} {md : Region.Mode}
/-- What an operation yields beside an append and a store: the heap is told by which of them are done. -/
def YS2 [GTab] (P : Program) (hp : Bool → Bool → AH) (σ : St) (o : Oper) (r : AV) : Prop :=
  o.guard = none ∧ ((isSto o = true ∧ isApp o = false ∧ ∀ c, ImpS P (hp false c) (ev σ) o.op (hp true c) r) ∨ (isApp o = true ∧ isSto o = false ∧ ∀ b, ImpS P (hp b false) (ev σ) o.op (hp b true) r) ∨
    (isSto o = false ∧ isApp o = false ∧ ∀ b c, ImpS P (hp b c) (ev σ) o.op (hp b c) r))
theorem YS2.congr [GTab] {hp : Bool → Bool → AH} : YC ops (YS2 P hp) := by
  intro σ σ' o r hh hl hy
  have hx : ∀ x ∈ o.op.operands, ev σ x = ev σ' x := fun x hx => by
    cases x with
    | tmp t => exact hl t (List.mem_append_left _ (List.mem_filterMap.2 ⟨.tmp t, by simpa using hx, rfl⟩))
    | const v => rfl
    | global g => simp only [ev, hh]
    | func f => rfl
  obtain ⟨h0, hy⟩ := hy
  refine ⟨h0, ?_⟩
  rcases hy with ⟨h1, h2, h3⟩ | ⟨h1, h2, h3⟩ | ⟨h1, h2, h3⟩
  · exact .inl ⟨h1, h2, fun c => (h3 c).congr hx⟩
  · exact .inr (.inl ⟨h1, h2, fun b => (h3 b).congr hx⟩)
  · exact .inr (.inr ⟨h1, h2, fun b c => (h3 b c).congr hx⟩)
theorem anyY2_sound [GTab] {Q : Exit → Act → World → Prop} {K : St → Prop} {hp : Bool → Bool → AH} {p q : Nat} {g : List Nat} (hg : ∀ b c, (hp b c).g = g) (hps : p < ops.size) (hqs : q < ops.size) (hpq : p ≠ q) (hun : ∀ i o, ops[i]? = some o → isSto o = true → i = p) (hun2 : ∀ i o, ops[i]? = some o → isApp o = true → i = q)
    (hpo : ∀ o, ops[p]? = some o → isSto o = true) (hqo : ∀ o, ops[q]? = some o → isApp o = true)
    (hQ : ∀ E σ a w, SRel E0 n0 w0 nt E ⟨σ.t, hp true true⟩ a w → K σ → Q .normal a w) : ∀ (fuel : Nat) (listed : Array Bool) (E : Env) (σ : St) (a : Act) (w : World), σ.h.g = g → listed.size = ops.size → SRel E0 n0 w0 nt E ⟨σ.t, hp (listed.getD p false) (listed.getD q false)⟩ a w →
    anyY nt md ops (YS2 P hp) (fun l σ => AllTo ops.size l ∧ K σ) fuel listed σ → wpAny P md ops Q fuel listed a w := by
  have fin : ∀ (listed : Array Bool) (E : Env) (σ : St) (a : Act) (w : World), SRel E0 n0 w0 nt E ⟨σ.t, hp (listed.getD p false) (listed.getD q false)⟩ a w → (AllTo ops.size listed ∧ K σ) → Q .normal a w := fun listed E σ a w hs hk => by
    rw [hk.1 p hps, hk.1 q hqs] at hs
    exact hQ E σ a w hs hk.2
  intro fuel
  induction fuel with
  | zero => exact fun listed E σ a w hσ hsz hs hh => ⟨hh.1, fin _ _ _ _ _ hs hh.2⟩
  | succ fuel ih =>
    intro listed E σ a w hσ hsz hs hh
    refine ⟨fun e => fin _ _ _ _ _ hs (hh.1 e), fun i hi => ?_⟩
    have h1 := hh.2 i hi
    unfold yOp at h1
    have hsz' : (listed.setIfInBounds i true).size = ops.size := by simp [hsz]
    cases ho : ops[i]? with
    | none =>
      rw [ho] at h1
      unfold wpOp
      rw [ho]
      have hge : ops.size ≤ i := by simpa using ho
      exact ih _ E σ a w hσ hsz' (by rw [getD_set_ne false (by omega : i ≠ p), getD_set_ne false (by omega : i ≠ q)]; exact hs) h1
    | some o =>
      rw [ho] at h1
      obtain ⟨hdst, r, ⟨hgd, hy⟩, hk⟩ := h1
      have hev : ev σ = ev (⟨σ.t, hp (listed.getD p false) (listed.getD q false)⟩ : St) := ev_eq rfl (by rw [hσ, hg])
      have hli : listed.getD i false = false := getD_both (mem_ready.1 hi).1
      have his : i < ops.size := (Array.getElem?_eq_some_iff.1 ho).1
      have hset : (listed.setIfInBounds i true).getD i false = true := by simp [hsz, his]
      have step : ∀ (h' : AH), ImpS P (hp (listed.getD p false) (listed.getD q false)) (ev σ) o.op h' r → h' = hp ((listed.setIfInBounds i true).getD p false) ((listed.setIfInBounds i true).getD q false) → wpOp P ops Q i (wpAny P md ops Q fuel (listed.setIfInBounds i true)) a w := fun h' hi2 he => by
        rw [hev] at hi2
        unfold wpOp
        rw [ho]
        dsimp only
        rw [(Gd.none (nt := nt) (ops := ops) (σ := ⟨σ.t, hp (listed.getD p false) (listed.getD q false)⟩) hgd).wanted hs, if_pos rfl]
        refine .inl (ImpS.next hs hdst hi2 fun E' a' w' h2 => ?_)
        refine ih _ E' (σ.put o.dst r) a' w' (by rw [St.put_h]; exact hσ) hsz' ?_ hk
        rw [← he]
        cases hd2 : o.dst with
        | none => rw [hd2] at h2; exact h2
        | some d => rw [hd2] at h2; exact h2
      rcases hy with ⟨g1, g2, g3⟩ | ⟨g1, g2, g3⟩ | ⟨g1, g2, g3⟩
      · have hip := hun i o ho g1
        subst hip
        refine step _ ?_ rfl
        rw [hset, hli, getD_set_ne false hpq]
        exact g3 _
      · have hiq := hun2 i o ho g1
        subst hiq
        refine step _ ?_ rfl
        rw [hset, hli, getD_set_ne false (Ne.symm hpq)]
        exact g3 _
      · have hip : i ≠ p := fun e => by subst e; rw [hpo o ho] at g1; cases g1
        have hiq : i ≠ q := fun e => by subst e; rw [hqo o ho] at g2; cases g2
        refine step _ ?_ rfl
        rw [getD_set_ne false hip, getD_set_ne false hiq]
        exact g3 _ _
end

section
variable {P : Program} {R : Type}
theorem fz_up {h hd : AH} (hu : ∀ j x, hd.o j = some x → h.o j = some x) {x : AV} (hp : isP (fz hd x) = true) : fz h x = fz hd x := by
  cases x with
  | rw id =>
    simp only [fz] at hp ⊢
    split at hp
    · rename_i τ l ho
      rw [hu id _ ho]
    · simp [isP] at hp
  | _ => rfl
theorem litK_up {h hd : AH} (hu : ∀ j x, hd.o j = some x → h.o j = some x) {t : TypeId} {len : Nat} {parts : List (Nat × AV)} {K : AV → Option R} {r : R} (hk : litK P hd t len parts K = some r) : litK P h t len parts K = some r := by
  unfold litK at hk ⊢
  split at hk
  case h_2 => cases hk
  rename_i q hq
  split at hk
  case isFalse => cases hk
  rename_i hc
  have hall : ∀ x ∈ parts, x.2.cells.map (fz h) = x.2.cells.map (fz hd) := fun x hx => by
    rw [Bool.and_eq_true, List.all_eq_true] at hc
    have h1 := hc.2 x hx
    rw [Bool.and_eq_true, List.all_eq_true] at h1
    refine List.map_congr_left fun c hcm => fz_up hu (h1.2 _ (List.mem_map.2 ⟨c, hcm, rfl⟩))
  have e1 : (parts.map fun x => x.2.cells.map (fz h)) = parts.map fun x => x.2.cells.map (fz hd) := List.map_congr_left hall
  have e2 : (parts.all fun x => known x.2 && Nat.beq x.2.cells.length q.2.1 && (x.2.cells.map (fz h)).all isP) = (parts.all fun x => known x.2 && Nat.beq x.2.cells.length q.2.1 && (x.2.cells.map (fz hd)).all isP) := by
    rw [Bool.eq_iff_iff, List.all_eq_true, List.all_eq_true]
    exact ⟨fun h x hx => by rw [← hall x hx]; exact h x hx, fun h x hx => by rw [hall x hx]; exact h x hx⟩
  rw [e1, e2, if_pos hc]
  exact hk
/-- Operations that turn no object. -/
def nlK [GTab] (P : Program) (nt : Nat) (hd : AH) : List Oper → St → (St → Option R) → Option R
  | [], σ, K => K σ
  | o :: l, σ, K =>
    match okDst nt o.dst, o.guard, isSto o, isApp o with
    | true, none, false, false =>
      match o.op with
      | .buildSlice t len parts => litK P hd t len (parts.toList.map fun x => (x.1, ev σ x.2)) fun y => putV o.dst y σ fun σ => nlK P nt hd l σ K
      | op => pureK P hd (ev σ) op fun y => putV o.dst y σ fun σ => nlK P nt hd l σ K
    | _, _, _, _ => none
theorem litK_bind {h : AH} {t : TypeId} {len : Nat} {parts : List (Nat × AV)} {K : AV → Option R} : litK P h t len parts K = (litK P h t len parts some).bind K := by
  unfold litK
  split
  · split <;> rfl
  · rfl
/-- Heaps over which what turns nothing is the same. -/
structure Lies [GTab] (hd hr : AH) : Prop where
  up : ∀ j x, hd.o j = some x → hr.o j = some x
  rel : ∀ E w, HRel E hr w → hr.ok → HRel E ⟨hd.o, hr.n, hd.g⟩ w ∧ (⟨hd.o, hr.n, hd.g⟩ : AH).ok
theorem nlK_ok [GTab] {nt : Nat} {hd : AH} : ∀ {l : List Oper} {σ : St} {K : St → Option R} {r : R}, nlK P nt hd l σ K = some r →
    (∀ o ∈ l, isSto o = false ∧ isApp o = false) ∧ ∃ τ, (∀ hp : Bool → Bool → AH, (∀ b c, Lies hd (hp b c)) → YTr nt (YS2 P hp) l σ τ) ∧ τ.h = σ.h ∧ K τ = some r
  | [], σ, K, r, hk => ⟨fun o ho => (by cases ho), σ, fun _ _ => YTr.nil _, rfl, hk⟩
  | o :: l, σ, K, r, hk => by
    unfold nlK at hk
    simp only [putV_eq] at hk
    split at hk
    · rename_i h1 h2 h3 h4
      have fin : ∀ y, (∀ hp : Bool → Bool → AH, (∀ b c, Lies hd (hp b c)) → ∀ b c, ImpS P (hp b c) (ev σ) o.op (hp b c) y) → nlK P nt hd l (σ.put o.dst y) K = some r →
          (∀ o' ∈ o :: l, isSto o' = false ∧ isApp o' = false) ∧ ∃ τ, (∀ hp : Bool → Bool → AH, (∀ b c, Lies hd (hp b c)) → YTr nt (YS2 P hp) (o :: l) σ τ) ∧ τ.h = σ.h ∧ K τ = some r := fun y hy hk => by
        obtain ⟨k1, τ, k2, k3, k4⟩ := nlK_ok hk
        refine ⟨fun o' ho' => ?_, τ, fun hp hl => YTr.cons h1 ⟨h2, .inr (.inr ⟨h3, h4, hy hp hl⟩)⟩ (k2 hp hl), by rw [k3, St.put_h], k4⟩
        rcases List.mem_cons.1 ho' with rfl | ho'
        · exact ⟨h3, h4⟩
        · exact k1 o' ho'
      split at hk
      · rename_i t len parts hop
        rw [litK_bind] at hk
        obtain ⟨y, hy, hk⟩ := Option.bind_eq_some_iff.1 hk
        refine fin y (fun hp hl b c => ?_) hk
        obtain ⟨z, h5, h6⟩ := litK_ok (litK_up (hl b c).up hy)
        cases h6
        rw [hop]
        exact h5
      · obtain ⟨y, hy, hk⟩ := pureK_ok hk
        exact fin y (fun hp hl b c => hy.impAt (hl b c).rel) hk
    · cases hk
end

/-! ### The two that turn something -/
section
variable {P : Program} {R : Type} {h : AH}
theorem stoK_same [GTab] {h2 : AH} {t : TypeId} {id off : Nat} {x : AV} {l' : List AV} (hk : stoK P h t (.bp id off) x (fun h' y => some (h', y)) = some (h.set id (some (.box l')), .p undef)) (ho : h2.o id = h.o id) : stoK P h2 t (.bp id off) x (fun h' y => some (h', y)) = some (h2.set id (some (.box l')), .p undef) := by
  unfold stoK at hk ⊢
  cases hq : tk P t with
  | none => rw [hq] at hk; cases hk
  | some q =>
    rw [hq] at hk
    dsimp only at hk ⊢
    by_cases hc : (known x && Nat.beq x.cells.length q.2) = true
    · rw [if_pos hc] at hk ⊢
      rw [ho]
      cases hb : h.o id with
      | none => rw [hb] at hk; cases hk
      | some ao =>
        rw [hb] at hk
        cases ao with
        | box l =>
          dsimp only at hk ⊢
          by_cases hf : (Nat.ble (off + q.2) l.length) = true
          · rw [if_pos hf] at hk ⊢
            simp only [Option.some.injEq, Prod.mk.injEq, and_true] at hk ⊢
            have := congrArg (fun g : AH => g.o id) hk
            simp only [AH.set, upd_same, Option.some.injEq, AO.box.injEq] at this
            rw [this]
          · rw [if_neg hf] at hk; cases hk
        | _ => cases hk
    · rw [if_neg hc] at hk; cases hk
/-- What is appended does not hang on the heap. -/
def plainS : AV → Bool
  | .sl _ _ _ => true
  | .tl _ _ _ => true
  | _ => false
def arrOf : AV → Option Nat
  | .mw id => some id
  | .ms id _ _ => some id
  | _ => none
theorem asSl_plain {h2 : AH} {τ : Ty} {x : AV} {dec : List AV → Option (El τ)} (hx : plainS x = true) : asSl h2 τ dec x = asSl h τ dec x := by
  cases x <;> first | rfl | cases hx
theorem appF_plain {C : Cfg} {h : AH} {t : TypeId} {s x : AV} {K : AH → AV → Option R} (hx : plainS x = true) : appF C h t s x K = appK C h t s x K := by
  cases x <;> first | rfl | cases hx
theorem appK_form [GTab] {C : Cfg} {t : TypeId} {s x : AV} {id : Nat} {K : AH → AV → Option R} {r : R} (hs : arrOf s = some id) (hx : plainS x = true) (hk : appK C h t s x K = some r) :
    ∃ X, K ((h.set id none).new X) (.mw h.n) = some r ∧ ∀ h2 : AH, h2.n = h.n → h2.o id = h.o id → appK C h2 t s x (fun h' y => some (h', y)) = some ((h2.set id none).new X, .mw h2.n) := by
  cases s with
  | mw id' =>
    cases hs
    simp only [appK] at hk
    split at hk
    case h_2 => cases hk
    rename_i τ l ho
    split at hk
    case isFalse => cases hk
    rename_i htz
    split at hk
    case h_2 => cases hk
    rename_i xs hxs
    obtain ⟨hle, hk⟩ := cond_inv hk
    refine ⟨_, hk, fun h2 hn ho2 => ?_⟩
    simp only [appK, ho2, ho]
    rw [if_pos htz, asSl_plain (h := h) hx, hxs]
    dsimp only
    rw [hle]
    rfl
  | ms id' off len =>
    cases hs
    simp only [appK] at hk
    split at hk
    case h_2 => cases hk
    rename_i τ l ho
    split at hk
    case isFalse => cases hk
    rename_i htz
    split at hk
    case h_2 => cases hk
    rename_i xs hxs
    obtain ⟨hle, hk⟩ := cond_inv hk
    refine ⟨_, hk, fun h2 hn ho2 => ?_⟩
    simp only [appK, ho2, ho]
    rw [if_pos htz, asSl_plain (h := h) hx, hxs]
    dsimp only
    rw [hle]
    rfl
  | _ => cases hs
end

/-- Where an operand comes from, within a list of operations. -/
def rootT (l : List Oper) : Nat → Operand → Operand
  | 0, x => x
  | n + 1, .tmp d =>
    match l.find? fun o => match o.dst with
      | some d' => Nat.beq d d'
      | none => false with
    | some o => (match o.op with
      | .move x => rootT l n x
      | .assign x => rootT l n x
      | _ => .tmp d)
    | none => .tmp d
  | _, x => x
def splitA : List Oper → Option (List Oper × Oper × List Oper)
  | [] => none
  | o :: l =>
    match isApp o with
    | true => some ([], o, l)
    | false => (match splitA l with
      | some q => some (o :: q.1, q.2.1, q.2.2)
      | none => none)
theorem splitA_ok : ∀ {l : List Oper} {q : List Oper × Oper × List Oper}, splitA l = some q → l = q.1 ++ q.2.1 :: q.2.2 ∧ isApp q.2.1 = true
  | [], _, h => by cases h
  | o :: l, q, h => by
    unfold splitA at h
    split at h
    · rename_i ho; cases h; exact ⟨rfl, ho⟩
    · split at h
      · rename_i q' hq'
        cases h
        obtain ⟨h1, h2⟩ := splitA_ok hq'
        exact ⟨by simp [h1], h2⟩
      · cases h
def appArgs (o : Op) : Option (TypeId × Operand × Operand) :=
  match o with
  | .call c => (match c.args.toList, c.argTypes.toList with
    | [s, x], [t, t'] => if Nat.beq t t' then some (t, s, x) else none
    | _, _ => none)
  | _ => none
/-- A region that draws: an append to an array, a store of a variable behind it, and what turns nothing. -/
def wrRK [GTab] {R : Type} (C : Cfg) (nt : Nat) (ops : Array Oper) (σ : St) (K : St → Option R) : Option R :=
  match splitA ops.toList with
  | some (pre, ap, rest) =>
    match splitS rest, appArgs ap.op, okDst nt ap.dst, ap.guard with
    | some (mid, st, suf), some (t, s, x), true, none =>
      match st.op, st.dst, st.guard with
      | .store u a z, none, none =>
        match ev σ (rootT pre 4 s), ev σ a with
        | s0, .bp bid _ =>
          match arrOf s0 with
          | some id =>
            if Nat.beq bid id || !Nat.blt bid σ.h.n then none else
            let hd : AH := ⟨upd (upd (upd σ.h.o bid none) id none) σ.h.n none, σ.h.n, σ.h.g⟩
            nlK C.P nt hd pre ⟨σ.t, hd⟩ fun σ1 =>
              match arrOf (ev σ1 s) with
              | some id' =>
                if Nat.beq id' id && plainS (ev σ1 x) then
                  appK C σ.h t (ev σ1 s) (ev σ1 x) fun h01 y => putV ap.dst y σ1 fun σ2 => nlK C.P nt hd mid σ2 fun σ3 =>
                    match ev σ3 a with
                    | .bp bid' off =>
                      if Nat.beq bid' bid then
                        stoK C.P h01 u (.bp bid' off) (ev σ3 z) fun h11 _ => nlK C.P nt hd suf σ3 fun σ4 => K ⟨σ4.t, h11⟩
                      else none
                    | _ => none
                else none
              | none => none
          | none => none
        | _, _ => none
      | _, _, _ => none
    | _, _, _, _ => none
  | none => none

theorem AH.ext' {h h' : AH} (ho : ∀ j, h.o j = h'.o j) (hn : h.n = h'.n) (hg : h.g = h'.g) : h = h' := by
  cases h; cases h'
  simp only at ho hn hg
  subst hn; subst hg
  congr 1
  funext j
  exact ho j
theorem wrRK_ok [GTab] {R : Type} {C : Cfg} {nt : Nat} {ops : Array Oper} {σ : St} {K : St → Option R} {r : R} (hm : C.P.follows .mixedOrders = true) (hB : Region.lexB .any ops = true) (hk : wrRK C nt ops σ K = some r) :
    ∃ τ, K τ = some r ∧ ∀ (E0 : Env) (n0 : NB) (w0 : World) (E : Env) (a : Act) (w : World) (id : Nat) (Q : Exit → Act → World → Prop), SRel E0 n0 w0 nt E σ a w → (∀ E' a' w', SRel E0 n0 w0 nt E' τ a' w' → Q .normal a' w') → (Code.region id ops true).wp C.P Q a w := by
  unfold wrRK at hk
  split at hk
  case h_2 => cases hk
  rename_i pre ap rest hqa
  obtain ⟨hl1, hap⟩ := splitA_ok hqa
  simp only at hl1 hap
  split at hk
  case h_2 => cases hk
  rename_i mid st suf t s x hqs haa hdst hgd
  obtain ⟨hl2, hst⟩ := splitS_ok hqs
  simp only at hl2 hst
  split at hk
  case h_2 => cases hk
  rename_i u ao zo hop hsd hsg
  split at hk
  case h_2 => cases hk
  rename_i s0 bid boff ha0
  split at hk
  case h_2 => cases hk
  rename_i id hid0
  split at hk
  case isTrue => cases hk
  rename_i hne
  have hne1 : bid ≠ id := fun e => by subst e; simp at hne
  have hbn : bid < σ.h.n := by
    rcases Nat.lt_or_ge bid σ.h.n with h | h
    · exact h
    · exfalso; apply hne; have : Nat.blt bid σ.h.n = false := by rw [Bool.eq_false_iff]; intro hb; simp [Nat.blt] at hb; omega
      simp [this]
  generalize hhd : (⟨upd (upd (upd σ.h.o bid none) id none) σ.h.n none, σ.h.n, σ.h.g⟩ : AH) = hd at hk
  -- the operands of the append
  have hapo : ∃ c, ap.op = .call c ∧ c.callee = .builtin .append ∧ c.args.toList = [s, x] ∧ c.argTypes.toList = [t, t] := by
    unfold isApp at hap
    split at hap
    case h_2 => cases hap
    rename_i c hc
    split at hap
    case h_2 => cases hap
    rename_i hcal
    unfold appArgs at haa
    rw [hc] at haa
    dsimp only at haa
    split at haa
    case h_2 => cases haa
    rename_i h1 h2
    split at haa
    case isFalse => cases haa
    rename_i ht
    have ht := Nat.eq_of_beq_eq_true ht
    subst ht
    cases haa
    exact ⟨c, hc, hcal, h1, h2⟩
  obtain ⟨c, hc, hcal, hargs, htys⟩ := hapo
  have apst : ∀ {h : AH} {e : Operand → AV} {K' : AH → AV → Option (AH × AV)}, plainS (e x) = true → stepK C (fun _ _ _ _ _ => none) h e ap.op K' = appK C h t (e s) (e x) K' := fun {h e K'} hpl => by
    rw [hc]
    simp only [stepK, hcal, hargs, htys]
    rw [if_pos (Nat.beq_refl t)]
    exact appF_plain hpl
  have hnone : CallOk C.P (fun _ _ _ _ _ => none) := fun R f h args K r hk => by cases hk
  suffices main : ∃ τ hp, hp false false = σ.h ∧ K ⟨τ.t, hp true true⟩ = some r ∧ (∀ b c, (hp b c).g = σ.h.g) ∧ YTr nt (YS2 C.P hp) ops.toList ⟨σ.t, hd⟩ τ ∧ (∀ o ∈ pre, isSto o = false ∧ isApp o = false) ∧ (∀ o ∈ mid, isSto o = false ∧ isApp o = false) ∧ (∀ o ∈ suf, isSto o = false ∧ isApp o = false) ∧ isSto ap = false ∧ isApp st = false by
    obtain ⟨τ, hp, m0, m1, m2, ytr, q1, q2, q3, q4, q5⟩ := main
    refine ⟨_, m1, fun E0 n0 w0 E a w rid Q hs hQ => ?_⟩
    have hl : ops.toList = pre ++ ap :: (mid ++ st :: suf) := by rw [hl1, hl2]
    simp only [Region.lexB, Bool.and_eq_true] at hB
    have hany := YTr.lex (nt := nt) (ops := ops) (md := .any) YS2.congr ops.toList 0 (Array.replicate ops.size false) _ (by simp) (by simp) (by simp) (fun j hj => absurd hj (Nat.not_lt_zero _)) (by simpa using hB.2) ytr
    have hsz : ops.size = pre.length + 1 + (mid.length + 1 + suf.length) := by
      have := congrArg List.length hl
      simp at this
      omega
    have get : ∀ i, ops[i]? = (pre ++ ap :: (mid ++ st :: suf))[i]? := fun i => by rw [← hl, Array.getElem?_toList]
    have hq : ops[pre.length]? = some ap := by rw [get]; simp
    have hp' : ops[pre.length + 1 + mid.length]? = some st := by
      rw [get, List.getElem?_append_right (by omega), show pre.length + 1 + mid.length - pre.length = mid.length + 1 by omega]
      simp
    have who : ∀ i o, ops[i]? = some o → (isSto o = true → i = pre.length + 1 + mid.length) ∧ (isApp o = true → i = pre.length) := fun i o ho => by
      rw [get] at ho
      rcases Nat.lt_trichotomy i pre.length with hi | hi | hi
      · rw [List.getElem?_append_left hi] at ho
        obtain ⟨h1, h2⟩ := q1 o (List.mem_of_getElem? ho)
        exact ⟨fun h => (by rw [h1] at h; cases h), fun h => (by rw [h2] at h; cases h)⟩
      · subst hi
        rw [List.getElem?_append_right (Nat.le_refl _), Nat.sub_self] at ho
        cases ho
        exact ⟨fun h => (by rw [q4] at h; cases h), fun _ => rfl⟩
      · rw [List.getElem?_append_right (by omega)] at ho
        obtain ⟨k, hk⟩ : ∃ k, i - pre.length = k + 1 := ⟨i - pre.length - 1, by omega⟩
        rw [hk, List.getElem?_cons_succ] at ho
        rcases Nat.lt_trichotomy k mid.length with hi2 | hi2 | hi2
        · rw [List.getElem?_append_left hi2] at ho
          obtain ⟨h1, h2⟩ := q2 o (List.mem_of_getElem? ho)
          exact ⟨fun h => (by rw [h1] at h; cases h), fun h => (by rw [h2] at h; cases h)⟩
        · subst hi2
          rw [List.getElem?_append_right (Nat.le_refl _), Nat.sub_self] at ho
          cases ho
          exact ⟨fun _ => by omega, fun h => (by rw [q5] at h; cases h)⟩
        · rw [List.getElem?_append_right (by omega)] at ho
          obtain ⟨k', hk'⟩ : ∃ k', k - mid.length = k' + 1 := ⟨k - mid.length - 1, by omega⟩
          rw [hk', List.getElem?_cons_succ] at ho
          obtain ⟨h1, h2⟩ := q3 o (List.mem_of_getElem? ho)
          exact ⟨fun h => (by rw [h1] at h; cases h), fun h => (by rw [h2] at h; cases h)⟩
    refine wp_region_any hm (anyY2_sound (E0 := E0) (n0 := n0) (w0 := w0) (hp := hp) (p := pre.length + 1 + mid.length) (q := pre.length) (g := σ.h.g) (K := fun σ' => Sim τ σ') m2 (by omega) (by omega) (by omega) (fun i o ho h => (who i o ho).1 h) (fun i o ho h => (who i o ho).2 h)
      (fun o ho => by rw [hp'] at ho; cases ho; exact hst) (fun o ho => by rw [hq] at ho; cases ho; exact hap)
      (fun E' σ' a' w' h' hsim => hQ E' a' w' (h'.sim ⟨fun i => (hsim.1 i).symm, rfl⟩)) _ _ E ⟨σ.t, hd⟩ a _ (by rw [← hhd]) (by simp) ?_ (by simpa using hany))
    rw [getD_replicate_false, getD_replicate_false, m0]
    exact hs.drew
  -- what the two do
  obtain ⟨q1, σ1, y1, g1, hk1⟩ := nlK_ok hk
  clear hk
  split at hk1
  case h_2 => cases hk1
  rename_i id' hid1
  split at hk1
  case isFalse => cases hk1
  rename_i hcc
  rw [Bool.and_eq_true] at hcc
  have hidd := Nat.eq_of_beq_eq_true hcc.1
  subst hidd
  obtain ⟨X, hk2, happ⟩ := appK_form hid1 hcc.2 hk1
  clear hk1
  simp only [putV_eq] at hk2
  obtain ⟨q2, σ3, y2, g2, hk3⟩ := nlK_ok hk2
  clear hk2
  split at hk3
  case h_2 => cases hk3
  rename_i bid' off ha
  split at hk3
  case isFalse => cases hk3
  rename_i hbb
  have hbb := Nat.eq_of_beq_eq_true hbb
  subst hbb
  obtain ⟨l', hk4, hf⟩ := stoK_form hk3
  clear hk3
  obtain ⟨q3, σ4, y3, g3, hk⟩ := nlK_ok hk4
  clear hk4
  have q4 : isSto ap = false := by unfold isSto; rw [hc]
  have q5 : isApp st = false := by unfold isApp; rw [hop]
  have gev : ∀ (ρ : St) (h' : AH), ρ.h.g = h'.g → ev ρ = ev (⟨ρ.t, h'⟩ : St) := fun ρ h' e => ev_eq rfl e
  let base : Bool → AH := fun b => match b with
    | true => σ.h.set bid' (some (.box l'))
    | false => σ.h
  let hp : Bool → Bool → AH := fun b c => match c with
    | true => ((base b).set id' none).new X
    | false => base b
  have hbn' : ∀ b, (base b).n = σ.h.n := fun b => by cases b <;> rfl
  have hbg : ∀ b, (base b).g = σ.h.g := fun b => by cases b <;> rfl
  have hbid : ∀ b, (base b).o id' = σ.h.o id' := fun b => by
    cases b
    · rfl
    · exact upd_other _ _ (Ne.symm hne1)
  have hpg : ∀ b c, (hp b c).g = σ.h.g := fun b c => by cases b <;> cases c <;> rfl
  have hlies : ∀ b c, Lies hd (hp b c) := fun b c => by
    have hO : ∀ j, hd.o j = if j = σ.h.n then none else if j = id' then none else if j = bid' then none else σ.h.o j := fun j => by
      rw [← hhd]
      simp only [upd]
    have hR : ∀ j, j ≠ σ.h.n → j ≠ id' → j ≠ bid' → (hp b c).o j = σ.h.o j := fun j h1 h2 h3 => by
      have hb : (base b).o j = σ.h.o j := by
        cases b
        · rfl
        · exact upd_other _ _ h3
      cases c with
      | false => exact hb
      | true =>
        show upd (upd (base b).o id' none) (base b).n (some X) j = _
        rw [upd_other _ _ (by rw [hbn']; exact h1), upd_other _ _ h2]
        exact hb
    refine ⟨fun j x hx => ?_, fun E w hh hok => ?_⟩
    · rw [hO] at hx
      split at hx
      · cases hx
      split at hx
      · cases hx
      split at hx
      · cases hx
      rename_i h1 h2 h3
      rw [hR j h1 h2 h3]
      exact hx
    · obtain ⟨k1, k2⟩ := hh.kill hok bid'
      obtain ⟨k3, k4⟩ := k1.kill k2 id'
      obtain ⟨k5, k6⟩ := k3.kill k4 σ.h.n
      have e : (⟨hd.o, (hp b c).n, hd.g⟩ : AH) = (((hp b c).set bid' none).set id' none).set σ.h.n none := by
        refine AH.ext' (fun j => ?_) rfl (by rw [← hhd]; exact (hpg b c).symm)
        show hd.o j = upd (upd (upd (hp b c).o bid' none) id' none) σ.h.n none j
        rw [hO]
        simp only [upd]
        split
        · rfl
        split
        · rfl
        split
        · rfl
        rename_i h1 h2 h3
        exact (hR j h1 h2 h3).symm
      rw [e]
      exact ⟨k5, k6⟩
  have hge1 : ev σ1 = ev (⟨σ1.t, σ.h⟩ : St) := gev σ1 σ.h (by rw [g1, ← hhd])
  -- the append, in both heaps
  have iap : ∀ b, ImpS C.P (hp b false) (ev σ1) ap.op (hp b true) (.mw σ.h.n) := fun b => by
    have h1 := happ (base b) (hbn' b) (hbid b)
    rw [← apst (h := base b) (e := ev σ1) hcc.2] at h1
    obtain ⟨h', y, k1, k2⟩ := stepK_ok hnone h1
    cases k2
    rw [hbn'] at k1
    exact k1
  -- the store, in both heaps
  have ist : ∀ c, ImpS C.P (hp false c) (ev σ3) st.op (hp true c) (.p undef) := fun c => by
    have e1 : (σ.h.set id' none).new X = hp false true := rfl
    rw [e1] at hf
    have h1 : stoK C.P (hp false c) u (ev σ3 ao) (ev σ3 zo) (fun h' y => some (h', y)) = some ((hp false c).set bid' (some (.box l')), .p undef) := by
      rw [ha]
      refine stoK_same hf ?_
      cases c with
      | true => rfl
      | false =>
        show σ.h.o bid' = upd (upd σ.h.o id' none) σ.h.n (some X) bid'
        rw [upd_other _ _ (by omega), upd_other _ _ hne1]
    obtain ⟨h', y, k1, k2⟩ := stoK_ok h1
    cases k2
    have e2 : (hp false c).set bid' (some (.box l')) = hp true c := by
      cases c with
      | false => rfl
      | true =>
        refine AH.ext' (fun j => ?_) rfl rfl
        show upd (upd (upd σ.h.o id' none) σ.h.n (some X)) bid' (some (.box l')) j = upd (upd (upd σ.h.o bid' (some (.box l'))) id' none) σ.h.n (some X) j
        simp only [upd]
        by_cases j1 : j = bid'
        · subst j1
          rw [if_pos rfl, if_neg (by omega), if_neg hne1, if_pos rfl]
        · rw [if_neg j1, if_neg j1]
    rw [e2] at k1
    rw [hop]
    exact k1
  refine ⟨σ4, hp, rfl, ?_, hpg, ?_, q1, q2, q3, q4, q5⟩
  · have e3 : ((σ.h.set id' none).new X).set bid' (some (.box l')) = hp true true := by
      refine AH.ext' (fun j => ?_) rfl rfl
      show upd (upd (upd σ.h.o id' none) σ.h.n (some X)) bid' (some (.box l')) j = upd (upd (upd σ.h.o bid' (some (.box l'))) id' none) σ.h.n (some X) j
      simp only [upd]
      by_cases j1 : j = bid'
      · subst j1
        rw [if_pos rfl, if_neg (by omega), if_neg hne1, if_pos rfl]
      · rw [if_neg j1, if_neg j1]
    rw [← e3]
    exact hk
  · rw [hl1, hl2]
    refine (y1 hp hlies).append (.cons hdst ⟨hgd, .inr (.inl ⟨hap, q4, iap⟩)⟩ ((y2 hp hlies).append (.cons (by rw [hsd]; rfl) ⟨hsg, .inl ⟨hst, q5, ist⟩⟩ ?_)))
    rw [hsd]
    exact y3 hp hlies
end Go.Up
