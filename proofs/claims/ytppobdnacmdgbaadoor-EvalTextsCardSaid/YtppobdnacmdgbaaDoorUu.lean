/- Up, part u: reading a state's shape is right. -/
import Derived.Test.YtppobdnacmdgbaaDoorUt
set_option linter.unusedVariables false
set_option linter.unusedSimpArgs false
namespace Go.Up
open Go.RowKit

def Env.via (E : Env) (ρ : List Nat) : Env := { S := E.S, obj := fun j => E.obj ((nthN ρ j).getD 0) }
def Sub (ρ ρ' : List Nat) : Prop := ∀ j id, nthN ρ j = some id → nthN ρ' j = some id
def Inj (ρ : List Nat) : Prop := ∀ i j id, nthN ρ i = some id → nthN ρ j = some id → i = j
def Low (n : Nat) (ρ : List Nat) : Prop := ∀ i id, nthN ρ i = some id → id < n
theorem nthN_lt [GTab] : ∀ {ρ : List Nat} {j id : Nat}, nthN ρ j = some id → j < ρ.length
  | [], _, _, h => by cases h
  | _ :: _, 0, _, _ => by simp
  | _ :: l, j + 1, id, h => by have := nthN_lt (ρ := l) h; simp; omega
theorem nthN_of_lt [GTab] : ∀ {ρ : List Nat} {j : Nat}, j < ρ.length → ∃ id, nthN ρ j = some id
  | [], _, h => by simp at h
  | x :: _, 0, _ => ⟨x, rfl⟩
  | _ :: l, j + 1, h => nthN_of_lt (ρ := l) (by simpa using h)
theorem nthN_old [GTab] : ∀ {ρ : List Nat} {x j id : Nat}, nthN ρ j = some id → nthN (ρ ++ [x]) j = some id
  | [], _, _, _, h => by cases h
  | _ :: _, _, 0, _, h => h
  | _ :: l, x, j + 1, id, h => nthN_old (ρ := l) h
theorem nthN_new [GTab] : ∀ {ρ : List Nat} {x : Nat}, nthN (ρ ++ [x]) ρ.length = some x
  | [], _ => rfl
  | _ :: l, x => nthN_new (ρ := l)
theorem nthN_inv [GTab] : ∀ {ρ : List Nat} {x j id : Nat}, nthN (ρ ++ [x]) j = some id → nthN ρ j = some id ∨ (j = ρ.length ∧ id = x)
  | [], x, 0, id, h => by cases h; exact .inr ⟨rfl, rfl⟩
  | [], x, j + 1, id, h => by cases h
  | _ :: _, _, 0, _, h => .inl h
  | _ :: l, x, j + 1, id, h => by
    rcases nthN_inv (ρ := l) h with h | ⟨h1, h2⟩
    · exact .inl h
    · exact .inr ⟨by simp [h1], h2⟩
theorem memT_of [GTab] : ∀ {ρ : List Nat} {j id : Nat}, nthN ρ j = some id → memT ρ id = true
  | [], _, _, h => by cases h
  | x :: _, 0, _, h => by cases h; simp [memT]
  | _ :: l, j + 1, id, h => by simp only [memT, memT_of (ρ := l) h, Bool.or_true]

structure Lk (n : Nat) (ρ ρ' : List Nat) : Prop where
  sub : Sub ρ ρ'
  inj : Inj ρ → Inj ρ'
  low : Low n ρ → Low n ρ'
theorem Lk.refl (n : Nat) (ρ : List Nat) : Lk n ρ ρ := ⟨fun _ _ h => h, fun h => h, fun h => h⟩
theorem Lk.trans {n : Nat} {ρ ρ' ρ'' : List Nat} (h : Lk n ρ ρ') (k : Lk n ρ' ρ'') : Lk n ρ ρ'' := ⟨fun j id hj => k.sub j id (h.sub j id hj), fun hi => k.inj (h.inj hi), fun hl => k.low (h.low hl)⟩

theorem link_ok [GTab] {n : Nat} {ρ ρ' : List Nat} {j id : Nat} (h : link ρ j id = some ρ') (hid : id < n) : Lk n ρ ρ' ∧ nthN ρ' j = some id := by
  unfold link at h
  split at h
  · rename_i k hk
    split at h
    · rename_i he
      have := Nat.eq_of_beq_eq_true he
      subst this
      cases h
      exact ⟨.refl _ _, hk⟩
    · cases h
  · split at h
    · rename_i hc
      simp only [Bool.and_eq_true, Bool.not_eq_true'] at hc
      have hj := Nat.eq_of_beq_eq_true hc.1
      subst hj
      cases h
      refine ⟨⟨fun j id' hj => nthN_old hj, fun hi i j k h1 h2 => ?_, fun hl i k h1 => ?_⟩, nthN_new⟩
      · rcases nthN_inv h1 with g1 | ⟨a1, b1⟩ <;> rcases nthN_inv h2 with g2 | ⟨a2, b2⟩
        · exact hi i j k g1 g2
        · subst b2; rw [memT_of g1] at hc; exact absurd hc.2 (by simp)
        · subst b1; rw [memT_of g2] at hc; exact absurd hc.2 (by simp)
        · rw [a1, a2]
      · rcases nthN_inv h1 with h1 | ⟨_, b1⟩
        · exact hl i k h1
        · rw [b1]; exact hid
    · cases h
theorem links_ok [GTab] {n : Nat} : ∀ {js : List Nat} {l : List AV} {ρ ρ' : List Nat}, links js l ρ = some ρ' → (∀ (i : Nat) (x : AV), l[i]? = some x → Lt n x) →
    Lk n ρ ρ' ∧ ∀ ρ'', Sub ρ' ρ'' → (∀ E vs, Rels E l vs → Rels (E.via ρ'') (js.map fun j => .bp j 0) vs) ∧ ∀ j ∈ js, j < ρ''.length
  | [], [], ρ, ρ', h, _ => by
    cases h
    exact ⟨.refl _ _, fun ρ'' _ => ⟨fun E vs hv => by rw [hv.nil_inv]; exact .nil _, fun j hj => by cases hj⟩⟩
  | j :: js, .bp id 0 :: l, ρ, ρ', h, hl => by
    simp only [links] at h
    obtain ⟨ρ1, h1, h2⟩ := Option.bind_eq_some_iff.1 h
    obtain ⟨k1, k2⟩ := link_ok (n := n) h1 (hl 0 _ rfl).bp_inv
    obtain ⟨k3, k4⟩ := links_ok h2 (fun i x hx => hl (i + 1) x hx)
    refine ⟨k1.trans k3, fun ρ'' hs => ?_⟩
    have hj := hs _ _ (k3.sub _ _ k2)
    obtain ⟨k5, k6⟩ := k4 ρ'' hs
    refine ⟨fun E vs hv => ?_, fun q hq => ?_⟩
    · obtain ⟨v, us, rfl, hv1, hv2⟩ := hv.cons_inv
      obtain ⟨b, rfl, hb⟩ := hv1.bp_inv
      exact .cons (.bp (by simp only [Env.via, hj]; exact hb)) (k5 E us hv2)
    · rcases List.mem_cons.1 hq with rfl | hq
      · exact nthN_lt hj
      · exact k6 q hq
  | [], _ :: _, _, _, h, _ => by simp [links] at h
  | _ :: _, [], _, _, h, _ => by simp [links] at h
  | j :: js, x :: l, ρ, ρ', h, hl => by
    unfold links at h
    split at h
    · rename_i heq; cases heq
    · rename_i heq1 heq2
      cases heq1; cases heq2
      obtain ⟨ρ1, h1, h2⟩ := Option.bind_eq_some_iff.1 h
      obtain ⟨k1, k2⟩ := link_ok (n := n) h1 (hl 0 _ rfl).bp_inv
      obtain ⟨k3, k4⟩ := links_ok h2 (fun i x hx => hl (i + 1) x hx)
      refine ⟨k1.trans k3, fun ρ'' hs => ?_⟩
      have hj := hs _ _ (k3.sub _ _ k2)
      obtain ⟨k5, k6⟩ := k4 ρ'' hs
      refine ⟨fun E vs hv => ?_, fun q hq => ?_⟩
      · obtain ⟨v, us, rfl, hv1, hv2⟩ := hv.cons_inv
        obtain ⟨b, rfl, hb⟩ := hv1.bp_inv
        exact .cons (.bp (by simp only [Env.via, hj]; exact hb)) (k5 E us hv2)
      · rcases List.mem_cons.1 hq with rfl | hq
        · exact nthN_lt hj
        · exact k6 q hq
    · cases h
theorem matR_ok [GTab] {n : Nat} {k : Rf} {x : AV} {ρ ρ' : List Nat} (h : matR k x ρ = some ρ') (hl : Lt n x) :
    Lk n ρ ρ' ∧ ∀ ρ'', Sub ρ' ρ'' → (∀ E v, Rel E x v → Rel (E.via ρ'') (encR k) v) ∧ Lt ρ''.length (encR k) := by
  unfold matR at h
  split at h
  · obtain ⟨k1, k2⟩ := link_ok (n := n) h hl.rw_inv
    refine ⟨k1, fun ρ'' hs => ⟨fun E v hv => ?_, .rw (nthN_lt (hs _ _ k2))⟩⟩
    obtain ⟨base, cap, tip, size, rfl, ho⟩ := hv.rw_inv
    exact .rw (size := size) (by simp only [Env.via, hs _ _ k2]; exact ho)
  · obtain ⟨k1, k2⟩ := link_ok (n := n) h hl.mw_inv
    refine ⟨k1, fun ρ'' hs => ⟨fun E v hv => ?_, .mw (nthN_lt (hs _ _ k2))⟩⟩
    obtain ⟨b, cap, size, len, a, c, rfl, ho, h1, h2, h3, h4⟩ := hv.mw_inv
    exact .mw (size := size) (by simp only [Env.via, hs _ _ k2]; exact ho) h1 h2 h3 h4
  · obtain ⟨k1, k2⟩ := link_ok (n := n) h hl.mp_inv
    refine ⟨k1, fun ρ'' hs => ⟨fun E v hv => ?_, .mp (nthN_lt (hs _ _ k2))⟩⟩
    obtain ⟨b, rfl, ho⟩ := hv.mp_inv
    exact .mp (by simp only [Env.via, hs _ _ k2]; exact ho)
  · split at h
    · rename_i he
      have := Nat.eq_of_beq_eq_true he
      subst this
      obtain ⟨k1, k2⟩ := link_ok (n := n) h hl.bp_inv
      refine ⟨k1, fun ρ'' hs => ⟨fun E v hv => ?_, .bp (nthN_lt (hs _ _ k2))⟩⟩
      obtain ⟨b, rfl, ho⟩ := hv.bp_inv
      exact .bp (by simp only [Env.via, hs _ _ k2]; exact ho)
    · cases h
  · split at h
    · rename_i he
      have := Nat.eq_of_beq_eq_true he
      subst this
      cases hl with
      | fn l1 l2 =>
        obtain ⟨k1, k2⟩ := links_ok h l2
        refine ⟨k1, fun ρ'' hs => ?_⟩
        obtain ⟨k3, k4⟩ := k2 ρ'' hs
        refine ⟨fun E v hv => ?_, .fn (fun i x hx => by simp at hx) (fun i x hx => ?_)⟩
        · obtain ⟨vs, us, rfl, r1, r2⟩ := hv.fn_inv
          have r3 := k3 E us r2
          rw [r1.nil_inv]
          exact .fn rfl r3.1 (fun i x v hx => by simp at hx) r3.2
        · rw [List.getElem?_map] at hx
          obtain ⟨j, hj, rfl⟩ := Option.map_eq_some_iff.1 hx
          exact .bp (k4 j (List.mem_of_getElem? hj))
    · cases h
  · cases h

theorem encV_prel [GTab] {E : Env} {τ : Ty} {y : El τ} {v : Value} (h : Rel E (encV τ y) v) : PRel E.S (encV τ y) v := by
  have hp := enc_isP τ y
  unfold encV at h ⊢
  cases hA : isAg τ with
  | true =>
    simp only [hA] at h ⊢
    obtain ⟨vs, rfl, hr⟩ := h.agg_inv
    exact .agg hr.1 fun i x v hx hv => prel_of_isP (hr.2 i x v hx hv) (hp x (List.mem_of_getElem? hx))
  | false =>
    simp only [hA] at h ⊢
    refine prel_of_isP h ?_
    cases he : enc τ y with
    | nil => rfl
    | cons c cs => exact hp c (by rw [he]; simp)

section
variable {E : Env} {h : AH} {w : World}
theorem matTs_ok [GTab] (hh : HRel E h w) {t : List (Nat × AV)} {vals : Nat → Value} (tm : ∀ i, Rel E (look t i) (vals i)) (lt : ∀ i, Lt h.n (look t i)) :
    ∀ {ts : List Nat} {l : List B} {ρ ρ' : List Nat} {d : LD l}, matTs h t ts l ρ = some (d, ρ') → Lk h.n ρ ρ' ∧ ∀ ρ'', Sub ρ' ρ'' → ∀ i, Rel (E.via ρ'') (look (encTs ts l d) i) (vals i) ∧ Lt ρ''.length (look (encTs ts l d) i)
  | [], [], ρ, ρ', d, hm => by
    simp only [matTs, Option.some.injEq, Prod.mk.injEq] at hm
    obtain ⟨_, rfl⟩ := hm
    exact ⟨.refl _ _, fun ρ'' _ i => ⟨.pure (.junk _), .junk⟩⟩
  | i :: ts, .v τ :: l, ρ, ρ', d, hm => by
    simp only [matTs] at hm
    split at hm
    case h_2 => cases hm
    rename_i y hy
    split at hm
    case h_2 => cases hm
    rename_i q hq
    cases hm
    obtain ⟨k1, k2⟩ := matTs_ok hh tm lt (ts := ts) (l := l) (d := q.1) (ρ' := q.2) hq
    refine ⟨k1, fun ρ'' hs j => ?_⟩
    simp only [encTs, look]
    split
    · rename_i hij
      subst hij
      exact ⟨.pure (encV_prel (E := E) (decV_ok hh (lt i) hy _ (tm i))), encV_isP _ _ _⟩
    · exact k2 ρ'' hs j
  | i :: ts, .r k :: l, ρ, ρ', d, hm => by
    simp only [matTs] at hm
    split at hm
    case h_2 => cases hm
    rename_i ρ1 hk
    obtain ⟨k1, k2⟩ := matR_ok hk (lt i)
    obtain ⟨k3, k4⟩ := matTs_ok hh tm lt (ts := ts) (l := l) hm
    refine ⟨k1.trans k3, fun ρ'' hs j => ?_⟩
    simp only [encTs, look]
    split
    · rename_i hij
      subst hij
      obtain ⟨k5, k6⟩ := k2 ρ'' (fun a b hab => hs a b (k3.sub a b hab))
      exact ⟨k5 E _ (tm i), k6⟩
    · exact k4 ρ'' hs j
  | [], _ :: _, _, _, _, hm => by simp [matTs] at hm
  | _ :: _, [], _, _, _, hm => by simp [matTs] at hm

theorem matCs_ok [GTab] (hh : HRel E h w) : ∀ {l : List B} {cs : List AV} {ρ ρ' : List Nat} {d : LD l}, (∀ (i : Nat) (x : AV), cs[i]? = some x → Lt h.n x) → matCs h l cs ρ = some (d, ρ') →
    Lk h.n ρ ρ' ∧ ∀ ρ'', Sub ρ' ρ'' → (∀ vs, Rels E cs vs → Rels (E.via ρ'') (encCs l d) vs) ∧ ∀ (i : Nat) (x : AV), (encCs l d)[i]? = some x → Lt ρ''.length x
  | [], [], ρ, ρ', d, _, hm => by
    simp only [matCs, Option.some.injEq, Prod.mk.injEq] at hm
    obtain ⟨_, rfl⟩ := hm
    exact ⟨.refl _ _, fun ρ'' _ => ⟨fun vs hv => by rw [hv.nil_inv]; exact .nil _, fun i x hx => by simp [encCs] at hx⟩⟩
  | .v τ :: l, cs, ρ, ρ', d, hl, hm => by
    simp only [matCs] at hm
    split at hm
    case h_2 => cases hm
    rename_i q hq
    split at hm
    case h_2 => cases hm
    rename_i q' hq'
    cases hm
    obtain ⟨y, rest⟩ := q
    obtain ⟨g1, g2⟩ := decC_ok τ hh (fun x hx => by obtain ⟨i, hi⟩ := List.getElem?_of_mem hx; exact .of_lt (hl i x hi)) hq
    obtain ⟨k1, k2⟩ := matCs_ok hh (l := l) (d := q'.1) (ρ' := q'.2) (fun i x hx => by obtain ⟨j, hj⟩ := List.getElem?_of_mem (g2 x (List.mem_of_getElem? hx)); exact hl j x hj) hq'
    refine ⟨k1, fun ρ'' hs => ?_⟩
    obtain ⟨k3, k4⟩ := k2 ρ'' hs
    refine ⟨fun vs hv => ?_, fun i x hx => ?_⟩
    · obtain ⟨us, ws, rfl, r1, r2⟩ := (g1 vs hv).append_inv
      simp only [encCs]
      refine Rels.append ?_ (k3 ws r2)
      exact ⟨r1.1, fun i x v hx hv => .pure (prel_of_isP (E := E) (r1.2 i x v hx hv) (enc_isP τ y x (List.mem_of_getElem? hx)))⟩
    · simp only [encCs] at hx
      have hm := List.mem_of_getElem? hx
      rcases List.mem_append.1 hm with hm | hm
      · have := enc_isP τ y x hm
        cases x <;> first | exact .p _ | exact .sl _ _ _ | exact .ep _ | exact .ifc _ _ | exact .st _ | exact .tl _ _ _ | exact .junk | simp [isP] at this
      · obtain ⟨j, hj⟩ := List.getElem?_of_mem hm
        exact k4 j x hj
  | .r k :: l, c :: cs, ρ, ρ', d, hl, hm => by
    simp only [matCs] at hm
    split at hm
    case h_2 => cases hm
    rename_i ρ1 hk
    obtain ⟨k1, k2⟩ := matR_ok hk (hl 0 c rfl)
    obtain ⟨k3, k4⟩ := matCs_ok hh (l := l) (fun i x hx => hl (i + 1) x hx) hm
    refine ⟨k1.trans k3, fun ρ'' hs => ?_⟩
    obtain ⟨k5, k6⟩ := k2 ρ'' (fun a b hab => hs a b (k3.sub a b hab))
    obtain ⟨k7, k8⟩ := k4 ρ'' hs
    refine ⟨fun vs hv => ?_, fun i x hx => ?_⟩
    · obtain ⟨v, us, rfl, r1, r2⟩ := hv.cons_inv
      exact .cons (k5 E v r1) (k7 us r2)
    · cases i with
      | zero => cases hx; exact k6
      | succ i => exact k8 i x hx
  | [], _ :: _, _, _, _, _, hm => by simp [matCs] at hm
  | .r _ :: _, [], _, _, _, _, hm => by simp [matCs] at hm

theorem matO_ok [GTab] (hh : HRel E h w) {o : O} {ao : AO} {ρ ρ' : List Nat} {d : OD o} {id : Nat} (hid : id < h.n) (ho : h.o id = some ao) (hlt : ao.lt h.n) (hm : matO h o ao ρ = some (d, ρ')) :
    Lk h.n ρ ρ' ∧ ∀ ρ'', Sub ρ' ρ'' → ORel (E.via ρ'') w (E.obj id) (encO o d) ∧ (encO o d).lt ρ''.length := by
  have hor := hh.obj id ao hid ho
  unfold matO at hm
  split at hm
  · rename_i l cs
    obtain ⟨k1, k2⟩ := matCs_ok hh hlt hm
    refine ⟨k1, fun ρ'' hs => ?_⟩
    obtain ⟨k3, k4⟩ := k2 ρ'' hs
    obtain ⟨b, cs', T, g1, g2, g3, g4⟩ := hor
    exact ⟨⟨b, cs', T, g1, g2, k3 _ g3, g4⟩, k4⟩
  · split at hm
    · rename_i e
      subst e
      cases hm
      exact ⟨.refl _ _, fun ρ'' hs => ⟨hor, trivial⟩⟩
    · cases hm
  · split at hm
    · rename_i e
      subst e
      cases hm
      exact ⟨.refl _ _, fun ρ'' hs => ⟨hor, trivial⟩⟩
    · cases hm
  · split at hm
    · rename_i e
      subst e
      split at hm
      · rename_i e
        subst e
        cases hm
        exact ⟨.refl _ _, fun ρ'' hs => ⟨hor, trivial⟩⟩
      · cases hm
    · cases hm
  · cases hm

theorem matOs_ok [GTab] (hh : HRel E h w) (hok : h.ok) : ∀ {l : List O} {j : Nat} {ρ ρ' : List Nat} {d : OL l}, Low h.n ρ → matOs h l j ρ = some (d, ρ') →
    Lk h.n ρ ρ' ∧ ∀ ρ'', Sub ρ' ρ'' → ∀ i ao, encOs l d i = some ao → ∃ id, nthN ρ'' (j + i) = some id ∧ h.o id ≠ none ∧ ORel (E.via ρ'') w (E.obj id) ao ∧ ao.lt ρ''.length
  | [], j, ρ, ρ', d, hlow, hm => by
    simp only [matOs, Option.some.injEq, Prod.mk.injEq] at hm
    obtain ⟨_, rfl⟩ := hm
    exact ⟨.refl _ _, fun ρ'' _ i ao hi => by cases i <;> cases hi⟩
  | o :: l, j, ρ, ρ', d, hlow, hm => by
    simp only [matOs] at hm
    split at hm
    case h_2 => cases hm
    rename_i id hid
    split at hm
    case h_2 => cases hm
    rename_i ao ho
    split at hm
    case h_2 => cases hm
    rename_i q hq
    split at hm
    case h_2 => cases hm
    rename_i q' hq'
    cases hm
    have hlt := hlow j id hid
    obtain ⟨k1, k2⟩ := matO_ok hh hlt ho (AH.ok_lt hok hlt ho) (d := q.1) (ρ' := q.2) hq
    obtain ⟨k3, k4⟩ := matOs_ok hh hok (l := l) (d := q'.1) (ρ' := q'.2) (k1.low hlow) hq'
    refine ⟨k1.trans k3, fun ρ'' hs i ao' hi => ?_⟩
    cases i with
    | zero =>
      simp only [encOs, Option.some.injEq] at hi
      subst hi
      obtain ⟨k5, k6⟩ := k2 ρ'' (fun a b hab => hs a b (k3.sub a b hab))
      exact ⟨id, hs _ _ (k3.sub _ _ (k1.sub _ _ hid)), by rw [ho]; simp, k5, k6⟩
    | succ i =>
      simp only [encOs] at hi
      obtain ⟨id', g1, g2⟩ := k4 ρ'' hs i ao' hi
      exact ⟨id', by rw [show j + (i + 1) = j + 1 + i by omega]; exact g1, g2⟩
end

/-! ### Slices without elements become rows -/
section
variable {E0 : Env} {n0 : NB} {w0 : World} {nt : Nat} {E : Env} {σ : St} {a : Act} {w : World}
theorem SRel.heap [GTab] (h : SRel E0 n0 w0 nt E σ a w) {E' : Env} {h' : AH} (hs : Step E σ.h w E' h' w) : SRel E0 n0 w0 nt E' ({ σ with h := h' } : St) a w :=
  { tm := fun i => (h.tm i).mono (h.lt i) hs.ext
    lt := fun i => (h.lt i).mono hs.le
    blt := hs.ok
    sz := h.sz
    df := h.df
    hr := hs.rel
    ex := h.ex.trans hs.ext h.nn
    kp := h.kp.trans hs.keep h.fr
    fr := FrB.trans (w' := w) h.fr hs.fr h.kp.size
    gr := GrB.trans h.gr hs.gr h.fr h.kp.size
    nn := Nat.le_trans h.nn hs.le }
theorem nil_row [GTab] {h : AH} (hh : HRel E h w) (hok : h.ok) (τ : Ty) : ∃ E', Step E h w E' (h.new (.trow τ [])) w ∧ Rel E' (.rw h.n) (.slice none 0 0) ∧ Lt (h.new (.trow τ [])).n (.rw h.n) :=
  ⟨_, Step.alloc (w' := w) (x := .trow τ []) (eo := .row none 0 0 (sz τ)) (S' := E.S) hh hok rfl rfl rfl (Nat.le_refl _) (fun _ _ => rfl) (fun _ _ h => h) (fun _ _ h => .inl h) (fun b hb => by simp [EO.blk] at hb)
    (fun _ => ⟨none, 0, rfl, prel_nil _ _ _ (fun _ hk => by cases hk), fun h => by simp at h⟩) trivial, .rw (size := sz τ) (by simp), .rw (by simp [AH.new])⟩
theorem nil_arr [GTab] {h : AH} (hh : HRel E h w) (hok : h.ok) (τ : Ty) : ∃ E', Step E h w E' (h.new (.tarr τ [])) w ∧ Rel E' (.mw h.n) (.slice none 0 0) ∧ Lt (h.new (.tarr τ [])).n (.mw h.n) :=
  ⟨_, Step.alloc (w' := w) (x := .tarr τ []) (eo := .arr 0 0 (sz τ) 0) (S' := E.S) hh hok rfl rfl rfl (Nat.le_refl _) (fun _ _ => rfl) (fun _ _ h => h) (fun _ _ h => .inl h) (fun b hb => by simp [EO.blk] at hb)
    (fun _ => ⟨0, 0, rfl, Nat.le_refl _, Nat.zero_le _, fun h => absurd h (Nat.lt_irrefl _)⟩) trivial, .mw (b := 0) (cap := 0) (size := sz τ) (len := 0) (by simp) (Nat.le_refl _) (Nat.le_refl _) (Nat.zero_le _) (fun h => absurd h (Nat.lt_irrefl _)), .mw (by simp [AH.new])⟩
/-- A slice from an array's beginning becomes an array of its own. -/
theorem own_arr [GTab] {h : AH} {τ : Ty} {l : List (El τ)} {id len : Nat} {v : Value} (hh : HRel E h w) (hok : h.ok) (hid : id < h.n) (ho : h.o id = some (.tarr τ l)) (hv : Rel E (.ms id 0 len) v) (hll : len ≤ l.length) :
    ∃ E', Step E h w E' ((h.set id none).new (.tarr τ (l.take len))) w ∧ Rel E' (.mw h.n) v ∧ Lt ((h.set id none).new (.tarr τ (l.take len))).n (.mw h.n) := by
  obtain ⟨blk, cap, size, ln, ad, c, rfl, hobj, m1, m2, m3, m4⟩ := hv.ms_inv
  rw [Nat.zero_add] at m1
  rw [Nat.zero_mul] at m4
  obtain ⟨blk2, cap2, q1, q2, q3, q0⟩ := hh.arr id τ l hid ho
  rw [hobj] at q1
  cases q1
  have htl : (l.take len).length = len := by simp; omega
  by_cases hcap : cap = 0
  · have e1 : l = [] := List.eq_nil_of_length_eq_zero (by omega)
    have e2 : len = 0 := by omega
    have e3 : c = 0 := by omega
    subst e1; subst e2; subst e3; subst hcap
    simp only [List.take_nil] at htl ⊢
    obtain ⟨g1, g2⟩ := hh.kill hok id
    refine ⟨_, (Step.kill hh hok id).trans (Step.alloc (eo := .arr blk 0 (sz τ) 0) (S' := E.S) g1 g2 rfl rfl rfl (Nat.le_refl _) (fun _ _ => rfl) (fun _ _ h => h) (fun _ _ h => .inl h)
        (fun b' hb' => by simp [EO.blk] at hb') (fun hext => ⟨blk, 0, rfl, Nat.le_refl _, m3, fun h => absurd h (Nat.lt_irrefl _)⟩) trivial), ?_, .mw (by simp [AH.new, AH.set])⟩
    exact .mw (b := blk) (cap := 0) (size := sz τ) (by simp [AH.set]) (Nat.le_refl _) (Nat.le_refl _) m3 (fun h => absurd h (Nat.lt_irrefl _))
  · have hpos : 0 < cap := by omega
    obtain ⟨cur, T, q4, q5, q6, q7⟩ := q0 hpos
    refine ⟨_, Step.take (c := id) (b := blk) (eo := .arr blk cap (sz τ) (l.take len).length) (S' := E.S) hh hok hid (by rw [ho]; simp) (by simp [hobj, EO.blk, hpos]) rfl rfl rfl rfl (fun _ _ => rfl) (fun _ _ h => h) (fun _ _ h => .inl h) hh.cells
      (fun b' hb' => by simpa [EO.blk, hpos] using hb'.symm) (fun hext => ⟨blk, cap, rfl, by rw [htl]; omega, q3, fun _ => ⟨cur, T, q4, q5, q6, fun i j y x hy hx => ?_⟩⟩) trivial, .mw (b := blk) (cap := cap) (size := sz τ) (len := len) (by simp [htl]) m1 m2 m3 m4, .mw (by simp [AH.new, AH.set])⟩
    rw [List.getElem?_take] at hy
    split at hy
    · exact q7 i j y x hy hx
    · cases hy
theorem retmp [GTab] (h : SRel E0 n0 w0 nt E σ a w) (i : Nat) {E' : Env} {h' : AH} {x : AV} (s : Step E σ.h w E' h' w) (hr : Rel E' x (a.tmps.getD i undef)) (hl : Lt h'.n x) : SRel E0 n0 w0 nt E' { t := (i, x) :: σ.t, h := h' } a w := by
  have h2 := h.heap s
  refine { h2 with tm := fun j => ?_, lt := fun j => ?_ }
  · simp only [look]
    split
    · rename_i hij; subst hij; exact hr
    · exact h2.tm j
  · simp only [look]
    split
    · exact hl
    · exact h2.lt j
theorem recell [GTab] (h : SRel E0 n0 w0 nt E σ a w) {id off : Nat} {l : List AV} {E' : Env} {h' : AH} {x : AV} (s : Step E σ.h w E' h' w) (hid : id < h'.n) (ho : h'.o id = some (.box l)) (hoff : off < l.length)
    (hr : ∀ (b : Nat) (cs : Array Value) (T : TypeId) (v : Value), E'.obj id = .box b → w.heap[b]? = some (.cells cs T (0, 0)) → Rels E' l cs.toList → cs.toList[off]? = some v → Rel E' x v) (hl : Lt h'.n x) :
    SRel E0 n0 w0 nt E' { t := σ.t, h := h'.set id (some (.box (l.set off x))) } a w := by
  obtain ⟨b, cs, T, g1, g2, g3, g4⟩ := s.rel.box id l hid ho
  have st : Step E' h' w E' (h'.set id (some (.box (l.set off x)))) w := by
    refine Step.turn (b := b) s.rel s.ok hid (by rw [ho]; simp) (by rw [g1]; rfl) g4 rfl rfl rfl rfl (fun _ _ => rfl) ⟨b, cs, T, g1, g2, ?_, g4⟩ (fun j y hy => ?_)
    · refine ⟨by rw [List.length_set]; exact g3.1, fun j y u hy hu => ?_⟩
      by_cases hj : j = off
      · subst hj
        rw [List.getElem?_set_self hoff] at hy
        cases hy
        exact hr b cs T u g1 g2 g3 hu
      · rw [List.getElem?_set_ne (Ne.symm hj)] at hy
        exact g3.2 j y u hy hu
    · by_cases hj : j = off
      · subst hj
        rw [List.getElem?_set_self hoff] at hy
        cases hy
        exact hl
      · rw [List.getElem?_set_ne (Ne.symm hj)] at hy
        exact s.ok id l j y hid ho hy
  exact (h.heap s).heap st
/-- What stands in a box's cell, before a step and behind it. -/
theorem box_cell [GTab] {h : AH} {id off : Nat} {l : List AV} {y : AV} (hh : HRel E h w) (hid : id < h.n) (ho : h.o id = some (.box l)) (hc : l[off]? = some y) {E' : Env} {b : Nat} {cs : Array Value} {T : TypeId} {v : Value} (hx : Ext E h.n E') (g1 : E'.obj id = .box b)
    (g2 : w.heap[b]? = some (.cells cs T (0, 0))) (hv : cs.toList[off]? = some v) : Rel E y v := by
  obtain ⟨b', cs', T', k1, k2, k3, k4⟩ := hh.box id l hid ho
  have := hx.box id b' hid k1
  rw [g1] at this
  cases this
  rw [g2] at k2
  cases k2
  exact k3.2 off y v hc hv
theorem prep1_ok [GTab] {R : Type} {p : Pre} {K : St → Option R} {r : R} (h : SRel E0 n0 w0 nt E σ a w) (hk : prep1 p σ K = some r) : ∃ E' σ', SRel E0 n0 w0 nt E' σ' a w ∧ (∀ a v, E.S a = some v → E'.S a = some v) ∧ K σ' = some r := by
  cases p with
  | tmp i τ =>
    simp only [prep1] at hk
    split at hk
    · rename_i hl
      obtain ⟨E', s1, s2, s3⟩ := nil_row h.hr h.ok τ
      have hv := h.tm i
      rw [hl] at hv
      have hv := hv.p_inv
      exact ⟨E', _, retmp h i s1 (by rw [hv]; exact s2) s3, s1.ext.S, hk⟩
    · exact ⟨E, _, h, fun _ _ h => h, hk⟩
  | cell i off τ =>
    simp only [prep1] at hk
    split at hk
    · rename_i id hl
      split at hk
      · rename_i l ho
        split at hk
        · rename_i hc
          obtain ⟨E', s1, s2, s3⟩ := nil_row h.hr h.ok τ
          have hid : id < σ.h.n := by have := h.lt i; rw [hl] at this; exact this.bp_inv
          have ho' : (σ.h.new (.trow τ [])).o id = some (.box l) := by simp only [AH.new]; rw [upd_other _ _ (by omega)]; exact ho
          have hid' : id < (σ.h.new (.trow τ [])).n := by simp only [AH.new]; omega
          exact ⟨E', _, recell h s1 hid' ho' (List.getElem?_eq_some_iff.1 hc).1 (fun b cs T v g1 g2 g3 hv => by
            rw [(box_cell h.hr hid ho hc s1.ext g1 g2 hv).p_inv]; exact s2) s3, s1.ext.S, hk⟩
        · exact ⟨E, _, h, fun _ _ h => h, hk⟩
      · exact ⟨E, _, h, fun _ _ h => h, hk⟩
    · exact ⟨E, _, h, fun _ _ h => h, hk⟩
  | arr i τ =>
    simp only [prep1] at hk
    split at hk
    · rename_i hl
      obtain ⟨E', s1, s2, s3⟩ := nil_arr h.hr h.ok τ
      have hv := h.tm i
      rw [hl] at hv
      have hv := hv.p_inv
      exact ⟨E', _, retmp h i s1 (by rw [hv]; exact s2) s3, s1.ext.S, hk⟩
    · rename_i id off len hl
      split at hk
      · rename_i τ' l ho
        obtain ⟨h1, hk1⟩ := cond_inv hk
        obtain ⟨h2, hk2⟩ := cond_inv hk1
        clear hk hk1
        have h1 := Nat.eq_of_beq_eq_true h1
        have h2 := Nat.le_of_ble_eq_true h2
        subst h1
        have hv := h.tm i
        have hid := h.lt i
        rw [hl] at hv hid
        obtain ⟨E', s1, s2, s3⟩ := own_arr h.hr h.ok hid.ms_inv ho hv h2
        exact ⟨E', _, retmp h i s1 s2 s3, s1.ext.S, hk2⟩
      · exact ⟨E, _, h, fun _ _ h => h, hk⟩
    · exact ⟨E, _, h, fun _ _ h => h, hk⟩
  | arrc i off τ =>
    simp only [prep1] at hk
    split at hk
    · rename_i id hl
      split at hk
      · rename_i l ho
        have hid : id < σ.h.n := by have := h.lt i; rw [hl] at this; exact this.bp_inv
        split at hk
        · rename_i hc
          obtain ⟨E', s1, s2, s3⟩ := nil_arr h.hr h.ok τ
          have ho' : (σ.h.new (.tarr τ [])).o id = some (.box l) := by simp only [AH.new]; rw [upd_other _ _ (by omega)]; exact ho
          have hid' : id < (σ.h.new (.tarr τ [])).n := by simp only [AH.new]; omega
          exact ⟨E', _, recell h s1 hid' ho' (List.getElem?_eq_some_iff.1 hc).1 (fun b cs T v g1 g2 g3 hv => by
            rw [(box_cell h.hr hid ho hc s1.ext g1 g2 hv).p_inv]; exact s2) s3, s1.ext.S, hk⟩
        · rename_i jd o len hc
          split at hk
          · rename_i τ' m hj
            obtain ⟨h1, hk1⟩ := cond_inv hk
            obtain ⟨h2, hk2⟩ := cond_inv hk1
            clear hk hk1
            simp only [Bool.and_eq_true, Bool.not_eq_true'] at h1
            obtain ⟨h1, h3⟩ := h1
            have h1 := Nat.eq_of_beq_eq_true h1
            have h2 := Nat.le_of_ble_eq_true h2
            have h3 : id ≠ jd := fun e => by subst e; simp at h3
            subst h1
            obtain ⟨bb, cs0, T0, k1, k2, k3, k4⟩ := h.hr.box id l hid ho
            obtain ⟨v0, hv0, hr0⟩ := k3.getElem hc
            have hjd := (h.ok id l off _ hid ho hc).ms_inv
            obtain ⟨E', s1, s2, s3⟩ := own_arr h.hr h.ok hjd hj hr0 h2
            have ho' : ((σ.h.set jd none).new (.tarr τ' (m.take len))).o id = some (.box l) := by
              simp only [AH.new, AH.set]; rw [upd_other _ _ (by omega), upd_other _ _ h3]; exact ho
            have hid' : id < ((σ.h.set jd none).new (.tarr τ' (m.take len))).n := by simp only [AH.new, AH.set]; omega
            exact ⟨E', _, recell h s1 hid' ho' (List.getElem?_eq_some_iff.1 hc).1 (fun b cs T v g1 g2 g3 hv => by
              have := s1.ext.box id bb hid k1
              rw [g1] at this
              cases this
              rw [g2] at k2
              cases k2
              rw [hv] at hv0
              cases hv0
              exact s2) s3, s1.ext.S, hk2⟩
          · exact ⟨E, _, h, fun _ _ h => h, hk⟩
        · exact ⟨E, _, h, fun _ _ h => h, hk⟩
      · exact ⟨E, _, h, fun _ _ h => h, hk⟩
    · exact ⟨E, _, h, fun _ _ h => h, hk⟩
  | frz i =>
    simp only [prep1] at hk
    split at hk
    · rename_i id hl
      split at hk
      · rename_i τ l ho
        have hv := h.tm i
        have hid := h.lt i
        rw [hl] at hv hid
        obtain ⟨E', s1, s2⟩ := freeze_mw h.hr h.ok hid.mw_inv ho hv
        exact ⟨E', _, retmp h i s1 s2 (.tl _ _ _), s1.ext.S, hk⟩
      · exact ⟨E, _, h, fun _ _ h => h, hk⟩
    · exact ⟨E, _, h, fun _ _ h => h, hk⟩
theorem prep_ok [GTab] {R : Type} {K : St → Option R} {r : R} : ∀ {l : List Pre} {E : Env} {σ : St}, SRel E0 n0 w0 nt E σ a w → prep l σ K = some r → ∃ E' σ', SRel E0 n0 w0 nt E' σ' a w ∧ (∀ a v, E.S a = some v → E'.S a = some v) ∧ K σ' = some r
  | [], E, σ, h, hk => ⟨E, σ, h, fun _ _ h => h, hk⟩
  | p :: l, E, σ, h, hk => by
    simp only [prep] at hk
    obtain ⟨E1, σ1, h1, g1, hk⟩ := prep1_ok h hk
    obtain ⟨E2, σ2, h2, g2, hk⟩ := prep_ok h1 hk
    exact ⟨E2, σ2, h2, fun a v ha => g2 a v (g1 a v ha), hk⟩

/-- Package-level variables whose cells are known. -/
def Glo [GTab] (E : Env) (gs : List Nat) : Prop := ∀ g, g ∈ gs → ∀ (j : Nat) (x : AV), (GTab.cells g)[j]? = some x → ∃ v, E.S ⟨g, j, none⟩ = some v ∧ PRel E.S x v

theorem encOs_lt [GTab] : ∀ {l : List O} {d : OL l} {i : Nat}, i < l.length → encOs l d i ≠ none
  | [], _, _, h => by simp at h
  | o :: l, d, 0, _ => by simp [encOs]
  | o :: l, d, i + 1, h => by simpa [encOs] using encOs_lt (l := l) (d := d.2) (i := i) (by simpa using h)
/-- A part of a heap, its objects numbered anew. -/
structure Part [GTab] (E : Env) (h : AH) (w : World) (s : Sh) (gs : List Nat) (d : s.D) (ρ0 ρ : List Nat) (vals : Nat → Value) : Prop where
  sub : Sub ρ0 ρ
  len : ρ.length = s.os.length
  inj : Inj ρ
  low : Low h.n ρ
  at' : ∀ {i}, i < s.os.length → ∃ id, nthN ρ i = some id ∧ h.o id ≠ none ∧ id < h.n
  rel : HRel (E.via ρ) (encS s gs d).h w
  ok : (encS s gs d).h.ok
  tm : ∀ i, Rel (E.via ρ) (look (encS s gs d).t i) (vals i)
  lt : ∀ i, Lt s.os.length (look (encS s gs d).t i)
theorem part_ok [GTab] {h : AH} (hh : HRel E h w) (hok : h.ok) {t : List (Nat × AV)} {vals : Nat → Value} (tm : ∀ i, Rel E (look t i) (vals i)) (lt : ∀ i, Lt h.n (look t i)) {s : Sh} {gs : List Nat} (hg : Glo E gs) {ρ0 : List Nat} (h0 : Low h.n ρ0) (h1 : Inj ρ0)
    {q : LD s.bs × List Nat} {q' : OL s.os × List Nat} (hq : matTs h t s.tm s.bs ρ0 = some q) (hq' : matOs h s.os 0 q.2 = some q') (hlen : q'.2.length = s.os.length) : Part E h w s gs (q.1, q'.1) ρ0 q'.2 vals := by
  obtain ⟨k1, k2⟩ := matTs_ok hh tm lt (d := q.1) (ρ' := q.2) hq
  have hlow := k1.low h0
  have hinj := k1.inj h1
  obtain ⟨k3, k4⟩ := matOs_ok hh hok (d := q'.1) (ρ' := q'.2) hlow hq'
  have k5 := k2 q'.2 k3.sub
  have k6 := k4 q'.2 (fun _ _ h => h)
  have hlow2 := k3.low hlow
  have hinj2 := k3.inj hinj
  have hob : ∀ i ao, encOs s.os q'.1 i = some ao → ∃ id, nthN q'.2 i = some id ∧ h.o id ≠ none ∧ ORel (E.via q'.2) w ((E.via q'.2).obj i) ao ∧ ao.lt q'.2.length := fun i ao hi => by
    obtain ⟨id, r1, r2, r3, r4⟩ := k6 i ao hi
    rw [Nat.zero_add] at r1
    exact ⟨id, r1, r2, by simpa only [Env.via, r1, Option.getD_some] using r3, r4⟩
  have nz : ∀ {i}, i < s.os.length → ∃ id, nthN q'.2 i = some id ∧ h.o id ≠ none ∧ id < h.n := fun {i} hi => by
    cases ho : encOs s.os q'.1 i with
    | none => exact absurd ho (encOs_lt hi)
    | some ao => obtain ⟨id, r1, r2, _⟩ := hob i ao ho; exact ⟨id, r1, r2, hlow2 i id r1⟩
  refine
    { sub := fun j id hj => k3.sub j id (k1.sub j id hj)
      len := hlen
      inj := hinj2
      low := hlow2
      at' := nz
      rel := ⟨hh.cells, fun id x hid ho => ?_, fun g hgl j x hx => ?_, fun i j b hi hj hi0 hj0 hbi hbj => ?_, fun i b hi hb => ?_⟩
      ok := fun id l i x hid ho hx => ?_
      tm := fun i => (k5 i).1
      lt := fun i => by have := (k5 i).2; rw [hlen] at this; exact this }
  · simp only [encS] at hid ho
    obtain ⟨_, _, _, r3, _⟩ := hob id x ho
    exact r3
  · simp only [encS] at hgl
    obtain ⟨v, r1, r2⟩ := hg g hgl j x hx
    exact ⟨v, r1, r2⟩
  · simp only [encS] at hi hj
    obtain ⟨id, r1, r2, r3⟩ := nz hi
    obtain ⟨id', r1', r2', r3'⟩ := nz hj
    simp only [Env.via, r1, r1', Option.getD_some] at hbi hbj
    have := hh.inj id id' b r3 r3' r2 r2' hbi hbj
    subst this
    exact hinj2 i j id r1 r1'
  · simp only [encS] at hi
    obtain ⟨id, r1, r2, r3⟩ := nz hi
    simp only [Env.via, r1, Option.getD_some] at hb
    exact hh.lt id b r3 hb
  · simp only [encS] at hid ho ⊢
    obtain ⟨_, _, _, _, r4⟩ := hob id _ ho
    have := r4 i x hx
    rw [hlen] at this
    exact this
theorem nthN_pins : ∀ {p k i id : Nat}, nthN (pinsFrom k p) i = some id → id = k + i ∧ i < p
  | 0, _, _, _, h => by cases h
  | p + 1, k, 0, id, h => by cases h; exact ⟨rfl, Nat.succ_pos _⟩
  | p + 1, k, i + 1, id, h => by
    obtain ⟨h1, h2⟩ := nthN_pins (p := p) (k := k + 1) (i := i) h
    exact ⟨by omega, by omega⟩
theorem nthN_pins_of : ∀ {p k i : Nat}, i < p → nthN (pinsFrom k p) i = some (k + i)
  | 0, _, _, h => absurd h (Nat.not_lt_zero _)
  | p + 1, k, 0, _ => rfl
  | p + 1, k, i + 1, h => by
    have := nthN_pins_of (p := p) (k := k + 1) (i := i) (by omega)
    simp only [pinsFrom, nthN]
    rw [this]
    congr 1
    omega
theorem norm_ok' [GTab] (h : SRel E0 n0 w0 nt E σ a w) {s : Sh} {d : s.D} {gs : List Nat} (hg : Glo E0 gs) (hn : norm n0.n s σ = some d) : ∃ E', SRel E0 n0 w0 nt E' (encS s gs d) a w ∧ ∀ a v, E.S a = some v → E'.S a = some v := by
  unfold norm at hn
  obtain ⟨E1, τ, h1, hS, hn⟩ := prep_ok h hn
  unfold norm1 at hn
  split at hn
  case h_2 => cases hn
  rename_i q hq
  split at hn
  case h_2 => cases hn
  rename_i q' hq'
  split at hn
  case isFalse => cases hn
  rename_i hlen
  have hlen := Nat.eq_of_beq_eq_true hlen
  cases hn
  have hp := part_ok h1.hr h1.ok h1.tm h1.lt (s := s) (gs := gs) (fun g hgl j x hx => by
    obtain ⟨v, r1, r2⟩ := hg g hgl j x hx
    exact ⟨v, h1.ex.S _ _ r1, r2.mono h1.ex.S⟩) (ρ0 := pinsFrom 0 n0.n) (fun i id hi => by
      have := nthN_pins hi
      have := h1.nn
      omega) (fun i j id hi hj => by
      have := nthN_pins hi
      have := nthN_pins hj
      omega) hq hq' hlen
  have pin : ∀ id, id < n0.n → (E1.via q'.2).obj id = E1.obj id := fun id hid => by
    have e := hp.sub id id (by rw [nthN_pins_of hid, Nat.zero_add])
    simp only [Env.via, e, Option.getD_some]
  refine ⟨E1.via q'.2,
    { tm := hp.tm
      lt := hp.lt
      blt := hp.ok
      sz := h1.sz
      df := h1.df
      hr := hp.rel
      ex := ⟨h1.ex.S, fun id b hid hb => by rw [pin id hid]; exact h1.ex.box id b hid hb, fun id b c s ln hid hb => by rw [pin id hid]; exact h1.ex.arr id b c s ln hid hb, fun id b hid hb => by rw [pin id hid]; exact h1.ex.map id b hid hb, fun id b c t s hid hb => by rw [pin id hid]; exact h1.ex.row id b c t s hid hb⟩
      kp := h1.kp
      fr := fun id b hid hb => ?_
      gr := h1.gr
      nn := ?_ }, hS⟩
  · simp only [encS] at hid
    obtain ⟨id', r1, r2, r3⟩ := hp.at' hid
    simp only [Env.via, r1, Option.getD_some] at hb
    exact h1.fr id' b r3 hb
  · show n0.n ≤ s.os.length
    rcases Nat.eq_zero_or_pos n0.n with h0 | h0
    · omega
    · have e := hp.sub (n0.n - 1) (n0.n - 1) (by rw [nthN_pins_of (by omega), Nat.zero_add])
      have := nthN_lt e
      rw [hp.len] at this
      omega
theorem norm_ok [GTab] (h : SRel E0 n0 w0 nt E σ a w) {s : Sh} {d : s.D} {gs : List Nat} (hg : Glo E0 gs) (hn : norm n0.n s σ = some d) : ∃ E', SRel E0 n0 w0 nt E' (encS s gs d) a w := by
  obtain ⟨E', h1, _⟩ := norm_ok' h hg hn
  exact ⟨E', h1⟩
end
end Go.Up
