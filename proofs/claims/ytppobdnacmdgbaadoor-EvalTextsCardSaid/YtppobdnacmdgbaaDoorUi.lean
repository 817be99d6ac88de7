/- Up, part i: cuts; all that turns nothing, told onwards. -/
import Derived.Test.YtppobdnacmdgbaaDoorUh
set_option linter.unusedVariables false
set_option linter.unusedSimpArgs false
namespace Go.Up
open Go.RowKit

/-- A bound within a length; two bounds. -/
def inC (l : Int) (n : Nat) : Bool := decide (0 ≤ l) && decide (l ≤ n)
def cutB (l h : Int) (n : Nat) : Bool := decide (0 ≤ l) && decide (l ≤ h) && decide (h ≤ n)
theorem inC_ok {l : Int} {n : Nat} (h : inC l n = true) : 0 ≤ l ∧ l ≤ n := by simpa [inC] using h
theorem cutB_ok {l h : Int} {n : Nat} (hc : cutB l h n = true) : 0 ≤ l ∧ l ≤ h ∧ h ≤ n := by
  simp only [cutB, Bool.and_eq_true, decide_eq_true_eq] at hc
  exact ⟨hc.1.1, hc.1.2, hc.2⟩

section
variable {P : Program} {h : AH} {e : Operand → AV} {R : Type}

/-- A cut of a list. -/
def cutK {α : Type} (l : List α) (lo hi : Option AV) (K : List α → Int → Option R) : Option R :=
  match lo, hi with
  | none, none => K l 0
  | some (.p (.int _ a)), none => bif inC a l.length then K (l.drop a.toNat) a else none
  | none, some (.p (.int _ b)) => bif inC b l.length then K (l.take b.toNat) 0 else none
  | some (.p (.int _ a)), some (.p (.int _ b)) => bif cutB a b l.length then K ((l.take b.toNat).drop a.toNat) a else none
  | _, _ => none
theorem cutK_ok [GTab] {α : Type} {l : List α} {lo hi : Option AV} {K : List α → Int → Option R} {r : R} (hk : cutK l lo hi K = some r) :
    ∃ a b, bnd 0 lo = some a ∧ bnd l.length hi = some b ∧ 0 ≤ a ∧ a ≤ b ∧ b ≤ l.length ∧ K ((l.take b.toNat).drop a.toNat) a = some r := by
  unfold cutK at hk
  split at hk
  · exact ⟨0, l.length, rfl, rfl, Int.le_refl _, by omega, Int.le_refl _, by simpa using hk⟩
  · rename_i k a
    obtain ⟨hb, hk⟩ := cond_inv hk
    obtain ⟨h1, h2⟩ := inC_ok hb
    exact ⟨a, l.length, rfl, rfl, h1, h2, Int.le_refl _, by simpa using hk⟩
  · rename_i k b
    obtain ⟨hb, hk⟩ := cond_inv hk
    obtain ⟨h1, h2⟩ := inC_ok hb
    exact ⟨0, b, rfl, rfl, Int.le_refl _, h1, h2, by simpa using hk⟩
  · rename_i k a k' b
    obtain ⟨hb, hk⟩ := cond_inv hk
    obtain ⟨h1, h2, h3⟩ := cutB_ok hb
    exact ⟨a, b, rfl, rfl, h1, h2, h3, hk⟩
  · cases hk

/-- The bounds of a cut of what is no list. -/
def cutN (len : Nat) (lo hi : Option AV) (K : Nat → Nat → Option R) : Option R :=
  match lo, hi with
  | none, none => K 0 len
  | some (.p (.int _ a)), none => bif inC a len then K a.toNat len else none
  | none, some (.p (.int _ b)) => bif inC b len then K 0 b.toNat else none
  | some (.p (.int _ a)), some (.p (.int _ b)) => bif cutB a b len then K a.toNat b.toNat else none
  | _, _ => none
theorem cutN_ok [GTab] {len : Nat} {lo hi : Option AV} {K : Nat → Nat → Option R} {r : R} (hk : cutN len lo hi K = some r) :
    ∃ a b, bnd 0 lo = some a ∧ bnd len hi = some b ∧ 0 ≤ a ∧ a ≤ b ∧ b ≤ len ∧ K a.toNat b.toNat = some r := by
  unfold cutN at hk
  split at hk
  · exact ⟨0, len, rfl, rfl, Int.le_refl _, by omega, Int.le_refl _, by simpa using hk⟩
  · rename_i k a
    obtain ⟨hb, hk⟩ := cond_inv hk
    obtain ⟨h1, h2⟩ := inC_ok hb
    exact ⟨a, len, rfl, rfl, h1, h2, Int.le_refl _, by simpa using hk⟩
  · rename_i k b
    obtain ⟨hb, hk⟩ := cond_inv hk
    obtain ⟨h1, h2⟩ := inC_ok hb
    exact ⟨0, b, rfl, rfl, Int.le_refl _, h1, h2, by simpa using hk⟩
  · rename_i k a k' b
    obtain ⟨hb, hk⟩ := cond_inv hk
    obtain ⟨h1, h2, h3⟩ := cutB_ok hb
    exact ⟨a, b, rfl, rfl, h1, h2, h3, hk⟩
  · cases hk

def sliK (P : Program) (h : AH) (t : TypeId) (x : AV) (lo hi mx : Option AV) (K : AV → Option R) : Option R :=
  match x with
  | .st s =>
    match P.underlying t, mx with
    | some .string, none => cutK s lo hi fun s' _ => K (.st s')
    | _, _ => none
  | .tl τ l cap =>
    if teB P t (sz τ) then
      match mx with
      | none => cutK l lo hi fun l' a => K (.tl τ l' (cap.map (· - a.toNat)))
      | some (.p (.int _ m)) => (match hi with
        | some (.p (.int _ b)) => cutK l lo hi fun l' a => (bif decide (b ≤ m) && decide (m ≤ l.length) then K (.tl τ l' (some (m.toNat - a.toNat))) else none)
        | _ => none)
      | _ => none
    else none
  | .rw id =>
    match h.o id with
    | some (.trow τ l) => if teB P t (sz τ) then (match mx with
      | none => cutK l lo hi fun l' _ => K (.tl τ l' none)
      | _ => none) else none
    | _ => none
  | .ms id off len =>
    match h.o id with
    | some (.tarr τ _) => if teB P t (sz τ) then (match mx with
      | none => cutN len lo hi fun a b => K (.ms id (off + a) (b - a))
      | some (.p (.int _ m)) => if hi.isSome then cutN len lo hi fun a b => (bif decide ((b : Int) ≤ m) && decide (m ≤ len) then K (.ms id (off + a) (b - a)) else none) else none
      | _ => none) else none
    | _ => none
  | .mw id =>
    match h.o id with
    | some (.tarr τ l) => if teB P t (sz τ) then (match mx with
      | none => cutN l.length lo hi fun a b => K (.ms id a (b - a))
      | some (.p (.int _ m)) => if hi.isSome then cutN l.length lo hi fun a b => (bif decide ((b : Int) ≤ m) && decide (m ≤ l.length) then K (.ms id a (b - a)) else none) else none
      | _ => none) else none
    | _ => none
  | _ => none

theorem sliK_ok [GTab] {t : TypeId} {xo : Operand} {lo hi mx : Option Operand} {K : AV → Option R} {r : R} (hk : sliK P h t (e xo) (lo.map e) (hi.map e) (mx.map e) K = some r) : ∃ y, YO P h e (.slice t xo lo hi mx) y ∧ K y = some r := by
  -- a list that is cut
  have lst : ∀ (τ : Ty) (l : List (El τ)) (cap cap' : Option Nat) (a b : Int), (cap' = none ∨ cap' = cap.map (· - a.toNat)) → teB P t (sz τ) = true → mx.map e = none → bnd 0 (lo.map e) = some a → bnd l.length (hi.map e) = some b → 0 ≤ a → a ≤ b → b ≤ l.length →
      (∀ (nn : Nat) (E : Env) (w : World) (v : Value), HRel E ⟨h.o, nn, h.g⟩ w → Rel E (e xo) v → Lt nn (e xo) → PRel E.S (.sl (sz τ) (l.map (enc τ)) cap) v) → YO P h e (.slice t xo lo hi mx) (.tl τ ((l.take b.toNat).drop a.toNat) cap') := by
    intro τ l cap cap' a b hcap ht hm ha hb h0 h1 h2 hp nn E w vals hh hok hO o hop
    obtain ⟨et, het⟩ := teB_ok ht
    have hx := hp nn E w _ hh (hO.rel xo (by simp [Op.operands])) (hO.lt xo (by simp [Op.operands]))
    obtain ⟨u, hu, hpu⟩ := (aslice_sl (P := P) (w := w) (lo := lo.map e) (hi := hi.map e) (mx := mx.map e) hx (relO_of hO lo (fun y hy => by simp [Op.operands, hy])) (relO_of hO hi (fun y hy => by simp [Op.operands, hy])) (relO_of hO mx (fun y hy => by simp [Op.operands, hy])) het ha (by rw [List.length_map]; exact hb) h0 h1).1 hm (by rw [List.length_map]; exact h2)
    have hpu := hpu cap' hcap
    rw [← List.map_take, ← List.map_drop] at hpu
    refine ⟨u, ?_, .pure (.tl hpu), .tl _ _ _⟩
    unfold execOp
    rw [hop]
    dsimp only
    simp only [Sem.run_bind]
    rw [hu]; rfl
  have lst2 : ∀ (τ : Ty) (l : List (El τ)) (cap : Option Nat) (a b m : Int) (k : IntKind), teB P t (sz τ) = true → mx.map e = some (.p (.int k m)) → (hi.map e).isSome = true → bnd 0 (lo.map e) = some a → bnd l.length (hi.map e) = some b → 0 ≤ a → a ≤ b → b ≤ m → m ≤ l.length →
      (∀ (nn : Nat) (E : Env) (w : World) (v : Value), HRel E ⟨h.o, nn, h.g⟩ w → Rel E (e xo) v → Lt nn (e xo) → PRel E.S (.sl (sz τ) (l.map (enc τ)) cap) v) → YO P h e (.slice t xo lo hi mx) (.tl τ ((l.take b.toNat).drop a.toNat) (some (m.toNat - a.toNat))) := by
    intro τ l cap a b m k ht hm hi1 ha hb h0 h1 h2 h3 hp nn E w vals hh hok hO o hop
    obtain ⟨et, het⟩ := teB_ok ht
    have hx := hp nn E w _ hh (hO.rel xo (by simp [Op.operands])) (hO.lt xo (by simp [Op.operands]))
    obtain ⟨u, hu, hpu⟩ := (aslice_sl (P := P) (w := w) (lo := lo.map e) (hi := hi.map e) (mx := mx.map e) hx (relO_of hO lo (fun y hy => by simp [Op.operands, hy])) (relO_of hO hi (fun y hy => by simp [Op.operands, hy])) (relO_of hO mx (fun y hy => by simp [Op.operands, hy])) het ha (by rw [List.length_map]; exact hb) h0 h1).2 k m hm hi1 h2 (by rw [List.length_map]; exact h3)
    rw [← List.map_take, ← List.map_drop] at hpu
    refine ⟨u, ?_, .pure (.tl hpu), .tl _ _ _⟩
    unfold execOp
    rw [hop]
    dsimp only
    simp only [Sem.run_bind]
    rw [hu]; rfl
  unfold sliK at hk
  split at hk
  · rename_i s hx
    split at hk
    · rename_i hu hm
      obtain ⟨a, b, ha, hb, h0, h1, h2, hk⟩ := cutK_ok hk
      refine ⟨_, ?_, hk⟩
      intro nn E w vals hh hok hO o hop
      exact ypure_sound (ok := 0 ≤ a ∧ a ≤ b ∧ b ≤ s.length) hh hok (hop ▸ hO) (by rw [hop]; simp only [ypure, aslice, hx, hu, ha, hb, hm]) ⟨h0, h1, h2⟩
    · cases hk
  · rename_i τ l cap hx
    split at hk
    · rename_i ht
      split at hk
      · rename_i hm
        obtain ⟨a, b, ha, hb, h0, h1, h2, hk⟩ := cutK_ok hk
        exact ⟨_, lst τ l cap _ a b (.inr rfl) ht hm ha hb h0 h1 h2 (fun nn E w v hh hv _ => by rw [hx] at hv; exact hv.tl_inv), hk⟩
      · rename_i km m hm
        split at hk
        case h_2 => cases hk
        rename_i kb b' hhi
        obtain ⟨a, b, ha, hb, h0, h1, h2, hk⟩ := cutK_ok hk
        obtain ⟨hbm, hk2⟩ := cond_inv hk
        simp only [Bool.and_eq_true, decide_eq_true_eq] at hbm
        have hbb : b = b' := by rw [hhi] at hb; simpa [bnd] using hb.symm
        subst hbb
        exact ⟨_, lst2 τ l cap a b m km ht hm (by rw [hhi]; rfl) ha hb h0 h1 hbm.1 hbm.2 (fun nn E w v hh hv _ => by rw [hx] at hv; exact hv.tl_inv), hk2⟩
      · cases hk
    · cases hk
  · rename_i id hx
    split at hk
    · rename_i τ l ho
      split at hk
      · rename_i ht
        split at hk
        · rename_i hm
          obtain ⟨a, b, ha, hb, h0, h1, h2, hk⟩ := cutK_ok hk
          refine ⟨_, lst τ l none _ a b (.inl rfl) ht hm ha hb h0 h1 h2 (fun nn E w v hh hv hl => ?_), hk⟩
          rw [hx] at hv hl
          obtain ⟨base, cap, tip, size, rfl, h1⟩ := hv.rw_inv
          obtain ⟨base', cap', h2, h3, _⟩ := hh.row _ _ _ hl.rw_inv ho
          rw [h1] at h2
          cases h2
          exact h3
        · cases hk
      · cases hk
    · cases hk
  · rename_i id off len hx
    split at hk
    case h_2 => cases hk
    rename_i τ l ho
    split at hk
    case isFalse => cases hk
    rename_i ht
    obtain ⟨et, het⟩ := teB_ok ht
    -- what such a cut is
    have key : ∀ (nn a b m : Nat) (E : Env) (w : World) (ba : Option Addr) (len' c : Nat), HRel E ⟨h.o, nn, h.g⟩ w → Rel E (e xo) (.slice ba len' c) → Lt nn (e xo) → a ≤ b → b ≤ m → m ≤ c → b ≤ len →
        Rel E (.ms id (off + a) (b - a)) (.slice (if m = a then ba else ba.map (·.add (a * sz τ))) (b - a) (m - a)) := by
      intro nn a b m E w ba len' c hh hv hl hab hbm hmc hbl
      rw [hx] at hv hl
      obtain ⟨bk, cap, size, ln, ad, c', he, h1, h2, h3, h4, h7⟩ := hv.ms_inv
      cases he
      obtain ⟨b', cap', k1, _⟩ := hh.arr _ _ _ hl.ms_inv ho
      rw [h1] at k1
      cases k1
      refine .ms h1 (by omega) (by omega) h4 (fun hc => ?_)
      have := h7 (by omega)
      rw [if_neg (by omega), this]
      simp [addr_add_lit, Nat.add_mul]
    split at hk
    · rename_i hm
      obtain ⟨a, b, ha, hb, h0, h1, h2, hk⟩ := cutN_ok hk
      refine ⟨_, ?_, hk⟩
      intro nn E w vals hh hok hO o hop
      have hxv := hO.rel xo (by simp [Op.operands])
      have hxl := hO.lt xo (by simp [Op.operands])
      have hxv' := hxv
      rw [hx] at hxv'
      obtain ⟨bk, cap, size, ln, ad, c, hve, q1, q2, q3, q4, q7⟩ := hxv'.ms_inv
      rw [hve] at hxv
      have hr := key nn a.toNat b.toNat c E w _ _ _ hh hxv hxl (by omega) (by omega) (Nat.le_refl _) (by omega)
      refine ⟨_, ?_, hr, .ms (by rw [hx] at hxl; exact hxl.ms_inv)⟩
      obtain ⟨r1, r2, r3⟩ := te_run het w
      cases hmx : mx with
      | some y => rw [hmx] at hm; cases hm
      | none =>
        have hbd := bounds_ok (P := P) (w := w) (isS := true) (len := len) (cap := c) (relO_of hO lo (fun y hy => by simp [Op.operands, hy])) (relO_of hO hi (fun y hy => by simp [Op.operands, hy])) ha hb h0 h1 h2 q3
        unfold execOp
        rw [hop]
        dsimp only
        rw [hve, hmx]
        simp [Instr.sliceAt, Instr.slice, r1, hbd, r2]
    · rename_i k m hm
      split at hk
      · rename_i hs
        obtain ⟨a, b, ha, hb, h0, h1, h2, hk⟩ := cutN_ok hk
        obtain ⟨hc, hk⟩ := cond_inv hk
        simp only [Bool.and_eq_true, decide_eq_true_eq] at hc
        refine ⟨_, ?_, hk⟩
        intro nn E w vals hh hok hO o hop
        have hxv := hO.rel xo (by simp [Op.operands])
        have hxl := hO.lt xo (by simp [Op.operands])
        have hxv' := hxv
        rw [hx] at hxv'
        obtain ⟨bk, cap, size, ln, ad, c, hve, q1, q2, q3, q4, q7⟩ := hxv'.ms_inv
        rw [hve] at hxv
        have hr := key nn a.toNat b.toNat m.toNat E w _ _ _ hh hxv hxl (by omega) (by omega) (by omega) (by omega)
        refine ⟨_, ?_, hr, .ms (by rw [hx] at hxl; exact hxl.ms_inv)⟩
        obtain ⟨r1, r2, r3⟩ := te_run het w
        cases hmx : mx with
        | none => rw [hmx] at hm; cases hm
        | some y =>
          cases hhi : hi with
          | none => rw [hhi] at hs; cases hs
          | some z =>
            rw [hmx] at hm
            simp only [Option.map_some, Option.some.injEq] at hm
            have hyv := hO.rel y (by simp [Op.operands, hmx])
            rw [hm] at hyv
            have hzr := hO.rel z (by simp [Op.operands, hhi])
            rw [hhi] at hb
            have hbd := bounds3_ok (P := P) (w := w) (isS := true) (len := len) (cap := c) (k := k) (m := m) (relO_of hO lo (fun y hy => by simp [Op.operands, hy])) hzr ha hb h0 h1 (by omega) (by omega) q3
            unfold execOp
            rw [hop]
            dsimp only
            rw [hve, hmx, hhi]
            simp only [Option.map_some, hyv.p_inv]
            simp [Instr.sliceAt, Instr.slice, r1, hbd, r2]
      · cases hk
    · cases hk
  · rename_i id hx
    split at hk
    case h_2 => cases hk
    rename_i τ l ho
    split at hk
    case isFalse => cases hk
    rename_i ht
    obtain ⟨et, het⟩ := teB_ok ht
    -- what such a cut is
    have key : ∀ (nn a b m : Nat) (E : Env) (w : World) (ba : Option Addr) (len' c : Nat), HRel E ⟨h.o, nn, h.g⟩ w → Rel E (e xo) (.slice ba len' c) → Lt nn (e xo) → a ≤ b → b ≤ m → m ≤ c → b ≤ l.length →
        Rel E (.ms id a (b - a)) (.slice (if m = a then ba else ba.map (·.add (a * sz τ))) (b - a) (m - a)) := by
      intro nn a b m E w ba len' c hh hv hl hab hbm hmc hbl
      rw [hx] at hv hl
      obtain ⟨bk, cap, size, len, ad, c', he, h1, h2, h3, h4, h7⟩ := hv.mw_inv
      cases he
      obtain ⟨b', cap', k1, _⟩ := hh.arr _ _ _ hl.mw_inv ho
      rw [h1] at k1
      cases k1
      refine .ms h1 (by omega) (by omega) h4 (fun hc => ?_)
      have := h7 (by omega)
      rw [if_neg (by omega), this]
      simp [addr_add_lit, Nat.add_mul]
    split at hk
    · rename_i hm
      obtain ⟨a, b, ha, hb, h0, h1, h2, hk⟩ := cutN_ok hk
      refine ⟨_, ?_, hk⟩
      intro nn E w vals hh hok hO o hop
      have hxv := hO.rel xo (by simp [Op.operands])
      have hxl := hO.lt xo (by simp [Op.operands])
      have hxv' := hxv
      rw [hx] at hxv'
      obtain ⟨bk, cap, size, len, ad, c, hve, q1, q2, q3, q4, q7⟩ := hxv'.mw_inv
      have hlen : len = l.length := by
        obtain ⟨_, _, hk1, _⟩ := hh.arr _ _ _ (by rw [hx] at hxl; exact hxl.mw_inv) ho
        rw [q1] at hk1
        cases hk1
        rfl
      subst hlen
      rw [hve] at hxv
      have hr := key nn a.toNat b.toNat c E w _ _ _ hh hxv hxl (by omega) (by omega) (Nat.le_refl _) (by omega)
      refine ⟨_, ?_, hr, .ms (by rw [hx] at hxl; exact hxl.mw_inv)⟩
      obtain ⟨r1, r2, r3⟩ := te_run het w
      cases hmx : mx with
      | some y => rw [hmx] at hm; cases hm
      | none =>
        have hbd := bounds_ok (P := P) (w := w) (isS := true) (len := l.length) (cap := c) (relO_of hO lo (fun y hy => by simp [Op.operands, hy])) (relO_of hO hi (fun y hy => by simp [Op.operands, hy])) ha hb h0 h1 h2 q3
        unfold execOp
        rw [hop]
        dsimp only
        rw [hve, hmx]
        simp [Instr.sliceAt, Instr.slice, r1, hbd, r2]
    · rename_i k m hm
      split at hk
      · rename_i hs
        obtain ⟨a, b, ha, hb, h0, h1, h2, hk⟩ := cutN_ok hk
        obtain ⟨hc, hk⟩ := cond_inv hk
        simp only [Bool.and_eq_true, decide_eq_true_eq] at hc
        refine ⟨_, ?_, hk⟩
        intro nn E w vals hh hok hO o hop
        have hxv := hO.rel xo (by simp [Op.operands])
        have hxl := hO.lt xo (by simp [Op.operands])
        have hxv' := hxv
        rw [hx] at hxv'
        obtain ⟨bk, cap, size, len, ad, c, hve, q1, q2, q3, q4, q7⟩ := hxv'.mw_inv
        have hlen : len = l.length := by
          obtain ⟨_, _, hk1, _⟩ := hh.arr _ _ _ (by rw [hx] at hxl; exact hxl.mw_inv) ho
          rw [q1] at hk1
          cases hk1
          rfl
        subst hlen
        rw [hve] at hxv
        have hr := key nn a.toNat b.toNat m.toNat E w _ _ _ hh hxv hxl (by omega) (by omega) (by omega) (by omega)
        refine ⟨_, ?_, hr, .ms (by rw [hx] at hxl; exact hxl.mw_inv)⟩
        obtain ⟨r1, r2, r3⟩ := te_run het w
        cases hmx : mx with
        | none => rw [hmx] at hm; cases hm
        | some y =>
          cases hhi : hi with
          | none => rw [hhi] at hs; cases hs
          | some z =>
            rw [hmx] at hm
            simp only [Option.map_some, Option.some.injEq] at hm
            have hyv := hO.rel y (by simp [Op.operands, hmx])
            rw [hm] at hyv
            have hzr := hO.rel z (by simp [Op.operands, hhi])
            rw [hhi] at hb
            have hbd := bounds3_ok (P := P) (w := w) (isS := true) (len := l.length) (cap := c) (k := k) (m := m) (relO_of hO lo (fun y hy => by simp [Op.operands, hy])) hzr ha hb h0 h1 (by omega) (by omega) q3
            unfold execOp
            rw [hop]
            dsimp only
            rw [hve, hmx, hhi]
            simp only [Option.map_some, hyv.p_inv]
            simp [Instr.sliceAt, Instr.slice, r1, hbd, r2]
      · cases hk
    · cases hk
  · cases hk
end
end Go.Up
