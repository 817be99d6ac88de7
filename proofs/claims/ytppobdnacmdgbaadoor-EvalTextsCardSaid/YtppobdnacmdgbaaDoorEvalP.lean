/- What nodes come to, on plain data: one node; the program's step and the document's come to it. -/
import Derived.Test.YtppobdnacmdgbaaDoorEvalX
set_option linter.unusedVariables false
set_option linter.unusedSimpArgs false
namespace Go.Proofs.YtppobdnacmdgbaaDoor
open Go Go.Up
set_option maxRecDepth 100000

def cl (b : Bool) : Int := bif b then 1 else 0
def fc (p : Int × Bool) : Int × Int := (p.1, cl p.2)
def isP (s : Sym) : Bool := !decide (s.cls = 0)
def M32 : Int := 4294967296
def oneP (k : Int) (a : Int × Bool) (place : Int) (early : Bool) : Sum Int (Int × Bool) :=
  if k = 6 then .inr (hiW a.1, false)
  else if k = 7 then .inr (loW a.1 % 4294967296, false)
  else if k = 8 then (bif early then .inl 7 else .inr ((a.1 - place) % 4294967296, false))
  else bif a.2 then .inl 7
  else if k = 4 then .inr ((0 - a.1) % 4294967296, false)
  else .inr (4294967295 - a.1, false)
def fixP (k : Int) (a b : Int) : Sum Int Int :=
  if k = 11 then .inr (a * b % 4294967296)
  else if k = 12 then (if b = 0 then .inl 12 else .inr (a / b))
  else if k = 13 then .inr ((shlW a.toNat b.toNat : Nat) : Int)
  else if k = 14 then .inr ((shrW a.toNat b.toNat : Nat) : Int)
  else if k = 15 then .inr ((a.toNat &&& b.toNat : Nat) : Int)
  else if k = 16 then .inr ((a.toNat ^^^ b.toNat : Nat) : Int)
  else .inr ((a.toNat ||| b.toNat : Nat) : Int)
def twoP (k : Int) (a b : Int × Bool) : Sum Int (Int × Bool) :=
  if k = 9 then (bif a.2 && b.2 then .inl 7 else .inr ((a.1 + b.1) % 4294967296, a.2 || b.2))
  else if k = 10 then (bif !a.2 && b.2 then .inl 7 else .inr ((a.1 - b.1) % 4294967296, a.2 && !b.2))
  else bif a.2 || b.2 then .inl 7
  else match fixP k a.1 b.1 with
    | .inl c => .inl c
    | .inr v => .inr (v, false)
def stp (syms : List Sym) (place : Int) (early : Bool) (n : Nod) (st : List (Int × Bool)) : Sum Int (List (Int × Bool)) :=
  if n.kind = 1 then .inr (st ++ [(n.num, false)])
  else if n.kind = 2 then (match syms.find? (fun s => decide (s.name = n.name)) with
    | none => .inl 11
    | some s => bif early && isP s then .inl 7 else .inr (st ++ [(s.value, isP s)]))
  else if n.kind = 3 then (bif early then .inl 7 else .inr (st ++ [(place, true)]))
  else if 4 ≤ n.kind ∧ n.kind ≤ 8 ∧ 1 ≤ st.length then (match oneP n.kind (st.getD (st.length - 1) (0, false)) place early with
    | .inl c => .inl c
    | .inr p => .inr (st.take (st.length - 1) ++ [p]))
  else if 9 ≤ n.kind ∧ n.kind ≤ 17 ∧ 2 ≤ st.length then (match twoP n.kind (st.getD (st.length - 2) (0, false)) (st.getD (st.length - 1) (0, false)) with
    | .inl c => .inl c
    | .inr p => .inr (st.take (st.length - 2) ++ [p]))
  else .inl 6

/-! ### Numbers -/
theorem natOf {v : Int} (h : U32 v) : ∃ m : Nat, v = (m : Int) ∧ m < 4294967296 := by
  obtain ⟨m, rfl⟩ := Int.eq_ofNat_of_zero_le h.1
  exact ⟨m, rfl, by have := h.2; omega⟩
theorem tdivE {a b : Int} (ha : U32 a) (hb : U32 b) (h0 : b ≠ 0) : IntKind.u32.wrap (Int.tdiv a b) = a / b := by
  have h1 : Int.tdiv a b = a / b := Int.tdiv_eq_ediv_of_nonneg ha.1
  have h2 : 0 ≤ a / b := Int.ediv_nonneg ha.1 hb.1
  have h3 : a / b ≤ a := Int.ediv_le_self _ ha.1
  have := ha.2
  rw [h1, wu]
  omega
theorem prog_fixed (N : Nat) (k : Int) (hk : 11 ≤ k ∧ k ≤ 17) (a b : Int) (ha : U32 a) (hb : U32 b) : eval_fixed N k a b = (match fixP k a b with
    | .inl c => some (0, Err.code c, ())
    | .inr v => some (v, Err.nil, ())) := by
  obtain ⟨m, rfl, hm⟩ := natOf ha
  obtain ⟨n, rfl, hn⟩ := natOf hb
  have hs := shifted_ok N m n hm
  have e : k = 11 ∨ k = 12 ∨ k = 13 ∨ k = 14 ∨ k = 15 ∨ k = 16 ∨ k = 17 := by omega
  rcases e with rfl | rfl | rfl | rfl | rfl | rfl | rfl
  · simp only [eval_fixed, fixP, decide_true, cond_true, if_pos, wu]
  · by_cases h0 : (n : Int) = 0
    · simp only [eval_fixed, fixP, h0, Int.reduceEq, decide_true, decide_false, cond_true, cond_false, if_pos, if_neg, not_false_eq_true]
    · simp only [eval_fixed, fixP, h0, Int.reduceEq, decide_true, decide_false, cond_true, cond_false, if_pos, if_neg, not_false_eq_true, Bool.not_false, Bool.and_true, tdivE ha hb h0]
  · simp only [eval_fixed, fixP, Int.reduceEq, decide_true, decide_false, cond_true, cond_false, if_pos, if_neg, not_false_eq_true, hs.1, bindI_some, Int.toNat_natCast]
  · simp only [eval_fixed, fixP, Int.reduceEq, decide_true, decide_false, cond_true, cond_false, if_pos, if_neg, not_false_eq_true, hs.2, bindI_some, Int.toNat_natCast]
  · simp only [eval_fixed, fixP, Int.reduceEq, decide_true, decide_false, cond_true, cond_false, if_pos, if_neg, not_false_eq_true, and_prog m n hm hn, Int.toNat_natCast]
  · simp only [eval_fixed, fixP, Int.reduceEq, decide_true, decide_false, cond_true, cond_false, if_pos, if_neg, not_false_eq_true, xor_prog m n hm hn, Int.toNat_natCast]
  · simp only [eval_fixed, fixP, Int.reduceEq, decide_false, cond_false, if_neg, not_false_eq_true, or_prog m n hm hn, Int.toNat_natCast]
theorem prog_two (N : Nat) (k : Int) (hk : 9 ≤ k ∧ k ≤ 17) (a b : Int × Bool) (ha : U32 a.1) (hb : U32 b.1) : eval_two N k (fc a) (fc b) = (match twoP k a b with
    | .inl c => some ((0, 0), Err.code c, ())
    | .inr p => some (fc p, Err.nil, ())) := by
  obtain ⟨av, ap⟩ := a
  obtain ⟨bv, bp⟩ := b
  have w0 : IntKind.i64.wrap (0 + 0) = 0 := rfl
  have w1 : IntKind.i64.wrap (0 + 1) = 1 := rfl
  have w2 : IntKind.i64.wrap (1 + 0) = 1 := rfl
  have w3 : IntKind.i64.wrap (1 + 1) = 2 := rfl
  have v0 : IntKind.i64.wrap (0 - 0) = 0 := rfl
  have v1 : IntKind.i64.wrap (1 - 0) = 1 := rfl
  have v2 : IntKind.i64.wrap (1 - 1) = 0 := rfl
  by_cases h9 : k = 9
  · subst h9
    cases ap <;> cases bp <;> simp only [eval_two, twoP, fc, cl, cond_true, cond_false, decide_true, decide_false, w0, w1, w2, w3, bindI_some, Int.reduceLE, if_pos, Bool.and_true, Bool.and_false, Bool.true_and, Bool.false_and, Bool.or_true, Bool.or_false, Bool.true_or, Bool.false_or, wu, Int.reduceEq, Bool.not_false, Bool.not_true]
  · by_cases h10 : k = 10
    · subst h10
      cases ap <;> cases bp <;> simp only [eval_two, twoP, fc, cl, cond_true, cond_false, decide_true, decide_false, v0, v1, v2, bindI_some, Int.reduceLE, if_pos, if_neg, not_false_eq_true, Bool.and_true, Bool.and_false, Bool.true_and, Bool.false_and, wu, Int.reduceEq, Bool.not_false, Bool.not_true]
    · have d9 : decide (k = 9) = false := decide_eq_false h9
      have d10 : decide (k = 10) = false := decide_eq_false h10
      have dl : decide (k ≤ 10) = false := decide_eq_false (by omega)
      have hf := prog_fixed N k (by omega) av bv ha hb
      cases ap <;> cases bp <;> simp only [eval_two, twoP, fc, cl, d9, d10, dl, cond_true, cond_false, decide_true, decide_false, bindI_some, if_neg h9, if_neg h10, Bool.or_true, Bool.or_false, Bool.true_or, Int.reduceEq, Bool.not_false, Bool.not_true]
      rw [hf]
      cases hq : fixP k av bv with
      | inl c =>
        have hc : fixP k av bv = .inl c := hq
        simp only [bindI_some, Err.el]
      | inr v => simp only [bindI_some, Err.el, cond_false]
theorem ref_two (N : Nat) (hN : 50 ≤ N) (k : Int) (hk : 9 ≤ k ∧ k ≤ 17) (a b : Int × Bool) (ha : U32 a.1) (hb : U32 b.1) : typecaseref12_two N k a b = (match twoP k a b with
    | .inl c => some ((0, false), c, ())
    | .inr p => some (p, 0, ())) := by
  obtain ⟨av, ap⟩ := a
  obtain ⟨bv, bp⟩ := b
  by_cases h9 : k = 9
  · subst h9
    cases ap <;> cases bp <;> simp only [typecaseref12_two, twoP, cond_true, cond_false, decide_true, bindI_some, if_pos, Bool.and_true, Bool.and_false, Bool.or_true, Bool.or_false, wu]
  by_cases h10 : k = 10
  · subst h10
    cases ap <;> cases bp <;> simp only [typecaseref12_two, twoP, cond_true, cond_false, decide_true, decide_false, bindI_some, if_pos, if_neg, not_false_eq_true, Bool.and_true, Bool.and_false, Bool.true_and, Bool.false_and, wu, Int.reduceEq, Bool.not_false, Bool.not_true]
  have d9 : decide (k = 9) = false := decide_eq_false h9
  have d10 : decide (k = 10) = false := decide_eq_false h10
  by_cases hp : (ap || bp) = true
  · cases ap <;> cases bp <;> first | exact absurd hp (by decide) | simp only [typecaseref12_two, twoP, d9, d10, if_neg h9, if_neg h10, cond_true, cond_false, bindI_some, Bool.or_true, Bool.or_false, Bool.true_or]
  · have e1 : ap = false := by cases ap <;> simp_all
    have e2 : bp = false := by cases bp <;> simp_all
    subst e1; subst e2
    simp only at ha hb
    obtain ⟨m, rfl, hm⟩ := natOf ha
    obtain ⟨n, rfl, hn⟩ := natOf hb
    have hs := moved_ok N hN m n hm hn
    have e : k = 11 ∨ k = 12 ∨ k = 13 ∨ k = 14 ∨ k = 15 ∨ k = 16 ∨ k = 17 := by omega
    rcases e with rfl | rfl | rfl | rfl | rfl | rfl | rfl
    · simp only [typecaseref12_two, twoP, fixP, Int.reduceEq, decide_true, decide_false, cond_true, cond_false, if_pos, if_neg, not_false_eq_true, bindI_some, Bool.or_false, wu]
    · by_cases h0 : (n : Int) = 0
      · simp only [typecaseref12_two, twoP, fixP, h0, Int.reduceEq, decide_true, decide_false, cond_true, cond_false, if_pos, if_neg, not_false_eq_true, bindI_some, Bool.or_false]
      · simp only [typecaseref12_two, twoP, fixP, h0, Int.reduceEq, decide_true, decide_false, cond_true, cond_false, if_pos, if_neg, not_false_eq_true, bindI_some, Bool.or_false, Bool.not_false, Bool.and_true, tdivE ha hb h0]
    · simp only [typecaseref12_two, twoP, fixP, Int.reduceEq, decide_true, decide_false, cond_true, cond_false, if_pos, if_neg, not_false_eq_true, bindI_some, Bool.or_false, hs.1, Int.toNat_natCast]
    · simp only [typecaseref12_two, twoP, fixP, Int.reduceEq, decide_true, decide_false, cond_true, cond_false, if_pos, if_neg, not_false_eq_true, bindI_some, Bool.or_false, hs.2, Int.toNat_natCast]
    · simp only [typecaseref12_two, twoP, fixP, Int.reduceEq, decide_true, decide_false, cond_true, cond_false, if_pos, if_neg, not_false_eq_true, bindI_some, Bool.or_false, bits_ok tblAnd rfl N hN m n hm hn, Int.toNat_natCast]
    · simp only [typecaseref12_two, twoP, fixP, Int.reduceEq, decide_true, decide_false, cond_true, cond_false, if_pos, if_neg, not_false_eq_true, bindI_some, Bool.or_false, bits_ok tblXor rfl N hN m n hm hn, Int.toNat_natCast]
    · simp only [typecaseref12_two, twoP, fixP, Int.reduceEq, decide_false, cond_false, if_neg, not_false_eq_true, bindI_some, Bool.or_false, bits_ok tblOr rfl N hN m n hm hn, Int.toNat_natCast]
theorem prog_one (N : Nat) (k : Int) (hk : 4 ≤ k ∧ k ≤ 8) (a : Int × Bool) (ha : U32 a.1) (K : List Sym) (place : Int) (early : Bool) (st : List (Int × Int)) : m__eval_reckoner__one N k (fc a) (K, place, early, ()) st = (match oneP k a place early with
    | .inl c => some (((0, 0), Err.code c, ()), (K, place, early, ()), st, ())
    | .inr p => some ((fc p, Err.nil, ()), (K, place, early, ()), st, ())) := by
  obtain ⟨av, ap⟩ := a
  have e : k = 4 ∨ k = 5 ∨ k = 6 ∨ k = 7 ∨ k = 8 := by omega
  simp only at ha
  have hlo := loW_bounds av
  rcases e with rfl | rfl | rfl | rfl | rfl
  · cases ap <;> simp only [m__eval_reckoner__one, oneP, fc, cl, Int.reduceEq, decide_true, decide_false, cond_true, cond_false, if_pos, if_neg, not_false_eq_true, Bool.not_true, Bool.not_false, wu]
  · cases ap <;> simp only [m__eval_reckoner__one, oneP, fc, cl, Int.reduceEq, decide_true, decide_false, cond_true, cond_false, if_pos, if_neg, not_false_eq_true, Bool.not_true, Bool.not_false, not_prog av ha]
  · simp only [m__eval_reckoner__one, oneP, fc, cl, decide_true, cond_true, cond_false, if_pos, lo_prog av ha, hi_prog, hiW, wu]
    congr 5
    omega
  · simp only [m__eval_reckoner__one, oneP, fc, cl, Int.reduceEq, decide_true, decide_false, cond_true, cond_false, if_pos, if_neg, not_false_eq_true, lo_prog av ha, wu]
  · cases early <;> simp only [m__eval_reckoner__one, oneP, fc, cl, Int.reduceEq, decide_true, decide_false, cond_true, cond_false, if_pos, if_neg, not_false_eq_true, wu]
theorem ref_one (N : Nat) (hN : 50 ≤ N) (k : Int) (hk : 4 ≤ k ∧ k ≤ 8) (a : Int × Bool) (ha : U32 a.1) (place : Int) (early : Bool) : typecaseref12_one N k a place early = (match oneP k a place early with
    | .inl c => some ((0, false), c, ())
    | .inr p => some (p, 0, ())) := by
  obtain ⟨av, ap⟩ := a
  have e : k = 4 ∨ k = 5 ∨ k = 6 ∨ k = 7 ∨ k = 8 := by omega
  simp only at ha
  have hh := ha
  obtain ⟨m, rfl, hm⟩ := natOf ha
  have e0 : (4294967295 - (m : Int)) % 4294967296 = 4294967295 - (m : Int) := by omega
  rcases e with rfl | rfl | rfl | rfl | rfl
  · cases ap <;> simp only [typecaseref12_one, oneP, Int.reduceEq, decide_true, decide_false, cond_true, cond_false, if_pos, if_neg, not_false_eq_true, wu]
  · cases ap <;> simp only [typecaseref12_one, oneP, Int.reduceEq, decide_true, decide_false, cond_true, cond_false, if_pos, if_neg, not_false_eq_true, wu, e0]
  · simp only [typecaseref12_one, oneP, decide_true, cond_true, if_pos, refHi_ok N hN m hm, bindI_some]
  · simp only [typecaseref12_one, oneP, Int.reduceEq, decide_true, decide_false, cond_true, cond_false, if_pos, if_neg, not_false_eq_true, sign_ok N hN m hm, bindI_some, wu]
  · cases early <;> simp only [typecaseref12_one, oneP, Int.reduceEq, decide_true, decide_false, cond_true, cond_false, if_pos, if_neg, not_false_eq_true, wu]
end Go.Proofs.YtppobdnacmdgbaaDoor
