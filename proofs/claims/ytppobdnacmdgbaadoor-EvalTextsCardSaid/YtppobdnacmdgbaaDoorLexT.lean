/- The document's lines come to something, for each short text; their numbers are words. -/
import Derived.Test.YtppobdnacmdgbaaDoorEvalR
import Derived.Test.YtppobdnacmdgbaaDoorOk
set_option linter.unusedVariables false
set_option linter.unusedSimpArgs false
namespace Go.Proofs.YtppobdnacmdgbaaDoor
open Go Go.Up
set_option maxRecDepth 100000

section
variable (N : Nat) (hN : 2000 ≤ N)
include hN
omit hN in
theorem in_loop (c : Int) (s : List UInt8) (hs : s.length ≤ 1000) : ∀ (f : Nat) (i : Int), 0 ≤ i → i ≤ s.length → (s.length : Int) < i + f → Ok (typecaseref10_in_L0 N f ((c, s, i, ()), ())) fun _ => True
  | 0, i, h0, h, h' => by omega
  | f + 1, i, h0, h, h' => by
    rw [typecaseref10_in_L0_succ]
    simp only [typecaseref10_in_L0s]
    refine Ok.ite (fun hc => ?_) (fun _ => Ok.mk trivial)
    have hc := of_decide_eq_true hc
    refine Ok.bind (Ok.geti (by omega) hc) fun y _ => Ok.ite (fun _ => Ok.mk trivial) (fun _ => ?_)
    rw [wi64n (by omega) (by omega)]
    exact in_loop c s hs f (i + 1) (by omega) (by omega) (by omega)
theorem in_ok (c : Int) (s : List UInt8) (hs : s.length ≤ 1000) : Ok (typecaseref10_in N c s) fun _ => True := by
  have := in_loop N c s hs N 0 (by omega) (by omega) (by omega)
  exact Ok.bindX this (fun _ _ => Ok.mk trivial) (fun _ _ => Ok.mk trivial)
theorem while_loop (s set : List UInt8) (hs : s.length ≤ 1000) (hset : set.length ≤ 1000) : ∀ (f : Nat) (i : Int), 0 ≤ i → i ≤ s.length → (s.length : Int) < i + f → Ok (typecaseref10_while_L0 N f ((s, set, i, ()), ())) fun e => match e with
      | .out x => 0 ≤ x.1.1 ∧ x.1.1 ≤ s.length
      | .ret _ => False
  | 0, i, h0, h, h' => by omega
  | f + 1, i, h0, h, h' => by
    rw [typecaseref10_while_L0_succ]
    simp only [typecaseref10_while_L0s]
    by_cases hi : i < s.length
    · rw [show decide (i < (s.length : Int)) = true from decide_eq_true hi, cond_true]
      refine Ok.bindT (Ok.bind (Ok.geti h0 hi) fun y _ => Ok.bindT (in_ok N hN _ _ hset) fun _ => Ok.mk trivial) fun y => Ok.ite (fun _ => ?_) (fun _ => Ok.mk ⟨h0, h⟩)
      rw [wi64n (by omega) (by omega)]
      exact while_loop s set hs hset f (i + 1) (by omega) (by omega) (by omega)
    · rw [show decide (i < (s.length : Int)) = false from decide_eq_false hi, cond_false]
      exact Ok.mk ⟨h0, h⟩
theorem while_ok (s set : List UInt8) (hs : s.length ≤ 1000) (hset : set.length ≤ 1000) : Ok (typecaseref10_while N s set) fun y => 0 ≤ y.1 ∧ y.1 ≤ s.length := by
  have := while_loop N hN s set hs hset N 0 (by omega) (by omega) (by omega)
  exact Ok.bindX this (fun x h => Ok.mk h) (fun _ h => h.elim)
omit hN in
theorem digit_ok (c : Int) : Ok (typecaseref10_digit N c) fun _ => True := by
  unfold typecaseref10_digit
  exact Ok.ite (fun _ => Ok.mk trivial) fun _ => Ok.ite (fun _ => Ok.mk trivial) fun _ => Ok.mk trivial
omit hN in
theorem num_loop (s : List UInt8) (base n : Int) (hs : s.length ≤ 1000) (hn : n ≤ s.length) : ∀ (f : Nat) (i v : Int), 0 ≤ i → i ≤ n → n < i + f → Ok (typecaseref10_numeral_L0 N f ((s, base, n, v, i, ()), ())) fun e => match e with
      | .out x => ∃ v : Int, x = ((n, v, ()), ())
      | .ret y => y = ((0, 0, ()), ())
  | 0, i, v, h0, h, h' => by omega
  | f + 1, i, v, h0, h, h' => by
    rw [typecaseref10_numeral_L0_succ]
    simp only [typecaseref10_numeral_L0s]
    refine Ok.ite (fun hc => ?_) (fun _ => Ok.mk ⟨v, rfl⟩)
    have hc := of_decide_eq_true hc
    refine Ok.bind (Ok.geti (by omega) (by omega)) fun y _ => Ok.bindT (digit_ok N _) fun y => Ok.ite (fun _ => Ok.mk rfl) (fun _ => ?_)
    rw [wi64n (by omega) (by omega)]
    exact num_loop s base n hs hn f (i + 1) _ (by omega) (by omega) (by omega)
theorem numeral_ok (s : List UInt8) (hs : s.length ≤ 1000) : Ok (typecaseref10_numeral N s) fun y => U32 y.1 ∧ 0 ≤ y.2.1 ∧ y.2.1 ≤ s.length := by
  have u0 : U32 0 := ⟨by omega, by omega⟩
  have uw : ∀ v, U32 (IntKind.u32.wrap v) := fun v => by rw [wu]; exact u32mod v
  have lt2 : ∀ t : Bool, (bif decide (1 < (s.length : Int)) then (bif inC 2 s.length then some t else none) else some false) = some (decide (1 < (s.length : Int)) && t) := fun t => by
    by_cases h : 1 < (s.length : Int)
    · rw [decide_eq_true h, cond_true, inC_of (by omega) (by omega), cond_true, Bool.true_and]
    · rw [decide_eq_false h, cond_false, Bool.false_and]
  have ww : ∀ y : Int, 0 ≤ y → y ≤ 1000 → IntKind.i64.wrap (2 + y) = 2 + y := fun y h1 h2 => wi64n (by omega) (by omega)
  have w0 : ∀ y : Int, 0 ≤ y → y ≤ 1000 → IntKind.i64.wrap (0 + y) = y := fun y h1 h2 => by rw [wi64n (by omega) (by omega)]; omega
  unfold typecaseref10_numeral
  simp only [lt2, bindI_some, bindI_id]
  repeat' (first
    | exact Ok.mk trivial
    | (refine Ok.bind (while_ok N hN _ _ (by simp only [List.length_drop]; omega) (by simp)) fun y hy => ?_; simp only [List.length_drop] at hy)
    | (refine Ok.bindT (in_ok N hN _ _ (by simp)) fun _ => ?_)
    | (refine Ok.tt (inC_of (by omega) (by simp only [Bool.and_eq_true, decide_eq_true_eq] at *; omega)) ?_)
    | (refine Ok.ite (fun _ => ?_) (fun _ => ?_))
    | (refine Ok.bind (Ok.geti ?_ ?_) fun _ _ => ?_)
    | (refine Ok.bindX (num_loop N _ _ _ hs ?_ N _ _ ?_ ?_ ?_) (fun x hx => ?_) (fun x hx => ?_))
    | (refine Ok.bindT ?_ fun _ => ?_)
    | (refine Ok.mk ?_))
  all_goals first
    | (simp only [Bool.and_eq_true, decide_eq_true_eq, decide_eq_false_iff_not, IntKind.wrap_i64] at *; omega)
    | exact ⟨u0, by simp only; omega, by simp only; omega⟩
    | (obtain ⟨v, rfl⟩ := hx
       refine ⟨uw _, ?_, ?_⟩ <;> (simp only [Bool.and_eq_true, decide_eq_true_eq, decide_eq_false_iff_not, IntKind.wrap_i64] at *; omega))
    | (subst hx
       exact ⟨u0, by simp only; omega, by simp only; omega⟩)

omit hN in
theorem esc_loop (s names bytes : List UInt8) (h2 : 2 ≤ s.length) (hb : names.length ≤ bytes.length) (hl : bytes.length ≤ 100) : ∀ (f : Nat) (i : Int), 0 ≤ i → i ≤ names.length → (names.length : Int) < i + f → Ok (typecaseref10_escape_L0 N f ((s, names, bytes, i, ()), ())) fun e => match e with
      | .out x => x.1.1 = s
      | .ret y => y.1.2.1 = 2
  | 0, i, h0, h, h' => by omega
  | f + 1, i, h0, h, h' => by
    rw [typecaseref10_escape_L0_succ]
    simp only [typecaseref10_escape_L0s]
    refine Ok.ite (fun hc => ?_) (fun _ => Ok.mk rfl)
    have hc := of_decide_eq_true hc
    refine Ok.bind (Ok.geti (by omega) (by omega)) fun y _ => Ok.bind (Ok.geti h0 hc) fun y _ => Ok.ite (fun _ => Ok.bind (Ok.geti h0 (by omega)) fun _ _ => Ok.mk rfl) (fun _ => ?_)
    rw [wi64n (by omega) (by omega)]
    exact esc_loop s names bytes h2 hb hl f (i + 1) (by omega) (by omega) (by omega)
theorem escape_ok (s : List UInt8) (hs : s.length ≤ 1000) : Ok (typecaseref10_escape N s) fun y => 0 ≤ y.2.1 ∧ y.2.1 ≤ s.length := by
  unfold typecaseref10_escape
  by_cases h2 : 2 ≤ s.length
  · rw [show decide ((s.length : Int) < 2) = false from decide_eq_false (by omega), cond_false]
    refine Ok.bindT (Ok.bind (Ok.geti (by omega) (by omega)) fun _ _ => Ok.mk trivial) fun y => Ok.ite (fun _ => Ok.mk ⟨by simp only; omega, by simp only; omega⟩) (fun _ => ?_)
    refine Ok.bindX (esc_loop N s _ _ h2 (by simp) (by simp) N 0 (by omega) (by simp) (by simp; omega)) (fun x hx => ?_) (fun y hy => Ok.mk ⟨by have hy : y.1.2.1 = 2 := hy; simp only [hy]; omega, by have hy : y.1.2.1 = 2 := hy; simp only [hy]; omega⟩)
    have hx : x.1.1 = s := hx
    rw [hx]
    refine Ok.bind (Ok.geti (by omega) (by omega)) fun c _ => ?_
    simp only [cond_and, bindI_some]
    by_cases h3 : (decide ((c.toNat : Int) = 120) && decide (3 < (s.length : Int))) = true
    · have h4 : 3 < (s.length : Int) := by simp only [Bool.and_eq_true, decide_eq_true_eq] at h3; exact h3.2
      rw [h3, cond_true]
      refine Ok.bindT (Ok.bind (Ok.geti (by omega) (by omega)) fun _ _ => Ok.bindT (in_ok N hN _ _ (by simp)) fun _ => Ok.mk trivial) fun y => ?_
      refine Ok.bindT (Ok.ite (fun _ => Ok.bind (Ok.geti (by omega) (by omega)) fun _ _ => Ok.bindT (in_ok N hN _ _ (by simp)) fun _ => Ok.mk trivial) (fun _ => Ok.mk trivial)) fun y => ?_
      refine Ok.ite (fun _ => ?_) (fun _ => Ok.mk ⟨by simp only; omega, by simp only; omega⟩)
      refine Ok.bind (Ok.geti (by omega) (by omega)) fun _ _ => Ok.bindT (digit_ok N _) fun _ => Ok.bind (Ok.geti (by omega) (by omega)) fun _ _ => Ok.bindT (digit_ok N _) fun _ => Ok.mk ⟨by simp only; omega, by simp only; omega⟩
    · rw [Bool.eq_false_iff.2 h3]
      simp only [cond_false, bindI_some]
      exact Ok.mk ⟨by simp only; omega, by simp only; omega⟩
  · rw [show decide ((s.length : Int) < 2) = true from decide_eq_true (by omega), cond_true]
    simp only [bindI_some, cond_true]
    exact Ok.mk ⟨by simp only; omega, by simp only; omega⟩
theorem quoted_ok (s : List UInt8) (q : Int) (hs : s.length ≤ 1000) : Ok (typecaseref10_quoted N s q) fun y => 0 ≤ y.2.1 ∧ y.2.1 ≤ s.length := by
  unfold typecaseref10_quoted
  by_cases h1 : 1 ≤ s.length
  · have g : Ok (geti s 0) fun _ => True := (Ok.geti (by omega) (by omega)).mono fun _ _ => trivial
    rw [show decide ((s.length : Int) = 0) = false from decide_eq_false (by omega), cond_false]
    refine Ok.bindT (Ok.bindT g fun _ => Ok.mk trivial) fun y => Ok.ite (fun _ => Ok.mk ⟨by simp only; omega, by simp only; omega⟩) (fun _ => ?_)
    refine Ok.bindT g fun y => Ok.ite (fun _ => Ok.bind (escape_ok N hN s hs) fun y hy => Ok.mk hy) (fun _ => ?_)
    refine Ok.bindT g fun y => ?_
    simp only [cond_and, bindI_some]
    refine Ok.bindT (Ok.ite (fun _ => Ok.mk trivial) (fun _ => Ok.bindT g fun _ => Ok.mk trivial)) fun y => Ok.ite (fun _ => Ok.bindT g fun _ => Ok.mk ⟨by simp only; omega, by simp only; omega⟩) (fun _ => Ok.mk ⟨by simp only; omega, by simp only; omega⟩)
  · rw [show decide ((s.length : Int) = 0) = true from decide_eq_true (by omega), cond_true]
    simp only [bindI_some, cond_true]
    exact Ok.mk ⟨by simp only; omega, by simp only; omega⟩
omit hN in
theorem textOf_len (l : List Int) : (textOf l).length = l.length := by simp [textOf]
theorem text_loop (s : List UInt8) (hs : s.length ≤ 1000) : ∀ (f : Nat) (i : Int) (out : List UInt8), 0 ≤ i → i ≤ s.length → (s.length : Int) < i + f → (out.length : Int) ≤ i → Ok (typecaseref10_text_L0 N f ((s, out, i, ()), ())) fun e => match e with
      | .out x => ∃ (t : List UInt8) (j : Int), x = ((s, t, j, ()), ()) ∧ 0 ≤ j ∧ j ≤ s.length ∧ t.length ≤ s.length
      | .ret _ => False
  | 0, i, out, h0, h, h', _ => by omega
  | f + 1, i, out, h0, h, h', ho => by
    rw [typecaseref10_text_L0_succ]
    simp only [typecaseref10_text_L0s]
    refine Ok.tt (inC_of h0 h) ?_
    refine Ok.bind (quoted_ok N hN _ _ (by rw [List.length_drop]; omega)) fun y hy => ?_
    rw [List.length_drop] at hy
    refine Ok.ite (fun _ => Ok.mk ⟨out, i, rfl, h0, h, by omega⟩) (fun hc => ?_)
    have hc := of_decide_eq_false hc
    refine Ok.tt (decide_eq_true ?_) ?_
    · rw [textOf_len]
      show out.length + 1 ≤ _
      omega
    · rw [wi64n (by omega) (by omega)]
      refine text_loop s hs f (i + y.2.1) _ (by omega) (by omega) (by omega) ?_
      rw [List.length_append, textOf_len]
      simp only [List.length_cons, List.length_nil]
      omega
theorem text_ok (s : List UInt8) (h1 : 1 ≤ s.length) (hs : s.length ≤ 1000) : Ok (typecaseref10_text N s) fun y => 0 ≤ y.2.1 ∧ y.2.1 ≤ s.length ∧ y.1.length ≤ s.length := by
  refine Ok.bindX (text_loop N hN s hs N 1 [] (by omega) (by omega) (by omega) (by simp)) (fun x hx => ?_) (fun _ h => h.elim)
  obtain ⟨t, j, rfl, hx2, hx3, hx4⟩ := hx
  simp only
  by_cases hlt : j < (s.length : Int)
  · rw [decide_eq_true hlt, cond_true]
    refine Ok.bindT (Ok.bind (Ok.geti hx2 hlt) fun _ _ => Ok.mk trivial) fun y => Ok.ite (fun _ => Ok.mk ?_) (fun _ => Ok.mk ⟨by simp only; omega, by simp only; omega, Nat.zero_le _⟩)
    rw [wi64n (by omega) (by omega)]
    exact ⟨by simp only; omega, by simp only; omega, hx4⟩
  · rw [decide_eq_false hlt, cond_false]
    simp only [bindI_some, cond_false]
    exact Ok.mk ⟨by simp only; omega, by simp only; omega, Nat.zero_le _⟩
/-- What a token's numbers are. -/
def good (t : Tok) : Prop := U32 t.num ∧ t.scope = 0 ∧ t.text.length ≤ 1000
theorem token_ok (s : List UInt8) (h1 : 1 ≤ s.length) (hs : s.length ≤ 1000) : Ok (typecaseref10_token N s) fun y => good y.1 ∧ 0 ≤ y.2.1 ∧ y.2.1 ≤ s.length := by
  have u0 : U32 0 := ⟨by omega, by omega⟩
  have tk : ∀ (k : Nat) (l : List UInt8), l.length ≤ 1000 → (l.take k).length ≤ 1000 := fun k l h => by rw [List.length_take]; omega
  have uw : ∀ v, U32 (IntKind.u32.wrap v) := fun v => by rw [wu]; exact u32mod v
  have ld : (s.drop (Int.toNat 1)).length = s.length - 1 := by rw [List.length_drop]; rfl
  have r1 : ∀ y : Int, 0 ≤ y → y ≤ ((s.length - 1 : Nat) : Int) → IntKind.i64.wrap (y + 1) = y + 1 := fun y h1 h2 => wi64n (by omega) (by omega)
  have two : ∀ t u : Bool, (bif decide (1 < (s.length : Int)) then (bif inC 2 s.length then (bindI (bif t then some true else (bif inC 2 s.length then some u else none)) fun y => some y) else none) else some false) = some (decide (1 < (s.length : Int)) && (t || u)) := fun t u => by
    by_cases h : 1 < (s.length : Int)
    · rw [decide_eq_true h, cond_true, inC_of (by omega) (by omega), cond_true, cond_true, cond_or]
      rfl
    · rw [decide_eq_false h, cond_false]
      rfl
  unfold typecaseref10_token
  refine Ok.bind (Ok.geti (by omega) (by omega)) fun c _ => ?_
  refine Ok.tt (inC_of (by omega) (by omega)) ?_
  refine Ok.bindT (in_ok N hN _ _ (by simp)) fun y => Ok.ite (fun _ => ?_) (fun _ => ?_)
  · refine Ok.bind (while_ok N hN s _ hs (by simp)) fun y hy => Ok.tt (inC_of hy.1 hy.2) (Ok.mk ⟨⟨u0, rfl, tk _ _ hs⟩, hy⟩)
  refine Ok.bindT (in_ok N hN _ _ (by simp)) fun y => Ok.ite (fun _ => ?_) (fun _ => ?_)
  · exact Ok.bind (numeral_ok N hN s hs) fun y hy => Ok.mk ⟨⟨hy.1, rfl, Nat.zero_le _⟩, hy.2⟩
  refine Ok.ite (fun _ => ?_) (fun _ => ?_)
  · refine Ok.bind (quoted_ok N hN _ _ (by rw [ld]; omega)) fun y hy => ?_
    rw [ld] at hy ⊢
    simp only [cond_and, bindI_some]
    by_cases hq : (decide (0 < y.2.1) && decide (y.2.1 < ((s.length - 1 : Nat) : Int))) = true
    · have hq2 : 0 < y.2.1 ∧ y.2.1 < ((s.length - 1 : Nat) : Int) := by simpa using hq
      rw [hq, cond_true]
      refine Ok.bindT (Ok.bind (Ok.geti hy.1 (by rw [ld]; exact hq2.2)) fun _ _ => Ok.mk trivial) fun _ => Ok.ite (fun _ => Ok.mk ⟨⟨uw _, rfl, Nat.zero_le _⟩, ?_⟩) (fun _ => Ok.mk ⟨⟨u0, rfl, Nat.zero_le _⟩, by simp only; omega, by simp only; omega⟩)
      rw [wi64n (by omega) (by omega)]
      exact ⟨by simp only; omega, by simp only; omega⟩
    · rw [Bool.eq_false_iff.2 hq]
      simp only [cond_false, bindI_some]
      exact Ok.mk ⟨⟨u0, rfl, Nat.zero_le _⟩, by simp only; omega, by simp only; omega⟩
  refine Ok.ite (fun _ => ?_) (fun _ => ?_)
  · exact Ok.bind (text_ok N hN s h1 hs) fun y hy => Ok.mk ⟨⟨u0, rfl, Nat.le_trans hy.2.2 hs⟩, hy.1, hy.2.1⟩
  refine Ok.bind (while_ok N hN _ _ (by rw [ld]; omega) (by simp)) fun w hw => ?_
  rw [ld] at hw
  have ic : inC w.1 (s.drop (Int.toNat 1)).length = true := inC_of hw.1 (by rw [ld]; exact hw.2)
  simp only [ic, cond_true, cond_or, cond_and, bindI_some, r1 w.1 hw.1 hw.2]
  have fin : ∀ t : Tok, good t → Ok (some (t, w.1 + 1, (0 : Int), ())) fun y : Tok × Int × Int × PUnit => good y.1 ∧ 0 ≤ y.2.1 ∧ y.2.1 ≤ s.length := fun t ht => Ok.mk ⟨ht, by simp only; omega, by simp only; omega⟩
  refine Ok.ite (fun _ => ?_) (fun _ => ?_)
  · exact fin _ ⟨u0, rfl, tk _ _ (by rw [ld]; omega)⟩
  refine Ok.bindT (Ok.ite (fun hc => ?_) fun _ => Ok.mk trivial) fun y => Ok.ite (fun _ => Ok.ite (fun _ => ?_) (fun _ => ?_)) (fun _ => ?_)
  · have hw0 : 0 < w.1 := by simp only [Bool.and_eq_true, decide_eq_true_eq] at hc; exact hc.2
    exact Ok.bind (Ok.geti (by omega) (by rw [ld]; omega)) fun _ _ => Ok.bindT (in_ok N hN _ _ (by simp)) fun _ => Ok.mk trivial
  · exact fin _ ⟨u0, rfl, tk _ _ (by rw [ld]; omega)⟩
  · exact fin _ ⟨u0, rfl, tk _ _ (by rw [ld]; omega)⟩
  have i1 : inC 1 s.length = true := inC_of (by omega) (by omega)
  by_cases h : 1 < (s.length : Int)
  · have i2 : inC 2 s.length = true := inC_of (by omega) (by omega)
    simp only [decide_eq_true h, i1, i2, cond_true, cond_or, bindI_some]
    refine Ok.ite (fun _ => Ok.mk ⟨⟨u0, rfl, tk _ _ hs⟩, by simp only; omega, by simp only; omega⟩) (fun _ => ?_)
    exact Ok.bindT (in_ok N hN _ _ (by simp)) fun y => Ok.ite (fun _ => Ok.mk ⟨⟨u0, rfl, tk _ _ hs⟩, by simp only; omega, by simp only; omega⟩) (fun _ => Ok.mk ⟨⟨u0, rfl, Nat.zero_le _⟩, by simp only; omega, by simp only; omega⟩)
  · simp only [decide_eq_false h, i1, cond_true, cond_false, bindI_some]
    exact Ok.bindT (in_ok N hN _ _ (by simp)) fun y => Ok.ite (fun _ => Ok.mk ⟨⟨u0, rfl, tk _ _ hs⟩, by simp only; omega, by simp only; omega⟩) (fun _ => Ok.mk ⟨⟨u0, rfl, Nat.zero_le _⟩, by simp only; omega, by simp only; omega⟩)
theorem line_loop (s : List UInt8) (num : Int) (x5 : Int × Int × Int) (hs : s.length ≤ 1000) : ∀ (f : Nat) (i : Int) (out : List Tok), 0 ≤ i → i ≤ s.length → (s.length : Int) < i + f → (out.length : Int) ≤ i → (∀ t ∈ out, good t) →
    Ok (typecaseref10_line_L0 N f ((s, num, i, ()), ((x5.1, x5.2.1, x5.2.2), ()), out, ())) fun e => match e with
      | .out x => x.2.2.1.length ≤ s.length ∧ ∀ t ∈ x.2.2.1, good t
      | .ret y => y.1.1 = []
  | 0, i, out, h0, h, h', _, _ => by omega
  | f + 1, i, out, h0, h, h', ho, hg => by
    rw [typecaseref10_line_L0_succ]
    simp only [typecaseref10_line_L0s]
    refine Ok.ite (fun hc => ?_) (fun _ => Ok.mk ⟨by simp only; omega, hg⟩)
    have hc := of_decide_eq_true hc
    refine Ok.bind (Ok.geti h0 hc) fun c _ => Ok.bindT (in_ok N hN _ _ (by simp)) fun b => Ok.ite (fun _ => ?_) (fun _ => ?_)
    · rw [wi64n (by omega) (by omega)]
      exact line_loop s num x5 hs f (i + 1) out (by omega) (by omega) (by omega) (by omega) hg
    refine Ok.bind (Ok.geti h0 hc) fun c _ => Ok.ite (fun _ => Ok.mk ⟨by simp only; omega, hg⟩) (fun _ => ?_)
    refine Ok.tt (inC_of h0 h) ?_
    refine Ok.bind (token_ok N hN _ (by rw [List.length_drop]; omega) (by rw [List.length_drop]; omega)) fun y hy => Ok.ite (fun _ => Ok.mk rfl) (fun hne => ?_)
    rw [List.length_drop] at hy
    have hne := of_decide_eq_false hne
    refine Ok.tt (Nat.ble_eq_true_of_le (by simp only [List.length_append, List.length_cons, List.length_nil]; omega)) ?_
    rw [wi64n (n := i + y.2.1) (by omega) (by omega)]
    refine line_loop s num x5 hs f (i + y.2.1) _ (by omega) (by omega) (by omega) (by simp only [List.length_append, List.length_cons, List.length_nil]; omega) fun t ht => ?_
    rcases List.mem_append.1 ht with ht | ht
    · exact hg t ht
    · rw [List.mem_singleton.1 ht]
      exact hy.1
theorem line_ok (s : List UInt8) (num : Int) (hs : s.length ≤ 1000) : Ok (typecaseref10_line N s num) fun y => y.1.length ≤ s.length ∧ ∀ t ∈ y.1, good t := by
  refine Ok.bindX (line_loop N hN s num (0, 0, 0) hs N 0 [] (by omega) (by omega) (by omega) (by simp) (fun t ht => by cases ht)) (fun x hx => Ok.mk hx) (fun y hy => Ok.mk ?_)
  have hy : y.1.1 = [] := hy
  simp only [hy]
  exact ⟨Nat.zero_le _, fun t ht => by cases ht⟩
/-- Lines that are right. -/
def goodL (n : Nat) (l : List Tok) : Prop := l.length ≤ n ∧ ∀ t ∈ l, good t
theorem lines_loop (src : List Int) (x3 : Int × Int × Int) (hs : src.length ≤ 1000) : ∀ (f : Nat) (i fr : Int) (out : List (List Tok)), 0 ≤ fr → fr ≤ i → i ≤ src.length + 1 → (src.length : Int) + 1 < i + f → (out.length : Int) ≤ i → (∀ l ∈ out, goodL src.length l) → (i = src.length + 1 → out ≠ []) →
    Ok (typecaseref10_Lines_L0 N f ((src, fr, i, ()), ((x3.1, x3.2.1, x3.2.2), ()), out, ())) fun e => match e with
      | .out x => x.2.2.1 ≠ [] ∧ ∀ l ∈ x.2.2.1, goodL src.length l
      | .ret y => 0 < y.2.1.1.2.2
  | 0, i, fr, out, _, _, _, h', _, _, _ => by omega
  | f + 1, i, fr, out, h0, h1, h2, h', ho, hg, hne => by
    rw [typecaseref10_Lines_L0_succ]
    simp only [typecaseref10_Lines_L0s]
    refine Ok.ite (fun hc => ?_) (fun hc => Ok.mk ⟨hne (by have := of_decide_eq_false hc; omega), hg⟩)
    have hc := of_decide_eq_true hc
    have body : Ok (bif decide (0 ≤ fr) && decide (fr ≤ i) && decide (i ≤ (src.length : Int)) then
          bindI (typecaseref10_line N (textOf (List.drop (Int.toNat fr) (List.take (Int.toNat i) src))) (IntKind.i64.wrap ((↑out.length : Int) + 1))) fun y =>
            bif decide (0 < y.snd.fst.snd.snd) then some (Ex.ret (([], ()), ((y.snd.fst.fst, y.snd.fst.snd.fst, y.snd.fst.snd.snd), ()), ()))
            else
              bif (out ++ [y.fst]).length.ble 4294967296 then
                typecaseref10_Lines_L0 N f ((src, IntKind.i64.wrap (i + 1), IntKind.i64.wrap (i + 1), ()), ((x3.1, x3.2.1, x3.2.2), ()), out ++ [y.fst], ())
              else none
        else none) fun e => match e with
      | .out x => x.2.2.1 ≠ [] ∧ ∀ l ∈ x.2.2.1, goodL src.length l
      | .ret y => 0 < y.2.1.1.2.2 := by
      have e1 : (decide (0 ≤ fr) && decide (fr ≤ i) && decide (i ≤ (src.length : Int))) = true := by simp; omega
      refine Ok.tt e1 ?_
      have hlen : (textOf (List.drop (Int.toNat fr) (List.take (Int.toNat i) src))).length ≤ src.length := by rw [textOf_len, List.length_drop, List.length_take]; omega
      refine Ok.bind (line_ok N hN _ _ (by omega)) fun y hy => Ok.ite (fun hcode => Ok.mk (of_decide_eq_true hcode)) (fun _ => ?_)
      refine Ok.tt (Nat.ble_eq_true_of_le (by simp only [List.length_append, List.length_cons, List.length_nil]; omega)) ?_
      rw [wi64n (by omega) (by omega)]
      refine lines_loop src x3 hs f (i + 1) (i + 1) _ (by omega) (by omega) (by omega) (by omega) (by simp only [List.length_append, List.length_cons, List.length_nil]; omega) (fun l hl => ?_) (fun _ => by simp)
      rcases List.mem_append.1 hl with hl | hl
      · exact hg l hl
      · rw [List.mem_singleton.1 hl]
        exact ⟨by omega, hy.2⟩
    by_cases hlt : i < (src.length : Int)
    · rw [decide_eq_true hlt, cond_true]
      refine Ok.bindT (Ok.bind (Ok.geti (by omega) hlt) fun _ _ => Ok.mk trivial) fun y => Ok.ite (fun _ => ?_) (fun _ => body)
      rw [wi64n (by omega) (by omega)]
      exact lines_loop src x3 hs f (i + 1) fr out h0 (by omega) (by omega) (by omega) (by omega) hg (fun h => by omega)
    · rw [decide_eq_false hlt, cond_false]
      simp only [bindI_some, cond_false]
      exact body
theorem lines_ok (src : List Int) (hs : src.length ≤ 1000) : Ok (typecaseref10_Lines N src) fun y => 0 < y.2.1.2.2 ∨ (y.1 ≠ [] ∧ ∀ l ∈ y.1, goodL src.length l) := by
  unfold typecaseref10_Lines
  rw [decide_eq_false (show ¬ ((65536 : Int) < (src.length : Int)) by omega), cond_false]
  refine Ok.bindX (lines_loop N hN src (0, 0, 0) hs N 0 0 [] (by omega) (by omega) (by omega) (by omega) (by simp) (fun l hl => by cases hl) (fun h => by omega)) (fun x hx => Ok.mk (.inr hx)) (fun y hy => Ok.mk (.inl hy))
end
end Go.Proofs.YtppobdnacmdgbaaDoor
