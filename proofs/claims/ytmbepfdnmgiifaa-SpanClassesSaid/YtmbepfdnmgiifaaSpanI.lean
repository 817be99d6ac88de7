import Derived.Test.YtmbepfdnmgiifaaSpanH
set_option linter.unusedVariables false
set_option linter.unusedSimpArgs false
namespace Go.Proofs.Ytmbepfdnmgiifaa
open Go.Vp
set_option maxRecDepth 100000
set_option maxHeartbeats 1000000
theorem law_classes_p (i : Itm) (n : Int) : APure Try.prog 4 [.agg i.cells, .p (.int .i64 n)] (.p (.bool true)) := by
  refine apure_of Try.func4 rfl (fun vs w => Try.call4 vs w) (by rw [Try.ntmps4]; simp) rfl (fun h hok Q hret hnorm => ?_)
  (repeat' (first | (with_reducible refine W_seq_k (fun _ _ => ?_)) | (with_reducible refine W_block_k (fun _ _ => ?_)) | (with_reducible refine W_draw_k ?_ ?_ ?_; kernel_rfl; kernel_rfl) | (with_reducible refine Gq_false ?_) | (with_reducible refine Gq_any ?_) | (with_reducible apply_assumption -exfalso -symm) | (simp only [go_sem, Nat.reduceEqDiff, Nat.reduceAdd, Nat.reduceSub, Nat.reduceLT, Nat.reduceLeDiff, Nat.reduceMul, reduceIte, reduceCtorEq, Int.reduceBEq, Int.reduceBNe, Int.reduceEq, Int.reduceLT, Int.reduceLE, Int.reduceNeg, Int.reduceAdd, Int.reduceSub, Int.reduceToNat, Int.reduceMul, Itm.cells])))
  refine APure.callW awake_p ?_
  by_cases hb : (1000 : Int) < i.name.size
  · (repeat' (first | (with_reducible refine W_seq_k (fun _ _ => ?_)) | (with_reducible refine W_block_k (fun _ _ => ?_)) | (with_reducible refine W_draw_k ?_ ?_ ?_; kernel_rfl; kernel_rfl) | (with_reducible refine Gq_false ?_) | (with_reducible refine Gq_any ?_) | (with_reducible apply_assumption -exfalso -symm) | (simp only [go_sem, Nat.reduceEqDiff, Nat.reduceAdd, Nat.reduceSub, Nat.reduceLT, Nat.reduceLeDiff, Nat.reduceMul, reduceIte, reduceCtorEq, Int.reduceBEq, Int.reduceBNe, Int.reduceEq, Int.reduceLT, Int.reduceLE, Int.reduceNeg, Int.reduceAdd, Int.reduceSub, Int.reduceToNat, Int.reduceMul, hb])))
  (repeat' (first | (with_reducible refine W_seq_k (fun _ _ => ?_)) | (with_reducible refine W_block_k (fun _ _ => ?_)) | (with_reducible refine W_draw_k ?_ ?_ ?_; kernel_rfl; kernel_rfl) | (with_reducible refine Gq_false ?_) | (with_reducible refine Gq_any ?_) | (with_reducible apply_assumption -exfalso -symm) | (simp only [go_sem, Nat.reduceEqDiff, Nat.reduceAdd, Nat.reduceSub, Nat.reduceLT, Nat.reduceLeDiff, Nat.reduceMul, reduceIte, reduceCtorEq, Int.reduceBEq, Int.reduceBNe, Int.reduceEq, Int.reduceLT, Int.reduceLE, Int.reduceNeg, Int.reduceAdd, Int.reduceSub, Int.reduceToNat, Int.reduceMul, hb])))
  refine APure.callE (next_p i n) (by simp only [Itm.cells]) ?_
  (repeat' (first | (with_reducible refine W_seq_k (fun _ _ => ?_)) | (with_reducible refine W_block_k (fun _ _ => ?_)) | (with_reducible refine W_draw_k ?_ ?_ ?_; kernel_rfl; kernel_rfl) | (with_reducible refine Gq_false ?_) | (with_reducible refine Gq_any ?_) | (with_reducible apply_assumption -exfalso -symm) | (simp only [go_sem, Nat.reduceEqDiff, Nat.reduceAdd, Nat.reduceSub, Nat.reduceLT, Nat.reduceLeDiff, Nat.reduceMul, reduceIte, reduceCtorEq, Int.reduceBEq, Int.reduceBNe, Int.reduceEq, Int.reduceLT, Int.reduceLE, Int.reduceNeg, Int.reduceAdd, Int.reduceSub, Int.reduceToNat, Int.reduceMul])))
  refine APure.callE (refnext_p i n) (by simp only [Itm.cells]) ?_
  (repeat' (first | (with_reducible refine W_seq_k (fun _ _ => ?_)) | (with_reducible refine W_block_k (fun _ _ => ?_)) | (with_reducible refine W_draw_k ?_ ?_ ?_; kernel_rfl; kernel_rfl) | (with_reducible refine Gq_false ?_) | (with_reducible refine Gq_any ?_) | (with_reducible apply_assumption -exfalso -symm) | (simp only [go_sem, Nat.reduceEqDiff, Nat.reduceAdd, Nat.reduceSub, Nat.reduceLT, Nat.reduceLeDiff, Nat.reduceMul, reduceIte, reduceCtorEq, Int.reduceBEq, Int.reduceBNe, Int.reduceEq, Int.reduceLT, Int.reduceLE, Int.reduceNeg, Int.reduceAdd, Int.reduceSub, Int.reduceToNat, Int.reduceMul])))
  first | refine APure.callE (classes_p i) (by simp only [Itm.cells]) ?_ | refine APure.callQE (classes_p i) (by simp only [Itm.cells]) ?_
  (repeat' (first | (with_reducible refine W_seq_k (fun _ _ => ?_)) | (with_reducible refine W_block_k (fun _ _ => ?_)) | (with_reducible refine W_draw_k ?_ ?_ ?_; kernel_rfl; kernel_rfl) | (with_reducible refine Gq_false ?_) | (with_reducible refine Gq_any ?_) | (with_reducible apply_assumption -exfalso -symm) | (simp only [go_sem, Nat.reduceEqDiff, Nat.reduceAdd, Nat.reduceSub, Nat.reduceLT, Nat.reduceLeDiff, Nat.reduceMul, reduceIte, reduceCtorEq, Int.reduceBEq, Int.reduceBNe, Int.reduceEq, Int.reduceLT, Int.reduceLE, Int.reduceNeg, Int.reduceAdd, Int.reduceSub, Int.reduceToNat, Int.reduceMul])))
  first | refine APure.callE (refclasses_p i) (by simp only [Itm.cells]) ?_ | refine APure.callQE (refclasses_p i) (by simp only [Itm.cells]) ?_
  (repeat' (first | (with_reducible refine W_seq_k (fun _ _ => ?_)) | (with_reducible refine W_block_k (fun _ _ => ?_)) | (with_reducible refine W_draw_k ?_ ?_ ?_; kernel_rfl; kernel_rfl) | (with_reducible refine Gq_false ?_) | (with_reducible refine Gq_any ?_) | (with_reducible apply_assumption -exfalso -symm) | (simp only [go_sem, Nat.reduceEqDiff, Nat.reduceAdd, Nat.reduceSub, Nat.reduceLT, Nat.reduceLeDiff, Nat.reduceMul, reduceIte, reduceCtorEq, Int.reduceBEq, Int.reduceBNe, Int.reduceEq, Int.reduceLT, Int.reduceLE, Int.reduceNeg, Int.reduceAdd, Int.reduceSub, Int.reduceToNat, Int.reduceMul])))
  have hl : (cls i).length < 2 ^ 62 := Nat.lt_of_le_of_lt (cls_len i) (by decide)
  first | refine APure.callW (ints_p _ _ hl hl) ?_ | refine APure.callQ (ints_p _ _ hl hl) ?_
  (repeat' (first | (with_reducible refine W_seq_k (fun _ _ => ?_)) | (with_reducible refine W_block_k (fun _ _ => ?_)) | (with_reducible refine W_draw_k ?_ ?_ ?_; kernel_rfl; kernel_rfl) | (with_reducible refine Gq_false ?_) | (with_reducible refine Gq_any ?_) | (with_reducible apply_assumption -exfalso -symm) | (simp only [go_sem, Nat.reduceEqDiff, Nat.reduceAdd, Nat.reduceSub, Nat.reduceLT, Nat.reduceLeDiff, Nat.reduceMul, reduceIte, reduceCtorEq, Int.reduceBEq, Int.reduceBNe, Int.reduceEq, Int.reduceLT, Int.reduceLE, Int.reduceNeg, Int.reduceAdd, Int.reduceSub, Int.reduceToNat, Int.reduceMul])))
/-- How far a class reaches. -/
def rngB (k n far : Int) : Bool :=
  if k = 4 ∧ n = 2 then decide (-256 ≤ far) && decide (far < 256)
  else if k = 4 ∧ n = 4 then decide (-4096 ≤ far) && decide (far < 4096)
  else if k = 4 then decide (-1048572 ≤ far) && decide (far < 1048580)
  else if n = 2 then decide (-2048 ≤ far) && decide (far < 2048)
  else if n = 8 then true
  else decide (-1048576 ≤ far) && decide (far < 1048576)
theorem reach_iff (i : Itm) (n far : Int) (hf : -2147483648 ≤ far ∧ far < 2147483648) : reachB i n far = true ↔ (cls i).contains n = true ∧ 4 ≤ i.kind ∧ i.kind ≤ 6 ∧ far % 2 = 0 ∧ rngB i.kind n far = true := by
  rw [reach_eq i n far hf]
  have hw : IntKind.i64.wrap (far - 4) = far - 4 := wrap_i64 (by omega) (by omega)
  have ho : (IntKind.u32.wrap far).tmod 2 = 1 ↔ far % 2 ≠ 0 := by
    rw [← odd_far, ne_eq, ← Int.dvd_iff_tmod_eq_zero, Int.dvd_iff_emod_eq_zero]
  have e : refB (cls i) i.kind n far = if (cls i).contains n = false ∨ i.kind < 4 ∨ 6 < i.kind ∨ far % 2 ≠ 0 then false else rngB i.kind n far := by
    unfold refB rngB
    rw [hw]
    simp only [ho]
    have e1 : (decide (-1048576 ≤ far - 4) && decide (far - 4 < 1048576)) = (decide (-1048572 ≤ far) && decide (far < 1048580)) := by
      rw [Bool.eq_iff_iff]; simp; omega
    rw [e1]
  rw [e]
  by_cases hc : (cls i).contains n = false ∨ i.kind < 4 ∨ 6 < i.kind ∨ far % 2 ≠ 0
  · rw [if_pos hc]
    constructor
    · intro h; cases h
    · rintro ⟨a, b, c, d, _⟩
      rcases hc with hc | hc | hc | hc
      · rw [a] at hc; cases hc
      · omega
      · omega
      · exact absurd d hc
  · rw [if_neg hc]
    constructor
    · intro h
      refine ⟨?_, ?_, ?_, ?_, h⟩
      · cases hq : (cls i).contains n with
        | true => rfl
        | false => exact absurd (.inl hq) hc
      · exact Int.not_lt.1 fun q => hc (.inr (.inl q))
      · exact Int.not_lt.1 fun q => hc (.inr (.inr (.inl q)))
      · exact Classical.not_not.1 fun q => hc (.inr (.inr (.inr q)))
    · rintro ⟨_, _, _, _, h⟩; exact h
theorem lst_mem (n : Int) : ∀ l : List Int, (lst l n).2 = true → (lst l n).1 ∈ l ∧ n < (lst l n).1
  | [], h => by cases h
  | x :: l, h => by
    rw [lst] at h ⊢
    split
    · rename_i hx; exact ⟨List.mem_cons_self .., hx⟩
    · rename_i hx; rw [if_neg hx] at h
      have := lst_mem n l h
      exact ⟨List.mem_cons_of_mem _ this.1, this.2⟩
theorem rng_mono (k n m far : Int) (hk : 4 ≤ k) (hk' : k ≤ 6) (hn : n = 4 ∨ n = 2 ∨ (n = 8 ∧ k ≠ 5)) (hm : m = 4 ∨ m = 2 ∨ (m = 8 ∧ k ≠ 5)) (h : n < m) (hr : rngB k n far = true) : rngB k m far = true := by
  have : k = 4 ∨ k = 5 ∨ k = 6 := by omega
  rcases this with rfl | rfl | rfl <;> rcases hn with rfl | rfl | ⟨rfl, hn⟩ <;> rcases hm with rfl | rfl | ⟨rfl, hm⟩ <;> first | (exact absurd h (by decide)) | (exact absurd rfl hn) | (exact absurd rfl hm) | (simp [rngB] at hr ⊢; try omega)
theorem rng_between (k n far less : Int) (hr : rngB k n far = true) (h : far ≥ 0 ∧ 0 ≤ less ∧ less ≤ far ∨ far < 0 ∧ less ≤ 0 ∧ far ≤ less) : rngB k n less = true := by
  unfold rngB at hr ⊢
  split at hr
  · rename_i c; rw [if_pos c]; simp at hr ⊢; omega
  rename_i c1; rw [if_neg c1]
  split at hr
  · rename_i c; rw [if_pos c]; simp at hr ⊢; omega
  rename_i c2; rw [if_neg c2]
  split at hr
  · rename_i c; rw [if_pos c]; simp at hr ⊢; omega
  rename_i c3; rw [if_neg c3]
  split at hr
  · rename_i c; rw [if_pos c]; simp at hr ⊢; omega
  rename_i c4; rw [if_neg c4]
  split at hr
  · rename_i c; rw [if_pos c]
  rename_i c5; rw [if_neg c5]
  simp at hr ⊢; omega
theorem reach_next (i : Itm) (n far : Int) (hf : -2147483648 ≤ far ∧ far < 2147483648) (h : reachB i n far = true) (hn : (lst (cls i) n).2 = true) : reachB i (lst (cls i) n).1 far = true := by
  rw [reach_iff i _ far hf] at h ⊢
  obtain ⟨a, b, c, d, e⟩ := h
  obtain ⟨m1, m2⟩ := lst_mem n _ hn
  have m1' : (cls i).contains (lst (cls i) n).1 = true := by rw [List.contains_iff_mem]; exact m1
  exact ⟨m1', b, c, d, rng_mono _ _ _ _ b c (cls_mem i n b c a) (cls_mem i _ b c m1') m2 e⟩
theorem reach_between (i : Itm) (n far less : Int) (hf : -2147483648 ≤ far ∧ far < 2147483648) (hl : -2147483648 ≤ less ∧ less < 2147483648) (h : reachB i n far = true) (he : less.tmod 2 = 0)
    (hb : far ≥ 0 ∧ 0 ≤ less ∧ less ≤ far ∨ far < 0 ∧ less ≤ 0 ∧ far ≤ less) : reachB i n less = true := by
  rw [reach_iff i _ far hf] at h
  rw [reach_iff i _ less hl]
  obtain ⟨a, b, c, d, e⟩ := h
  exact ⟨a, b, c, by rw [← Int.dvd_iff_emod_eq_zero, Int.dvd_iff_tmod_eq_zero]; exact he, rng_between _ _ _ _ e hb⟩
theorem law_grows_p (i : Itm) (n far less : Int) (hf : -2147483648 ≤ far ∧ far < 2147483648) (hl : -2147483648 ≤ less ∧ less < 2147483648) : APure Try.prog 5 [.agg i.cells, .p (.int .i64 n), .p (.int .i32 far), .p (.int .i32 less)] (.p (.bool true)) := by
  refine apure_of Try.func5 rfl (fun vs w => Try.call5 vs w) (by rw [Try.ntmps5]; simp) rfl (fun h hok Q hret hnorm => ?_)
  (repeat' (first | (with_reducible refine W_seq_k (fun _ _ => ?_)) | (with_reducible refine W_block_k (fun _ _ => ?_)) | (with_reducible refine W_draw_k ?_ ?_ ?_; kernel_rfl; kernel_rfl) | (with_reducible refine Gq_false ?_) | (with_reducible refine Gq_any ?_) | (with_reducible apply_assumption -exfalso -symm) | (simp only [go_sem, Nat.reduceEqDiff, Nat.reduceAdd, Nat.reduceSub, Nat.reduceLT, Nat.reduceLeDiff, Nat.reduceMul, reduceIte, reduceCtorEq, Int.reduceBEq, Int.reduceBNe, Int.reduceEq, Int.reduceLT, Int.reduceLE, Int.reduceNeg, Int.reduceAdd, Int.reduceSub, Int.reduceToNat, Int.reduceMul, Itm.cells])))
  refine APure.callW awake_p ?_
  by_cases hb : (1000 : Int) < i.name.size
  · (repeat' (first | (with_reducible refine W_seq_k (fun _ _ => ?_)) | (with_reducible refine W_block_k (fun _ _ => ?_)) | (with_reducible refine W_draw_k ?_ ?_ ?_; kernel_rfl; kernel_rfl) | (with_reducible refine Gq_false ?_) | (with_reducible refine Gq_any ?_) | (with_reducible apply_assumption -exfalso -symm) | (simp only [go_sem, Nat.reduceEqDiff, Nat.reduceAdd, Nat.reduceSub, Nat.reduceLT, Nat.reduceLeDiff, Nat.reduceMul, reduceIte, reduceCtorEq, Int.reduceBEq, Int.reduceBNe, Int.reduceEq, Int.reduceLT, Int.reduceLE, Int.reduceNeg, Int.reduceAdd, Int.reduceSub, Int.reduceToNat, Int.reduceMul, hb])))
  (repeat' (first | (with_reducible refine W_seq_k (fun _ _ => ?_)) | (with_reducible refine W_block_k (fun _ _ => ?_)) | (with_reducible refine W_draw_k ?_ ?_ ?_; kernel_rfl; kernel_rfl) | (with_reducible refine Gq_false ?_) | (with_reducible refine Gq_any ?_) | (with_reducible apply_assumption -exfalso -symm) | (simp only [go_sem, Nat.reduceEqDiff, Nat.reduceAdd, Nat.reduceSub, Nat.reduceLT, Nat.reduceLeDiff, Nat.reduceMul, reduceIte, reduceCtorEq, Int.reduceBEq, Int.reduceBNe, Int.reduceEq, Int.reduceLT, Int.reduceLE, Int.reduceNeg, Int.reduceAdd, Int.reduceSub, Int.reduceToNat, Int.reduceMul, hb])))
  first | refine APure.callE (reaches_p i n far) (by simp only [Itm.cells]) ?_ | refine APure.callQE (reaches_p i n far) (by simp only [Itm.cells]) ?_
  cases hr : reachB i n far
  · (repeat' (first | (with_reducible refine W_seq_k (fun _ _ => ?_)) | (with_reducible refine W_block_k (fun _ _ => ?_)) | (with_reducible refine W_draw_k ?_ ?_ ?_; kernel_rfl; kernel_rfl) | (with_reducible refine Gq_false ?_) | (with_reducible refine Gq_any ?_) | (with_reducible apply_assumption -exfalso -symm) | (simp only [go_sem, Nat.reduceEqDiff, Nat.reduceAdd, Nat.reduceSub, Nat.reduceLT, Nat.reduceLeDiff, Nat.reduceMul, reduceIte, reduceCtorEq, Int.reduceBEq, Int.reduceBNe, Int.reduceEq, Int.reduceLT, Int.reduceLE, Int.reduceNeg, Int.reduceAdd, Int.reduceSub, Int.reduceToNat, Int.reduceMul, hr])))
  (repeat' (first | (with_reducible refine W_seq_k (fun _ _ => ?_)) | (with_reducible refine W_block_k (fun _ _ => ?_)) | (with_reducible refine W_draw_k ?_ ?_ ?_; kernel_rfl; kernel_rfl) | (with_reducible refine Gq_false ?_) | (with_reducible refine Gq_any ?_) | (with_reducible apply_assumption -exfalso -symm) | (simp only [go_sem, Nat.reduceEqDiff, Nat.reduceAdd, Nat.reduceSub, Nat.reduceLT, Nat.reduceLeDiff, Nat.reduceMul, reduceIte, reduceCtorEq, Int.reduceBEq, Int.reduceBNe, Int.reduceEq, Int.reduceLT, Int.reduceLE, Int.reduceNeg, Int.reduceAdd, Int.reduceSub, Int.reduceToNat, Int.reduceMul, hr])))
  refine APure.callE (next_p i n) (by simp only [Itm.cells]) ?_
  cases hc : (less.tmod 2 != 0 || decide (0 ≤ far) && (decide (less < 0) || decide (far < less)) || decide (far < 0) && (decide (0 < less) || decide (less < far)))
  · have hb2 : reachB i n less = true := by
      simp only [Bool.or_eq_false_iff, Bool.and_eq_false_iff, bne_eq_false_iff_eq, decide_eq_false_iff_not] at hc
      exact reach_between i n far less hf hl hr hc.1.1 (by omega)
    cases ho : (lst (cls i) n).2
    · (repeat' (first | (with_reducible refine W_seq_k (fun _ _ => ?_)) | (with_reducible refine W_block_k (fun _ _ => ?_)) | (with_reducible refine W_draw_k ?_ ?_ ?_; kernel_rfl; kernel_rfl) | (with_reducible refine Gq_false ?_) | (with_reducible refine Gq_any ?_) | (with_reducible apply_assumption -exfalso -symm) | (simp only [go_sem, Nat.reduceEqDiff, Nat.reduceAdd, Nat.reduceSub, Nat.reduceLT, Nat.reduceLeDiff, Nat.reduceMul, reduceIte, reduceCtorEq, Int.reduceBEq, Int.reduceBNe, Int.reduceEq, Int.reduceLT, Int.reduceLE, Int.reduceNeg, Int.reduceAdd, Int.reduceSub, Int.reduceToNat, Int.reduceMul, ho, hc])))
      first | refine APure.callE (reaches_p i n less) (by simp only [Itm.cells]) ?_ | refine APure.callQE (reaches_p i n less) (by simp only [Itm.cells]) ?_
      (repeat' (first | (with_reducible refine W_seq_k (fun _ _ => ?_)) | (with_reducible refine W_block_k (fun _ _ => ?_)) | (with_reducible refine W_draw_k ?_ ?_ ?_; kernel_rfl; kernel_rfl) | (with_reducible refine Gq_false ?_) | (with_reducible refine Gq_any ?_) | (with_reducible apply_assumption -exfalso -symm) | (simp only [go_sem, Nat.reduceEqDiff, Nat.reduceAdd, Nat.reduceSub, Nat.reduceLT, Nat.reduceLeDiff, Nat.reduceMul, reduceIte, reduceCtorEq, Int.reduceBEq, Int.reduceBNe, Int.reduceEq, Int.reduceLT, Int.reduceLE, Int.reduceNeg, Int.reduceAdd, Int.reduceSub, Int.reduceToNat, Int.reduceMul, hb2])))
    · (repeat' (first | (with_reducible refine W_seq_k (fun _ _ => ?_)) | (with_reducible refine W_block_k (fun _ _ => ?_)) | (with_reducible refine W_draw_k ?_ ?_ ?_; kernel_rfl; kernel_rfl) | (with_reducible refine Gq_false ?_) | (with_reducible refine Gq_any ?_) | (with_reducible apply_assumption -exfalso -symm) | (simp only [go_sem, Nat.reduceEqDiff, Nat.reduceAdd, Nat.reduceSub, Nat.reduceLT, Nat.reduceLeDiff, Nat.reduceMul, reduceIte, reduceCtorEq, Int.reduceBEq, Int.reduceBNe, Int.reduceEq, Int.reduceLT, Int.reduceLE, Int.reduceNeg, Int.reduceAdd, Int.reduceSub, Int.reduceToNat, Int.reduceMul, ho])))
      first | refine APure.callE (reaches_p i (lst (cls i) n).1 far) (by simp only [Itm.cells]) ?_ | refine APure.callQE (reaches_p i (lst (cls i) n).1 far) (by simp only [Itm.cells]) ?_
      (repeat' (first | (with_reducible refine W_seq_k (fun _ _ => ?_)) | (with_reducible refine W_block_k (fun _ _ => ?_)) | (with_reducible refine W_draw_k ?_ ?_ ?_; kernel_rfl; kernel_rfl) | (with_reducible refine Gq_false ?_) | (with_reducible refine Gq_any ?_) | (with_reducible apply_assumption -exfalso -symm) | (simp only [go_sem, Nat.reduceEqDiff, Nat.reduceAdd, Nat.reduceSub, Nat.reduceLT, Nat.reduceLeDiff, Nat.reduceMul, reduceIte, reduceCtorEq, Int.reduceBEq, Int.reduceBNe, Int.reduceEq, Int.reduceLT, Int.reduceLE, Int.reduceNeg, Int.reduceAdd, Int.reduceSub, Int.reduceToNat, Int.reduceMul, reach_next i n far hf hr ho, hc])))
      first | refine APure.callE (reaches_p i n less) (by simp only [Itm.cells]) ?_ | refine APure.callQE (reaches_p i n less) (by simp only [Itm.cells]) ?_
      (repeat' (first | (with_reducible refine W_seq_k (fun _ _ => ?_)) | (with_reducible refine W_block_k (fun _ _ => ?_)) | (with_reducible refine W_draw_k ?_ ?_ ?_; kernel_rfl; kernel_rfl) | (with_reducible refine Gq_false ?_) | (with_reducible refine Gq_any ?_) | (with_reducible apply_assumption -exfalso -symm) | (simp only [go_sem, Nat.reduceEqDiff, Nat.reduceAdd, Nat.reduceSub, Nat.reduceLT, Nat.reduceLeDiff, Nat.reduceMul, reduceIte, reduceCtorEq, Int.reduceBEq, Int.reduceBNe, Int.reduceEq, Int.reduceLT, Int.reduceLE, Int.reduceNeg, Int.reduceAdd, Int.reduceSub, Int.reduceToNat, Int.reduceMul, hb2])))
  · cases ho : (lst (cls i) n).2
    · (repeat' (first | (with_reducible refine W_seq_k (fun _ _ => ?_)) | (with_reducible refine W_block_k (fun _ _ => ?_)) | (with_reducible refine W_draw_k ?_ ?_ ?_; kernel_rfl; kernel_rfl) | (with_reducible refine Gq_false ?_) | (with_reducible refine Gq_any ?_) | (with_reducible apply_assumption -exfalso -symm) | (simp only [go_sem, Nat.reduceEqDiff, Nat.reduceAdd, Nat.reduceSub, Nat.reduceLT, Nat.reduceLeDiff, Nat.reduceMul, reduceIte, reduceCtorEq, Int.reduceBEq, Int.reduceBNe, Int.reduceEq, Int.reduceLT, Int.reduceLE, Int.reduceNeg, Int.reduceAdd, Int.reduceSub, Int.reduceToNat, Int.reduceMul, ho, hc])))
    · (repeat' (first | (with_reducible refine W_seq_k (fun _ _ => ?_)) | (with_reducible refine W_block_k (fun _ _ => ?_)) | (with_reducible refine W_draw_k ?_ ?_ ?_; kernel_rfl; kernel_rfl) | (with_reducible refine Gq_false ?_) | (with_reducible refine Gq_any ?_) | (with_reducible apply_assumption -exfalso -symm) | (simp only [go_sem, Nat.reduceEqDiff, Nat.reduceAdd, Nat.reduceSub, Nat.reduceLT, Nat.reduceLeDiff, Nat.reduceMul, reduceIte, reduceCtorEq, Int.reduceBEq, Int.reduceBNe, Int.reduceEq, Int.reduceLT, Int.reduceLE, Int.reduceNeg, Int.reduceAdd, Int.reduceSub, Int.reduceToNat, Int.reduceMul, ho])))
      first | refine APure.callE (reaches_p i (lst (cls i) n).1 far) (by simp only [Itm.cells]) ?_ | refine APure.callQE (reaches_p i (lst (cls i) n).1 far) (by simp only [Itm.cells]) ?_
      (repeat' (first | (with_reducible refine W_seq_k (fun _ _ => ?_)) | (with_reducible refine W_block_k (fun _ _ => ?_)) | (with_reducible refine W_draw_k ?_ ?_ ?_; kernel_rfl; kernel_rfl) | (with_reducible refine Gq_false ?_) | (with_reducible refine Gq_any ?_) | (with_reducible apply_assumption -exfalso -symm) | (simp only [go_sem, Nat.reduceEqDiff, Nat.reduceAdd, Nat.reduceSub, Nat.reduceLT, Nat.reduceLeDiff, Nat.reduceMul, reduceIte, reduceCtorEq, Int.reduceBEq, Int.reduceBNe, Int.reduceEq, Int.reduceLT, Int.reduceLE, Int.reduceNeg, Int.reduceAdd, Int.reduceSub, Int.reduceToNat, Int.reduceMul, reach_next i n far hf hr ho, hc])))
end Go.Proofs.Ytmbepfdnmgiifaa
