import Derived.Test.YtmbepfdnmgiifaaSpanD
set_option linter.unusedVariables false
set_option linter.unusedSimpArgs false
namespace Go.Proofs.Ytmbepfdnmgiifaa
open Go.Vp
set_option maxRecDepth 100000
set_option maxHeartbeats 1000000
abbrev RefP (i : Itm) : Prop := APure Try.prog 14 [.agg i.cells] (.sl 1 (ints .i64 (cls i)) none)
theorem short4 (i : Itm) (h : i.kind = 4) : shortB i = (i.rvc && fewB i.ins) := by simp [shortB, h]
theorem short5 (i : Itm) (h : i.kind ≠ 4) : shortB i = i.rvc := by simp [shortB, h]
theorem le15 (n : Int) : decide (n ≤ 15) = decide (n < 16) := by rw [decide_eq_decide]; omega
theorem ref_fix (i : Itm) (k : Int) (h4 : i.kind = k) (hk : k = 4 ∨ k = 5 ∨ k = 6) (hg : i.grow = false) : RefP i := by
  refine apure_ofF Try.func14 rfl (fun vs w => Try.call14 vs w) (by rw [Try.ntmps14]; simp) rfl (fun h hok Q hret hnorm => ?_)
  rcases hk with rfl | rfl | rfl <;> (repeat' (first | (with_reducible refine W_seq_k (fun _ _ => ?_)) | (with_reducible refine W_block_k (fun _ _ => ?_)) | (with_reducible refine W_draw_k ?_ ?_ ?_; kernel_rfl; kernel_rfl) | (with_reducible refine Gq_false ?_) | (with_reducible refine Gq_any ?_) | (with_reducible apply_assumption -exfalso -symm) | (simp only [go_sem, Nat.reduceEqDiff, Nat.reduceAdd, Nat.reduceSub, Nat.reduceLT, Nat.reduceLeDiff, Nat.reduceMul, reduceIte, reduceCtorEq, Int.reduceBEq, Int.reduceBNe, Int.reduceEq, Int.reduceLT, Int.reduceLE, Int.reduceNeg, Int.reduceAdd, Int.reduceSub, Int.reduceToNat, Int.reduceMul, Itm.cells, h4, hg, cls, ints])))
theorem ref_4 (i : Itm) (h4 : i.kind = 4) (hg : i.grow = true) : RefP i := by
  refine apure_ofF Try.func14 rfl (fun vs w => Try.call14 vs w) (by rw [Try.ntmps14]; simp) rfl (fun h hok Q hret hnorm => ?_)
  have e := short4 i h4
  have f : shortB i = (i.rvc && (i.ins.op == 5 || i.ins.op == 6) && i.ins.rs2 == 0 && decide (8 ≤ i.ins.rs1) && decide (i.ins.rs1 < 16)) := by rw [e, fewB]; simp only [Bool.and_assoc]
  cases hs : shortB i
  · rw [hs] at f
    (repeat' (first | (with_reducible refine W_seq_k (fun _ _ => ?_)) | (with_reducible refine W_block_k (fun _ _ => ?_)) | (with_reducible refine W_draw_k ?_ ?_ ?_; kernel_rfl; kernel_rfl) | (with_reducible refine Gq_false ?_) | (with_reducible refine Gq_any ?_) | (with_reducible apply_assumption -exfalso -symm) | (simp only [go_sem, Nat.reduceEqDiff, Nat.reduceAdd, Nat.reduceSub, Nat.reduceLT, Nat.reduceLeDiff, Nat.reduceMul, reduceIte, reduceCtorEq, Int.reduceBEq, Int.reduceBNe, Int.reduceEq, Int.reduceLT, Int.reduceLE, Int.reduceNeg, Int.reduceAdd, Int.reduceSub, Int.reduceToNat, Int.reduceMul, Itm.cells, h4, hg, cls, ints, le15, hs, ← f])))
  · rw [hs] at f
    (repeat' (first | (with_reducible refine W_seq_k (fun _ _ => ?_)) | (with_reducible refine W_block_k (fun _ _ => ?_)) | (with_reducible refine W_draw_k ?_ ?_ ?_; kernel_rfl; kernel_rfl) | (with_reducible refine Gq_false ?_) | (with_reducible refine Gq_any ?_) | (with_reducible apply_assumption -exfalso -symm) | (simp only [go_sem, Nat.reduceEqDiff, Nat.reduceAdd, Nat.reduceSub, Nat.reduceLT, Nat.reduceLeDiff, Nat.reduceMul, reduceIte, reduceCtorEq, Int.reduceBEq, Int.reduceBNe, Int.reduceEq, Int.reduceLT, Int.reduceLE, Int.reduceNeg, Int.reduceAdd, Int.reduceSub, Int.reduceToNat, Int.reduceMul, Itm.cells, h4, hg, cls, ints, le15, hs, ← f])))
theorem ref_56 (i : Itm) (k : Int) (h4 : i.kind = k) (hk : k = 5 ∨ k = 6) (hg : i.grow = true) : RefP i := by
  refine apure_ofF Try.func14 rfl (fun vs w => Try.call14 vs w) (by rw [Try.ntmps14]; simp) rfl (fun h hok Q hret hnorm => ?_)
  have e := short5 i (by rw [h4]; omega)
  rcases hk with rfl | rfl <;> cases hr : i.rvc <;> rw [hr] at e <;> (repeat' (first | (with_reducible refine W_seq_k (fun _ _ => ?_)) | (with_reducible refine W_block_k (fun _ _ => ?_)) | (with_reducible refine W_draw_k ?_ ?_ ?_; kernel_rfl; kernel_rfl) | (with_reducible refine Gq_false ?_) | (with_reducible refine Gq_any ?_) | (with_reducible apply_assumption -exfalso -symm) | (simp only [go_sem, Nat.reduceEqDiff, Nat.reduceAdd, Nat.reduceSub, Nat.reduceLT, Nat.reduceLeDiff, Nat.reduceMul, reduceIte, reduceCtorEq, Int.reduceBEq, Int.reduceBNe, Int.reduceEq, Int.reduceLT, Int.reduceLE, Int.reduceNeg, Int.reduceAdd, Int.reduceSub, Int.reduceToNat, Int.reduceMul, Itm.cells, h4, hg, cls, ints, hr, e])))
theorem ref_two (i : Itm) (k : Int) (hk : i.kind = k) (hh : k = 2 ∨ k = 3) : RefP i := by
  refine apure_ofF Try.func14 rfl (fun vs w => Try.call14 vs w) (by rw [Try.ntmps14]; simp) rfl (fun h hok Q hret hnorm => ?_)
  rcases hh with rfl | rfl
  all_goals
    by_cases hs : i.size = 2
    · (repeat' (first | (with_reducible refine W_seq_k (fun _ _ => ?_)) | (with_reducible refine W_block_k (fun _ _ => ?_)) | (with_reducible refine W_draw_k ?_ ?_ ?_; kernel_rfl; kernel_rfl) | (with_reducible refine Gq_false ?_) | (with_reducible refine Gq_any ?_) | (with_reducible apply_assumption -exfalso -symm) | (simp only [go_sem, Nat.reduceEqDiff, Nat.reduceAdd, Nat.reduceSub, Nat.reduceLT, Nat.reduceLeDiff, Nat.reduceMul, reduceIte, reduceCtorEq, Int.reduceBEq, Int.reduceBNe, Int.reduceEq, Int.reduceLT, Int.reduceLE, Int.reduceNeg, Int.reduceAdd, Int.reduceSub, Int.reduceToNat, Int.reduceMul, Itm.cells, hk, hs, cls, ints])))
    · have hs' : (i.size == 2) = false := by simpa using hs
      (repeat' (first | (with_reducible refine W_seq_k (fun _ _ => ?_)) | (with_reducible refine W_block_k (fun _ _ => ?_)) | (with_reducible refine W_draw_k ?_ ?_ ?_; kernel_rfl; kernel_rfl) | (with_reducible refine Gq_false ?_) | (with_reducible refine Gq_any ?_) | (with_reducible apply_assumption -exfalso -symm) | (simp only [go_sem, Nat.reduceEqDiff, Nat.reduceAdd, Nat.reduceSub, Nat.reduceLT, Nat.reduceLeDiff, Nat.reduceMul, reduceIte, reduceCtorEq, Int.reduceBEq, Int.reduceBNe, Int.reduceEq, Int.reduceLT, Int.reduceLE, Int.reduceNeg, Int.reduceAdd, Int.reduceSub, Int.reduceToNat, Int.reduceMul, Itm.cells, hk, hs, hs', cls, ints])))
theorem ref_data (i : Itm) (hk : i.kind = 8) : RefP i := by
  refine apure_ofF Try.func14 rfl (fun vs w => Try.call14 vs w) (by rw [Try.ntmps14]; simp) rfl (fun h hok Q hret hnorm => ?_)
  by_cases hs : i.size = 2
  · (repeat' (first | (with_reducible refine W_seq_k (fun _ _ => ?_)) | (with_reducible refine W_block_k (fun _ _ => ?_)) | (with_reducible refine W_draw_k ?_ ?_ ?_; kernel_rfl; kernel_rfl) | (with_reducible refine Gq_false ?_) | (with_reducible refine Gq_any ?_) | (with_reducible apply_assumption -exfalso -symm) | (simp only [go_sem, Nat.reduceEqDiff, Nat.reduceAdd, Nat.reduceSub, Nat.reduceLT, Nat.reduceLeDiff, Nat.reduceMul, reduceIte, reduceCtorEq, Int.reduceBEq, Int.reduceBNe, Int.reduceEq, Int.reduceLT, Int.reduceLE, Int.reduceNeg, Int.reduceAdd, Int.reduceSub, Int.reduceToNat, Int.reduceMul, Itm.cells, hk, hs, cls, ints])))
  by_cases ht : i.size = 1
  · (repeat' (first | (with_reducible refine W_seq_k (fun _ _ => ?_)) | (with_reducible refine W_block_k (fun _ _ => ?_)) | (with_reducible refine W_draw_k ?_ ?_ ?_; kernel_rfl; kernel_rfl) | (with_reducible refine Gq_false ?_) | (with_reducible refine Gq_any ?_) | (with_reducible apply_assumption -exfalso -symm) | (simp only [go_sem, Nat.reduceEqDiff, Nat.reduceAdd, Nat.reduceSub, Nat.reduceLT, Nat.reduceLeDiff, Nat.reduceMul, reduceIte, reduceCtorEq, Int.reduceBEq, Int.reduceBNe, Int.reduceEq, Int.reduceLT, Int.reduceLE, Int.reduceNeg, Int.reduceAdd, Int.reduceSub, Int.reduceToNat, Int.reduceMul, Itm.cells, hk, ht, cls, ints])))
  · have hs' : (i.size == 2) = false := by simpa using hs
    have ht' : (i.size == 1) = false := by simpa using ht
    (repeat' (first | (with_reducible refine W_seq_k (fun _ _ => ?_)) | (with_reducible refine W_block_k (fun _ _ => ?_)) | (with_reducible refine W_draw_k ?_ ?_ ?_; kernel_rfl; kernel_rfl) | (with_reducible refine Gq_false ?_) | (with_reducible refine Gq_any ?_) | (with_reducible apply_assumption -exfalso -symm) | (simp only [go_sem, Nat.reduceEqDiff, Nat.reduceAdd, Nat.reduceSub, Nat.reduceLT, Nat.reduceLeDiff, Nat.reduceMul, reduceIte, reduceCtorEq, Int.reduceBEq, Int.reduceBNe, Int.reduceEq, Int.reduceLT, Int.reduceLE, Int.reduceNeg, Int.reduceAdd, Int.reduceSub, Int.reduceToNat, Int.reduceMul, Itm.cells, hk, hs, ht, hs', ht', cls, ints])))
theorem ref_one (i : Itm) (hk : i.kind = 9 ∨ i.kind = 7) : RefP i := by
  refine apure_ofF Try.func14 rfl (fun vs w => Try.call14 vs w) (by rw [Try.ntmps14]; simp) rfl (fun h hok Q hret hnorm => ?_)
  rcases hk with hk | hk <;> (repeat' (first | (with_reducible refine W_seq_k (fun _ _ => ?_)) | (with_reducible refine W_block_k (fun _ _ => ?_)) | (with_reducible refine W_draw_k ?_ ?_ ?_; kernel_rfl; kernel_rfl) | (with_reducible refine Gq_false ?_) | (with_reducible refine Gq_any ?_) | (with_reducible apply_assumption -exfalso -symm) | (simp only [go_sem, Nat.reduceEqDiff, Nat.reduceAdd, Nat.reduceSub, Nat.reduceLT, Nat.reduceLeDiff, Nat.reduceMul, reduceIte, reduceCtorEq, Int.reduceBEq, Int.reduceBNe, Int.reduceEq, Int.reduceLT, Int.reduceLE, Int.reduceNeg, Int.reduceAdd, Int.reduceSub, Int.reduceToNat, Int.reduceMul, Itm.cells, hk, cls, ints])))
theorem ref_none (i : Itm) (h2 : i.kind ≠ 2) (h3 : i.kind ≠ 3) (h4 : i.kind ≠ 4) (h5 : i.kind ≠ 5) (h6 : i.kind ≠ 6) (h7 : i.kind ≠ 7) (h8 : i.kind ≠ 8) (h9 : i.kind ≠ 9) : RefP i := by
  have hc : cls i = [0] := by simp only [cls, h2, h3, h4, h5, h6, h7, h8, h9, if_false, or_self]
  have g2 : (i.kind == 2) = false := by simpa using h2
  have g3 : (i.kind == 3) = false := by simpa using h3
  have g4 : (i.kind == 4) = false := by simpa using h4
  have g5 : (i.kind == 5) = false := by simpa using h5
  have g6 : (i.kind == 6) = false := by simpa using h6
  have g7 : (i.kind == 7) = false := by simpa using h7
  have g8 : (i.kind == 8) = false := by simpa using h8
  have g9 : (i.kind == 9) = false := by simpa using h9
  unfold RefP; rw [hc]
  refine apure_ofF Try.func14 rfl (fun vs w => Try.call14 vs w) (by rw [Try.ntmps14]; simp) rfl (fun h hok Q hret hnorm => ?_)
  (repeat' (first | (with_reducible refine W_seq_k (fun _ _ => ?_)) | (with_reducible refine W_block_k (fun _ _ => ?_)) | (with_reducible refine W_draw_k ?_ ?_ ?_; kernel_rfl; kernel_rfl) | (with_reducible refine Gq_false ?_) | (with_reducible refine Gq_any ?_) | (with_reducible apply_assumption -exfalso -symm) | (simp only [go_sem, Nat.reduceEqDiff, Nat.reduceAdd, Nat.reduceSub, Nat.reduceLT, Nat.reduceLeDiff, Nat.reduceMul, reduceIte, reduceCtorEq, Int.reduceBEq, Int.reduceBNe, Int.reduceEq, Int.reduceLT, Int.reduceLE, Int.reduceNeg, Int.reduceAdd, Int.reduceSub, Int.reduceToNat, Int.reduceMul, Itm.cells, g2, g3, g4, g5, g6, g7, g8, g9, ints])))
theorem refclasses_p (i : Itm) : RefP i := by
  by_cases h4 : i.kind = 4
  · cases hg : i.grow
    · exact ref_fix i 4 h4 (.inl rfl) hg
    · exact ref_4 i h4 hg
  by_cases h5 : i.kind = 5
  · cases hg : i.grow
    · exact ref_fix i 5 h5 (.inr (.inl rfl)) hg
    · exact ref_56 i 5 h5 (.inl rfl) hg
  by_cases h6 : i.kind = 6
  · cases hg : i.grow
    · exact ref_fix i 6 h6 (.inr (.inr rfl)) hg
    · exact ref_56 i 6 h6 (.inr rfl) hg
  by_cases h2 : i.kind = 2
  · exact ref_two i 2 h2 (.inl rfl)
  by_cases h3 : i.kind = 3
  · exact ref_two i 3 h3 (.inr rfl)
  by_cases h8 : i.kind = 8
  · exact ref_data i h8
  by_cases h9 : i.kind = 9
  · exact ref_one i (.inl h9)
  by_cases h7 : i.kind = 7
  · exact ref_one i (.inr h7)
  exact ref_none i h2 h3 h4 h5 h6 h7 h8 h9
end Go.Proofs.Ytmbepfdnmgiifaa
