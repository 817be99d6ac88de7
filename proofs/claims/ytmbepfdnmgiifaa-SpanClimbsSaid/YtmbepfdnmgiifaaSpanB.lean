import Derived.Test.YtmbepfdnmgiifaaSpanA
set_option linter.unusedVariables false
set_option linter.unusedSimpArgs false
namespace Go.Proofs.Ytmbepfdnmgiifaa
open Go.Vp
set_option maxRecDepth 100000
set_option maxHeartbeats 1000000
/-- An item's classes. -/
def cls (i : Itm) : List Int :=
  if i.kind = 4 ∨ i.kind = 5 then
    if i.grow = false then [4] else (if shortB i = true then [2] else []) ++ [4] ++ (if i.kind = 5 then [] else [8])
  else if i.kind = 6 then
    if i.grow = false then [8] else (if shortB i = true then [2] else []) ++ [4, 8]
  else if i.kind = 2 ∨ i.kind = 3 then (if i.size = 2 then [2] else [4])
  else if i.kind = 8 then (if i.size = 1 ∨ i.size = 2 then [i.size] else [4])
  else if i.kind = 9 then [(i.name.size : Int)]
  else if i.kind = 7 then [8]
  else [0]
abbrev ClsP (i : Itm) : Prop := APure Try.prog 13 [.agg i.cells] (.sl 1 (ints .i64 (cls i)) none)
theorem cls_fix (i : Itm) (h4 : i.kind = 4 ∨ i.kind = 5) (hg : i.grow = false) : ClsP i := by
  refine apure_ofF Try.func13 rfl (fun vs w => Try.call13 vs w) (by rw [Try.ntmps13]; simp) rfl (fun h hok Q hret hnorm => ?_)
  rcases h4 with h4 | h4 <;> (repeat' (first | (with_reducible refine W_seq_k (fun _ _ => ?_)) | (with_reducible refine W_block_k (fun _ _ => ?_)) | (with_reducible refine W_draw_k ?_ ?_ ?_; kernel_rfl; kernel_rfl) | (with_reducible refine Gq_false ?_) | (with_reducible refine Gq_any ?_) | (with_reducible apply_assumption -exfalso -symm) | (simp only [go_sem, Nat.reduceEqDiff, Nat.reduceAdd, Nat.reduceSub, Nat.reduceLT, Nat.reduceLeDiff, Nat.reduceMul, reduceIte, reduceCtorEq, Int.reduceBEq, Int.reduceBNe, Int.reduceEq, Int.reduceLT, Int.reduceLE, Int.reduceNeg, Int.reduceAdd, Int.reduceSub, Int.reduceToNat, Int.reduceMul, Itm.cells, h4, hg, cls, ints])))
theorem cls_far (i : Itm) (h4 : i.kind = 6) (hg : i.grow = false) : ClsP i := by
  refine apure_ofF Try.func13 rfl (fun vs w => Try.call13 vs w) (by rw [Try.ntmps13]; simp) rfl (fun h hok Q hret hnorm => ?_)
  (repeat' (first | (with_reducible refine W_seq_k (fun _ _ => ?_)) | (with_reducible refine W_block_k (fun _ _ => ?_)) | (with_reducible refine W_draw_k ?_ ?_ ?_; kernel_rfl; kernel_rfl) | (with_reducible refine Gq_false ?_) | (with_reducible refine Gq_any ?_) | (with_reducible apply_assumption -exfalso -symm) | (simp only [go_sem, Nat.reduceEqDiff, Nat.reduceAdd, Nat.reduceSub, Nat.reduceLT, Nat.reduceLeDiff, Nat.reduceMul, reduceIte, reduceCtorEq, Int.reduceBEq, Int.reduceBNe, Int.reduceEq, Int.reduceLT, Int.reduceLE, Int.reduceNeg, Int.reduceAdd, Int.reduceSub, Int.reduceToNat, Int.reduceMul, Itm.cells, h4, hg, cls, ints])))
theorem cls_grow (i : Itm) (k : Int) (h4 : i.kind = k) (hk : k = 4 ∨ k = 5 ∨ k = 6) (hg : i.grow = true) : ClsP i := by
  refine apure_ofF Try.func13 rfl (fun vs w => Try.call13 vs w) (by rw [Try.ntmps13]; simp) rfl (fun h hok Q hret hnorm => ?_)
  rcases hk with rfl | rfl | rfl
  all_goals
    (repeat' (first | (with_reducible refine W_seq_k (fun _ _ => ?_)) | (with_reducible refine W_block_k (fun _ _ => ?_)) | (with_reducible refine W_draw_k ?_ ?_ ?_; kernel_rfl; kernel_rfl) | (with_reducible refine Gq_false ?_) | (with_reducible refine Gq_any ?_) | (with_reducible apply_assumption -exfalso -symm) | (simp only [go_sem, Nat.reduceEqDiff, Nat.reduceAdd, Nat.reduceSub, Nat.reduceLT, Nat.reduceLeDiff, Nat.reduceMul, reduceIte, reduceCtorEq, Int.reduceBEq, Int.reduceBNe, Int.reduceEq, Int.reduceLT, Int.reduceLE, Int.reduceNeg, Int.reduceAdd, Int.reduceSub, Int.reduceToNat, Int.reduceMul, Itm.cells, h4, hg])))
    refine APure.callE (short_p i) (by simp only [Itm.cells, h4, hg]) ?_
    cases hs : shortB i <;> (repeat' (first | (with_reducible refine W_seq_k (fun _ _ => ?_)) | (with_reducible refine W_block_k (fun _ _ => ?_)) | (with_reducible refine W_draw_k ?_ ?_ ?_; kernel_rfl; kernel_rfl) | (with_reducible refine Gq_false ?_) | (with_reducible refine Gq_any ?_) | (with_reducible apply_assumption -exfalso -symm) | (simp only [go_sem, Nat.reduceEqDiff, Nat.reduceAdd, Nat.reduceSub, Nat.reduceLT, Nat.reduceLeDiff, Nat.reduceMul, reduceIte, reduceCtorEq, Int.reduceBEq, Int.reduceBNe, Int.reduceEq, Int.reduceLT, Int.reduceLE, Int.reduceNeg, Int.reduceAdd, Int.reduceSub, Int.reduceToNat, Int.reduceMul, Itm.cells, h4, hg, shortL, hs, cls, ints])))
theorem cls_two (i : Itm) (k : Int) (hk : i.kind = k) (hh : k = 2 ∨ k = 3) : ClsP i := by
  refine apure_ofF Try.func13 rfl (fun vs w => Try.call13 vs w) (by rw [Try.ntmps13]; simp) rfl (fun h hok Q hret hnorm => ?_)
  rcases hh with rfl | rfl
  all_goals
    by_cases hs : i.size = 2
    · (repeat' (first | (with_reducible refine W_seq_k (fun _ _ => ?_)) | (with_reducible refine W_block_k (fun _ _ => ?_)) | (with_reducible refine W_draw_k ?_ ?_ ?_; kernel_rfl; kernel_rfl) | (with_reducible refine Gq_false ?_) | (with_reducible refine Gq_any ?_) | (with_reducible apply_assumption -exfalso -symm) | (simp only [go_sem, Nat.reduceEqDiff, Nat.reduceAdd, Nat.reduceSub, Nat.reduceLT, Nat.reduceLeDiff, Nat.reduceMul, reduceIte, reduceCtorEq, Int.reduceBEq, Int.reduceBNe, Int.reduceEq, Int.reduceLT, Int.reduceLE, Int.reduceNeg, Int.reduceAdd, Int.reduceSub, Int.reduceToNat, Int.reduceMul, Itm.cells, hk, hs, cls, ints])))
    · have hs' : (i.size == 2) = false := by simpa using hs
      (repeat' (first | (with_reducible refine W_seq_k (fun _ _ => ?_)) | (with_reducible refine W_block_k (fun _ _ => ?_)) | (with_reducible refine W_draw_k ?_ ?_ ?_; kernel_rfl; kernel_rfl) | (with_reducible refine Gq_false ?_) | (with_reducible refine Gq_any ?_) | (with_reducible apply_assumption -exfalso -symm) | (simp only [go_sem, Nat.reduceEqDiff, Nat.reduceAdd, Nat.reduceSub, Nat.reduceLT, Nat.reduceLeDiff, Nat.reduceMul, reduceIte, reduceCtorEq, Int.reduceBEq, Int.reduceBNe, Int.reduceEq, Int.reduceLT, Int.reduceLE, Int.reduceNeg, Int.reduceAdd, Int.reduceSub, Int.reduceToNat, Int.reduceMul, Itm.cells, hk, hs, hs', cls, ints])))
theorem cls_data (i : Itm) (hk : i.kind = 8) : ClsP i := by
  refine apure_ofF Try.func13 rfl (fun vs w => Try.call13 vs w) (by rw [Try.ntmps13]; simp) rfl (fun h hok Q hret hnorm => ?_)
  by_cases hs : i.size = 2
  · (repeat' (first | (with_reducible refine W_seq_k (fun _ _ => ?_)) | (with_reducible refine W_block_k (fun _ _ => ?_)) | (with_reducible refine W_draw_k ?_ ?_ ?_; kernel_rfl; kernel_rfl) | (with_reducible refine Gq_false ?_) | (with_reducible refine Gq_any ?_) | (with_reducible apply_assumption -exfalso -symm) | (simp only [go_sem, Nat.reduceEqDiff, Nat.reduceAdd, Nat.reduceSub, Nat.reduceLT, Nat.reduceLeDiff, Nat.reduceMul, reduceIte, reduceCtorEq, Int.reduceBEq, Int.reduceBNe, Int.reduceEq, Int.reduceLT, Int.reduceLE, Int.reduceNeg, Int.reduceAdd, Int.reduceSub, Int.reduceToNat, Int.reduceMul, Itm.cells, hk, hs, cls, ints])))
  by_cases ht : i.size = 1
  · (repeat' (first | (with_reducible refine W_seq_k (fun _ _ => ?_)) | (with_reducible refine W_block_k (fun _ _ => ?_)) | (with_reducible refine W_draw_k ?_ ?_ ?_; kernel_rfl; kernel_rfl) | (with_reducible refine Gq_false ?_) | (with_reducible refine Gq_any ?_) | (with_reducible apply_assumption -exfalso -symm) | (simp only [go_sem, Nat.reduceEqDiff, Nat.reduceAdd, Nat.reduceSub, Nat.reduceLT, Nat.reduceLeDiff, Nat.reduceMul, reduceIte, reduceCtorEq, Int.reduceBEq, Int.reduceBNe, Int.reduceEq, Int.reduceLT, Int.reduceLE, Int.reduceNeg, Int.reduceAdd, Int.reduceSub, Int.reduceToNat, Int.reduceMul, Itm.cells, hk, ht, cls, ints])))
  · have hs' : (i.size == 2) = false := by simpa using hs
    have ht' : (i.size == 1) = false := by simpa using ht
    (repeat' (first | (with_reducible refine W_seq_k (fun _ _ => ?_)) | (with_reducible refine W_block_k (fun _ _ => ?_)) | (with_reducible refine W_draw_k ?_ ?_ ?_; kernel_rfl; kernel_rfl) | (with_reducible refine Gq_false ?_) | (with_reducible refine Gq_any ?_) | (with_reducible apply_assumption -exfalso -symm) | (simp only [go_sem, Nat.reduceEqDiff, Nat.reduceAdd, Nat.reduceSub, Nat.reduceLT, Nat.reduceLeDiff, Nat.reduceMul, reduceIte, reduceCtorEq, Int.reduceBEq, Int.reduceBNe, Int.reduceEq, Int.reduceLT, Int.reduceLE, Int.reduceNeg, Int.reduceAdd, Int.reduceSub, Int.reduceToNat, Int.reduceMul, Itm.cells, hk, hs, ht, hs', ht', cls, ints])))
theorem cls_one (i : Itm) (hk : i.kind = 9 ∨ i.kind = 7) : ClsP i := by
  refine apure_ofF Try.func13 rfl (fun vs w => Try.call13 vs w) (by rw [Try.ntmps13]; simp) rfl (fun h hok Q hret hnorm => ?_)
  rcases hk with hk | hk <;> (repeat' (first | (with_reducible refine W_seq_k (fun _ _ => ?_)) | (with_reducible refine W_block_k (fun _ _ => ?_)) | (with_reducible refine W_draw_k ?_ ?_ ?_; kernel_rfl; kernel_rfl) | (with_reducible refine Gq_false ?_) | (with_reducible refine Gq_any ?_) | (with_reducible apply_assumption -exfalso -symm) | (simp only [go_sem, Nat.reduceEqDiff, Nat.reduceAdd, Nat.reduceSub, Nat.reduceLT, Nat.reduceLeDiff, Nat.reduceMul, reduceIte, reduceCtorEq, Int.reduceBEq, Int.reduceBNe, Int.reduceEq, Int.reduceLT, Int.reduceLE, Int.reduceNeg, Int.reduceAdd, Int.reduceSub, Int.reduceToNat, Int.reduceMul, Itm.cells, hk, cls, ints])))
theorem cls_none (i : Itm) (h2 : i.kind ≠ 2) (h3 : i.kind ≠ 3) (h4 : i.kind ≠ 4) (h5 : i.kind ≠ 5) (h6 : i.kind ≠ 6) (h7 : i.kind ≠ 7) (h8 : i.kind ≠ 8) (h9 : i.kind ≠ 9) : ClsP i := by
  have hc : cls i = [0] := by simp only [cls, h2, h3, h4, h5, h6, h7, h8, h9, if_false, or_self]
  have g2 : (i.kind == 2) = false := by simpa using h2
  have g3 : (i.kind == 3) = false := by simpa using h3
  have g4 : (i.kind == 4) = false := by simpa using h4
  have g5 : (i.kind == 5) = false := by simpa using h5
  have g6 : (i.kind == 6) = false := by simpa using h6
  have g7 : (i.kind == 7) = false := by simpa using h7
  have g8 : (i.kind == 8) = false := by simpa using h8
  have g9 : (i.kind == 9) = false := by simpa using h9
  unfold ClsP; rw [hc]
  refine apure_ofF Try.func13 rfl (fun vs w => Try.call13 vs w) (by rw [Try.ntmps13]; simp) rfl (fun h hok Q hret hnorm => ?_)
  (repeat' (first | (with_reducible refine W_seq_k (fun _ _ => ?_)) | (with_reducible refine W_block_k (fun _ _ => ?_)) | (with_reducible refine W_draw_k ?_ ?_ ?_; kernel_rfl; kernel_rfl) | (with_reducible refine Gq_false ?_) | (with_reducible refine Gq_any ?_) | (with_reducible apply_assumption -exfalso -symm) | (simp only [go_sem, Nat.reduceEqDiff, Nat.reduceAdd, Nat.reduceSub, Nat.reduceLT, Nat.reduceLeDiff, Nat.reduceMul, reduceIte, reduceCtorEq, Int.reduceBEq, Int.reduceBNe, Int.reduceEq, Int.reduceLT, Int.reduceLE, Int.reduceNeg, Int.reduceAdd, Int.reduceSub, Int.reduceToNat, Int.reduceMul, Itm.cells, g2, g3, g4, g5, g6, g7, g8, g9, ints])))
theorem classes_p (i : Itm) : ClsP i := by
  by_cases h4 : i.kind = 4
  · cases hg : i.grow
    · exact cls_fix i (.inl h4) hg
    · exact cls_grow i 4 h4 (.inl rfl) hg
  by_cases h5 : i.kind = 5
  · cases hg : i.grow
    · exact cls_fix i (.inr h5) hg
    · exact cls_grow i 5 h5 (.inr (.inl rfl)) hg
  by_cases h6 : i.kind = 6
  · cases hg : i.grow
    · exact cls_far i h6 hg
    · exact cls_grow i 6 h6 (.inr (.inr rfl)) hg
  by_cases h2 : i.kind = 2
  · exact cls_two i 2 h2 (.inl rfl)
  by_cases h3 : i.kind = 3
  · exact cls_two i 3 h3 (.inr rfl)
  by_cases h8 : i.kind = 8
  · exact cls_data i h8
  by_cases h9 : i.kind = 9
  · exact cls_one i (.inl h9)
  by_cases h7 : i.kind = 7
  · exact cls_one i (.inr h7)
  exact cls_none i h2 h3 h4 h5 h6 h7 h8 h9
end Go.Proofs.Ytmbepfdnmgiifaa
