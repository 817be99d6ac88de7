import Derived.Test.YtmbepfdnmgiifaaFacts
import Derived.Test.YtmbepfdnmgiifaaVn
import Derived.Test.YtmbepfdnmgiifaaRows
set_option linter.unusedVariables false
set_option linter.unusedSimpArgs false
namespace Go.Proofs.Ytmbepfdnmgiifaa
open Go.Vp

def fewB (i : Ins) : Bool := (i.op == 5 || i.op == 6) && i.rs2 == 0 && decide (8 ≤ i.rs1) && decide (i.rs1 < 16)

set_option maxRecDepth 100000
set_option maxHeartbeats 1000000
theorem few_p (i : Ins) : APure Try.prog 22 [.agg i.cells] (.p (.bool (fewB i))) := by
  refine apure_of Try.func22 rfl (fun vs w => Try.call22 vs w) (by rw [Try.ntmps22]; simp) rfl (fun h hok Q hret hnorm => ?_)
  (repeat' (first | (with_reducible refine W_seq_k (fun _ _ => ?_)) | (with_reducible refine W_block_k (fun _ _ => ?_)) | (with_reducible refine W_draw_k ?_ ?_ ?_; kernel_rfl; kernel_rfl) | (with_reducible refine Gq_false ?_) | (with_reducible refine Gq_any ?_) | (with_reducible apply_assumption -exfalso -symm) | (simp only [go_sem, Nat.reduceEqDiff, Nat.reduceAdd, Nat.reduceSub, Nat.reduceLT, Nat.reduceLeDiff, Nat.reduceMul, reduceIte, reduceCtorEq, Int.reduceBEq, Int.reduceBNe, Int.reduceEq, Int.reduceLT, Int.reduceLE, Int.reduceNeg, Int.reduceAdd, Int.reduceSub, Int.reduceToNat, Int.reduceMul, Ins.cells, fewB])))

def shortB (i : Itm) : Bool := i.rvc && (i.kind != 4 || fewB i.ins)
def shortL (i : Itm) : AV := if shortB i = true then .sl 1 [[.p (.int .i64 2)]] (some 1) else .p (.slice none 0 0)
theorem short_p (i : Itm) : APure Try.prog 19 [.agg i.cells] (shortL i) := by
  refine apure_of Try.func19 rfl (fun vs w => Try.call19 vs w) (by rw [Try.ntmps19]; simp) (by unfold shortL; split <;> rfl) (fun h hok Q hret hnorm => ?_)
  cases hr : i.rvc
  · (repeat' (first | (with_reducible refine W_seq_k (fun _ _ => ?_)) | (with_reducible refine W_block_k (fun _ _ => ?_)) | (with_reducible refine W_draw_k ?_ ?_ ?_; kernel_rfl; kernel_rfl) | (with_reducible refine Gq_false ?_) | (with_reducible refine Gq_any ?_) | (with_reducible apply_assumption -exfalso -symm) | (simp only [go_sem, Nat.reduceEqDiff, Nat.reduceAdd, Nat.reduceSub, Nat.reduceLT, Nat.reduceLeDiff, Nat.reduceMul, reduceIte, reduceCtorEq, Int.reduceBEq, Int.reduceBNe, Int.reduceEq, Int.reduceLT, Int.reduceLE, Int.reduceNeg, Int.reduceAdd, Int.reduceSub, Int.reduceToNat, Int.reduceMul, Itm.cells, hr, shortL, shortB])))
  cases hk : (i.kind != 4)
  · (repeat' (first | (with_reducible refine W_seq_k (fun _ _ => ?_)) | (with_reducible refine W_block_k (fun _ _ => ?_)) | (with_reducible refine W_draw_k ?_ ?_ ?_; kernel_rfl; kernel_rfl) | (with_reducible refine Gq_false ?_) | (with_reducible refine Gq_any ?_) | (with_reducible apply_assumption -exfalso -symm) | (simp only [go_sem, Nat.reduceEqDiff, Nat.reduceAdd, Nat.reduceSub, Nat.reduceLT, Nat.reduceLeDiff, Nat.reduceMul, reduceIte, reduceCtorEq, Int.reduceBEq, Int.reduceBNe, Int.reduceEq, Int.reduceLT, Int.reduceLE, Int.reduceNeg, Int.reduceAdd, Int.reduceSub, Int.reduceToNat, Int.reduceMul, Itm.cells, hr, hk])))
    refine APure.callW (few_p i.ins) ?_
    cases hf : fewB i.ins
    · (repeat' (first | (with_reducible refine W_seq_k (fun _ _ => ?_)) | (with_reducible refine W_block_k (fun _ _ => ?_)) | (with_reducible refine W_draw_k ?_ ?_ ?_; kernel_rfl; kernel_rfl) | (with_reducible refine Gq_false ?_) | (with_reducible refine Gq_any ?_) | (with_reducible apply_assumption -exfalso -symm) | (simp only [go_sem, Nat.reduceEqDiff, Nat.reduceAdd, Nat.reduceSub, Nat.reduceLT, Nat.reduceLeDiff, Nat.reduceMul, reduceIte, reduceCtorEq, Int.reduceBEq, Int.reduceBNe, Int.reduceEq, Int.reduceLT, Int.reduceLE, Int.reduceNeg, Int.reduceAdd, Int.reduceSub, Int.reduceToNat, Int.reduceMul, shortL, shortB, hr, hk, hf])))
    · (repeat' (first | (with_reducible refine W_seq_k (fun _ _ => ?_)) | (with_reducible refine W_block_k (fun _ _ => ?_)) | (with_reducible refine W_draw_k ?_ ?_ ?_; kernel_rfl; kernel_rfl) | (with_reducible refine Gq_false ?_) | (with_reducible refine Gq_any ?_) | (with_reducible apply_assumption -exfalso -symm) | (simp only [go_sem, Nat.reduceEqDiff, Nat.reduceAdd, Nat.reduceSub, Nat.reduceLT, Nat.reduceLeDiff, Nat.reduceMul, reduceIte, reduceCtorEq, Int.reduceBEq, Int.reduceBNe, Int.reduceEq, Int.reduceLT, Int.reduceLE, Int.reduceNeg, Int.reduceAdd, Int.reduceSub, Int.reduceToNat, Int.reduceMul, shortL, shortB, hr, hk, hf])))
  · (repeat' (first | (with_reducible refine W_seq_k (fun _ _ => ?_)) | (with_reducible refine W_block_k (fun _ _ => ?_)) | (with_reducible refine W_draw_k ?_ ?_ ?_; kernel_rfl; kernel_rfl) | (with_reducible refine Gq_false ?_) | (with_reducible refine Gq_any ?_) | (with_reducible apply_assumption -exfalso -symm) | (simp only [go_sem, Nat.reduceEqDiff, Nat.reduceAdd, Nat.reduceSub, Nat.reduceLT, Nat.reduceLeDiff, Nat.reduceMul, reduceIte, reduceCtorEq, Int.reduceBEq, Int.reduceBNe, Int.reduceEq, Int.reduceLT, Int.reduceLE, Int.reduceNeg, Int.reduceAdd, Int.reduceSub, Int.reduceToNat, Int.reduceMul, Itm.cells, hr, hk, shortL, shortB])))

end Go.Proofs.Ytmbepfdnmgiifaa
