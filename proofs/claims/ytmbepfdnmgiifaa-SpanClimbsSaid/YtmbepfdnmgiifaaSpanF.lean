import Derived.Test.YtmbepfdnmgiifaaSpanE
set_option linter.unusedVariables false
set_option linter.unusedSimpArgs false
namespace Go.Proofs.Ytmbepfdnmgiifaa
open Go.Vp
set_option maxRecDepth 100000
set_option maxHeartbeats 1000000
theorem ints_p (l r : List Int) (hl : l.length < 2 ^ 62) (hr : r.length < 2 ^ 62) : APure Try.prog 12 [.sl 1 (ints .i64 l) none, .sl 1 (ints .i64 r) none] (.p (.bool (l == r))) := by
  refine apure_of Try.func12 rfl (fun vs w => Try.call12 vs w) (by rw [Try.ntmps12]; simp) rfl (fun h hok Q hret hnorm => ?_)
  by_cases hlen : l.length = r.length
  case neg =>
    have e : (l == r) = false := by simp; intro q; exact hlen (by rw [q])
    have e2 : ((l.length : Int) != r.length) = true := by simp; omega
    (repeat' (first | (with_reducible refine W_seq_k (fun _ _ => ?_)) | (with_reducible refine W_block_k (fun _ _ => ?_)) | (with_reducible refine W_draw_k ?_ ?_ ?_; kernel_rfl; kernel_rfl) | (with_reducible refine Gq_false ?_) | (with_reducible refine Gq_any ?_) | (with_reducible apply_assumption -exfalso -symm) | (simp only [go_sem, Nat.reduceEqDiff, Nat.reduceAdd, Nat.reduceSub, Nat.reduceLT, Nat.reduceLeDiff, Nat.reduceMul, reduceIte, reduceCtorEq, Int.reduceBEq, Int.reduceBNe, Int.reduceEq, Int.reduceLT, Int.reduceLE, Int.reduceNeg, Int.reduceAdd, Int.reduceSub, Int.reduceToNat, Int.reduceMul, ints_length, e, e2])))
  have e2 : ((l.length : Int) != r.length) = false := by simp; omega
  (repeat' (first | (with_reducible refine W_seq_k (fun _ _ => ?_)) | (with_reducible refine W_block_k (fun _ _ => ?_)) | (with_reducible refine W_draw_k ?_ ?_ ?_; kernel_rfl; kernel_rfl) | (with_reducible refine Gq_false ?_) | (with_reducible refine Gq_any ?_) | (with_reducible apply_assumption -exfalso -symm) | (simp only [go_sem, Nat.reduceEqDiff, Nat.reduceAdd, Nat.reduceSub, Nat.reduceLT, Nat.reduceLeDiff, Nat.reduceMul, reduceIte, reduceCtorEq, Int.reduceBEq, Int.reduceBNe, Int.reduceEq, Int.reduceLT, Int.reduceLE, Int.reduceNeg, Int.reduceAdd, Int.reduceSub, Int.reduceToNat, Int.reduceMul, ints_length, e2])))
  refine W_loop_ix (α := List Int × List Int × List Int × List Int) (fun a => [(5, .p (.int .i64 a.1.length)), (0, .sl 1 (ints .i64 l) none), (1, .sl 1 (ints .i64 r) none), (4, .p (.bool false))]) (fun _ => h) (fun a => a.2.1.length)
    (fun a => l = a.1 ++ a.2.1 ∧ r = a.2.2.1 ++ a.2.2.2 ∧ a.1.length = a.2.2.1.length ∧ (l == r) = (a.2.1 == a.2.2.2)) ([], l, [], r) ⟨rfl, rfl, rfl, rfl⟩ (.same hok (Nat.le_refl _) ?_) ?_
  · (repeat' (first | (with_reducible refine W_seq_k (fun _ _ => ?_)) | (with_reducible refine W_block_k (fun _ _ => ?_)) | (with_reducible refine W_draw_k ?_ ?_ ?_; kernel_rfl; kernel_rfl) | (with_reducible refine Gq_false ?_) | (with_reducible refine Gq_any ?_) | (with_reducible apply_assumption -exfalso -symm) | (simp only [go_sem, Nat.reduceEqDiff, Nat.reduceAdd, Nat.reduceSub, Nat.reduceLT, Nat.reduceLeDiff, Nat.reduceMul, reduceIte, reduceCtorEq, Int.reduceBEq, Int.reduceBNe, Int.reduceEq, Int.reduceLT, Int.reduceLE, Int.reduceNeg, Int.reduceAdd, Int.reduceSub, Int.reduceToNat, Int.reduceMul, ints_length])))
  rintro ⟨pre, rest, pre2, rest2⟩ ⟨h1, h2, h3, h4⟩ K hK
  dsimp only at h1 h2 h3 h4
  cases rest with
  | nil =>
    have e : (l.length : Int) = pre.length := by rw [h1]; simp
    have e3 : rest2 = [] := by
      rw [h1, h2] at hlen; simp at hlen
      cases rest2 with
      | nil => rfl
      | cons => simp at hlen; omega
    subst e3
    have e4 : (l == r) = true := by rw [h4]; rfl
    (repeat' (first | (with_reducible refine W_seq_k (fun _ _ => ?_)) | (with_reducible refine W_block_k (fun _ _ => ?_)) | (with_reducible refine W_draw_k ?_ ?_ ?_; kernel_rfl; kernel_rfl) | (with_reducible refine Gq_false ?_) | (with_reducible refine Gq_any ?_) | (with_reducible apply_assumption -exfalso -symm) | (simp only [go_sem, Nat.reduceEqDiff, Nat.reduceAdd, Nat.reduceSub, Nat.reduceLT, Nat.reduceLeDiff, Nat.reduceMul, reduceIte, reduceCtorEq, Int.reduceBEq, Int.reduceBNe, Int.reduceEq, Int.reduceLT, Int.reduceLE, Int.reduceNeg, Int.reduceAdd, Int.reduceSub, Int.reduceToNat, Int.reduceMul, e, ints_length, Int.lt_irrefl, e4])))
  | cons x q =>
    have hlt : (pre.length : Int) < l.length := by rw [h1]; simp; omega
    have hlt2 : (pre.length : Int) < r.length := by omega
    cases rest2 with
    | nil =>
      exfalso
      rw [h1, h2] at hlen; simp at hlen; omega
    | cons y q2 =>
      have hat : (ints .i64 l).getD pre.length [] = [.p (.int .i64 x)] := by rw [h1]; exact ints_at _ _ _ _
      have hat2 : (ints .i64 r).getD pre.length [] = [.p (.int .i64 y)] := by rw [h2, h3]; exact ints_at _ _ _ _
      have hw : IntKind.i64.wrap ((pre.length : Int) + 1) = (pre.length + 1 : Nat) := by rw [wrap_small] <;> omega
      by_cases hx : x = y
      · subst hx
        (repeat' (first | (with_reducible refine W_seq_k (fun _ _ => ?_)) | (with_reducible refine W_block_k (fun _ _ => ?_)) | (with_reducible refine W_draw_k ?_ ?_ ?_; kernel_rfl; kernel_rfl) | (with_reducible refine Gq_false ?_) | (with_reducible refine Gq_any ?_) | (with_reducible apply_assumption -exfalso -symm) | (simp only [go_sem, Nat.reduceEqDiff, Nat.reduceAdd, Nat.reduceSub, Nat.reduceLT, Nat.reduceLeDiff, Nat.reduceMul, reduceIte, reduceCtorEq, Int.reduceBEq, Int.reduceBNe, Int.reduceEq, Int.reduceLT, Int.reduceLE, Int.reduceNeg, Int.reduceAdd, Int.reduceSub, Int.reduceToNat, Int.reduceMul, hlt, hlt2, hat, hat2, hw, ints_length, Int.natCast_nonneg])))
        refine hK.step (pre ++ [x], q, pre2 ++ [x], q2) ⟨by rw [h1]; simp, by rw [h2]; simp, by simp [h3], by rw [h4]; simp⟩ (by simp) (.same hok (Nat.le_refl _) ?_)
        (repeat' (first | (with_reducible refine W_seq_k (fun _ _ => ?_)) | (with_reducible refine W_block_k (fun _ _ => ?_)) | (with_reducible refine W_draw_k ?_ ?_ ?_; kernel_rfl; kernel_rfl) | (with_reducible refine Gq_false ?_) | (with_reducible refine Gq_any ?_) | (with_reducible apply_assumption -exfalso -symm) | (simp only [go_sem, Nat.reduceEqDiff, Nat.reduceAdd, Nat.reduceSub, Nat.reduceLT, Nat.reduceLeDiff, Nat.reduceMul, reduceIte, reduceCtorEq, Int.reduceBEq, Int.reduceBNe, Int.reduceEq, Int.reduceLT, Int.reduceLE, Int.reduceNeg, Int.reduceAdd, Int.reduceSub, Int.reduceToNat, Int.reduceMul, List.length_append])))
      · have hx' : (x != y) = true := by simpa using hx
        have e : (l == r) = false := by rw [h4]; simp; intro c; exact absurd c hx
        (repeat' (first | (with_reducible refine W_seq_k (fun _ _ => ?_)) | (with_reducible refine W_block_k (fun _ _ => ?_)) | (with_reducible refine W_draw_k ?_ ?_ ?_; kernel_rfl; kernel_rfl) | (with_reducible refine Gq_false ?_) | (with_reducible refine Gq_any ?_) | (with_reducible apply_assumption -exfalso -symm) | (simp only [go_sem, Nat.reduceEqDiff, Nat.reduceAdd, Nat.reduceSub, Nat.reduceLT, Nat.reduceLeDiff, Nat.reduceMul, reduceIte, reduceCtorEq, Int.reduceBEq, Int.reduceBNe, Int.reduceEq, Int.reduceLT, Int.reduceLE, Int.reduceNeg, Int.reduceAdd, Int.reduceSub, Int.reduceToNat, Int.reduceMul, hlt, hlt2, hat, hat2, hx', hw, ints_length, e, Int.natCast_nonneg])))
theorem refnext_p (i : Itm) (n : Int) : APure Try.prog 11 [.agg i.cells, .p (.int .i64 n)] (.tup [.p (.int .i64 (lst (cls i) n).1), .p (.bool (lst (cls i) n).2)]) := by
  refine apure_of Try.func11 rfl (fun vs w => Try.call11 vs w) (by rw [Try.ntmps11]; simp) rfl (fun h hok Q hret hnorm => ?_)
  (repeat' (first | (with_reducible refine W_seq_k (fun _ _ => ?_)) | (with_reducible refine W_block_k (fun _ _ => ?_)) | (with_reducible refine W_draw_k ?_ ?_ ?_; kernel_rfl; kernel_rfl) | (with_reducible refine Gq_false ?_) | (with_reducible refine Gq_any ?_) | (with_reducible apply_assumption -exfalso -symm) | (simp only [go_sem, Nat.reduceEqDiff, Nat.reduceAdd, Nat.reduceSub, Nat.reduceLT, Nat.reduceLeDiff, Nat.reduceMul, reduceIte, reduceCtorEq, Int.reduceBEq, Int.reduceBNe, Int.reduceEq, Int.reduceLT, Int.reduceLE, Int.reduceNeg, Int.reduceAdd, Int.reduceSub, Int.reduceToNat, Int.reduceMul, Itm.cells])))
  refine APure.callE (refclasses_p i) (by simp only [Itm.cells]) ?_
  (repeat' (first | (with_reducible refine W_seq_k (fun _ _ => ?_)) | (with_reducible refine W_block_k (fun _ _ => ?_)) | (with_reducible refine W_draw_k ?_ ?_ ?_; kernel_rfl; kernel_rfl) | (with_reducible refine Gq_false ?_) | (with_reducible refine Gq_any ?_) | (with_reducible apply_assumption -exfalso -symm) | (simp only [go_sem, Nat.reduceEqDiff, Nat.reduceAdd, Nat.reduceSub, Nat.reduceLT, Nat.reduceLeDiff, Nat.reduceMul, reduceIte, reduceCtorEq, Int.reduceBEq, Int.reduceBNe, Int.reduceEq, Int.reduceLT, Int.reduceLE, Int.reduceNeg, Int.reduceAdd, Int.reduceSub, Int.reduceToNat, Int.reduceMul])))
  have hl := cls_len i
  generalize cls i = l at *
  refine W_loop_ix (α := List Int × List Int) (fun a => [(7, .p (.int .i64 a.1.length)), (6, .sl 1 (ints .i64 l) none), (5, .p (.bool false)), (4, .p (.int .i64 0)), (1, .p (.int .i64 n))]) (fun _ => h) (fun a => a.2.length) (fun a => l = a.1 ++ a.2 ∧ lst l n = lst a.2 n) ([], l) ⟨rfl, rfl⟩ (.drop hok (Nat.le_refl _) ?_) ?_
  · (repeat' (first | (with_reducible refine W_seq_k (fun _ _ => ?_)) | (with_reducible refine W_block_k (fun _ _ => ?_)) | (with_reducible refine W_draw_k ?_ ?_ ?_; kernel_rfl; kernel_rfl) | (with_reducible refine Gq_false ?_) | (with_reducible refine Gq_any ?_) | (with_reducible apply_assumption -exfalso -symm) | (simp only [go_sem, Nat.reduceEqDiff, Nat.reduceAdd, Nat.reduceSub, Nat.reduceLT, Nat.reduceLeDiff, Nat.reduceMul, reduceIte, reduceCtorEq, Int.reduceBEq, Int.reduceBNe, Int.reduceEq, Int.reduceLT, Int.reduceLE, Int.reduceNeg, Int.reduceAdd, Int.reduceSub, Int.reduceToNat, Int.reduceMul, ints_length])))
  rintro ⟨pre, rest⟩ ⟨hl2, hr⟩ K hK
  dsimp only at hl2 hr
  cases rest with
  | nil =>
    have e : (l.length : Int) = pre.length := by rw [hl2]; simp
    (repeat' (first | (with_reducible refine W_seq_k (fun _ _ => ?_)) | (with_reducible refine W_block_k (fun _ _ => ?_)) | (with_reducible refine W_draw_k ?_ ?_ ?_; kernel_rfl; kernel_rfl) | (with_reducible refine Gq_false ?_) | (with_reducible refine Gq_any ?_) | (with_reducible apply_assumption -exfalso -symm) | (simp only [go_sem, Nat.reduceEqDiff, Nat.reduceAdd, Nat.reduceSub, Nat.reduceLT, Nat.reduceLeDiff, Nat.reduceMul, reduceIte, reduceCtorEq, Int.reduceBEq, Int.reduceBNe, Int.reduceEq, Int.reduceLT, Int.reduceLE, Int.reduceNeg, Int.reduceAdd, Int.reduceSub, Int.reduceToNat, Int.reduceMul, e, ints_length, Int.lt_irrefl, hr, lst])))
  | cons x r =>
    have hlt : (pre.length : Int) < l.length := by rw [hl2]; simp; omega
    have hat : (ints .i64 l).getD pre.length [] = [.p (.int .i64 x)] := by rw [hl2]; exact ints_at _ _ _ _
    have hw : IntKind.i64.wrap ((pre.length : Int) + 1) = (pre.length + 1 : Nat) := by rw [wrap_small] <;> omega
    by_cases hx : n < x
    · have e : lst l n = (x, true) := by rw [hr, lst, if_pos hx]
      (repeat' (first | (with_reducible refine W_seq_k (fun _ _ => ?_)) | (with_reducible refine W_block_k (fun _ _ => ?_)) | (with_reducible refine W_draw_k ?_ ?_ ?_; kernel_rfl; kernel_rfl) | (with_reducible refine Gq_false ?_) | (with_reducible refine Gq_any ?_) | (with_reducible apply_assumption -exfalso -symm) | (simp only [go_sem, Nat.reduceEqDiff, Nat.reduceAdd, Nat.reduceSub, Nat.reduceLT, Nat.reduceLeDiff, Nat.reduceMul, reduceIte, reduceCtorEq, Int.reduceBEq, Int.reduceBNe, Int.reduceEq, Int.reduceLT, Int.reduceLE, Int.reduceNeg, Int.reduceAdd, Int.reduceSub, Int.reduceToNat, Int.reduceMul, hlt, hat, hx, hw, ints_length, e, Int.natCast_nonneg])))
    · (repeat' (first | (with_reducible refine W_seq_k (fun _ _ => ?_)) | (with_reducible refine W_block_k (fun _ _ => ?_)) | (with_reducible refine W_draw_k ?_ ?_ ?_; kernel_rfl; kernel_rfl) | (with_reducible refine Gq_false ?_) | (with_reducible refine Gq_any ?_) | (with_reducible apply_assumption -exfalso -symm) | (simp only [go_sem, Nat.reduceEqDiff, Nat.reduceAdd, Nat.reduceSub, Nat.reduceLT, Nat.reduceLeDiff, Nat.reduceMul, reduceIte, reduceCtorEq, Int.reduceBEq, Int.reduceBNe, Int.reduceEq, Int.reduceLT, Int.reduceLE, Int.reduceNeg, Int.reduceAdd, Int.reduceSub, Int.reduceToNat, Int.reduceMul, hlt, hat, hx, hw, ints_length, Int.natCast_nonneg])))
      refine hK.step (pre ++ [x], r) ⟨by rw [hl2]; simp, by rw [hr, lst, if_neg hx]⟩ (by simp) (.same hok (Nat.le_refl _) ?_)
      (repeat' (first | (with_reducible refine W_seq_k (fun _ _ => ?_)) | (with_reducible refine W_block_k (fun _ _ => ?_)) | (with_reducible refine W_draw_k ?_ ?_ ?_; kernel_rfl; kernel_rfl) | (with_reducible refine Gq_false ?_) | (with_reducible refine Gq_any ?_) | (with_reducible apply_assumption -exfalso -symm) | (simp only [go_sem, Nat.reduceEqDiff, Nat.reduceAdd, Nat.reduceSub, Nat.reduceLT, Nat.reduceLeDiff, Nat.reduceMul, reduceIte, reduceCtorEq, Int.reduceBEq, Int.reduceBNe, Int.reduceEq, Int.reduceLT, Int.reduceLE, Int.reduceNeg, Int.reduceAdd, Int.reduceSub, Int.reduceToNat, Int.reduceMul, List.length_append])))
end Go.Proofs.Ytmbepfdnmgiifaa
