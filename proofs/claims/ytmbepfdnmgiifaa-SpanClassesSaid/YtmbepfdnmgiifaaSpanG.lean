import Derived.Test.YtmbepfdnmgiifaaSpanF
set_option linter.unusedVariables false
set_option linter.unusedSimpArgs false
namespace Go.Proofs.Ytmbepfdnmgiifaa
open Go.Vp
set_option maxRecDepth 100000
set_option maxHeartbeats 1000000
/-- The document's: half of the range, and what is held against it. -/
def refB (l : List Int) (kind n far : Int) : Bool :=
  if l.contains n = false ∨ kind < 4 ∨ 6 < kind ∨ (IntKind.u32.wrap far).tmod 2 = 1 then false
  else if kind = 4 ∧ n = 2 then decide (-256 ≤ far) && decide (far < 256)
  else if kind = 4 ∧ n = 4 then decide (-4096 ≤ far) && decide (far < 4096)
  else if kind = 4 then decide (-1048576 ≤ IntKind.i64.wrap (far - 4)) && decide (IntKind.i64.wrap (far - 4) < 1048576)
  else if n = 2 then decide (-2048 ≤ far) && decide (far < 2048)
  else if n = 8 then true
  else decide (-1048576 ≤ far) && decide (far < 1048576)
theorem contains_mid (pre : List Int) (x : Int) (r : List Int) (n : Int) : (pre ++ x :: r).contains n = (pre.contains n || (x == n) || r.contains n) := by
  rw [List.contains_append]
  simp only [List.contains_cons]
  rw [show (n == x) = (x == n) by rw [Bool.eq_iff_iff]; simp; exact eq_comm, Bool.or_assoc]
theorem refreaches_p (i : Itm) (n far : Int) (hf : -2147483648 ≤ far ∧ far < 2147483648) : APure Try.prog 9 [.agg i.cells, .p (.int .i64 n), .p (.int .i32 far)] (.p (.bool (refB (cls i) i.kind n far))) := by
  refine apure_of Try.func9 rfl (fun vs w => Try.call9 vs w) (by rw [Try.ntmps9]; simp) rfl (fun h hok Q hret hnorm => ?_)
  (repeat' (first | (with_reducible refine W_seq_k (fun _ _ => ?_)) | (with_reducible refine W_block_k (fun _ _ => ?_)) | (with_reducible refine W_draw_k ?_ ?_ ?_; kernel_rfl; kernel_rfl) | (with_reducible refine Gq_false ?_) | (with_reducible refine Gq_any ?_) | (with_reducible apply_assumption -exfalso -symm) | (simp only [go_sem, Nat.reduceEqDiff, Nat.reduceAdd, Nat.reduceSub, Nat.reduceLT, Nat.reduceLeDiff, Nat.reduceMul, reduceIte, reduceCtorEq, Int.reduceBEq, Int.reduceBNe, Int.reduceEq, Int.reduceLT, Int.reduceLE, Int.reduceNeg, Int.reduceAdd, Int.reduceSub, Int.reduceToNat, Int.reduceMul, Itm.cells])))
  refine APure.callE (refclasses_p i) (by simp only [Itm.cells]) ?_
  (repeat' (first | (with_reducible refine W_seq_k (fun _ _ => ?_)) | (with_reducible refine W_block_k (fun _ _ => ?_)) | (with_reducible refine W_draw_k ?_ ?_ ?_; kernel_rfl; kernel_rfl) | (with_reducible refine Gq_false ?_) | (with_reducible refine Gq_any ?_) | (with_reducible apply_assumption -exfalso -symm) | (simp only [go_sem, Nat.reduceEqDiff, Nat.reduceAdd, Nat.reduceSub, Nat.reduceLT, Nat.reduceLeDiff, Nat.reduceMul, reduceIte, reduceCtorEq, Int.reduceBEq, Int.reduceBNe, Int.reduceEq, Int.reduceLT, Int.reduceLE, Int.reduceNeg, Int.reduceAdd, Int.reduceSub, Int.reduceToNat, Int.reduceMul])))
  have hl := cls_len i
  generalize cls i = l at *
  refine W_loop_ix (α := List Int × List Int) (fun a => [(9, .p (.int .i64 a.1.length)), (8, .p (.bool (a.1.contains n))), (7, .sl 1 (ints .i64 l) none), (6, .p (.bool false)), (3, .bp h.n 0), (2, .p (.int .i32 far)), (1, .p (.int .i64 n))]) (fun _ => h.new (.box i.cells)) (fun a => a.2.length) (fun a => l = a.1 ++ a.2) ([], l) rfl (.same (AH.ok_new hok (by simp only [Itm.cells, go_sem])) (by simp only [AH.new]; omega) ?_) ?_
  · (repeat' (first | (with_reducible refine W_seq_k (fun _ _ => ?_)) | (with_reducible refine W_block_k (fun _ _ => ?_)) | (with_reducible refine W_draw_k ?_ ?_ ?_; kernel_rfl; kernel_rfl) | (with_reducible refine Gq_false ?_) | (with_reducible refine Gq_any ?_) | (with_reducible apply_assumption -exfalso -symm) | (simp only [go_sem, Nat.reduceEqDiff, Nat.reduceAdd, Nat.reduceSub, Nat.reduceLT, Nat.reduceLeDiff, Nat.reduceMul, reduceIte, reduceCtorEq, Int.reduceBEq, Int.reduceBNe, Int.reduceEq, Int.reduceLT, Int.reduceLE, Int.reduceNeg, Int.reduceAdd, Int.reduceSub, Int.reduceToNat, Int.reduceMul, ints_length, AH.new, Nat.lt_add_one, List.contains_nil])))
  rintro ⟨pre, rest⟩ hl2 K hK
  dsimp only at hl2
  cases rest with
  | nil =>
    have e : (l.length : Int) = pre.length := by rw [hl2]; simp
    have e2 : pre.contains n = l.contains n := by rw [hl2]; simp
    have hwf : IntKind.i64.wrap far = far := wrap_i64 (by omega) (by omega)
    cases hc : (!l.contains n || decide (i.kind < 4) || decide (6 < i.kind) || (IntKind.u32.wrap far).tmod 2 == 1)
    case true =>
      have r : refB l i.kind n far = false := by
        unfold refB; rw [if_pos]
        simp only [Bool.or_eq_true, Bool.not_eq_true', decide_eq_true_eq, beq_iff_eq] at hc
        rcases hc with ((hc | hc) | hc) | hc
        · exact .inl hc
        · exact .inr (.inl hc)
        · exact .inr (.inr (.inl hc))
        · exact .inr (.inr (.inr hc))
      (repeat' (first | (with_reducible refine W_seq_k (fun _ _ => ?_)) | (with_reducible refine W_block_k (fun _ _ => ?_)) | (with_reducible refine W_draw_k ?_ ?_ ?_; kernel_rfl; kernel_rfl) | (with_reducible refine Gq_false ?_) | (with_reducible refine Gq_any ?_) | (with_reducible apply_assumption -exfalso -symm) | (simp only [go_sem, Nat.reduceEqDiff, Nat.reduceAdd, Nat.reduceSub, Nat.reduceLT, Nat.reduceLeDiff, Nat.reduceMul, reduceIte, reduceCtorEq, Int.reduceBEq, Int.reduceBNe, Int.reduceEq, Int.reduceLT, Int.reduceLE, Int.reduceNeg, Int.reduceAdd, Int.reduceSub, Int.reduceToNat, Int.reduceMul, e, e2, ints_length, Int.lt_irrefl, Itm.cells, hc, r])))
    have hc' := hc
    simp only [Bool.or_eq_false_iff, Bool.not_eq_false', decide_eq_false_iff_not, beq_eq_false_iff_ne] at hc'
    obtain ⟨⟨⟨a, b⟩, c⟩, d⟩ := hc'
    have d' : ((IntKind.u32.wrap far).tmod 2 == 1) = false := by simpa using d
    have r : refB l i.kind n far = (if i.kind = 4 ∧ n = 2 then decide (-256 ≤ far) && decide (far < 256)
      else if i.kind = 4 ∧ n = 4 then decide (-4096 ≤ far) && decide (far < 4096)
      else if i.kind = 4 then decide (-1048576 ≤ IntKind.i64.wrap (far - 4)) && decide (IntKind.i64.wrap (far - 4) < 1048576)
      else if n = 2 then decide (-2048 ≤ far) && decide (far < 2048)
      else if n = 8 then true
      else decide (-1048576 ≤ far) && decide (far < 1048576)) := by
      rw [refB, if_neg]
      rintro (q | q | q | q)
      · rw [a] at q; cases q
      · exact b q
      · exact c q
      · exact d q
    by_cases h4 : i.kind = 4
    · by_cases h2 : n = 2
      · subst h2
        rw [if_pos ⟨h4, rfl⟩] at r
        rw [h4] at r
        (repeat' (first | (with_reducible refine W_seq_k (fun _ _ => ?_)) | (with_reducible refine W_block_k (fun _ _ => ?_)) | (with_reducible refine W_draw_k ?_ ?_ ?_; kernel_rfl; kernel_rfl) | (with_reducible refine Gq_false ?_) | (with_reducible refine Gq_any ?_) | (with_reducible apply_assumption -exfalso -symm) | (simp only [go_sem, Nat.reduceEqDiff, Nat.reduceAdd, Nat.reduceSub, Nat.reduceLT, Nat.reduceLeDiff, Nat.reduceMul, reduceIte, reduceCtorEq, Int.reduceBEq, Int.reduceBNe, Int.reduceEq, Int.reduceLT, Int.reduceLE, Int.reduceNeg, Int.reduceAdd, Int.reduceSub, Int.reduceToNat, Int.reduceMul, e, e2, ints_length, Int.lt_irrefl, Itm.cells, a, d', h4, hwf, r])))
      · have g2 : (n == 2) = false := by simpa using h2
        by_cases h44 : n = 4
        · subst h44
          rw [if_neg (fun q => h2 q.2), if_pos ⟨h4, rfl⟩] at r
          rw [h4] at r
          (repeat' (first | (with_reducible refine W_seq_k (fun _ _ => ?_)) | (with_reducible refine W_block_k (fun _ _ => ?_)) | (with_reducible refine W_draw_k ?_ ?_ ?_; kernel_rfl; kernel_rfl) | (with_reducible refine Gq_false ?_) | (with_reducible refine Gq_any ?_) | (with_reducible apply_assumption -exfalso -symm) | (simp only [go_sem, Nat.reduceEqDiff, Nat.reduceAdd, Nat.reduceSub, Nat.reduceLT, Nat.reduceLeDiff, Nat.reduceMul, reduceIte, reduceCtorEq, Int.reduceBEq, Int.reduceBNe, Int.reduceEq, Int.reduceLT, Int.reduceLE, Int.reduceNeg, Int.reduceAdd, Int.reduceSub, Int.reduceToNat, Int.reduceMul, e, e2, ints_length, Int.lt_irrefl, Itm.cells, a, d', h4, g2, hwf, r])))
        · have g4 : (n == 4) = false := by simpa using h44
          rw [if_neg (fun q => h2 q.2), if_neg (fun q => h44 q.2), if_pos h4] at r
          rw [h4] at r
          (repeat' (first | (with_reducible refine W_seq_k (fun _ _ => ?_)) | (with_reducible refine W_block_k (fun _ _ => ?_)) | (with_reducible refine W_draw_k ?_ ?_ ?_; kernel_rfl; kernel_rfl) | (with_reducible refine Gq_false ?_) | (with_reducible refine Gq_any ?_) | (with_reducible apply_assumption -exfalso -symm) | (simp only [go_sem, Nat.reduceEqDiff, Nat.reduceAdd, Nat.reduceSub, Nat.reduceLT, Nat.reduceLeDiff, Nat.reduceMul, reduceIte, reduceCtorEq, Int.reduceBEq, Int.reduceBNe, Int.reduceEq, Int.reduceLT, Int.reduceLE, Int.reduceNeg, Int.reduceAdd, Int.reduceSub, Int.reduceToNat, Int.reduceMul, e, e2, ints_length, Int.lt_irrefl, Itm.cells, a, d', h4, g2, g4, hwf, r])))
    · have k4 : (i.kind == 4) = false := by simpa using h4
      rw [if_neg (fun q => h4 q.1), if_neg (fun q => h4 q.1), if_neg h4] at r
      by_cases h2 : n = 2
      · subst h2
        rw [if_pos rfl] at r
        (repeat' (first | (with_reducible refine W_seq_k (fun _ _ => ?_)) | (with_reducible refine W_block_k (fun _ _ => ?_)) | (with_reducible refine W_draw_k ?_ ?_ ?_; kernel_rfl; kernel_rfl) | (with_reducible refine Gq_false ?_) | (with_reducible refine Gq_any ?_) | (with_reducible apply_assumption -exfalso -symm) | (simp only [go_sem, Nat.reduceEqDiff, Nat.reduceAdd, Nat.reduceSub, Nat.reduceLT, Nat.reduceLeDiff, Nat.reduceMul, reduceIte, reduceCtorEq, Int.reduceBEq, Int.reduceBNe, Int.reduceEq, Int.reduceLT, Int.reduceLE, Int.reduceNeg, Int.reduceAdd, Int.reduceSub, Int.reduceToNat, Int.reduceMul, e, e2, ints_length, Int.lt_irrefl, Itm.cells, a, b, c, d', k4, hwf, r])))
      · have g2 : (n == 2) = false := by simpa using h2
        by_cases h8 : n = 8
        · subst h8
          rw [if_neg h2, if_pos rfl] at r
          (repeat' (first | (with_reducible refine W_seq_k (fun _ _ => ?_)) | (with_reducible refine W_block_k (fun _ _ => ?_)) | (with_reducible refine W_draw_k ?_ ?_ ?_; kernel_rfl; kernel_rfl) | (with_reducible refine Gq_false ?_) | (with_reducible refine Gq_any ?_) | (with_reducible apply_assumption -exfalso -symm) | (simp only [go_sem, Nat.reduceEqDiff, Nat.reduceAdd, Nat.reduceSub, Nat.reduceLT, Nat.reduceLeDiff, Nat.reduceMul, reduceIte, reduceCtorEq, Int.reduceBEq, Int.reduceBNe, Int.reduceEq, Int.reduceLT, Int.reduceLE, Int.reduceNeg, Int.reduceAdd, Int.reduceSub, Int.reduceToNat, Int.reduceMul, e, e2, ints_length, Int.lt_irrefl, Itm.cells, a, b, c, d', k4, g2, hwf, r])))
        · have g8 : (n == 8) = false := by simpa using h8
          rw [if_neg h2, if_neg h8] at r
          (repeat' (first | (with_reducible refine W_seq_k (fun _ _ => ?_)) | (with_reducible refine W_block_k (fun _ _ => ?_)) | (with_reducible refine W_draw_k ?_ ?_ ?_; kernel_rfl; kernel_rfl) | (with_reducible refine Gq_false ?_) | (with_reducible refine Gq_any ?_) | (with_reducible apply_assumption -exfalso -symm) | (simp only [go_sem, Nat.reduceEqDiff, Nat.reduceAdd, Nat.reduceSub, Nat.reduceLT, Nat.reduceLeDiff, Nat.reduceMul, reduceIte, reduceCtorEq, Int.reduceBEq, Int.reduceBNe, Int.reduceEq, Int.reduceLT, Int.reduceLE, Int.reduceNeg, Int.reduceAdd, Int.reduceSub, Int.reduceToNat, Int.reduceMul, e, e2, ints_length, Int.lt_irrefl, Itm.cells, a, b, c, d', k4, g2, g8, hwf, r])))
  | cons x r =>
    have hlt : (pre.length : Int) < l.length := by rw [hl2]; simp; omega
    have hat : (ints .i64 l).getD pre.length [] = [.p (.int .i64 x)] := by rw [hl2]; exact ints_at _ _ _ _
    have hw : IntKind.i64.wrap ((pre.length : Int) + 1) = (pre.length + 1 : Nat) := by rw [wrap_small] <;> omega
    (repeat' (first | (with_reducible refine W_seq_k (fun _ _ => ?_)) | (with_reducible refine W_block_k (fun _ _ => ?_)) | (with_reducible refine W_draw_k ?_ ?_ ?_; kernel_rfl; kernel_rfl) | (with_reducible refine Gq_false ?_) | (with_reducible refine Gq_any ?_) | (with_reducible apply_assumption -exfalso -symm) | (simp only [go_sem, Nat.reduceEqDiff, Nat.reduceAdd, Nat.reduceSub, Nat.reduceLT, Nat.reduceLeDiff, Nat.reduceMul, reduceIte, reduceCtorEq, Int.reduceBEq, Int.reduceBNe, Int.reduceEq, Int.reduceLT, Int.reduceLE, Int.reduceNeg, Int.reduceAdd, Int.reduceSub, Int.reduceToNat, Int.reduceMul, hlt, hat, hw, ints_length, Int.natCast_nonneg])))
    refine hK.step (pre ++ [x], r) (by rw [hl2]; simp) (by simp) (.same (AH.ok_new hok (by simp only [Itm.cells, go_sem])) (by simp only [AH.new]; omega) ?_)
    (repeat' (first | (with_reducible refine W_seq_k (fun _ _ => ?_)) | (with_reducible refine W_block_k (fun _ _ => ?_)) | (with_reducible refine W_draw_k ?_ ?_ ?_; kernel_rfl; kernel_rfl) | (with_reducible refine Gq_false ?_) | (with_reducible refine Gq_any ?_) | (with_reducible apply_assumption -exfalso -symm) | (simp only [go_sem, Nat.reduceEqDiff, Nat.reduceAdd, Nat.reduceSub, Nat.reduceLT, Nat.reduceLeDiff, Nat.reduceMul, reduceIte, reduceCtorEq, Int.reduceBEq, Int.reduceBNe, Int.reduceEq, Int.reduceLT, Int.reduceLE, Int.reduceNeg, Int.reduceAdd, Int.reduceSub, Int.reduceToNat, Int.reduceMul, List.length_append, contains_mid, List.contains_nil, AH.new, Nat.lt_add_one])))
end Go.Proofs.Ytmbepfdnmgiifaa
