import Derived.Test.YtmbepfdnmgiifaaSpanG
set_option linter.unusedVariables false
set_option linter.unusedSimpArgs false
namespace Go.Proofs.Ytmbepfdnmgiifaa
open Go.Vp
set_option maxRecDepth 100000
set_option maxHeartbeats 1000000
theorem fits9 (v : Int) : fitsB v 9 = (decide (-256 ≤ v) && decide (v < 256)) := by
  rw [Bool.eq_iff_iff]
  simp only [fitsB, signN, beq_iff_eq, Bool.and_eq_true, decide_eq_true_eq]
  rw [show ((32 : Int) - 9).toNat = 23 by rfl, show (2 : Int) ^ 23 = 8388608 by rfl, Int.fdiv_eq_ediv_of_nonneg _ (by decide)]
  simp only [IntKind.wrap_i32, IntKind.wrap_u32]
  omega
theorem fits13 (v : Int) : fitsB v 13 = (decide (-4096 ≤ v) && decide (v < 4096)) := by
  rw [Bool.eq_iff_iff]
  simp only [fitsB, signN, beq_iff_eq, Bool.and_eq_true, decide_eq_true_eq]
  rw [show ((32 : Int) - 13).toNat = 19 by rfl, show (2 : Int) ^ 19 = 524288 by rfl, Int.fdiv_eq_ediv_of_nonneg _ (by decide)]
  simp only [IntKind.wrap_i32, IntKind.wrap_u32]
  omega
theorem fits12 (v : Int) : fitsB v 12 = (decide (-2048 ≤ v) && decide (v < 2048)) := by
  rw [Bool.eq_iff_iff]
  simp only [fitsB, signN, beq_iff_eq, Bool.and_eq_true, decide_eq_true_eq]
  rw [show ((32 : Int) - 12).toNat = 20 by rfl, show (2 : Int) ^ 20 = 1048576 by rfl, Int.fdiv_eq_ediv_of_nonneg _ (by decide)]
  simp only [IntKind.wrap_i32, IntKind.wrap_u32]
  omega
theorem fits21 (v : Int) : fitsB v 21 = (decide (-1048576 ≤ v) && decide (v < 1048576)) := by
  rw [Bool.eq_iff_iff]
  simp only [fitsB, signN, beq_iff_eq, Bool.and_eq_true, decide_eq_true_eq]
  rw [show ((32 : Int) - 21).toNat = 11 by rfl, show (2 : Int) ^ 11 = 2048 by rfl, Int.fdiv_eq_ediv_of_nonneg _ (by decide)]
  simp only [IntKind.wrap_i32, IntKind.wrap_u32]
  omega
theorem odd_far (far : Int) : far.tmod 2 ≠ 0 ↔ (IntKind.u32.wrap far).tmod 2 = 1 := by
  have h1 : far.tmod 2 = 0 ↔ far % 2 = 0 := by rw [← Int.dvd_iff_tmod_eq_zero, ← Int.dvd_iff_emod_eq_zero]
  have h2 : (IntKind.u32.wrap far).tmod 2 = (far % 4294967296) % 2 := by rw [IntKind.wrap_u32]; exact Int.tmod_eq_emod_of_nonneg (by omega)
  rw [h2, ne_eq, h1]
  omega
theorem cls_mem (i : Itm) (n : Int) (h4 : 4 ≤ i.kind) (h6 : i.kind ≤ 6) (h : (cls i).contains n = true) : n = 4 ∨ (n = 2) ∨ (n = 8 ∧ i.kind ≠ 5) := by
  rw [List.contains_iff_mem] at h
  have hk : i.kind = 4 ∨ i.kind = 5 ∨ i.kind = 6 := by omega
  unfold cls at h
  cases hg : i.grow <;> cases hs : shortB i <;> rcases hk with hk | hk | hk <;> simp [hk, hg, hs] at h ⊢ <;> omega
theorem reach_eq (i : Itm) (n far : Int) (hf : -2147483648 ≤ far ∧ far < 2147483648) : reachB i n far = refB (cls i) i.kind n far := by
  unfold reachB refB
  by_cases hc : (cls i).contains n = false
  · rw [if_pos (.inr (.inr (.inl hc))), if_pos (.inl hc)]
  by_cases h4 : i.kind < 4
  · rw [if_pos (.inl h4), if_pos (.inr (.inl h4))]
  by_cases h6 : 6 < i.kind
  · rw [if_pos (.inr (.inl h6)), if_pos (.inr (.inr (.inl h6)))]
  by_cases ho : far.tmod 2 ≠ 0
  · rw [if_pos (.inr (.inr (.inr ho))), if_pos (.inr (.inr (.inr ((odd_far far).mp ho))))]
  have n1 : ¬ (i.kind < 4 ∨ 6 < i.kind ∨ (cls i).contains n = false ∨ far.tmod 2 ≠ 0) := by
    rintro (q | q | q | q)
    · exact h4 q
    · exact h6 q
    · exact hc q
    · exact ho q
  have n2 : ¬ ((cls i).contains n = false ∨ i.kind < 4 ∨ 6 < i.kind ∨ (IntKind.u32.wrap far).tmod 2 = 1) := by
    rintro (q | q | q | q)
    · exact hc q
    · exact h4 q
    · exact h6 q
    · exact ho ((odd_far far).mpr q)
  rw [if_neg n1, if_neg n2]
  have hm := cls_mem i n (by omega) (by omega) (by simpa using hc)
  have hw : IntKind.i64.wrap (far - 4) = far - 4 := wrap_i64 (by omega) (by omega)
  rw [hw]
  have hk : i.kind = 4 ∨ i.kind = 5 ∨ i.kind = 6 := by omega
  rcases hk with hk | hk | hk <;> rw [hk] <;> rcases hm with hn | hn | ⟨hn, h5⟩ <;> try subst hn
  all_goals first | (exact absurd hk h5) | skip
  · simp [bitsN, fits13]
  · simp [bitsN, fits9]
  · rw [Bool.eq_iff_iff]; simp [hw]; omega
  · simp [bitsN, fits21]
  · simp [bitsN, fits12]
  · simp [bitsN, fits21]
  · simp [bitsN, fits12]
  · simp [bitsN]
/-- The awake item. -/
def item0 : Itm := { kind := 4, line := 0, col := 0, name := .empty, ins := { op := 5, rd := 0, rs1 := 8, rs2 := 0, imm := 0 }, short := .empty, size := 0, nodes := [], num := 0, grow := true, rvc := true }
theorem cls0 : cls item0 = [2, 4, 8] := by decide
theorem reach0 : reachB item0 2 (-256) = true := by decide
theorem reach1 : reachB item0 2 256 = false := by decide
theorem awake_p : APure Try.prog 7 [] (.p (.bool true)) := by
  refine apure_of Try.func7 rfl (fun vs w => Try.call7 vs w) (by rw [Try.ntmps7]; simp) rfl (fun h hok Q hret hnorm => ?_)
  (repeat' (first | (with_reducible refine W_seq_k (fun _ _ => ?_)) | (with_reducible refine W_block_k (fun _ _ => ?_)) | (with_reducible refine W_draw_k ?_ ?_ ?_; kernel_rfl; kernel_rfl) | (with_reducible refine Gq_false ?_) | (with_reducible refine Gq_any ?_) | (with_reducible apply_assumption -exfalso -symm) | (simp only [go_sem, Nat.reduceEqDiff, Nat.reduceAdd, Nat.reduceSub, Nat.reduceLT, Nat.reduceLeDiff, Nat.reduceMul, reduceIte, reduceCtorEq, Int.reduceBEq, Int.reduceBNe, Int.reduceEq, Int.reduceLT, Int.reduceLE, Int.reduceNeg, Int.reduceAdd, Int.reduceSub, Int.reduceToNat, Int.reduceMul])))
  refine APure.callS (args := [.agg item0.cells]) (classes_p item0) (by simp only [item0, Itm.cells, List.map_nil, go_sem]) ?_
  (repeat' (first | (with_reducible refine W_seq_k (fun _ _ => ?_)) | (with_reducible refine W_block_k (fun _ _ => ?_)) | (with_reducible refine W_draw_k ?_ ?_ ?_; kernel_rfl; kernel_rfl) | (with_reducible refine Gq_false ?_) | (with_reducible refine Gq_any ?_) | (with_reducible apply_assumption -exfalso -symm) | (simp only [go_sem, Nat.reduceEqDiff, Nat.reduceAdd, Nat.reduceSub, Nat.reduceLT, Nat.reduceLeDiff, Nat.reduceMul, reduceIte, reduceCtorEq, Int.reduceBEq, Int.reduceBNe, Int.reduceEq, Int.reduceLT, Int.reduceLE, Int.reduceNeg, Int.reduceAdd, Int.reduceSub, Int.reduceToNat, Int.reduceMul, cls0, ints])))
  refine APure.callS (args := [.sl 1 (ints .i64 [2, 4, 8]) none, .sl 1 (ints .i64 [2, 4, 8]) none]) (ints_p [2, 4, 8] [2, 4, 8] (by decide) (by decide)) (by simp only [ints, List.map_cons, List.map_nil, go_sem]) ?_
  (repeat' (first | (with_reducible refine W_seq_k (fun _ _ => ?_)) | (with_reducible refine W_block_k (fun _ _ => ?_)) | (with_reducible refine W_draw_k ?_ ?_ ?_; kernel_rfl; kernel_rfl) | (with_reducible refine Gq_false ?_) | (with_reducible refine Gq_any ?_) | (with_reducible apply_assumption -exfalso -symm) | (simp only [go_sem, Nat.reduceEqDiff, Nat.reduceAdd, Nat.reduceSub, Nat.reduceLT, Nat.reduceLeDiff, Nat.reduceMul, reduceIte, reduceCtorEq, Int.reduceBEq, Int.reduceBNe, Int.reduceEq, Int.reduceLT, Int.reduceLE, Int.reduceNeg, Int.reduceAdd, Int.reduceSub, Int.reduceToNat, Int.reduceMul])))
  refine APure.callS (args := [.agg item0.cells, .p (.int .i64 2), .p (.int .i32 (-256))]) (reaches_p item0 2 (-256)) (by simp only [item0, Itm.cells, List.map_nil, go_sem]) ?_
  (repeat' (first | (with_reducible refine W_seq_k (fun _ _ => ?_)) | (with_reducible refine W_block_k (fun _ _ => ?_)) | (with_reducible refine W_draw_k ?_ ?_ ?_; kernel_rfl; kernel_rfl) | (with_reducible refine Gq_false ?_) | (with_reducible refine Gq_any ?_) | (with_reducible apply_assumption -exfalso -symm) | (simp only [go_sem, Nat.reduceEqDiff, Nat.reduceAdd, Nat.reduceSub, Nat.reduceLT, Nat.reduceLeDiff, Nat.reduceMul, reduceIte, reduceCtorEq, Int.reduceBEq, Int.reduceBNe, Int.reduceEq, Int.reduceLT, Int.reduceLE, Int.reduceNeg, Int.reduceAdd, Int.reduceSub, Int.reduceToNat, Int.reduceMul, reach0])))
  refine APure.callS (args := [.agg item0.cells, .p (.int .i64 2), .p (.int .i32 256)]) (reaches_p item0 2 256) (by simp only [item0, Itm.cells, List.map_nil, go_sem]) ?_
  (repeat' (first | (with_reducible refine W_seq_k (fun _ _ => ?_)) | (with_reducible refine W_block_k (fun _ _ => ?_)) | (with_reducible refine W_draw_k ?_ ?_ ?_; kernel_rfl; kernel_rfl) | (with_reducible refine Gq_false ?_) | (with_reducible refine Gq_any ?_) | (with_reducible apply_assumption -exfalso -symm) | (simp only [go_sem, Nat.reduceEqDiff, Nat.reduceAdd, Nat.reduceSub, Nat.reduceLT, Nat.reduceLeDiff, Nat.reduceMul, reduceIte, reduceCtorEq, Int.reduceBEq, Int.reduceBNe, Int.reduceEq, Int.reduceLT, Int.reduceLE, Int.reduceNeg, Int.reduceAdd, Int.reduceSub, Int.reduceToNat, Int.reduceMul, reach1])))
theorem law_reaches_p (i : Itm) (n far : Int) (hf : -2147483648 ≤ far ∧ far < 2147483648) : APure Try.prog 3 [.agg i.cells, .p (.int .i64 n), .p (.int .i32 far)] (.p (.bool true)) := by
  refine apure_of Try.func3 rfl (fun vs w => Try.call3 vs w) (by rw [Try.ntmps3]; simp) rfl (fun h hok Q hret hnorm => ?_)
  (repeat' (first | (with_reducible refine W_seq_k (fun _ _ => ?_)) | (with_reducible refine W_block_k (fun _ _ => ?_)) | (with_reducible refine W_draw_k ?_ ?_ ?_; kernel_rfl; kernel_rfl) | (with_reducible refine Gq_false ?_) | (with_reducible refine Gq_any ?_) | (with_reducible apply_assumption -exfalso -symm) | (simp only [go_sem, Nat.reduceEqDiff, Nat.reduceAdd, Nat.reduceSub, Nat.reduceLT, Nat.reduceLeDiff, Nat.reduceMul, reduceIte, reduceCtorEq, Int.reduceBEq, Int.reduceBNe, Int.reduceEq, Int.reduceLT, Int.reduceLE, Int.reduceNeg, Int.reduceAdd, Int.reduceSub, Int.reduceToNat, Int.reduceMul, Itm.cells])))
  refine APure.callW awake_p ?_
  by_cases hb : (1000 : Int) < i.name.size
  · (repeat' (first | (with_reducible refine W_seq_k (fun _ _ => ?_)) | (with_reducible refine W_block_k (fun _ _ => ?_)) | (with_reducible refine W_draw_k ?_ ?_ ?_; kernel_rfl; kernel_rfl) | (with_reducible refine Gq_false ?_) | (with_reducible refine Gq_any ?_) | (with_reducible apply_assumption -exfalso -symm) | (simp only [go_sem, Nat.reduceEqDiff, Nat.reduceAdd, Nat.reduceSub, Nat.reduceLT, Nat.reduceLeDiff, Nat.reduceMul, reduceIte, reduceCtorEq, Int.reduceBEq, Int.reduceBNe, Int.reduceEq, Int.reduceLT, Int.reduceLE, Int.reduceNeg, Int.reduceAdd, Int.reduceSub, Int.reduceToNat, Int.reduceMul, hb])))
  (repeat' (first | (with_reducible refine W_seq_k (fun _ _ => ?_)) | (with_reducible refine W_block_k (fun _ _ => ?_)) | (with_reducible refine W_draw_k ?_ ?_ ?_; kernel_rfl; kernel_rfl) | (with_reducible refine Gq_false ?_) | (with_reducible refine Gq_any ?_) | (with_reducible apply_assumption -exfalso -symm) | (simp only [go_sem, Nat.reduceEqDiff, Nat.reduceAdd, Nat.reduceSub, Nat.reduceLT, Nat.reduceLeDiff, Nat.reduceMul, reduceIte, reduceCtorEq, Int.reduceBEq, Int.reduceBNe, Int.reduceEq, Int.reduceLT, Int.reduceLE, Int.reduceNeg, Int.reduceAdd, Int.reduceSub, Int.reduceToNat, Int.reduceMul, hb])))
  refine APure.callQE (reaches_p i n far) (by simp only [Itm.cells]) ?_
  (repeat' (first | (with_reducible refine W_seq_k (fun _ _ => ?_)) | (with_reducible refine W_block_k (fun _ _ => ?_)) | (with_reducible refine W_draw_k ?_ ?_ ?_; kernel_rfl; kernel_rfl) | (with_reducible refine Gq_false ?_) | (with_reducible refine Gq_any ?_) | (with_reducible apply_assumption -exfalso -symm) | (simp only [go_sem, Nat.reduceEqDiff, Nat.reduceAdd, Nat.reduceSub, Nat.reduceLT, Nat.reduceLeDiff, Nat.reduceMul, reduceIte, reduceCtorEq, Int.reduceBEq, Int.reduceBNe, Int.reduceEq, Int.reduceLT, Int.reduceLE, Int.reduceNeg, Int.reduceAdd, Int.reduceSub, Int.reduceToNat, Int.reduceMul])))
  refine APure.callQE (refreaches_p i n far hf) (by simp only [Itm.cells]) ?_
  rw [← reach_eq i n far hf]
  (repeat' (first | (with_reducible refine W_seq_k (fun _ _ => ?_)) | (with_reducible refine W_block_k (fun _ _ => ?_)) | (with_reducible refine W_draw_k ?_ ?_ ?_; kernel_rfl; kernel_rfl) | (with_reducible refine Gq_false ?_) | (with_reducible refine Gq_any ?_) | (with_reducible apply_assumption -exfalso -symm) | (simp only [go_sem, Nat.reduceEqDiff, Nat.reduceAdd, Nat.reduceSub, Nat.reduceLT, Nat.reduceLeDiff, Nat.reduceMul, reduceIte, reduceCtorEq, Int.reduceBEq, Int.reduceBNe, Int.reduceEq, Int.reduceLT, Int.reduceLE, Int.reduceNeg, Int.reduceAdd, Int.reduceSub, Int.reduceToNat, Int.reduceMul])))
end Go.Proofs.Ytmbepfdnmgiifaa
