import Derived.Test.YtmbepfdnmgiifaaSpanI
set_option linter.unusedVariables false
set_option linter.unusedSimpArgs false
namespace Go.Proofs.Ytmbepfdnmgiifaa
open Go.Vp
set_option maxRecDepth 100000
set_option maxHeartbeats 1000000
theorem cls_rise (i : Itm) : (cls i).Pairwise (· < ·) := by
  unfold cls
  (repeat' split) <;> simp
theorem cls_ne (i : Itm) : cls i ≠ [] := by
  unfold cls
  (repeat' split) <;> simp
theorem cls_low (i : Itm) : ∀ x ∈ cls i, -1 < x := by
  unfold cls
  (repeat' split) <;> simp <;> omega
/-- What is next. -/
def hd (n : Int) : List Int → Int × Bool
  | [] => (n, false)
  | y :: _ => (y, true)
theorem lst_next (x : Int) (r : List Int) : ∀ pre : List Int, (pre ++ x :: r).Pairwise (· < ·) → lst (pre ++ x :: r) x = hd x r
  | [], h => by
    rw [List.nil_append, lst, if_neg (Int.lt_irrefl x)]
    cases r with
    | nil => rfl
    | cons y r =>
      rw [List.nil_append, List.pairwise_cons] at h
      rw [lst, if_pos (h.1 y (List.mem_cons_self ..))]; rfl
  | p :: pre, h => by
    rw [List.cons_append, List.pairwise_cons] at h
    rw [List.cons_append, lst, if_neg (Int.not_lt.2 (Int.le_of_lt (h.1 x (by simp))))]
    exact lst_next x r pre h.2
theorem ints_last (k : Go.IntKind) (pre : List Int) (x : Int) (r : List Int) : (ints k (pre ++ [x] ++ r)).getD pre.length [] = [.p (.int k x)] := by simp [ints, List.getD]
theorem law_climbs_p (i : Itm) : APure Try.prog 6 [.agg i.cells] (.p (.bool true)) := by
  refine apure_of Try.func6 rfl (fun vs w => Try.call6 vs w) (by rw [Try.ntmps6]; simp) rfl (fun h hok Q hret hnorm => ?_)
  (repeat' (first | (with_reducible refine W_seq_k (fun _ _ => ?_)) | (with_reducible refine W_block_k (fun _ _ => ?_)) | (with_reducible refine W_draw_k ?_ ?_ ?_; kernel_rfl; kernel_rfl) | (with_reducible refine Gq_false ?_) | (with_reducible refine Gq_any ?_) | (with_reducible apply_assumption -exfalso -symm) | (simp only [go_sem, Nat.reduceEqDiff, Nat.reduceAdd, Nat.reduceSub, Nat.reduceLT, Nat.reduceLeDiff, Nat.reduceMul, reduceIte, reduceCtorEq, Int.reduceBEq, Int.reduceBNe, Int.reduceEq, Int.reduceLT, Int.reduceLE, Int.reduceNeg, Int.reduceAdd, Int.reduceSub, Int.reduceToNat, Int.reduceMul, Itm.cells])))
  refine APure.callW awake_p ?_
  by_cases hb : (1000 : Int) < i.name.size
  · (repeat' (first | (with_reducible refine W_seq_k (fun _ _ => ?_)) | (with_reducible refine W_block_k (fun _ _ => ?_)) | (with_reducible refine W_draw_k ?_ ?_ ?_; kernel_rfl; kernel_rfl) | (with_reducible refine Gq_false ?_) | (with_reducible refine Gq_any ?_) | (with_reducible apply_assumption -exfalso -symm) | (simp only [go_sem, Nat.reduceEqDiff, Nat.reduceAdd, Nat.reduceSub, Nat.reduceLT, Nat.reduceLeDiff, Nat.reduceMul, reduceIte, reduceCtorEq, Int.reduceBEq, Int.reduceBNe, Int.reduceEq, Int.reduceLT, Int.reduceLE, Int.reduceNeg, Int.reduceAdd, Int.reduceSub, Int.reduceToNat, Int.reduceMul, hb])))
  (repeat' (first | (with_reducible refine W_seq_k (fun _ _ => ?_)) | (with_reducible refine W_block_k (fun _ _ => ?_)) | (with_reducible refine W_draw_k ?_ ?_ ?_; kernel_rfl; kernel_rfl) | (with_reducible refine Gq_false ?_) | (with_reducible refine Gq_any ?_) | (with_reducible apply_assumption -exfalso -symm) | (simp only [go_sem, Nat.reduceEqDiff, Nat.reduceAdd, Nat.reduceSub, Nat.reduceLT, Nat.reduceLeDiff, Nat.reduceMul, reduceIte, reduceCtorEq, Int.reduceBEq, Int.reduceBNe, Int.reduceEq, Int.reduceLT, Int.reduceLE, Int.reduceNeg, Int.reduceAdd, Int.reduceSub, Int.reduceToNat, Int.reduceMul, hb])))
  refine APure.callE (classes_p i) (by simp only [Itm.cells]) ?_
  have hl := cls_len i
  have hne := cls_ne i
  have hp := cls_rise i
  have hlow := cls_low i
  have hl1 : ¬ ((cls i).length : Int) < 1 := by
    have : (cls i).length ≠ 0 := fun e => hne (List.eq_nil_of_length_eq_zero e)
    omega
  have hl3 : ¬ (3 : Int) < ((cls i).length : Int) := by omega
  (repeat' (first | (with_reducible refine W_seq_k (fun _ _ => ?_)) | (with_reducible refine W_block_k (fun _ _ => ?_)) | (with_reducible refine W_draw_k ?_ ?_ ?_; kernel_rfl; kernel_rfl) | (with_reducible refine Gq_false ?_) | (with_reducible refine Gq_any ?_) | (with_reducible apply_assumption -exfalso -symm) | (simp only [go_sem, Nat.reduceEqDiff, Nat.reduceAdd, Nat.reduceSub, Nat.reduceLT, Nat.reduceLeDiff, Nat.reduceMul, reduceIte, reduceCtorEq, Int.reduceBEq, Int.reduceBNe, Int.reduceEq, Int.reduceLT, Int.reduceLE, Int.reduceNeg, Int.reduceAdd, Int.reduceSub, Int.reduceToNat, Int.reduceMul, ints_length, hl1, hl3])))
  refine APure.callE (next_p i (-1)) (by simp only [Itm.cells]) ?_
  have h0 : lst (cls i) (-1) = hd (-1) (cls i) := by
    cases hq : cls i with
    | nil => rfl
    | cons x r => rw [lst, if_pos (hlow x (by rw [hq]; exact List.mem_cons_self ..))]; rfl
  (repeat' (first | (with_reducible refine W_seq_k (fun _ _ => ?_)) | (with_reducible refine W_block_k (fun _ _ => ?_)) | (with_reducible refine W_draw_k ?_ ?_ ?_; kernel_rfl; kernel_rfl) | (with_reducible refine Gq_false ?_) | (with_reducible refine Gq_any ?_) | (with_reducible apply_assumption -exfalso -symm) | (simp only [go_sem, Nat.reduceEqDiff, Nat.reduceAdd, Nat.reduceSub, Nat.reduceLT, Nat.reduceLeDiff, Nat.reduceMul, reduceIte, reduceCtorEq, Int.reduceBEq, Int.reduceBNe, Int.reduceEq, Int.reduceLT, Int.reduceLE, Int.reduceNeg, Int.reduceAdd, Int.reduceSub, Int.reduceToNat, Int.reduceMul, h0])))
  generalize hcl : cls i = l at *
  refine W_loop_ix (α := List Int × List Int × Int) (fun a => [(6, .p (.int .i64 a.1.length)), (5, .p (.bool (hd a.2.2 a.2.1).2)), (4, .p (.int .i64 (hd a.2.2 a.2.1).1)), (3, .sl 1 (ints .i64 l) none), (2, .p (.bool false)), (1, .bp h.n 0)]) (fun _ => h.new (.box i.cells)) (fun a => a.2.1.length) (fun a => l = a.1 ++ a.2.1 ∧ (a.2.1 = [] → ∃ p, a.1 = p ++ [a.2.2])) ([], l, -1) ⟨rfl, fun e => absurd e hne⟩ (.same (AH.ok_new hok (by simp only [Itm.cells, go_sem])) (by simp only [AH.new]; omega) ?_) ?_
  · (repeat' (first | (with_reducible refine W_seq_k (fun _ _ => ?_)) | (with_reducible refine W_block_k (fun _ _ => ?_)) | (with_reducible refine W_draw_k ?_ ?_ ?_; kernel_rfl; kernel_rfl) | (with_reducible refine Gq_false ?_) | (with_reducible refine Gq_any ?_) | (with_reducible apply_assumption -exfalso -symm) | (simp only [go_sem, Nat.reduceEqDiff, Nat.reduceAdd, Nat.reduceSub, Nat.reduceLT, Nat.reduceLeDiff, Nat.reduceMul, reduceIte, reduceCtorEq, Int.reduceBEq, Int.reduceBNe, Int.reduceEq, Int.reduceLT, Int.reduceLE, Int.reduceNeg, Int.reduceAdd, Int.reduceSub, Int.reduceToNat, Int.reduceMul, ints_length, AH.new, Nat.lt_add_one])))
  rintro ⟨pre, rest, n⟩ ⟨hl2, hlast⟩ K hK
  dsimp only at hl2 hlast
  cases rest with
  | nil =>
    obtain ⟨p, hp2⟩ := hlast rfl
    have e : (l.length : Int) = pre.length := by rw [hl2]; simp
    have hlen : l.length = p.length + 1 := by rw [hl2, hp2]; simp
    have hw : IntKind.i64.wrap ((l.length : Int) - 1) = (p.length : Int) := by rw [wrap_i64] <;> omega
    have hat : (ints .i64 l).getD p.length [] = [.p (.int .i64 n)] := by rw [hl2, hp2]; exact ints_last _ _ _ _
    have hlt : (p.length : Int) < l.length := by omega
    have e' : ((pre.length : Nat) : Int) = l.length := e.symm
    (repeat' (first | (with_reducible refine W_seq_k (fun _ _ => ?_)) | (with_reducible refine W_block_k (fun _ _ => ?_)) | (with_reducible refine W_draw_k ?_ ?_ ?_; kernel_rfl; kernel_rfl) | (with_reducible refine Gq_false ?_) | (with_reducible refine Gq_any ?_) | (with_reducible apply_assumption -exfalso -symm) | (simp only [go_sem, Nat.reduceEqDiff, Nat.reduceAdd, Nat.reduceSub, Nat.reduceLT, Nat.reduceLeDiff, Nat.reduceMul, reduceIte, reduceCtorEq, Int.reduceBEq, Int.reduceBNe, Int.reduceEq, Int.reduceLT, Int.reduceLE, Int.reduceNeg, Int.reduceAdd, Int.reduceSub, Int.reduceToNat, Int.reduceMul, e', ints_length, Int.lt_irrefl, hd, hw, hat, hlt, Int.natCast_nonneg])))
  | cons x r =>
    have hlt : (pre.length : Int) < l.length := by rw [hl2]; simp; omega
    have hat : (ints .i64 l).getD pre.length [] = [.p (.int .i64 x)] := by rw [hl2]; exact ints_at _ _ _ _
    have hw : IntKind.i64.wrap ((pre.length : Int) + 1) = (pre.length + 1 : Nat) := by rw [wrap_small] <;> omega
    have hnx : lst l x = hd x r := by rw [hl2]; exact lst_next x r pre (hl2 ▸ hp)
    have fin : ∀ (t2 : List (Nat × AV)), wkl t2 (h.new (.box i.cells)).n [(6, .p (.int .i64 ((pre.length + 1 : Nat) : Int))), (5, .p (.bool (hd x r).2)), (4, .p (.int .i64 (hd x r).1)), (3, .sl 1 (ints .i64 l) none), (2, .p (.bool false)), (1, .bp h.n 0)] → K ⟨t2, h.new (.box i.cells)⟩ := fun t2 ht => by
      refine hK.step (pre ++ [x], r, x) ⟨by rw [hl2]; simp, fun e => ⟨pre, rfl⟩⟩ (by simp) (.same (AH.ok_new hok (by simp only [Itm.cells, go_sem])) (by simp only [AH.new]; omega) ?_)
      simpa using ht
    dsimp only
    have hcase : pre.length = 0 ∨ ∃ w, 0 < pre.length ∧ (ints .i64 l).getD (pre.length - 1) [] = [.p (.int .i64 w)] ∧ w < x := by
      rcases List.eq_nil_or_concat pre with rfl | ⟨p, w, rfl⟩
      · exact .inl rfl
      · refine .inr ⟨w, by simp, ?_, ?_⟩
        · rw [hl2]
          have : (p.concat w).length - 1 = p.length := by simp
          rw [this, List.concat_eq_append]; exact ints_last _ _ _ _
        · rw [hl2, List.pairwise_append] at hp
          exact hp.2.2 w (by simp) x (List.mem_cons_self ..)
    generalize pre.length = k at *
    rcases hcase with hk0 | ⟨w, hk0, hat1, hwx⟩
    · subst hk0
      have hlt' : (0 : Int) < l.length := hlt
      have hwm : IntKind.i64.wrap (-1) = -1 := by rfl
      (repeat' (first | (with_reducible refine W_seq_k (fun _ _ => ?_)) | (with_reducible refine W_block_k (fun _ _ => ?_)) | (with_reducible refine W_draw_k ?_ ?_ ?_; kernel_rfl; kernel_rfl) | (with_reducible refine Gq_false ?_) | (with_reducible refine Gq_any ?_) | (with_reducible apply_assumption -exfalso -symm) | (simp only [go_sem, Nat.reduceEqDiff, Nat.reduceAdd, Nat.reduceSub, Nat.reduceLT, Nat.reduceLeDiff, Nat.reduceMul, reduceIte, reduceCtorEq, Int.reduceBEq, Int.reduceBNe, Int.reduceEq, Int.reduceLT, Int.reduceLE, Int.reduceNeg, Int.reduceAdd, Int.reduceSub, Int.reduceToNat, Int.reduceMul, hwm, hlt', hat, hw, hd, ints_length, Int.natCast_nonneg, Int.ofNat_zero, Int.cast_ofNat_Int, Int.lt_irrefl])))
      refine APure.callW (next_p i x) ?_
      rw [hcl, hnx]
      (repeat' (first | (with_reducible refine W_seq_k (fun _ _ => ?_)) | (with_reducible refine W_block_k (fun _ _ => ?_)) | (with_reducible refine W_draw_k ?_ ?_ ?_; kernel_rfl; kernel_rfl) | (with_reducible refine Gq_false ?_) | (with_reducible refine Gq_any ?_) | (with_reducible apply_assumption -exfalso -symm) | (simp only [go_sem, Nat.reduceEqDiff, Nat.reduceAdd, Nat.reduceSub, Nat.reduceLT, Nat.reduceLeDiff, Nat.reduceMul, reduceIte, reduceCtorEq, Int.reduceBEq, Int.reduceBNe, Int.reduceEq, Int.reduceLT, Int.reduceLE, Int.reduceNeg, Int.reduceAdd, Int.reduceSub, Int.reduceToNat, Int.reduceMul, hw, Nat.lt_add_one])))
    · have hpos : (0 : Int) < (k : Int) := by omega
      have hw1 : IntKind.i64.wrap ((k : Int) - 1) = ((k - 1 : Nat) : Int) := by rw [wrap_i64] <;> omega
      have hlt1 : ((k - 1 : Nat) : Int) < l.length := by omega
      have hnle : ¬ x ≤ w := Int.not_le.2 hwx
      (repeat' (first | (with_reducible refine W_seq_k (fun _ _ => ?_)) | (with_reducible refine W_block_k (fun _ _ => ?_)) | (with_reducible refine W_draw_k ?_ ?_ ?_; kernel_rfl; kernel_rfl) | (with_reducible refine Gq_false ?_) | (with_reducible refine Gq_any ?_) | (with_reducible apply_assumption -exfalso -symm) | (simp only [go_sem, Nat.reduceEqDiff, Nat.reduceAdd, Nat.reduceSub, Nat.reduceLT, Nat.reduceLeDiff, Nat.reduceMul, reduceIte, reduceCtorEq, Int.reduceBEq, Int.reduceBNe, Int.reduceEq, Int.reduceLT, Int.reduceLE, Int.reduceNeg, Int.reduceAdd, Int.reduceSub, Int.reduceToNat, Int.reduceMul, hlt, hat, hw, hd, ints_length, Int.natCast_nonneg, hpos, hw1, hlt1, hat1, hnle])))
      refine APure.callW (next_p i x) ?_
      rw [hcl, hnx]
      (repeat' (first | (with_reducible refine W_seq_k (fun _ _ => ?_)) | (with_reducible refine W_block_k (fun _ _ => ?_)) | (with_reducible refine W_draw_k ?_ ?_ ?_; kernel_rfl; kernel_rfl) | (with_reducible refine Gq_false ?_) | (with_reducible refine Gq_any ?_) | (with_reducible apply_assumption -exfalso -symm) | (simp only [go_sem, Nat.reduceEqDiff, Nat.reduceAdd, Nat.reduceSub, Nat.reduceLT, Nat.reduceLeDiff, Nat.reduceMul, reduceIte, reduceCtorEq, Int.reduceBEq, Int.reduceBNe, Int.reduceEq, Int.reduceLT, Int.reduceLE, Int.reduceNeg, Int.reduceAdd, Int.reduceSub, Int.reduceToNat, Int.reduceMul, hw, Nat.lt_add_one])))
end Go.Proofs.Ytmbepfdnmgiifaa
