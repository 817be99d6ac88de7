/- The law BlockWithin, on plain data. -/
import Derived.Test.YtmbepfdnmgiifaaDoorBlockP
set_option linter.unusedVariables false
set_option linter.unusedSimpArgs false
namespace Go.Proofs.YtmbepfdnmgiifaaDoor
open Go Go.Up
set_option maxRecDepth 100000
theorem within_plain {l : List (List Tok)} {a e o : Int} (h : endP l a = some (e, o)) : a < e ∧ e < l.length ∧ (o = -1 ∨ (a < o ∧ o < e)) ∧ ∀ b k p, endP l b = some (k, p) → a < b → b < e → k < e := by
  obtain ⟨n, ln, t, rfl, h7, h8, h9, rfl⟩ := endP_inv h
  have hn : n < l.length := (List.getElem?_eq_some_iff.1 h7).1
  have hb := blk_bounds _ _ _ _ _ _ h9
  rw [List.length_drop] at hb
  refine ⟨by omega, by omega, ?_, fun b k p hbk hab hbe => ?_⟩
  · exact blk_other (n : Int) _ _ _ _ _ _ (by omega) (fun x hx => by
      rw [List.mem_singleton.1 hx]
      exact .inl rfl) h9
  · obtain ⟨m, lm, t', rfl, k7, k8, k9, rfl⟩ := endP_inv hbk
    have hm : m < l.length := (List.getElem?_eq_some_iff.1 k7).1
    obtain ⟨d, hd⟩ : ∃ d, m = n + 1 + d := ⟨m - (n + 1), by omega⟩
    subst hd
    obtain ⟨t1, s1, hw⟩ := blk_way d _ _ _ _ _ _ h9 (by omega)
    have e1 : (l.drop (n + 1)).drop d = lm :: l.drop (n + 1 + d + 1) := by
      rw [List.drop_drop, List.drop_eq_getElem_cons hm]
      congr 1
      exact (List.getElem?_eq_some_iff.1 k7).2
    rw [e1, blk_cons, step_push k8] at hw
    have e2 : ((n : Int) + 1 + (d : Int)) = ((n + 1 + d : Nat) : Int) := by omega
    rw [e2] at hw
    have hbase := blk_base _ _ _ [] _ _ t1 s1 k9
    simp only [List.nil_append] at hbase
    simp only [Stp.res] at hw
    rw [hbase] at hw
    have := blk_bounds _ _ _ _ _ _ hw
    omega
theorem blockWithin_law (x : VD [(.slice (.slice .tok)), (.int .i64), (.int .i64)]) (hx : Wfs [(.slice (.slice .tok)), (.int .i64), (.int .i64)] x) : ∃ N, typecaselaw13_BlockWithin N x.1 x.2.1 x.2.2.1 = some (true, ()) := by
  obtain ⟨l, a, b, u⟩ := x
  obtain ⟨hl, ha, hb, _⟩ := hx
  refine ⟨2000, ?_⟩
  obtain ⟨b1, h1, h2⟩ := light_ok 2000 (by omega) l
  simp only [typecaselaw13_BlockWithin, awake13b, bindI_some, Bool.not_true, cond_false, h1]
  cases b1 with
  | false => simp only [Bool.not_false, cond_true]
  | true =>
    simp only [Bool.not_true, cond_false]
    have hll := h2 rfl
    rcases end_ok 2000 l a (by omega) (by omega) with ⟨e, o, h5, h6⟩ | ⟨h5, p, q, h6⟩
    · rw [h6]
      obtain ⟨p1, p2, p3, p4⟩ := within_plain h5
      have c1 : decide (e ≤ a) = false := by simp; omega
      have c2 : decide ((l.length : Int) ≤ e) = false := by simp; omega
      have c3 : (bif !decide (o = -1) then bindI (bif decide (o ≤ a) then some true else some (decide (e ≤ o))) fun y => some y else some false) = some false := by
        rcases p3 with p3 | ⟨p3, p5⟩
        · simp [p3]
        · have q1 : decide (o = -1) = false ∨ decide (o = -1) = true := by cases decide (o = -1) <;> simp
          have q2 : decide (o ≤ a) = false := by simp; omega
          have q3 : decide (e ≤ o) = false := by simp; omega
          rcases q1 with q1 | q1 <;> simp [q1, q2, q3, bindI_some]
      simp only [bindI_some, Err.el, c1, c2, c3, cond_false]
      rcases end_ok 2000 l b (by omega) (by omega) with ⟨k, p, k5, k6⟩ | ⟨k5, x, y, k6⟩
      · rw [k6]
        simp only [bindI_some, Err.el]
        by_cases q1 : (b : Int) ≤ a
        · simp only [decide_eq_true q1, cond_true, bindI_some]
        · by_cases q2 : e ≤ b
          · simp only [decide_eq_false q1, decide_eq_true q2, cond_true, cond_false, bindI_some]
          · have hab : a < b := Int.lt_of_not_ge q1
            have hbe : b < e := Int.lt_of_not_ge q2
            have := p4 b k p k5 hab hbe
            simp only [decide_eq_false q1, decide_eq_false q2, decide_eq_true this, cond_false, bindI_some]
      · rw [k6]
        simp only [bindI_some, Err.el]
    · rw [h6]
      simp only [bindI_some, Err.el, decide_true, cond_true]
end Go.Proofs.YtmbepfdnmgiifaaDoor
