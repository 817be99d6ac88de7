/- The law BlockBehind, on plain data. -/
import Derived.Test.YtmbepfdnmgiifaaDoorBlockP
set_option linter.unusedVariables false
set_option linter.unusedSimpArgs false
namespace Go.Proofs.YtmbepfdnmgiifaaDoor
open Go Go.Up
set_option maxRecDepth 100000
theorem blockBehind_law (x : VD [(.slice (.slice .tok)), (.int .i64), (.slice (.slice .tok))]) (hx : Wfs [(.slice (.slice .tok)), (.int .i64), (.slice (.slice .tok))] x) : ∃ N, typecaselaw13_BlockBehind N x.1 x.2.1 x.2.2.1 = some (true, ()) := by
  obtain ⟨l, a, more, u⟩ := x
  obtain ⟨hl, ha, hm, _⟩ := hx
  refine ⟨2000, ?_⟩
  obtain ⟨b1, h1, h2⟩ := light_ok 2000 (by omega) l
  obtain ⟨b2, h3, h4⟩ := light_ok 2000 (by omega) more
  simp only [typecaselaw13_BlockBehind, awake13b, bindI_some, Bool.not_true, cond_false, h1, h3]
  cases b1 with
  | false => simp only [Bool.not_false, cond_true, bindI_some]
  | true =>
    cases b2 with
    | false => simp only [Bool.not_true, Bool.not_false, cond_true, cond_false, bindI_some]
    | true =>
      simp only [Bool.not_true, cond_false, bindI_some]
      have hll := h2 rfl
      have hml := h4 rfl
      rcases end_ok 2000 l a (by omega) (by omega) with ⟨e, o, h5, h6⟩ | ⟨h5, p, q, h6⟩
      · rw [h6]
        obtain ⟨n, ln, t, rfl, h7, h8, h9, rfl⟩ := endP_inv h5
        have hn : n < l.length := (List.getElem?_eq_some_iff.1 h7).1
        have hb := blk_bounds _ _ _ _ _ _ h9
        rw [List.length_drop] at hb
        have c1 : decide (e < 0) = false := by simp; omega
        have c2 : decide ((l.length : Int) ≤ e) = false := by simp; omega
        have w1 : IntKind.i64.wrap (e + 1) = e + 1 := w64 ⟨by omega, by omega⟩
        have c3 : inC (e + 1) l.length = true := inC_of (by omega) (by omega)
        have c4 : (l.take (e + 1).toNat).length.ble 4294967296 = true := by simp; omega
        have c5 : (l.take (e + 1).toNat ++ more).length.ble 4294967296 = true := by simp; omega
        simp only [bindI_some, Err.el, c1, c2, w1, c3, c4, c5, cond_true, cond_false]
        have hnew : endP (l.take (e + 1).toNat ++ more) (n : Int) = some (e, t.2) := by
          refine endP_of (l := ln) ?_ h8 ?_
          · rw [List.getElem?_append_left (by rw [List.length_take]; omega), List.getElem?_take, if_pos (by omega)]
            exact h7
          · have hp := blk_prefix _ _ _ _ _ _ more h9
            have e1 : (l.take (e + 1).toNat ++ more).drop (n + 1) = (l.drop (n + 1)).take (e + 1 - ((n : Int) + 1)).toNat ++ more := by
              rw [List.drop_append, List.drop_take, List.length_take]
              have e2 : n + 1 - min (e + 1).toNat l.length = 0 := by omega
              have e3 : (e + 1).toNat - (n + 1) = (e + 1 - ((n : Int) + 1)).toNat := by omega
              rw [e2, e3]
              rfl
            rw [e1]
            exact hp
        rcases end_ok 2000 (l.take (e + 1).toNat ++ more) (n : Int) (by simp; omega) (by simp; omega) with ⟨e', o', k5, k6⟩ | ⟨k5, _⟩
        · rw [hnew] at k5
          cases k5
          rw [k6]
          simp only [bindI_some, Err.el, decide_true, cond_true]
        · rw [hnew] at k5
          cases k5
      · rw [h6]
        simp only [bindI_some, Err.el]
end Go.Proofs.YtmbepfdnmgiifaaDoor
