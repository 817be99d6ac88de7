/- Up, part l2: an owned array is frozen: from now on it is plain data. -/
import Derived.Test.YtppobdnacmdgbaaDoorUl
set_option linter.unusedVariables false
set_option linter.unusedSimpArgs false
namespace Go.Up
open Go.RowKit

/-- An owned array's object is forgotten; the slice of all of it is plain data. -/
theorem freeze_mw [GTab] {E : Env} {h : AH} {w : World} (hh : HRel E h w) (hok : h.ok) {id : Nat} {t : Ty} {l : List (El t)} (hid : id < h.n) (ho : h.o id = some (.tarr t l)) {v : Value} (hv : Rel E (.mw id) v) :
    ∃ E', Step E h w E' (h.set id none) w ∧ Rel E' (.tl t l none) v := by
  obtain ⟨b, cap, size, len, a, c, rfl, h1, h2, h3, h4, h5⟩ := hv.mw_inv
  obtain ⟨b', cap', k1, k2, k3, krest⟩ := hh.arr _ _ _ hid ho
  rw [h1] at k1
  cases k1
  have hca : a = none → c = 0 := fun ha => by
    rcases Nat.eq_zero_or_pos c with h0 | h0
    · exact h0
    · rw [h5 h0] at ha; cases ha
  have hlen : ∀ el ∈ l.map (enc t), el.length = sz t := fun el hel => by
    obtain ⟨z, _, rfl⟩ := List.mem_map.1 hel
    exact enc_length _ _
  rcases Nat.eq_zero_or_pos l.length with hl0 | hl0
  · have hln : l = [] := List.length_eq_zero_iff.1 hl0
    subst hln
    obtain ⟨s1, s2⟩ := hh.kill hok id
    exact ⟨E, ⟨.refl _ _, s1, s2, Nat.le_refl _, .refl _ _ _, .refl _ _ _, .refl _ _ _⟩,
      .pure (.tl (.sl (fun _ _ => undef) (by simp) h3 (by omega) (fun _ hc => by cases hc) hlen (fun ha => ⟨rfl, hca ha⟩) (fun _ i _ _ _ _ hi => by simp at hi) (fun i _ _ _ hi => by simp at hi)))⟩
  · have ha := h5 (by omega)
    subst ha
    obtain ⟨cur, T, k4, k5, k6, k7⟩ := krest (by omega)
    have st := Step.freeze (hi := cur.size) hh hok hid (by rw [ho]; simp) (by rw [h1]; simp [EO.blk]; omega) k6 k4
    refine ⟨_, st, .pure (.tl (.sl (fun i j => (cur[i * sz t + j]?).getD undef) (by simp) h3 (by omega) (fun _ hc => by cases hc) hlen (fun ha => by cases ha) (fun ad i j el x had hi hj => ?_) (fun i j el x hi hj => ?_)))⟩
    · cases had
      rw [List.getElem?_map] at hi
      obtain ⟨z, hz, rfl⟩ := Option.map_eq_some_iff.1 hi
      obtain ⟨v, q1, q2⟩ := k7 i j z x hz hj
      rw [addr_add_lit]
      simp only [Env.addS, Nat.zero_add]
      have hlt := (Array.getElem?_eq_some_iff.1 q1).1
      rw [if_pos ⟨trivial, trivial, Nat.zero_le _, hlt⟩, q1]
      rfl
    · rw [List.getElem?_map] at hi
      obtain ⟨z, hz, rfl⟩ := Option.map_eq_some_iff.1 hi
      obtain ⟨v, q1, q2⟩ := k7 i j z x hz hj
      rw [q1]
      exact q2.mono st.ext.S
end Go.Up
