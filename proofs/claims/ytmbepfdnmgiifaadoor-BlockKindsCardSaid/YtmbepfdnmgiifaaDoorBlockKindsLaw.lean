/- The law BlockKinds, on plain data. -/
import Derived.Test.YtmbepfdnmgiifaaDoorModKinds
import Derived.Test.YtmbepfdnmgiifaaDoorLb
import Derived.KernelRfl
set_option linter.unusedVariables false
set_option linter.unusedSimpArgs false
namespace Go.Proofs.YtmbepfdnmgiifaaDoor
open Go Go.Up
set_option maxRecDepth 100000

theorem awake13 : typecaselaw13_awake 700 = some (true, ()) := by kernel_rfl
def kNames : List Str := [[], [UInt8.ofNat 46, UInt8.ofNat 109, UInt8.ofNat 97, UInt8.ofNat 99, UInt8.ofNat 114, UInt8.ofNat 111],
          [UInt8.ofNat 46, UInt8.ofNat 101, UInt8.ofNat 110, UInt8.ofNat 100, UInt8.ofNat 109],
          [UInt8.ofNat 46, UInt8.ofNat 114, UInt8.ofNat 101, UInt8.ofNat 112, UInt8.ofNat 116],
          [UInt8.ofNat 46, UInt8.ofNat 101, UInt8.ofNat 110, UInt8.ofNat 100, UInt8.ofNat 114], [UInt8.ofNat 46, UInt8.ofNat 105, UInt8.ofNat 102],
          [UInt8.ofNat 46, UInt8.ofNat 101, UInt8.ofNat 108, UInt8.ofNat 115, UInt8.ofNat 101],
          [UInt8.ofNat 46, UInt8.ofNat 101, UInt8.ofNat 110, UInt8.ofNat 100, UInt8.ofNat 105, UInt8.ofNat 102]]
theorem refKind_step (N f i : Nat) (t : Tok) (l : List Tok) (hk : t.kind = 1) (hi : i < 8) : typecaseref13_Kind_L0 N (f + 1) ((t :: l, kNames, (i : Int), ()), ()) =
    if t.text = kNames.getD i [] then some (.ret (((i : Int), ()), ())) else typecaseref13_Kind_L0 N f ((t :: l, kNames, ((i + 1 : Nat) : Int), ()), ()) := by
  have hlen : kNames.length = 8 := rfl
  have hw : IntKind.i64.wrap ((i : Int) + 1) = ((i + 1 : Nat) : Int) := by rw [w64 ⟨by omega, by omega⟩]; omega
  have g : geti (t :: l) 0 = some t := rfl
  have g2 : geti kNames (i : Int) = some (kNames.getD i []) := by
    rw [geti_nat, List.getD_eq_getElem?_getD, List.getElem?_eq_getElem (by rw [hlen]; exact hi)]; rfl
  have h0 : decide (0 < ((t :: l).length : Int)) = true := by simp only [List.length_cons, decide_eq_true_eq]; omega
  simp only [typecaseref13_Kind_L0_succ, typecaseref13_Kind_L0s, hlen, g, g2, hk, hw, lbeq, bindI_some, h0, decide_true, cond_true]
  have h1 : decide ((i : Int) < ((8 : Nat) : Int)) = true := by simp; omega
  rw [h1, cond_true]
  by_cases h : t.text = kNames.getD i []
  · rw [if_pos h, decide_eq_true h]; rfl
  · rw [if_neg h, decide_eq_false h]; rfl
theorem refKind_end (N f : Nat) (t : Tok) (l : List Tok) : typecaseref13_Kind_L0 N (f + 1) ((t :: l, kNames, ((8 : Nat) : Int), ()), ()) = some (.out ((), ())) := by
  simp [typecaseref13_Kind_L0_succ, typecaseref13_Kind_L0s, kNames]
/-- A line's kind, told by both. -/
theorem kind_same (l : List Tok) : ∃ k, block_KindOf 700 l = some (k, ()) ∧ typecaseref13_Kind 700 l = some (k, ()) := by
  cases l with
  | nil => exact ⟨0, by kernel_rfl, by kernel_rfl⟩
  | cons t l =>
    have g : ∀ y : Tok, geti (y :: l) 0 = some y := fun _ => rfl
    have hn : decide (((List.length (t :: l)) : Int) = 0) = false := by simp; omega
    by_cases hk : t.kind = 1
    · have hr : typecaseref13_Kind 700 (t :: l) = bindX (typecaseref13_Kind_L0 700 700 ((t :: l, kNames, ((1 : Nat) : Int), ()), ())) (fun y => some (0, ())) fun y => some (y.fst.fst, ()) := rfl
      have ho : block_KindOf 700 (t :: l) = (if t.text = kNames.getD 1 [] then some (1, ()) else if t.text = kNames.getD 2 [] then some (2, ()) else if t.text = kNames.getD 3 [] then some (3, ()) else if t.text = kNames.getD 4 [] then some (4, ())
          else if t.text = kNames.getD 5 [] then some (5, ()) else if t.text = kNames.getD 6 [] then some (6, ()) else if t.text = kNames.getD 7 [] then some (7, ()) else some (0, ())) := by
        simp only [block_KindOf, hn, g, hk, bindI_some, cond_false, decide_true, Bool.not_true, lbeq, Bool.cond_decide]
        rfl
      rw [ho, hr]
      rw [refKind_step 700 699 1 t l hk (by omega)]
      split
      · exact ⟨_, rfl, rfl⟩
      rw [refKind_step 700 698 2 t l hk (by omega)]
      split
      · exact ⟨_, rfl, rfl⟩
      rw [refKind_step 700 697 3 t l hk (by omega)]
      split
      · exact ⟨_, rfl, rfl⟩
      rw [refKind_step 700 696 4 t l hk (by omega)]
      split
      · exact ⟨_, rfl, rfl⟩
      rw [refKind_step 700 695 5 t l hk (by omega)]
      split
      · exact ⟨_, rfl, rfl⟩
      rw [refKind_step 700 694 6 t l hk (by omega)]
      split
      · exact ⟨_, rfl, rfl⟩
      rw [refKind_step 700 693 7 t l hk (by omega)]
      split
      · exact ⟨_, rfl, rfl⟩
      rw [refKind_end 700 692 t l]
      exact ⟨_, rfl, rfl⟩
    · refine ⟨0, by simp [block_KindOf, bindI_some, hk, g], ?_⟩
      have e : ∀ n : Nat, n ≤ 10 → IntKind.i64.wrap ((n : Int) + 1) = ((n + 1 : Nat) : Int) := fun n h => by rw [w64 ⟨by omega, by omega⟩]; omega
      have step : ∀ f i : Nat, i < 8 → typecaseref13_Kind_L0 700 (f + 1) ((t :: l, kNames, (i : Int), ()), ()) = typecaseref13_Kind_L0 700 f ((t :: l, kNames, ((i + 1 : Nat) : Int), ()), ()) := fun f i hi => by
        have h1 : decide ((i : Int) < ((List.length kNames : Nat) : Int)) = true := by simp [kNames]; omega
        have h0 : decide (0 < ((t :: l).length : Int)) = true := by simp only [List.length_cons, decide_eq_true_eq]; omega
        simp only [typecaseref13_Kind_L0_succ, typecaseref13_Kind_L0s, h1, h0, g, bindI_some, cond_true, cond_false, decide_eq_false hk, e i (by omega)]
      have hr : typecaseref13_Kind 700 (t :: l) = bindX (typecaseref13_Kind_L0 700 700 ((t :: l, kNames, ((1 : Nat) : Int), ()), ())) (fun y => some (0, ())) fun y => some (y.fst.fst, ()) := rfl
      rw [hr, step 699 1 (by omega), step 698 2 (by omega), step 697 3 (by omega), step 696 4 (by omega), step 695 5 (by omega), step 694 6 (by omega), step 693 7 (by omega), refKind_end 700 692 t l]
      rfl
theorem labels_same (N : Nat) (l : List Tok) (hl : l.length ≤ 600) : ∀ (f n : Nat), 602 < 2 * f + n → n ≤ 602 → ∃ m : Int, block_Labels_L0 N f ((l, (n : Int), ()), ()) = some (.out ((m, ()), ())) ∧ typecaseref13_Labels_L0 N f ((l, (n : Int), ()), ()) = some (.out ((m, ()), ()))
  | 0, n, h, hn => by omega
  | f + 1, n, h, hn => by
    have w1 : IntKind.i64.wrap ((n : Int) + 1) = ((n + 1 : Nat) : Int) := by rw [w64 ⟨by omega, by omega⟩]; omega
    have w2 : IntKind.i64.wrap ((n : Int) + 2) = ((n + 2 : Nat) : Int) := by rw [w64 ⟨by omega, by omega⟩]; omega
    simp only [block_Labels_L0_succ, typecaseref13_Labels_L0_succ, block_Labels_L0s, typecaseref13_Labels_L0s, w1, w2, lbeq]
    by_cases h1 : n + 1 < l.length
    · have e1 : decide (((n + 1 : Nat) : Int) < (l.length : Int)) = true := by simp; omega
      have e2 : decide (((n + 2 : Nat) : Int) ≤ (l.length : Int)) = true := by simp; omega
      have g1 : geti l (n : Int) = some (l[n]'(by omega)) := by rw [geti_nat]; exact List.getElem?_eq_getElem _
      have g2 : geti l ((n + 1 : Nat) : Int) = some (l[n + 1]'h1) := by rw [geti_nat]; exact List.getElem?_eq_getElem _
      simp only [e1, e2, g1, g2, bindI_some, cond_true]
      have ih := labels_same N l hl f (n + 2) (by omega) (by omega)
      by_cases k1 : (l[n]'(by omega)).kind = 1 <;> by_cases k2 : (l[n]'(by omega)).kind = 2 <;> by_cases k3 : (l[n + 1]'h1).kind = 7 <;> by_cases k4 : (l[n + 1]'h1).text = [UInt8.ofNat 58] <;>
        simp only [k1, k2, k3, k4, Int.reduceEq, bindI_some, decide_true, decide_false, cond_true, cond_false, Bool.not_true, Bool.not_false] <;> first | exact ih | exact ⟨_, rfl, rfl⟩ | (exfalso; omega)
    · have e1 : decide (((n + 1 : Nat) : Int) < (l.length : Int)) = false := by simp; omega
      have e2 : decide (((n + 2 : Nat) : Int) ≤ (l.length : Int)) = false := by simp; omega
      simp only [e1, e2, bindI_some, cond_false]
      exact ⟨_, rfl, rfl⟩
theorem blockKinds_law (x : VD [(.slice .tok)]) (hx : Wfs [(.slice .tok)] x) : ∃ N, typecaselaw13_BlockKinds N x.1 = some (true, ()) := by
  obtain ⟨l, u⟩ := x
  refine ⟨700, ?_⟩
  simp only [typecaselaw13_BlockKinds, awake13, bindI_some, Bool.not_true, cond_false]
  by_cases h : 600 < (l.length : Int)
  · simp [h]
  · obtain ⟨k, h1, h2⟩ := kind_same l
    obtain ⟨m, h3, h4⟩ := labels_same 700 l (by omega) 700 0 (by omega) (by omega)
    simp only [decide_eq_false h, cond_false, h1, h2, bindI_some, decide_true, cond_true, block_Labels, typecaseref13_Labels]
    have e : ((0 : Nat) : Int) = 0 := rfl
    rw [e] at h3 h4
    rw [h3, h4]
    simp [bindX_out, bindI_some]
end Go.Proofs.YtmbepfdnmgiifaaDoor
