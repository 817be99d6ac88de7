/- Up, part Lb: what plain laws use. -/
import Derived.Test.YtppobdnacmdgbaaDoorLa
set_option linter.unusedVariables false
set_option linter.unusedSimpArgs false
namespace Go.Up

theorem bindI_some {α R : Type} (x : α) (K : α → Option R) : bindI (some x) K = K x := rfl
theorem bindI_none {α R : Type} (K : α → Option R) : bindI none K = none := rfl
theorem bindX_out {X Y R : Type} (x : X) (f : X → Option R) (g : Y → Option R) : bindX (some (.out x)) f g = f x := rfl
theorem bindX_ret {X Y R : Type} (y : Y) (f : X → Option R) (g : Y → Option R) : bindX (some (.ret y)) f g = g y := rfl
theorem bindX_none {X Y R : Type} (f : X → Option R) (g : Y → Option R) : bindX none f g = none := rfl
theorem geti_nat {α : Type} (l : List α) (n : Nat) : geti l (n : Int) = l[n]? := rfl
theorem geti_zero {α : Type} (l : List α) : geti l 0 = l[0]? := rfl
theorem geti_of {α : Type} (l : List α) {n : Int} (h : 0 ≤ n) : geti l n = l[n.toNat]? := by
  obtain ⟨k, rfl⟩ := Int.eq_ofNat_of_zero_le h
  rfl
theorem geti_lt {α : Type} (l : List α) {n : Int} (h : 0 ≤ n) (h2 : n < l.length) : geti l n = some (l[n.toNat]'(by omega)) := by
  rw [geti_of l h]; exact List.getElem?_eq_getElem _
theorem w64 {n : Int} (h : I64 n) : IntKind.i64.wrap n = n := by rw [IntKind.wrap_i64]; omega
theorem w32 {n : Int} (h : U32 n) : IntKind.u32.wrap n = n := by rw [IntKind.wrap_u32]; omega
theorem loopN_succ {X Y : Type} (step : X → (X → Option Y) → Option Y) (n : Nat) (x : X) : loopN step (n + 1) x = step x (loopN step n) := rfl
theorem inB_nat (n len : Nat) : inB (n : Int) len = decide (n < len) := by
  have : inB (n : Int) len = Nat.blt n len := rfl
  rw [this, Bool.eq_iff_iff]
  simp [Nat.blt, Nat.succ_le_iff]
theorem inB_of {n : Int} {len : Nat} (h : 0 ≤ n) (h2 : n < len) : inB n len = true := by
  obtain ⟨k, rfl⟩ := Int.eq_ofNat_of_zero_le h
  rw [inB_nat]
  simp; omega
theorem inC_of {n : Int} {len : Nat} (h : 0 ≤ n) (h2 : n ≤ len) : inC n len = true := by simp [inC, h, h2]
theorem lbeq {l m : List UInt8} : List.beq l m = decide (l = m) := by
  have e : List.beq l m = (l == m) := rfl
  rw [e, Bool.eq_iff_iff]
  simp
theorem mem_of_geti {α : Type} {l : List α} {n : Int} {x : α} (h : geti l n = some x) : x ∈ l := by
  obtain ⟨h0, h1, h2⟩ := geti_some h
  exact List.mem_of_getElem? h2
end Go.Up
