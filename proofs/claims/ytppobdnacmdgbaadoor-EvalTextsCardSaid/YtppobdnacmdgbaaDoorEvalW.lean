/- Words, on plain data: bits, fields, signed lowest bits, shifts, as the document's loops and the program's operations reckon them. -/
import Derived.Test.YtppobdnacmdgbaaDoorModEval
import Derived.Test.YtppobdnacmdgbaaDoorLb
import Derived.KernelRfl
set_option linter.unusedVariables false
set_option linter.unusedSimpArgs false
namespace Go.Proofs.YtppobdnacmdgbaaDoor
open Go Go.Up
set_option maxRecDepth 100000

theorem wu (n : Int) : IntKind.u32.wrap n = n % 4294967296 := by rw [IntKind.wrap_u32]
theorem wi64n {n : Int} (h0 : -9223372036854775808 ≤ n) (h1 : n ≤ 9223372036854775807) : IntKind.i64.wrap n = n := by rw [IntKind.wrap_i64]; omega
theorem tdiv2 (m : Nat) : Int.tdiv (m : Int) 2 = ((m / 2 : Nat) : Int) := by rw [Int.tdiv_eq_ediv_of_nonneg (by omega)]; rfl
/-- A word's signed lowest twelve bits; the others. -/
def loW (v : Int) : Int := if v % 4096 ≥ 2048 then v % 4096 - 4096 else v % 4096
def hiW (v : Int) : Int := ((v - loW v) % 4294967296) / 4096

theorem bit_loop (N : Nat) : ∀ (d f k m : Nat), d < f → k + d ≤ 40 → m < 4294967296 → typecaseref01_Bit_L0 N f (((m : Int), ((k + d : Nat) : Int), (k : Int), ()), ()) = some (.out ((((m / 2 ^ d : Nat) : Int), ()), ()))
  | 0, f + 1, k, m, _, hk, hm => by
    have h0 : decide ((k : Int) < ((k + 0 : Nat) : Int)) = false := by simp
    simp only [typecaseref01_Bit_L0_succ, typecaseref01_Bit_L0s, h0, cond_false, bindI_some, Nat.pow_zero, Nat.div_one]
  | d + 1, f + 1, k, m, hd, hk, hm => by
    have h0 : decide ((k : Int) < ((k + (d + 1) : Nat) : Int)) = true := by simp; omega
    have h1 : decide ((k : Int) < 40) = true := by simp; omega
    have h2 : IntKind.i64.wrap ((k : Int) + 1) = ((k + 1 : Nat) : Int) := by rw [wi64n (by omega) (by omega)]; omega
    have h3 : IntKind.u32.wrap (Int.tdiv (m : Int) 2) = ((m / 2 : Nat) : Int) := by rw [tdiv2, wu]; omega
    simp only [typecaseref01_Bit_L0_succ, typecaseref01_Bit_L0s, h0, h1, h2, h3, cond_true, bindI_some]
    have := bit_loop N d f (k + 1) (m / 2) (by omega) (by omega) (by omega)
    rw [show k + 1 + d = k + (d + 1) by omega] at this
    rw [this, Nat.div_div_eq_div_mul, Nat.pow_succ, Nat.mul_comm (2 ^ d)]
theorem bit_ok (N : Nat) (hN : 50 ≤ N) (m i : Nat) (hm : m < 4294967296) (hi : i ≤ 40) : typecaseref01_Bit N (m : Int) (i : Int) = some (((m / 2 ^ i % 2 : Nat) : Int), ()) := by
  have := bit_loop N i N 0 m (by omega) (by omega) hm
  rw [Nat.zero_add] at this
  have e : (((0 : Nat) : Int)) = 0 := rfl
  rw [e] at this
  simp only [typecaseref01_Bit, this, bindX_out]
  congr 1

theorem pow20 {j : Nat} (h : j ≤ 20) : 2 ^ j ≤ 1048576 := by
  have : (2 : Nat) ^ j ≤ 2 ^ 20 := Nat.pow_le_pow_right (by omega) h
  simpa using this
theorem field_loop (N : Nat) (hN : 50 ≤ N) (m low bits : Nat) (hm : m < 4294967296) (hb : bits ≤ 20) (hl : low ≤ 12) : ∀ (d f j : Nat), d < f → j + d = bits →
    typecaseref01_Field_L0 N f (((m : Int), (low : Int), (bits : Int), ((m / 2 ^ low % 2 ^ j : Nat) : Int), ((2 ^ j : Nat) : Int), (j : Int), ()), ()) = some (.out ((((m / 2 ^ low % 2 ^ bits : Nat) : Int), ()), ()))
  | d, 0, _, h, _ => by omega
  | d, f + 1, j, hd, hj => by
    have hh : typecaseref01_Held N (bits : Int) = some ((bits : Int), ()) := by
      have h0 : decide ((bits : Int) < 0) = false := decide_eq_false (by omega)
      have h1 : decide (32 < (bits : Int)) = false := decide_eq_false (by omega)
      simp only [typecaseref01_Held, h0, h1, cond_false]
    simp only [typecaseref01_Field_L0_succ, typecaseref01_Field_L0s, hh, bindI_some]
    cases d with
    | zero =>
      have : j = bits := by omega
      subst this
      have h0 : decide ((j : Int) < (j : Int)) = false := by simp
      simp only [h0, cond_false]
    | succ d =>
      have h0 : decide ((j : Int) < (bits : Int)) = true := by simp; omega
      have h1 : IntKind.i64.wrap ((low : Int) + (j : Int)) = ((low + j : Nat) : Int) := by rw [wi64n (by omega) (by omega)]; omega
      have h2 : IntKind.i64.wrap ((j : Int) + 1) = ((j + 1 : Nat) : Int) := by rw [wi64n (by omega) (by omega)]; omega
      have p1 := pow20 (j := j) (by omega)
      have p2 := pow20 (j := j + 1) (by omega)
      have hb1 : m / 2 ^ (low + j) % 2 < 2 := Nat.mod_lt _ (by omega)
      have e1 : m / 2 ^ low % 2 ^ (j + 1) = m / 2 ^ low % 2 ^ j + 2 ^ j * (m / 2 ^ (low + j) % 2) := by
        rw [Nat.mod_pow_succ, Nat.div_div_eq_div_mul, ← Nat.pow_add]
      have p3 : m / 2 ^ low % 2 ^ (j + 1) < 2 ^ (j + 1) := Nat.mod_lt _ (Nat.two_pow_pos _)
      have h3 : IntKind.u32.wrap (((2 ^ j : Nat) : Int) * ((m / 2 ^ (low + j) % 2 : Nat) : Int)) = ((2 ^ j * (m / 2 ^ (low + j) % 2) : Nat) : Int) := by
        rw [wu, ← Int.natCast_mul]
        generalize hq : 2 ^ j * (m / 2 ^ (low + j) % 2) = q
        have : q ≤ 2 ^ j * 1 := by rw [← hq]; exact Nat.mul_le_mul_left _ (by omega)
        omega
      have h4 : IntKind.u32.wrap (((m / 2 ^ low % 2 ^ j : Nat) : Int) + ((2 ^ j * (m / 2 ^ (low + j) % 2) : Nat) : Int)) = ((m / 2 ^ low % 2 ^ (j + 1) : Nat) : Int) := by
        rw [wu, ← Int.natCast_add, ← e1]
        omega
      have h5 : IntKind.u32.wrap (2 * ((2 ^ j : Nat) : Int)) = ((2 ^ (j + 1) : Nat) : Int) := by
        rw [wu, show (2 : Int) * ((2 ^ j : Nat) : Int) = ((2 ^ (j + 1) : Nat) : Int) by rw [Nat.pow_succ]; omega]
        omega
      simp only [h0, cond_true, h1, bit_ok N hN m (low + j) hm (by omega), bindI_some, h3, h4, h5, h2]
      exact field_loop N hN m low bits hm hb hl d f (j + 1) (by omega) (by omega)
theorem field_ok (N : Nat) (hN : 50 ≤ N) (m low bits : Nat) (hm : m < 4294967296) (hb : bits ≤ 20) (hl : low ≤ 12) : typecaseref01_Field N (m : Int) (low : Int) (bits : Int) = some (((m / 2 ^ low % 2 ^ bits : Nat) : Int), ()) := by
  have h0 : decide ((low : Int) < 0) = false := decide_eq_false (by omega)
  have h1 : decide (32 < (low : Int)) = false := decide_eq_false (by omega)
  have := field_loop N hN m low bits hm hb hl bits N 0 (by omega) (by omega)
  rw [Nat.pow_zero, Nat.mod_one] at this
  have e : (((0 : Nat) : Int)) = 0 := rfl
  have e1 : (((1 : Nat) : Int)) = 1 := rfl
  rw [e, e1] at this
  simp only [typecaseref01_Field, h0, h1, cond_false, this, bindX_out]
theorem sign_tail (N f : Nat) (v : Int) : bindX (typecaseref01_Sign_L0 N (f + 13) (((12 : Int), v, (1 : Int), (0 : Int), ()), ())) (fun y => some (IntKind.i32.wrap (IntKind.i64.wrap (y.fst.fst - y.fst.snd.fst)), ())) (fun y => some (y.fst.fst, ())) = some (IntKind.i32.wrap (IntKind.i64.wrap (v - 4096)), ()) := rfl
theorem sign_ok (N : Nat) (hN : 50 ≤ N) (m : Nat) (hm : m < 4294967296) : typecaseref01_Sign N (m : Int) 12 = some (loW m, ()) := by
  obtain ⟨f, rfl⟩ : ∃ f, N = f + 13 := ⟨N - 13, by omega⟩
  have hh : typecaseref01_Held (f + 13) 12 = some (12, ()) := rfl
  have hf := field_ok (f + 13) hN m 0 12 hm (by omega) (by omega)
  have hb := bit_ok (f + 13) hN m 11 hm (by omega)
  rw [Nat.pow_zero, Nat.div_one] at hf
  have e0 : (((0 : Nat) : Int)) = 0 := rfl
  have e12 : (((12 : Nat) : Int)) = 12 := rfl
  have e11 : (((11 : Nat) : Int)) = 11 := rfl
  rw [e0, e12] at hf
  rw [e11] at hb
  have w1 : IntKind.i64.wrap (12 - 1) = 11 := rfl
  have d12 : decide ((12 : Int) = 0) = false := rfl
  have w2 : IntKind.i64.wrap (((m % 2 ^ 12 : Nat) : Int)) = ((m % 2 ^ 12 : Nat) : Int) := wi64n (by omega) (by omega)
  simp only [typecaseref01_Sign, hh, bindI_some, d12, cond_false, hf, w1, hb, w2]
  have p : (2 : Nat) ^ 12 = 4096 := by decide
  have p2 : (2 : Nat) ^ 11 = 2048 := by decide
  rw [p, p2]
  unfold loW
  by_cases hbit : m / 2048 % 2 = 1
  · have hd : decide (((m / 2048 % 2 : Nat) : Int) = 1) = true := by simp; omega
    rw [hd, cond_true]
    refine (sign_tail _ f _).trans ?_
    have w3 : IntKind.i64.wrap (((m % 4096 : Nat) : Int) - 4096) = ((m % 4096 : Nat) : Int) - 4096 := wi64n (by omega) (by omega)
    have w4 : IntKind.i32.wrap (((m % 4096 : Nat) : Int) - 4096) = (m : Int) % 4096 - 4096 := by rw [IntKind.wrap_i32]; omega
    rw [w3, w4, if_pos (by omega)]
  · have hd : decide (((m / 2048 % 2 : Nat) : Int) = 1) = false := by simp; omega
    have w4 : IntKind.i32.wrap (((m % 4096 : Nat) : Int)) = (m : Int) % 4096 := by rw [IntKind.wrap_i32]; omega
    rw [hd, cond_false, w4, if_neg (by omega)]
theorem loW_bounds (v : Int) : -2048 ≤ loW v ∧ loW v ≤ 2047 := by unfold loW; split <;> omega
theorem refHi_ok (N : Nat) (hN : 50 ≤ N) (m : Nat) (hm : m < 4294967296) : typecaseref01_Hi N (m : Int) = some (hiW m, ()) := by
  simp only [typecaseref01_Hi, sign_ok N hN m hm, bindI_some]
  have hb := loW_bounds (m : Int)
  have e : IntKind.u32.wrap ((m : Int) - IntKind.u32.wrap (loW m)) = (((((m : Int) - loW m) % 4294967296).toNat : Nat) : Int) := by
    rw [wu, wu]; omega
  rw [e]
  have := field_ok N hN ((((m : Int) - loW m) % 4294967296).toNat) 12 20 (by omega) (by omega) (by omega)
  have e20 : (((20 : Nat) : Int)) = 20 := rfl
  have e12 : (((12 : Nat) : Int)) = 12 := rfl
  rw [e20, e12] at this
  rw [this]
  simp only [bindI_some]
  unfold hiW
  have p : (2 : Nat) ^ 12 = 4096 := by decide
  have p2 : (2 : Nat) ^ 20 = 1048576 := by decide
  rw [p, p2]
  congr 2
  omega

/-! ### The program's -/
theorem fdivE (a : Int) (b : Int) (h : 0 ≤ b) : a.fdiv b = a / b := Int.fdiv_eq_ediv_of_nonneg a h
theorem wm (k : Int) (h : k = 20) : IntKind.i64.wrap (32 - minI (maxI 12 0) 32) = k := by subst h; rfl
theorem sh20 (x : Int) : shlI IntKind.u32 x 20 = x * 1048576 % 4294967296 := by
  simp only [shlI, wu]
  rfl
theorem lo_prog (v : Int) (h : U32 v) : shrI IntKind.i32 (IntKind.i32.wrap (shlI IntKind.u32 v (IntKind.i64.wrap (32 - minI (maxI 12 0) 32)))) (IntKind.i64.wrap (32 - minI (maxI 12 0) 32)) = loW v := by
  rw [wm 20 rfl, sh20, IntKind.wrap_i32]
  have e : shrI IntKind.i32 = fun a b => a.fdiv (2 ^ (min b.toNat 32)) := rfl
  rw [e]
  have p : (2 : Int) ^ (min (Int.toNat 20) 32) = 1048576 := by decide
  simp only [p]
  rw [fdivE _ _ (by omega)]
  unfold loW
  split <;> omega
theorem hi_prog (x : Int) : shrI IntKind.u32 x 12 = x / 4096 := by
  have e : shrI IntKind.u32 = fun a b => a.fdiv (2 ^ (min b.toNat 32)) := rfl
  rw [e]
  have p : (2 : Int) ^ (min (Int.toNat 12) 32) = 4096 := by decide
  simp only [p]
  exact fdivE _ _ (by omega)
theorem not_prog (v : Int) (h : U32 v) : notI IntKind.u32 v = 4294967295 - v := by
  obtain ⟨m, rfl⟩ := Int.eq_ofNat_of_zero_le h.1
  have hm : m < 4294967296 := by have := h.2; omega
  have e : notI IntKind.u32 (m : Int) = IntKind.u32.wrap ((BitVec.ofInt 32 4294967295 ^^^ BitVec.ofInt 32 (m : Int)).toNat : Nat) := rfl
  have e1 : BitVec.ofInt 32 4294967295 = BitVec.allOnes 32 := by decide
  have e2 : (BitVec.allOnes 32 ^^^ BitVec.ofInt 32 (m : Int)).toNat = 4294967295 - m := by
    rw [BitVec.allOnes_xor, BitVec.toNat_not, BitVec.toNat_ofInt]
    omega
  rw [e, e1, e2, wu]
  omega
end Go.Proofs.YtppobdnacmdgbaaDoor
