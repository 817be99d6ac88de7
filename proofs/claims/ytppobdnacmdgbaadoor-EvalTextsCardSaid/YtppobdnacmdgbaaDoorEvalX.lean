/- Shifts and bitwise operations, on plain data: the document's loops and the program's operations come to the same. -/
import Derived.Test.YtppobdnacmdgbaaDoorEvalW
set_option linter.unusedVariables false
set_option linter.unusedSimpArgs false
namespace Go.Proofs.YtppobdnacmdgbaaDoor
open Go Go.Up
set_option maxRecDepth 100000

def shlW (v by' : Nat) : Nat := if 31 < by' then 0 else v * 2 ^ by' % 4294967296
def shrW (v by' : Nat) : Nat := if 31 < by' then 0 else v / 2 ^ by'
theorem moved_up (N : Nat) (n : Nat) (hn : n < 4294967296) : ∀ (d f a i : Nat), d < f → i + d = min n 32 → a < 4294967296 →
    typecaseref12_moved_L0 N f (((a : Int), (n : Int), true, (i : Int), ()), ()) = some (.out ((((a * 2 ^ d % 4294967296 : Nat) : Int), ()), ()))
  | d, 0, _, _, h, _, _ => by omega
  | 0, f + 1, a, i, _, hi, ha => by
    have e : (bif decide ((i : Int) < (n : Int)) then some (decide ((i : Int) < 32)) else some false) = some false := by
      by_cases h : i < n
      · rw [decide_eq_true (by omega), cond_true, decide_eq_false (by omega)]
      · rw [decide_eq_false (by omega), cond_false]
    simp only [typecaseref12_moved_L0_succ, typecaseref12_moved_L0s, e, bindI_some, cond_false, Nat.pow_zero, Nat.mul_one]
    rw [Nat.mod_eq_of_lt ha]
  | d + 1, f + 1, a, i, hd, hi, ha => by
    have e : (bif decide ((i : Int) < (n : Int)) then some (decide ((i : Int) < 32)) else some false) = some true := by
      rw [decide_eq_true (by omega), cond_true, decide_eq_true (by omega)]
    have h1 : IntKind.u32.wrap ((i : Int) + 1) = ((i + 1 : Nat) : Int) := by rw [wu]; omega
    have h2 : IntKind.u32.wrap (2 * (a : Int)) = ((a * 2 % 4294967296 : Nat) : Int) := by rw [wu]; omega
    simp only [typecaseref12_moved_L0_succ, typecaseref12_moved_L0s, e, bindI_some, cond_true, h1, h2]
    rw [moved_up N n hn d f (a * 2 % 4294967296) (i + 1) (by omega) (by omega) (by omega)]
    rw [Nat.mod_mul_mod, Nat.pow_succ, Nat.mul_assoc, Nat.mul_comm 2]
theorem moved_down (N : Nat) (n : Nat) (hn : n < 4294967296) : ∀ (d f a i : Nat), d < f → i + d = min n 32 → a < 4294967296 →
    typecaseref12_moved_L0 N f (((a : Int), (n : Int), false, (i : Int), ()), ()) = some (.out ((((a / 2 ^ d : Nat) : Int), ()), ()))
  | d, 0, _, _, h, _, _ => by omega
  | 0, f + 1, a, i, _, hi, ha => by
    have e : (bif decide ((i : Int) < (n : Int)) then some (decide ((i : Int) < 32)) else some false) = some false := by
      by_cases h : i < n
      · rw [decide_eq_true (by omega), cond_true, decide_eq_false (by omega)]
      · rw [decide_eq_false (by omega), cond_false]
    simp only [typecaseref12_moved_L0_succ, typecaseref12_moved_L0s, e, bindI_some, cond_false, Nat.pow_zero, Nat.div_one]
  | d + 1, f + 1, a, i, hd, hi, ha => by
    have e : (bif decide ((i : Int) < (n : Int)) then some (decide ((i : Int) < 32)) else some false) = some true := by
      rw [decide_eq_true (by omega), cond_true, decide_eq_true (by omega)]
    have h1 : IntKind.u32.wrap ((i : Int) + 1) = ((i + 1 : Nat) : Int) := by rw [wu]; omega
    have h2 : IntKind.u32.wrap (Int.tdiv (a : Int) 2) = ((a / 2 : Nat) : Int) := by rw [tdiv2, wu]; omega
    simp only [typecaseref12_moved_L0_succ, typecaseref12_moved_L0s, e, bindI_some, cond_true, cond_false, h1, h2]
    rw [moved_down N n hn d f (a / 2) (i + 1) (by omega) (by omega) (by omega)]
    rw [Nat.div_div_eq_div_mul, Nat.pow_succ, Nat.mul_comm (2 ^ d)]
theorem pow32 : (2 : Nat) ^ 32 = 4294967296 := by decide
theorem moved_ok (N : Nat) (hN : 50 ≤ N) (a n : Nat) (ha : a < 4294967296) (hn : n < 4294967296) :
    typecaseref12_moved N (a : Int) (n : Int) true = some (((shlW a n : Nat) : Int), ()) ∧ typecaseref12_moved N (a : Int) (n : Int) false = some (((shrW a n : Nat) : Int), ()) := by
  have e : (((0 : Nat) : Int)) = 0 := rfl
  have u := moved_up N n hn (min n 32) N a 0 (by omega) (by omega) ha
  have v := moved_down N n hn (min n 32) N a 0 (by omega) (by omega) ha
  rw [e] at u v
  have big : 31 < n → min n 32 = 32 := fun h => by omega
  constructor
  · simp only [typecaseref12_moved, u, bindX_out]
    unfold shlW
    split
    · rename_i h
      rw [big h, pow32, Nat.mul_mod_left]
    · rw [show min n 32 = n by omega]
  · simp only [typecaseref12_moved, v, bindX_out]
    unfold shrW
    split
    · rename_i h
      rw [big h, pow32, Nat.div_eq_of_lt ha]
    · rw [show min n 32 = n by omega]
theorem shifted_ok (N : Nat) (a n : Nat) (ha : a < 4294967296) : eval_shifted N (a : Int) (n : Int) true = some (((shlW a n : Nat) : Int), ()) ∧ eval_shifted N (a : Int) (n : Int) false = some (((shrW a n : Nat) : Int), ()) := by
  by_cases h : 31 < n
  · have h1 : decide ((31 : Int) < (n : Int)) = true := decide_eq_true (by omega)
    simp only [eval_shifted, h1, cond_true, shlW, shrW, if_pos h]
    exact ⟨rfl, rfl⟩
  · have h1 : decide ((31 : Int) < (n : Int)) = false := decide_eq_false (by omega)
    have h2 : decide ((0 : Int) ≤ (n : Int)) = true := decide_eq_true (by omega)
    have hm : min ((n : Int)).toNat 32 = n := by rw [Int.toNat_natCast]; omega
    have e1 : shlI IntKind.u32 (a : Int) (n : Int) = ((a * 2 ^ n % 4294967296 : Nat) : Int) := by
      have e : shlI IntKind.u32 (a : Int) (n : Int) = IntKind.u32.wrap ((a : Int) * 2 ^ (min ((n : Int)).toNat 32)) := rfl
      rw [e, hm, wu, Int.natCast_emod, Int.natCast_mul, Int.natCast_pow]
      rfl
    have e2 : shrI IntKind.u32 (a : Int) (n : Int) = ((a / 2 ^ n : Nat) : Int) := by
      have e : shrI IntKind.u32 (a : Int) (n : Int) = (a : Int).fdiv (2 ^ (min ((n : Int)).toNat 32)) := rfl
      have hp : (0 : Int) ≤ 2 ^ n := Int.le_of_lt (Int.pow_pos (by omega))
      rw [e, hm, fdivE _ _ hp, Int.natCast_ediv, Int.natCast_pow]
      rfl
    simp only [eval_shifted, h1, h2, cond_true, cond_false, e1, e2, shlW, shrW, if_neg h]
    exact ⟨trivial, trivial⟩

/-! ### Bit by bit -/
theorem add_and {j u v x y : Nat} (hx : x < 2 ^ j) (hy : y < 2 ^ j) : (2 ^ j * u + x) &&& (2 ^ j * v + y) = 2 ^ j * (u &&& v) + (x &&& y) := by
  refine Nat.eq_of_testBit_eq fun k => ?_
  rw [Nat.testBit_and, Nat.testBit_two_pow_mul_add _ hx, Nat.testBit_two_pow_mul_add _ hy, Nat.testBit_two_pow_mul_add _ (Nat.and_lt_two_pow _ hy)]
  split <;> rw [Nat.testBit_and]
theorem add_or {j u v x y : Nat} (hx : x < 2 ^ j) (hy : y < 2 ^ j) : (2 ^ j * u + x) ||| (2 ^ j * v + y) = 2 ^ j * (u ||| v) + (x ||| y) := by
  refine Nat.eq_of_testBit_eq fun k => ?_
  rw [Nat.testBit_or, Nat.testBit_two_pow_mul_add _ hx, Nat.testBit_two_pow_mul_add _ hy, Nat.testBit_two_pow_mul_add _ (Nat.or_lt_two_pow hx hy)]
  split <;> rw [Nat.testBit_or]
theorem add_xor {j u v x y : Nat} (hx : x < 2 ^ j) (hy : y < 2 ^ j) : (2 ^ j * u + x) ^^^ (2 ^ j * v + y) = 2 ^ j * (u ^^^ v) + (x ^^^ y) := by
  refine Nat.eq_of_testBit_eq fun k => ?_
  rw [Nat.testBit_xor, Nat.testBit_two_pow_mul_add _ hx, Nat.testBit_two_pow_mul_add _ hy, Nat.testBit_two_pow_mul_add _ (Nat.xor_lt_two_pow hx hy)]
  split <;> rw [Nat.testBit_xor]
/-- A table, told by an operation on words. -/
structure Tbl (op : Nat → Nat → Nat) (t : Int × Int × Int × Int) : Prop where
  get : ∀ u v : Nat, u < 2 → v < 2 → [t.1, t.2.1, t.2.2.1, t.2.2.2][2 * u + v]? = some ((op u v : Nat) : Int)
  add : ∀ {j u v x y : Nat}, x < 2 ^ j → y < 2 ^ j → op (2 ^ j * u + x) (2 ^ j * v + y) = 2 ^ j * op u v + op x y
  one : ∀ u v : Nat, u < 2 → v < 2 → op u v < 2
  lt : ∀ {j x y : Nat}, x < 2 ^ j → y < 2 ^ j → op x y < 2 ^ j
theorem two_cases {P : Nat → Prop} (h0 : P 0) (h1 : P 1) (u : Nat) (h : u < 2) : P u := by
  rcases Nat.lt_or_ge u 1 with h2 | h2
  · have : u = 0 := by omega
    subst this; exact h0
  · have : u = 1 := by omega
    subst this; exact h1
theorem tblAnd : Tbl (· &&& ·) (0, 0, 0, 1) :=
  ⟨fun u v hu hv => two_cases (P := fun u => [(0 : Int), 0, 0, 1][2 * u + v]? = some ((u &&& v : Nat) : Int)) (two_cases (P := fun v => [(0 : Int), 0, 0, 1][2 * 0 + v]? = some ((0 &&& v : Nat) : Int)) rfl rfl v hv) (two_cases (P := fun v => [(0 : Int), 0, 0, 1][2 * 1 + v]? = some ((1 &&& v : Nat) : Int)) rfl rfl v hv) u hu,
    fun hx hy => add_and hx hy, fun u v hu hv => Nat.lt_of_le_of_lt Nat.and_le_left hu, fun hx hy => Nat.and_lt_two_pow _ hy⟩
theorem tblXor : Tbl (· ^^^ ·) (0, 1, 1, 0) :=
  ⟨fun u v hu hv => two_cases (P := fun u => [(0 : Int), 1, 1, 0][2 * u + v]? = some ((u ^^^ v : Nat) : Int)) (two_cases (P := fun v => [(0 : Int), 1, 1, 0][2 * 0 + v]? = some ((0 ^^^ v : Nat) : Int)) rfl rfl v hv) (two_cases (P := fun v => [(0 : Int), 1, 1, 0][2 * 1 + v]? = some ((1 ^^^ v : Nat) : Int)) rfl rfl v hv) u hu,
    fun hx hy => add_xor hx hy, fun u v hu hv => Nat.xor_lt_two_pow (n := 1) hu hv, fun hx hy => Nat.xor_lt_two_pow hx hy⟩
theorem tblOr : Tbl (· ||| ·) (0, 1, 1, 1) :=
  ⟨fun u v hu hv => two_cases (P := fun u => [(0 : Int), 1, 1, 1][2 * u + v]? = some ((u ||| v : Nat) : Int)) (two_cases (P := fun v => [(0 : Int), 1, 1, 1][2 * 0 + v]? = some ((0 ||| v : Nat) : Int)) rfl rfl v hv) (two_cases (P := fun v => [(0 : Int), 1, 1, 1][2 * 1 + v]? = some ((1 ||| v : Nat) : Int)) rfl rfl v hv) u hu,
    fun hx hy => add_or hx hy, fun u v hu hv => Nat.or_lt_two_pow (n := 1) hu hv, fun hx hy => Nat.or_lt_two_pow hx hy⟩
theorem pow_le32 {j : Nat} (h : j ≤ 32) : 2 ^ j ≤ 4294967296 := by
  have : (2 : Nat) ^ j ≤ 2 ^ 32 := Nat.pow_le_pow_right (by omega) h
  rwa [pow32] at this
theorem bits_loop {op : Nat → Nat → Nat} {t : Int × Int × Int × Int} (ht : Tbl op t) (N : Nat) (hN : 50 ≤ N) (a b : Nat) (ha : a < 4294967296) (hb : b < 4294967296) : ∀ (d f j : Nat), d < f → j + d = 32 →
    typecaseref12_bits_L0 N f (((a : Int), (b : Int), ((op (a % 2 ^ j) (b % 2 ^ j) : Nat) : Int), ((2 ^ j % 4294967296 : Nat) : Int), (j : Int), ()), ((t.1, t.2.1, t.2.2.1, t.2.2.2), ()), ()) = some (.out ((((op a b : Nat) : Int), ()), ()))
  | d, 0, _, h, _ => by omega
  | 0, f + 1, j, _, hj => by
    have : j = 32 := by omega
    subst this
    have h0 : decide (((32 : Nat) : Int) < 32) = false := rfl
    simp only [typecaseref12_bits_L0_succ, typecaseref12_bits_L0s, h0, cond_false, pow32]
    rw [Nat.mod_eq_of_lt ha, Nat.mod_eq_of_lt hb]
  | d + 1, f + 1, j, hd, hj => by
    have h0 : decide ((j : Int) < 32) = true := decide_eq_true (by omega)
    have hu : a / 2 ^ j % 2 < 2 := Nat.mod_lt _ (by omega)
    have hv : b / 2 ^ j % 2 < 2 := Nat.mod_lt _ (by omega)
    have p1 := pow_le32 (j := j) (by omega)
    have pp : 0 < 2 ^ j := Nat.two_pow_pos _
    have hx : a % 2 ^ j < 2 ^ j := Nat.mod_lt _ pp
    have hy : b % 2 ^ j < 2 ^ j := Nat.mod_lt _ pp
    have ea : a % 2 ^ (j + 1) = 2 ^ j * (a / 2 ^ j % 2) + a % 2 ^ j := by rw [Nat.mod_pow_succ, Nat.add_comm]
    have eb : b % 2 ^ (j + 1) = 2 ^ j * (b / 2 ^ j % 2) + b % 2 ^ j := by rw [Nat.mod_pow_succ, Nat.add_comm]
    have es : op (a % 2 ^ (j + 1)) (b % 2 ^ (j + 1)) = 2 ^ j * op (a / 2 ^ j % 2) (b / 2 ^ j % 2) + op (a % 2 ^ j) (b % 2 ^ j) := by rw [ea, eb]; exact ht.add hx hy
    have hlt : op (a % 2 ^ (j + 1)) (b % 2 ^ (j + 1)) < 2 ^ (j + 1) := ht.lt (Nat.mod_lt _ (Nat.two_pow_pos _)) (Nat.mod_lt _ (Nat.two_pow_pos _))
    have p2 := pow_le32 (j := j + 1) (by omega)
    have h1 : IntKind.u32.wrap (IntKind.u32.wrap (2 * ((a / 2 ^ j % 2 : Nat) : Int)) + ((b / 2 ^ j % 2 : Nat) : Int)) = ((2 * (a / 2 ^ j % 2) + b / 2 ^ j % 2 : Nat) : Int) := by
      rw [wu, wu]
      generalize a / 2 ^ j % 2 = u at *
      generalize b / 2 ^ j % 2 = v at *
      omega
    have h2 : inB ((2 * (a / 2 ^ j % 2) + b / 2 ^ j % 2 : Nat) : Int) 4 = true := by rw [inB_nat]; exact decide_eq_true (by omega)
    have h3 : Nat.add 0 (Nat.add 0 (((2 * (a / 2 ^ j % 2) + b / 2 ^ j % 2 : Nat) : Int)).toNat) = 2 * (a / 2 ^ j % 2) + b / 2 ^ j % 2 := by
      rw [Int.toNat_natCast]
      show 0 + (0 + (2 * (a / 2 ^ j % 2) + b / 2 ^ j % 2)) = _
      omega
    have h4 : IntKind.i64.wrap ((j : Int) + 1) = ((j + 1 : Nat) : Int) := by rw [wi64n (by omega) (by omega)]; omega
    have hone := ht.one _ _ hu hv
    have hm : 2 ^ j % 4294967296 = 2 ^ j := Nat.mod_eq_of_lt (by
      have : (2 : Nat) ^ j < 2 ^ 32 := Nat.pow_lt_pow_right (by omega) (by omega)
      rwa [pow32] at this)
    have hle : 2 ^ j * op (a / 2 ^ j % 2) (b / 2 ^ j % 2) ≤ 2 ^ j * 1 := Nat.mul_le_mul_left _ (by omega)
    have h5 : IntKind.u32.wrap (((2 ^ j % 4294967296 : Nat) : Int) * ((op (a / 2 ^ j % 2) (b / 2 ^ j % 2) : Nat) : Int)) = ((2 ^ j * op (a / 2 ^ j % 2) (b / 2 ^ j % 2) : Nat) : Int) := by
      rw [hm, wu, ← Int.natCast_mul]
      have : (2 : Nat) ^ j < 4294967296 := by
        have : (2 : Nat) ^ j < 2 ^ 32 := Nat.pow_lt_pow_right (by omega) (by omega)
        rwa [pow32] at this
      generalize 2 ^ j * op (a / 2 ^ j % 2) (b / 2 ^ j % 2) = q at *
      omega
    have h6 : IntKind.u32.wrap (((op (a % 2 ^ j) (b % 2 ^ j) : Nat) : Int) + ((2 ^ j * op (a / 2 ^ j % 2) (b / 2 ^ j % 2) : Nat) : Int)) = ((op (a % 2 ^ (j + 1)) (b % 2 ^ (j + 1)) : Nat) : Int) := by
      rw [wu, ← Int.natCast_add, Nat.add_comm, ← es]
      omega
    have h7 : IntKind.u32.wrap (2 * ((2 ^ j % 4294967296 : Nat) : Int)) = ((2 ^ (j + 1) % 4294967296 : Nat) : Int) := by
      rw [wu, hm, show (2 : Int) * ((2 ^ j : Nat) : Int) = ((2 ^ (j + 1) : Nat) : Int) by rw [Nat.pow_succ]; omega]
      omega
    simp only [typecaseref12_bits_L0_succ, typecaseref12_bits_L0s, h0, cond_true, bit_ok N hN a j ha (by omega), bit_ok N hN b j hb (by omega), bindI_some, h1, h2, h3, h4, ht.get _ _ hu hv, h5, h6, h7]
    exact bits_loop ht N hN a b ha hb d f (j + 1) (by omega) (by omega)
theorem bits_ok {op : Nat → Nat → Nat} {t : Int × Int × Int × Int} (ht : Tbl op t) (h00 : op 0 0 = 0) (N : Nat) (hN : 50 ≤ N) (a b : Nat) (ha : a < 4294967296) (hb : b < 4294967296) : typecaseref12_bits N (a : Int) (b : Int) t = some (((op a b : Nat) : Int), ()) := by
  have := bits_loop ht N hN a b ha hb 32 N 0 (by omega) (by omega)
  rw [Nat.pow_zero, Nat.mod_one, Nat.mod_one, h00] at this
  have e1 : ((1 % 4294967296 : Nat) : Int) = 1 := rfl
  have e0 : (((0 : Nat) : Int)) = 0 := rfl
  rw [e1, e0] at this
  simp only [typecaseref12_bits, this, bindX_out]
theorem ofInt_nat (m : Nat) : BitVec.ofInt 32 (m : Int) = BitVec.ofNat 32 m := by
  apply BitVec.eq_of_toNat_eq
  rw [BitVec.toNat_ofInt, BitVec.toNat_ofNat, pow32]
  omega
theorem and_prog (a b : Nat) (ha : a < 4294967296) (hb : b < 4294967296) : andI IntKind.u32 (a : Int) (b : Int) = ((a &&& b : Nat) : Int) := by
  have e : andI IntKind.u32 (a : Int) (b : Int) = IntKind.u32.wrap ((BitVec.ofInt 32 (a : Int) &&& BitVec.ofInt 32 (b : Int)).toNat : Nat) := rfl
  have hl : a &&& b < 2 ^ 32 := Nat.and_lt_two_pow _ (by rw [pow32]; exact hb)
  rw [e, ofInt_nat, ofInt_nat, BitVec.toNat_and, BitVec.toNat_ofNat, BitVec.toNat_ofNat, pow32, Nat.mod_eq_of_lt ha, Nat.mod_eq_of_lt hb, wu]
  rw [pow32] at hl
  omega
theorem xor_prog (a b : Nat) (ha : a < 4294967296) (hb : b < 4294967296) : xorI IntKind.u32 (a : Int) (b : Int) = ((a ^^^ b : Nat) : Int) := by
  have e : xorI IntKind.u32 (a : Int) (b : Int) = IntKind.u32.wrap ((BitVec.ofInt 32 (a : Int) ^^^ BitVec.ofInt 32 (b : Int)).toNat : Nat) := rfl
  have hl : a ^^^ b < 2 ^ 32 := Nat.xor_lt_two_pow (by rw [pow32]; exact ha) (by rw [pow32]; exact hb)
  rw [e, ofInt_nat, ofInt_nat, BitVec.toNat_xor, BitVec.toNat_ofNat, BitVec.toNat_ofNat, pow32, Nat.mod_eq_of_lt ha, Nat.mod_eq_of_lt hb, wu]
  rw [pow32] at hl
  omega
theorem or_prog (a b : Nat) (ha : a < 4294967296) (hb : b < 4294967296) : orI IntKind.u32 (a : Int) (b : Int) = ((a ||| b : Nat) : Int) := by
  have e : orI IntKind.u32 (a : Int) (b : Int) = IntKind.u32.wrap ((BitVec.ofInt 32 (a : Int) ||| BitVec.ofInt 32 (b : Int)).toNat : Nat) := rfl
  have hl : a ||| b < 2 ^ 32 := Nat.or_lt_two_pow (by rw [pow32]; exact ha) (by rw [pow32]; exact hb)
  rw [e, ofInt_nat, ofInt_nat, BitVec.toNat_or, BitVec.toNat_ofNat, BitVec.toNat_ofNat, pow32, Nat.mod_eq_of_lt ha, Nat.mod_eq_of_lt hb, wu]
  rw [pow32] at hl
  omega
end Go.Proofs.YtppobdnacmdgbaaDoor
