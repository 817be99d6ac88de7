/- What nodes come to, on plain data: the program's loop. -/
import Derived.Test.YtppobdnacmdgbaaDoorEvalP
set_option linter.unusedVariables false
set_option linter.unusedSimpArgs false
namespace Go.Proofs.YtppobdnacmdgbaaDoor
open Go Go.Up
set_option maxRecDepth 100000

/-- The symbols as the program has them. -/
def symK (s : Sym) : Sym := ⟨s.name, s.value, cl (isP s)⟩
def fs (n : Str) (s : Sym) : Bool := decide (s.name = n)

theorem symbol_loop (N : Nat) (syms : List Sym) (name : Str) (place : Int) (early : Bool) (st : List (Int × Int)) (hl : syms.length ≤ 1000000) : ∀ (f i : Nat), i ≤ syms.length → syms.length < i + f →
    m__eval_reckoner__symbol_L0 N f ((name, syms.map symK, (syms.length : Int), (i : Int), ()), (syms.map symK, place, early, ()), ((0, 0), ()), st, ()) =
      (match (syms.drop i).find? (fs name) with
      | none => some (.out ((), (syms.map symK, place, early, ()), ((0, 0), ()), st, ()))
      | some s => bif early && isP s then some (.ret ((Err.code 7, ()), (syms.map symK, place, early, ()), ((0, 0), ()), st, ())) else some (.ret ((Err.nil, ()), (syms.map symK, place, early, ()), ((s.value, cl (isP s)), ()), st, ())))
  | 0, i, hi, hf => by omega
  | f + 1, i, hi, hf => by
    rw [m__eval_reckoner__symbol_L0_succ]
    simp only [m__eval_reckoner__symbol_L0s]
    by_cases hlt : i < syms.length
    · have e1 : decide ((i : Int) < (syms.length : Int)) = true := decide_eq_true (by omega)
      have g1 : geti (syms.map symK) (i : Int) = some (symK syms[i]) := by
        rw [geti_nat, List.getElem?_map, List.getElem?_eq_getElem hlt]; rfl
      have hw : IntKind.i64.wrap ((i : Int) + 1) = ((i + 1 : Nat) : Int) := by rw [wi64n (by omega) (by omega)]; omega
      have hd : syms.drop i = syms[i] :: syms.drop (i + 1) := List.drop_eq_getElem_cons hlt
      rw [e1, cond_true, g1, hd]
      simp only [bindI_some, lbeq, symK, List.find?_cons, fs]
      by_cases hn : syms[i].name = name
      · have d : decide (syms[i].name = name) = true := decide_eq_true hn
        simp only [d, Bool.not_true, cond_false]
        cases isP syms[i] <;> cases early <;> rfl
      · have d : decide (syms[i].name = name) = false := decide_eq_false hn
        simp only [d, Bool.not_false, cond_true, hw]
        exact symbol_loop N syms name place early st hl f (i + 1) (by omega) (by omega)
    · have e1 : decide ((i : Int) < (syms.length : Int)) = false := decide_eq_false (by omega)
      have hd : syms.drop i = [] := List.drop_of_length_le (by omega)
      rw [e1, cond_false, hd]
      simp only [List.find?_nil]
theorem symbol_ok (N : Nat) (syms : List Sym) (hN : syms.length < N) (hl : syms.length ≤ 1000000) (name : Str) (place : Int) (early : Bool) (st : List (Int × Int)) :
    m__eval_reckoner__symbol N name (syms.map symK, place, early, ()) st =
      (match syms.find? (fs name) with
      | none => some (((0, 0), Err.code 11, ()), (syms.map symK, place, early, ()), st, ())
      | some s => bif early && isP s then some (((0, 0), Err.code 7, ()), (syms.map symK, place, early, ()), st, ()) else some (((s.value, cl (isP s)), Err.nil, ()), (syms.map symK, place, early, ()), st, ())) := by
  have := symbol_loop N syms name place early st hl N 0 (by omega) (by omega)
  have e0 : (((0 : Nat) : Int)) = 0 := rfl
  rw [e0, List.drop_zero] at this
  simp only [m__eval_reckoner__symbol, List.length_map, this]
  cases hq : syms.find? (fs name) with
  | none => simp only [bindX_out]
  | some s => cases hp : isP s <;> cases early <;> simp only [hp, cond_true, cond_false, bindX_ret, Err.el, Bool.and_true, Bool.and_false, Bool.and_self]

/-- All values are words. -/
def VS (st : List (Int × Bool)) : Prop := ∀ p ∈ st, U32 p.1
theorem getD_mem {st : List (Int × Bool)} {i : Nat} (h : i < st.length) : st[i]? = some (st.getD i (0, false)) := by
  rw [List.getD_eq_getElem?_getD, List.getElem?_eq_getElem h]; rfl
theorem parts0 (N : Nat) (k : Int) (h : 1 ≤ k ∧ k ≤ 3) : eval_parts N k = some (0, ()) := by
  have d1 : decide (1 ≤ k) = true := decide_eq_true (by omega)
  have d2 : decide (k ≤ 3) = true := decide_eq_true (by omega)
  simp only [eval_parts, d1, d2, cond_true, bindI_some]
theorem parts1 (N : Nat) (k : Int) (h : 4 ≤ k ∧ k ≤ 8) : eval_parts N k = some (1, ()) := by
  have d1 : decide (1 ≤ k) = true := decide_eq_true (by omega)
  have d2 : decide (k ≤ 3) = false := decide_eq_false (by omega)
  have d3 : decide (4 ≤ k) = true := decide_eq_true (by omega)
  have d4 : decide (k ≤ 8) = true := decide_eq_true (by omega)
  simp only [eval_parts, d1, d2, d3, d4, cond_true, cond_false, bindI_some]
theorem parts2 (N : Nat) (k : Int) (h : 9 ≤ k ∧ k ≤ 17) : eval_parts N k = some (2, ()) := by
  have d1 : decide (1 ≤ k) = true := decide_eq_true (by omega)
  have d2 : decide (k ≤ 3) = false := decide_eq_false (by omega)
  have d3 : decide (4 ≤ k) = true := decide_eq_true (by omega)
  have d4 : decide (k ≤ 8) = false := decide_eq_false (by omega)
  have d5 : decide (9 ≤ k) = true := decide_eq_true (by omega)
  have d6 : decide (k ≤ 17) = true := decide_eq_true (by omega)
  simp only [eval_parts, d1, d2, d3, d4, d5, d6, cond_true, cond_false, bindI_some]
theorem partsN (N : Nat) (k : Int) (h : k < 1 ∨ 17 < k) : eval_parts N k = some (-1, ()) := by
  rcases h with h | h
  · have d1 : decide (1 ≤ k) = false := decide_eq_false (by omega)
    have d3 : decide (4 ≤ k) = false := decide_eq_false (by omega)
    have d5 : decide (9 ≤ k) = false := decide_eq_false (by omega)
    simp only [eval_parts, d1, d3, d5, cond_false, bindI_some]
  · have d1 : decide (1 ≤ k) = true := decide_eq_true (by omega)
    have d2 : decide (k ≤ 3) = false := decide_eq_false (by omega)
    have d3 : decide (4 ≤ k) = true := decide_eq_true (by omega)
    have d4 : decide (k ≤ 8) = false := decide_eq_false (by omega)
    have d5 : decide (9 ≤ k) = true := decide_eq_true (by omega)
    have d6 : decide (k ≤ 17) = false := decide_eq_false (by omega)
    simp only [eval_parts, d1, d2, d3, d4, d5, d6, cond_true, cond_false, bindI_some]

theorem prog_leaf (N : Nat) (syms : List Sym) (hN : syms.length < N) (hl : syms.length ≤ 1000000) (place : Int) (early : Bool) (n : Nod) (hk : 1 ≤ n.kind ∧ n.kind ≤ 3) (st : List (Int × Bool)) (st' : List (Int × Int)) :
    m__eval_reckoner__leaf N n (syms.map symK, place, early, ()) st' = (match stp syms place early n st with
    | .inl c => some (((0, 0), Err.code c, ()), (syms.map symK, place, early, ()), st', ())
    | .inr s => some ((fc (s.getD (s.length - 1) (0, false)), Err.nil, ()), (syms.map symK, place, early, ()), st', ())) ∧ (∀ s, stp syms place early n st = .inr s → ∃ p, s = st ++ [p]) := by
  have last : ∀ p : Int × Bool, (st ++ [p]).getD ((st ++ [p]).length - 1) (0, false) = p := fun p => by
    rw [List.length_append, List.length_singleton, Nat.add_sub_cancel, List.getD_eq_getElem?_getD]
    simp
  have e : n.kind = 1 ∨ n.kind = 2 ∨ n.kind = 3 := by omega
  rcases e with h | h | h
  · simp only [m__eval_reckoner__leaf, stp, h, decide_true, cond_true, if_pos, last]
    exact ⟨by trivial, fun s hs => by cases hs; exact ⟨_, rfl⟩⟩
  · simp only [m__eval_reckoner__leaf, stp, h, Int.reduceEq, decide_true, decide_false, cond_true, cond_false, if_pos, if_neg, not_false_eq_true, symbol_ok N syms hN hl]
    show _ = (match (match syms.find? (fs n.name) with
      | none => Sum.inl 11
      | some s => bif early && isP s then Sum.inl 7 else Sum.inr (st ++ [(s.value, isP s)]) : Sum Int (List (Int × Bool))) with
      | .inl c => _
      | .inr s => _) ∧ (∀ s, (match syms.find? (fs n.name) with
      | none => Sum.inl 11
      | some s => bif early && isP s then Sum.inl 7 else Sum.inr (st ++ [(s.value, isP s)]) : Sum Int (List (Int × Bool))) = .inr s → ∃ p, s = st ++ [p])
    cases hq : syms.find? (fs n.name) with
    | none => exact ⟨by trivial, fun s hs => by cases hs⟩
    | some s =>
      dsimp only
      cases hb : (early && isP s) with
      | true => exact ⟨by trivial, fun s hs => by cases hs⟩
      | false =>
        simp only [cond_false, bindI_some, Err.el, last]
        exact ⟨by trivial, fun s hs => by cases hs; exact ⟨_, rfl⟩⟩
  · cases early
    · simp only [m__eval_reckoner__leaf, stp, h, Int.reduceEq, decide_true, decide_false, cond_true, cond_false, if_pos, if_neg, not_false_eq_true, last]
      exact ⟨by trivial, fun s hs => by cases hs; exact ⟨_, rfl⟩⟩
    · simp only [m__eval_reckoner__leaf, stp, h, Int.reduceEq, decide_true, decide_false, cond_true, cond_false, if_pos, if_neg, not_false_eq_true]
      exact ⟨by trivial, fun s hs => by cases hs⟩

theorem prog_node (N : Nat) (syms : List Sym) (hN : syms.length < N) (hl : syms.length ≤ 1000000) (place : Int) (early : Bool) (n : Nod) (st : List (Int × Bool)) (hs : st.length ≤ 1000000) (hv : VS st) :
    (match stp syms place early n st with
    | .inl c => ∃ p s, m__eval_reckoner__node N n (syms.map symK, place, early, ()) (st.map fc) = some ((p, Err.code c, ()), (syms.map symK, place, early, ()), s, ())
    | .inr s => ∃ m p, s = st.take m ++ [p] ∧ m__eval_reckoner__node N n (syms.map symK, place, early, ()) (st.map fc) = some ((fc p, Err.nil, ()), (syms.map symK, place, early, ()), (st.map fc).take m, ())) := by
  have eta : (Nod.mk n.kind n.line n.col n.num n.name) = n := rfl
  have hlen : (st.map fc).length = st.length := List.length_map _
  by_cases h0 : 1 ≤ n.kind ∧ n.kind ≤ 3
  · have d1 : decide ((0 : Int) < 0) = false := rfl
    have d2 : decide ((st.length : Int) < 0) = false := decide_eq_false (by omega)
    have d3 : decide ((0 : Int) = 0) = true := rfl
    have w : IntKind.i64.wrap ((st.length : Int) - 0) = (st.length : Int) := by rw [wi64n (by omega) (by omega)]; omega
    have c1 : inC (st.length : Int) st.length = true := inC_of (by omega) (by omega)
    have c2 : (st.length : Nat).ble st.length = true := Nat.ble_eq_true_of_le (Nat.le_refl _)
    have t1 : (st.map fc).take st.length = st.map fc := by rw [← hlen]; exact List.take_length
    obtain ⟨q1, q2⟩ := prog_leaf N syms hN hl place early n h0 st (st.map fc)
    simp only [m__eval_reckoner__node, parts0 N n.kind h0, bindI_some, d1, d2, d3, cond_false, cond_true, hlen, w, c1, Int.toNat_natCast, c2, eta, t1, q1]
    cases hq : stp syms place early n st with
    | inl c => exact ⟨_, _, rfl⟩
    | inr s =>
      obtain ⟨p, rfl⟩ := q2 s hq
      refine ⟨st.length, p, by rw [List.take_length], ?_⟩
      rw [t1]
      have last : (st ++ [p]).getD ((st ++ [p]).length - 1) (0, false) = p := by
        rw [List.length_append, List.length_singleton, Nat.add_sub_cancel, List.getD_eq_getElem?_getD]
        simp
      simp only [last, bindI_some, Err.el]
      rfl
  have n1 : ¬ n.kind = 1 := by omega
  have n2 : ¬ n.kind = 2 := by omega
  have n3 : ¬ n.kind = 3 := by omega
  by_cases h1 : 4 ≤ n.kind ∧ n.kind ≤ 8
  · by_cases hp : 1 ≤ st.length
    · have d1 : decide ((1 : Int) < 0) = false := rfl
      have d2 : decide ((st.length : Int) < 1) = false := decide_eq_false (by omega)
      have d3 : decide ((1 : Int) = 0) = false := rfl
      have d4 : decide ((1 : Int) = 1) = true := rfl
      have w : IntKind.i64.wrap ((st.length : Int) - 1) = ((st.length - 1 : Nat) : Int) := by rw [wi64n (by omega) (by omega)]; omega
      have c1 : inC ((st.length - 1 : Nat) : Int) st.length = true := inC_of (by omega) (by omega)
      have c2 : (st.length - 1).ble st.length = true := Nat.ble_eq_true_of_le (by omega)
      have c3 : inB 0 (st.length.sub (st.length - 1)) = true := by
        refine inB_of (by omega) ?_
        show (0 : Int) < ((st.length - (st.length - 1) : Nat) : Int)
        omega
      have g : (st.map fc)[(st.length - 1).add (Int.toNat 0)]? = some (fc (st.getD (st.length - 1) (0, false))) := by
        show (st.map fc)[st.length - 1]? = _
        rw [List.getElem?_map, getD_mem (by omega)]; rfl
      have hu : U32 (st.getD (st.length - 1) (0, false)).1 := hv _ (List.mem_of_getElem? (getD_mem (by omega)))
      have e1 : ∀ q : Int × Int, (q.fst, q.snd) = q := fun _ => rfl
      simp only [m__eval_reckoner__node, parts1 N n.kind h1, bindI_some, d1, d2, d3, d4, cond_false, cond_true, hlen, w, c1, Int.toNat_natCast, c2, c3, g, e1, prog_one N n.kind h1 _ hu, stp, if_neg n1, if_neg n2, if_neg n3, if_pos (show 4 ≤ n.kind ∧ n.kind ≤ 8 ∧ 1 ≤ st.length from ⟨h1.1, h1.2, hp⟩)]
      cases hq : oneP n.kind (st.getD (st.length - 1) (0, false)) place early with
      | inl c => exact ⟨_, _, rfl⟩
      | inr p => exact ⟨_, p, rfl, rfl⟩
    · have d1 : decide ((1 : Int) < 0) = false := rfl
      have d2 : decide ((st.length : Int) < 1) = true := decide_eq_true (by omega)
      simp only [m__eval_reckoner__node, parts1 N n.kind h1, bindI_some, d1, d2, cond_false, cond_true, hlen, stp, if_neg n1, if_neg n2, if_neg n3, if_neg (show ¬ (4 ≤ n.kind ∧ n.kind ≤ 8 ∧ 1 ≤ st.length) from fun h => hp h.2.2), if_neg (show ¬ (9 ≤ n.kind ∧ n.kind ≤ 17 ∧ 2 ≤ st.length) from fun h => by omega)]
      exact ⟨_, _, rfl⟩
  by_cases h2 : 9 ≤ n.kind ∧ n.kind ≤ 17
  · have hno : ¬ (4 ≤ n.kind ∧ n.kind ≤ 8 ∧ 1 ≤ st.length) := fun h => h1 ⟨h.1, h.2.1⟩
    by_cases hp : 2 ≤ st.length
    · have d1 : decide ((2 : Int) < 0) = false := rfl
      have d2 : decide ((st.length : Int) < 2) = false := decide_eq_false (by omega)
      have d3 : decide ((2 : Int) = 0) = false := rfl
      have d4 : decide ((2 : Int) = 1) = false := rfl
      have w : IntKind.i64.wrap ((st.length : Int) - 2) = ((st.length - 2 : Nat) : Int) := by rw [wi64n (by omega) (by omega)]; omega
      have c1 : inC ((st.length - 2 : Nat) : Int) st.length = true := inC_of (by omega) (by omega)
      have c2 : (st.length - 2).ble st.length = true := Nat.ble_eq_true_of_le (by omega)
      have c3 : inB 0 (st.length.sub (st.length - 2)) = true := by
        refine inB_of (by omega) ?_
        show (0 : Int) < ((st.length - (st.length - 2) : Nat) : Int)
        omega
      have c4 : inB 1 (st.length.sub (st.length - 2)) = true := by
        refine inB_of (by omega) ?_
        show (1 : Int) < ((st.length - (st.length - 2) : Nat) : Int)
        omega
      have g : (st.map fc)[(st.length - 2).add (Int.toNat 0)]? = some (fc (st.getD (st.length - 2) (0, false))) := by
        show (st.map fc)[st.length - 2]? = _
        rw [List.getElem?_map, getD_mem (by omega)]; rfl
      have g2 : (st.map fc)[(st.length - 2).add (Int.toNat 1)]? = some (fc (st.getD (st.length - 1) (0, false))) := by
        show (st.map fc)[st.length - 2 + 1]? = _
        rw [show st.length - 2 + 1 = st.length - 1 by omega, List.getElem?_map, getD_mem (by omega)]; rfl
      have hu : U32 (st.getD (st.length - 2) (0, false)).1 := hv _ (List.mem_of_getElem? (getD_mem (by omega)))
      have hu2 : U32 (st.getD (st.length - 1) (0, false)).1 := hv _ (List.mem_of_getElem? (getD_mem (by omega)))
      have e1 : ∀ q : Int × Int, (q.fst, q.snd) = q := fun _ => rfl
      simp only [m__eval_reckoner__node, parts2 N n.kind h2, bindI_some, d1, d2, d3, d4, cond_false, cond_true, hlen, w, c1, Int.toNat_natCast, c2, c3, c4, g, g2, e1, prog_two N n.kind h2 _ _ hu hu2, stp, if_neg n1, if_neg n2, if_neg n3, if_neg hno, if_pos (show 9 ≤ n.kind ∧ n.kind ≤ 17 ∧ 2 ≤ st.length from ⟨h2.1, h2.2, hp⟩)]
      cases hq : twoP n.kind (st.getD (st.length - 2) (0, false)) (st.getD (st.length - 1) (0, false)) with
      | inl c => exact ⟨_, _, rfl⟩
      | inr p => exact ⟨_, p, rfl, rfl⟩
    · have d1 : decide ((2 : Int) < 0) = false := rfl
      have d2 : decide ((st.length : Int) < 2) = true := decide_eq_true (by omega)
      simp only [m__eval_reckoner__node, parts2 N n.kind h2, bindI_some, d1, d2, cond_false, cond_true, hlen, stp, if_neg n1, if_neg n2, if_neg n3, if_neg hno, if_neg (show ¬ (9 ≤ n.kind ∧ n.kind ≤ 17 ∧ 2 ≤ st.length) from fun h => hp h.2.2)]
      exact ⟨_, _, rfl⟩
  · have d1 : decide ((-1 : Int) < 0) = true := rfl
    simp only [m__eval_reckoner__node, partsN N n.kind (by omega), bindI_some, d1, cond_true, stp, if_neg n1, if_neg n2, if_neg n3, if_neg (show ¬ (4 ≤ n.kind ∧ n.kind ≤ 8 ∧ 1 ≤ st.length) from fun h => h1 ⟨h.1, h.2.1⟩), if_neg (show ¬ (9 ≤ n.kind ∧ n.kind ≤ 17 ∧ 2 ≤ st.length) from fun h => h2 ⟨h.1, h.2.1⟩)]
    exact ⟨_, _, rfl⟩

/-! ### Values stay words -/
theorem u32mod (n : Int) : U32 (n % 4294967296) := ⟨by omega, by omega⟩
theorem u32nat {m : Nat} (h : m < 4294967296) : U32 (m : Int) := ⟨by omega, by omega⟩
theorem oneP_u {k : Int} {a p : Int × Bool} {place : Int} {early : Bool} (ha : U32 a.1) (h : oneP k a place early = .inr p) : U32 p.1 := by
  unfold oneP at h
  split at h
  · cases h
    unfold hiW
    exact ⟨by omega, by omega⟩
  split at h
  · cases h; exact u32mod _
  split at h
  · cases early
    · cases h; exact u32mod _
    · cases h
  cases hb : a.2 with
  | true => rw [hb] at h; cases h
  | false =>
    rw [hb, cond_false] at h
    split at h
    · cases h; exact u32mod _
    · cases h
      exact ⟨by have := ha.2; simp only; omega, by have := ha.1; simp only; omega⟩
theorem fixP_u {k a b v : Int} (ha : U32 a) (hb : U32 b) (h : fixP k a b = .inr v) : U32 v := by
  obtain ⟨m, rfl, hm⟩ := natOf ha
  obtain ⟨n, rfl, hn⟩ := natOf hb
  have pm : m < 2 ^ 32 := by rw [pow32]; exact hm
  have pn : n < 2 ^ 32 := by rw [pow32]; exact hn
  unfold fixP at h
  split at h
  · cases h; exact u32mod _
  split at h
  · split at h
    · cases h
    · cases h
      have : ((m : Int) / (n : Int)) = ((m / n : Nat) : Int) := rfl
      rw [this]
      exact u32nat (Nat.lt_of_le_of_lt (Nat.div_le_self _ _) hm)
  split at h
  · cases h
    refine u32nat ?_
    unfold shlW
    split
    · omega
    · exact Nat.mod_lt _ (by omega)
  split at h
  · cases h
    refine u32nat ?_
    unfold shrW
    split
    · omega
    · exact Nat.lt_of_le_of_lt (Nat.div_le_self _ _) hm
  split at h
  · cases h
    have := Nat.and_lt_two_pow m pn
    rw [pow32] at this
    exact u32nat this
  split at h
  · cases h
    have := Nat.xor_lt_two_pow pm pn
    rw [pow32] at this
    exact u32nat this
  · cases h
    have := Nat.or_lt_two_pow pm pn
    rw [pow32] at this
    exact u32nat this
theorem twoP_u {k : Int} {a b p : Int × Bool} (ha : U32 a.1) (hb : U32 b.1) (h : twoP k a b = .inr p) : U32 p.1 := by
  unfold twoP at h
  split at h
  · cases hc : (a.2 && b.2) with
    | true => rw [hc] at h; cases h
    | false => rw [hc] at h; cases h; exact u32mod _
  split at h
  · cases hc : (!a.2 && b.2) with
    | true => rw [hc] at h; cases h
    | false => rw [hc] at h; cases h; exact u32mod _
  cases hc : (a.2 || b.2) with
  | true => rw [hc] at h; cases h
  | false =>
    rw [hc, cond_false] at h
    cases hf : fixP k a.1 b.1 with
    | inl c => rw [hf] at h; cases h
    | inr v => rw [hf] at h; cases h; exact fixP_u ha hb hf
theorem VS_snoc {s : List (Int × Bool)} {p : Int × Bool} (hs : VS s) (hp : U32 p.1) : VS (s ++ [p]) := fun q hq => by
  rcases List.mem_append.1 hq with h | h
  · exact hs q h
  · rw [List.mem_singleton.1 h]; exact hp
theorem VS_take {s : List (Int × Bool)} (hs : VS s) (m : Nat) : VS (s.take m) := fun q hq => hs q (List.mem_of_mem_take hq)
theorem stp_u {syms : List Sym} {place : Int} {early : Bool} {n : Nod} {st s : List (Int × Bool)} (hsy : ∀ x ∈ syms, U32 x.value) (hpl : U32 place) (hn : U32 n.num) (hv : VS st) (h : stp syms place early n st = .inr s) : VS s ∧ s.length ≤ st.length + 1 := by
  have tk : ∀ m (p : Int × Bool), (st.take m ++ [p]).length ≤ st.length + 1 := fun m p => by simp; omega
  unfold stp at h
  split at h
  · cases h; exact ⟨VS_snoc hv hn, by simp⟩
  split at h
  · split at h
    · cases h
    · rename_i x hx
      cases hb : (early && isP x) with
      | true => rw [hb] at h; cases h
      | false =>
        rw [hb] at h; cases h
        exact ⟨VS_snoc hv (hsy x (List.mem_of_find?_eq_some hx)), by simp⟩
  split at h
  · cases early
    · cases h; exact ⟨VS_snoc hv hpl, by simp⟩
    · cases h
  split at h
  · rename_i hc
    split at h
    · cases h
    · rename_i p hp
      cases h
      exact ⟨VS_snoc (VS_take hv _) (oneP_u (hv _ (List.mem_of_getElem? (getD_mem (by omega)))) hp), tk _ _⟩
  split at h
  · rename_i hc
    split at h
    · cases h
    · rename_i p hp
      cases h
      exact ⟨VS_snoc (VS_take hv _) (twoP_u (hv _ (List.mem_of_getElem? (getD_mem (by omega)))) (hv _ (List.mem_of_getElem? (getD_mem (by omega)))) hp), tk _ _⟩
  · cases h

/-! ### All nodes -/
def evL (syms : List Sym) (place : Int) (early : Bool) : List Nod → List (Int × Bool) → Sum (Int × Int × Int) (List (Int × Bool))
  | [], st => .inr st
  | n :: l, st => match stp syms place early n st with
    | .inl c => .inl (n.line, n.col, c)
    | .inr s => evL syms place early l s
def lastOf (x : Nod) : List Nod → Nod
  | [] => x
  | n :: l => lastOf n l
theorem all_loop (N : Nat) (syms : List Sym) (hN : syms.length < N) (hl : syms.length ≤ 1000000) (hsy : ∀ x ∈ syms, U32 x.value) (place : Int) (hpl : U32 place) (early : Bool) (l : List Nod) (hll : l.length ≤ 1000000) (hln : ∀ n ∈ l, U32 n.num) :
    ∀ (f i : Nat) (st : List (Int × Bool)) (last : Nod), i ≤ l.length → l.length < i + f → st.length ≤ i → VS st →
    (match evL syms place early (l.drop i) st with
    | .inl (a, b, c) => ∃ r s, m__eval_reckoner__all_L0 N f ((l, (l.length : Int), (i : Int), ()), (syms.map symK, place, early, ()), ((0, 0), ()), (last, ()), st.map fc, ()) = some (.ret ((Err.fault a b c, ()), r, ((0, 0), ()), s, ()))
    | .inr s => m__eval_reckoner__all_L0 N f ((l, (l.length : Int), (i : Int), ()), (syms.map symK, place, early, ()), ((0, 0), ()), (last, ()), st.map fc, ()) = some (.out ((), (syms.map symK, place, early, ()), ((0, 0), ()), (lastOf last (l.drop i), ()), s.map fc, ())))
  | 0, i, st, last, hi, hf, _, _ => by omega
  | f + 1, i, st, last, hi, hf, hst, hv => by
    rw [m__eval_reckoner__all_L0_succ]
    simp only [m__eval_reckoner__all_L0s]
    by_cases hlt : i < l.length
    · have e1 : decide ((i : Int) < (l.length : Int)) = true := decide_eq_true (by omega)
      have g1 : geti l (i : Int) = some l[i] := by rw [geti_nat]; exact List.getElem?_eq_getElem _
      have hw : IntKind.i64.wrap ((i : Int) + 1) = ((i + 1 : Nat) : Int) := by rw [wi64n (by omega) (by omega)]; omega
      have hd : l.drop i = l[i] :: l.drop (i + 1) := List.drop_eq_getElem_cons hlt
      have eta : ∀ y : Nod, (Nod.mk y.kind y.line y.col y.num y.name) = y := fun _ => rfl
      have hnode := prog_node N syms hN hl place early l[i] st (by omega) hv
      rw [hd]
      simp only [e1, cond_true, g1, bindI_some, eta, evL, lastOf]
      cases hq : stp syms place early l[i] st with
      | inl c =>
        rw [hq] at hnode
        obtain ⟨p, s, hn⟩ := hnode
        simp only [hn, bindI_some, Err.el]
        exact ⟨_, _, rfl⟩
      | inr s =>
        rw [hq] at hnode
        obtain ⟨m, p, rfl, hn⟩ := hnode
        obtain ⟨hv2, hlen⟩ := stp_u hsy hpl (hln _ (List.getElem_mem hlt)) hv hq
        have e2 : ∀ q : Int × Int, (q.fst, q.snd) = q := fun _ => rfl
        have e3 : (st.map fc).take m ++ [fc p] = (st.take m ++ [p]).map fc := by rw [List.map_append, List.map_take]; rfl
        have hb : (List.length ((st.take m ++ [p]).map fc)).ble 4294967296 = true := Nat.ble_eq_true_of_le (by rw [List.length_map]; omega)
        have ih := all_loop N syms hN hl hsy place hpl early l hll hln f (i + 1) (st.take m ++ [p]) l[i] (by omega) (by omega) (by omega) hv2
        simp only [hn, bindI_some, Err.el, e2, e3, hb, cond_true, hw]
        exact ih
    · have e1 : decide ((i : Int) < (l.length : Int)) = false := decide_eq_false (by omega)
      have hd : l.drop i = [] := List.drop_of_length_le (by omega)
      rw [hd]
      simp only [e1, cond_false, evL, lastOf]

/-! ### The program's answer -/
theorem syms_loop (N : Nat) (syms : List Sym) (hl : syms.length ≤ 1000000) : ∀ (f i : Nat), i ≤ syms.length → syms.length < i + f →
    typecaselaw12_Syms_L0 N f ((syms, (i : Int), ()), (syms.take i).map symK, ()) = some (.out ((), syms.map symK, ()))
  | 0, i, hi, hf => by omega
  | f + 1, i, hi, hf => by
    rw [typecaselaw12_Syms_L0_succ]
    simp only [typecaselaw12_Syms_L0s]
    by_cases hlt : i < syms.length
    · have e1 : decide ((i : Int) < (syms.length : Int)) = true := decide_eq_true (by omega)
      have g1 : geti syms (i : Int) = some syms[i] := by rw [geti_nat]; exact List.getElem?_eq_getElem _
      have hw : IntKind.i64.wrap ((i : Int) + 1) = ((i + 1 : Nat) : Int) := by rw [wi64n (by omega) (by omega)]; omega
      have e2 : (syms.take (i + 1)).map symK = (syms.take i).map symK ++ [symK syms[i]] := by rw [List.take_succ_eq_append_getElem hlt, List.map_append]; rfl
      have hb : ((syms.take i).map symK ++ [symK syms[i]]).length.ble 4294967296 = true := Nat.ble_eq_true_of_le (by simp; omega)
      have ih := syms_loop N syms hl f (i + 1) (by omega) (by omega)
      rw [e2] at ih
      simp only [e1, cond_true, g1, bindI_some, hw]
      cases hc : isP syms[i] with
      | true =>
        have d : decide (syms[i].cls = 0) = false := by simpa [isP] using hc
        have e3 : (⟨syms[i].name, syms[i].value, 1⟩ : Sym) = symK syms[i] := by unfold symK; rw [hc]; rfl
        simp only [d, Bool.not_false, cond_true, e3, hb]
        exact ih
      | false =>
        have d : decide (syms[i].cls = 0) = true := by simpa [isP] using hc
        have e3 : (⟨syms[i].name, syms[i].value, 0⟩ : Sym) = symK syms[i] := by unfold symK; rw [hc]; rfl
        simp only [d, Bool.not_true, cond_false, e3, hb, cond_true]
        exact ih
    · have e1 : decide ((i : Int) < (syms.length : Int)) = false := decide_eq_false (by omega)
      have : syms.take i = syms := List.take_of_length_le (by omega)
      simp only [e1, cond_false, this]
theorem syms_ok (N : Nat) (syms : List Sym) (hl : syms.length ≤ 1000000) (hN : syms.length < N) : typecaselaw12_Syms N syms = some (syms.map symK, ()) := by
  have := syms_loop N syms hl N 0 (by omega) (by omega)
  have e0 : (((0 : Nat) : Int)) = 0 := rfl
  rw [e0, List.take_zero, List.map_nil] at this
  simp only [typecaselaw12_Syms, this, bindX_out]
theorem known_loop (N : Nat) (k : List Sym) (hk : ∀ s ∈ k, s.cls = 0 ∨ s.cls = 1) (hl : k.length ≤ 1000000) (z : Sym) : ∀ (f i : Nat), i ≤ k.length → k.length < i + f →
    eval_known_L0 N f ((k, (k.length : Int), (i : Int), ()), k.take i ++ List.replicate (k.length - i) z, ()) = some (.out ((), k, ()))
  | 0, i, hi, hf => by omega
  | f + 1, i, hi, hf => by
    rw [eval_known_L0_succ]
    simp only [eval_known_L0s]
    by_cases hlt : i < k.length
    · have e1 : decide ((i : Int) < (k.length : Int)) = true := decide_eq_true (by omega)
      have g1 : geti k (i : Int) = some k[i] := by rw [geti_nat]; exact List.getElem?_eq_getElem _
      have hw : IntKind.i64.wrap ((i : Int) + 1) = ((i + 1 : Nat) : Int) := by rw [wi64n (by omega) (by omega)]; omega
      have hlen : (k.take i ++ List.replicate (k.length - i) z).length = k.length := by simp; omega
      have hb : inB (i : Int) (k.take i ++ List.replicate (k.length - i) z).length = true := by rw [hlen]; exact inB_of (by omega) (by omega)
      have g2 : (k.take i ++ List.replicate (k.length - i) z)[Int.toNat (i : Int)]? = some ((k.take i ++ List.replicate (k.length - i) z)[i]'(by omega)) := by rw [Int.toNat_natCast]; exact List.getElem?_eq_getElem _
      have hset : (k.take i ++ List.replicate (k.length - i) z).set (Int.toNat (i : Int)) k[i] = k.take (i + 1) ++ List.replicate (k.length - (i + 1)) z := by
        rw [Int.toNat_natCast, List.set_append_right _ _ (by simp; omega), List.take_succ_eq_append_getElem hlt]
        have e : k.length - i = (k.length - (i + 1)) + 1 := by omega
        have e2 : i - (k.take i).length = 0 := by simp; omega
        rw [e2, e, List.replicate_succ, List.set_cons_zero, List.append_assoc]
        rfl
      have ih := known_loop N k hk hl z f (i + 1) (by omega) (by omega)
      simp only [e1, cond_true, g1, bindI_some, hw, hb, g2]
      rcases hk k[i] (List.getElem_mem hlt) with hc | hc
      · have e3 : (⟨k[i].name, k[i].value, k[i].cls⟩ : Sym) = k[i] := rfl
        have d : decide (k[i].cls = 0) = true := decide_eq_true hc
        simp only [d, Bool.not_true, cond_false, e3, hset]
        exact ih
      · have e3 : (⟨k[i].name, k[i].value, 1⟩ : Sym) = k[i] := by rw [← hc]
        have d : decide (k[i].cls = 0) = false := decide_eq_false (by omega)
        simp only [d, Bool.not_false, cond_true, e3, hset]
        exact ih
    · have e1 : decide ((i : Int) < (k.length : Int)) = false := decide_eq_false (by omega)
      have hi2 : i = k.length := by omega
      subst hi2
      simp only [e1, cond_false, Nat.sub_self, List.replicate_zero, List.append_nil, List.take_length]
theorem known_ok (N : Nat) (syms : List Sym) (hl : syms.length ≤ 1000000) (hN : syms.length < N) : eval_known N (syms.map symK) = some (syms.map symK, ()) := by
  have hk : ∀ s ∈ syms.map symK, s.cls = 0 ∨ s.cls = 1 := fun s hs => by
    obtain ⟨x, _, rfl⟩ := List.mem_map.1 hs
    show cl (isP x) = 0 ∨ cl (isP x) = 1
    cases isP x
    · exact .inl rfl
    · exact .inr rfl
  have := known_loop N (syms.map symK) hk (by rw [List.length_map]; exact hl) ⟨[], 0, 0⟩ N 0 (by omega) (by rw [List.length_map]; omega)
  have e0 : (((0 : Nat) : Int)) = 0 := rfl
  rw [e0, List.take_zero, List.nil_append, Nat.sub_zero] at this
  have c : inC ((syms.map symK).length : Int) 16777216 = true := inC_of (by omega) (by rw [List.length_map]; omega)
  have c2 : (((syms.map symK).length : Int)).toNat = (syms.map symK).length := Int.toNat_natCast _
  simp only [eval_known, c, decide_true, Bool.and_self, cond_true, c2, this, bindX_out]

/-- What nodes come to: a value, whether it is a place, or a fault. -/
def valP (syms : List Sym) (place : Int) (early : Bool) (l : List Nod) : Sum (Int × Int × Int) (Int × Bool) :=
  match evL syms place early l [] with
  | .inl f => .inl f
  | .inr [p] => .inr p
  | .inr _ => .inl ((lastOf ⟨0, 0, 0, 0, []⟩ l).line, (lastOf ⟨0, 0, 0, 0, []⟩ l).col, 6)
theorem prog_value (N : Nat) (syms : List Sym) (hN : syms.length < N) (hl : syms.length ≤ 1000000) (hsy : ∀ x ∈ syms, U32 x.value) (place : Int) (hpl : U32 place) (early : Bool) (l : List Nod) (hll : l.length ≤ 1000000) (hlN : l.length < N) (hln : ∀ n ∈ l, U32 n.num) :
    eval_Value N l (syms.map symK) place early = (match valP syms place early l with
    | .inl (a, b, c) => some (0, 0, Err.fault a b c, ())
    | .inr p => some (p.1, cl p.2, Err.nil, ())) := by
  have h := all_loop N syms hN hl hsy place hpl early l hll hln N 0 [] ⟨0, 0, 0, 0, []⟩ (by omega) (by omega) (by simp) (fun p hp => by cases hp)
  have e0 : (((0 : Nat) : Int)) = 0 := rfl
  rw [e0, List.drop_zero, List.map_nil] at h
  simp only [eval_Value, known_ok N syms hl hN, bindI_some, m__eval_reckoner__all]
  unfold valP
  cases hq : evL syms place early l [] with
  | inl q =>
    obtain ⟨a, b, c⟩ := q
    rw [hq] at h
    obtain ⟨r, s, h⟩ := h
    simp only [h, bindX_ret, Err.el, bindI_some]
  | inr s =>
    rw [hq] at h
    simp only [h, bindX_out]
    match s with
    | [p] =>
      have d : decide (((([p] : List (Int × Bool)).map fc).length : Int) = 1) = true := rfl
      have d2 : inB 0 (([p] : List (Int × Bool)).map fc).length = true := rfl
      have d3 : (([p] : List (Int × Bool)).map fc)[Int.toNat 0]? = some (fc p) := rfl
      simp only [d, d2, d3, Bool.not_true, cond_false, cond_true, bindI_some, Err.el]
      rfl
    | [] =>
      have d : decide (((([] : List (Int × Bool)).map fc).length : Int) = 1) = false := rfl
      simp only [d, Bool.not_false, cond_true, bindI_some, Err.el]
    | p :: q :: s =>
      have d : decide ((((p :: q :: s : List (Int × Bool)).map fc).length : Int) = 1) = false := decide_eq_false (by simp; omega)
      simp only [d, Bool.not_false, cond_true, bindI_some, Err.el]
end Go.Proofs.YtppobdnacmdgbaaDoor
