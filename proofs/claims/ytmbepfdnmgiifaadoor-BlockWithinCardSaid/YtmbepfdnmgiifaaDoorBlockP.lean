/- Blocks, on plain data: what the model of block.End comes to. -/
import Derived.Test.YtmbepfdnmgiifaaDoorModBlock
import Derived.Test.YtmbepfdnmgiifaaDoorLb
import Derived.KernelRfl
set_option linter.unusedVariables false
set_option linter.unusedSimpArgs false
namespace Go.Proofs.YtmbepfdnmgiifaaDoor
open Go Go.Up
set_option maxRecDepth 100000

theorem awake13b : typecaselaw13_awake 2000 = some (true, ()) := by kernel_rfl
theorem kindOf_some (N : Nat) (l : List Tok) : ∃ k, block_KindOf N l = some (k, ()) := by
  cases l with
  | nil => exact ⟨0, by kernel_rfl⟩
  | cons t l =>
    have g : geti (t :: l) 0 = some t := rfl
    have hn : decide (((List.length (t :: l)) : Int) = 0) = false := by simp; omega
    simp only [block_KindOf, hn, g, bindI_some, cond_false, lbeq, Bool.cond_decide]
    by_cases hk : t.kind = 1
    · simp only [hk, decide_true, Bool.not_true, cond_false]
      split
      · exact ⟨_, rfl⟩
      split
      · exact ⟨_, rfl⟩
      split
      · exact ⟨_, rfl⟩
      split
      · exact ⟨_, rfl⟩
      split
      · exact ⟨_, rfl⟩
      split
      · exact ⟨_, rfl⟩
      split
      · exact ⟨_, rfl⟩
      · exact ⟨_, rfl⟩
    · simp only [hk, decide_false, Bool.not_false, cond_true]
      exact ⟨_, rfl⟩
/-- A line's kind. -/
def kindP (l : List Tok) : Int := match block_KindOf 0 l with
  | some (k, _) => k
  | none => 0
theorem kindOf (N : Nat) (l : List Tok) : block_KindOf N l = some (kindP l, ()) := by
  have e : block_KindOf N l = block_KindOf 0 l := rfl
  obtain ⟨k, hk⟩ := kindOf_some 0 l
  rw [e]
  unfold kindP
  rw [hk]
theorem fault_some (N : Nat) (l : List Tok) : ∃ a b, block_fault N l = some (Err.fault a b 15, ()) := by
  cases l with
  | nil => exact ⟨0, 0, by kernel_rfl⟩
  | cons t l =>
    have g : geti (t :: l) 0 = some t := rfl
    have hn : decide (((List.length (t :: l)) : Int) = 0) = false := by simp; omega
    simp only [block_fault, hn, g, bindI_some, cond_false]
    exact ⟨_, _, rfl⟩

/-- How a block ends. -/
inductive Res where
  | fin (i : Int) (t : Int × Int)
  | bad (l : List Tok)
  | eof
def popR (g : Int × Int → List (Int × Int) → Res) (i : Int) (t : Int × Int) : List (Int × Int) → Res
  | [] => .fin i t
  | t' :: s' => g t' s'
def blk : List (List Tok) → Int → (Int × Int) → List (Int × Int) → Res
  | [], _, _, _ => .eof
  | l :: ls, i, t, s =>
    if kindP l = 1 ∨ kindP l = 3 ∨ kindP l = 5 then blk ls (i + 1) (kindP l, -1) (t :: s)
    else if kindP l = 6 then (if t.1 ≠ 5 ∨ 0 ≤ t.2 then .bad l else blk ls (i + 1) (t.1, i) s)
    else if kindP l = 0 then blk ls (i + 1) t s
    else if ((kindP l = 2 ∨ kindP l = 4) ∧ t.1 ≠ kindP l - 1) ∨ (¬(kindP l = 2 ∨ kindP l = 4) ∧ t.1 ≠ 5) then .bad l
    else popR (fun t' s' => blk ls (i + 1) t' s') i t s
/-- What the loop comes to. -/
def ResR (r : Res) (lines : List (List Tok)) (at1 : Int) (x4 : Int × Int) (o : Option (Ex block_find_L0o.D block_find_R.D)) : Prop :=
  match r with
  | .fin e t => o = some (.ret ((e, Err.nil, ()), ((t.1, t.2), ()), ()))
  | .bad _ => ∃ a b, o = some (.ret ((0, Err.fault a b 15, ()), ((0, 0), ()), ()))
  | .eof => o = some (.out ((lines, at1, ()), ((x4.1, x4.2), ()), ()))
theorem last_get (t : Int × Int) (s : List (Int × Int)) : (s.reverse ++ [t])[s.length]? = some t := by simp
theorem find_loop (N : Nat) (lines : List (List Tok)) (at1 : Int) (x4 : Int × Int) (hl : lines.length ≤ 100000) : ∀ (f i : Nat) (t : Int × Int) (s : List (Int × Int)), s.length ≤ i → i ≤ lines.length → lines.length < i + f →
    ResR (blk (lines.drop i) i t s) lines at1 x4 (block_find_L0 N f ((lines, at1, (i : Int), ()), ((x4.1, x4.2), ()), s.reverse ++ [t], ()))
  | 0, i, t, s, hs, hi, hf => by omega
  | f + 1, i, t, s, hs, hi, hf => by
    rw [block_find_L0_succ]
    simp only [block_find_L0s]
    by_cases hlt : i < lines.length
    · have e1 : decide ((i : Int) < (lines.length : Int)) = true := by simp; omega
      have g1 : geti lines (i : Int) = some lines[i] := by rw [geti_nat]; exact List.getElem?_eq_getElem _
      have hd : lines.drop i = lines[i] :: lines.drop (i + 1) := List.drop_eq_getElem_cons hlt
      have hlen : (s.reverse ++ [t]).length = s.length + 1 := by simp
      have hw : IntKind.i64.wrap (((s.length + 1 : Nat) : Int) - 1) = (s.length : Int) := by rw [w64 ⟨by omega, by omega⟩]; omega
      have hwi : IntKind.i64.wrap ((i : Int) + 1) = ((i + 1 : Nat) : Int) := by rw [w64 ⟨by omega, by omega⟩]; omega
      have hb : inB (s.length : Int) (s.length + 1) = true := by rw [inB_nat]; simp
      have ht : (s.reverse ++ [t])[((s.length : Int)).toNat]? = some t := by rw [Int.toNat_natCast]; exact last_get t s
      have hble : ∀ x, ((s.reverse ++ [t]) ++ [x] : List (Int × Int)).length.ble 4294967296 = true := fun x => by simp; omega
      have hne : ∀ x, decide ((((s.reverse ++ [t]) ++ [x] : List (Int × Int)).length : Int) = 0) = false := fun x => by simp; omega
      have hne0 : decide (((s.reverse ++ [t]).length : Int) = 0) = false := by simp; omega
      have hset : ∀ y : Int × Int, (s.reverse ++ [t]).set ((s.length : Int)).toNat y = s.reverse ++ [y] := fun y => by rw [Int.toNat_natCast, List.set_append_right _ _ (by simp)]; simp
      have htake : (s.reverse ++ [t]).take ((s.length : Int)).toNat = s.reverse := by rw [Int.toNat_natCast]; simp
      have ih := fun t' s' hs' => find_loop N lines at1 x4 hl f (i + 1) t' s' hs' (by omega) (by omega)
      simp only [e1, g1, kindOf, bindI_some, cond_true, hlen, hw, hb, ht, hwi]
      rw [hd]
      generalize hk : kindP lines[i] = k
      have push : kindP lines[i] = 1 ∨ kindP lines[i] = 3 ∨ kindP lines[i] = 5 → ResR (blk (lines[i] :: lines.drop (i + 1)) i t s) lines at1 x4
          (block_find_L0 N f ((lines, at1, ((i + 1 : Nat) : Int), ()), ((x4.1, x4.2), ()), (s.reverse ++ [t]) ++ [(k, -1)], ())) := fun h => by
        unfold blk
        rw [if_pos h]
        have := ih (k, -1) (t :: s) (by simp; omega)
        rw [List.reverse_cons] at this
        rw [hk]
        exact this
      by_cases h1 : k = 1
      · simp only [h1, decide_true, cond_true]
        have h := push (.inl (hk.trans h1))
        rw [h1] at h
        simp only [hble, hne, cond_true, cond_false]
        exact h
      by_cases h3 : k = 3
      · simp only [h1, h3, Int.reduceEq, decide_true, decide_false, cond_true, cond_false]
        have h := push (.inr (.inl (hk.trans h3)))
        rw [h3] at h
        simp only [hble, hne, cond_true, cond_false]
        exact h
      by_cases h5 : k = 5
      · simp only [h1, h3, h5, Int.reduceEq, decide_true, decide_false, cond_true, cond_false]
        have h := push (.inr (.inr (hk.trans h5)))
        rw [h5] at h
        simp only [hble, hne, cond_true, cond_false]
        exact h
      have hno : ¬(kindP lines[i] = 1 ∨ kindP lines[i] = 3 ∨ kindP lines[i] = 5) := by rw [hk]; omega
      obtain ⟨fa, fb, hfault⟩ := fault_some N lines[i]
      have hbad : ResR (.bad lines[i]) lines at1 x4 (some (Ex.ret ((0, Err.fault fa fb 15, ()), ((0, 0), ()), ()))) := ⟨fa, fb, rfl⟩
      unfold blk
      rw [if_neg hno]
      by_cases h6 : k = 6
      · simp only [h6, Int.reduceEq, decide_true, decide_false, cond_true, cond_false, hk, if_true]
        by_cases ht5 : t.1 = 5
        · by_cases ht0 : 0 ≤ t.2
          · simp only [ht5, ht0, decide_true, Bool.not_true, cond_true, cond_false, bindI_some, hfault, Err.el, ne_eq, not_true_eq_false, or_true, if_true]
            exact hbad
          · simp only [ht5, ht0, decide_true, decide_false, Bool.not_true, cond_true, cond_false, bindI_some, ne_eq, not_true_eq_false, or_false, if_false, hset, List.length_set, hlen]
            have e5 : decide (((s.reverse ++ [((5 : Int), (i : Int))]).length : Int) = 0) = false := by simp; omega
            rw [e5, cond_false]
            exact ih (5, i) s (by omega)
        · simp only [ht5, decide_false, Bool.not_false, cond_true, bindI_some, hfault, Err.el, ne_eq, not_false_eq_true, true_or, if_true]
          exact hbad
      have hn6 : ¬kindP lines[i] = 6 := by rw [hk]; exact h6
      rw [if_neg hn6]
      by_cases h0 : k = 0
      · simp only [h0, Int.reduceEq, decide_true, decide_false, cond_true, cond_false, hk, if_true]
        have e5 : decide (((s.length + 1 : Nat) : Int) = 0) = false := by simp; omega
        rw [e5, cond_false]
        exact ih t s (by omega)
      have hn0 : ¬kindP lines[i] = 0 := by rw [hk]; exact h0
      rw [if_neg hn0]
      -- a block ends
      have pop : ∀ o : Option (Ex block_find_L0o.D block_find_R.D), o = (bif decide (((s.length : Int).toNat : Int) = 0) then some (Ex.ret (((i : Int), Err.nil, ()), ((t.1, t.2), ()), ()))
          else block_find_L0 N f ((lines, at1, ((i + 1 : Nat) : Int), ()), ((x4.1, x4.2), ()), s.reverse, ())) →
          ResR (popR (fun t' s' => blk (lines.drop (i + 1)) (i + 1) t' s') i t s) lines at1 x4 o := fun o ho => by
        subst ho
        cases s with
        | nil => rfl
        | cons t' s' =>
          have e5 : decide ((((t' :: s').length : Int).toNat : Int) = 0) = false := by simp; omega
          simp only [e5, cond_false, List.reverse_cons, popR]
          exact ih t' s' (by simp at hs; omega)
      have hc1 : inC (s.length : Int) (s.length + 1) = true := inC_of (by omega) (by omega)
      have hc2 : decide ((((s.length : Int).toNat : Nat) : Int) ≤ (s.length : Int)) = true := by simp
      have hc3 : decide ((s.length : Int) ≤ ((s.length + 1 : Nat) : Int)) = true := by simp; omega
      have hc4 : ((s.length : Int).toNat).ble (s.length + 1) = true := by simp
      by_cases h2 : k = 2
      · have e2 : IntKind.i64.wrap 1 = 1 := by kernel_rfl
        simp only [h2, Int.reduceEq, decide_true, decide_false, cond_true, cond_false, hk, e2, true_or, true_and, not_true_eq_false, false_and, or_false, Int.reduceSub]
        by_cases ht1 : t.1 = 1
        · simp only [ht1, decide_true, Bool.not_true, cond_false, cond_true, bindI_some, hc1, hc2, hc3, hc4, Bool.and_true, htake, ne_eq, not_true_eq_false, if_false]
          have h := pop _ rfl
          rw [ht1] at h
          exact h
        · simp only [ht1, decide_false, Bool.not_false, cond_true, bindI_some, hfault, Err.el, ne_eq, not_false_eq_true, if_true]
          exact hbad
      by_cases h4 : k = 4
      · have e2 : IntKind.i64.wrap 3 = 3 := by kernel_rfl
        simp only [h4, Int.reduceEq, decide_true, decide_false, cond_true, cond_false, hk, e2, or_true, true_and, not_true_eq_false, false_and, or_false, Int.reduceSub]
        by_cases ht1 : t.1 = 3
        · simp only [ht1, decide_true, Bool.not_true, cond_false, cond_true, bindI_some, hc1, hc2, hc3, hc4, Bool.and_true, htake, ne_eq, not_true_eq_false, if_false]
          have h := pop _ rfl
          rw [ht1] at h
          exact h
        · simp only [ht1, decide_false, Bool.not_false, cond_true, bindI_some, hfault, Err.el, ne_eq, not_false_eq_true, if_true]
          exact hbad
      · have hcond : (((kindP lines[i] = 2 ∨ kindP lines[i] = 4) ∧ t.1 ≠ kindP lines[i] - 1) ∨ (¬(kindP lines[i] = 2 ∨ kindP lines[i] = 4) ∧ t.1 ≠ 5)) ↔ t.1 ≠ 5 := by rw [hk]; simp [h2, h4]
        simp only [h1, h3, h5, h6, h0, h2, h4, decide_false, cond_false]
        by_cases ht1 : t.1 = 5
        · rw [if_neg (by rw [hcond]; simp [ht1])]
          simp only [ht1, decide_true, Bool.not_true, cond_false, cond_true, bindI_some, hc1, hc2, hc3, hc4, Bool.and_true, htake]
          have h := pop _ rfl
          rw [ht1] at h
          exact h
        · rw [if_pos (hcond.2 ht1)]
          simp only [ht1, decide_false, Bool.not_false, cond_true, bindI_some, hfault, Err.el]
          exact hbad
    · have : i = lines.length := by omega
      subst this
      have e1 : decide ((lines.length : Int) < (lines.length : Int)) = false := by simp
      simp only [e1, cond_false, List.drop_length, blk, ResR]

/-! ### One line more -/
inductive Stp where
  | bad
  | fin
  | go (t : Int × Int) (s : List (Int × Int))
def stepB (l : List Tok) (i : Int) (t : Int × Int) (s : List (Int × Int)) : Stp :=
  if kindP l = 1 ∨ kindP l = 3 ∨ kindP l = 5 then .go (kindP l, -1) (t :: s)
  else if kindP l = 6 then (if t.1 ≠ 5 ∨ 0 ≤ t.2 then .bad else .go (t.1, i) s)
  else if kindP l = 0 then .go t s
  else if ((kindP l = 2 ∨ kindP l = 4) ∧ t.1 ≠ kindP l - 1) ∨ (¬(kindP l = 2 ∨ kindP l = 4) ∧ t.1 ≠ 5) then .bad
  else match s with
    | [] => .fin
    | t' :: s' => .go t' s'
def Stp.res (l : List Tok) (ls : List (List Tok)) (i : Int) (t : Int × Int) : Stp → Res
  | .bad => .bad l
  | .fin => .fin i t
  | .go t1 s1 => blk ls (i + 1) t1 s1
theorem blk_cons (l : List Tok) (ls : List (List Tok)) (i : Int) (t : Int × Int) (s : List (Int × Int)) : blk (l :: ls) i t s = (stepB l i t s).res l ls i t := by
  rw [blk]
  unfold stepB
  split
  · rfl
  split
  · split <;> rfl
  split
  · rfl
  split
  · rfl
  cases s <;> rfl
theorem step_base (l : List Tok) (i : Int) (t : Int × Int) (s : List (Int × Int)) (b : Int × Int) (bs : List (Int × Int)) : stepB l i t (s ++ b :: bs) = match stepB l i t s with
    | .bad => .bad
    | .fin => .go b bs
    | .go t1 s1 => .go t1 (s1 ++ b :: bs) := by
  unfold stepB
  split
  · rfl
  split
  · split <;> rfl
  split
  · rfl
  split
  · rfl
  cases s <;> rfl
theorem step_mem {l : List Tok} {i : Int} {t : Int × Int} {s : List (Int × Int)} {t1 : Int × Int} {s1 : List (Int × Int)} (h : stepB l i t s = .go t1 s1) : ∀ x ∈ t1 :: s1, x ∈ t :: s ∨ x.2 = -1 ∨ x.2 = i := by
  unfold stepB at h
  split at h
  · cases h
    intro x hx
    rcases List.mem_cons.1 hx with rfl | hx
    · exact .inr (.inl rfl)
    · exact .inl hx
  split at h
  · split at h
    · cases h
    · cases h
      intro x hx
      rcases List.mem_cons.1 hx with rfl | hx
      · exact .inr (.inr rfl)
      · exact .inl (List.mem_cons_of_mem _ hx)
  split at h
  · cases h
    exact fun x hx => .inl hx
  split at h
  · cases h
  cases s with
  | nil => cases h
  | cons t' s' =>
    cases h
    exact fun x hx => .inl (List.mem_cons_of_mem _ hx)
theorem step_push {l : List Tok} {i : Int} {t : Int × Int} {s : List (Int × Int)} (h : kindP l = 1 ∨ kindP l = 3 ∨ kindP l = 5) : stepB l i t s = .go (kindP l, -1) (t :: s) := by
  unfold stepB
  rw [if_pos h]
theorem blk_bounds : ∀ (ls : List (List Tok)) (i : Int) (t : Int × Int) (s : List (Int × Int)) (e : Int) (t' : Int × Int), blk ls i t s = .fin e t' → i ≤ e ∧ e < i + ls.length
  | [], i, t, s, e, t', h => by cases h
  | l :: ls, i, t, s, e, t', h => by
    rw [blk_cons] at h
    cases hs : stepB l i t s with
    | bad => rw [hs] at h; cases h
    | fin => rw [hs] at h; cases h; simp; omega
    | go t1 s1 =>
      rw [hs] at h
      have := blk_bounds ls (i + 1) t1 s1 e t' h
      simp
      omega
theorem blk_prefix : ∀ (ls : List (List Tok)) (i : Int) (t : Int × Int) (s : List (Int × Int)) (e : Int) (t' : Int × Int) (more : List (List Tok)), blk ls i t s = .fin e t' → blk (ls.take (e + 1 - i).toNat ++ more) i t s = .fin e t'
  | [], i, t, s, e, t', _, h => by cases h
  | l :: ls, i, t, s, e, t', more, h => by
    have hb := blk_bounds _ _ _ _ _ _ h
    have e1 : (e + 1 - i).toNat = (e + 1 - (i + 1)).toNat + 1 := by omega
    rw [e1, List.take_succ_cons, List.cons_append, blk_cons]
    rw [blk_cons] at h
    cases hs : stepB l i t s with
    | bad => rw [hs] at h; cases h
    | fin => rw [hs] at h; cases h; rfl
    | go t1 s1 =>
      rw [hs] at h
      exact blk_prefix ls (i + 1) t1 s1 e t' more h
theorem blk_other (lo : Int) : ∀ (ls : List (List Tok)) (i : Int) (t : Int × Int) (s : List (Int × Int)) (e : Int) (t' : Int × Int), lo < i → (∀ x ∈ t :: s, x.2 = -1 ∨ (lo < x.2 ∧ x.2 < i)) → blk ls i t s = .fin e t' → t'.2 = -1 ∨ (lo < t'.2 ∧ t'.2 < e)
  | [], i, t, s, e, t', _, _, h => by cases h
  | l :: ls, i, t, s, e, t', hlo, hall, h => by
    rw [blk_cons] at h
    cases hs : stepB l i t s with
    | bad => rw [hs] at h; cases h
    | fin => rw [hs] at h; cases h; exact hall _ List.mem_cons_self
    | go t1 s1 =>
      rw [hs] at h
      refine blk_other lo ls (i + 1) t1 s1 e t' (by omega) (fun x hx => ?_) h
      rcases step_mem hs x hx with h1 | h1 | h1
      · rcases hall x h1 with h2 | h2
        · exact .inl h2
        · exact .inr ⟨h2.1, by omega⟩
      · exact .inl h1
      · exact .inr ⟨by omega, by omega⟩
/-- A block within another. -/
theorem blk_base : ∀ (ls : List (List Tok)) (i : Int) (t : Int × Int) (s : List (Int × Int)) (k : Int) (t' b : Int × Int) (bs : List (Int × Int)), blk ls i t s = .fin k t' → blk ls i t (s ++ b :: bs) = blk (ls.drop (k + 1 - i).toNat) (k + 1) b bs
  | [], i, t, s, k, t', b, bs, h => by cases h
  | l :: ls, i, t, s, k, t', b, bs, h => by
    have hb := blk_bounds _ _ _ _ _ _ h
    have e1 : (k + 1 - i).toNat = (k + 1 - (i + 1)).toNat + 1 := by omega
    rw [blk_cons, step_base, e1, List.drop_succ_cons]
    rw [blk_cons] at h
    cases hs : stepB l i t s with
    | bad => rw [hs] at h; cases h
    | fin =>
      rw [hs] at h
      cases h
      have : (i + 1 - (i + 1)).toNat = 0 := by omega
      rw [this]
      rfl
    | go t1 s1 =>
      rw [hs] at h
      exact blk_base ls (i + 1) t1 s1 k t' b bs h
/-- On its way a block comes by each line. -/
theorem blk_way : ∀ (n : Nat) (ls : List (List Tok)) (i : Int) (t : Int × Int) (s : List (Int × Int)) (e : Int) (t' : Int × Int), blk ls i t s = .fin e t' → i + n ≤ e → ∃ t1 s1, blk (ls.drop n) (i + n) t1 s1 = .fin e t'
  | 0, ls, i, t, s, e, t', h, hn => ⟨t, s, by simpa using h⟩
  | n + 1, [], i, t, s, e, t', h, hn => by cases h
  | n + 1, l :: ls, i, t, s, e, t', h, hn => by
    rw [blk_cons] at h
    cases hs : stepB l i t s with
    | bad => rw [hs] at h; cases h
    | fin => rw [hs] at h; cases h; omega
    | go t1 s1 =>
      rw [hs] at h
      obtain ⟨t2, s2, h2⟩ := blk_way n ls (i + 1) t1 s1 e t' h (by omega)
      refine ⟨t2, s2, ?_⟩
      have e1 : i + ((n + 1 : Nat) : Int) = i + 1 + n := by omega
      rw [e1]
      exact h2

/-! ### block.End -/
def endP (lines : List (List Tok)) (a : Int) : Option (Int × Int) :=
  if a < 0 then none else
  match lines[a.toNat]? with
  | none => none
  | some l =>
    if kindP l = 1 ∨ kindP l = 3 ∨ kindP l = 5 then
      match blk (lines.drop (a.toNat + 1)) (a + 1) (kindP l, -1) [] with
      | .fin e t => some (e, t.2)
      | _ => none
    else none
theorem end_ok (N : Nat) (lines : List (List Tok)) (a : Int) (hl : lines.length ≤ 100000) (hN : lines.length < N) :
    (∃ e o, endP lines a = some (e, o) ∧ block_End N lines a = some (e, o, Err.nil, ())) ∨ (endP lines a = none ∧ ∃ x y, block_End N lines a = some (0, 0, Err.fault x y 15, ())) := by
  by_cases ha : a < 0
  · right
    refine ⟨by unfold endP; rw [if_pos ha], 0, 0, ?_⟩
    simp only [block_End, decide_eq_true ha, cond_true, bindI_some]
  by_cases hb : (lines.length : Int) ≤ a
  · right
    refine ⟨?_, 0, 0, ?_⟩
    · unfold endP
      rw [if_neg ha, List.getElem?_eq_none (by omega)]
    · simp only [block_End, decide_eq_false ha, decide_eq_true hb, cond_false, cond_true, bindI_some]
  obtain ⟨n, rfl⟩ := Int.eq_ofNat_of_zero_le (by omega : 0 ≤ a)
  have hn : n < lines.length := by omega
  have g1 : geti lines (n : Int) = some lines[n] := by rw [geti_nat]; exact List.getElem?_eq_getElem _
  have he : endP lines (n : Int) = if kindP lines[n] = 1 ∨ kindP lines[n] = 3 ∨ kindP lines[n] = 5 then
      (match blk (lines.drop (n + 1)) ((n : Int) + 1) (kindP lines[n], -1) [] with
      | .fin e t => some (e, t.2)
      | _ => none) else none := by
    unfold endP
    rw [if_neg ha, Int.toNat_natCast, List.getElem?_eq_getElem hn]
  have hw : IntKind.i64.wrap ((n : Int) + 1) = ((n + 1 : Nat) : Int) := by rw [w64 ⟨by omega, by omega⟩]; omega
  have hfind := find_loop N lines (n : Int) (0, 0) hl N (n + 1) (kindP lines[n], -1) [] (by simp) (by omega) (by omega)
  have ecast : (((n + 1 : Nat)) : Int) = (n : Int) + 1 := by omega
  simp only [List.reverse_nil, List.nil_append] at hfind
  obtain ⟨fa, fb, hfault⟩ := fault_some N lines[n]
  have hF : (∃ e t, blk (lines.drop (n + 1)) ((n : Int) + 1) (kindP lines[n], -1) [] = .fin e t ∧ block_find N lines (n : Int) = some ((t.1, t.2), e, Err.nil, ())) ∨
      ((∀ e t, blk (lines.drop (n + 1)) ((n : Int) + 1) (kindP lines[n], -1) [] ≠ .fin e t) ∧ ∃ x y, block_find N lines (n : Int) = some ((0, 0), 0, Err.fault x y 15, ())) := by
    simp only [block_find, g1, kindOf, bindI_some, hw]
    rw [ecast] at hfind ⊢
    cases hr : blk (lines.drop (n + 1)) ((n : Int) + 1) (kindP lines[n], -1) [] with
    | fin e t =>
      rw [hr] at hfind
      left
      refine ⟨e, t, rfl, ?_⟩
      rw [show block_find_L0 N N ((lines, (n : Int), (n : Int) + 1, ()), ((0, 0), ()), [(kindP lines[n], -1)], ()) = _ from hfind]
      rfl
    | bad l =>
      rw [hr] at hfind
      obtain ⟨x, y, hfind⟩ := hfind
      right
      refine ⟨fun _ _ h => (by cases h), x, y, ?_⟩
      rw [show block_find_L0 N N ((lines, (n : Int), (n : Int) + 1, ()), ((0, 0), ()), [(kindP lines[n], -1)], ()) = _ from hfind]
      rfl
    | eof =>
      rw [hr] at hfind
      right
      refine ⟨fun _ _ h => (by cases h), fa, fb, ?_⟩
      rw [show block_find_L0 N N ((lines, (n : Int), (n : Int) + 1, ()), ((0, 0), ()), [(kindP lines[n], -1)], ()) = _ from hfind]
      simp only [bindX_out, g1, bindI_some, hfault, Err.el]
  have hE : kindP lines[n] = 1 ∨ kindP lines[n] = 3 ∨ kindP lines[n] = 5 → block_End N lines (n : Int) = bindI (block_find N lines (n : Int)) fun y => Err.el y.snd.snd.fst (some (y.snd.fst, y.fst.snd, Err.nil, ())) (fun c => none) fun l c k => some (0, 0, Err.fault l c k, ()) := fun hk => by
    simp only [block_End, decide_eq_false ha, decide_eq_false hb, cond_false, bindI_some, g1, kindOf]
    rcases hk with hk | hk | hk <;> simp only [hk, Int.reduceEq, decide_true, decide_false, cond_true, cond_false]
  by_cases hk : kindP lines[n] = 1 ∨ kindP lines[n] = 3 ∨ kindP lines[n] = 5
  · rw [he, if_pos hk, hE hk]
    rcases hF with ⟨e, t, h1, h2⟩ | ⟨h1, x, y, h2⟩
    · left
      refine ⟨e, t.2, by rw [h1], ?_⟩
      rw [h2]
      rfl
    · right
      refine ⟨?_, x, y, by rw [h2]; rfl⟩
      split
      · rename_i e t h3
        exact absurd h3 (h1 e t)
      · rfl
  · right
    rw [he, if_neg hk]
    refine ⟨rfl, fa, fb, ?_⟩
    have k1 : ¬kindP lines[n] = 1 := fun h => hk (.inl h)
    have k3 : ¬kindP lines[n] = 3 := fun h => hk (.inr (.inl h))
    have k5 : ¬kindP lines[n] = 5 := fun h => hk (.inr (.inr h))
    simp only [block_End, decide_eq_false ha, decide_eq_false hb, cond_false, bindI_some, g1, kindOf, k1, k3, k5, decide_false, hfault, Err.el]
theorem endP_inv {lines : List (List Tok)} {a e o : Int} (h : endP lines a = some (e, o)) : ∃ n l t, a = (n : Nat) ∧ lines[n]? = some l ∧ (kindP l = 1 ∨ kindP l = 3 ∨ kindP l = 5) ∧ blk (lines.drop (n + 1)) ((n : Int) + 1) (kindP l, -1) [] = .fin e t ∧ o = t.2 := by
  unfold endP at h
  split at h
  · cases h
  rename_i ha
  obtain ⟨n, rfl⟩ := Int.eq_ofNat_of_zero_le (by omega : 0 ≤ a)
  rw [Int.toNat_natCast] at h
  split at h
  · cases h
  rename_i l hl
  split at h
  case isFalse => cases h
  rename_i hk
  split at h
  · rename_i e' t ht
    cases h
    exact ⟨n, l, t, rfl, hl, hk, ht, rfl⟩
  · cases h
theorem endP_of {lines : List (List Tok)} {n : Nat} {l : List Tok} {e : Int} {t : Int × Int} (h1 : lines[n]? = some l) (h2 : kindP l = 1 ∨ kindP l = 3 ∨ kindP l = 5) (h3 : blk (lines.drop (n + 1)) ((n : Int) + 1) (kindP l, -1) [] = .fin e t) : endP lines (n : Int) = some (e, t.2) := by
  unfold endP
  rw [if_neg (by omega), Int.toNat_natCast, h1]
  simp only [h2, if_true, h3]

/-! ### Few lines -/
theorem light_loop (N : Nat) (l : List (List Tok)) (hl : l.length ≤ 600) : ∀ (f : Nat) (n : Int) (i : Nat), i ≤ l.length → l.length < i + f → ∃ m : Int, typecaselaw13_light_L0 N f ((l, n, (i : Int), ()), ()) = some (.out ((m, ()), ()))
  | 0, n, i, h1, h2 => by omega
  | f + 1, n, i, h1, h2 => by
    rw [typecaselaw13_light_L0_succ]
    simp only [typecaselaw13_light_L0s]
    by_cases hi : i < l.length
    · have e1 : decide ((i : Int) < (l.length : Int)) = true := by simp; omega
      by_cases hn : n ≤ 600
      · have g1 : geti l (i : Int) = some l[i] := by rw [geti_nat]; exact List.getElem?_eq_getElem _
        have w2 : IntKind.i64.wrap ((i : Int) + 1) = ((i + 1 : Nat) : Int) := by
          rw [w64 ⟨by omega, by omega⟩]; omega
        simp only [e1, decide_eq_true hn, cond_true, bindI_some, g1, w2]
        exact light_loop N l hl f _ (i + 1) (by omega) (by omega)
      · simp only [e1, decide_eq_false hn, cond_true, cond_false, bindI_some]
        exact ⟨n, rfl⟩
    · have e1 : decide ((i : Int) < (l.length : Int)) = false := by simp; omega
      simp only [e1, cond_false, bindI_some]
      exact ⟨n, rfl⟩
theorem light_ok (N : Nat) (hN : 600 < N) (l : List (List Tok)) : ∃ b, typecaselaw13_light N l = some (b, ()) ∧ (b = true → l.length ≤ 600) := by
  by_cases h : l.length ≤ 600
  · obtain ⟨m, h3⟩ := light_loop N l h N (l.length : Int) 0 (by omega) (by omega)
    have h3 : typecaselaw13_light_L0 N N ((l, (l.length : Int), 0, ()), ()) = some (.out ((m, ()), ())) := h3
    refine ⟨decide (m ≤ 600), ?_, fun _ => h⟩
    simp only [typecaselaw13_light]
    rw [h3]
    rfl
  · obtain ⟨k, rfl⟩ : ∃ k, N = k + 1 := ⟨N - 1, by omega⟩
    refine ⟨false, ?_, fun hb => by cases hb⟩
    have e1 : decide ((0 : Int) < (l.length : Int)) = true := by simp; omega
    have e2 : decide ((l.length : Int) ≤ 600) = false := by simp; omega
    simp only [typecaselaw13_light, typecaselaw13_light_L0_succ, typecaselaw13_light_L0s, e1, e2, cond_true, cond_false, bindI_some, bindX_out]
end Go.Proofs.YtmbepfdnmgiifaaDoor
