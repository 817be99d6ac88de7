/- What nodes come to, on plain data: the document's loop; both come to the same. -/
import Derived.Test.YtppobdnacmdgbaaDoorEvalQ
set_option linter.unusedVariables false
set_option linter.unusedSimpArgs false
namespace Go.Proofs.YtppobdnacmdgbaaDoor
open Go Go.Up
set_option maxRecDepth 100000

theorem find_loop (N : Nat) (syms : List Sym) (name : Str) (hl : syms.length ≤ 1000000) : ∀ (f i : Nat), i ≤ syms.length → syms.length < i + f →
    (match (syms.drop i).find? (fs name) with
    | none => typecaseref12_find_L0 N f ((syms, name, (i : Int), ()), ()) = some (.out ((), ()))
    | some s => ∃ j : Nat, syms[j]? = some s ∧ typecaseref12_find_L0 N f ((syms, name, (i : Int), ()), ()) = some (.ret (((j : Int), ()), ())))
  | 0, i, hi, hf => by omega
  | f + 1, i, hi, hf => by
    rw [typecaseref12_find_L0_succ]
    simp only [typecaseref12_find_L0s]
    by_cases hlt : i < syms.length
    · have e1 : decide ((i : Int) < (syms.length : Int)) = true := decide_eq_true (by omega)
      have g1 : geti syms (i : Int) = some syms[i] := by rw [geti_nat]; exact List.getElem?_eq_getElem hlt
      have hw : IntKind.i64.wrap ((i : Int) + 1) = ((i + 1 : Nat) : Int) := by rw [wi64n (by omega) (by omega)]; omega
      have hd : syms.drop i = syms[i] :: syms.drop (i + 1) := List.drop_eq_getElem_cons hlt
      rw [e1, cond_true, g1, hd]
      simp only [bindI_some, lbeq, List.find?_cons]
      by_cases hn : syms[i].name = name
      · have d : fs name syms[i] = true := decide_eq_true hn
        have d2 : decide (syms[i].name = name) = true := decide_eq_true hn
        simp only [d, d2, cond_true]
        exact ⟨i, List.getElem?_eq_getElem hlt, rfl⟩
      · have d : fs name syms[i] = false := decide_eq_false hn
        have d2 : decide (syms[i].name = name) = false := decide_eq_false hn
        simp only [d, d2, cond_false, hw]
        exact find_loop N syms name hl f (i + 1) (by omega) (by omega)
    · have e1 : decide ((i : Int) < (syms.length : Int)) = false := decide_eq_false (by omega)
      have hd : syms.drop i = [] := List.drop_of_length_le (by omega)
      rw [e1, cond_false, hd]
      simp only [List.find?_nil]
theorem find_ok (N : Nat) (syms : List Sym) (hl : syms.length ≤ 1000000) (hN : syms.length < N) (name : Str) :
    (match syms.find? (fs name) with
    | none => typecaseref12_find N syms name = some (-1, ())
    | some s => ∃ j : Nat, syms[j]? = some s ∧ typecaseref12_find N syms name = some ((j : Int), ())) := by
  have h := find_loop N syms name hl N 0 (by omega) (by omega)
  have e0 : (((0 : Nat) : Int)) = 0 := rfl
  rw [e0, List.drop_zero] at h
  cases hq : syms.find? (fs name) with
  | none =>
    rw [hq] at h
    simp only [typecaseref12_find, h, bindX_out]
  | some s =>
    rw [hq] at h
    obtain ⟨j, h1, h2⟩ := h
    exact ⟨j, h1, by simp only [typecaseref12_find, h2, bindX_ret]⟩

/-- The codes are what they are. -/
theorem oneP_c {k : Int} {a : Int × Bool} {place : Int} {early : Bool} {c : Int} (h : oneP k a place early = .inl c) : c = 7 := by
  unfold oneP at h
  split at h
  · cases h
  split at h
  · cases h
  split at h
  · cases early
    · cases h
    · cases h; rfl
  cases hb : a.2 with
  | true => rw [hb] at h; cases h; rfl
  | false =>
    rw [hb, cond_false] at h
    split at h <;> cases h
theorem fixP_c {k a b c : Int} (h : fixP k a b = .inl c) : c = 12 := by
  unfold fixP at h
  split at h
  · cases h
  split at h
  · split at h
    · cases h; rfl
    · cases h
  split at h
  · cases h
  split at h
  · cases h
  split at h
  · cases h
  split at h <;> cases h
theorem twoP_c {k : Int} {a b : Int × Bool} {c : Int} (h : twoP k a b = .inl c) : c = 7 ∨ c = 12 := by
  unfold twoP at h
  split at h
  · cases hc : (a.2 && b.2) with
    | true => rw [hc] at h; cases h; exact .inl rfl
    | false => rw [hc] at h; cases h
  split at h
  · cases hc : (!a.2 && b.2) with
    | true => rw [hc] at h; cases h; exact .inl rfl
    | false => rw [hc] at h; cases h
  cases hc : (a.2 || b.2) with
  | true => rw [hc] at h; cases h; exact .inl rfl
  | false =>
    rw [hc, cond_false] at h
    cases hf : fixP k a.1 b.1 with
    | inl c' => rw [hf] at h; cases h; exact .inr (fixP_c hf)
    | inr v => rw [hf] at h; cases h
theorem stp_c {syms : List Sym} {place : Int} {early : Bool} {n : Nod} {st : List (Int × Bool)} {c : Int} (h : stp syms place early n st = .inl c) : c = 6 ∨ c = 7 ∨ c = 11 ∨ c = 12 := by
  unfold stp at h
  split at h
  · cases h
  split at h
  · split at h
    · cases h; simp
    · rename_i x hx
      cases hb : (early && isP x) with
      | true => rw [hb] at h; cases h; simp
      | false => rw [hb] at h; cases h
  split at h
  · cases early
    · cases h
    · cases h; simp
  split at h
  · split at h
    · rename_i c' hc; cases h; have := oneP_c hc; omega
    · cases h
  split at h
  · split at h
    · rename_i c' hc; cases h; have := twoP_c hc; omega
    · cases h
  · cases h; simp

theorem ref_loop (N : Nat) (hN : 50 ≤ N) (syms : List Sym) (hNs : syms.length < N) (hl : syms.length ≤ 1000000) (hsy : ∀ x ∈ syms, U32 x.value) (place : Int) (hpl : U32 place) (early : Bool) (l : List Nod) (hll : l.length ≤ 1000000) (hln : ∀ n ∈ l, U32 n.num) :
    ∀ (f i : Nat) (st : List (Int × Bool)), i ≤ l.length → l.length < i + f → st.length ≤ i → VS st →
    typecaseref12_Value_L0 N f ((l, syms, place, early, st, (i : Int), ()), ((0, false), ()), ((0, 0, 0), ()), ()) =
    (match evL syms place early (l.drop i) st with
    | .inl (a, b, c) => some (.ret ((), ((0, false), ()), ((a, b, c), ()), ()))
    | .inr s => some (.out ((l, s, ()), ((0, false), ()), ((0, 0, 0), ()), ())))
  | 0, i, st, hi, hf, _, _ => by omega
  | f + 1, i, st, hi, hf, hst, hv => by
    rw [typecaseref12_Value_L0_succ]
    simp only [typecaseref12_Value_L0s]
    by_cases hlt : i < l.length
    · have e1 : decide ((i : Int) < (l.length : Int)) = true := decide_eq_true (by omega)
      have g1 : geti l (i : Int) = some l[i] := by rw [geti_nat]; exact List.getElem?_eq_getElem _
      have hw : IntKind.i64.wrap ((i : Int) + 1) = ((i + 1 : Nat) : Int) := by rw [wi64n (by omega) (by omega)]; omega
      have hd : l.drop i = l[i] :: l.drop (i + 1) := List.drop_eq_getElem_cons hlt
      have c0 : inC (st.length : Int) st.length = true := inC_of (by omega) (by omega)
      have t0 : st.take ((st.length : Int)).toNat = st := by rw [Int.toNat_natCast, List.take_length]
      have b0 : st.length.ble 4294967296 = true := Nat.ble_eq_true_of_le (by omega)
      have b1 : ∀ p : Int × Bool, (st ++ [p]).length.ble 4294967296 = true := fun p => Nat.ble_eq_true_of_le (by simp; omega)
      have eb : ∀ q : Int × Bool, (q.fst, q.snd) = q := fun _ => rfl
      have go : ∀ s : List (Int × Bool), stp syms place early l[i] st = .inr s → typecaseref12_Value_L0 N f ((l, syms, place, early, s, ((i + 1 : Nat) : Int), ()), ((0, false), ()), ((0, 0, 0), ()), ()) =
          (match evL syms place early (l.drop (i + 1)) s with
          | .inl (a, b, c) => some (.ret ((), ((0, false), ()), ((a, b, c), ()), ()))
          | .inr s => some (.out ((l, s, ()), ((0, false), ()), ((0, 0, 0), ()), ()))) := fun s hq => by
        obtain ⟨hv2, hlen⟩ := stp_u hsy hpl (hln _ (List.getElem_mem hlt)) hv hq
        exact ref_loop N hN syms hNs hl hsy place hpl early l hll hln f (i + 1) s (by omega) (by omega) (by omega) hv2
      rw [hd]
      simp only [e1, cond_true, g1, bindI_some, evL, c0, t0, b0, b1, hw]
      generalize hn : l[i] = n at *
      by_cases k1 : n.kind = 1
      · have hq : stp syms place early n st = .inr (st ++ [(n.num, false)]) := by simp only [stp, if_pos k1]
        rw [hq]
        simp only [k1, decide_true, cond_true]
        exact go _ hq
      have d1 : decide (n.kind = 1) = false := decide_eq_false k1
      by_cases k2 : n.kind = 2
      · have hf2 := find_ok N syms hl hNs n.name
        have hq : stp syms place early n st = (match syms.find? (fs n.name) with
          | none => .inl 11
          | some s => bif early && isP s then .inl 7 else .inr (st ++ [(s.value, isP s)])) := by simp only [stp, if_neg k1, if_pos k2]; rfl
        rw [hq]
        simp only [k2, Int.reduceEq, decide_true, decide_false, cond_true, cond_false]
        cases hfd : syms.find? (fs n.name) with
        | none =>
          rw [hfd] at hf2
          have dm : decide ((-1 : Int) < 0) = true := rfl
          simp only [hf2, bindI_some, dm, cond_true]
        | some s =>
          rw [hfd] at hf2 hq
          obtain ⟨j, hj, hf2⟩ := hf2
          have dj : decide ((j : Int) < 0) = false := decide_eq_false (by omega)
          have gj : geti syms (j : Int) = some s := by rw [geti_nat]; exact hj
          dsimp only at hq
          simp only [hf2, bindI_some, dj, cond_false, gj]
          cases hb : early with
          | false =>
            rw [hb] at hq go
            simp only [cond_false, bindI_some, Bool.false_and] at hq ⊢
            exact go _ hq
          | true =>
            rw [hb] at hq go
            simp only [cond_true, bindI_some, Bool.true_and] at hq ⊢
            cases hp : isP s with
            | true =>
              have : (!decide (s.cls = 0)) = true := hp
              simp only [this, cond_true]
            | false =>
              have h3 : (!decide (s.cls = 0)) = false := hp
              rw [hp] at hq
              simp only [h3, cond_false] at hq ⊢
              exact go _ hq
      have d2 : decide (n.kind = 2) = false := decide_eq_false k2
      by_cases k3 : n.kind = 3
      · have hq : stp syms place early n st = (bif early then .inl 7 else .inr (st ++ [(place, true)])) := by simp only [stp, if_neg k1, if_neg k2, if_pos k3]
        rw [hq]
        simp only [k3, Int.reduceEq, decide_true, decide_false, cond_true, cond_false, bindI_some]
        cases hb : early with
        | true => simp only [cond_true]
        | false =>
          rw [hb] at hq go
          simp only [cond_false] at hq ⊢
          exact go _ hq
      have d3 : decide (n.kind = 3) = false := decide_eq_false k3
      simp only [d1, d2, d3, cond_false, bindI_some]
      by_cases h1 : 4 ≤ n.kind ∧ n.kind ≤ 8
      · have d4 : decide (4 ≤ n.kind) = true := decide_eq_true h1.1
        have d5 : decide (n.kind ≤ 8) = true := decide_eq_true h1.2
        simp only [d4, d5, cond_true, bindI_some]
        by_cases hp : 1 ≤ st.length
        · have d6 : decide ((1 : Int) ≤ (st.length : Int)) = true := decide_eq_true (by omega)
          have w : IntKind.i64.wrap ((st.length : Int) - 1) = ((st.length - 1 : Nat) : Int) := by rw [wi64n (by omega) (by omega)]; omega
          have g : geti st ((st.length - 1 : Nat) : Int) = some (st.getD (st.length - 1) (0, false)) := by rw [geti_nat]; exact getD_mem (by omega)
          have hu : U32 (st.getD (st.length - 1) (0, false)).1 := hv _ (List.mem_of_getElem? (getD_mem (by omega)))
          have c1 : inC ((st.length - 1 : Nat) : Int) st.length = true := inC_of (by omega) (by omega)
          have hq : stp syms place early n st = (match oneP n.kind (st.getD (st.length - 1) (0, false)) place early with
            | .inl c => .inl c
            | .inr p => .inr (st.take (st.length - 1) ++ [p])) := by simp only [stp, if_neg k1, if_neg k2, if_neg k3, if_pos (show 4 ≤ n.kind ∧ n.kind ≤ 8 ∧ 1 ≤ st.length from ⟨h1.1, h1.2, hp⟩)]; rfl
          simp only [d6, cond_true, w, g, bindI_some, eb, ref_one N hN n.kind h1 _ hu]
          cases ho : oneP n.kind (st.getD (st.length - 1) (0, false)) place early with
          | inl c =>
            have hc := oneP_c ho
            subst hc
            rw [ho] at hq
            rw [hq]
            simp only [bindI_some]
            rfl
          | inr p =>
            rw [ho] at hq
            have b2 : (st.take (st.length - 1)).length.ble 4294967296 = true := Nat.ble_eq_true_of_le (by simp; omega)
            have b3 : (st.take (st.length - 1) ++ [p]).length.ble 4294967296 = true := Nat.ble_eq_true_of_le (by simp; omega)
            have dz : decide ((0 : Int) < 0) = false := rfl
            simp only [bindI_some, dz, cond_false, c1, cond_true, Int.toNat_natCast, b2, eb, b3]
            rw [go _ hq, hq]
        · have d6 : decide ((1 : Int) ≤ (st.length : Int)) = false := decide_eq_false (by omega)
          have d7 : decide (9 ≤ n.kind) = false := decide_eq_false (by omega)
          have hq : stp syms place early n st = .inl 6 := by simp only [stp, if_neg k1, if_neg k2, if_neg k3, if_neg (show ¬ (4 ≤ n.kind ∧ n.kind ≤ 8 ∧ 1 ≤ st.length) from fun h => hp h.2.2), if_neg (show ¬ (9 ≤ n.kind ∧ n.kind ≤ 17 ∧ 2 ≤ st.length) from fun h => by omega)]
          rw [hq]
          simp only [d6, d7, cond_false, bindI_some]
      have hno : ¬ (4 ≤ n.kind ∧ n.kind ≤ 8 ∧ 1 ≤ st.length) := fun h => h1 ⟨h.1, h.2.1⟩
      have e4 : (bif decide (4 ≤ n.kind) then some (decide (n.kind ≤ 8)) else some false) = some false := by
        by_cases h : 4 ≤ n.kind
        · rw [decide_eq_true h, cond_true, decide_eq_false (fun h2 => h1 ⟨h, h2⟩)]
        · rw [decide_eq_false h, cond_false]
      simp only [e4, bindI_some, cond_false]
      by_cases h2 : 9 ≤ n.kind ∧ n.kind ≤ 17
      · have d4 : decide (9 ≤ n.kind) = true := decide_eq_true h2.1
        have d5 : decide (n.kind ≤ 17) = true := decide_eq_true h2.2
        simp only [d4, d5, cond_true, bindI_some]
        by_cases hp : 2 ≤ st.length
        · have d6 : decide ((2 : Int) ≤ (st.length : Int)) = true := decide_eq_true (by omega)
          have w : IntKind.i64.wrap ((st.length : Int) - 1) = ((st.length - 1 : Nat) : Int) := by rw [wi64n (by omega) (by omega)]; omega
          have w2 : IntKind.i64.wrap ((st.length : Int) - 2) = ((st.length - 2 : Nat) : Int) := by rw [wi64n (by omega) (by omega)]; omega
          have g : geti st ((st.length - 1 : Nat) : Int) = some (st.getD (st.length - 1) (0, false)) := by rw [geti_nat]; exact getD_mem (by omega)
          have g2 : geti st ((st.length - 2 : Nat) : Int) = some (st.getD (st.length - 2) (0, false)) := by rw [geti_nat]; exact getD_mem (by omega)
          have hu : U32 (st.getD (st.length - 1) (0, false)).1 := hv _ (List.mem_of_getElem? (getD_mem (by omega)))
          have hu2 : U32 (st.getD (st.length - 2) (0, false)).1 := hv _ (List.mem_of_getElem? (getD_mem (by omega)))
          have c1 : inC ((st.length - 2 : Nat) : Int) st.length = true := inC_of (by omega) (by omega)
          have hq : stp syms place early n st = (match twoP n.kind (st.getD (st.length - 2) (0, false)) (st.getD (st.length - 1) (0, false)) with
            | .inl c => .inl c
            | .inr p => .inr (st.take (st.length - 2) ++ [p])) := by simp only [stp, if_neg k1, if_neg k2, if_neg k3, if_neg hno, if_pos (show 9 ≤ n.kind ∧ n.kind ≤ 17 ∧ 2 ≤ st.length from ⟨h2.1, h2.2, hp⟩)]; rfl
          simp only [d6, cond_true, w, w2, g, g2, bindI_some, eb, ref_two N hN n.kind h2 _ _ hu2 hu]
          cases ho : twoP n.kind (st.getD (st.length - 2) (0, false)) (st.getD (st.length - 1) (0, false)) with
          | inl c =>
            have hc := twoP_c ho
            rw [ho] at hq
            rw [hq]
            have dz : decide ((0 : Int) < c) = true := decide_eq_true (by omega)
            simp only [bindI_some, dz, cond_true]
          | inr p =>
            rw [ho] at hq
            have b2 : (st.take (st.length - 2)).length.ble 4294967296 = true := Nat.ble_eq_true_of_le (by simp; omega)
            have b3 : (st.take (st.length - 2) ++ [p]).length.ble 4294967296 = true := Nat.ble_eq_true_of_le (by simp; omega)
            have dz : decide ((0 : Int) < 0) = false := rfl
            simp only [bindI_some, dz, cond_false, c1, cond_true, Int.toNat_natCast, b2, eb, b3]
            rw [go _ hq, hq]
        · have d6 : decide ((2 : Int) ≤ (st.length : Int)) = false := decide_eq_false (by omega)
          have hq : stp syms place early n st = .inl 6 := by simp only [stp, if_neg k1, if_neg k2, if_neg k3, if_neg hno, if_neg (show ¬ (9 ≤ n.kind ∧ n.kind ≤ 17 ∧ 2 ≤ st.length) from fun h => hp h.2.2)]
          rw [hq]
          simp only [d6, cond_false]
      · have e9 : (bif decide (9 ≤ n.kind) then some (decide (n.kind ≤ 17)) else some false) = some false := by
          by_cases h : 9 ≤ n.kind
          · rw [decide_eq_true h, cond_true, decide_eq_false (fun h3 => h2 ⟨h, h3⟩)]
          · rw [decide_eq_false h, cond_false]
        have hq : stp syms place early n st = .inl 6 := by simp only [stp, if_neg k1, if_neg k2, if_neg k3, if_neg hno, if_neg (show ¬ (9 ≤ n.kind ∧ n.kind ≤ 17 ∧ 2 ≤ st.length) from fun h => h2 ⟨h.1, h.2.1⟩)]
        rw [hq]
        simp only [e9, bindI_some, cond_false]
    · have e1 : decide ((i : Int) < (l.length : Int)) = false := decide_eq_false (by omega)
      have hd : l.drop i = [] := List.drop_of_length_le (by omega)
      rw [hd]
      simp only [e1, cond_false, evL]
theorem lastOf_get : ∀ (l : List Nod) (x : Nod), l ≠ [] → l[l.length - 1]? = some (lastOf x l)
  | [], _, h => absurd rfl h
  | [n], _, _ => rfl
  | n :: m :: l, x, _ => by
    have := lastOf_get (m :: l) n (by simp)
    simp only [List.length_cons, Nat.add_sub_cancel] at this ⊢
    rw [List.getElem?_cons_succ]
    exact this
theorem ref_value (N : Nat) (hN : 50 ≤ N) (syms : List Sym) (hNs : syms.length < N) (hl : syms.length ≤ 1000000) (hsy : ∀ x ∈ syms, U32 x.value) (place : Int) (hpl : U32 place) (early : Bool) (l : List Nod) (hll : l.length ≤ 1000000) (hlN : l.length < N) (hln : ∀ n ∈ l, U32 n.num) :
    typecaseref12_Value N l syms place early = (match valP syms place early l with
    | .inl f => some ((0, false), f, ())
    | .inr p => some (p, (0, 0, 0), ())) := by
  have h := ref_loop N hN syms hNs hl hsy place hpl early l hll hln N 0 [] (by omega) (by omega) (by simp) (fun p hp => by cases hp)
  have e0 : (((0 : Nat) : Int)) = 0 := rfl
  rw [e0, List.drop_zero] at h
  simp only [typecaseref12_Value, h]
  unfold valP
  cases hq : evL syms place early l [] with
  | inl q =>
    obtain ⟨a, b, c⟩ := q
    simp only [bindX_ret]
  | inr s =>
    simp only [bindX_out]
    have fin : ((bif decide ((l.length : Int) = 0) then some ((0, false), (0, 0, 6), ())
        else bindI (geti l (IntKind.i64.wrap ((l.length : Int) - 1))) fun y_1 => bindI (geti l (IntKind.i64.wrap ((l.length : Int) - 1))) fun y => some ((0, false), (y_1.line, y.col, 6), ())) : Option ((Int × Bool) × (Int × Int × Int) × PUnit)) =
        some ((0, false), ((lastOf ⟨0, 0, 0, 0, []⟩ l).line, (lastOf ⟨0, 0, 0, 0, []⟩ l).col, 6), ()) := by
      cases hl0 : l with
      | nil => rfl
      | cons n l' =>
        have hne : l ≠ [] := by rw [hl0]; simp
        rw [← hl0]
        have hpos : 0 < l.length := List.length_pos_iff.2 hne
        have w : IntKind.i64.wrap ((l.length : Int) - 1) = ((l.length - 1 : Nat) : Int) := by rw [wi64n (by omega) (by omega)]; omega
        have g : geti l ((l.length - 1 : Nat) : Int) = some (lastOf ⟨0, 0, 0, 0, []⟩ l) := by rw [geti_nat]; exact lastOf_get l _ hne
        have d : decide ((l.length : Int) = 0) = false := decide_eq_false (by omega)
        simp only [d, cond_false, w, g, bindI_some]
    match s with
    | [p] =>
      have d : decide (((([p] : List (Int × Bool))).length : Int) = 1) = true := rfl
      have g : geti ([p] : List (Int × Bool)) 0 = some p := rfl
      simp only [d, cond_true, g, bindI_some]
    | [] =>
      have d : decide (((([] : List (Int × Bool))).length : Int) = 1) = false := rfl
      simp only [d, cond_false]
      exact fin
    | p :: q :: s =>
      have d : decide (((p :: q :: s : List (Int × Bool)).length : Int) = 1) = false := decide_eq_false (by simp; omega)
      simp only [d, cond_false]
      exact fin
theorem fault_ok (N : Nat) (hN : 50 ≤ N) (a b c : Int) (hc : c = 6 ∨ c = 7 ∨ c = 11 ∨ c = 12) : typecaselaw10_Fault N (Err.fault a b c) = some ((a, b, c), ()) := by
  obtain ⟨f, rfl⟩ : ∃ f, N = f + 20 := ⟨N - 20, by omega⟩
  rcases hc with rfl | rfl | rfl | rfl <;> rfl
theorem evL_c {syms : List Sym} {place : Int} {early : Bool} : ∀ {l : List Nod} {st : List (Int × Bool)} {a b c : Int}, evL syms place early l st = .inl (a, b, c) → c = 6 ∨ c = 7 ∨ c = 11 ∨ c = 12
  | [], st, a, b, c, h => by cases h
  | n :: l, st, a, b, c, h => by
    unfold evL at h
    split at h
    · rename_i c' hc; cases h; exact stp_c hc
    · exact evL_c h
theorem valP_c {syms : List Sym} {place : Int} {early : Bool} {l : List Nod} {a b c : Int} (h : valP syms place early l = .inl (a, b, c)) : c = 6 ∨ c = 7 ∨ c = 11 ∨ c = 12 := by
  unfold valP at h
  split at h
  · rename_i f hf; cases h; exact evL_c hf
  · cases h
  · cases h; simp
theorem same_ok (N : Nat) (hN : 50 ≤ N) (syms : List Sym) (hNs : syms.length < N) (hl : syms.length ≤ 1000000) (hsy : ∀ x ∈ syms, U32 x.value) (place : Int) (hpl : U32 place) (early : Bool) (l : List Nod) (hll : l.length ≤ 1000000) (hlN : l.length < N) (hln : ∀ n ∈ l, U32 n.num) :
    typecaselaw12_same N l syms place early = some (true, ()) := by
  simp only [typecaselaw12_same, syms_ok N syms hl hNs, bindI_some, prog_value N syms hNs hl hsy place hpl early l hll hlN hln, ref_value N hN syms hNs hl hsy place hpl early l hll hlN hln]
  cases hq : valP syms place early l with
  | inl f =>
    obtain ⟨a, b, c⟩ := f
    simp only [bindI_some, Err.el, fault_ok N hN a b c (valP_c hq)]
    simp [bindI_some]
  | inr p =>
    obtain ⟨v, pl⟩ := p
    simp only [bindI_some, Err.el]
    cases pl <;> simp [cl, bindI_some]
end Go.Proofs.YtppobdnacmdgbaaDoor
