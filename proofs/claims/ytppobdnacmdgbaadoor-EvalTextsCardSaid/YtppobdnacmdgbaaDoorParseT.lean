/- The document's reading of an expression comes to something, for each short line; its numbers are words. -/
import Derived.Test.YtppobdnacmdgbaaDoorLexT
set_option linter.unusedVariables false
set_option linter.unusedSimpArgs false
namespace Go.Proofs.YtppobdnacmdgbaaDoor
open Go Go.Up
set_option maxRecDepth 100000

section
variable (N : Nat) (hN : 2000 ≤ N)
theorem at_ok (l : List Tok) (i c : Int) (h0 : 0 ≤ i) (hl : l.length ≤ 1000) : Ok (typecaseref11_at N l i c) fun y => y.1.1 = [] := by
  unfold typecaseref11_at
  refine Ok.ite (fun _ => Ok.mk rfl) (fun hn => Ok.ite (fun _ => ?_) (fun hlt => ?_))
  · have hn := of_decide_eq_false hn
    rw [wi64n (by omega) (by omega)]
    exact Ok.bind (Ok.geti (by omega) (by omega)) fun _ _ => Ok.bind (Ok.geti (by omega) (by omega)) fun _ _ => Ok.mk rfl
  · have hlt := of_decide_eq_false hlt
    exact Ok.bind (Ok.geti (by omega) (by omega)) fun _ _ => Ok.bind (Ok.geti (by omega) (by omega)) fun _ _ => Ok.mk rfl
include hN
theorem digits0 : ∃ d, typecaseref11_Digits N 0 = some (d, ()) ∧ d.length = 1 := by
  obtain ⟨f, rfl⟩ : ∃ f, N = f + 1 := ⟨N - 1, by omega⟩
  exact ⟨[48], rfl, rfl⟩
theorem symbol_t (t : Tok) (ht : good t) : Ok (typecaseref11_Symbol N t) fun _ => True := by
  unfold typecaseref11_Symbol
  refine Ok.ite (fun _ => Ok.mk trivial) (fun _ => Ok.ite (fun _ => ?_) (fun _ => Ok.mk trivial))
  obtain ⟨d, h1, h2⟩ := digits0 N hN
  refine Ok.tt (decide_eq_true (by have := ht.2.2; omega)) ?_
  rw [ht.2.1, h1, bindI_some]
  refine Ok.tt (decide_eq_true ?_) (Ok.mk trivial)
  have := ht.2.2
  show (t.text ++ [UInt8.ofNat 64]).length + d.length ≤ _
  rw [List.length_append, h2]
  simp only [List.length_cons, List.length_nil]
  omega
theorem leaf_t (t : Tok) (ht : good t) : Ok (typecaseref11_leaf N t) fun y => U32 y.1.num := by
  have u0 : U32 0 := ⟨by omega, by omega⟩
  unfold typecaseref11_leaf
  simp only [cond_and, cond_or, bindI_some]
  exact Ok.ite (fun _ => Ok.mk ht.1) (fun _ => Ok.ite (fun _ => Ok.mk u0) (fun _ => Ok.ite (fun _ => Ok.bindT (symbol_t N hN t ht) fun _ => Ok.mk u0) (fun _ => Ok.mk u0)))
omit hN in
theorem opens_t (l : List Tok) (i : Int) (h0 : 0 ≤ i) (h1 : i < l.length) : Ok (typecaseref11_opens N l i) fun y => U32 y.1.1.num ∧ 0 ≤ y.2.1 ∧ y.2.1 ≤ 2 := by
  have u0 : U32 0 := ⟨by omega, by omega⟩
  unfold typecaseref11_opens
  simp only [cond_and, cond_or, bindI_some]
  refine Ok.bind (Ok.geti h0 h1) fun y _ => ?_
  repeat' (first
    | (refine Ok.ite (fun _ => ?_) (fun _ => ?_))
    | exact Ok.mk ⟨u0, by simp only; omega, by simp only; omega⟩)
omit hN in
theorem deep_loop (l : List (Nod × Int × Bool)) (hl : l.length ≤ 1000) : ∀ (f : Nat) (n i : Int), 0 ≤ i → i ≤ l.length → (l.length : Int) < i + f → Ok (typecaseref11_deep_L0 N f ((l, n, i, ()), ())) fun _ => True
  | 0, n, i, h0, h, h' => by omega
  | f + 1, n, i, h0, h, h' => by
    rw [typecaseref11_deep_L0_succ]
    simp only [typecaseref11_deep_L0s]
    refine Ok.ite (fun hc => ?_) (fun _ => Ok.mk trivial)
    have hc := of_decide_eq_true hc
    refine Ok.bind (Ok.geti h0 hc) fun y _ => Ok.bindT (Ok.ite (fun _ => Ok.mk trivial) (fun _ => Ok.bind (Ok.geti h0 hc) fun _ _ => Ok.mk trivial)) fun y => ?_
    rw [wi64n (n := i + 1) (by omega) (by omega)]
    exact Ok.ite (fun _ => deep_loop l hl f _ (i + 1) (by omega) (by omega) (by omega)) (fun _ => deep_loop l hl f _ (i + 1) (by omega) (by omega) (by omega))
theorem deep_t (l : List (Nod × Int × Bool)) (hl : l.length ≤ 1000) : Ok (typecaseref11_deep N l) fun _ => True :=
  Ok.bindX (deep_loop N l hl N 0 0 (by omega) (by omega) (by omega)) (fun _ _ => Ok.mk trivial) (fun _ _ => Ok.mk trivial)
omit hN in
theorem two_loop (t : Tok) (marks : List (List UInt8)) (how : List Int) (hm : marks.length ≤ how.length) (hl : how.length ≤ 100) : ∀ (f : Nat) (i : Int), 0 ≤ i → i ≤ marks.length → (marks.length : Int) < i + f → Ok (typecaseref11_two_L0 N f ((marks, how, i, ()), (t, ()), ())) fun _ => True
  | 0, i, h0, h, h' => by omega
  | f + 1, i, h0, h, h' => by
    rw [typecaseref11_two_L0_succ]
    simp only [typecaseref11_two_L0s]
    refine Ok.ite (fun hc => ?_) (fun _ => Ok.mk trivial)
    have hc := of_decide_eq_true hc
    refine Ok.bindT (Ok.ite (fun _ => Ok.bind (Ok.geti h0 hc) fun _ _ => Ok.mk trivial) (fun _ => Ok.mk trivial)) fun y => Ok.ite (fun _ => Ok.bind (Ok.geti h0 (by omega)) fun _ _ => Ok.mk trivial) (fun _ => ?_)
    rw [wi64n (n := i + 1) (by omega) (by omega)]
    exact two_loop t marks how hm hl f (i + 1) (by omega) (by omega) (by omega)
theorem two_t (t : Tok) : Ok (typecaseref11_two N t) fun _ => True :=
  Ok.bindX (two_loop N t _ _ (by simp) (by simp) N 0 (by omega) (by simp) (by simp; omega)) (fun _ _ => Ok.mk trivial) (fun _ _ => Ok.mk trivial)

/-- Nodes that are right; what waits likewise. -/
def goodN (l : List Nod) : Prop := ∀ n ∈ l, U32 n.num
def goodW (l : List (Nod × Int × Bool)) : Prop := ∀ n ∈ l, U32 n.1.num
omit hN in
theorem goodN_snoc {l : List Nod} {n : Nod} (h : goodN l) (hn : U32 n.num) : goodN (l ++ [n]) := fun m hm => by
  rcases List.mem_append.1 hm with hm | hm
  · exact h m hm
  · rw [List.mem_singleton.1 hm]; exact hn
omit hN in
theorem goodW_snoc {l : List (Nod × Int × Bool)} {n : Nod × Int × Bool} (h : goodW l) (hn : U32 n.1.num) : goodW (l ++ [n]) := fun m hm => by
  rcases List.mem_append.1 hm with hm | hm
  · exact h m hm
  · rw [List.mem_singleton.1 hm]; exact hn
omit hN in
theorem goodW_take {l : List (Nod × Int × Bool)} (h : goodW l) (k : Nat) : goodW (l.take k) := fun m hm => h m (List.mem_of_mem_take hm)
omit hN in
theorem pop_loop (l : List Tok) (part : Bool) (i how kind : Int) (cl : Bool) (x2 : List Nod × List Tok × Int × Int × Int) : ∀ (f : Nat) (out : List Nod) (st : List (Nod × Int × Bool)), st.length < f → out.length + st.length ≤ 1000 → goodN out → goodW st →
    Ok (typecaseref11_Parse_L0 N f ((l, part, i, how, kind, cl, ()), ((x2.1, x2.2.1, x2.2.2.1, x2.2.2.2.1, x2.2.2.2.2), ()), out, st, ())) fun e => match e with
      | .out x => x.1 = (l, part, i, how, kind, cl, ()) ∧ x.2.1 = ((x2.1, x2.2.1, x2.2.2.1, x2.2.2.2.1, x2.2.2.2.2), ()) ∧ x.2.2.1.length + x.2.2.2.1.length = out.length + st.length ∧ goodN x.2.2.1 ∧ goodW x.2.2.2.1
      | .ret _ => False
  | 0, out, st, h, _, _, _ => by omega
  | f + 1, out, st, h, hl, hn, hw => by
    rw [typecaseref11_Parse_L0_succ]
    simp only [typecaseref11_Parse_L0s]
    by_cases h0 : 0 < st.length
    · have w : IntKind.i64.wrap ((st.length : Int) - 1) = ((st.length - 1 : Nat) : Int) := by rw [wi64n (by omega) (by omega)]; omega
      have g : Ok (geti st ((st.length - 1 : Nat) : Int)) fun y => y ∈ st := Ok.geti (by omega) (by omega)
      rw [decide_eq_true (show (0 : Int) < (st.length : Int) by omega), cond_true, w]
      refine Ok.bindT (Ok.bind g fun _ _ => Ok.mk trivial) fun y => Ok.bindT (Ok.ite (fun _ => Ok.bind g fun _ _ => Ok.mk trivial) (fun _ => Ok.mk trivial)) fun y => Ok.ite (fun _ => ?_) (fun _ => Ok.mk ⟨rfl, rfl, rfl, hn, hw⟩)
      refine Ok.bind g fun y hy => ?_
      refine Ok.tt (Nat.ble_eq_true_of_le (by simp only [List.length_append, List.length_cons, List.length_nil]; omega)) ?_
      refine Ok.tt (inC_of (by omega) (by omega)) ?_
      refine Ok.tt (Nat.ble_eq_true_of_le (by rw [List.length_take]; omega)) ?_
      have hlen : (out ++ [y.1]).length + (st.take ((st.length - 1 : Nat) : Int).toNat).length = out.length + st.length := by
        rw [Int.toNat_natCast, List.length_take, List.length_append, List.length_singleton]
        omega
      refine (pop_loop l part i how kind cl x2 f _ _ (by rw [Int.toNat_natCast, List.length_take]; omega) (by omega) (goodN_snoc hn (hw y hy)) (goodW_take hw _)).mono fun e he => ?_
      cases e with
      | out x =>
        obtain ⟨a1, a2, a3, a4, a5⟩ := he
        exact ⟨a1, a2, a3.trans hlen, a4, a5⟩
      | ret y => exact he
    · rw [decide_eq_false (show ¬ (0 : Int) < (st.length : Int) by omega), cond_false]
      simp only [bindI_some, cond_false]
      exact Ok.mk ⟨rfl, rfl, rfl, hn, hw⟩
theorem parse_loop (l : List Tok) (hl : l.length ≤ 900) (hg : ∀ t ∈ l, good t) (x2 : List Nod × List Tok × Int × Int × Int) : ∀ (f : Nat) (part : Bool) (i : Int) (out : List Nod) (st : List (Nod × Int × Bool)), 0 ≤ i → i ≤ l.length → (l.length : Int) < i + f → ((out.length + st.length : Nat) : Int) ≤ i → goodN out → goodW st →
    Ok (typecaseref11_Parse_L1 N f ((l, part, i, ()), ((x2.1, x2.2.1, x2.2.2.1, x2.2.2.2.1, x2.2.2.2.2), ()), out, st, ())) fun e => match e with
      | .out _ => False
      | .ret y => y.2.1.1.1.length ≤ 1000 ∧ goodN y.2.1.1.1
  | 0, part, i, out, st, _, _, h', _, _, _ => by omega
  | f + 1, part, i, out, st, h0, h1, h', hlen, hn, hw => by
    have u0 : U32 0 := ⟨by omega, by omega⟩
    have no : ∀ y : List Nod, y = [] → y.length ≤ 1000 ∧ goodN y := fun y h => by subst h; exact ⟨Nat.zero_le _, fun n hn => by cases hn⟩
    have wi : IntKind.i64.wrap (i + 1) = i + 1 := wi64n (by omega) (by omega)
    have hmono : ∀ {part i' out' st'}, i < i' → i' ≤ l.length → ((out'.length + st'.length : Nat) : Int) ≤ i' → goodN out' → goodW st' → Ok (typecaseref11_Parse_L1 N f ((l, part, i', ()), ((x2.1, x2.2.1, x2.2.2.1, x2.2.2.2.1, x2.2.2.2.2), ()), out', st', ())) fun e => match e with
      | .out _ => False
      | .ret y => y.2.1.1.1.length ≤ 1000 ∧ goodN y.2.1.1.1 := fun {part i' out' st'} a1 a2 a3 a4 a5 => parse_loop l hl hg x2 f part i' out' st' (by omega) a2 (by omega) a3 a4 a5
    rw [typecaseref11_Parse_L1_succ]
    simp only [typecaseref11_Parse_L1s]
    -- what comes behind the inner loop
    have behind : ∀ (how kind : Int) (cl : Bool), (0 < how → i < l.length) → (cl = true → i < l.length) → ∀ x : typecaseref11_Parse_L0o.D, (x.1 = (l, part, i, how, kind, cl, ()) ∧ x.2.1 = ((x2.1, x2.2.1, x2.2.2.1, x2.2.2.2.1, x2.2.2.2.2), ()) ∧ x.2.2.1.length + x.2.2.2.1.length = out.length + st.length ∧ goodN x.2.2.1 ∧ goodW x.2.2.2.1) → True := fun _ _ _ _ _ _ _ => trivial
    refine Ok.ite (fun _ => ?_) (fun _ => ?_)
    · refine Ok.ite (fun _ => Ok.bind (at_ok N l i 6 h0 (by omega)) fun y hy => Ok.mk (no _ hy)) (fun hlt => ?_)
      have hlt := of_decide_eq_false hlt
      refine Ok.bind (Ok.geti h0 (by omega)) fun t ht => ?_
      refine Ok.bind (leaf_t N hN _ (hg t ht)) fun y1 hy1 => Ok.bind (opens_t N l i h0 (by omega)) fun y2 hy2 => ?_
      refine Ok.ite (fun _ => ?_) (fun _ => Ok.ite (fun _ => Ok.bind (at_ok N l i 6 h0 (by omega)) fun y hy => Ok.mk (no _ hy)) (fun hz => ?_))
      · refine Ok.tt (Nat.ble_eq_true_of_le (by simp only [List.length_append, List.length_cons, List.length_nil]; omega)) ?_
        rw [wi]
        exact hmono (by omega) (by omega) (by simp only [List.length_append, List.length_cons, List.length_nil]; omega) (goodN_snoc hn hy1) hw
      have hz := of_decide_eq_false hz
      refine Ok.bindT (deep_t N hN st (by omega)) fun dd => Ok.ite (fun _ => Ok.bind (at_ok N l i 14 h0 (by omega)) fun y hy => Ok.mk (no _ hy)) (fun _ => ?_)
      have push : i + y2.2.1 ≤ l.length → Ok (bif (st ++ [((⟨y2.1.1.kind, y2.1.1.line, y2.1.1.col, y2.1.1.num, y2.1.1.name⟩ : Nod), y2.1.2.1, y2.1.2.2)]).length.ble 4294967296 then
            typecaseref11_Parse_L1 N f ((l, part, IntKind.i64.wrap (i + y2.2.1), ()), ((x2.1, x2.2.1, x2.2.2.1, x2.2.2.2.1, x2.2.2.2.2), ()), out, st ++ [((⟨y2.1.1.kind, y2.1.1.line, y2.1.1.col, y2.1.1.num, y2.1.1.name⟩ : Nod), y2.1.2.1, y2.1.2.2)], ())
          else none) fun e => match e with
          | .out _ => False
          | .ret y => y.2.1.1.1.length ≤ 1000 ∧ goodN y.2.1.1.1 := fun hle => by
        refine Ok.tt (Nat.ble_eq_true_of_le (by simp only [List.length_append, List.length_cons, List.length_nil]; omega)) ?_
        rw [wi64n (by omega) (by omega)]
        exact hmono (by omega) hle (by simp only [List.length_append, List.length_cons, List.length_nil]; omega) hn (goodW_snoc hw hy2.1)
      by_cases h2 : y2.2.1 = 2
      · rw [decide_eq_true h2, cond_true, wi]
        by_cases h3 : (l.length : Int) ≤ i + 1
        · rw [decide_eq_true h3, cond_true]
          simp only [bindI_some, cond_true]
          exact Ok.bind (at_ok N l (i + 1) 6 (by omega) (by omega)) fun y hy => Ok.mk (no _ hy)
        · rw [decide_eq_false h3, cond_false]
          have g : Ok (geti l (i + 1)) fun _ => True := (Ok.geti (by omega) (by omega)).mono fun _ _ => trivial
          refine Ok.bindT (Ok.bindT (Ok.bindT g fun _ => Ok.mk trivial) fun y => Ok.bindT (Ok.ite (fun _ => Ok.mk trivial) (fun _ => Ok.bindT g fun _ => Ok.mk trivial)) fun _ => Ok.mk trivial) fun y => Ok.ite (fun _ => ?_) (fun _ => push (by omega))
          exact Ok.bind (at_ok N l (i + 1) 6 (by omega) (by omega)) fun y hy => Ok.mk (no _ hy)
      · rw [decide_eq_false h2, cond_false]
        simp only [bindI_some, cond_false]
        exact push (by omega)
    · refine Ok.ite (fun hlt => ?_) (fun hlt => ?_)
      · have hlt := of_decide_eq_true hlt
        have g : Ok (geti l i) fun _ => True := (Ok.geti h0 hlt).mono fun _ _ => trivial
        refine Ok.bindT g fun t => Ok.bindT (two_t N hN _) fun tw => Ok.bindT g fun t2 => Ok.bindT (Ok.ite (fun _ => Ok.bindT g fun _ => Ok.mk trivial) (fun _ => Ok.mk trivial)) fun cl => ?_
        refine Ok.bindX (pop_loop N l part i tw.1 tw.2.1 cl x2 N out st (by omega) (by omega) hn hw) (fun x hx => ?_) (fun _ h => h.elim)
        obtain ⟨⟨xa, xp, xi, xh, xk, xc, xu⟩, ⟨xx, xu2⟩, xo, xs, xu3⟩ := x
        obtain ⟨a1, a2, a3, a4, a5⟩ := hx
        cases a1
        cases a2
        simp only at a3 a4 a5 ⊢
        refine Ok.ite (fun _ => ?_) (fun _ => ?_)
        · refine Ok.bindT g fun _ => Ok.bindT g fun _ => Ok.tt (Nat.ble_eq_true_of_le (by simp only [List.length_append, List.length_cons, List.length_nil]; omega)) ?_
          rw [wi]
          exact hmono (by omega) (by omega) (by simp only [List.length_append, List.length_cons, List.length_nil]; omega) a4 (goodW_snoc a5 u0)
        · refine Ok.ite (fun _ => Ok.tt (inC_of h0 h1) (Ok.mk ⟨by simp only; omega, a4⟩)) (fun hne => Ok.ite (fun _ => Ok.bind (at_ok N l i 6 h0 (by omega)) fun y hy => Ok.mk (no _ hy)) (fun _ => ?_))
          have hne := of_decide_eq_false hne
          have w : IntKind.i64.wrap ((xs.length : Int) - 1) = ((xs.length - 1 : Nat) : Int) := by rw [wi64n (by omega) (by omega)]; omega
          rw [w, wi, Int.toNat_natCast]
          refine Ok.bind (Ok.geti (by omega) (by omega)) fun y hy => Ok.tt (inC_of (by omega) (by omega)) (Ok.tt (Nat.ble_eq_true_of_le (by rw [List.length_take]; omega)) (Ok.ite (fun _ => ?_) (fun _ => ?_)))
          · refine Ok.tt (Nat.ble_eq_true_of_le (by simp only [List.length_append, List.length_cons, List.length_nil]; omega)) ?_
            exact hmono (by omega) (by omega) (by simp only [List.length_append, List.length_take, List.length_cons, List.length_nil]; omega) (goodN_snoc a4 (a5 y hy)) (goodW_take a5 _)
          · exact hmono (by omega) (by omega) (by simp only [List.length_take]; omega) a4 (goodW_take a5 _)
      · have hlt := of_decide_eq_false hlt
        refine Ok.bindX (pop_loop N l part i 0 0 false x2 N out st (by omega) (by omega) hn hw) (fun x hx => ?_) (fun _ h => h.elim)
        obtain ⟨⟨xa, xp, xi, xh, xk, xc, xu⟩, ⟨xx, xu2⟩, xo, xs, xu3⟩ := x
        obtain ⟨a1, a2, a3, a4, a5⟩ := hx
        cases a1
        cases a2
        simp only at a3 a4 a5 ⊢
        rw [decide_eq_false (show ¬ (0 : Int) < 0 by omega), cond_false]
        refine Ok.ite (fun _ => Ok.tt (inC_of h0 h1) (Ok.mk ⟨by simp only; omega, a4⟩)) (fun hne => ?_)
        simp only [Bool.not_false, cond_true]
        exact Ok.bind (at_ok N l i 6 h0 (by omega)) fun y hy => Ok.mk (no _ hy)
theorem parse_ok (l : List Tok) (hl : l.length ≤ 900) (hg : ∀ t ∈ l, good t) : Ok (typecaseref11_Parse N l) fun y => y.1.1.length ≤ 1000 ∧ goodN y.1.1 := by
  refine Ok.bindX (parse_loop N hN l hl hg ([], [], 0, 0, 0) N true 0 [] [] (by omega) (by omega) (by omega) (by simp) (fun n hn => by cases hn) (fun n hn => by cases hn)) (fun _ h => h.elim) (fun y hy => Ok.mk hy)
end
end Go.Proofs.YtppobdnacmdgbaaDoor
