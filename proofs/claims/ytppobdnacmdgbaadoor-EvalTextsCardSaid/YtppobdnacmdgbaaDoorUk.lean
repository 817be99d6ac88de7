/- Up, part k: contracts; steps of a state; appending, cell by cell. -/
import Derived.Test.YtppobdnacmdgbaaDoorUj
import Derived.WalkLawsBesides
set_option linter.unusedVariables false
set_option linter.unusedSimpArgs false
namespace Go.Up
open Go.RowKit

/-- What a step keeps and makes. -/
structure Step [GTab] (E : Env) (h : AH) (w : World) (E' : Env) (h' : AH) (w' : World) : Prop where
  ext : Ext E h.n E'
  rel : HRel E' h' w'
  ok : h'.ok
  le : h.n ≤ h'.n
  keep : Keep E h.n w w'
  fr : Fr E h.n w E' h'.n
  gr : Gr E h.n w E'

theorem Step.refl [GTab] {E : Env} {h : AH} {w : World} (hh : HRel E h w) (hok : h.ok) : Step E h w E h w := ⟨.refl _ _, hh, hok, Nat.le_refl _, .refl _ _ _, .refl _ _ _, .refl _ _ _⟩

def ACall [GTab] (P : Program) (f : FuncId) (h : AH) (args : List AV) (Q : AV → AH → Prop) : Prop :=
  (∀ (vs : Array Value) (w : World), (callFunc f vs).run P w = .ok (.enter f vs) w) ∧
  ∀ (E : Env) (w : World) (vs : List Value), HRel E h w → h.ok → Rels E args vs → (∀ (i : Nat) (x : AV), args[i]? = some x → Lt h.n x) →
    Calls P f vs.toArray w fun e w' => ∃ v r h' E', e = .returned v ∧ Q r h' ∧ Step E h w E' h' w' ∧ Rel E' r v ∧ Lt h'.n r

theorem ACall.mono [GTab] {P : Program} {f : FuncId} {h : AH} {args : List AV} {Q Q' : AV → AH → Prop} (hc : ACall P f h args Q) (hq : ∀ r h', Q r h' → Q' r h') : ACall P f h args Q' :=
  ⟨hc.1, fun E w vs a b c d => (hc.2 E w vs a b c d).mono fun e w' ⟨v, r, h', E', h1, h2, h3⟩ => ⟨v, r, h', E', h1, hq _ _ h2, h3⟩⟩

section
variable {E0 : Env} {n0 : NB} {w0 : World} {nt : Nat} {E : Env} {σ : St} {a : Act} {w : World}
theorem SRel.ok [GTab] (h : SRel E0 n0 w0 nt E σ a w) : σ.h.ok := h.blt
theorem SRel.step [GTab] (h : SRel E0 n0 w0 nt E σ a w) {E' : Env} {h' : AH} {w' : World} {r : AV} {v : Value} {d : Option Tmp}
    (hs : Step E σ.h w E' h' w') (hd : okDst nt d = true) (hr : Rel E' r v) (hl : Lt h'.n r) : SRel E0 n0 w0 nt E' (({ σ with h := h' } : St).put d r) (a.put d v) w' := by
  have h2 : SRel E0 n0 w0 nt E' ({ σ with h := h' } : St) a w' :=
    { tm := fun i => (h.tm i).mono (h.lt i) hs.ext
      lt := fun i => (h.lt i).mono hs.le
      blt := hs.ok
      sz := h.sz
      df := h.df
      hr := hs.rel
      ex := h.ex.trans hs.ext h.nn
      kp := h.kp.trans hs.keep h.fr
      fr := FrB.trans (w' := w') h.fr hs.fr h.kp.size
      gr := GrB.trans h.gr hs.gr h.fr h.kp.size
      nn := Nat.le_trans h.nn hs.le }
  exact h2.put hd hr hl
theorem SRel.ops [GTab] (h : SRel E0 n0 w0 nt E σ a w) (xs : Array Operand) : Ops E σ.h.n (Up.ev σ) a.eval xs := ⟨fun x _ => h.ev x, fun x _ => h.evlt x⟩
end

/-- Where an operation lands. -/
def Lands (P : Program) (vals : Operand → Value) (o : Oper) (w : World) (R : Value → World → Prop) : Prop :=
  match (execOp vals o).run P w with
  | .ok (.value v) w' => R v w'
  | .ok .skip w' => R undef w'
  | .ok (.enter f args) w' => Calls P f args w' fun e w'' => ∃ v, e = .returned v ∧ R v w''
  | _ => False
theorem Lands.wp {P : Program} {o : Oper} {a : Act} {w : World} {R : Value → World → Prop} {next : Act → World → Prop} {Q : Exit → Act → World → Prop} (h : Lands P a.eval o w R) (hn : ∀ v w', R v w' → next (a.put o.dst v) w') : o.wp P a w next Q := by
  unfold Lands at h
  unfold Oper.wp
  split at h
  · rename_i he; rw [he]; exact hn _ _ h
  · rename_i he; rw [he]; exact hn _ _ h
  · rename_i he
    rw [he]
    simp only [Oper.upon]
    exact h.mono fun e w'' ⟨v, h1, h2⟩ => by subst h1; exact hn _ _ h2
  · exact h.elim

/-- What an operation does to the abstract heap, and yields. -/
def ImpS [GTab] (P : Program) (h : AH) (e : Operand → AV) (op : Op) (h' : AH) (y : AV) : Prop :=
  ∀ (E : Env) (w : World) (vals : Operand → Value), HRel E h w → h.ok → Ops E h.n e vals op.operands → ∀ o : Oper, o.op = op → Lands P vals o w fun v w' => ∃ E', Step E h w E' h' w' ∧ Rel E' y v ∧ Lt h'.n y
theorem YO.imp [GTab] {P : Program} {h : AH} {e : Operand → AV} {op : Op} {y : AV} (hy : YO P h e op y) : ImpS P h e op h y := by
  intro E w vals hh hok hO o hop
  obtain ⟨v, h1, h2, h3⟩ := hy h.n E w vals hh hok hO o hop
  unfold Lands
  rw [h1]
  exact ⟨E, .refl hh hok, h2, h3⟩

/-! ### Appending, cell by cell -/
section
variable {P : Program} {w : World} {t ty e : TypeId} {size bytes : Nat}
def valRow (size : Nat) (us : Nat → Value) : List AV := (List.range size).map fun j => .p (us j)
def valRows (size n : Nat) (us : Nat → Nat → Value) : List (List AV) := (List.range n).map fun i => valRow size (us i)
theorem valRows_len (size n : Nat) (us : Nat → Nat → Value) : (valRows size n us).length = n := by simp [valRows]
theorem valRows_get {size n : Nat} {us : Nat → Nat → Value} {i j : Nat} {el : List AV} {x : AV} (hi : (valRows size n us)[i]? = some el) (hj : el[j]? = some x) : i < n ∧ j < size ∧ x = .p (us i j) := by
  simp only [valRows, List.getElem?_map] at hi
  obtain ⟨i', hi', rfl⟩ := Option.map_eq_some_iff.1 hi
  obtain ⟨h1, h2⟩ := List.getElem?_eq_some_iff.1 hi'
  simp only [List.getElem_range, List.length_range] at h1 h2
  subst h2
  simp only [valRow, List.getElem?_map] at hj
  obtain ⟨j', hj', rfl⟩ := Option.map_eq_some_iff.1 hj
  obtain ⟨h3, h4⟩ := List.getElem?_eq_some_iff.1 hj'
  simp only [List.getElem_range, List.length_range] at h3 h4
  subst h4
  exact ⟨h1, h3, rfl⟩
theorem valRows_at {size n : Nat} {us : Nat → Nat → Value} {i j : Nat} (hi : i < n) (hj : j < size) : ∃ el, (valRows size n us)[i]? = some el ∧ el[j]? = some (.p (us i j)) := by
  refine ⟨valRow size (us i), by simp [valRows, hi], by simp [valRow, hj]⟩
/-- The cells of a slice, as they lie. -/
structure Lie (w : World) (size n : Nat) (us : Nat → Nat → Value) (a : Option Addr) : Prop where
  nil : a = none → n = 0
  cell : ∀ ad i j, a = some ad → i < n → j < size → w.cell? (ad.add (i * size + j)) = some (us i j)
theorem Lie.prel [GTab] {n c : Nat} {us : Nat → Nat → Value} {a : Option Addr} (hl : Lie w size n us a) (h1 : n ≤ c) (h2 : c ≤ maxLen) (h3 : a = none → c = 0) : PRel w.cell? (.sl size (valRows size n us) none) (.slice a n c) := by
  refine .sl us (valRows_len ..).symm h1 h2 (fun _ hk => by cases hk) (fun el hel => ?_) (fun ha => ⟨?_, h3 ha⟩) (fun ad i j el x ha hi hj => ?_) (fun i j el x hi hj => ?_)
  · simp only [valRows, List.mem_map] at hel
    obtain ⟨i, _, rfl⟩ := hel
    simp [valRow]
  · have := hl.nil ha; subst this; rfl
  · obtain ⟨h4, h5, _⟩ := valRows_get hi hj
    exact hl.cell ad i j ha h4 h5
  · obtain ⟨_, _, rfl⟩ := valRows_get hi hj
    exact .p _
theorem val_append [GTab] {us ys : Nat → Nat → Value} {n m i j : Nat} (hj : j < size) : (i < n → ∃ el, (valRows size n us ++ valRows size m ys)[i]? = some el ∧ el[j]? = some (.p (us i j))) ∧ (i < m → ∃ el, (valRows size n us ++ valRows size m ys)[n + i]? = some el ∧ el[j]? = some (.p (ys i j))) := by
  constructor
  · intro hi
    obtain ⟨el, h1, h2⟩ := valRows_at (us := us) hi hj
    exact ⟨el, by rw [List.getElem?_append_left (by rw [valRows_len]; exact hi)]; exact h1, h2⟩
  · intro hi
    obtain ⟨el, h1, h2⟩ := valRows_at (us := ys) hi hj
    exact ⟨el, by rw [List.getElem?_append_right (by rw [valRows_len]; omega), valRows_len, Nat.add_sub_cancel_left]; exact h1, h2⟩

theorem app_grow [GTab] (ht : tz P t = some (e, size, bytes)) {us ys : Nat → Nat → Value} {a b : Option Addr} {n c m d : Nat} (h1 : Lie w size n us a) (h2 : Lie w size m ys b) (hc1 : n ≤ c) (hc2 : c ≤ maxLen) (hc3 : a = none → c = 0) (hd1 : m ≤ d) (hd2 : d ≤ maxLen) (hd3 : b = none → d = 0)
    (hg : c < n + m) (hbytes : (n + m) * bytes ≤ 140737488355328) (h63 : n + m ≤ maxLen) :
    ∃ cap' cur, (Builtin.append_ #[t, t] ty #[.slice a n c, .slice b m d]).run P w = .ok (.slice (some ⟨w.heap.size, 0, none⟩) (n + m) cap') (w.drew.alloc (.cells cur e)) ∧ n + m ≤ cap' ∧ cap' ≤ maxLen ∧ cur.size = cap' * size ∧
      (∀ i j, i < n → j < size → cur[i * size + j]? = some (us i j)) ∧ (∀ i j, i < m → j < size → cur[(n + i) * size + j]? = some (ys i j)) := by
  obtain ⟨cap', cur, k1, k2, k3, k4, k5⟩ := append_grow (P := P) (w := w) (ty := ty) ht (fun _ _ h => h) (h1.prel hc1 hc2 hc3) (h2.prel hd1 hd2 hd3) hg hbytes h63
  refine ⟨cap', cur, k1, k2, k3, k4, fun i j hi hj => ?_, fun i j hi hj => ?_⟩
  · obtain ⟨el, q1, q2⟩ := (val_append (us := us) (ys := ys) (n := n) (m := m) (i := i) hj).1 hi
    obtain ⟨u, q3, q4⟩ := k5 i j el _ q1 q2
    cases q4
    exact q3
  · obtain ⟨el, q1, q2⟩ := (val_append (us := us) (ys := ys) (n := n) (m := m) (i := i) hj).2 hi
    obtain ⟨u, q3, q4⟩ := k5 (n + i) j el _ q1 q2
    cases q4
    exact q3
theorem app_room [GTab] (ht : tz P t = some (e, size, bytes)) {us ys : Nat → Nat → Value} {b : Option Addr} {g n c m d : Nat} {cur : Array Value} {T : TypeId} (h1 : Lie w size n us (some ⟨g, 0, none⟩)) (h2 : Lie w size m ys b) (hc1 : n ≤ c) (hc2 : c ≤ maxLen) (hd1 : m ≤ d) (hd2 : d ≤ maxLen) (hd3 : b = none → d = 0)
    (hm : 0 < m) (hroom : n + m ≤ c) (hheap : w.heap[g]? = some (.cells cur T (0, 0))) (hsz : cur.size = c * size) (hone : ∀ i j, i < m → j < size → (ys i j).oneCell' = true) :
    ∃ cur', (Builtin.append_ #[t, t] ty #[.slice (some ⟨g, 0, none⟩) n c, .slice b m d]).run P w = .ok (.slice (some ⟨g, 0, none⟩) (n + m) c) (w.setRow g cur') ∧ cur'.size = c * size ∧
      (∀ j, j < n * size → cur'[j]? = cur[j]?) ∧ (∀ i j, i < m → j < size → cur'[(n + i) * size + j]? = some (ys i j)) := by
  obtain ⟨cur', k1, k2, k3, k4, k5⟩ := append_room (P := P) (w := w) (ty := ty) ht (fun _ _ h => h) (h1.prel hc1 hc2 (fun h => by cases h)) (h2.prel hd1 hd2 hd3) hm hroom hheap hsz (fun el hel x hx => by
    obtain ⟨i, hi⟩ := List.getElem?_of_mem hel
    obtain ⟨j, hj⟩ := List.getElem?_of_mem hx
    obtain ⟨q1, q2, rfl⟩ := valRows_get hi hj
    have := hone i j q1 q2
    cases hv : ys i j <;> first | rfl | (rw [hv] at this; simp [Value.oneCell'] at this))
  refine ⟨cur', k1, k2, k3, fun i j hi hj => ?_⟩
  obtain ⟨el, q1, q2⟩ := (val_append (us := us) (ys := ys) (n := n) (m := m) (i := i) hj).2 hi
  obtain ⟨u, q3, q4⟩ := k5 (n + i) j el _ q1 q2
  cases q4
  exact q3
/-- A list of plain data, as it lies. -/
theorem lie_of_prel {S : Addr → Option Value} {τ : Ty} {l : List (El τ)} {cap : Option Nat} {a : Option Addr} {n c : Nat} (hS : ∀ a v, S a = some v → w.cell? a = some v) (hp : PRel S (.sl (sz τ) (l.map (enc τ)) cap) (.slice a n c)) :
    n = l.length ∧ n ≤ c ∧ c ≤ maxLen ∧ (a = none → c = 0) ∧ ∃ us, Lie w (sz τ) n us a ∧ ∀ (i j : Nat) (y : El τ) (x : AV), l[i]? = some y → (enc τ y)[j]? = some x → PRel S x (us i j) := by
  cases hp with
  | sl us h1 h2 h3 h4 h5 h6 h7 h8 =>
    rw [List.length_map] at h1
    have get : ∀ i j, i < n → j < sz τ → ∃ e x, (l.map (enc τ))[i]? = some e ∧ e[j]? = some x := fun i j hi hj => by
      have hi' : i < l.length := by omega
      exact ⟨enc τ l[i], (enc τ l[i])[j]'(by rw [enc_length]; exact hj), by simp [hi'], List.getElem?_eq_getElem _⟩
    refine ⟨h1, h2, h3, fun ha => (h6 ha).2, us, ⟨fun ha => ?_, fun ad i j ha hi hj => ?_⟩, fun i j y x hy hx => ?_⟩
    · have := congrArg List.length (h6 ha).1
      rw [List.length_map, List.length_nil] at this
      omega
    · obtain ⟨e, x, q1, q2⟩ := get i j hi hj
      exact hS _ _ (h7 ad i j e x ha q1 q2)
    · exact h8 i j (enc τ y) x (by simp [hy]) hx
theorem enc_one (τ : Ty) (y : El τ) : ∀ x ∈ enc τ y, one x = true := by
  have ef : ∀ tc e, one (encF tc e) = true := fun tc e => by cases e <;> rfl
  have ee : ∀ tf tc e, one (encE tf tc e) = true := fun tf tc e => by cases e <;> rfl
  induction τ with
  | pair a b iha ihb =>
    intro x hx
    simp only [enc, List.mem_append] at hx
    rcases hx with hx | hx
    · exact iha _ x hx
    · exact ihb _ x hx
  | flt tc => intro x hx; simp only [enc, List.mem_singleton] at hx; subst hx; exact ef _ _
  | err tf tc => intro x hx; simp only [enc, List.mem_singleton] at hx; subst hx; exact ee _ _ _
  | _ =>
    intro x hx
    simp only [enc, List.mem_cons, List.not_mem_nil, or_false] at hx
    first
      | (subst hx; rfl)
      | (rcases hx with hx | hx <;> subst hx <;> rfl)
      | (rcases hx with hx | hx | hx <;> subst hx <;> rfl)
      | (rcases hx with hx | hx | hx | hx | hx <;> subst hx <;> rfl)
      | (rcases hx with hx | hx | hx | hx | hx | hx <;> subst hx <;> rfl)
      | (rcases hx with hx | hx | hx | hx | hx | hx | hx | hx | hx | hx | hx | hx | hx | hx | hx <;> subst hx <;> rfl)
theorem ones_of [GTab] {S : Addr → Option Value} {τ : Ty} {l : List (El τ)} {us : Nat → Nat → Value} (h : ∀ (i j : Nat) (y : El τ) (x : AV), l[i]? = some y → (enc τ y)[j]? = some x → PRel S x (us i j)) : ∀ i j, i < l.length → j < sz τ → (us i j).oneCell' = true := fun i j hi hj => by
  have hx : (enc τ l[i])[j]? = some ((enc τ l[i])[j]'(by rw [enc_length]; exact hj)) := List.getElem?_eq_getElem _
  exact one_prel (h i j l[i] _ (List.getElem?_eq_getElem hi) hx) (enc_one τ _ _ (List.getElem_mem _))
end
end Go.Up
