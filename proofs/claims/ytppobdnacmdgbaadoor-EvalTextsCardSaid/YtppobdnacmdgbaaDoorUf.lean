/- Up, part f: objects: new ones, such as turn, such as are forgotten; a slice's cells; appending. -/
import Derived.Test.YtppobdnacmdgbaaDoorUe
set_option linter.unusedVariables false
set_option linter.unusedSimpArgs false
namespace Go.Up
open Go.RowKit

def upd (f : Nat → Option AO) (i : Nat) (x : Option AO) : Nat → Option AO := fun j => if j = i then x else f j
theorem upd_same (f : Nat → Option AO) (i : Nat) (x : Option AO) : upd f i x i = x := by simp [upd]
theorem upd_other (f : Nat → Option AO) {i j : Nat} (x : Option AO) (h : j ≠ i) : upd f i x j = f j := by simp [upd, h]
def AH.new (h : AH) (x : AO) : AH := { o := upd h.o h.n (some x), n := h.n + 1, g := h.g }
def AH.set (h : AH) (id : Nat) (x : Option AO) : AH := { o := upd h.o id x, n := h.n, g := h.g }

def AO.lt (n : Nat) : AO → Prop
  | .box l => ∀ (i : Nat) (x : AV), l[i]? = some x → Lt n x
  | _ => True
theorem AH.ok_lt {h : AH} (hok : h.ok) {id : Nat} {x : AO} (hid : id < h.n) (ho : h.o id = some x) : x.lt h.n := by
  cases x with
  | box l => exact fun i y hy => hok id l i y hid ho hy
  | _ => trivial
theorem AO.lt.mono [GTab] {n m : Nat} {x : AO} (h : x.lt n) (hn : n ≤ m) : x.lt m := by
  cases x with
  | box l => exact fun i y hy => (h i y hy).mono hn
  | _ => trivial

/-- Cells of one block become known for good. -/
def Env.addS (E : Env) (b lo hi : Nat) (cs : Array Value) : Env := { E with S := fun a => if a.block = b ∧ a.spot = none ∧ lo ≤ a.off ∧ a.off < hi then cs[a.off]? else E.S a }

/-- What an object stands for stays, if its block does. -/
theorem ORel.keep [GTab] {E E' : Env} {n : Nat} {w w' : World} {eo : EO} {x : AO} (h : ORel E w eo x) (hext : Ext E n E') (hx : x.lt n)
    (hb : ∀ b, eo.blk = some b → w'.heap[b]? = w.heap[b]? ∧ ∀ a, a.block = b → E'.S a = E.S a) : ORel E' w' eo x := by
  cases x with
  | box l =>
    obtain ⟨b, cs, T, rfl, h2, h3, h4⟩ := h
    obtain ⟨g1, g2⟩ := hb b rfl
    exact ⟨b, cs, T, rfl, g1.trans h2, h3.mono hx hext, fun a ha => (g2 a ha).trans (h4 a ha)⟩
  | trow t l =>
    obtain ⟨base, cap, rfl, h2, h3⟩ := h
    refine ⟨base, cap, rfl, h2.mono hext.S, fun hlt => ?_⟩
    obtain ⟨b, cur, T, rfl, k2, k3, k4⟩ := h3 hlt
    obtain ⟨g1, g2⟩ := hb b (by simp [EO.blk, hlt])
    exact ⟨b, cur, T, rfl, g1.trans k2, k3, fun j hj => (g2 _ rfl).trans (k4 j hj)⟩
  | tarr t l =>
    obtain ⟨b, cap, rfl, h2, h3, h4⟩ := h
    refine ⟨b, cap, rfl, h2, h3, fun hp => ?_⟩
    obtain ⟨cur, T, h4, h5, h6, h7⟩ := h4 hp
    obtain ⟨g1, g2⟩ := hb b (by simp [EO.blk, hp])
    refine ⟨cur, T, g1.trans h4, h5, fun a ha => (g2 a ha).trans (h6 a ha), fun i j y x hy hx => ?_⟩
    obtain ⟨v, k1, k2⟩ := h7 i j y x hy hx
    exact ⟨v, k1, k2.mono hext.S⟩
  | tmap kt vt l =>
    obtain ⟨b, es, clk, rfl, h2, h3, h4⟩ := h
    obtain ⟨g1, g2⟩ := hb b rfl
    refine ⟨b, es, clk, rfl, g1.trans h2, h3, fun i y e hy he => ?_⟩
    obtain ⟨⟨x, k1, k2⟩, z, k3, k4⟩ := h4 i y e hy he
    exact ⟨⟨x, k1, k2.mono hext.S⟩, z, k3, k4.mono hext.S⟩

/-- A new object. -/
theorem HRel.new [GTab] {E : Env} {h : AH} {w w' : World} {x : AO} {eo : EO} {S' : Addr → Option Value} (hh : HRel E h w) (hok : h.ok)
    (hS : ∀ a v, E.S a = some v → S' a = some v) (hcells : ∀ a v, S' a = some v → w'.cell? a = some v) (hsz : w.heap.size ≤ w'.heap.size)
    (hold : ∀ j b, j < h.n → h.o j ≠ none → (E.obj j).blk = some b → w'.heap[b]? = w.heap[b]? ∧ ∀ a, a.block = b → S' a = E.S a)
    (hfree : ∀ j b, j < h.n → h.o j ≠ none → (E.obj j).blk = some b → eo.blk ≠ some b) (hlt : ∀ b, eo.blk = some b → b < w'.heap.size)
    (hx : Ext E h.n { S := S', obj := fun j => if j = h.n then eo else E.obj j } → ORel { S := S', obj := fun j => if j = h.n then eo else E.obj j } w' eo x) (hxl : x.lt (h.n + 1)) :
    HRel { S := S', obj := fun j => if j = h.n then eo else E.obj j } (h.new x) w' ∧ Ext E h.n { S := S', obj := fun j => if j = h.n then eo else E.obj j } ∧ (h.new x).ok := by
  have hext : Ext E h.n { S := S', obj := fun j => if j = h.n then eo else E.obj j } := by
    refine ⟨hS, fun j b hj hb => ?_, fun j b c s ln hj hb => ?_, fun j b hj hb => ?_, fun j base cap tip size hj hr => ?_⟩ <;> (simp only []; rw [if_neg (by omega)]; assumption)
  refine ⟨⟨hcells, fun id y hid ho => ?_, fun g hg j y hy => ?_, fun i j b hi hj hi0 hj0 hbi hbj => ?_, fun i b hi hb => ?_⟩, hext, fun id l i y hid ho hy => ?_⟩
  · simp only [AH.new] at hid ho ⊢
    by_cases he : id = h.n
    · subst he
      rw [upd_same] at ho
      cases ho
      rw [if_pos rfl]
      exact hx hext
    · rw [upd_other _ _ he] at ho
      rw [if_neg he]
      have hid' : id < h.n := by omega
      exact (hh.obj id y hid' ho).keep hext (AH.ok_lt hok hid' ho) (fun b hb => hold id b hid' (by rw [ho]; simp) hb)
  · obtain ⟨v, h1, h2⟩ := hh.glo g hg j y hy
    exact ⟨v, hS _ _ h1, h2.mono hS⟩
  · simp only [AH.new] at hi hj hi0 hj0 hbi hbj
    by_cases hi' : i = h.n
    · by_cases hj' : j = h.n
      · omega
      · rw [if_pos hi'] at hbi
        rw [if_neg hj'] at hbj
        rw [upd_other _ _ hj'] at hj0
        exact absurd hbi (hfree j b (by omega) hj0 hbj)
    · rw [if_neg hi'] at hbi
      rw [upd_other _ _ hi'] at hi0
      by_cases hj' : j = h.n
      · rw [if_pos hj'] at hbj
        exact absurd hbj (hfree i b (by omega) hi0 hbi)
      · rw [if_neg hj'] at hbj
        rw [upd_other _ _ hj'] at hj0
        exact hh.inj i j b (by omega) (by omega) hi0 hj0 hbi hbj
  · simp only [AH.new] at hi hb
    by_cases hi' : i = h.n
    · rw [if_pos hi'] at hb; exact hlt b hb
    · rw [if_neg hi'] at hb
      exact Nat.lt_of_lt_of_le (hh.lt i b (by omega) hb) hsz
  · simp only [AH.new] at hid ho ⊢
    by_cases he : id = h.n
    · subst he
      rw [upd_same] at ho
      cases ho
      exact hxl i y hy
    · rw [upd_other _ _ he] at ho
      exact (hok id l i y (by omega) ho hy).mono (by omega)

/-- An object that turns, or is forgotten. -/
theorem HRel.set [GTab] {E : Env} {h : AH} {w w' : World} {c : Nat} {x : Option AO} {S' : Addr → Option Value} (hh : HRel E h w) (hok : h.ok)
    (hS : ∀ a v, E.S a = some v → S' a = some v) (hcells : ∀ a v, S' a = some v → w'.cell? a = some v) (hsz : w.heap.size ≤ w'.heap.size)
    (hold : ∀ j b, j < h.n → j ≠ c → h.o j ≠ none → (E.obj j).blk = some b → w'.heap[b]? = w.heap[b]? ∧ ∀ a, a.block = b → S' a = E.S a)
    (hc : x ≠ none → h.o c ≠ none) (hx : ∀ y, x = some y → Ext E h.n { E with S := S' } → ORel { E with S := S' } w' (E.obj c) y) (hxl : ∀ y, x = some y → y.lt h.n) :
    HRel { E with S := S' } (h.set c x) w' ∧ Ext E h.n { E with S := S' } ∧ (h.set c x).ok := by
  have hext : Ext E h.n { E with S := S' } := ⟨hS, fun _ _ _ h => h, fun _ _ _ _ _ _ h => h, fun _ _ _ h => h, fun _ _ _ _ _ _ h => h⟩
  refine ⟨⟨hcells, fun id y hid ho => ?_, fun g hg j y hy => ?_, fun i j b hi hj hi0 hj0 hbi hbj => ?_, fun i b hi hb => ?_⟩, hext, fun id l i y hid ho hy => ?_⟩
  · simp only [AH.set] at hid ho ⊢
    by_cases he : id = c
    · subst he
      rw [upd_same] at ho
      exact hx y ho hext
    · rw [upd_other _ _ he] at ho
      exact (hh.obj id y hid ho).keep hext (AH.ok_lt hok hid ho) (fun b hb => hold id b hid he (by rw [ho]; simp) hb)
  · obtain ⟨v, h1, h2⟩ := hh.glo g hg j y hy
    exact ⟨v, hS _ _ h1, h2.mono hS⟩
  · simp only [AH.set] at hi hj hi0 hj0
    refine hh.inj i j b hi hj (fun e => ?_) (fun e => ?_) hbi hbj
    · by_cases he : i = c
      · subst he; rw [upd_same] at hi0; exact hc hi0 e
      · rw [upd_other _ _ he] at hi0; exact hi0 e
    · by_cases he : j = c
      · subst he; rw [upd_same] at hj0; exact hc hj0 e
      · rw [upd_other _ _ he] at hj0; exact hj0 e
  · exact Nat.lt_of_lt_of_le (hh.lt i b hi hb) hsz
  · simp only [AH.set] at hid ho ⊢
    by_cases he : id = c
    · subst he
      rw [upd_same] at ho
      exact hxl _ ho i y hy
    · rw [upd_other _ _ he] at ho
      exact hok id l i y hid ho hy
theorem HRel.kill [GTab] {E : Env} {h : AH} {w : World} (hh : HRel E h w) (hok : h.ok) (c : Nat) : HRel E (h.set c none) w ∧ (h.set c none).ok := by
  obtain ⟨h1, _, h3⟩ := hh.set hok (S' := E.S) (w' := w) (c := c) (x := none) (fun _ _ h => h) hh.cells (Nat.le_refl _) (fun _ _ _ _ _ _ => ⟨rfl, fun _ _ => rfl⟩) (fun h => absurd rfl h) (fun _ h => by cases h) (fun _ h => by cases h)
  exact ⟨h1, h3⟩

/-! ### A slice's cells, one behind the other -/
def flat (size n : Nat) (us : Nat → Nat → Value) : List Value := (List.range (n * size)).map fun k => us (k / size) (k % size)
theorem flat_length (size n : Nat) (us : Nat → Nat → Value) : (flat size n us).length = n * size := by simp [flat]
theorem flat_get {size n : Nat} {us : Nat → Nat → Value} {i j : Nat} (hi : i < n) (hj : j < size) : (flat size n us)[i * size + j]? = some (us i j) := by
  have hlt : i * size + j < n * size := by
    have : (i + 1) * size ≤ n * size := Nat.mul_le_mul_right _ hi
    rw [Nat.add_mul] at this; omega
  simp only [flat, List.getElem?_map, List.getElem?_range hlt, Option.map_some]
  have e1 : (i * size + j) / size = i := by rw [Nat.mul_comm, Nat.mul_add_div (by omega), Nat.div_eq_of_lt hj]; omega
  have e2 : (i * size + j) % size = j := by rw [Nat.mul_comm, Nat.mul_add_mod]; exact Nat.mod_eq_of_lt hj
  rw [e1, e2]
theorem flat_inv [GTab] {size n : Nat} {us : Nat → Nat → Value} {k : Nat} {v : Value} (h : (flat size n us)[k]? = some v) : k / size < n ∧ k % size < size ∧ k = (k / size) * size + k % size ∧ v = us (k / size) (k % size) := by
  have hlt : k < n * size := by have := (List.getElem?_eq_some_iff.1 h).1; rwa [flat_length] at this
  have hsz : 0 < size := by
    rcases Nat.eq_zero_or_pos size with h0 | h0
    · subst h0; simp at hlt
    · exact h0
  refine ⟨(Nat.div_lt_iff_lt_mul hsz).2 hlt, Nat.mod_lt _ hsz, ?_, ?_⟩
  · have := Nat.div_add_mod k size; rw [Nat.mul_comm] at this; exact this.symm
  · simp only [flat, List.getElem?_map, List.getElem?_range hlt, Option.map_some, Option.some.injEq] at h
    exact h.symm

/-- What a slice is good for: its cells in a row. -/
theorem sl_flat [GTab] {S : Addr → Option Value} {size : Nat} {els : List (List AV)} {cap : Option Nat} {a : Option Addr} {n c : Nat} (h : PRel S (.sl size els cap) (.slice a n c)) :
    ∃ us, n = els.length ∧ n ≤ c ∧ c ≤ maxLen ∧ (∀ e ∈ els, e.length = size) ∧ (a = none → els = [] ∧ c = 0) ∧
      (∀ ad, a = some ad → ∀ (k : Nat) (v : Value), (flat size els.length us)[k]? = some v → S (ad.add k) = some v) ∧
      (∀ (i j : Nat) (e : List AV) (x : AV), els[i]? = some e → e[j]? = some x → PRel S x (us i j)) := by
  cases h with
  | sl us h1 h2 h3 h4 h5 h6 h7 h8 =>
    refine ⟨us, h1, h2, h3, h5, h6, fun ad ha k v hk => ?_, h8⟩
    obtain ⟨g1, g2, g3, rfl⟩ := flat_inv hk
    have hlen := h5 els[k / size] (List.getElem_mem g1)
    have := h7 ad (k / size) (k % size) els[k / size] (els[k / size])[k % size] ha (List.getElem?_eq_getElem g1) (List.getElem?_eq_getElem (by omega))
    rw [← g3] at this
    exact this

theorem one_prel [GTab] {S : Addr → Option Value} {x : AV} {v : Value} (h : PRel S x v) (ho : one x = true) : v.oneCell' = true :=
  Rel.one (E := ⟨S, fun _ => .box 0⟩) (.pure h) ho

/-- What an element's type must be like. -/
def tz (P : Program) (t : TypeId) : Option (TypeId × Nat × Nat) :=
  match P.underlying t with
  | some (.slice e) =>
    match P.info? e with
    | some i =>
      match i.zero with
      | some z => if z.cells.size = i.size then some (e, i.size, i.bytes) else none
      | none => none
    | none => none
  | _ => none
theorem tz_parts {P : Program} {t e : TypeId} {size bytes : Nat} (h : tz P t = some (e, size, bytes)) : ∃ i z, P.underlying t = some (.slice e) ∧ P.info? e = some i ∧ i.zero = some z ∧ z.cells.size = size ∧ i.size = size ∧ i.bytes = bytes := by
  unfold tz at h
  split at h
  · rename_i e' hu
    split at h
    · rename_i i hi
      split at h
      · rename_i z hz
        split at h
        · rename_i hs
          simp only [Option.some.injEq, Prod.mk.injEq] at h
          obtain ⟨rfl, rfl, rfl⟩ := h
          exact ⟨i, z, hu, hi, hz, hs, rfl, rfl⟩
        · cases h
      · cases h
    · cases h
  · cases h

section
variable {P : Program} {S : Addr → Option Value} {w : World} {t ty e : TypeId} {size bytes : Nat}

/-- Nothing is appended. -/
theorem append_none [GTab] (ht : tz P t = some (e, size, bytes)) {a b : Option Addr} {n c d : Nat} (hc : n ≤ c) :
    (Builtin.append_ #[t, t] ty #[.slice a n c, .slice b 0 d]).run P w = .ok (.slice a n c) w := by
  obtain ⟨i, z, hu, hi, hz, hzs, hs, hb⟩ := tz_parts ht
  cases a <;> cases b <;> simp [Builtin.append_, run_underlying hu, sizeOf, typeInfo, hi, Builtin.lenOf, Builtin.firstCells, loadCells, loadCellsFrom, storeCells, hc]

/-- A new row is laid. -/
theorem append_grow [GTab] (ht : tz P t = some (e, size, bytes)) {els xs : List (List AV)} {cap cap2 : Option Nat} {a b : Option Addr} {n c m d : Nat}
    (hS : ∀ a v, S a = some v → w.cell? a = some v) (h1 : PRel S (.sl size els cap) (.slice a n c)) (h2 : PRel S (.sl size xs cap2) (.slice b m d)) (hg : c < n + m)
    (hbytes : (n + m) * bytes ≤ 140737488355328) (h63 : n + m ≤ maxLen) :
    ∃ cap' cur, (Builtin.append_ #[t, t] ty #[.slice a n c, .slice b m d]).run P w = .ok (.slice (some ⟨w.heap.size, 0, none⟩) (n + m) cap') (w.drew.alloc (.cells cur e)) ∧ n + m ≤ cap' ∧ cap' ≤ maxLen ∧ cur.size = cap' * size ∧
      ∀ (i j : Nat) (el : List AV) (x : AV), (els ++ xs)[i]? = some el → el[j]? = some x → ∃ u, cur[i * size + j]? = some u ∧ PRel S x u := by
  obtain ⟨i, z, hu, hi, hz, hzs, hs, hb⟩ := tz_parts ht
  obtain ⟨us, e1, e2, e3, e4, e5, e6, e7⟩ := sl_flat h1
  obtain ⟨ys, f1, f2, f3, f4, f5, f6, f7⟩ := sl_flat h2
  have hm : 0 < m := by omega
  cases b with
  | none => have := (f5 rfl).1; subst this; simp at f1; omega
  | some b =>
    subst hs
    have hnews : ∀ (j : Nat) (v : Value), (flat i.size m ys)[j]? = some v → w.cell? (b.add j) = some v := fun j v hj => hS _ _ (f6 b rfl j v (by rw [← f1]; exact hj))
    have hsmall : ((n + m : Nat) : Int) ≤ 9223372036854775807 := by simp only [maxLen] at h63; omega
    have hcells : ∀ (q : Nat) (rest : Array Value) (i' j : Nat) (el : List AV) (x : AV), (els ++ xs)[i']? = some el → el[j]? = some x → ∃ u, ((flat i.size n us).toArray ++ (flat i.size m ys).toArray ++ rest)[i' * i.size + j]? = some u ∧ PRel S x u := by
      intro q rest i' j el x hel hx
      have hj : j < i.size := by
        have hl := (List.getElem?_eq_some_iff.1 hx).1
        have hmem := List.mem_of_getElem? hel
        rw [List.mem_append] at hmem
        rcases hmem with hmem | hmem
        · have := e4 el hmem; omega
        · have := f4 el hmem; omega
      by_cases hi' : i' < els.length
      · rw [List.getElem?_append_left hi'] at hel
        refine ⟨us i' j, ?_, e7 i' j el x hel hx⟩
        have hg := flat_get (us := us) (n := n) (size := i.size) (i := i') (j := j) (by omega) hj
        have hlt := (List.getElem?_eq_some_iff.1 hg).1
        rw [Array.getElem?_append_left (by simp; omega), Array.getElem?_append_left (by simpa using hlt)]
        simpa using hg
      · rw [List.getElem?_append_right (by omega)] at hel
        refine ⟨ys (i' - els.length) j, ?_, f7 _ j el x hel hx⟩
        have hlt' := (List.getElem?_eq_some_iff.1 hel).1
        have hg := flat_get (us := ys) (n := m) (size := i.size) (i := i' - els.length) (j := j) (by omega) hj
        have hlt := (List.getElem?_eq_some_iff.1 hg).1
        have ee : i' * i.size + j = n * i.size + ((i' - els.length) * i.size + j) := by
          have : i' = n + (i' - els.length) := by omega
          conv => lhs; rw [this]
          rw [Nat.add_mul]; omega
        rw [ee, Array.getElem?_append_left (by simp [flat_length] at hlt ⊢; omega), Array.getElem?_append_right (by simp [flat_length])]
        simp only [List.size_toArray, flat_length, Nat.add_sub_cancel_left]
        simpa using hg
    cases a with
    | none =>
      obtain ⟨h', h''⟩ := e5 rfl
      subst h'
      simp only [List.length_nil] at e1
      subst e1
      subst h''
      have hr := run_append_nil (P := P) (w := w) t ty e i z hu hi hz b m d (flat i.size m ys) (flat_length ..) hnews hm (by omega) (by rw [hb]; rw [Nat.zero_add] at hbytes; omega)
      refine ⟨_, _, by simpa using hr, by have := grownCap_ge w m 0 e; omega, grownCap_le_maxLen w m 0 e (by omega), ?_, ?_⟩
      · have := grownCap_ge w m 0 e
        simp only [Array.size_append, List.size_toArray, flat_length, size_zeroCells, hzs, ← Nat.add_mul]
        congr 1; omega
      · have := hcells 0 (Builtin.zeroCells z.cells (grownCap w m 0 e - m))
        simpa [flat] using this
    | some a =>
      have holds : ∀ (j : Nat) (v : Value), (flat i.size n us)[j]? = some v → w.cell? (a.add j) = some v := fun j v hj => hS _ _ (e6 a rfl j v (by rw [← e1]; exact hj))
      have hr := run_append_grow (P := P) (w := w) t ty e i z hu hi hz a n c (flat i.size n us) (flat_length ..) holds b m d (flat i.size m ys) (flat_length ..) hnews hg hsmall (growslice_fits (by omega) (by rw [hb]; exact hbytes))
      refine ⟨_, _, hr, grownCap_ge w (n + m) c e, grownCap_le_maxLen w (n + m) c e h63, ?_, hcells 0 _⟩
      have := grownCap_ge w (n + m) c e
      simp only [Array.size_append, List.size_toArray, flat_length, size_zeroCells, hzs, ← Nat.add_mul]
      congr 1; omega

/-- There is room. -/
theorem append_room [GTab] (ht : tz P t = some (e, size, bytes)) {els xs : List (List AV)} {cap cap2 : Option Nat} {b : Option Addr} {g n c m d : Nat} {cur : Array Value} {T : TypeId}
    (hS : ∀ a v, S a = some v → w.cell? a = some v) (h1 : PRel S (.sl size els cap) (.slice (some ⟨g, 0, none⟩) n c)) (h2 : PRel S (.sl size xs cap2) (.slice b m d)) (hm : 0 < m) (hroom : n + m ≤ c)
    (hheap : w.heap[g]? = some (.cells cur T (0, 0))) (hsz : cur.size = c * size) (hone : ∀ e ∈ xs, ∀ x ∈ e, one x = true) :
    ∃ cur', (Builtin.append_ #[t, t] ty #[.slice (some ⟨g, 0, none⟩) n c, .slice b m d]).run P w = .ok (.slice (some ⟨g, 0, none⟩) (n + m) c) (w.setRow g cur') ∧ cur'.size = c * size ∧
      (∀ j, j < n * size → cur'[j]? = cur[j]?) ∧ (∀ j, (n + m) * size ≤ j → cur'[j]? = cur[j]?) ∧
      ∀ (i j : Nat) (el : List AV) (x : AV), (els ++ xs)[i]? = some el → el[j]? = some x → ∃ u, cur'[i * size + j]? = some u ∧ PRel S x u := by
  obtain ⟨i, z, hu, hi, hz, hzs, hs, hb⟩ := tz_parts ht
  obtain ⟨us, e1, e2, e3, e4, e5, e6, e7⟩ := sl_flat h1
  obtain ⟨ys, f1, f2, f3, f4, f5, f6, f7⟩ := sl_flat h2
  cases b with
  | none => have := (f5 rfl).1; subst this; simp at f1; omega
  | some b =>
    subst hs
    have hnews : ∀ (j : Nat) (v : Value), (flat i.size m ys)[j]? = some v → w.cell? (b.add j) = some v := fun j v hj => hS _ _ (f6 b rfl j v (by rw [← f1]; exact hj))
    have hfit : n * i.size + (flat i.size m ys).length ≤ cur.size := by rw [flat_length, hsz, ← Nat.add_mul]; exact Nat.mul_le_mul_right _ hroom
    have h1c : ∀ u ∈ flat i.size m ys, u.oneCell' = true := by
      intro u hu'
      obtain ⟨k, hk⟩ := List.getElem?_of_mem hu'
      obtain ⟨g1, g2, g3, rfl⟩ := flat_inv hk
      have hlen := f4 xs[k / i.size] (List.getElem_mem (by omega))
      exact one_prel (f7 (k / i.size) (k % i.size) _ (xs[k / i.size])[k % i.size] (List.getElem?_eq_getElem (by omega)) (List.getElem?_eq_getElem (by omega))) (hone _ (List.getElem_mem (by omega)) _ (List.getElem_mem (by omega)))
    have hTe : T = T := rfl
    -- the kit's law wants the element's type in the block; the row's own serves
    have hr : (Builtin.append_ #[t, t] ty #[.slice (some ⟨g, 0, none⟩) n c, .slice (some b) m d]).run P w =
        .ok (.slice (some ⟨g, 0, none⟩) (n + m) c) (w.setRow g (cur.toList.take (n * i.size) ++ flat i.size m ys ++ cur.toList.drop (n * i.size + (flat i.size m ys).length)).toArray) := by
      have hf := run_firstCells_some (P := P) w i.size m b m d (flat i.size m ys) (flat_length ..) hnews
      have hst := run_storeCells_at P g (n * i.size) T (flat i.size m ys) 0 cur w hheap (by simpa using hfit) h1c
      simp only [Nat.add_zero] at hst
      simp [Builtin.append_, run_underlying hu, sizeOf, typeInfo, hi, Builtin.lenOf, hroom, hf, Addr.add_lit, hst]
    have hcl : cur.toList.length = c * i.size := by simpa using hsz
    have hnm : n * i.size + m * i.size ≤ c * i.size := by rw [← Nat.add_mul]; exact Nat.mul_le_mul_right _ hroom
    have t1 : (cur.toList.take (n * i.size)).length = n * i.size := by rw [List.length_take, hcl]; omega
    refine ⟨_, hr, ?_, ?_, ?_, ?_⟩
    · simp only [List.size_toArray, List.length_append, t1, flat_length, List.length_drop, hcl]; omega
    · intro j hj
      simp only [List.getElem?_toArray, List.append_assoc]
      rw [List.getElem?_append_left (by omega), List.getElem?_take, if_pos hj]
      simp
    · intro j hj
      rw [Nat.add_mul] at hj
      simp only [List.getElem?_toArray]
      rw [List.getElem?_append_right (by simp only [List.length_append, t1, flat_length]; omega), List.getElem?_drop]
      simp only [List.length_append, t1, flat_length]
      rw [show n * i.size + m * i.size + (j - (n * i.size + m * i.size)) = j by omega]
      simp
    · intro i' j el x hel hx
      have hj : j < i.size := by
        have hl := (List.getElem?_eq_some_iff.1 hx).1
        have hmem := List.mem_of_getElem? hel
        rw [List.mem_append] at hmem
        rcases hmem with hmem | hmem
        · have := e4 el hmem; omega
        · have := f4 el hmem; omega
      by_cases hi' : i' < els.length
      · rw [List.getElem?_append_left hi'] at hel
        refine ⟨us i' j, ?_, e7 i' j el x hel hx⟩
        have hg := flat_get (us := us) (n := els.length) (size := i.size) (i := i') (j := j) hi' hj
        have hc := hS _ _ (e6 _ rfl _ _ hg)
        rw [addr_add_lit] at hc
        have hlt : i' * i.size + j < n * i.size := by
          have : (i' + 1) * i.size ≤ n * i.size := Nat.mul_le_mul_right _ (by omega)
          rw [Nat.add_mul] at this; omega
        simp only [List.getElem?_toArray, List.append_assoc]
        rw [List.getElem?_append_left (by omega), List.getElem?_take, if_pos hlt]
        simp only [World.cell?, hheap, Nat.zero_add] at hc
        simpa using hc
      · rw [List.getElem?_append_right (by omega)] at hel
        refine ⟨ys (i' - els.length) j, ?_, f7 _ j el x hel hx⟩
        have hlt' := (List.getElem?_eq_some_iff.1 hel).1
        have hg := flat_get (us := ys) (n := m) (size := i.size) (i := i' - els.length) (j := j) (by omega) hj
        have hlt := (List.getElem?_eq_some_iff.1 hg).1
        rw [flat_length] at hlt
        have ee : i' * i.size + j = n * i.size + ((i' - els.length) * i.size + j) := by
          have : i' = n + (i' - els.length) := by omega
          conv => lhs; rw [this]
          rw [Nat.add_mul]; omega
        simp only [List.getElem?_toArray]
        rw [ee, List.getElem?_append_left (by simp only [List.length_append, t1, flat_length]; omega), List.getElem?_append_right (by omega)]
        simp only [t1, Nat.add_sub_cancel_left]
        exact hg
end
end Go.Up
