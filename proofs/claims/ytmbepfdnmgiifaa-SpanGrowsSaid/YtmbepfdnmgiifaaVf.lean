/- Vp, part f: new objects; how append runs. -/
import Derived.Test.YtmbepfdnmgiifaaVe
set_option linter.unusedVariables false
set_option linter.unusedSimpArgs false
namespace Go.Vp
open Go.RowKit

def upd (f : Nat → Option AO) (i : Nat) (x : Option AO) : Nat → Option AO := fun j => if j = i then x else f j
theorem upd_same (f : Nat → Option AO) (i : Nat) (x : Option AO) : upd f i x i = x := by simp [upd]
theorem upd_other (f : Nat → Option AO) {i j : Nat} (x : Option AO) (h : j ≠ i) : upd f i x j = f j := by simp [upd, h]
def AH.new (h : AH) (x : AO) : AH := { o := upd h.o h.n (some x), n := h.n + 1 }

/-- What boxes hold lies below. -/
def AH.ok (h : AH) : Prop := ∀ (id : Nat) (l : List AV) (i : Nat) (x : AV), id < h.n → h.o id = some (.box l) → l[i]? = some x → Lt h.n x

def Env.setObj (E : Env) (id : Nat) (x : EO) : Env := { E with obj := fun j => if j = id then x else E.obj j }
/-- Cells of one block become known for good. -/
def Env.addS (E : Env) (b lo hi : Nat) (cs : Array Value) : Env := { E with S := fun a => if a.block = b ∧ a.spot = none ∧ lo ≤ a.off ∧ a.off < hi then cs[a.off]? else E.S a }

theorem setObj_ext (E : Env) {id n : Nat} (x : EO) (h : n ≤ id) : Ext E n (E.setObj id x) := by
  refine ⟨fun _ _ h => h, fun j b hj hb => ?_, fun j base cap tip size hj hr => ?_⟩
  · simp only [Env.setObj]; rw [if_neg (by omega)]; exact hb
  · refine ⟨base, cap, tip, ?_, .inl ⟨rfl, rfl, rfl⟩⟩
    simp only [Env.setObj]; rw [if_neg (by omega)]; exact hr

/-- A new object in a new block; what is known for good may grow by that block's cells. -/
theorem new_obj {E : Env} {h : AH} {w w' : World} {x : AO} {eo : EO} {S' : Addr → Option Value} (hh : HRel E h w) (hok : h.ok)
    (hsz : w'.heap.size = w.heap.size + 1) (hold : ∀ k, k < w.heap.size → w'.heap[k]? = w.heap[k]?)
    (hS : ∀ a v, E.S a = some v → S' a = some v) (hS2 : ∀ a v, S' a = some v → E.S a = some v ∨ (a.block = w.heap.size ∧ w'.cell? a = some v))
    (hblk : ∀ b, eo.blk = some b → b = w.heap.size)
    (hbox : ∀ l, x = .box l → ∃ cs T, eo = .box w.heap.size ∧ w'.heap[w.heap.size]? = some (.cells cs T (0, 0)) ∧ Rels E l cs.toList ∧ (∀ (i : Nat) (y : AV), l[i]? = some y → Lt h.n y) ∧ ∀ a, a.block = w.heap.size → S' a = none)
    (hrow : ∀ tip size, x = .row tip size → ∃ base cap, eo = .row base cap tip size ∧ tip ≤ cap ∧ cap ≤ maxLen ∧ (base = none → cap = 0) ∧
      (tip < cap → ∃ b cur T, base = some ⟨b, 0, none⟩ ∧ w'.heap[b]? = some (.cells cur T (0, 0)) ∧ cur.size = cap * size ∧ ∀ j, tip * size ≤ j → S' ⟨b, j, none⟩ = none)) :
    HRel ({ S := S', obj := fun j => if j = h.n then eo else E.obj j } : Env) (h.new x) w' ∧ Ext E h.n ({ S := S', obj := fun j => if j = h.n then eo else E.obj j } : Env) ∧ (h.new x).ok := by
  have hext : Ext E h.n ({ S := S', obj := fun j => if j = h.n then eo else E.obj j } : Env) := by
    refine ⟨hS, fun j b hj hb => ?_, fun j base cap tip size hj hr => ⟨base, cap, tip, ?_, .inl ⟨rfl, rfl, rfl⟩⟩⟩
    · simp only []; rw [if_neg (by omega)]; exact hb
    · simp only []; rw [if_neg (by omega)]; exact hr
  refine ⟨⟨fun a v ha => ?_, fun id l hid ho => ?_, fun id tip size hid ho => ?_, fun i j b hi hj hbi hbj => ?_, fun i b hi hb => ?_⟩, hext, ?_⟩
  · rcases hS2 a v ha with ha' | ⟨_, hc⟩
    · have hc := hh.cells a v ha'
      have hlt := World.block_lt_of_cell? w a hc
      rw [World.cell?_of_block (hold _ hlt)]; exact hc
    · exact hc
  · simp only [AH.new] at hid ho ⊢
    by_cases he : id = h.n
    · subst he
      rw [upd_same] at ho
      obtain ⟨cs, T, h1, h2, h3, h4, h5⟩ := hbox l (by simpa using ho)
      exact ⟨w.heap.size, cs, T, by simp [h1], h2, h3.mono h4 hext, h5⟩
    · rw [upd_other _ _ he] at ho
      obtain ⟨b, cs, T, h1, h2, h3, h4⟩ := hh.box id l (by omega) ho
      have hlt := hh.lt id b (by omega) (by simp [EO.blk, h1])
      refine ⟨b, cs, T, by simp [he, h1], (hold b hlt).trans h2, h3.mono (fun i y hy => hok id l i y (by omega) ho hy) hext, fun a ha => ?_⟩
      cases hs : S' a with
      | none => rfl
      | some v =>
        rcases hS2 a v hs with h' | ⟨h', _⟩
        · rw [h4 a ha] at h'; cases h'
        · omega
  · simp only [AH.new] at hid ho ⊢
    by_cases he : id = h.n
    · subst he
      rw [upd_same] at ho
      obtain ⟨base, cap, h1, h2⟩ := hrow tip size (by simpa using ho)
      exact ⟨base, cap, by simp [h1], h2⟩
    · rw [upd_other _ _ he] at ho
      obtain ⟨base, cap, h1, h2, h3, h4, h5⟩ := hh.row id tip size (by omega) ho
      refine ⟨base, cap, by simp [he, h1], h2, h3, h4, fun hlt => ?_⟩
      obtain ⟨b, cur, T, hb, hheap, hcur, hfree⟩ := h5 hlt
      have hblt := hh.lt id b (by omega) (by simp [EO.blk, h1, hlt, hb])
      refine ⟨b, cur, T, hb, (hold b hblt).trans hheap, hcur, fun j hj => ?_⟩
      cases hs : S' ⟨b, j, none⟩ with
      | none => rfl
      | some v =>
        rcases hS2 _ v hs with h' | ⟨h', _⟩
        · rw [hfree j hj] at h'; cases h'
        · simp only at h'; omega
  · simp only [AH.new] at hi hj
    simp only [] at hbi hbj
    by_cases hi' : i = h.n
    · by_cases hj' : j = h.n
      · omega
      · rw [if_pos hi'] at hbi
        rw [if_neg hj'] at hbj
        have := hblk b hbi
        have := hh.lt j b (by omega) hbj
        omega
    · rw [if_neg hi'] at hbi
      by_cases hj' : j = h.n
      · rw [if_pos hj'] at hbj
        have := hblk b hbj
        have := hh.lt i b (by omega) hbi
        omega
      · rw [if_neg hj'] at hbj
        exact hh.inj i j b (by omega) (by omega) hbi hbj
  · simp only [AH.new] at hi
    simp only [] at hb
    by_cases hi' : i = h.n
    · rw [if_pos hi'] at hb
      have := hblk b hb
      omega
    · rw [if_neg hi'] at hb
      have := hh.lt i b (by omega) hb
      omega
  · intro id l i y hid ho hy
    simp only [AH.new] at hid ho ⊢
    by_cases he : id = h.n
    · subst he
      rw [upd_same] at ho
      obtain ⟨cs, T, h1, h2, h3, h4, h5⟩ := hbox l (by simpa using ho)
      exact (h4 i y hy).mono (by omega)
    · rw [upd_other _ _ he] at ho
      exact (hok id l i y (by omega) ho hy).mono (by omega)

/-! ### A slice's cells, one behind the other -/
def flat (size n : Nat) (us : Nat → Nat → Value) : List Value := (List.range (n * size)).map fun k => us (k / size) (k % size)
theorem flat_length (size n : Nat) (us : Nat → Nat → Value) : (flat size n us).length = n * size := by simp [flat]
theorem flat_get {size n : Nat} {us : Nat → Nat → Value} {i j : Nat} (hi : i < n) (hj : j < size) : (flat size n us)[i * size + j]? = some (us i j) := by
  have hlt : i * size + j < n * size := by
    have : (i + 1) * size ≤ n * size := Nat.mul_le_mul_right _ hi
    rw [Nat.add_mul] at this; omega
  simp only [flat, List.getElem?_map, List.getElem?_range hlt, Option.map_some]
  have e1 : (i * size + j) / size = i := by rw [Nat.mul_comm, Nat.mul_add_div (by omega), Nat.div_eq_of_lt hj]; omega
  have e2 : (i * size + j) % size = j := by rw [Nat.mul_comm, Nat.mul_add_mod]; exact Nat.mod_eq_of_lt hj
  rw [e1, e2]
theorem flat_inv {size n : Nat} {us : Nat → Nat → Value} {k : Nat} {v : Value} (h : (flat size n us)[k]? = some v) : k / size < n ∧ k % size < size ∧ k = (k / size) * size + k % size ∧ v = us (k / size) (k % size) := by
  have hlt : k < n * size := by have := (List.getElem?_eq_some_iff.1 h).1; rwa [flat_length] at this
  have hsz : 0 < size := by
    rcases Nat.eq_zero_or_pos size with h0 | h0
    · subst h0; simp at hlt
    · exact h0
  refine ⟨(Nat.div_lt_iff_lt_mul hsz).2 hlt, Nat.mod_lt _ hsz, ?_, ?_⟩
  · have := Nat.div_add_mod k size; rw [Nat.mul_comm] at this; exact this.symm
  · simp only [flat, List.getElem?_map, List.getElem?_range hlt, Option.map_some, Option.some.injEq] at h
    exact h.symm

/-- What a slice is good for: its cells in a row. -/
theorem sl_flat {S : Addr → Option Value} {size : Nat} {els : List (List AV)} {cap : Option Nat} {a : Option Addr} {n c : Nat} (h : PRel S (.sl size els cap) (.slice a n c)) :
    ∃ us, n = els.length ∧ n ≤ c ∧ c ≤ maxLen ∧ (∀ e ∈ els, e.length = size) ∧ (a = none → els = [] ∧ c = 0) ∧
      (∀ ad, a = some ad → ∀ (k : Nat) (v : Value), (flat size els.length us)[k]? = some v → S (ad.add k) = some v) ∧
      (∀ (i j : Nat) (e : List AV) (x : AV), els[i]? = some e → e[j]? = some x → PRel S x (us i j)) := by
  cases h with
  | sl us h1 h2 h3 h4 h5 h6 h7 h8 =>
    refine ⟨us, h1, h2, h3, h5, h6, fun ad ha k v hk => ?_, h8⟩
    obtain ⟨g1, g2, g3, rfl⟩ := flat_inv hk
    have hlen := h5 els[k / size] (List.getElem_mem g1)
    have := h7 ad (k / size) (k % size) els[k / size] (els[k / size])[k % size] ha (List.getElem?_eq_getElem g1) (List.getElem?_eq_getElem (by omega))
    rw [← g3] at this
    exact this

theorem one_prel {S : Addr → Option Value} {x : AV} {v : Value} (h : PRel S x v) (ho : one x = true) : v.oneCell' = true :=
  Rel.one (E := ⟨S, fun _ => .box 0⟩) (.pure h) ho

/-- What an element's type must be like. -/
def tz (P : Program) (t : TypeId) : Option (TypeId × Nat × Nat) :=
  match P.underlying t with
  | some (.slice e) =>
    match P.info? e with
    | some i =>
      match i.zero with
      | some z => if z.cells.size = i.size then some (e, i.size, i.bytes) else none
      | none => none
    | none => none
  | _ => none
theorem tz_parts {P : Program} {t e : TypeId} {size bytes : Nat} (h : tz P t = some (e, size, bytes)) : ∃ i z, P.underlying t = some (.slice e) ∧ P.info? e = some i ∧ i.zero = some z ∧ z.cells.size = size ∧ i.size = size ∧ i.bytes = bytes := by
  unfold tz at h
  split at h
  · rename_i e' hu
    split at h
    · rename_i i hi
      split at h
      · rename_i z hz
        split at h
        · rename_i hs
          simp only [Option.some.injEq, Prod.mk.injEq] at h
          obtain ⟨rfl, rfl, rfl⟩ := h
          exact ⟨i, z, hu, hi, hz, hs, rfl, rfl⟩
        · cases h
      · cases h
    · cases h
  · cases h

section
variable {P : Program} {S : Addr → Option Value} {w : World} {t ty e : TypeId} {size bytes : Nat}

/-- Nothing is appended. -/
theorem append_none (ht : tz P t = some (e, size, bytes)) {a b : Option Addr} {n c d : Nat} (hc : n ≤ c) :
    (Builtin.append_ #[t, t] ty #[.slice a n c, .slice b 0 d]).run P w = .ok (.slice a n c) w := by
  obtain ⟨i, z, hu, hi, hz, hzs, hs, hb⟩ := tz_parts ht
  cases a <;> cases b <;> simp [Builtin.append_, run_underlying hu, sizeOf, typeInfo, hi, Builtin.lenOf, Builtin.firstCells, loadCells, loadCellsFrom, storeCells, hc]

/-- A new row is laid. -/
theorem append_grow (ht : tz P t = some (e, size, bytes)) {els xs : List (List AV)} {cap cap2 : Option Nat} {a b : Option Addr} {n c m d : Nat}
    (hS : ∀ a v, S a = some v → w.cell? a = some v) (h1 : PRel S (.sl size els cap) (.slice a n c)) (h2 : PRel S (.sl size xs cap2) (.slice b m d)) (hg : c < n + m)
    (hbytes : (n + m) * bytes ≤ 140737488355328) (h63 : n + m ≤ maxLen) :
    ∃ cap' cur, (Builtin.append_ #[t, t] ty #[.slice a n c, .slice b m d]).run P w = .ok (.slice (some ⟨w.heap.size, 0, none⟩) (n + m) cap') (w.drew.alloc (.cells cur e)) ∧ n + m ≤ cap' ∧ cap' ≤ maxLen ∧ cur.size = cap' * size ∧
      ∀ (i j : Nat) (el : List AV) (x : AV), (els ++ xs)[i]? = some el → el[j]? = some x → ∃ u, cur[i * size + j]? = some u ∧ PRel S x u := by
  obtain ⟨i, z, hu, hi, hz, hzs, hs, hb⟩ := tz_parts ht
  obtain ⟨us, e1, e2, e3, e4, e5, e6, e7⟩ := sl_flat h1
  obtain ⟨ys, f1, f2, f3, f4, f5, f6, f7⟩ := sl_flat h2
  have hm : 0 < m := by omega
  cases b with
  | none => have := (f5 rfl).1; subst this; simp at f1; omega
  | some b =>
    subst hs
    have hnews : ∀ (j : Nat) (v : Value), (flat i.size m ys)[j]? = some v → w.cell? (b.add j) = some v := fun j v hj => hS _ _ (f6 b rfl j v (by rw [← f1]; exact hj))
    have hsmall : ((n + m : Nat) : Int) ≤ 9223372036854775807 := by simp only [maxLen] at h63; omega
    have hcells : ∀ (q : Nat) (rest : Array Value) (i' j : Nat) (el : List AV) (x : AV), (els ++ xs)[i']? = some el → el[j]? = some x → ∃ u, ((flat i.size n us).toArray ++ (flat i.size m ys).toArray ++ rest)[i' * i.size + j]? = some u ∧ PRel S x u := by
      intro q rest i' j el x hel hx
      have hj : j < i.size := by
        have hl := (List.getElem?_eq_some_iff.1 hx).1
        have hmem := List.mem_of_getElem? hel
        rw [List.mem_append] at hmem
        rcases hmem with hmem | hmem
        · have := e4 el hmem; omega
        · have := f4 el hmem; omega
      by_cases hi' : i' < els.length
      · rw [List.getElem?_append_left hi'] at hel
        refine ⟨us i' j, ?_, e7 i' j el x hel hx⟩
        have hg := flat_get (us := us) (n := n) (size := i.size) (i := i') (j := j) (by omega) hj
        have hlt := (List.getElem?_eq_some_iff.1 hg).1
        rw [Array.getElem?_append_left (by simp; omega), Array.getElem?_append_left (by simpa using hlt)]
        simpa using hg
      · rw [List.getElem?_append_right (by omega)] at hel
        refine ⟨ys (i' - els.length) j, ?_, f7 _ j el x hel hx⟩
        have hlt' := (List.getElem?_eq_some_iff.1 hel).1
        have hg := flat_get (us := ys) (n := m) (size := i.size) (i := i' - els.length) (j := j) (by omega) hj
        have hlt := (List.getElem?_eq_some_iff.1 hg).1
        have ee : i' * i.size + j = n * i.size + ((i' - els.length) * i.size + j) := by
          have : i' = n + (i' - els.length) := by omega
          conv => lhs; rw [this]
          rw [Nat.add_mul]; omega
        rw [ee, Array.getElem?_append_left (by simp [flat_length] at hlt ⊢; omega), Array.getElem?_append_right (by simp [flat_length])]
        simp only [List.size_toArray, flat_length, Nat.add_sub_cancel_left]
        simpa using hg
    cases a with
    | none =>
      obtain ⟨h', h''⟩ := e5 rfl
      subst h'
      simp only [List.length_nil] at e1
      subst e1
      subst h''
      have hr := run_append_nil (P := P) (w := w) t ty e i z hu hi hz b m d (flat i.size m ys) (flat_length ..) hnews hm (by omega) (by rw [hb]; rw [Nat.zero_add] at hbytes; omega)
      refine ⟨_, _, by simpa using hr, by have := grownCap_ge w m 0 e; omega, grownCap_le_maxLen w m 0 e (by omega), ?_, ?_⟩
      · have := grownCap_ge w m 0 e
        simp only [Array.size_append, List.size_toArray, flat_length, size_zeroCells, hzs, ← Nat.add_mul]
        congr 1; omega
      · have := hcells 0 (Builtin.zeroCells z.cells (grownCap w m 0 e - m))
        simpa [flat] using this
    | some a =>
      have holds : ∀ (j : Nat) (v : Value), (flat i.size n us)[j]? = some v → w.cell? (a.add j) = some v := fun j v hj => hS _ _ (e6 a rfl j v (by rw [← e1]; exact hj))
      have hr := run_append_grow (P := P) (w := w) t ty e i z hu hi hz a n c (flat i.size n us) (flat_length ..) holds b m d (flat i.size m ys) (flat_length ..) hnews hg hsmall (growslice_fits (by omega) (by rw [hb]; exact hbytes))
      refine ⟨_, _, hr, grownCap_ge w (n + m) c e, grownCap_le_maxLen w (n + m) c e h63, ?_, hcells 0 _⟩
      have := grownCap_ge w (n + m) c e
      simp only [Array.size_append, List.size_toArray, flat_length, size_zeroCells, hzs, ← Nat.add_mul]
      congr 1; omega

/-- There is room. -/
theorem append_room (ht : tz P t = some (e, size, bytes)) {els xs : List (List AV)} {cap cap2 : Option Nat} {b : Option Addr} {g n c m d : Nat} {cur : Array Value} {T : TypeId}
    (hS : ∀ a v, S a = some v → w.cell? a = some v) (h1 : PRel S (.sl size els cap) (.slice (some ⟨g, 0, none⟩) n c)) (h2 : PRel S (.sl size xs cap2) (.slice b m d)) (hm : 0 < m) (hroom : n + m ≤ c)
    (hheap : w.heap[g]? = some (.cells cur T (0, 0))) (hsz : cur.size = c * size) (hone : ∀ e ∈ xs, ∀ x ∈ e, one x = true) :
    ∃ cur', (Builtin.append_ #[t, t] ty #[.slice (some ⟨g, 0, none⟩) n c, .slice b m d]).run P w = .ok (.slice (some ⟨g, 0, none⟩) (n + m) c) (w.setRow g cur') ∧ cur'.size = c * size ∧
      (∀ j, j < n * size → cur'[j]? = cur[j]?) ∧ (∀ j, (n + m) * size ≤ j → cur'[j]? = cur[j]?) ∧
      ∀ (i j : Nat) (el : List AV) (x : AV), (els ++ xs)[i]? = some el → el[j]? = some x → ∃ u, cur'[i * size + j]? = some u ∧ PRel S x u := by
  obtain ⟨i, z, hu, hi, hz, hzs, hs, hb⟩ := tz_parts ht
  obtain ⟨us, e1, e2, e3, e4, e5, e6, e7⟩ := sl_flat h1
  obtain ⟨ys, f1, f2, f3, f4, f5, f6, f7⟩ := sl_flat h2
  cases b with
  | none => have := (f5 rfl).1; subst this; simp at f1; omega
  | some b =>
    subst hs
    have hnews : ∀ (j : Nat) (v : Value), (flat i.size m ys)[j]? = some v → w.cell? (b.add j) = some v := fun j v hj => hS _ _ (f6 b rfl j v (by rw [← f1]; exact hj))
    have hfit : n * i.size + (flat i.size m ys).length ≤ cur.size := by rw [flat_length, hsz, ← Nat.add_mul]; exact Nat.mul_le_mul_right _ hroom
    have h1c : ∀ u ∈ flat i.size m ys, u.oneCell' = true := by
      intro u hu'
      obtain ⟨k, hk⟩ := List.getElem?_of_mem hu'
      obtain ⟨g1, g2, g3, rfl⟩ := flat_inv hk
      have hlen := f4 xs[k / i.size] (List.getElem_mem (by omega))
      exact one_prel (f7 (k / i.size) (k % i.size) _ (xs[k / i.size])[k % i.size] (List.getElem?_eq_getElem (by omega)) (List.getElem?_eq_getElem (by omega))) (hone _ (List.getElem_mem (by omega)) _ (List.getElem_mem (by omega)))
    have hTe : T = T := rfl
    -- the kit's law wants the element's type in the block; the row's own serves
    have hr : (Builtin.append_ #[t, t] ty #[.slice (some ⟨g, 0, none⟩) n c, .slice (some b) m d]).run P w =
        .ok (.slice (some ⟨g, 0, none⟩) (n + m) c) (w.setRow g (cur.toList.take (n * i.size) ++ flat i.size m ys ++ cur.toList.drop (n * i.size + (flat i.size m ys).length)).toArray) := by
      have hf := run_firstCells_some (P := P) w i.size m b m d (flat i.size m ys) (flat_length ..) hnews
      have hst := run_storeCells_at P g (n * i.size) T (flat i.size m ys) 0 cur w hheap (by simpa using hfit) h1c
      simp only [Nat.add_zero] at hst
      simp [Builtin.append_, run_underlying hu, sizeOf, typeInfo, hi, Builtin.lenOf, hroom, hf, Addr.add_lit, hst]
    have hcl : cur.toList.length = c * i.size := by simpa using hsz
    have hnm : n * i.size + m * i.size ≤ c * i.size := by rw [← Nat.add_mul]; exact Nat.mul_le_mul_right _ hroom
    have t1 : (cur.toList.take (n * i.size)).length = n * i.size := by rw [List.length_take, hcl]; omega
    refine ⟨_, hr, ?_, ?_, ?_, ?_⟩
    · simp only [List.size_toArray, List.length_append, t1, flat_length, List.length_drop, hcl]; omega
    · intro j hj
      simp only [List.getElem?_toArray, List.append_assoc]
      rw [List.getElem?_append_left (by omega), List.getElem?_take, if_pos hj]
      simp
    · intro j hj
      rw [Nat.add_mul] at hj
      simp only [List.getElem?_toArray]
      rw [List.getElem?_append_right (by simp only [List.length_append, t1, flat_length]; omega), List.getElem?_drop]
      simp only [List.length_append, t1, flat_length]
      rw [show n * i.size + m * i.size + (j - (n * i.size + m * i.size)) = j by omega]
      simp
    · intro i' j el x hel hx
      have hj : j < i.size := by
        have hl := (List.getElem?_eq_some_iff.1 hx).1
        have hmem := List.mem_of_getElem? hel
        rw [List.mem_append] at hmem
        rcases hmem with hmem | hmem
        · have := e4 el hmem; omega
        · have := f4 el hmem; omega
      by_cases hi' : i' < els.length
      · rw [List.getElem?_append_left hi'] at hel
        refine ⟨us i' j, ?_, e7 i' j el x hel hx⟩
        have hg := flat_get (us := us) (n := els.length) (size := i.size) (i := i') (j := j) hi' hj
        have hc := hS _ _ (e6 _ rfl _ _ hg)
        rw [addr_add_lit] at hc
        have hlt : i' * i.size + j < n * i.size := by
          have : (i' + 1) * i.size ≤ n * i.size := Nat.mul_le_mul_right _ (by omega)
          rw [Nat.add_mul] at this; omega
        simp only [List.getElem?_toArray, List.append_assoc]
        rw [List.getElem?_append_left (by omega), List.getElem?_take, if_pos hlt]
        simp only [World.cell?, hheap, Nat.zero_add] at hc
        simpa using hc
      · rw [List.getElem?_append_right (by omega)] at hel
        refine ⟨ys (i' - els.length) j, ?_, f7 _ j el x hel hx⟩
        have hlt' := (List.getElem?_eq_some_iff.1 hel).1
        have hg := flat_get (us := ys) (n := m) (size := i.size) (i := i' - els.length) (j := j) (by omega) hj
        have hlt := (List.getElem?_eq_some_iff.1 hg).1
        rw [flat_length] at hlt
        have ee : i' * i.size + j = n * i.size + ((i' - els.length) * i.size + j) := by
          have : i' = n + (i' - els.length) := by omega
          conv => lhs; rw [this]
          rw [Nat.add_mul]; omega
        simp only [List.getElem?_toArray]
        rw [ee, List.getElem?_append_left (by simp only [List.length_append, t1, flat_length]; omega), List.getElem?_append_right (by omega)]
        simp only [t1, Nat.add_sub_cancel_left]
        exact hg
end
end Go.Vp
