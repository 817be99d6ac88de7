/- Up, part c: loads, indexes, cuts, built values; all operations that turn nothing, in one table. -/
import Derived.Test.YtppobdnacmdgbaaDoorUb
set_option linter.unusedVariables false
set_option linter.unusedSimpArgs false
namespace Go.Up
open Go.RowKit

theorem rels_of_prels {E : Env} {l : List AV} {vs : List Value} (hl : vs.length = l.length) (h : ∀ (i : Nat) (x : AV) (v : Value), l[i]? = some x → vs[i]? = some v → PRel E.S x v) : Rels E l vs :=
  ⟨hl, fun i x v hx hv => .pure (h i x v hx hv)⟩

theorem sl_lt_of_get {els : List (List AV)} {i : Nat} {e : List AV} (h : els[i]? = some e) : e ∈ els := List.mem_of_getElem? h

/-- The cells at an address, of which a list is known. -/
theorem load_known [GTab] {P : Program} {w : World} {t : TypeId} {b : Bool} {n : Nat} {a : Addr} {l : List AV} {vs : List Value} {E : Env} {r : AV}
    (hk : tk P t = some (b, n)) (hr : Rels E l vs) (hc : ∀ (j : Nat) (v : Value), vs[j]? = some v → w.cell? (a.add j) = some v) (h : cellsOf l b n = some r) :
    ∃ v, (loadVar t a).run P w = .ok v w ∧ Rel E r v := by
  unfold cellsOf at h
  cases b with
  | true =>
    simp only [if_true] at h
    split at h
    · rename_i hle
      cases h
      refine ⟨.agg (vs.take n).toArray, ?_, .agg (hr.take n).1 (hr.take n).2⟩
      have hrun := run_loadCells_list (P := P) w a (vs.take n) (fun j v hv => by
        rw [List.getElem?_take] at hv
        split at hv
        · exact hc j v hv
        · cases hv)
      have hlen : (vs.take n).length = n := by rw [List.length_take, hr.1]; omega
      rw [hlen] at hrun
      simp only [loadVar, Sem.run_bind, tk_isAgg hk, Result.andThen_ok, if_true, tk_sizeOf hk, hrun, Sem.run_pure]
    · cases h
  | false =>
    simp only [Bool.false_eq_true, if_false] at h
    have hx : l[0]? = some r := by rw [← List.head?_eq_getElem?]; exact h
    obtain ⟨v, hv, hrel⟩ := hr.getElem hx
    refine ⟨v, ?_, hrel⟩
    have h0 := hc 0 v hv
    have e0 : a.add 0 = a := by simp [Addr.add]
    rw [e0] at h0
    simp only [loadVar, Sem.run_bind, tk_isAgg hk, Result.andThen_ok, Bool.false_eq_true, if_false]
    simp [h0]

def boxOf : Option AO → Option (List AV)
  | some (.box l) => some l
  | _ => none
theorem boxOf_inv {x : Option AO} {l : List AV} (h : boxOf x = some l) : x = some (.box l) := by
  unfold boxOf at h; split at h
  · cases h; rfl
  · cases h
def aloadc (h : AH) (b : Bool) (n : Nat) : AV → Option AV
  | .ep cs => cellsOf cs b n
  | .tp id i off =>
    match h.o id with
    | some (.tarr t l) => (l[i]?).bind fun y => cellsOf ((enc t y).drop off) b n
    | _ => none
  | .bp id off => (boxOf (h.o id)).bind fun l => cellsOf (l.drop off) b n
  | _ => none
def aload (P : Program) (h : AH) (t : TypeId) (x : AV) : Option AV := (tk P t).bind fun k => aloadc h k.1 k.2 x

theorem cellsOf_lt {n m : Nat} {l : List AV} {b : Bool} {r : AV} (h : cellsOf l b n = some r) (hl : ∀ (i : Nat) (x : AV), l[i]? = some x → Lt m x) : Lt m r := by
  unfold cellsOf at h
  split at h
  · split at h
    · cases h
      refine .agg fun i x hx => ?_
      rw [List.getElem?_take] at hx
      split at hx
      · exact hl i x hx
      · cases hx
    · cases h
  · exact hl 0 r (by rw [← List.head?_eq_getElem?]; exact h)

theorem prel_lt {S : Addr → Option Value} {x : AV} {v : Value} (h : PRel S x v) (n : Nat) : Lt n x := by
  induction h with
  | p => exact .p _
  | junk => exact .junk
  | ifc => exact .ifc _ _
  | @agg l vs hl _ ih => exact .agg fun i x hx => have hi : i < vs.length := (by rw [hl]; exact (List.getElem?_eq_some_iff.1 hx).1); ih i x vs[i] hx (List.getElem?_eq_getElem hi)
  | @tup l vs hl _ ih => exact .tup fun i x hx => have hi : i < vs.length := (by rw [hl]; exact (List.getElem?_eq_some_iff.1 hx).1); ih i x vs[i] hx (List.getElem?_eq_getElem hi)
  | ep => exact .ep _
  | sl => exact .sl _ _ _
  | st => exact .st _
  | tl => exact .tl _ _ _

theorem aload_sound [GTab] {P : Program} {t : TypeId} {x : AV} {vx : Value} {E : Env} {h : AH} {r : AV} {w : World} (hh : HRel E h w) (hx : Rel E x vx) (hl : Lt h.n x)
    (hb : ∀ (id : Nat) (l : List AV) (i : Nat) (x : AV), id < h.n → h.o id = some (.box l) → l[i]? = some x → Lt h.n x) (hy : aload P h t x = some r) :
    ∃ v, (Instr.loadAt t vx).run P w = .ok v w ∧ Rel E r v ∧ Lt h.n r := by
  unfold aload at hy
  obtain ⟨⟨b, n⟩, hk, hy2⟩ := Option.bind_eq_some_iff.1 hy
  clear hy
  unfold aloadc at hy2
  split at hy2
  · rename_i cs
    cases hx with | pure hx => cases hx with
    | @ep cs a us h1 h2 =>
      have hrels : Rels E cs ((List.range cs.length).map us) := by
        refine rels_of_prels (by simp) fun i x v hx hv => ?_
        have : v = us i := by
          rw [List.getElem?_map] at hv
          obtain ⟨j, hj, rfl⟩ := Option.map_eq_some_iff.1 hv
          have := (List.getElem?_eq_some_iff.1 hj).2
          simp at this
          rw [this]
        subst this
        exact h2 i x hx
      obtain ⟨v, hv, hrel⟩ := load_known (P := P) (w := w) (a := a) hk hrels (fun j v hv => by
        rw [List.getElem?_map] at hv
        obtain ⟨i, hi, rfl⟩ := Option.map_eq_some_iff.1 hv
        have hlt := (List.getElem?_eq_some_iff.1 hi).1
        have := (List.getElem?_eq_some_iff.1 hi).2
        simp at this hlt
        subst this
        exact hh.cells _ _ (h1 j cs[j] (List.getElem?_eq_getElem hlt))) hy2
      refine ⟨v, by simp [Instr.loadAt, Instr.sureAddr, hv], hrel, cellsOf_lt hy2 fun i x hx => prel_lt (h2 i x hx) _⟩
  · rename_i id i off
    split at hy2
    · rename_i t l ho
      obtain ⟨y, hl1, hy3⟩ := Option.bind_eq_some_iff.1 hy2
      obtain ⟨blk, cap, size, ln, rfl, hobj⟩ := hx.tp_inv
      have hid := hl.tp_inv
      obtain ⟨b', cap', hobj', hc1, hc2, hrest⟩ := hh.arr id t l hid ho
      rw [hobj] at hobj'
      cases hobj'
      obtain ⟨cur, T, hheap, hcs, hS, hel⟩ := hrest (by have := (List.getElem?_eq_some_iff.1 hl1).1; omega)
      have hrels : Rels E ((enc t y).drop off) (((List.range (sz t)).map fun j => (cur[i * sz t + j]?).getD undef).drop off) := by
        refine Rels.drop (rels_of_prels (by simp [enc_length]) fun j x v hx hv => ?_) off
        obtain ⟨v', hv', hp⟩ := hel i j y x hl1 hx
        have : v = v' := by
          rw [List.getElem?_map] at hv
          obtain ⟨k, hk, rfl⟩ := Option.map_eq_some_iff.1 hv
          have := (List.getElem?_eq_some_iff.1 hk).2
          simp at this
          subst this
          rw [hv']; rfl
        subst this
        exact hp
      obtain ⟨v, hv, hrel⟩ := load_known (P := P) (w := w) (a := ⟨blk, i * sz t + off, none⟩) hk hrels (fun j v hv => by
        rw [addr_add_lit]
        rw [List.getElem?_drop, List.getElem?_map] at hv
        obtain ⟨k, hk, rfl⟩ := Option.map_eq_some_iff.1 hv
        have hk2 := (List.getElem?_eq_some_iff.1 hk)
        obtain ⟨hk3, hk4⟩ := hk2
        simp at hk3 hk4
        subst hk4
        obtain ⟨v', hv', hp⟩ := hel i (off + j) y _ hl1 (List.getElem?_eq_getElem (by rw [enc_length]; exact hk3))
        simp only [World.cell?, hheap, Nat.add_assoc, hv', Option.getD_some]
        simp) hy3
      refine ⟨v, by simp [Instr.loadAt, Instr.sureAddr, hv], hrel, cellsOf_lt hy3 fun j x hx => ?_⟩
      rw [List.getElem?_drop] at hx
      obtain ⟨v', hv', hp⟩ := hel i (off + j) y x hl1 hx
      exact prel_lt hp _
    · cases hy2
  · rename_i id off
    obtain ⟨l, ho0, hy⟩ := Option.bind_eq_some_iff.1 hy2
    have ho := boxOf_inv ho0
    · obtain ⟨blk', rfl, hobj⟩ := hx.bp_inv
      · have hid := hl.bp_inv
        obtain ⟨blk, cs, T, hobj', hheap, hrel, hS⟩ := hh.box id l hid ho
        rw [hobj'] at hobj
        obtain rfl : blk = blk' := by cases hobj; rfl
        obtain ⟨v, hv, hr⟩ := load_known (P := P) (w := w) (a := ⟨blk, off, none⟩) hk (hrel.drop off) (fun j v hv => by
          rw [addr_add_lit]
          simp only [World.cell?, hheap]
          rw [List.getElem?_drop] at hv
          simpa using hv) hy
        refine ⟨v, by simp [Instr.loadAt, Instr.sureAddr, hv], hr, cellsOf_lt hy fun i x hx => hb id l (off + i) x hid ho (by simpa using hx)⟩
  · cases hy2

/-- An array's type: its length, its element's cells. -/
def ta (P : Program) (t : TypeId) : Option (Nat × TypeId × Nat) :=
  match P.underlying t with
  | some (.array len e) => (P.info? e).map fun i => (len, e, i.size)
  | _ => none
theorem ta_run {P : Program} {t e : TypeId} {len n : Nat} (h : ta P t = some (len, e, n)) (w : World) : (underlying t).run P w = .ok (.array len e) w ∧ (sizeOf e).run P w = .ok n w ∧ P.underlying t = some (.array len e) := by
  unfold ta at h
  split at h
  · rename_i len' e' hu
    obtain ⟨i, hi, he⟩ := Option.map_eq_some_iff.1 h
    simp only [Prod.mk.injEq] at he
    obtain ⟨rfl, rfl, rfl⟩ := he
    exact ⟨by simp [underlying, hu], by simp [sizeOf, typeInfo, hi], hu⟩
  · cases h

def aindex (P : Program) (t : TypeId) (x i : AV) : Option (Prop × AV) :=
  match i with
  | .p (.int _ n) =>
    match x with
    | .sl size els _ => (te P t).map fun e => (e.2 = size ∧ 0 ≤ n ∧ n < els.length, .ep (els.getD n.toNat []))
    | .bp id off => (ta P t).map fun e => (0 ≤ n ∧ n < e.1, .bp id (off + n.toNat * e.2.2))
    | .ep cs => (ta P t).map fun e => (0 ≤ n ∧ n < e.1, .ep (cs.drop (n.toNat * e.2.2)))
    | _ => none
  | _ => none

theorem index_sl [GTab] {P : Program} {S : Addr → Option Value} {t e : TypeId} {size : Nat} {els : List (List AV)} {cap : Option Nat} {v : Value} {k : IntKind} {n : Int} {w : World}
    (hx : PRel S (.sl size els cap) v) (ht : te P t = some (e, size)) (h0 : 0 ≤ n) (h1 : n < els.length) :
    ∃ u, (Instr.indexAt t v (.int k n)).run P w = .ok u w ∧ PRel S (.ep (els.getD n.toNat [])) u := by
  obtain ⟨r1, r2, r3⟩ := te_run ht w
  cases hx with
  | @sl _ _ _ a m c us h2 h3 h4 h5 h6 h7 h8 h9 =>
    have hlt : n.toNat < els.length := by omega
    cases a with
    | none => have := (h7 rfl).1; rw [this] at hlt; simp at hlt
    | some a =>
      have hg : els[n.toNat]? = some (els.getD n.toNat []) := by simp [List.getD, hlt]
      refine ⟨.pointer (some (a.add (n.toNat * size))), ?_, .ep (fun j => us n.toNat j) ?_ ?_⟩
      · simp only [Instr.indexAt, asIntOf, Sem.run_bind, Sem.run_pure, Result.andThen_ok, r1]
        rw [h2]
        simp [h0, h1, r2]
      · intro j x hx; rw [addr_add_add]; exact h8 a n.toNat j _ x rfl hg hx
      · intro j x hx; exact h9 n.toNat j _ x hg hx

theorem aindex_sound [GTab] {P : Program} {t : TypeId} {x i : AV} {vx vi : Value} {E : Env} {ok : Prop} {r : AV} {w : World} {n : Nat} (hx : Rel E x vx) (hi : Rel E i vi) (hl : Lt n x) (h : aindex P t x i = some (ok, r)) (hok : ok) :
    ∃ v, (Instr.indexAt t vx vi).run P w = .ok v w ∧ Rel E r v ∧ Lt n r := by
  unfold aindex at h
  split at h
  · rename_i k m
    obtain rfl := hi.p_inv
    split at h
    · obtain ⟨⟨e, sz⟩, hte, he⟩ := Option.map_eq_some_iff.1 h
      simp only [Prod.mk.injEq] at he
      obtain ⟨rfl, rfl⟩ := he
      obtain ⟨rfl, h0, h1⟩ := hok
      obtain ⟨u, hu, hp⟩ := index_sl (P := P) (w := w) (k := k) hx.sl_inv hte h0 h1
      exact ⟨u, hu, .pure hp, .ep _⟩
    · rename_i id off
      obtain ⟨⟨len, e, sz⟩, hta, he⟩ := Option.map_eq_some_iff.1 h
      simp only [Prod.mk.injEq] at he
      obtain ⟨rfl, rfl⟩ := he
      obtain ⟨h0, h1⟩ := hok
      obtain ⟨r1, r2, r3⟩ := ta_run hta w
      obtain ⟨b, rfl, hb⟩ := hx.bp_inv
      refine ⟨_, ?_, .bp (off := off + m.toNat * sz) hb, .bp hl.bp_inv⟩
      have h1' : m < (len : Int) := h1
      simp [Instr.indexAt, asIntOf, r1, Instr.sureAddr, h0, h1', r2, addr_add_lit]
    · rename_i cs
      obtain ⟨⟨len, e, sz⟩, hta, he⟩ := Option.map_eq_some_iff.1 h
      simp only [Prod.mk.injEq] at he
      obtain ⟨rfl, rfl⟩ := he
      obtain ⟨h0, h1⟩ := hok
      obtain ⟨r1, r2, r3⟩ := ta_run hta w
      obtain ⟨a, us, rfl, h2, h3⟩ := hx.ep_inv
      have h1' : m < (len : Int) := h1
      refine ⟨.pointer (some (a.add (m.toNat * sz))), ?_, .pure (.ep (fun j => us (m.toNat * sz + j)) ?_ ?_), .ep _⟩
      · simp [Instr.indexAt, asIntOf, r1, Instr.sureAddr, h0, h1', r2]
      · intro j x hx; rw [addr_add_add]; exact h2 _ x (by simpa using hx)
      · intro j x hx; exact h3 _ x (by simpa using hx)
    · cases h
  · cases h

/-- A bound of a cut: a number, or what stands for none. -/
def bnd (d : Int) : Option AV → Option Int
  | none => some d
  | some (.p (.int _ n)) => some n
  | _ => none

def aslice (P : Program) (t : TypeId) (x : AV) (lo hi mx : Option AV) : Option (Prop × AV) :=
  match x with
  | .st s =>
    match P.underlying t, bnd 0 lo, bnd s.length hi, mx with
    | some .string, some l, some h, none => some (0 ≤ l ∧ l ≤ h ∧ h ≤ s.length, .st ((s.take h.toNat).drop l.toNat))
    | _, _, _, _ => none
  | .sl size els cap =>
    match te P t, bnd 0 lo, bnd els.length hi, mx with
    | some (_, sz), some l, some h, none => some (sz = size ∧ 0 ≤ l ∧ l ≤ h ∧ h ≤ els.length, .sl size ((els.take h.toNat).drop l.toNat) (cap.map (· - l.toNat)))
    | some (_, sz), some l, some h, some (.p (.int _ m)) => some (sz = size ∧ hi.isSome = true ∧ 0 ≤ l ∧ l ≤ h ∧ h ≤ m ∧ m ≤ els.length, .sl size ((els.take h.toNat).drop l.toNat) (some (m.toNat - l.toNat)))
    | _, _, _, _ => none
  | _ => none

/-- Bounds, as they are reckoned. -/
theorem sliceBound_ok {P : Program} {k : IntKind} {i : Int} {y : Nat} {code : BoundsCode} {w : World} (h0 : 0 ≤ i) (h1 : i ≤ y) : (Instr.sliceBound (.int k i) y code).run P w = .ok i.toNat w := by
  simp [Instr.sliceBound, asIntOf, h0, h1]

def RelO (E : Env) : Option AV → Option Value → Prop
  | none, none => True
  | some x, some v => Rel E x v
  | _, _ => False

theorem bnd_some {d h : Int} {x : AV} (e : bnd d (some x) = some h) : ∃ k, x = .p (.int k h) := by
  cases x <;> simp [bnd] at e
  rename_i u
  cases u <;> simp [bnd] at e
  subst e
  exact ⟨_, rfl⟩
theorem bounds_ok [GTab] {P : Program} {E : Env} {isS : Bool} {len cap : Nat} {lo hi : Option AV} {vlo vhi : Option Value} {l h : Int} {w : World}
    (rlo : RelO E lo vlo) (rhi : RelO E hi vhi) (hl : bnd 0 lo = some l) (hh : bnd len hi = some h) (h0 : 0 ≤ l) (h1 : l ≤ h) (h2 : h ≤ len) (h3 : len ≤ cap) :
    (Instr.sliceBounds isS len cap vlo vhi none).run P w = .ok (l.toNat, h.toNat, cap) w := by
  have hb1 : ∀ code, (Instr.sliceBound (.int .i64 h) cap code).run P w = .ok h.toNat w := fun code => sliceBound_ok (by omega) (by omega)
  cases hi with
  | none =>
    cases vhi with
    | some v => exact rhi.elim
    | none =>
      have hh' : h = (len : Int) := by simpa [bnd] using hh.symm
      subst hh'
      cases lo with
      | none =>
        cases vlo with
        | some v => exact rlo.elim
        | none =>
          have hl' : l = 0 := by simpa [bnd] using hl.symm
          subst hl'
          simp [Instr.sliceBounds]
      | some x =>
        cases vlo with
        | none => exact rlo.elim
        | some v =>
          obtain ⟨k, rfl⟩ := bnd_some hl
          obtain rfl := Rel.p_inv rlo
          simp [Instr.sliceBounds, sliceBound_ok h0 h1]
  | some xh =>
    cases vhi with
    | none => exact rhi.elim
    | some vh =>
      obtain ⟨kh, rfl⟩ := bnd_some hh
      obtain rfl := Rel.p_inv rhi
      have hb : ∀ code, (Instr.sliceBound (.int kh h) cap code).run P w = .ok h.toNat w := fun code => sliceBound_ok (by omega) (by omega)
      cases lo with
      | none =>
        cases vlo with
        | some v => exact rlo.elim
        | none =>
          have hl' : l = 0 := by simpa [bnd] using hl.symm
          subst hl'
          simp [Instr.sliceBounds, hb]
      | some x =>
        cases vlo with
        | none => exact rlo.elim
        | some v =>
          obtain ⟨k, rfl⟩ := bnd_some hl
          obtain rfl := Rel.p_inv rlo
          simp [Instr.sliceBounds, hb, sliceBound_ok (P := P) (w := w) (y := h.toNat) h0 (show l ≤ ((h.toNat : Nat) : Int) by omega)]

theorem bounds3_ok [GTab] {P : Program} {E : Env} {isS : Bool} {len cap : Nat} {lo : Option AV} {xh : AV} {vlo : Option Value} {vh : Value} {k : IntKind} {l h m : Int} {w : World}
    (rlo : RelO E lo vlo) (rhi : Rel E xh vh) (hl : bnd 0 lo = some l) (hh : bnd len (some xh) = some h) (h0 : 0 ≤ l) (h1 : l ≤ h) (h2 : h ≤ m) (h3 : m ≤ len) (h4 : len ≤ cap) :
    (Instr.sliceBounds isS len cap vlo (some vh) (some (.int k m))).run P w = .ok (l.toNat, h.toNat, m.toNat) w := by
  obtain ⟨kh, rfl⟩ := bnd_some hh
  obtain rfl := Rel.p_inv rhi
  have hm : ∀ code, (Instr.sliceBound (.int k m) cap code).run P w = .ok m.toNat w := fun code => sliceBound_ok (by omega) (by omega)
  have hb : ∀ code, (Instr.sliceBound (.int kh h) m.toNat code).run P w = .ok h.toNat w := fun code => sliceBound_ok (by omega) (by omega)
  cases lo with
  | none =>
    cases vlo with
    | some v => exact rlo.elim
    | none =>
      have hl' : l = 0 := by simpa [bnd] using hl.symm
      subst hl'
      simp [Instr.sliceBounds, hm, hb]
  | some x =>
    cases vlo with
    | none => exact rlo.elim
    | some v =>
      obtain ⟨k', rfl⟩ := bnd_some hl
      obtain rfl := Rel.p_inv rlo
      simp [Instr.sliceBounds, hm, hb, sliceBound_ok (P := P) (w := w) (y := h.toNat) h0 (show l ≤ ((h.toNat : Nat) : Int) by omega)]

theorem sl_cut [GTab] {S : Addr → Option Value} {size : Nat} {els : List (List AV)} {cap : Option Nat} {a : Option Addr} {n c : Nat} {l h m : Nat} {cap' : Option Nat}
    (hx : PRel S (.sl size els cap) (.slice a n c)) (h1 : l ≤ h) (h2 : h ≤ els.length) (h3 : h ≤ m) (h4 : m ≤ c) (hc : ∀ k, cap' = some k → m - l = k) :
    PRel S (.sl size ((els.take h).drop l) cap') (.slice (if m = l then a else a.map (·.add (l * size))) (h - l) (m - l)) := by
  cases hx with
  | @sl _ _ _ _ _ _ us g1 g2 g3 g4 g5 g6 g7 g8 =>
    have hlen : ((els.take h).drop l).length = h - l := by simp; omega
    have hget : ∀ (i : Nat) (e : List AV), ((els.take h).drop l)[i]? = some e → els[l + i]? = some e ∧ l + i < h := by
      intro i e he
      rw [List.getElem?_drop, List.getElem?_take] at he
      split at he
      · exact ⟨he, by assumption⟩
      · cases he
    refine .sl (fun i j => us (l + i) j) hlen.symm (by omega) (by omega) hc (fun e he => ?_) (fun ha => ?_) (fun ad i j e x had he hx => ?_) (fun i j e x he hx => g8 (l + i) j e x (hget i e he).1 hx)
    · exact g5 e (List.mem_of_mem_take (List.mem_of_mem_drop he))
    · by_cases hm : m = l
      · have : h = l := by omega
        subst this
        exact ⟨List.eq_nil_of_length_eq_zero (by omega), by omega⟩
      · rw [if_neg hm] at ha
        cases a with
        | none => obtain ⟨e1, e2⟩ := g6 rfl; omega
        | some a => simp at ha
    · obtain ⟨he', hlt⟩ := hget i e he
      have hm : ¬ m = l := by omega
      rw [if_neg hm] at had
      cases a with
      | none => simp at had
      | some a =>
        simp at had
        subst had
        rw [addr_add_add, show l * size + (i * size + j) = (l + i) * size + j by rw [Nat.add_mul]; omega]
        exact g7 a (l + i) j e x rfl he' hx

theorem aslice_sl [GTab] {P : Program} {E : Env} {t : TypeId} {size : Nat} {els : List (List AV)} {cap : Option Nat} {v : Value} {lo hi mx : Option AV} {vlo vhi vmx : Option Value} {w : World} {e : TypeId} {l h : Int}
    (hx : PRel E.S (.sl size els cap) v) (rlo : RelO E lo vlo) (rhi : RelO E hi vhi) (rmx : RelO E mx vmx) (ht : te P t = some (e, size)) (hl : bnd 0 lo = some l) (hh : bnd els.length hi = some h) (h0 : 0 ≤ l) (h1 : l ≤ h) :
    (mx = none → h ≤ els.length → ∃ u, (Instr.sliceAt t v vlo vhi vmx).run P w = .ok u w ∧ ∀ cap', cap' = none ∨ cap' = cap.map (· - l.toNat) → PRel E.S (.sl size ((els.take h.toNat).drop l.toNat) cap') u) ∧
    (∀ k m, mx = some (.p (.int k m)) → hi.isSome = true → h ≤ m → m ≤ els.length → ∃ u, (Instr.sliceAt t v vlo vhi vmx).run P w = .ok u w ∧ PRel E.S (.sl size ((els.take h.toNat).drop l.toNat) (some (m.toNat - l.toNat))) u) := by
  obtain ⟨r1, r2, r3⟩ := te_run ht w
  have hx' := hx
  cases hx with
  | @sl _ _ _ a n c us g1 g2 g3 g4 g5 g6 g7 g8 =>
    subst g1
    refine ⟨fun hm hle => ?_, fun k m hm hsome hle1 hle2 => ?_⟩
    · subst hm
      cases vmx with
      | some v => exact rmx.elim
      | none =>
        have hb := bounds_ok (P := P) (w := w) (isS := true) (cap := c) rlo rhi hl hh h0 h1 (by omega) g2
        refine ⟨_, ?_, fun cap' hcap => sl_cut (m := c) hx' (l := l.toNat) (h := h.toNat) (by omega) (by omega) (by omega) (by omega) ?_⟩
        · simp [Instr.sliceAt, Instr.slice, r1, hb, r2]
        · intro k hk
          rcases hcap with rfl | rfl
          · cases hk
          · cases cap with
            | none => simp at hk
            | some q => simp at hk; have := g4 q rfl; omega
    · subst hm
      cases vmx with
      | none => exact rmx.elim
      | some vm =>
        obtain rfl := Rel.p_inv rmx
        cases hi with
        | none => simp at hsome
        | some xh =>
          cases vhi with
          | none => exact rhi.elim
          | some vh =>
            have hb := bounds3_ok (P := P) (w := w) (isS := true) (cap := c) (k := k) rlo rhi hl hh h0 h1 hle1 hle2 g2
            refine ⟨_, ?_, sl_cut (m := m.toNat) hx' (l := l.toNat) (h := h.toNat) (by omega) (by omega) (by omega) (by omega) ?_⟩
            · simp [Instr.sliceAt, Instr.slice, r1, hb, r2]
            · intro q hq; cases hq; rfl

theorem aslice_sound [GTab] {P : Program} {t : TypeId} {x : AV} {lo hi mx : Option AV} {vx : Value} {vlo vhi vmx : Option Value} {E : Env} {ok : Prop} {r : AV} {w : World} {n : Nat}
    (hx : Rel E x vx) (rlo : RelO E lo vlo) (rhi : RelO E hi vhi) (rmx : RelO E mx vmx) (h : aslice P t x lo hi mx = some (ok, r)) (hok : ok) :
    ∃ v, (Instr.sliceAt t vx vlo vhi vmx).run P w = .ok v w ∧ Rel E r v ∧ Lt n r := by
  unfold aslice at h
  split at h
  · rename_i s
    obtain rfl := hx.st_inv
    split at h
    · rename_i l h' hu hl hh
      simp only [Option.some.injEq, Prod.mk.injEq] at h
      obtain ⟨rfl, rfl⟩ := h
      obtain ⟨h0, h1, h2⟩ := hok
      cases vmx with
      | some v => exact rmx.elim
      | none =>
        have hb := bounds_ok (P := P) (w := w) (isS := false) (cap := s.length) rlo rhi hl hh h0 h1 h2 (Nat.le_refl _)
        have he : (⟨s.toArray⟩ : ByteArray).extract l.toNat h'.toNat = ⟨((s.take h'.toNat).drop l.toNat).toArray⟩ := by
          apply ByteArray.ext
          rw [ByteArray.data_extract]
          apply Array.ext'
          simp [List.extract_eq_take_drop, List.drop_take]
        exact ⟨_, by simp [Instr.sliceAt, Instr.slice, underlying, hu, st_size, hb, he], .pure (.st _), .st _⟩
    · cases h
  · rename_i size els cap
    cases hx with | pure hx =>
    split at h
    · rename_i e sz l h' ht hl hh
      simp only [Option.some.injEq, Prod.mk.injEq] at h
      obtain ⟨rfl, rfl⟩ := h
      obtain ⟨rfl, h0, h1, h2⟩ := hok
      obtain ⟨u, hu, hp⟩ := (aslice_sl (P := P) (w := w) hx rlo rhi rmx ht hl hh h0 h1).1 rfl h2
      exact ⟨u, hu, .pure (hp _ (.inr rfl)), .sl _ _ _⟩
    · rename_i e sz l h' k m ht hl hh
      simp only [Option.some.injEq, Prod.mk.injEq] at h
      obtain ⟨rfl, rfl⟩ := h
      obtain ⟨rfl, hs, h0, h1, h2, h3⟩ := hok
      obtain ⟨u, hu, hp⟩ := (aslice_sl (P := P) (w := w) hx rlo rhi rmx ht hl hh h0 h1).2 k m rfl hs h2 h3
      exact ⟨u, hu, .pure hp, .sl _ _ _⟩
    · cases h
  · cases h
end Go.Up
