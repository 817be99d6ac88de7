/- Up, part d: the other operations that turn nothing, and all of them in one table. -/
import Derived.Test.YtppobdnacmdgbaaDoorUc
set_option linter.unusedVariables false
set_option linter.unusedSimpArgs false
namespace Go.Up
open Go.RowKit

/-- A part of an aggregate value. -/
theorem part_known [GTab] {P : Program} {w : World} {t : TypeId} {b : Bool} {n : Nat} {l : List AV} {vs : List Value} {E : Env} {r : AV} {off : Nat}
    (hk : tk P t = some (b, n)) (hr : Rels E l vs) (h : cellsOf (l.drop off) b n = some r) :
    ∃ v, (part t vs.toArray off).run P w = .ok v w ∧ Rel E r v := by
  unfold cellsOf at h
  cases b with
  | true =>
    simp only [if_true] at h
    split at h
    · rename_i hle
      cases h
      refine ⟨.agg ((vs.drop off).take n).toArray, ?_, .agg ((hr.drop off).take n).1 ((hr.drop off).take n).2⟩
      simp only [part, Sem.run_bind, tk_isAgg hk, Result.andThen_ok, if_true, tk_sizeOf hk, Sem.run_pure]
      simp [List.take_drop]
    · cases h
  | false =>
    simp only [Bool.false_eq_true, if_false] at h
    have hx : l[off]? = some r := by
      rw [List.head?_eq_getElem?, List.getElem?_drop] at h
      simpa using h
    obtain ⟨v, hv, hrel⟩ := hr.getElem hx
    refine ⟨v, ?_, hrel⟩
    simp only [part, Sem.run_bind, tk_isAgg hk, Result.andThen_ok, Bool.false_eq_true, if_false]
    simp [hv]

theorem Rel.agg_inv [GTab] {E : Env} {l : List AV} {u : Value} (h : Rel E (.agg l) u) : ∃ vs : List Value, u = .agg vs.toArray ∧ Rels E l vs := by
  cases h with
  | pure h =>
    cases h with
    | agg h1 h2 => exact ⟨_, rfl, rels_of_prels h1 h2⟩
  | agg h1 h2 => exact ⟨_, rfl, h1, h2⟩
theorem Rel.tup_inv [GTab] {E : Env} {l : List AV} {u : Value} (h : Rel E (.tup l) u) : ∃ vs : List Value, u = .tuple vs.toArray ∧ Rels E l vs := by
  cases h with
  | pure h =>
    cases h with
    | tup h1 h2 => exact ⟨_, rfl, rels_of_prels h1 h2⟩
  | tup h1 h2 => exact ⟨_, rfl, h1, h2⟩
theorem Rel.fn_inv {E : Env} {f : Fn} {l m : List AV} {u : Value} (h : Rel E (.fn f l m) u) : ∃ vs us : List Value, u = .func f vs.toArray us.toArray ∧ Rels E l vs ∧ Rels E m us := by
  cases h with
  | pure h => cases h
  | fn h1 h2 h3 h4 => exact ⟨_, _, rfl, ⟨h1, h3⟩, ⟨h2, h4⟩⟩
theorem arr_map {α β : Type} (f : α → β) (xs : Array α) : xs.map f = (xs.toList.map f).toArray := by rw [← Array.toList_map, Array.toArray_toList]
theorem Lt.agg_inv {n : Nat} {l : List AV} (h : Lt n (.agg l)) : ∀ (i : Nat) (x : AV), l[i]? = some x → Lt n x := by
  cases h with
  | agg h => exact h
theorem Lt.tup_inv {n : Nat} {l : List AV} (h : Lt n (.tup l)) : ∀ (i : Nat) (x : AV), l[i]? = some x → Lt n x := by
  cases h with
  | tup h => exact h

def afieldv (P : Program) (t : TypeId) (x : AV) (f : Nat) : Option AV :=
  match fo P t f, x with
  | some (off, ft), .agg l =>
    match tk P ft with
    | some (b, n) => cellsOf (l.drop off) b n
    | none => none
  | _, _ => none
theorem lt_drop {n off : Nat} {l : List AV} (h : ∀ (i : Nat) (x : AV), l[i]? = some x → Lt n x) : ∀ (i : Nat) (x : AV), (l.drop off)[i]? = some x → Lt n x :=
  fun i x hx => h (off + i) x (by simpa using hx)
theorem afieldv_sound [GTab] {P : Program} {t : TypeId} {f : Nat} {x : AV} {vx : Value} {E : Env} {r : AV} {w : World} {n : Nat} (hx : Rel E x vx) (hl : Lt n x) (h : afieldv P t x f = some r) :
    ∃ v, (Instr.field t vx f).run P w = .ok v w ∧ Rel E r v ∧ Lt n r := by
  unfold afieldv at h
  split at h
  · rename_i off ft l hf
    obtain ⟨fs, g, hu, hg, rfl, rfl⟩ := fo_run hf
    split at h
    · rename_i b m hk
      obtain ⟨vs, rfl, hr⟩ := hx.agg_inv
      obtain ⟨v, hv, hrel⟩ := part_known (P := P) (w := w) hk hr h
      exact ⟨v, by simp [Instr.field, underlying, hu, hg, asAgg, hv], hrel, cellsOf_lt h (lt_drop hl.agg_inv)⟩
    · cases h
  · cases h

def aindexv (P : Program) (t : TypeId) (x i : AV) : Option (Prop × AV) :=
  match i with
  | .p (.int _ n) =>
    match x with
    | .st s =>
      match P.underlying t with
      | some .string => some (0 ≤ n ∧ n < s.length, .p (.int .u8 (s.getD n.toNat 0).toNat))
      | _ => none
    | .agg l =>
      match ta P t with
      | some (len, e, sz) =>
        match tk P e with
        | some (b, m) => (cellsOf (l.drop (n.toNat * sz)) b m).map fun r => (0 ≤ n ∧ n < len, r)
        | none => none
      | none => none
    | _ => none
  | _ => none
theorem aindexv_sound [GTab] {P : Program} {t : TypeId} {x i : AV} {vx vi : Value} {E : Env} {ok : Prop} {r : AV} {w : World} {n : Nat} (hx : Rel E x vx) (hi : Rel E i vi) (hl : Lt n x) (h : aindexv P t x i = some (ok, r)) (hok : ok) :
    ∃ v, (Instr.index t vx vi).run P w = .ok v w ∧ Rel E r v ∧ Lt n r := by
  unfold aindexv at h
  split at h
  · rename_i k m
    obtain rfl := hi.p_inv
    split at h
    · rename_i s
      obtain rfl := hx.st_inv
      split at h
      · rename_i hu
        simp only [Option.some.injEq, Prod.mk.injEq] at h
        obtain ⟨rfl, rfl⟩ := h
        obtain ⟨h0, h1⟩ := hok
        have hlt : m.toNat < s.length := by omega
        refine ⟨_, ?_, .pure (.p _), .p _⟩
        have hs : (⟨s.toArray⟩ : ByteArray)[m.toNat]? = some (s.getD m.toNat 0) := by
          have hlt' : m.toNat < (⟨s.toArray⟩ : ByteArray).size := hlt
          rw [getElem?_pos (⟨s.toArray⟩ : ByteArray) m.toNat hlt']
          congr 1
          have e1 : s.getD m.toNat 0 = s[m.toNat] := by rw [List.getD_eq_getElem?_getD, List.getElem?_eq_getElem hlt]; rfl
          rw [e1]; rfl
        simp [Instr.index, asIntOf, underlying, hu, h0, hs]
      · cases h
    · rename_i l
      obtain ⟨vs, rfl, hr⟩ := hx.agg_inv
      split at h
      · rename_i len e sz hta
        obtain ⟨r1, r2, r3⟩ := ta_run hta w
        split at h
        · rename_i b q hk
          obtain ⟨x', hx', he⟩ := Option.map_eq_some_iff.1 h
          simp only [Prod.mk.injEq] at he
          obtain ⟨rfl, rfl⟩ := he
          obtain ⟨h0, h1⟩ := hok
          obtain ⟨v, hv, hrel⟩ := part_known (P := P) (w := w) hk hr hx'
          exact ⟨v, by simp [Instr.index, asIntOf, r1, h0, h1, r2, hv], hrel, cellsOf_lt hx' (lt_drop hl.agg_inv)⟩
        · cases h
      · cases h
    · cases h
  · cases h

/-- Values built of parts: the cells that are said, the others nought. -/
def setAt (cells : List AV) (off : Nat) (xs : List AV) : List AV := cells.take off ++ xs ++ cells.drop (off + xs.length)
def AV.cells : AV → List AV
  | .agg l => l
  | x => [x]
def fillA (place : Nat → Option (Nat × Nat)) (cells : List AV) : List (Nat × AV) → Option (List AV)
  | [] => some cells
  | (i, x) :: rest =>
    match place i with
    | none => none
    | some (off, size) => if x.cells.length = size ∧ off + size ≤ cells.length then fillA place (setAt cells off x.cells) rest else none

theorem foldl_set [GTab] (off : Nat) : ∀ (xs : List Value) (k : Nat) (cells : List Value), off + k + xs.length ≤ cells.length →
    ((xs.zipIdx k).foldl (fun cs (c : Value × Nat) => cs.setIfInBounds (off + c.2) c.1) cells.toArray) = (cells.take (off + k) ++ xs ++ cells.drop (off + k + xs.length)).toArray
  | [], k, cells, h => by simp
  | x :: xs, k, cells, h => by
    simp only [List.zipIdx_cons, List.foldl_cons, List.length_cons] at h ⊢
    have e : cells.toArray.setIfInBounds (off + k) x = (cells.set (off + k) x).toArray := by simp
    rw [e, foldl_set off xs (k + 1) (cells.set (off + k) x) (by simp; omega)]
    have t1 : (cells.set (off + k) x).take (off + (k + 1)) = cells.take (off + k) ++ [x] := by
      apply List.ext_getElem?
      intro i
      rw [List.getElem?_take, List.getElem?_set]
      by_cases h1 : i < off + k
      · rw [if_pos (by omega), if_neg (by omega), List.getElem?_append_left (by simp; omega), List.getElem?_take, if_pos h1]
      · rw [List.getElem?_append_right (by simp; omega)]
        by_cases h2 : i = off + k
        · subst h2
          rw [if_pos (by omega), if_pos rfl, if_pos (by omega)]
          have : off + k - (cells.take (off + k)).length = 0 := by simp; omega
          rw [this]; rfl
        · rw [if_neg (by omega)]
          have : i - (cells.take (off + k)).length = (i - (off + k) - 1) + 1 := by simp; omega
          rw [this]; simp
    have t2 : (cells.set (off + k) x).drop (off + (k + 1) + xs.length) = cells.drop (off + k + (xs.length + 1)) := by
      rw [List.drop_set_of_lt (by omega)]
      congr 1; omega
    rw [t1, t2]
    simp

theorem Rel.cells [GTab] {E : Env} {x : AV} {v : Value} (h : Rel E x v) (h1 : ∀ c, x ≠ .p (.agg c)) (h3 : x ≠ .junk) : Rels E x.cells v.cells.toList := by
  cases h with
  | pure h =>
    cases h with
    | p v =>
      cases v <;> first
        | exact .cons (.pure (.p _)) (.nil E)
        | exact absurd rfl (h1 _)
    | junk => exact absurd rfl h3
    | agg hl hr => exact rels_of_prels hl hr
    | ifc hp => exact .cons (.pure (.ifc hp)) (.nil E)
    | tup hl hr => exact .cons (.pure (.tup hl hr)) (.nil E)
    | ep us ha hb => exact .cons (.pure (.ep us ha hb)) (.nil E)
    | sl us a1 a2 a3 a4 a5 a6 a7 a8 => exact .cons (.pure (.sl us a1 a2 a3 a4 a5 a6 a7 a8)) (.nil E)
    | st => exact .cons (.pure (.st _)) (.nil E)
    | tl h =>
      have h' := h
      cases h with
      | sl => exact .cons (.pure (.tl h')) (.nil E)
  | rw a1 => exact .cons (.rw a1) (.nil E)
  | mw a1 a2 a3 a4 a5 => exact .cons (.mw a1 a2 a3 a4 a5) (.nil E)
  | ms a1 a2 a3 a4 a5 => exact .cons (.ms a1 a2 a3 a4 a5) (.nil E)
  | tp a1 => exact .cons (.tp a1) (.nil E)
  | mp a1 => exact .cons (.mp a1) (.nil E)
  | ib a1 => exact .cons (.ib a1) (.nil E)
  | bp a1 => exact .cons (.bp a1) (.nil E)
  | agg hl hr => exact ⟨hl, hr⟩
  | tup hl hr => exact .cons (.tup hl hr) (.nil E)
  | fn a1 a2 a3 a4 => exact .cons (.fn a1 a2 a3 a4) (.nil E)

/-- One cell, for certain. -/
def one : AV → Bool
  | .p (.agg _) => false
  | .p (.tuple _) => false
  | .agg _ => false
  | .tup _ => false
  | .junk => false
  | _ => true
/-- Its cells are known. -/
def known : AV → Bool
  | .p (.agg _) => false
  | .p (.tuple _) => false
  | .tup _ => false
  | .junk => false
  | .agg l => l.all one
  | _ => true
theorem Rel.cells' [GTab] {E : Env} {x : AV} {v : Value} (h : Rel E x v) (hk : known x = true) : Rels E x.cells v.cells.toList :=
  h.cells (fun c e => by subst e; simp [known] at hk) (fun e => by subst e; simp [known] at hk)
theorem Rel.one {E : Env} {x : AV} {v : Value} (h : Rel E x v) (ho : one x = true) : v.oneCell' = true := by
  cases h with
  | pure h =>
    cases h with
    | p v => cases v <;> simp_all [Up.one, Value.oneCell']
    | tl h => cases h; rfl
    | _ => first | rfl | simp [Up.one] at ho
  | _ => first | rfl | simp [Up.one] at ho
theorem known_one {x : AV} (hk : known x = true) : ∀ y ∈ x.cells, one y = true := by
  intro y hy
  cases x with
  | agg l => simp only [AV.cells] at hy; simp only [known, List.all_eq_true] at hk; exact hk y hy
  | p v =>
    simp only [AV.cells, List.mem_singleton] at hy
    subst hy
    cases v <;> first | rfl | simp [known] at hk
  | _ => first | (simp only [AV.cells, List.mem_singleton] at hy; subst hy; rfl) | simp [known] at hk

theorem fillA_sound [GTab] {E : Env} {place : Nat → Option (Nat × Nat)} : ∀ (parts : List (Nat × AV)) (vparts : List (Nat × Value)) (cells : List AV) (vcells : List Value) (r : List AV),
    vparts.length = parts.length → (∀ (i : Nat) (x : Nat × AV) (v : Nat × Value), parts[i]? = some x → vparts[i]? = some v → v.1 = x.1 ∧ Rel E x.2 v.2 ∧ known x.2 = true) → Rels E cells vcells → fillA place cells parts = some r →
    ∃ vs, Instr.fill place vcells.toArray vparts = some vs.toArray ∧ Rels E r vs
  | [], [], cells, vcells, r, _, _, hc, h => by
    simp only [fillA, Option.some.injEq] at h
    subst h
    exact ⟨vcells, rfl, hc⟩
  | [], _ :: _, _, _, _, hl, _, _, _ => by simp at hl
  | _ :: _, [], _, _, _, hl, _, _, _ => by simp at hl
  | (i, x) :: parts, (j, v) :: vparts, cells, vcells, r, hl, hp, hc, h => by
    obtain ⟨hj, hrel, hk⟩ := hp 0 _ _ rfl rfl
    simp only at hj hrel hk
    subst hj
    simp only [fillA] at h
    split at h
    · cases h
    · rename_i off size hpl
      split at h
      · rename_i hs
        have hcells := hrel.cells' hk
        have hvl : v.cells.size = x.cells.length := by have := hcells.1; simpa using this
        obtain ⟨vs, h1, h2⟩ := fillA_sound parts vparts (setAt cells off x.cells) (vcells.take off ++ v.cells.toList ++ vcells.drop (off + v.cells.toList.length)) r (by simpa using hl)
          (fun k y u hy hu => hp (k + 1) y u (by simpa using hy) (by simpa using hu))
          (by
            have e : v.cells.toList.length = x.cells.length := hcells.1
            rw [e]
            exact ((hc.take off).append hcells).append (hc.drop _)) h
        refine ⟨vs, ?_, h2⟩
        simp only [Instr.fill, hpl]
        rw [if_neg (by simp [hvl, hs.1, hc.1]; omega)]
        have := foldl_set off v.cells.toList 0 vcells (by have := hc.1; simp [hvl]; omega)
        simp only [Nat.add_zero] at this
        rw [← h1, ← this, ← Array.foldl_toList]
        simp
      · cases h

/-- What a build needs of a type: its nought, its fields' places. -/
def tb (P : Program) (t : TypeId) : Option (List Value × (Nat → Option (Nat × Nat))) :=
  match P.underlying t, (P.info? t).bind (·.zero) with
  | some (.struct fs), some z => some (z.cells.toList, fun i => (fs[i]?).bind fun (f : Go.Field) => (P.info? f.type).map fun g => (f.offset, g.size))
  | some (.array _ e), some z => some (z.cells.toList, fun i => (P.info? e).map fun g => (i * g.size, g.size))
  | _, _ => none

def flds (P : Program) (fs : Array Go.Field) : Prop := ∀ (i : Nat) (f : Go.Field), fs[i]? = some f → ∃ g, P.info? f.type = some g

def abuild (P : Program) (t : TypeId) (parts : List (Nat × AV)) : Option (Prop × AV) :=
  match tb P t with
  | some (z, place) =>
    (fillA place (z.map nv) parts).map fun l => ((∀ x ∈ parts, known x.2 = true) ∧ (∀ fs, P.underlying t = some (.struct fs) → flds P fs) ∧ (∀ n e, P.underlying t = some (.array n e) → ∃ g, P.info? e = some g), .agg l)
  | none => none

theorem mapM_places [GTab] {P : Program} {w : World} : ∀ (fs : List Go.Field), (∀ f ∈ fs, ∃ g, P.info? f.type = some g) →
    (fs.mapM fun (f : Go.Field) => (do pure (f.offset, ← sizeOf f.type) : Sem (Nat × Nat))).run P w = .ok (fs.map fun (f : Go.Field) => (f.offset, ((P.info? f.type).map (·.size)).getD 0)) w
  | [], _ => by simp
  | f :: fs, h => by
    obtain ⟨g, hg⟩ := h f (by simp)
    have ih := mapM_places (P := P) (w := w) fs (fun f hf => h f (by simp [hf]))
    simp only [List.mapM_cons, Sem.run_bind, sizeOf, typeInfo, run_program, Result.andThen_ok, hg, Sem.run_pure, List.map_cons, Option.map_some, Option.getD_some]
    simp only [sizeOf, typeInfo] at ih
    rw [ih]
    rfl

theorem abuild_sound [GTab] {P : Program} {t : TypeId} {parts : List (Nat × AV)} {vparts : List (Nat × Value)} {E : Env} {ok : Prop} {r : AV} {w : World} {n : Nat}
    (hl : vparts.length = parts.length) (hp : ∀ (i : Nat) (x : Nat × AV) (v : Nat × Value), parts[i]? = some x → vparts[i]? = some v → v.1 = x.1 ∧ Rel E x.2 v.2) (hlt : ∀ x ∈ parts, Lt n x.2)
    (h : abuild P t parts = some (ok, r)) (hok : ok) :
    ∃ v, (Instr.build t vparts.toArray).run P w = .ok v w ∧ Rel E r v ∧ Lt n r := by
  unfold abuild at h
  split at h
  · rename_i z place htb
    obtain ⟨l, hf, he⟩ := Option.map_eq_some_iff.1 h
    simp only [Prod.mk.injEq] at he
    obtain ⟨rfl, rfl⟩ := he
    obtain ⟨hknown, hflds, harr⟩ := hok
    have hz : Rels E (z.map nv) z := ⟨by simp, fun i x v hx hv => by
      rw [List.getElem?_map, hv] at hx
      cases hx
      exact nv_rel E v⟩
    obtain ⟨vs, h1, h2⟩ := fillA_sound (E := E) (place := place) parts vparts (z.map nv) z l hl (fun i x v hx hv => ⟨(hp i x v hx hv).1, (hp i x v hx hv).2, hknown x (List.mem_of_getElem? hx)⟩) hz hf
    refine ⟨.agg vs.toArray, ?_, .agg h2.1 h2.2, ?_⟩
    · unfold tb at htb
      split at htb
      · rename_i fs z0 hu hz0
        simp only [Option.some.injEq, Prod.mk.injEq] at htb
        obtain ⟨rfl, rfl⟩ := htb
        obtain ⟨i0, hi0, hzz⟩ := Option.bind_eq_some_iff.1 hz0
        have hm := mapM_places (P := P) (w := w) fs.toList (fun f hf => by
          obtain ⟨i, hi⟩ := List.getElem?_of_mem hf
          exact hflds fs hu i f (by simpa using hi))
        have hm' : (fs.mapM fun (f : Go.Field) => (do pure (f.offset, ← sizeOf f.type) : Sem (Nat × Nat))).run P w = .ok (fs.toList.map fun (f : Go.Field) => (f.offset, ((P.info? f.type).map (·.size)).getD 0)).toArray w := by
          rw [Array.mapM_eq_mapM_toList, Sem.run_map, hm]
          simp
        have hpl : (fun (i : Nat) => ((fs.toList.map fun (f : Go.Field) => (f.offset, ((P.info? f.type).map (·.size)).getD 0)).toArray)[i]?) = fun (i : Nat) => (fs[i]?).bind fun (f : Go.Field) => (P.info? f.type).map fun g => (f.offset, g.size) := by
          funext i
          simp only [List.getElem?_toArray, List.getElem?_map, Array.getElem?_toList]
          cases hfi : fs[i]? with
          | none => rfl
          | some f => obtain ⟨g, hg⟩ := hflds fs hu i f hfi; simp [hg]
        have h1' := h1
        rw [← hpl] at h1'
        have e0 : z0.cells = z0.cells.toList.toArray := by simp
        rw [← e0] at h1'
        simp only [Instr.build, Sem.run_bind, zeroValue, typeInfo, run_program, Result.andThen_ok, hi0, Sem.run_pure, hzz, underlying, hu]
        rw [hm']
        simp only [Result.andThen_ok]
        rw [h1']
        rfl
      · rename_i len e z0 hu hz0
        simp only [Option.some.injEq, Prod.mk.injEq] at htb
        obtain ⟨rfl, rfl⟩ := htb
        obtain ⟨i0, hi0, hzz⟩ := Option.bind_eq_some_iff.1 hz0
        obtain ⟨g, hg⟩ := harr len e hu
        have hpl : (fun i => some (i * g.size, g.size)) = fun i : Nat => (P.info? e).map fun g => (i * g.size, g.size) := by
          funext i; simp [hg]
        have h1' := h1
        rw [← hpl] at h1'
        have e0 : z0.cells = z0.cells.toList.toArray := by simp
        rw [← e0] at h1'
        simp only [Instr.build, Sem.run_bind, zeroValue, typeInfo, run_program, Result.andThen_ok, hi0, Sem.run_pure, hzz, underlying, hu, sizeOf, hg]
        rw [h1']
        rfl
      · cases htb
    · refine .agg fun i x hx => ?_
      -- every cell is nought, or a part's
      have key : ∀ (parts : List (Nat × AV)) (cells r : List AV), (∀ x ∈ parts, Lt n x.2) → (∀ (i : Nat) (x : AV), cells[i]? = some x → Lt n x) → fillA place cells parts = some r → ∀ (i : Nat) (x : AV), r[i]? = some x → Lt n x := by
        intro parts
        induction parts with
        | nil => intro cells r _ hc h; simp only [fillA, Option.some.injEq] at h; subst h; exact hc
        | cons p parts ih =>
          intro cells r hp hc h
          obtain ⟨j, y⟩ := p
          simp only [fillA] at h
          split at h
          · cases h
          · split at h
            · refine ih _ r (fun x hx => hp x (by simp [hx])) (fun i x hx => ?_) h
              have hy := hp (j, y) (by simp)
              have hyc : ∀ c ∈ y.cells, Lt n c := by
                intro c hc
                cases y with
                | agg l => obtain ⟨q, hq⟩ := List.getElem?_of_mem hc; exact hy.agg_inv q c hq
                | _ => simp only [AV.cells, List.mem_singleton] at hc; subst hc; exact hy
              have hm := List.mem_of_getElem? hx
              simp only [setAt, List.mem_append] at hm
              rcases hm with (hm | hm) | hm
              · obtain ⟨q, hq⟩ := List.getElem?_of_mem (List.mem_of_mem_take hm); exact hc q x hq
              · exact hyc x hm
              · obtain ⟨q, hq⟩ := List.getElem?_of_mem (List.mem_of_mem_drop hm); exact hc q x hq
            · cases h
      exact key parts (z.map nv) l hlt (fun i x hx => by
        rw [List.getElem?_map] at hx
        obtain ⟨v, _, rfl⟩ := Option.map_eq_some_iff.1 hx
        exact nv_lt n v) hf i x hx
  · cases h

theorem getObj_map {P : Program} {w : World} {b : Nat} {es : Array MapEntry} {clk : Nat} (h : w.heap[b]? = some (.map es clk)) : (getObj b).run P w = .ok (.map es clk) w := by
  simp [getObj, Sem.run, h]
def alend (h : AH) (d : TypeDesc) (x : AV) : Option AV :=
  match d, x with
  | .string, .st s => some (.p (.int .i64 s.length))
  | .slice _, .p (.slice _ n _) => some (.p (.int .i64 n))
  | .slice _, .sl _ els _ => some (.p (.int .i64 els.length))
  | .slice _, .tl _ l _ => some (.p (.int .i64 l.length))
  | .slice _, .ms _ _ n => some (.p (.int .i64 n))
  | .slice _, .rw id =>
    match h.o id with
    | some (.trow _ l) => some (.p (.int .i64 l.length))
    | _ => none
  | .slice _, .mw id =>
    match h.o id with
    | some (.tarr _ l) => some (.p (.int .i64 l.length))
    | _ => none
  | .map _ _, .mp id =>
    match h.o id with
    | some (.tmap _ _ l) => some (.p (.int .i64 l.length))
    | _ => none
  | .array n _, _ => some (.p (.int .i64 n))
  | _, _ => none
def alen (P : Program) (h : AH) (t : TypeId) (x : AV) : Option AV := (P.underlying t).bind fun d => alend h d x
theorem alen_sound [GTab] {P : Program} {t ty : TypeId} {x : AV} {vx : Value} {E : Env} {r : AV} {w : World} {h : AH} (hh : HRel E h w) (hx : Rel E x vx) (hlt : Lt h.n x) (hl : alen P h t x = some r) :
    ∃ v, (Builtin.len_ #[t] ty #[vx]).run P w = .ok v w ∧ r = .p v := by
  unfold alen at hl
  obtain ⟨dd, hu, hl⟩ := Option.bind_eq_some_iff.1 hl
  unfold alend at hl
  split at hl <;> first | (cases hl; done) | skip
  · cases hl
    obtain rfl := hx.st_inv
    exact ⟨_, by simp [Builtin.len_, underlying, hu, goInt, st_size], rfl⟩
  · cases hl
    obtain rfl := hx.p_inv
    exact ⟨_, by simp [Builtin.len_, underlying, hu, goInt], rfl⟩
  · cases hl
    cases hx.sl_inv with
    | sl us h1 =>
      subst h1
      exact ⟨_, by simp [Builtin.len_, underlying, hu, goInt], rfl⟩
  · cases hl
    cases hx.tl_inv with
    | sl us h1 =>
      rw [List.length_map] at h1
      subst h1
      exact ⟨_, by simp [Builtin.len_, underlying, hu, goInt], rfl⟩
  · cases hl
    obtain ⟨b, cap, size, ln, a, c, rfl, _⟩ := hx.ms_inv
    exact ⟨_, by simp [Builtin.len_, underlying, hu, goInt], rfl⟩
  · split at hl
    · rename_i t' l ho
      cases hl
      obtain ⟨base, cap, tip, size, rfl, h1⟩ := hx.rw_inv
      obtain ⟨base', cap', h2, h3, _⟩ := hh.row _ _ _ hlt.rw_inv ho
      rw [h1] at h2
      cases h2
      exact ⟨_, by simp [Builtin.len_, underlying, hu, goInt], rfl⟩
    · cases hl
  · split at hl
    · rename_i t' l ho
      cases hl
      obtain ⟨b, cap, size, ln, a, c, rfl, h1, _⟩ := hx.mw_inv
      obtain ⟨b', cap', h2, _⟩ := hh.arr _ _ _ hlt.mw_inv ho
      rw [h1] at h2
      cases h2
      exact ⟨_, by simp [Builtin.len_, underlying, hu, goInt], rfl⟩
    · cases hl
  · split at hl
    · rename_i kt vt l ho
      cases hl
      obtain ⟨b, rfl, h1⟩ := hx.mp_inv
      obtain ⟨b', es, clk, h2, h3, h4, _⟩ := hh.map _ _ _ _ hlt.mp_inv ho
      rw [h1] at h2
      cases h2
      refine ⟨.int .i64 (es.size : Int), ?_, ?_⟩
      · simp [Builtin.len_, underlying, hu, goInt, getObj_map (P := P) h3]
      · rw [← h4]; simp
    · cases hl
  · cases hl
    exact ⟨_, by simp [Builtin.len_, underlying, hu, goInt], rfl⟩

def minI (a b : Int) : Int := bif decide (a ≤ b) then a else b
def maxI (a b : Int) : Int := bif decide (a ≤ b) then b else a
theorem minI_eq (a b : Int) : minI a b = min a b := by
  unfold minI
  rw [Int.min_def, Bool.cond_decide]
theorem maxI_eq (a b : Int) : maxI a b = max a b := by
  unfold maxI
  rw [Int.max_def, Bool.cond_decide]
def amm (mx : Bool) (x y : AV) : Option (Prop × AV) :=
  match x, y with
  | .p (.int k a), .p (.int k' b) => some (k = k', .p (.int k (if mx then maxI a b else minI a b)))
  | _, _ => none
theorem amin_sound [GTab] {P : Program} {x y : AV} {vx vy : Value} {E : Env} {ok : Prop} {r : AV} {w : World} (hx : Rel E x vx) (hy : Rel E y vy) (h : amm false x y = some (ok, r)) :
    ∃ v, (∀ ts ty, (Builtin.min_ ts ty #[vx, vy]).run P w = .ok v w) ∧ r = .p v := by
  unfold amm at h
  split at h
  · rename_i k a k' b
    obtain rfl := hx.p_inv
    obtain rfl := hy.p_inv
    simp only [Option.some.injEq, Prod.mk.injEq] at h
    obtain ⟨_, rfl⟩ := h
    refine ⟨_, fun ts ty => by simp [Builtin.min_, Builtin.min2]; rfl, ?_⟩
    simp only [Bool.false_eq_true, if_false, minI_eq, Int.min_def]
    congr 2
    split <;> split <;> omega
  · cases h
theorem amax_sound [GTab] {P : Program} {x y : AV} {vx vy : Value} {E : Env} {ok : Prop} {r : AV} {w : World} (hx : Rel E x vx) (hy : Rel E y vy) (h : amm true x y = some (ok, r)) :
    ∃ v, (∀ ts ty, (Builtin.max_ ts ty #[vx, vy]).run P w = .ok v w) ∧ r = .p v := by
  unfold amm at h
  split at h
  · rename_i k a k' b
    obtain rfl := hx.p_inv
    obtain rfl := hy.p_inv
    simp only [Option.some.injEq, Prod.mk.injEq] at h
    obtain ⟨_, rfl⟩ := h
    refine ⟨_, fun ts ty => by simp [Builtin.max_, Builtin.max2]; rfl, ?_⟩
    simp only [if_true, maxI_eq, Int.max_def]
    congr 2
    split <;> split <;> omega
  · cases h
end Go.Up
