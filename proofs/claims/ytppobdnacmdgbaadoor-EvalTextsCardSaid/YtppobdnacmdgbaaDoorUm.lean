/- Up, part m: operations that make or turn objects. -/
import Derived.Test.YtppobdnacmdgbaaDoorUl2
set_option linter.unusedVariables false
set_option linter.unusedSimpArgs false
namespace Go.Up
open Go.RowKit

/-- errors.As: its number, its target's type, the types of errors, the variable that it reads. -/
structure AsI where
  f : FuncId
  tt : TypeId
  tf : TypeId
  tc : TypeId
  g : Nat
/-- A program, and what is said of its types: the plain type of a slice type's elements; is a slice of that type such as turns. -/
structure Cfg where
  P : Program
  ety : TypeId → Option Ty
  mt : TypeId → Bool
  gs : List Nat := []
  as : Option AsI := none

section
variable {P : Program} {h : AH} {e : Operand → AV} {R : Type}

theorem cells_lt [GTab] {n : Nat} {x : AV} (h : Lt n x) : ∀ (i : Nat) (y : AV), x.cells[i]? = some y → Lt n y := by
  intro i y hy
  cases x with
  | agg l => exact h.agg_inv i y hy
  | _ =>
    simp only [AV.cells] at hy
    cases i with
    | zero => cases hy; exact h
    | succ i => cases hy

/-- A new variable. -/
theorem box_new [GTab] {E : Env} {w : World} (hh : HRel E h w) (hok : h.ok) {l : List AV} {cs : Array Value} {T : TypeId} (hr : Rels E l cs.toList) (hl : ∀ (i : Nat) (x : AV), l[i]? = some x → Lt h.n x) :
    ∃ E', Step E h w E' (h.new (.box l)) (w.alloc (.cells cs T)) ∧ Rel E' (.bp h.n 0) (.pointer (some ⟨w.heap.size, 0, none⟩)) ∧ Lt (h.new (.box l)).n (.bp h.n 0) := by
  refine ⟨_, Step.alloc (eo := .box w.heap.size) (S' := E.S) hh hok rfl rfl rfl (by simp) (fun k hk => heap_alloc_old w _ hk) (fun _ _ h => h) (fun _ _ h => .inl h)
    (fun b hb => by simp only [EO.blk, Option.some.injEq] at hb; simp [← hb]) (fun hext => ⟨_, cs, T, rfl, heap_alloc_new w _, hr.mono hl hext, S_none hh _ (Nat.le_refl _)⟩) (fun i y hy => (hl i y hy).mono (Nat.le_succ _)), .bp (by simp), .bp (by simp [AH.new])⟩

theorem store_run [GTab] {w : World} {t : TypeId} {b : Bool} {n : Nat} {blk off : Nat} {v : Value} {cs : Array Value} {T : TypeId} (hk : tk P t = some (b, n)) (hv : v.cells.size = n) (h1 : ∀ u ∈ v.cells.toList, u.oneCell' = true)
    (hheap : w.heap[blk]? = some (.cells cs T (0, 0))) (hfit : off + n ≤ cs.size) :
    (Instr.storeAt t (.pointer (some ⟨blk, off, none⟩)) v).run P w = .ok () (w.setRow blk (cs.toList.take off ++ v.cells.toList ++ cs.toList.drop (off + v.cells.toList.length)).toArray) := by
  have hst := run_storeCells_at P blk off T v.cells.toList 0 cs w hheap (by simp; omega) h1
  simp only [Nat.add_zero] at hst
  simp only [Instr.storeAt, Instr.sureAddr, Sem.run_bind, Sem.run_pure, Result.andThen_ok, storeVar, tk_sizeOf hk]
  rw [if_neg (by omega)]
  exact hst
theorem setAt_rels {E : Env} {l xs : List AV} {vs us : List Value} {off : Nat} (h : Rels E l vs) (k : Rels E xs us) : Rels E (setAt l off xs) (vs.take off ++ us ++ vs.drop (off + us.length)) := by
  rw [k.1]
  exact ((h.take off).append k).append (h.drop _)
theorem setAt_lt {n off : Nat} {l xs : List AV} (h : ∀ (i : Nat) (x : AV), l[i]? = some x → Lt n x) (k : ∀ (i : Nat) (x : AV), xs[i]? = some x → Lt n x) : ∀ (i : Nat) (x : AV), (setAt l off xs)[i]? = some x → Lt n x := by
  intro i x hx
  have hm := List.mem_of_getElem? hx
  simp only [setAt, List.mem_append] at hm
  rcases hm with (hm | hm) | hm
  · obtain ⟨q, hq⟩ := List.getElem?_of_mem (List.mem_of_mem_take hm); exact h q x hq
  · obtain ⟨q, hq⟩ := List.getElem?_of_mem hm; exact k q x hq
  · obtain ⟨q, hq⟩ := List.getElem?_of_mem (List.mem_of_mem_drop hm); exact h q x hq
theorem ones_cells [GTab] {E : Env} {x : AV} {v : Value} (hx : Rel E x v) (hk : known x = true) : ∀ u ∈ v.cells.toList, u.oneCell' = true := by
  have hcl := hx.cells' hk
  intro u hu
  obtain ⟨q, hq⟩ := List.getElem?_of_mem hu
  have hq' : q < x.cells.length := by have := (List.getElem?_eq_some_iff.1 hq).1; rw [hcl.1] at this; exact this
  exact (hcl.2 q _ u (List.getElem?_eq_getElem hq') hq).one (known_one hk _ (List.getElem_mem hq'))

theorem patch {α : Type} (l us : List α) (p : Nat) (h : p + us.length ≤ l.length) : (l.take p ++ us ++ l.drop (p + us.length)).length = l.length ∧ (∀ k, k < p ∨ p + us.length ≤ k → (l.take p ++ us ++ l.drop (p + us.length))[k]? = l[k]?) ∧ ∀ (k : Nat) (u : α), us[k]? = some u → (l.take p ++ us ++ l.drop (p + us.length))[p + k]? = some u := by
  have hp : (l.take p).length = p := by rw [List.length_take]; omega
  refine ⟨by simp only [List.length_append, hp, List.length_drop]; omega, fun k hk => ?_, fun k u hu => ?_⟩
  · rw [List.append_assoc]
    rcases hk with hk | hk
    · rw [List.getElem?_append_left (by omega), List.getElem?_take, if_pos hk]
    · rw [List.getElem?_append_right (by omega), List.getElem?_append_right (by omega), List.getElem?_drop]
      congr 1; omega
  · have hkl := (List.getElem?_eq_some_iff.1 hu).1
    rw [List.append_assoc, List.getElem?_append_right (by omega), List.getElem?_append_left (by omega)]
    rw [show p + k - (l.take p).length = k by omega]; exact hu
/-- Something is laid somewhere. -/
def stoK (P : Program) (h : AH) (t : TypeId) (a x : AV) (K : AH → AV → Option R) : Option R :=
  match tk P t with
  | some q =>
    if known x && Nat.beq x.cells.length q.2 then
      match a with
      | .bp id off =>
        match h.o id with
        | some (.box l) => if Nat.ble (off + q.2) l.length then K (h.set id (some (.box (setAt l off x.cells)))) (.p undef) else none
        | _ => none
      | .tp id i off =>
        match h.o id with
        | some (.tarr τ l) => if Nat.ble (off + q.2) (sz τ) then bindI l[i]? fun y => splitC τ y fun cs => (match full (decC h τ) (setAt cs off x.cells) with
          | some y' => K (h.set id (some (.tarr τ (l.set i y')))) (.p undef)
          | none => none) else none
        | _ => none
      | _ => none
    else none
  | none => none
theorem setAt_len {l xs : List AV} {off : Nat} (h : off + xs.length ≤ l.length) : (setAt l off xs).length = l.length := by
  simp only [setAt, List.length_append, List.length_take, List.length_drop]; omega
theorem stoK_ok [GTab] {t : TypeId} {ao xo : Operand} {K : AH → AV → Option R} {r : R} (hk : stoK P h t (e ao) (e xo) K = some r) : ∃ h' y, ImpS P h e (.store t ao xo) h' y ∧ K h' y = some r := by
  unfold stoK at hk
  split at hk
  case h_2 => cases hk
  rename_i q hq
  obtain ⟨b, n⟩ := q
  split at hk
  case isFalse => cases hk
  rename_i hc
  simp only [Bool.and_eq_true] at hc
  obtain ⟨hkn, hlen⟩ := hc
  have hlen : (e xo).cells.length = n := Nat.eq_of_beq_eq_true hlen
  split at hk
  · rename_i id off ha
    split at hk
    case h_2 => cases hk
    rename_i l ho
    split at hk
    case isFalse => cases hk
    rename_i hfit
    have hfit : off + n ≤ l.length := Nat.le_of_ble_eq_true hfit
    refine ⟨_, _, ?_, hk⟩
    intro E w vals hh hok hO o hop
    have hav := hO.rel ao (by simp [Op.operands])
    have hal := hO.lt ao (by simp [Op.operands])
    have hxv := hO.rel xo (by simp [Op.operands])
    have hxl := hO.lt xo (by simp [Op.operands])
    rw [ha] at hav hal
    obtain ⟨blk, hb, hobj⟩ := hav.bp_inv
    have hid := hal.bp_inv
    obtain ⟨blk', cs, U, g1, g2, g3, g4⟩ := hh.box id l hid ho
    rw [hobj] at g1
    cases g1
    have hcl := hxv.cells' hkn
    have hsz : cs.size = l.length := by have := g3.1; simpa using this
    have hvl : (vals xo).cells.toList.length = n := by rw [hcl.1, hlen]
    have hrun := store_run (P := P) (w := w) (off := off) hq (by simpa using hvl) (ones_cells hxv hkn) g2 (by omega)
    have hnew := setRow_heap w blk cs (cs.toList.take off ++ (vals xo).cells.toList ++ cs.toList.drop (off + (vals xo).cells.toList.length)).toArray U _ g2
    have hrun2 : (execOp vals o).run P w = .ok .skip (w.setRow blk (cs.toList.take off ++ (vals xo).cells.toList ++ cs.toList.drop (off + (vals xo).cells.toList.length)).toArray) := by
      unfold execOp
      rw [hop]
      dsimp only
      rw [hb]
      simp only [Sem.run_bind, hrun]; rfl
    unfold Lands
    rw [hrun2]
    refine ⟨E, Step.turn (b := blk) hh hok hid (by rw [ho]; simp) (by rw [hobj]; rfl) g4 rfl rfl rfl (by simp) (fun k hk => setRow_other w blk k _ hk) ?_ ?_, .pure (.p _), .p _⟩
    · exact ⟨blk, _, U, hobj, hnew, by simpa using setAt_rels (off := off) g3 hcl, g4⟩
    · exact setAt_lt (fun i z hz => hok id l i z hid ho hz) (cells_lt hxl)
  · rename_i id i off ha
    split at hk
    case h_2 => cases hk
    rename_i τ l ho
    split at hk
    case isFalse => cases hk
    rename_i hfit
    have hfit : off + n ≤ sz τ := Nat.le_of_ble_eq_true hfit
    obtain ⟨y, hy, hk⟩ := bindI_inv hk
    rw [splitC_eq] at hk
    split at hk
    case h_2 => cases hk
    rename_i y' hd
    refine ⟨_, _, ?_, hk⟩
    intro E w vals hh hok hO o hop
    have hav := hO.rel ao (by simp [Op.operands])
    have hal := hO.lt ao (by simp [Op.operands])
    have hxv := hO.rel xo (by simp [Op.operands])
    have hxl := hO.lt xo (by simp [Op.operands])
    rw [ha] at hav hal
    obtain ⟨blk, cap, size, ln, hb, hobj⟩ := hav.tp_inv
    have hid := hal.tp_inv
    obtain ⟨blk', cap', g1, g2, g3, grest⟩ := hh.arr id τ l hid ho
    rw [hobj] at g1
    cases g1
    have hcl := hxv.cells' hkn
    have hvl : (vals xo).cells.toList.length = n := by rw [hcl.1, hlen]
    have hil : i < l.length := (List.getElem?_eq_some_iff.1 hy).1
    have hpos : 0 < cap := by omega
    obtain ⟨cur, U, g4, g5, g6, g7⟩ := grest hpos
    have hbd : i * sz τ + sz τ ≤ cur.size := by
      rw [g5]
      have : (i + 1) * sz τ ≤ cap * sz τ := Nat.mul_le_mul_right _ (by omega)
      rw [Nat.add_mul] at this; omega
    have hrun := store_run (P := P) (w := w) (off := i * sz τ + off) hq (by simpa using hvl) (ones_cells hxv hkn) g4 (by omega)
    generalize hcur' : (cur.toList.take (i * sz τ + off) ++ (vals xo).cells.toList ++ cur.toList.drop (i * sz τ + off + (vals xo).cells.toList.length)) = cur' at hrun
    have hnew := setRow_heap w blk cur cur'.toArray U _ g4
    have hrun2 : (execOp vals o).run P w = .ok .skip (w.setRow blk cur'.toArray) := by
      unfold execOp
      rw [hop]
      dsimp only
      rw [hb]
      simp only [Sem.run_bind, hrun]; rfl
    -- the cells as they lie now
    obtain ⟨hsz, c1, c2⟩ := patch cur.toList (vals xo).cells.toList (i * sz τ + off) (by rw [hvl, Array.length_toList]; omega)
    rw [hcur', Array.length_toList] at hsz
    rw [hcur', hvl] at c1
    rw [hcur'] at c2
    have c1 : ∀ k, k < i * sz τ + off ∨ i * sz τ + off + n ≤ k → cur'[k]? = cur[k]? := fun k hk => by rw [c1 k hk, Array.getElem?_toList]
    -- what the element is now
    have hold : Rels E (enc τ y) ((List.range (sz τ)).map fun j => (cur[i * sz τ + j]?).getD undef) := by
      refine rels_of_prels (by simp [enc_length]) fun j x v hx hv => ?_
      obtain ⟨v', hv', hp⟩ := g7 i j y x hy hx
      rw [List.getElem?_map] at hv
      obtain ⟨k, hk, rfl⟩ := Option.map_eq_some_iff.1 hv
      have := (List.getElem?_eq_some_iff.1 hk).2
      simp at this
      subst this
      rw [hv']; exact hp
    have hnewr := setAt_rels (off := off) hold hcl
    have hrd := (decC_ok τ hh (fun z hz => .of_lt (by
      obtain ⟨q, hq⟩ := List.getElem?_of_mem hz
      exact setAt_lt (fun j x hx => by obtain ⟨v', _, hp⟩ := g7 i j y x hy hx; exact prel_lt hp _) (cells_lt hxl) q z hq)) (full_inv hd)).1 _ hnewr
    rw [List.append_nil] at hrd
    unfold Lands
    rw [hrun2]
    refine ⟨E, Step.turn (b := blk) hh hok hid (by rw [ho]; simp) (by rw [hobj]; simp [EO.blk, hpos]) g6 rfl rfl rfl (by simp) (fun k hk => setRow_other w blk k _ hk) ?_ trivial, .pure (.p _), .p _⟩
    refine ⟨blk, cap, by rw [List.length_set]; exact hobj, by rw [List.length_set]; exact g2, g3, fun _ => ⟨cur'.toArray, U, hnew, by simpa [hsz] using g5, g6, fun i' j z x hz hx => ?_⟩⟩
    by_cases hii : i' = i
    · subst hii
      rw [List.getElem?_set_self hil] at hz
      cases hz
      have hjl : j < sz τ := by have := (List.getElem?_eq_some_iff.1 hx).1; rwa [enc_length] at this
      -- the value in the new cells
      obtain ⟨p1, p2, p3⟩ := patch ((List.range (sz τ)).map fun j => (cur[i' * sz τ + j]?).getD undef) (vals xo).cells.toList off (by rw [hvl, List.length_map, List.length_range]; exact hfit)
      rw [hvl] at p2
      obtain ⟨u, hu, hru⟩ := hrd.getElem hx
      refine ⟨u, ?_, prel_of_isP hru (enc_isP τ y' x (List.mem_of_getElem? hx))⟩
      rw [List.getElem?_toArray]
      have hlt : i' * sz τ + j < cur.size := by omega
      by_cases h1 : j < off ∨ off + n ≤ j
      · rw [hvl, p2 j h1, List.getElem?_map, List.getElem?_range hjl] at hu
        simp only [Option.map_some, Option.some.injEq] at hu
        rw [c1 _ (by omega), ← hu, Array.getElem?_eq_getElem hlt]; rfl
      · have hju : j - off < (vals xo).cells.toList.length := by omega
        have hg := List.getElem?_eq_getElem hju
        have h3 := p3 (j - off) _ hg
        rw [show off + (j - off) = j by omega, hu] at h3
        cases h3
        have := c2 (j - off) _ hg
        rw [show i' * sz τ + off + (j - off) = i' * sz τ + j by omega] at this
        exact this
    · rw [List.getElem?_set_ne (Ne.symm hii)] at hz
      have hjl : j < sz τ := by have := (List.getElem?_eq_some_iff.1 hx).1; rwa [enc_length] at this
      obtain ⟨v, hv, hp⟩ := g7 i' j z x hz hx
      refine ⟨v, ?_, hp⟩
      rw [List.getElem?_toArray, c1 _ ?_, hv]
      rcases Nat.lt_or_gt_of_ne hii with h1 | h1
      · have := Nat.mul_le_mul_right (sz τ) (show i' + 1 ≤ i by omega)
        rw [Nat.add_mul] at this
        exact .inl (by omega)
      · have := Nat.mul_le_mul_right (sz τ) (show i + 1 ≤ i' by omega)
        rw [Nat.add_mul] at this
        exact .inr (by omega)
  · cases hk
end
end Go.Up
