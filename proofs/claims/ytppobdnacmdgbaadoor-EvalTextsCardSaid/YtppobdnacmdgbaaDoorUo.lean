/- Up, part o: the other operations that make objects, calls; all of them in one table. -/
import Derived.Test.YtppobdnacmdgbaaDoorUn
import Derived.Laws.BytesString
import Derived.Lib.ConvBytes
set_option linter.unusedVariables false
set_option linter.unusedSimpArgs false
namespace Go.Up
open Go.RowKit

section
variable {P : Program} {h : AH} {e : Operand → AV} {R : Type}

/-- A row's slice as the list that it is. -/
def fz (h : AH) : AV → AV
  | .rw id =>
    match h.o id with
    | some (.trow τ l) => .tl τ l none
    | _ => .rw id
  | x => x
theorem fz_rel [GTab] {E : Env} {w : World} (hh : HRel E h w) {x : AV} {v : Value} (hl : Lt h.n x) (hx : Rel E x v) : Rel E (fz h x) v := by
  unfold fz
  split
  · rename_i id
    split
    · rename_i τ l ho
      obtain ⟨base, cap, tip, size, rfl, h1⟩ := hx.rw_inv
      obtain ⟨base', cap', h2, h3, _⟩ := hh.row _ _ _ hl.rw_inv ho
      rw [h1] at h2
      cases h2
      exact .pure (.tl h3)
    · exact hx
  · exact hx
theorem fz_rels [GTab] {E : Env} {w : World} (hh : HRel E h w) {l : List AV} {vs : List Value} (hl : ∀ (i : Nat) (x : AV), l[i]? = some x → Lt h.n x) (hx : Rels E l vs) : Rels E (l.map (fz h)) vs :=
  ⟨by simp [hx.1], fun i x v hi hv => by
    rw [List.getElem?_map] at hi
    obtain ⟨y, hy, rfl⟩ := Option.map_eq_some_iff.1 hi
    exact fz_rel hh (hl i y hy) (hx.2 i y v hy hv)⟩

/-- A pointer becomes an interface's value: what it points to turns no more. -/
def mifK (P : Program) (h : AH) (t : TypeId) (x : AV) (K : AH → AV → Option R) : Option R :=
  match x with
  | .bp id off =>
    match h.o id, P.underlying t with
    | some (.box l), some (.pointer pt) => match P.underlying pt with
      | some (.pointer _) => K h (.ib t id off)
      | _ => if Nat.beq off 0 && (l.map (fz h)).all isP then K (h.set id none) (.ifc t (.ep (l.map (fz h)))) else none
    | _, _ => none
  | _ => none
theorem mifK_ok [GTab] {t : TypeId} {xo : Operand} {K : AH → AV → Option R} {r : R} (hk : mifK P h t (e xo) K = some r) : ∃ h' y, ImpS P h e (.makeInterface t xo) h' y ∧ K h' y = some r := by
  unfold mifK at hk
  split at hk
  case h_2 => cases hk
  rename_i id off hx
  split at hk
  case h_2 => cases hk
  rename_i l pt ho hu
  split at hk
  · refine ⟨_, _, ?_, hk⟩
    intro E w vals hh hok hO o hop
    have hxv := hO.rel xo (by simp [Op.operands])
    have hxl := hO.lt xo (by simp [Op.operands])
    rw [hx] at hxv hxl
    obtain ⟨blk, hb, hobj⟩ := hxv.bp_inv
    have hrun : (execOp vals o).run P w = .ok (.value (.iface t (vals xo))) w := by
      unfold execOp
      rw [hop]
      dsimp only
      simp [Instr.makeInterface, underlying, hu]
    unfold Lands
    rw [hrun, hb]
    exact ⟨E, .refl hh hok, .ib hobj, .ib hxl.bp_inv⟩
  split at hk
  case isFalse => cases hk
  rename_i hc
  simp only [Bool.and_eq_true] at hc
  have hoff := Nat.eq_of_beq_eq_true hc.1
  subst hoff
  have hp := hc.2
  rw [List.all_eq_true] at hp
  refine ⟨_, _, ?_, hk⟩
  intro E w vals hh hok hO o hop
  have hxv := hO.rel xo (by simp [Op.operands])
  have hxl := hO.lt xo (by simp [Op.operands])
  rw [hx] at hxv hxl
  obtain ⟨blk, hb, hobj⟩ := hxv.bp_inv
  have hid := hxl.bp_inv
  obtain ⟨blk', cs, U, g1, g2, g3, g4⟩ := hh.box id l hid ho
  rw [hobj] at g1
  cases g1
  have hrun : (execOp vals o).run P w = .ok (.value (.iface t (vals xo))) w := by
    unfold execOp
    rw [hop]
    dsimp only
    simp [Instr.makeInterface, underlying, hu]
  unfold Lands
  rw [hrun, hb]
  have hst := Step.freeze (hi := cs.size) hh hok hid (by rw [ho]; simp) (by rw [hobj]; rfl) g4 g2
  refine ⟨_, hst, .pure (.ifc (.ep (fun j => (cs[j]?).getD undef) (fun j y hy => ?_) (fun j y hy => ?_))), .ifc _ _⟩
  · have hr := fz_rels hh (fun i x hx => hok id l i x hid ho hx) g3
    obtain ⟨u, hu', hr⟩ := hr.getElem hy
    rw [addr_add_lit]
    simp only [Env.addS, Nat.zero_add]
    rw [Array.getElem?_toList] at hu'
    have hlt : j < cs.size := (Array.getElem?_eq_some_iff.1 hu').1
    rw [if_pos ⟨trivial, trivial, Nat.zero_le _, hlt⟩, hu']
    rfl
  · have hr := fz_rels hh (fun i x hx => hok id l i x hid ho hx) g3
    obtain ⟨u, hu', hr⟩ := hr.getElem hy
    rw [Array.getElem?_toList] at hu'
    rw [hu']
    exact (prel_of_isP hr (hp y (List.mem_of_getElem? hy))).mono hst.ext.S

/-- A written slice. -/
def litK (P : Program) (h : AH) (t : TypeId) (len : Nat) (parts : List (Nat × AV)) (K : AV → Option R) : Option R :=
  match tz P t with
  | some q =>
    if decide (parts.map (·.1) = List.range len) && Nat.ble len 16777216 && Nat.ble (len * q.2.1) 16777216 && (parts.all fun x => known x.2 && Nat.beq x.2.cells.length q.2.1 && (x.2.cells.map (fz h)).all isP)
    then K (.sl q.2.1 (parts.map fun x => x.2.cells.map (fz h)) (some len)) else none
  | none => none

theorem fill_seq [GTab] {sz : Nat} : ∀ (xs : List AV) (k : Nat) (cells : List AV), (∀ x ∈ xs, x.cells.length = sz) → (k + xs.length) * sz ≤ cells.length →
    fillA (fun i => some (i * sz, sz)) cells ((List.range' k xs.length).zip xs) = some (cells.take (k * sz) ++ (xs.map AV.cells).flatten ++ cells.drop ((k + xs.length) * sz))
  | [], k, cells, _, _ => by simp [fillA]
  | x :: xs, k, cells, hl, hb => by
    have hx := hl x (by simp)
    have e0 : (k + (xs.length + 1)) * sz = k * sz + sz + xs.length * sz := by rw [Nat.add_mul, Nat.add_mul]; omega
    simp only [List.length_cons] at hb
    rw [e0] at hb
    simp only [List.length_cons, List.range'_succ, List.zip_cons_cons, fillA]
    rw [if_pos ⟨hx, by omega⟩]
    have e1 : (k + 1) * sz = k * sz + sz := by rw [Nat.add_mul]; omega
    have hlen : (setAt cells (k * sz) x.cells).length = cells.length := by simp only [setAt, List.length_append, List.length_take, List.length_drop, hx]; omega
    rw [fill_seq xs (k + 1) _ (fun y hy => hl y (by simp [hy])) (by rw [hlen, Nat.add_mul, e1]; omega)]
    have e2 : (setAt cells (k * sz) x.cells).take ((k + 1) * sz) = cells.take (k * sz) ++ x.cells := by
      simp only [setAt, e1]
      rw [List.take_append_of_le_length (by simp only [List.length_append, List.length_take, hx]; omega)]
      rw [List.take_of_length_le (by simp only [List.length_append, List.length_take, hx]; omega)]
    have e3 : (setAt cells (k * sz) x.cells).drop ((k + 1 + xs.length) * sz) = cells.drop ((k + (xs.length + 1)) * sz) := by
      have e4 : (k + 1 + xs.length) * sz = k * sz + sz + xs.length * sz := by rw [Nat.add_mul, Nat.add_mul]; omega
      rw [e0, e4]
      simp only [setAt, hx]
      rw [List.drop_append, List.drop_of_length_le (by simp only [List.length_append, List.length_take, hx]; omega), List.nil_append, List.drop_drop]
      congr 1
      simp only [List.length_append, List.length_take, hx]; omega
    rw [e2, e3]
    simp [List.append_assoc]
theorem elems_flatten [GTab] {sz : Nat} : ∀ (xss : List (List AV)) (i j : Nat) (e : List AV) (x : AV), (∀ e ∈ xss, e.length = sz) → xss[i]? = some e → e[j]? = some x → xss.flatten[i * sz + j]? = some x
  | [], _, _, _, _, _, h, _ => by cases h
  | y :: xss, 0, j, e, x, hl, he, hx => by
    simp only [List.getElem?_cons_zero, Option.some.injEq] at he
    subst he
    simp only [List.flatten_cons, Nat.zero_mul, Nat.zero_add]
    rw [List.getElem?_append_left (List.getElem?_eq_some_iff.1 hx).1]
    exact hx
  | y :: xss, i + 1, j, e, x, hl, he, hx => by
    simp only [List.getElem?_cons_succ] at he
    simp only [List.flatten_cons]
    have hy := hl y (by simp)
    rw [List.getElem?_append_right (by rw [hy, Nat.add_mul]; omega), hy]
    have := elems_flatten xss i j e x (fun e he => hl e (by simp [he])) he hx
    rw [← this]
    congr 1
    rw [Nat.add_mul]; omega
theorem flatten_len [GTab] {sz : Nat} : ∀ (xss : List (List AV)), (∀ e ∈ xss, e.length = sz) → xss.flatten.length = xss.length * sz
  | [], _ => by simp
  | y :: xss, hl => by
    simp only [List.flatten_cons, List.length_append, List.length_cons, Nat.add_mul]
    rw [flatten_len xss (fun e he => hl e (by simp [he])), hl y (by simp)]
    omega
theorem zip_range [GTab] {α : Type} : ∀ (xs : List (Nat × α)) (k : Nat), xs.map (·.1) = List.range' k xs.length → xs = (List.range' k xs.length).zip (xs.map (·.2))
  | [], _, _ => rfl
  | (i, x) :: xs, k, h => by
    simp only [List.map_cons, List.length_cons, List.range'_succ, List.cons.injEq] at h
    obtain ⟨rfl, h⟩ := h
    simp only [List.map_cons, List.length_cons, List.range'_succ, List.zip_cons_cons]
    congr 1
    exact zip_range xs (i + 1) h

/-- A new block that no object stands for: what it holds is known for good. -/
theorem Step.sl [GTab] {E : Env} {w : World} (hh : HRel E h w) (hok : h.ok) {els : List (List AV)} {n cap size : Nat} {w' : World} (hn : n = els.length) (hos : w'.os = w.os) (htape : w'.tape = w.tape) (hout : w'.output = w.output) (hsz : w'.heap.size = w.heap.size + 1) (hold : ∀ k, k < w.heap.size → w'.heap[k]? = w.heap[k]?)
    (hle : n ≤ cap) (hcap : cap ≤ maxLen) (hel : ∀ e ∈ els, e.length = size)
    (hc : ∀ (i j : Nat) (el : List AV) (x : AV), els[i]? = some el → el[j]? = some x → ∃ u, w'.cell? ⟨w.heap.size, i * size + j, none⟩ = some u ∧ PRel E.S x u) :
    ∃ E', Step E h w E' h w' ∧ (∀ k, (k = some cap ∨ k = none) → PRel E'.S (.sl size els k) (.slice (some ⟨w.heap.size, 0, none⟩) n cap)) := by
  subst hn
  have hnone := S_none hh w.heap.size (Nat.le_refl _)
  -- all that lies in the new block's first cells
  let S' : Addr → Option Value := fun a => if a.block = w.heap.size ∧ a.spot = none ∧ a.off < els.length * size then w'.cell? a else E.S a
  have hS : ∀ a v, E.S a = some v → S' a = some v := fun a v ha => by
    simp only [S']
    rw [if_neg (fun hcc => by rw [hnone a hcc.1] at ha; cases ha)]; exact ha
  have hx := Step.alloc (x := .box []) (eo := .row none 0 0 0) (S' := S') (w' := w') hh hok hos htape hout (by omega) hold hS
    (fun a v ha => by
      simp only [S'] at ha
      split at ha
      · rename_i hcc; exact .inr ⟨by rw [hcc.1]; exact Nat.le_refl _, ha⟩
      · exact .inl ha)
    (fun b hb => by simp [EO.blk] at hb)
  -- told without an object
  have hext : Ext E h.n { S := S', obj := E.obj } := ⟨hS, fun _ _ _ h => h, fun _ _ _ _ _ _ h => h, fun _ _ _ h => h, fun _ _ _ _ _ _ h => h⟩
  have hcells : ∀ a v, S' a = some v → w'.cell? a = some v := fun a v ha => by
    simp only [S'] at ha
    split at ha
    · exact ha
    · have hcl := hh.cells a v ha
      rw [World.cell?_of_block (hold _ (World.block_lt_of_cell? w a hcl))]; exact hcl
  have hst : Step E h w { S := S', obj := E.obj } h w' := by
    refine ⟨hext, ⟨hcells, fun id x hid ho => ?_, fun g hg j y hy => ?_, hh.inj, fun i b hi hb => by have := hh.lt i b hi hb; omega⟩, hok, Nat.le_refl _, ⟨hos, htape, hout, by omega, fun k hk _ => hold k hk⟩, fun id b hid hb => .inr ⟨id, hid, hb⟩, fun a v ha => ?_⟩
    · refine (hh.obj id x hid ho).keep hext (AH.ok_lt hok hid ho) fun b hb => ?_
      have hlt := hh.lt id b hid hb
      refine ⟨hold b hlt, fun a ha => ?_⟩
      simp only [S']
      rw [if_neg (fun hcc => by omega)]
    · obtain ⟨v, h1, h2⟩ := hh.glo g hg j y hy
      exact ⟨v, hS _ _ h1, h2.mono hS⟩
    · simp only [S'] at ha
      split at ha
      · rename_i hcc; exact .inr (.inl (by rw [hcc.1]; exact Nat.le_refl _))
      · exact .inl ha
  refine ⟨_, hst, fun k hk => ?_⟩
  have key : ∀ (i j : Nat) (el : List AV) (x : AV), els[i]? = some el → el[j]? = some x → ∃ u, w'.cell? ⟨w.heap.size, i * size + j, none⟩ = some u ∧ PRel S' x u ∧ i * size + j < els.length * size := fun i j el x he hx => by
    obtain ⟨u, h1, h2⟩ := hc i j el x he hx
    have hj : j < size := by have := (List.getElem?_eq_some_iff.1 hx).1; rwa [hel el (List.mem_of_getElem? he)] at this
    exact ⟨u, h1, h2.mono hS, idx_lt (List.getElem?_eq_some_iff.1 he).1 hj⟩
  refine .sl (fun i j => (w'.cell? ⟨w.heap.size, i * size + j, none⟩).getD undef) rfl hle hcap (fun q hq => ?_) hel (fun ha => by cases ha) (fun ad i j el x had he hx => ?_) (fun i j el x he hx => ?_)
  · rcases hk with rfl | rfl
    · cases hq; rfl
    · cases hq
  · cases had
    obtain ⟨u, h1, h2, h3⟩ := key i j el x he hx
    rw [addr_add_lit, Nat.zero_add, h1]
    simp only [S']
    rw [if_pos ⟨trivial, trivial, h3⟩, h1]; rfl
  · obtain ⟨u, h1, h2, h3⟩ := key i j el x he hx
    rw [h1]; exact h2

/-- The run of a written slice. -/
theorem lit_run [GTab] {E : Env} {w : World} {vals : Operand → Value} {t et : TypeId} {len size bytes : Nat} {parts : Array (Nat × Operand)} (hO : Ops E h.n e vals (Op.buildSlice t len parts).operands) (ht : tz P t = some (et, size, bytes)) (h1 : parts.toList.map (·.1) = List.range len)
    (hpl : parts.toList.length = len) (h3 : len * size ≤ 16777216) (hk4 : ∀ q ∈ parts.toList, known (e q.2) = true ∧ (e q.2).cells.length = size) {o : Oper} (hop : o.op = .buildSlice t len parts) :
    ∃ vs : List Value, (execOp vals o).run P w = .ok (.value (.slice (some ⟨w.heap.size, 0, none⟩) len len)) (w.alloc (.cells vs.toArray et)) ∧ vs.length = len * size ∧
      ∀ (k j : Nat) (q : Nat × Operand) (y : AV), parts.toList[k]? = some q → (e q.2).cells[j]? = some y → ∃ u, vs[k * size + j]? = some u ∧ Rel E y u := by
  have hmem : ∀ q ∈ parts.toList, q.2 ∈ (Op.buildSlice t len parts).operands := fun q hq => by
    simp only [Op.operands, List.mem_toArray, List.mem_map]
    exact ⟨q, hq, rfl⟩
  obtain ⟨i, z, hu, hinfo, hz, hzs, hs, hbs⟩ := tz_parts ht
  have hi' : parts.toList.map (·.1) = List.range' 0 parts.toList.length := by rw [h1, List.range_eq_range', hpl]
  have hzip := zip_range parts.toList 0 hi'
  have hcells : ∀ x ∈ parts.toList.map fun x => e x.2, x.cells.length = size := fun x hx => by
    obtain ⟨q, hq, rfl⟩ := List.mem_map.1 hx
    exact (hk4 q hq).2
  have hfa := fill_seq (sz := size) (parts.toList.map fun x => e x.2) 0 (List.replicate (len * size) .junk) hcells (by simp [hpl])
  have hparts : (parts.toList.map fun x => (x.1, e x.2)) = (List.range' 0 (parts.toList.map fun x => e x.2).length).zip (parts.toList.map fun x => e x.2) := by
    have : (parts.toList.map fun x => (x.1, e x.2)) = ((List.range' 0 parts.toList.length).zip (parts.toList.map (·.2))).map fun x => (x.1, e x.2) := by rw [← hzip]
    rw [this]
    have key : ∀ (l : List Nat) (m : List Operand), (l.zip m).map (fun x => (x.1, e x.2)) = l.zip (m.map e) := by
      intro l
      induction l with
      | nil => intro m; rfl
      | cons k l ih =>
        intro m
        cases m with
        | nil => rfl
        | cons y m => simp [ih]
    rw [key]
    simp [Function.comp_def]
  rw [← hparts] at hfa
  have hdrop : (List.replicate (len * size) AV.junk).drop ((0 + (parts.toList.map fun x => e x.2).length) * size) = [] := by
    apply List.drop_of_length_le; simp [hpl]
  rw [hdrop] at hfa
  simp only [Nat.zero_mul, List.take_zero, List.nil_append, List.append_nil] at hfa
  let zeros : Array Value := if len * i.size = 0 then #[] else z.cells
  obtain ⟨vs, hf, hrel⟩ := fillA_sound (E := E) (place := fun i => some (i * size, size)) (parts.toList.map fun x => (x.1, e x.2)) (parts.toList.map fun x => (x.1, vals x.2)) (List.replicate (len * size) .junk) ((Array.range (len * size)).map (zeros[· % zeros.size]!)).toList _ (by simp)
    (fun k x v hx hv => by
      rw [List.getElem?_map] at hx hv
      cases hp : parts.toList[k]? with
      | none => rw [hp] at hx; cases hx
      | some q =>
        rw [hp] at hx hv; cases hx; cases hv
        exact ⟨rfl, hO.rel _ (hmem q (List.mem_of_getElem? hp)), (hk4 q (List.mem_of_getElem? hp)).1⟩)
    ⟨by simp, fun k x v hx hv => by
      have := List.mem_of_getElem? hx
      rw [List.mem_replicate] at this
      rw [this.2]
      exact .pure (.junk v)⟩ hfa
  have hfl : (List.map AV.cells (parts.toList.map fun x => e x.2)).flatten.length = len * size := by
    rw [flatten_len (sz := size) _ (fun e' he => by
      obtain ⟨x', hx', rfl⟩ := List.mem_map.1 he
      exact hcells x' hx')]
    simp [hpl]
  have hvl : vs.length = len * size := by rw [hrel.1, hfl]
  have hrun : (Instr.buildSlice t len (parts.toList.map fun x => (x.1, vals x.2)).toArray).run P w = .ok (.slice (some ⟨w.heap.size, 0, none⟩) len len) (w.alloc (.cells vs.toArray et)) := by
    subst hs
    simp only [Instr.buildSlice, Sem.run_bind, run_underlying hu, Result.andThen_ok, sizeOf, typeInfo, run_program, hinfo, Sem.run_pure]
    rw [if_neg (by omega)]
    have hf' := hf
    simp only [Array.toArray_toList] at hf'
    by_cases h0 : len * i.size = 0
    · have e0 : zeros = #[] := by simp only [zeros]; rw [if_pos h0]
      rw [e0] at hf'
      rw [if_pos h0]
      simp only [Sem.run_bind, Sem.run_pure, Result.andThen_ok]
      rw [hf']
      simp [newRow]
    · have e0 : zeros = z.cells := by simp only [zeros]; rw [if_neg h0]
      rw [e0] at hf'
      rw [if_neg h0]
      simp only [Sem.run_bind, zeroValue, typeInfo, run_program, Result.andThen_ok, hinfo, hz, Sem.run_pure]
      rw [hf']
      simp [newRow]
  have ea : (Array.map (fun x => match x with | (i, x) => (i, vals x)) parts) = (parts.toList.map fun x => (x.1, vals x.2)).toArray := arr_map (fun (x : Nat × Operand) => (x.1, vals x.2)) parts
  have hrun2 : (execOp vals o).run P w = .ok (.value (.slice (some ⟨w.heap.size, 0, none⟩) len len)) (w.alloc (.cells vs.toArray et)) := by
    unfold execOp
    rw [hop]
    dsimp only
    simp only [Sem.run_bind]
    rw [ea, hrun]; rfl
  refine ⟨vs, hrun2, hvl, fun k j q y hq hy => ?_⟩
  have hg : ((parts.toList.map fun x => e x.2).map AV.cells)[k]? = some (e q.2).cells := by
    rw [List.getElem?_map, List.getElem?_map, hq]; rfl
  have hfl2 := elems_flatten (sz := size) _ k j _ y (fun e' he => by
    obtain ⟨x', hx', rfl⟩ := List.mem_map.1 he
    exact hcells x' hx') hg hy
  obtain ⟨u, hu', hr⟩ := hrel.getElem hfl2
  exact ⟨u, hu', hr⟩
theorem litK_ok [GTab] {t : TypeId} {len : Nat} {parts : Array (Nat × Operand)} {K : AV → Option R} {r : R} (hk : litK P h t len (parts.toList.map fun x => (x.1, e x.2)) K = some r) : ∃ y, ImpS P h e (.buildSlice t len parts) h y ∧ K y = some r := by
  unfold litK at hk
  split at hk
  case h_2 => cases hk
  rename_i q ht
  obtain ⟨et, size, bytes⟩ := q
  split at hk
  case isFalse => cases hk
  rename_i hc
  simp only [Bool.and_eq_true, decide_eq_true_eq, List.all_eq_true] at hc
  obtain ⟨⟨⟨h1, h2⟩, h3⟩, h4⟩ := hc
  have h2 := Nat.le_of_ble_eq_true h2
  have h3 := Nat.le_of_ble_eq_true h3
  refine ⟨_, ?_, hk⟩
  intro E w vals hh hok hO o hop
  have hmem : ∀ q ∈ parts.toList, q.2 ∈ (Op.buildSlice t len parts).operands := fun q hq => by
    simp only [Op.operands, List.mem_toArray, List.mem_map]
    exact ⟨q, hq, rfl⟩
  simp only [List.map_map, Function.comp_def] at h1
  have hpl : parts.toList.length = len := by have := congrArg List.length h1; simpa using this
  have hk4 : ∀ q ∈ parts.toList, known (e q.2) = true ∧ (e q.2).cells.length = size ∧ ∀ z ∈ (e q.2).cells.map (fz h), isP z = true := fun q hq => by
    have := h4 (q.1, e q.2) (List.mem_map.2 ⟨q, hq, rfl⟩)
    exact ⟨this.1.1, Nat.eq_of_beq_eq_true this.1.2, this.2⟩
  obtain ⟨vs, hrun2, hvl, hcl⟩ := lit_run (P := P) (w := w) hO ht h1 hpl h3 (fun q hq => ⟨(hk4 q hq).1, (hk4 q hq).2.1⟩) hop
  unfold Lands
  rw [hrun2]
  have hnewb := heap_alloc_new w (.cells vs.toArray et)
  obtain ⟨E', hE', hp⟩ := Step.sl (w' := w.alloc (.cells vs.toArray et)) hh hok (els := parts.toList.map fun x => (e x.2).cells.map (fz h)) (n := len) (cap := len) (size := size) (by simp [hpl]) rfl rfl rfl (by simp) (fun k hk => heap_alloc_old w _ hk) (Nat.le_refl _)
    (by simp only [maxLen]; omega)
    (fun el hel => by
      obtain ⟨q, hq, rfl⟩ := List.mem_map.1 hel
      rw [List.length_map]
      exact (hk4 q hq).2.1)
    (fun k j el x hel hx => by
      rw [List.getElem?_map] at hel
      obtain ⟨q, hq, rfl⟩ := Option.map_eq_some_iff.1 hel
      rw [List.getElem?_map] at hx
      obtain ⟨y, hy, rfl⟩ := Option.map_eq_some_iff.1 hx
      have hqm := List.mem_of_getElem? hq
      obtain ⟨u, hu', hr⟩ := hcl k j q y hq hy
      refine ⟨u, ?_, prel_of_isP (fz_rel hh (cells_lt (hO.lt _ (hmem q hqm)) j y hy) hr) ((hk4 q hqm).2.2 _ (List.mem_map.2 ⟨y, List.mem_of_getElem? hy, rfl⟩))⟩
      simp only [World.cell?, hnewb]
      simpa using hu')
  refine ⟨E', hE', .pure ?_, .sl _ _ _⟩
  have := hp _ (.inl rfl)
  simpa only [List.map_map, Function.comp_def] using this
/-- A written slice such as turns. -/
def litM (C : Cfg) (h : AH) (t : TypeId) (len : Nat) (parts : List (Nat × AV)) (K : AH → AV → Option R) : Option R :=
  match C.ety t with
  | some τ =>
    if tzB C.P t (sz τ) && decide (parts.map (·.1) = List.range len) && Nat.ble (len * sz τ) 16777216 && Nat.ble len 16777216 && (parts.all fun x => known x.2 && Nat.beq x.2.cells.length (sz τ)) then
      match (parts.map fun x => x.2.cells).mapM (full (decC h τ)) with
      | some l => K (h.new (.tarr τ l)) (.mw h.n)
      | none => none
    else none
  | none => none
theorem litM_ok [GTab] {C : Cfg} {t : TypeId} {len : Nat} {parts : Array (Nat × Operand)} {K : AH → AV → Option R} {r : R} (hk : litM C h t len (parts.toList.map fun x => (x.1, e x.2)) K = some r) : ∃ h' y, ImpS C.P h e (.buildSlice t len parts) h' y ∧ K h' y = some r := by
  unfold litM at hk
  split at hk
  case h_2 => cases hk
  rename_i τ hτ
  split at hk
  case isFalse => cases hk
  rename_i hc
  simp only [Bool.and_eq_true, decide_eq_true_eq, List.all_eq_true] at hc
  obtain ⟨⟨⟨⟨htz, h1⟩, h3⟩, h2⟩, h4⟩ := hc
  have h2 := Nat.le_of_ble_eq_true h2
  have h3 := Nat.le_of_ble_eq_true h3
  obtain ⟨et, bytes, ht, hbytes⟩ := tzB_ok htz
  split at hk
  case h_2 => cases hk
  rename_i l hl
  refine ⟨_, _, ?_, hk⟩
  intro E w vals hh hok hO o hop
  have hmem : ∀ q ∈ parts.toList, q.2 ∈ (Op.buildSlice t len parts).operands := fun q hq => by
    simp only [Op.operands, List.mem_toArray, List.mem_map]
    exact ⟨q, hq, rfl⟩
  simp only [List.map_map, Function.comp_def] at h1 hl
  have hpl : parts.toList.length = len := by have := congrArg List.length h1; simpa using this
  have hk4 : ∀ q ∈ parts.toList, known (e q.2) = true ∧ (e q.2).cells.length = sz τ := fun q hq => by
    have := h4 (q.1, e q.2) (List.mem_map.2 ⟨q, hq, rfl⟩)
    exact ⟨this.1, Nat.eq_of_beq_eq_true this.2⟩
  obtain ⟨vs, hrun2, hvl, hcl⟩ := lit_run (P := C.P) (w := w) hO ht h1 hpl h3 hk4 hop
  obtain ⟨m1, m2⟩ := mapM_get hl
  rw [List.length_map, hpl] at m1
  unfold Lands
  rw [hrun2]
  obtain ⟨E', s1, s2, s3⟩ := Step.arr (w1 := w) (τ := τ) (l := l) (cap := len) (cur := vs.toArray) (T := et) hh hok rfl rfl rfl rfl (by omega) (by simp only [maxLen]; omega) (by simpa using hvl)
    (fun i j y x hy hx => by
      have hi : i < parts.toList.length := by have := (List.getElem?_eq_some_iff.1 hy).1; omega
      have hq := List.getElem?_eq_getElem hi
      have hd := m2 i _ y (by rw [List.getElem?_map, hq]; rfl) hy
      have hlt : ∀ z ∈ (e parts.toList[i].2).cells, RwOk h z := fun z hz => by
        obtain ⟨q, hq'⟩ := List.getElem?_of_mem hz
        exact .of_lt (cells_lt (hO.lt _ (hmem _ (List.getElem_mem hi))) q z hq')
      have hrd := (decC_ok τ hh hlt (full_inv hd)).1 ((List.range (sz τ)).map fun j => (vs[i * sz τ + j]?).getD undef) ⟨by rw [List.length_map, List.length_range]; exact (hk4 _ (List.getElem_mem hi)).2.symm, fun k z v hz hv => by
        obtain ⟨u, hu, hr⟩ := hcl i k _ z hq hz
        rw [List.getElem?_map] at hv
        obtain ⟨k', hk', rfl⟩ := Option.map_eq_some_iff.1 hv
        have := (List.getElem?_eq_some_iff.1 hk').2
        simp at this
        subst this
        rw [hu]; exact hr⟩
      rw [List.append_nil] at hrd
      obtain ⟨v, hv, hr⟩ := hrd.getElem hx
      have hj : j < sz τ := by have := (List.getElem?_eq_some_iff.1 hx).1; rwa [enc_length] at this
      rw [List.getElem?_map, List.getElem?_range hj] at hv
      simp only [Option.map_some, Option.some.injEq] at hv
      have hlt2 : i * sz τ + j < vs.length := by rw [hvl]; exact idx_lt (by omega) hj
      refine ⟨v, ?_, prel_of_isP hr (enc_isP τ y x (List.mem_of_getElem? hx))⟩
      rw [List.getElem?_toArray, ← hv, List.getElem?_eq_getElem hlt2]; rfl)
  rw [m1] at s2
  exact ⟨E', s1, s2, s3⟩
end
end Go.Up
