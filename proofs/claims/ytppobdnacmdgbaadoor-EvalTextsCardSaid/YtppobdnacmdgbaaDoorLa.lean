/- Up, part La: what comes in: from a reading to plain data; from a function's model to a row. -/
import Derived.Test.YtppobdnacmdgbaaDoorUx
import Derived.ProofKit
import Derived.Carry
set_option linter.unusedVariables false
set_option linter.unusedSimpArgs false
namespace Go.Up
open Go.RowKit Go.ChangeShapes Go.WideShapes

abbrev I64 (n : Int) : Prop := -9223372036854775808 ≤ n ∧ n < 9223372036854775808
abbrev I32 (n : Int) : Prop := -2147483648 ≤ n ∧ n < 2147483648
abbrev U32 (n : Int) : Prop := 0 ≤ n ∧ n < 4294967296
abbrev U8 (n : Int) : Prop := 0 ≤ n ∧ n < 256
/-- Plain data that can be. -/
def WfI (k : IntKind) (n : Int) : Prop := k.min ≤ n ∧ n ≤ k.max
theorem WfI.i64 {n : Int} (h : WfI .i64 n) : I64 n := by
  simp only [WfI, IntKind.min, IntKind.max, IntKind.signed, IntKind.bits] at h
  simp at h
  exact ⟨h.1, by omega⟩
theorem WfI.i32 {n : Int} (h : WfI .i32 n) : I32 n := by
  simp only [WfI, IntKind.min, IntKind.max, IntKind.signed, IntKind.bits] at h
  simp at h
  exact ⟨h.1, by omega⟩
theorem WfI.u32 {n : Int} (h : WfI .u32 n) : U32 n := by
  simp only [WfI, IntKind.min, IntKind.max, IntKind.signed, IntKind.bits] at h
  simp at h
  exact ⟨h.1, by omega⟩
theorem WfI.u8 {n : Int} (h : WfI .u8 n) : U8 n := by
  simp only [WfI, IntKind.min, IntKind.max, IntKind.signed, IntKind.bits] at h
  simp at h
  exact ⟨h.1, by omega⟩
structure WfIns (i : Ins) : Prop where
  op : WfI .i64 i.op
  rd : WfI .i64 i.rd
  rs1 : WfI .i64 i.rs1
  rs2 : WfI .i64 i.rs2
  imm : WfI .i32 i.imm
structure WfTok (t : Tok) : Prop where
  kind : WfI .i64 t.kind
  line : WfI .i64 t.line
  col : WfI .i64 t.col
  text : t.text.length ≤ maxLen
  num : WfI .u32 t.num
  scope : WfI .i64 t.scope
structure WfNod (t : Nod) : Prop where
  kind : WfI .i64 t.kind
  line : WfI .i64 t.line
  col : WfI .i64 t.col
  num : WfI .u32 t.num
  name : t.name.length ≤ maxLen
structure WfItm (i : Itm) : Prop where
  kind : WfI .i64 i.kind
  line : WfI .i64 i.line
  col : WfI .i64 i.col
  name : i.name.length ≤ maxLen
  ins : WfIns i.ins
  short : i.short.length ≤ maxLen
  size : WfI .i64 i.size
  nodes : i.nodes.length ≤ maxLen ∧ ∀ x ∈ i.nodes, WfNod x
  num : WfI .u32 i.num
structure WfOpn (o : Opn) : Prop where
  kind : WfI .i64 o.kind
  line : WfI .i64 o.line
  col : WfI .i64 o.col
  reg : WfI .i64 o.reg
  nodes : o.nodes.length ≤ maxLen ∧ ∀ x ∈ o.nodes, WfNod x
  text : o.text.length ≤ maxLen
structure WfLab (l : Lab) : Prop where
  name : l.name.length ≤ maxLen
  line : WfI .i64 l.line
  col : WfI .i64 l.col
structure WfStm (s : Stm) : Prop where
  labels : s.labels.length ≤ maxLen ∧ ∀ x ∈ s.labels, WfLab x
  name : s.name.length ≤ maxLen
  line : WfI .i64 s.line
  col : WfI .i64 s.col
  args : s.args.length ≤ maxLen ∧ ∀ x ∈ s.args, WfOpn x
structure WfSym (s : Sym) : Prop where
  name : s.name.length ≤ maxLen
  value : WfI .u32 s.value
  cls : WfI .i64 s.cls
def Wf : (t : Ty) → El t → Prop
  | .int k, n => WfI k n
  | .bool, _ => True
  | .str, s => s.length ≤ maxLen
  | .err _ _, _ => True
  | .flt _, _ => True
  | .ins, i => WfIns i
  | .tok, t => WfTok t
  | .nod, t => WfNod t
  | .itm, i => WfItm i
  | .opn, o => WfOpn o
  | .lab, l => WfLab l
  | .stm, s => WfStm s
  | .opt, _ => True
  | .sym, s => WfSym s
  | .slice t, l => l.length ≤ maxLen ∧ ∀ x ∈ l, Wf t x
  | .pair a b, x => Wf a x.1 ∧ Wf b x.2
def Wfs : (l : List Ty) → VD l → Prop
  | [], _ => True
  | t :: l, d => Wf t d.1 ∧ Wfs l d.2
def encCells : (l : List Ty) → VD l → List AV
  | [], _ => []
  | t :: l, d => enc t d.1 ++ encCells l d.2
/-- The fields of a pair of pairs. -/
def spread : Nat → Ty → List Ty
  | n + 2, .pair a b => a :: spread (n + 1) b
  | _, t => [t]
theorem spread_ok : ∀ (n : Nat) (t : Ty) (d : VD (spread n t)), Wfs (spread n t) d → ∃ y : El t, enc t y = encCells (spread n t) d ∧ Wf t y
  | n + 2, .pair a b, d, h => by
    obtain ⟨y, h1, h2⟩ := spread_ok (n + 1) b d.2 h.2
    exact ⟨(d.1, y), by simp only [enc, h1]; rfl, h.1, h2⟩
  | 0, t, d, h => by
    have e : spread 0 t = [t] := by cases t <;> rfl
    revert d
    rw [e]
    exact fun d h => ⟨d.1, by simp [encCells], h.1⟩
  | 1, t, d, h => by
    have e : spread 1 t = [t] := by cases t <;> rfl
    revert d
    rw [e]
    exact fun d h => ⟨d.1, by simp [encCells], h.1⟩
  | n + 2, .int _, d, h => ⟨d.1, by simp [spread, encCells], h.1⟩
  | n + 2, .bool, d, h => ⟨d.1, by simp [spread, encCells], h.1⟩
  | n + 2, .str, d, h => ⟨d.1, by simp [spread, encCells], h.1⟩
  | n + 2, .err _ _, d, h => ⟨d.1, by simp [spread, encCells], h.1⟩
  | n + 2, .flt _, d, h => ⟨d.1, by simp [spread, encCells], h.1⟩
  | n + 2, .ins, d, h => ⟨d.1, by simp [spread, encCells], h.1⟩
  | n + 2, .tok, d, h => ⟨d.1, by simp [spread, encCells], h.1⟩
  | n + 2, .nod, d, h => ⟨d.1, by simp [spread, encCells], h.1⟩
  | n + 2, .itm, d, h => ⟨d.1, by simp [spread, encCells], h.1⟩
  | n + 2, .opn, d, h => ⟨d.1, by simp [spread, encCells], h.1⟩
  | n + 2, .lab, d, h => ⟨d.1, by simp [spread, encCells], h.1⟩
  | n + 2, .stm, d, h => ⟨d.1, by simp [spread, encCells], h.1⟩
  | n + 2, .opt, d, h => ⟨d.1, by simp [spread, encCells], h.1⟩
  | n + 2, .sym, d, h => ⟨d.1, by simp [spread, encCells], h.1⟩
  | n + 2, .slice _, d, h => ⟨d.1, by simp [spread, encCells], h.1⟩
/-- The types of a struct's fields. -/
def compsOf (n : Nat) : Ty → Option (List Ty)
  | .ins => some [.int .i64, .int .i64, .int .i64, .int .i64, .int .i32]
  | .tok => some [.int .i64, .int .i64, .int .i64, .str, .int .u32, .int .i64]
  | .nod => some [.int .i64, .int .i64, .int .i64, .int .u32, .str]
  | .itm => some [.int .i64, .int .i64, .int .i64, .str, .ins, .str, .int .i64, .slice .nod, .int .u32, .bool, .bool]
  | .opn => some [.int .i64, .int .i64, .int .i64, .int .i64, .slice .nod, .str]
  | .lab => some [.str, .int .i64, .int .i64]
  | .stm => some [.slice .lab, .str, .int .i64, .int .i64, .slice .opn]
  | .opt => some [.bool, .bool]
  | .sym => some [.str, .int .u32, .int .i64]
  | .pair a b => some (spread n (.pair a b))
  | _ => none
theorem comps_ok {n : Nat} : ∀ {t : Ty} {ts : List Ty}, compsOf n t = some ts → isAg t = true ∧ ∀ d : VD ts, Wfs ts d → ∃ y : El t, enc t y = encCells ts d ∧ Wf t y
  | .ins, _, h => by cases h; exact ⟨rfl, fun d h => ⟨⟨d.1, d.2.1, d.2.2.1, d.2.2.2.1, d.2.2.2.2.1⟩, rfl, ⟨h.1, h.2.1, h.2.2.1, h.2.2.2.1, h.2.2.2.2.1⟩⟩⟩
  | .tok, _, h => by cases h; exact ⟨rfl, fun d h => ⟨⟨d.1, d.2.1, d.2.2.1, d.2.2.2.1, d.2.2.2.2.1, d.2.2.2.2.2.1⟩, rfl, ⟨h.1, h.2.1, h.2.2.1, h.2.2.2.1, h.2.2.2.2.1, h.2.2.2.2.2.1⟩⟩⟩
  | .nod, _, h => by cases h; exact ⟨rfl, fun d h => ⟨⟨d.1, d.2.1, d.2.2.1, d.2.2.2.1, d.2.2.2.2.1⟩, rfl, ⟨h.1, h.2.1, h.2.2.1, h.2.2.2.1, h.2.2.2.2.1⟩⟩⟩
  | .itm, _, h => by cases h; exact ⟨rfl, fun d h => ⟨⟨d.1, d.2.1, d.2.2.1, d.2.2.2.1, d.2.2.2.2.1, d.2.2.2.2.2.1, d.2.2.2.2.2.2.1, d.2.2.2.2.2.2.2.1, d.2.2.2.2.2.2.2.2.1, d.2.2.2.2.2.2.2.2.2.1, d.2.2.2.2.2.2.2.2.2.2.1⟩, rfl, ⟨h.1, h.2.1, h.2.2.1, h.2.2.2.1, h.2.2.2.2.1, h.2.2.2.2.2.1, h.2.2.2.2.2.2.1, h.2.2.2.2.2.2.2.1, h.2.2.2.2.2.2.2.2.1⟩⟩⟩
  | .opn, _, h => by cases h; exact ⟨rfl, fun d h => ⟨⟨d.1, d.2.1, d.2.2.1, d.2.2.2.1, d.2.2.2.2.1, d.2.2.2.2.2.1⟩, rfl, ⟨h.1, h.2.1, h.2.2.1, h.2.2.2.1, h.2.2.2.2.1, h.2.2.2.2.2.1⟩⟩⟩
  | .lab, _, h => by cases h; exact ⟨rfl, fun d h => ⟨⟨d.1, d.2.1, d.2.2.1⟩, rfl, ⟨h.1, h.2.1, h.2.2.1⟩⟩⟩
  | .stm, _, h => by cases h; exact ⟨rfl, fun d h => ⟨⟨d.1, d.2.1, d.2.2.1, d.2.2.2.1, d.2.2.2.2.1⟩, rfl, ⟨h.1, h.2.1, h.2.2.1, h.2.2.2.1, h.2.2.2.2.1⟩⟩⟩
  | .opt, _, h => by cases h; exact ⟨rfl, fun d h => ⟨⟨d.1, d.2.1⟩, rfl, trivial⟩⟩
  | .sym, _, h => by cases h; exact ⟨rfl, fun d h => ⟨⟨d.1, d.2.1, d.2.2.1⟩, rfl, ⟨h.1, h.2.1, h.2.2.1⟩⟩⟩
  | .pair a b, _, h => by cases h; exact ⟨rfl, fun d h => spread_ok n (.pair a b) d h⟩
  | .int _, _, h => by cases h
  | .bool, _, h => by cases h
  | .str, _, h => by cases h
  | .err _ _, _, h => by cases h
  | .flt _, _, h => by cases h
  | .slice _, _, h => by cases h

/-! ### A reading, as plain data -/
def PRels (S : Addr → Option Value) (l : List AV) (vs : List Value) : Prop := vs.length = l.length ∧ ∀ (i : Nat) (x : AV) (v : Value), l[i]? = some x → vs[i]? = some v → PRel S x v
theorem PRels.one {S : Addr → Option Value} {x : AV} {v : Value} (h : PRel S x v) : PRels S [x] [v] := ⟨rfl, fun i y u hy hu => by
  cases i with
  | zero => simp at hy hu; subst hy; subst hu; exact h
  | succ i => simp at hy⟩
theorem PRels.append {S : Addr → Option Value} {l m : List AV} {vs us : List Value} (h : PRels S l vs) (k : PRels S m us) : PRels S (l ++ m) (vs ++ us) := by
  refine ⟨by simp [h.1, k.1], fun i x v hx hv => ?_⟩
  by_cases hi : i < l.length
  · rw [List.getElem?_append_left hi] at hx
    rw [List.getElem?_append_left (by rw [h.1]; exact hi)] at hv
    exact h.2 i x v hx hv
  · rw [List.getElem?_append_right (by omega)] at hx
    rw [List.getElem?_append_right (by rw [h.1]; omega), h.1] at hv
    exact k.2 _ x v hx hv
/-- Fields one behind the other. -/
def contig (P : Program) : List Go.Field → Nat → Option Nat
  | [], o => some o
  | f :: r, o => if f.offset = o then contig P r (o + P.cellsOf f.type) else none
def all2 {α β : Type} (f : α → β → Bool) : List α → List β → Bool
  | [], [] => true
  | a :: l, b :: m => f a b && all2 f l m
  | _, _ => false
/-- A type of the program is a type of plain data. -/
def tyOk (P : Program) : Nat → TypeId → Ty → Bool
  | 0, _, _ => false
  | n + 1, t, τ =>
    match P.underlying t with
    | some .bool => (match τ with
      | .bool => true
      | _ => false)
    | some (.int k) => (match τ with
      | .int k' => decide (k = k')
      | _ => false)
    | some .string => (match τ with
      | .str => true
      | _ => false)
    | some (.slice e) => (match τ with
      | .slice τ' => tyOk P n e τ'
      | _ => false)
    | some (.struct fs) => (match compsOf fs.size τ with
      | some ts => (contig P fs.toList 0 == some (P.cellsOf t)) && all2 (fun (f : Go.Field) τ' => tyOk P n f.type τ') fs.toList ts
      | none => false)
    | _ => false
section
variable {H : Type} {enc' : TypeId × Value → H} {P : Program} {w : World} {base : Nat} {spare : Nat → Bool} {held : Bool}
theorem read_fields {fuel : Nat} {ok : TypeId → Ty → Bool} (ih : ∀ (t : TypeId) (τ : Ty) (cs : List Value) (x : DataW H × List MemPlace), ok t τ = true → DataW.trod enc' P w base spare held fuel t cs = some x → ∃ y, Wf τ y ∧ PRels w.cell? (enc τ y) cs) (cs : List Value) :
    ∀ (fs : List Go.Field) (ts : List Ty) (o total : Nat), contig P fs o = some total → cs.length = total → all2 (fun f τ => ok f.type τ) fs ts = true →
      (∀ f ∈ fs, ∃ x, DataW.trod enc' P w base spare held fuel f.type ((cs.drop f.offset).take (P.cellsOf f.type)) = some x) →
      o ≤ total ∧ ∃ d : VD ts, Wfs ts d ∧ PRels w.cell? (encCells ts d) (cs.drop o)
  | [], [], o, total, hc, hl, _, h => by
    simp only [contig, Option.some.injEq] at hc
    subst hc
    refine ⟨Nat.le_refl _, (), trivial, ?_⟩
    rw [List.drop_of_length_le (by omega)]
    exact ⟨rfl, fun i x v hx => by simp [encCells] at hx⟩
  | f :: fs, τ :: ts, o, total, hc, hl, hok, h => by
    simp only [contig] at hc
    split at hc
    case isFalse => cases hc
    rename_i ho
    simp only [all2, Bool.and_eq_true] at hok
    obtain ⟨x, hx⟩ := h f (List.mem_cons_self ..)
    obtain ⟨hle, d, h1, h2⟩ := read_fields ih cs fs ts (o + P.cellsOf f.type) total hc hl hok.2 (fun g hg => h g (List.mem_cons_of_mem _ hg))
    obtain ⟨y, hw, hr⟩ := ih f.type τ _ x hok.1 hx
    refine ⟨by omega, (y, d), ⟨hw, h1⟩, ?_⟩
    simp only [encCells]
    rw [ho] at hr
    have e : cs.drop o = (cs.drop o).take (P.cellsOf f.type) ++ cs.drop (o + P.cellsOf f.type) := by
      rw [← List.drop_drop, List.take_append_drop]
    rw [e]
    exact hr.append h2
  | [], _ :: _, _, _, _, _, hok, _ => by cases hok
  | _ :: _, [], _, _, _, _, hok, _ => by cases hok
theorem read_trod : ∀ (n fuel : Nat) (t : TypeId) (τ : Ty) (cs : List Value) (x : DataW H × List MemPlace), tyOk P n t τ = true → DataW.trod enc' P w base spare held fuel t cs = some x → ∃ y, Wf τ y ∧ PRels w.cell? (enc τ y) cs
  | 0, _, _, _, _, _, hok, _ => by cases hok
  | n + 1, fuel, t, τ, cs, x, hok, h => by
    unfold tyOk at hok
    split at hok
    · rename_i hu
      split at hok
      case h_2 => cases hok
      obtain ⟨b, rfl, _⟩ := DataW.trod_bool hu h
      exact ⟨b, trivial, .one (.p _)⟩
    · rename_i k hu
      split at hok
      case h_2 => cases hok
      simp only [decide_eq_true_eq] at hok
      subst hok
      obtain ⟨m, rfl, _, hw⟩ := DataW.trod_int hu h
      refine ⟨m, ?_, .one (.p _)⟩
      simpa [Lit.wf, Wf, WfI] using hw
    · rename_i hu
      split at hok
      case h_2 => cases hok
      obtain ⟨s, rfl, _, hs⟩ := DataW.trod_string hu h
      refine ⟨s.data.toList, ?_, .one ?_⟩
      · simpa [Wf] using hs
      · have : PRel w.cell? (.st s.data.toList) (.string ⟨s.data.toList.toArray⟩) := .st _
        simpa using this
    · rename_i e hu
      split at hok
      case h_2 => cases hok
      rename_i τ'
      rcases DataW.trod_slice hu h with ⟨rfl, _⟩ | ⟨a, len, cap, elems, rest, m, hf, rfl, hx, hb, hlc, hcm, hel, hat, _⟩
      · refine ⟨[], ⟨by simp, fun _ h => by cases h⟩, .one (.tl ?_)⟩
        exact .sl (fun _ _ => undef) rfl (Nat.le_refl _) (by decide) (fun _ h => by cases h) (fun e h => by cases h) (fun _ => ⟨rfl, rfl⟩) (fun _ _ _ _ _ h => by cases h) (fun _ _ _ _ h => by simp at h)
      · have hex : ∀ i : Nat, i < len → ∃ (y : El τ') (c : List Value), w.cells? base (a.add (i * P.cellsOf e)) (P.cellsOf e) = some c ∧ Wf τ' y ∧ PRels w.cell? (enc τ' y) c := by
          intro i hi
          have h1 := hat i hi
          rw [List.getElem?_eq_getElem (by omega)] at h1
          obtain ⟨c, hc, ht⟩ := Option.bind_eq_some_iff.1 h1
          obtain ⟨y, hs, hr⟩ := read_trod n m e τ' c _ hok ht
          exact ⟨y, c, hc, hs, hr⟩
        have hall : ∀ k, k ≤ len → ∃ (l : List (El τ')) (C : Nat → List Value), l.length = k ∧ (∀ x ∈ l, Wf τ' x) ∧ ∀ (i : Nat) (y : El τ'), l[i]? = some y → w.cells? base (a.add (i * P.cellsOf e)) (P.cellsOf e) = some (C i) ∧ PRels w.cell? (enc τ' y) (C i) := by
          intro k
          induction k with
          | zero => exact fun _ => ⟨[], fun _ => [], rfl, (fun _ h => by cases h), (fun i y h => by simp at h)⟩
          | succ k ih =>
            intro hk
            obtain ⟨l, C, h1, h2, h3⟩ := ih (by omega)
            obtain ⟨y, c, h4, h5, h6⟩ := hex k (by omega)
            refine ⟨l ++ [y], fun i => if i = k then c else C i, by simp [h1], fun x hx => ?_, fun i z hz => ?_⟩
            · rcases List.mem_append.1 hx with hx | hx
              · exact h2 x hx
              · rw [List.mem_singleton.1 hx]; exact h5
            · by_cases hi : i = k
              · subst hi
                rw [List.getElem?_append_right (by omega), h1, Nat.sub_self] at hz
                cases hz
                simp only [if_pos]
                exact ⟨h4, h6⟩
              · have hlt : i < l.length := by
                  have := (List.getElem?_eq_some_iff.1 hz).1
                  simp at this; omega
                rw [List.getElem?_append_left hlt] at hz
                simp only [if_neg hi]
                exact h3 i z hz
        obtain ⟨l, C, h1, h2, h3⟩ := hall len (Nat.le_refl _)
        have hsz : ∀ (i : Nat) (y : El τ'), l[i]? = some y → sz τ' = P.cellsOf e := fun i y hy => by
          obtain ⟨g1, g2⟩ := h3 i y hy
          have := (World.cells?_some g1).2.1
          rw [g2.1, enc_length] at this
          exact this
        have hget : ∀ (i : Nat) (el : List AV), (l.map (enc τ'))[i]? = some el → ∃ y, l[i]? = some y ∧ el = enc τ' y := fun i el hi => by
          rw [List.getElem?_map] at hi
          obtain ⟨y, hy, rfl⟩ := Option.map_eq_some_iff.1 hi
          exact ⟨y, hy, rfl⟩
        refine ⟨l, ⟨by omega, h2⟩, .one (.tl ?_)⟩
        refine .sl (fun i j => ((C i)[j]?).getD undef) (by simp [h1]) hlc hcm (fun _ h => by cases h) (fun el hel => ?_) (fun h => by cases h) ?_ ?_
        · obtain ⟨y, _, rfl⟩ := List.mem_map.1 hel
          exact enc_length _ _
        · intro ad i j el x had hi hj
          cases had
          obtain ⟨y, hy, rfl⟩ := hget i el hi
          obtain ⟨g1, g2⟩ := h3 i y hy
          rw [hsz i y hy]
          obtain ⟨_, hcl, hcell⟩ := World.cells?_some g1
          have hjl : j < P.cellsOf e := by
            have := (List.getElem?_eq_some_iff.1 hj).1
            rw [← hcl, g2.1]; exact this
          have := hcell j hjl
          rw [Addr.add_add] at this
          rw [this, List.getElem?_eq_getElem (by omega)]
          rfl
        · intro i j el x hi hj
          obtain ⟨y, hy, rfl⟩ := hget i el hi
          obtain ⟨g1, g2⟩ := h3 i y hy
          have hjl : j < (C i).length := by
            have := (List.getElem?_eq_some_iff.1 hj).1
            rw [g2.1]; exact this
          have := g2.2 j x _ hj (List.getElem?_eq_getElem hjl)
          rw [List.getElem?_eq_getElem hjl]
          exact this
    · rename_i fs hu
      split at hok
      case h_2 => cases hok
      rename_i ts hts
      rw [Bool.and_eq_true, beq_iff_eq] at hok
      obtain ⟨xs, m, hf, _, hlen, hxl, hat⟩ := DataW.trod_struct hu h
      obtain ⟨_, d, h1, h2⟩ := read_fields (fuel := m) (ok := tyOk P n) (fun t τ cs x => read_trod n m t τ cs x) cs fs.toList ts 0 (P.cellsOf t) hok.1 hlen hok.2 (fun f hfm => by
        obtain ⟨i, hi, rfl⟩ := List.mem_iff_getElem.1 hfm
        have hs : i < fs.size := by simpa using hi
        have := hat i fs[i] (Array.getElem?_eq_getElem hs)
        rw [List.getElem?_eq_getElem (by omega)] at this
        exact ⟨_, by simpa using this⟩)
      obtain ⟨y, h3, h4⟩ := (comps_ok hts).2 d h1
      exact ⟨y, h4, by rw [h3]; simpa using h2⟩
    · cases hok
theorem read_one {t : TypeId} {τ : Ty} {v : Value} {d : DataW H} {ps : List MemPlace} {n : Nat} (hok : tyOk P n t τ = true) {r : Reach} {b : Nat} (hv : Value.okWide P w r b t v) (h : DataW.Trod enc' P w base spare held t v d ps) : ∃ y, Wf τ y ∧ PRel w.cell? (encV τ y) v := by
  obtain ⟨fuel, hf⟩ := h
  obtain ⟨y, hs, hr⟩ := read_trod n fuel t τ _ _ hok hf
  refine ⟨y, hs, ?_⟩
  cases n with
  | zero => cases hok
  | succ n =>
  have one : isAg τ = false → (∀ cs, v ≠ .agg cs) → PRel w.cell? (encV τ y) v := fun hag hna => by
    have hc : v.cells.toList = [v] := by cases v <;> first | rfl | exact absurd rfl (hna _)
    rw [hc] at hr
    have hl := hr.1
    unfold encV
    rw [hag]
    generalize enc τ y = l at hr hl
    cases l with
    | nil => simp at hl
    | cons x l =>
      cases l with
      | nil => exact hr.2 0 x v rfl rfl
      | cons => simp at hl
  unfold tyOk at hok
  split at hok
  · rename_i hu
    split at hok
    case h_2 => cases hok
    refine one rfl (fun cs hc => ?_); subst hc; simp [Value.okWide, hu, Cell.okWide, Cell.ok] at hv
  · rename_i k hu
    split at hok
    case h_2 => cases hok
    refine one rfl (fun cs hc => ?_); subst hc; simp [Value.okWide, hu, Cell.okWide, Cell.ok] at hv
  · rename_i hu
    split at hok
    case h_2 => cases hok
    refine one rfl (fun cs hc => ?_); subst hc; simp [Value.okWide, hu, Cell.okWide, Cell.ok] at hv
  · rename_i e hu
    split at hok
    case h_2 => cases hok
    refine one rfl (fun cs hc => ?_); subst hc; simp [Value.okWide, hu, Cell.okWide, Cell.ok] at hv
  · rename_i fs hu
    split at hok
    case h_2 => cases hok
    rename_i ts hts
    simp only [Value.okWide, hu] at hv
    obtain ⟨cs, rfl, _, _⟩ := hv
    unfold encV
    rw [(comps_ok hts).1]
    have : cs = (Value.cells (.agg cs)).toList.toArray := by simp [Value.cells]
    rw [this]
    exact .agg hr.1 hr.2
  · cases hok
theorem read_all {n : Nat} {r : Reach} {b : Nat} : ∀ {ts : List TypeId} {τs : List Ty} {vs : List Value} {ds : List (DataW H)} {ps : List MemPlace}, all2 (fun t τ => tyOk P n t τ) ts τs = true → (∀ (j : Nat) (t : TypeId) (v : Value), ts[j]? = some t → vs[j]? = some v → Value.okWide P w r b t v) →
    DataW.TrodAll enc' P w base spare held ts vs ds ps → ∃ d : VD τs, Wfs τs d ∧ PRels w.cell? (encVs τs d) vs
  | [], [], [], [], _, _, _, _ => ⟨(), trivial, rfl, fun i x v hx => by simp [encVs] at hx⟩
  | t :: ts, τ :: τs, v :: vs, d :: ds, _, hok, hv, ⟨p, q, h1, h2, _⟩ => by
    simp only [all2, Bool.and_eq_true] at hok
    obtain ⟨x, hx, hr⟩ := read_one hok.1 (hv 0 t v rfl rfl) h1
    obtain ⟨l, hl, hrs⟩ := read_all hok.2 (fun j t v hj hv' => hv (j + 1) t v (by simpa using hj) (by simpa using hv')) h2
    refine ⟨(x, l), ⟨hx, hl⟩, by simp [encVs, hrs.1], fun i y u hy hu => ?_⟩
    cases i with
    | zero => simp [encVs] at hy hu; subst hy; subst hu; exact hr
    | succ i => simp [encVs] at hy hu; exact hrs.2 i y u hy hu
  | _ :: _, [], _, _, _, hok, _, _ => by cases hok
end

/-! ### From a function's model to a row -/
section
variable {P : Program}
/-- What the package-level variables hold, in a world. -/
def GloW [GTab] (gs : List Nat) (w : World) : Prop := ∀ g, g ∈ gs → ∀ (j : Nat) (x : AV), (GTab.cells g)[j]? = some x → ∃ v, w.cell? ⟨g, j, none⟩ = some v ∧ PRel w.cell? x v
theorem calls_of_ent [GTab] {gs : List Nat} {e : Ent} (he : EntOk P gs e) {x : VD e.ps} {y : VD e.rs} (hx : e.run x = some y) {w : World} {vs : List Value} (hg : GloW gs w) (hr : PRels w.cell? (encVs e.ps x) vs) :
    Calls P e.f vs.toArray w fun ed w' => Below w.heap.size w w' ∧ ∃ v, ed = .returned v ∧ ∃ E : Env, Rel E (joined (encVs e.rs y)) v := by
  obtain ⟨_, h⟩ := he x y hx ⟨fun _ => none, 0, gs⟩ (List.all_eq_true.2 fun g hg => by
    have : ∀ l : List Nat, g ∈ l → memG l g = true := fun l => by
      induction l with
      | nil => intro h; cases h
      | cons a l ih =>
        intro h
        unfold memG
        rcases List.mem_cons.1 h with rfl | h
        · simp
        · split
          · rfl
          · exact ih h
    exact this gs hg)
  have h := h ⟨w.cell?, fun _ => .box 0⟩ w vs ⟨fun a v h => h, fun id l h => (Nat.not_lt_zero _ h).elim, hg, fun i j b h => (Nat.not_lt_zero _ h).elim, fun i b h => (Nat.not_lt_zero _ h).elim⟩ (fun id l i x h => (Nat.not_lt_zero _ h).elim) ⟨hr.1, fun i x v hx hv => .pure (hr.2 i x v hx hv)⟩ (fun i x hx => encVs_lt i x hx)
  refine h.mono fun ed w' ⟨v, r, h', E', h1, ⟨h2, h3⟩, h4, h5, h6⟩ => ⟨⟨h4.keep.os, h4.keep.tape, h4.keep.output, h4.keep.size, fun k hk => h4.keep.block k hk (fun id hid => (Nat.not_lt_zero _ hid).elim)⟩, v, h1, E', h2 ▸ h5⟩
end
section
variable {H : Type} {enc' : TypeId × Value → H} {P : Program}
theorem trodAll_stays (hl : laidOutB P = true) {W W' : World} {sp : Nat → Bool} (hb : Below W.heap.size W W') : ∀ {ts : List TypeId} {vs : List Value} {ds : List (DataW H)} {ps : List MemPlace}, (∀ t ∈ ts, P.readableRec t = true ∧ t < P.types.size) →
    DataW.TrodAll enc' P W 0 (fun _ => true) true ts vs ds ps → (∀ x ∈ ps, x.block < W.heap.size) → (∀ x ∈ ps, sp x.block = true) → DataW.TrodAll enc' P W' 0 sp true ts vs ds ps
  | [], [], [], _, _, h, _, _ => h
  | t :: ts, v :: vs, d :: ds, _, hok, ⟨p, q, h1, h2, e⟩, hlt, hs => by
    subst e
    exact ⟨p, q, WideElems.Trod_stays hl (hok t (List.mem_cons_self ..)).1 (hok t (List.mem_cons_self ..)).2 h1 (fun x hx => hb.same (hlt x (List.mem_append_left _ hx))) (fun x hx => hs x (List.mem_append_left _ hx)),
      trodAll_stays hl hb (fun t ht => hok t (List.mem_cons_of_mem _ ht)) h2 (fun x hx => hlt x (List.mem_append_right _ hx)) (fun x hx => hs x (List.mem_append_right _ hx)), rfl⟩

theorem post_of_below {f : Func} {s : ChangeSpec} {apart fresh handsOn again : Bool} {W W' : World} {args : Array Value} {v : Value} {ds gs : List (DataW H)} {before : List MemPlace}
    (hW : DataW.Whole enc' P f.params.toList s.vars apart W args.toList ds gs before) (hv : s.vars = [])
    (hres : ∀ (b : Nat) (sp : Nat → Bool) (hd : Bool), DataW.TrodAll enc' P W' b sp hd f.resultTypes.toList (v.resultList f.resultTypes.size) (s.fn H (ds ++ gs)).results [])
    (hargs : ∀ sp : Nat → Bool, (∀ p ∈ before, sp p.block = true) → DataW.TrodAll enc' P W' 0 sp true f.params.toList args.toList (s.fn H (ds ++ gs)).args before) (hvr : (s.fn H (ds ++ gs)).vars = [])
    (hb : Below W.heap.size W W')
    (hok : ∀ (j : Nat) (t : TypeId) (r : Value), f.resultTypes[j]? = some t → (v.resultList f.resultTypes.size)[j]? = some r → Value.okWide P W' .any 0 t r) :
    s.post enc' P f apart fresh handsOn again W args v W' := by
  have hold : ∀ p ∈ before, (fun b => decide (b < W.heap.size)) p.block = true := fun p hp => by simpa using hW.lt p hp
  have hvars : ∀ sp : Nat → Bool, DataW.TrodVars enc' P W' sp s.vars (s.fn H (ds ++ gs)).vars [] := fun sp => by rw [hv, hvr]; exact rfl
  refine ⟨ds, gs, before, [], before, [], hW, hres _ _ _, hargs _ hold, hvars _, World.keptBut_mono (fun p hp => ⟨hp, ?_⟩) (hb.frame (· ∈ before)), fun _ => ?_⟩
  · exact Or.inr (by simpa using hp)
  · have hlt : ∀ p ∈ before, p.block < W.heap.size := fun p hp => hW.lt p hp
    obtain ⟨_, _, _, _, _, hz, hn⟩ := hW
    refine ⟨hok, _, _, ([] ++ before) ++ [], ⟨[] ++ before, [], trodAll_append (hargs _ (fun _ _ => rfl)) (hres _ _ _), hvars _, rfl, ?_, ?_⟩, ?_⟩
    · intro b off hp
      have hp' : MemPlace.cell b off ∈ before := by simpa using hp
      rw [hb.frozen (hlt _ hp')]
      exact hz b off hp'
    · intro ha
      simpa using hn ha
    · intro p hp _
      simpa using hp

/-- A LAW'S ROW: whatever comes in, of plain data, the call hands back true, and nothing has turned. -/
theorem law_calls [GTab] {fn : Func} {f : FuncId} {s : ChangeSpec} {apart fresh handsOn again : Bool} {n : Nat} {bt : TypeId} {gs' : List Nat} {ps : List Ty} {run : Nat → VD ps → Option (VD [.bool])} (hl : laidOutB P = true)
    (hparams : all2 (fun t τ => P.readableRec t && decide (t < P.types.size) && tyOk P n t τ) fn.params.toList ps = true) (hrt : fn.resultTypes = #[bt]) (hbt : P.underlying bt = some .bool)
    (hvars : s.vars = []) (hs : ∀ (H : Type) (ds : List (DataW H)), ds.length = fn.params.toList.length → s.fn H ds = { results := [.lit (.bool true)], args := ds })
    (hent : ∀ N, EntOk P gs' ⟨f, ps, [.bool], run N⟩) (hlaw : ∀ x : VD ps, Wfs ps x → ∃ N, run N x = some (true, ()))
    (W : World) (hglo : GloW gs' W) (args : Array Value) (ds gs : List (DataW H)) (before : List MemPlace) {base : Nat}
    (hval : ∀ (j : Nat) t v, fn.params[j]? = some t → args[j]? = some v → Value.okWide P W .any base t v)
    (hW : DataW.Whole enc' P fn.params.toList s.vars apart W args.toList ds gs before) :
    Calls P f args W fun e W' => ∃ v, e = .returned v ∧ s.post enc' P fn apart fresh handsOn again W args v W' := by
  have hW' := hW
  obtain ⟨p, q, hA, hV, rfl, hfz, hnd⟩ := hW
  rw [hvars] at hV
  obtain ⟨rfl, rfl⟩ := trodVars_none hV
  have split : ∀ {ts : List TypeId} {ps : List Ty}, all2 (fun t τ => P.readableRec t && decide (t < P.types.size) && tyOk P n t τ) ts ps = true → (∀ t ∈ ts, P.readableRec t = true ∧ t < P.types.size) ∧ all2 (fun t τ => tyOk P n t τ) ts ps = true := by
    intro ts
    induction ts with
    | nil => intro ps h; cases ps <;> simp_all [all2]
    | cons t ts ih =>
      intro ps h
      cases ps with
      | nil => simp [all2] at h
      | cons τ ps =>
        simp only [all2, Bool.and_eq_true, decide_eq_true_eq] at h
        obtain ⟨h1, h2⟩ := ih h.2
        refine ⟨fun u hu => ?_, by simp only [all2, Bool.and_eq_true]; exact ⟨h.1.2, h2⟩⟩
        rcases List.mem_cons.1 hu with rfl | hu
        · exact h.1.1
        · exact h1 u hu
  obtain ⟨hp, hp2⟩ := split hparams
  obtain ⟨x, hx, hr⟩ := read_all (n := n) hp2 (fun j t v hj hv => hval j t v (by simpa using hj) (by simpa using hv)) hA
  obtain ⟨N, hN⟩ := hlaw x hx
  have hc := calls_of_ent (hent N) (x := x) (y := (true, ())) hN hglo hr
  simp only [Array.toArray_toList] at hc
  have hlen : ds.length = fn.params.toList.length := by
    have : ∀ {ts : List TypeId} {vs : List Value} {ds : List (DataW H)} {ps : List MemPlace}, DataW.TrodAll enc' P W 0 (fun _ => true) true ts vs ds ps → ds.length = ts.length := by
      intro ts
      induction ts with
      | nil => intro vs ds ps h; cases vs <;> cases ds <;> simp_all [DataW.TrodAll]
      | cons t ts ih =>
        intro vs ds ps h
        cases vs with
        | nil => simp [DataW.TrodAll] at h
        | cons v vs =>
          cases ds with
          | nil => simp [DataW.TrodAll] at h
          | cons d ds => obtain ⟨_, _, _, h2, _⟩ := h; simp [ih h2]
    exact this hA
  have hfn := hs H (ds ++ []) (by simpa using hlen)
  simp only [List.append_nil] at hW' hfz hnd
  refine hc.mono fun e W' ⟨hb, v, he, E, hv⟩ => ?_
  have hv : v = .bool true := Rel.p_inv hv
  subst hv
  refine ⟨_, he, post_of_below hW' hvars (fun b sp hd => ?_) (fun sp hsp => ?_) (by rw [hfn]) hb ?_⟩
  · rw [hfn, hrt]; exact trodAll_mk1 (shut_bool hbt _)
  · rw [hfn]
    simp only [List.append_nil]
    exact trodAll_stays hl hb hp hA (fun x hx => hW'.lt x hx) hsp
  · exact ok_one hrt rfl (okWide_bool_mk hbt _)
end
end Go.Up
