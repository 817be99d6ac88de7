/- Vp, part h: operations that make or turn objects; regions. -/
import Derived.Test.YtmbepfdnmgiifaaVg
set_option linter.unusedVariables false
set_option linter.unusedSimpArgs false
namespace Go.Vp
open Go.RowKit

/-- Values of which what they stand for hangs on no object. -/
def isP : AV → Bool
  | .p _ => true
  | .sl _ _ _ => true
  | .ep _ => true
  | .ifc _ _ => true
  | .junk => true
  | _ => false
theorem prel_of_isP {E : Env} {x : AV} {v : Value} (h : Rel E x v) (hp : isP x = true) : PRel E.S x v := by
  cases h with
  | pure h => exact h
  | _ => simp [isP] at hp

/-- The elements that a value stands for, as a slice of elements of so many cells. -/
def asl (sz : Nat) : AV → Option (List (List AV))
  | .sl size els _ => if size = sz then some els else none
  | .own _ size els => if size = sz then some els else none
  | .p (.slice none 0 0) => some []
  | _ => none
theorem prel_nil (S : Addr → Option Value) (sz : Nat) (cap : Option Nat) (hc : ∀ k, cap = some k → 0 = k) : PRel S (.sl sz [] cap) (.slice none 0 0) :=
  .sl (fun _ _ => undef) rfl (Nat.le_refl _) (by simp [maxLen]) hc (by simp) (fun _ => ⟨rfl, rfl⟩) (fun _ _ _ _ _ h => by cases h) (fun _ _ _ _ h => by cases h)
theorem asl_sound {E : Env} {sz : Nat} {x : AV} {v : Value} {els : List (List AV)} (h : Rel E x v) (ha : asl sz x = some els) : PRel E.S (.sl sz els none) v := by
  unfold asl at ha
  split at ha
  · split at ha
    · rename_i hs
      subst hs
      simp only [Option.some.injEq] at ha
      subst ha
      cases h.sl_inv with
      | sl us h1 h2 h3 h4 h5 h6 h7 h8 => exact .sl us h1 h2 h3 (fun _ hk => by cases hk) h5 h6 h7 h8
    · cases ha
  · split at ha
    · rename_i hs
      subst hs
      simp only [Option.some.injEq] at ha
      subst ha
      cases h with
      | pure h => cases h
      | own _ _ _ h => exact h
    · cases ha
  · cases ha
    rw [h.p_inv]
    exact prel_nil _ _ _ (fun _ hk => by cases hk)
  · cases ha

/-- The function and the arguments of a call of a value. -/
def fcall (f : AV) (args : List AV) : Option (FuncId × List AV) :=
  match f with
  | .p (.func (.func g) a b) => if a.size = 0 ∧ b.size = 0 then some (g, args) else none
  | .fn (.func g) a b => some (g, a ++ args ++ b)
  | _ => none

def ones (xs : List (List AV)) : Prop := ∀ e ∈ xs, ∀ x ∈ e, one x = true

/-- A source that is appended to: a full one. -/
def fullS (sz : Nat) : AV → Option (List (List AV))
  | .sl size els (some c) => if size = sz ∧ els.length = c then some els else none
  | .p (.slice none 0 0) => some []
  | _ => none
def ownS : AV → Option (Nat × Nat × List (List AV))
  | .own id size els => some (id, size, els)
  | _ => none
theorem ownS_inv {x : AV} {q : Nat × Nat × List (List AV)} (h : ownS x = some q) : x = .own q.1 q.2.1 q.2.2 := by
  unfold ownS at h; split at h
  · cases h; rfl
  · cases h
def bS (o : Option (Nat × Nat × List (List AV))) (f : Nat × Nat × List (List AV) → Prop) (z : Prop) (_ : Ph f) (_ : PhP z) : Prop :=
  match o with
  | some x => f x
  | none => z
theorem bS_some (x : Nat × Nat × List (List AV)) (f : Nat × Nat × List (List AV) → Prop) (z : Prop) (p : Ph f) (q : PhP z) : bS (some x) f z p q = f x := rfl
theorem bS_none (f : Nat × Nat × List (List AV) → Prop) (z : Prop) (p : Ph f) (q : PhP z) : bS none f z p q = z := rfl

def aappend (P : Program) (σ : St) (t : TypeId) (s x : AV) (K : AH → AV → Prop) : Prop :=
  oM (tz P t) (fun e =>
    oM (asl e.2.1 x) (fun xs =>
      e.2.2 ≤ 32768 ∧ ones xs ∧
      bS (ownS s) (fun q => q.2.1 = e.2.1 ∧ σ.h.o q.1 = some (.row q.2.2.length e.2.1) ∧ q.2.2.length + xs.length ≤ 4294967296 ∧ K { σ.h with o := upd σ.h.o q.1 (some (.row (q.2.2.length + xs.length) e.2.1)) } (.own q.1 e.2.1 (q.2.2 ++ xs)))
        (oM (fullS e.2.1 s) (fun els => els.length + xs.length ≤ 4294967296 ∧ K (σ.h.new (.row (els.length + xs.length) e.2.1)) (.own σ.h.n e.2.1 (els ++ xs))) .mk) .mk .mk) .mk) .mk

def chunk (sz : Nat) (xs : List AV) : Prop := ∀ x ∈ xs, known x = true ∧ x.cells.length = sz ∧ x.cells.all (fun c => isP (w1 c)) = true

def isPtr : Option TypeDesc → Bool
  | some (.pointer _) => true
  | _ => false
/-- Which call is it? -/
def isAppend : Callee → Bool
  | .builtin .append => true
  | _ => false
def valueOf : Callee → Option Operand
  | .value f => some f
  | _ => none

def aimp (P : Program) (σ : St) (g : Bool) (o : Oper) (K : St → Prop) : Prop :=
  match o.op with
  | .box _ x => (ug g (ev σ x)).1 ∧ known (ug g (ev σ x)).2 = true ∧ K (({ σ with h := σ.h.new (.box (ug g (ev σ x)).2.cells) } : St).put o.dst (.bp σ.h.n 0))
  | .alloc t => oM ((P.info? t).bind (·.zero)) (fun z => K (({ σ with h := σ.h.new (.box (z.cells.toList.map AV.p)) } : St).put o.dst (.bp σ.h.n 0))) .mk
  | .buildSlice t len parts => oM (tz P t) (fun e => parts.toList.map (·.1) = List.range len ∧ len ≤ 16777216 ∧ len * e.2.1 ≤ 16777216 ∧ chunk e.2.1 (parts.toList.map fun x => ev σ x.2) ∧
        K (σ.put o.dst (.sl e.2.1 (parts.toList.map fun x => (ev σ x.2).cells.map w1) (some len)))) .mk
  | .store t a x => oM (asBp (ev σ a)) (fun b => oM (tk P t) (fun k => oM (boxOf (σ.h.o b.1)) (fun l => known (ev σ x) = true ∧ (ev σ x).cells.length = k.2 ∧ b.2 + k.2 ≤ l.length ∧
          K (({ σ with h := { σ.h with o := upd σ.h.o b.1 (some (.box (setAt l b.2 (ev σ x).cells))) } } : St).put o.dst (.p undef))) .mk) .mk) .mk
  | .makeInterface t x => oM (asBp (ev σ x)) (fun b => b.2 = 0 ∧ isPtr (P.underlying t) = true ∧ oM (boxOf (σ.h.o b.1)) (fun l => l.all isP = true ∧
          K (({ σ with h := { σ.h with o := upd σ.h.o b.1 none } } : St).put o.dst (.ifc t (.ep l)))) .mk) .mk
  | .call c => if isAppend c.callee = true then oM (two c.args.toList) (fun sx => oM (two c.argTypes.toList) (fun tt => tt.1 = tt.2 ∧ aappend P σ tt.1 (ev σ sx.1) (ev σ sx.2) (fun h r => K (({ σ with h := h } : St).put o.dst r))) .mk) .mk
      else oM (valueOf c.callee) (fun fo => oks g (c.args.toList.map (ev σ)) ∧ oM (fcall (ev σ fo) (c.args.toList.map fun x => (ug g (ev σ x)).2)) (fun fa => ACallW P fa.1 σ.h fa.2 (fun r h => K (({ σ with h := h } : St).put o.dst r)) .mk) .mk) .mk
  | _ => False

section
variable {P : Program} {E0 : Env} {n0 : Nat} {w0 : World} {nt : Nat} {E : Env} {σ : St} {a : Act} {w : World}

theorem keep_alloc (E : Env) (n : Nat) (w : World) (o : Obj) : Keep E n w (w.alloc o) :=
  ⟨rfl, rfl, rfl, by simp, fun k hk _ => heap_alloc_old w o hk⟩
theorem keep_drew_alloc (E : Env) (n : Nat) (w : World) (o : Obj) : Keep E n w (w.drew.alloc o) :=
  ⟨rfl, rfl, rfl, by simp, fun k hk _ => heap_alloc_old w.drew o hk⟩
theorem S_none {E : Env} {h : AH} {w : World} (hh : HRel E h w) (b : Nat) (hb : w.heap.size ≤ b) : ∀ a, a.block = b → E.S a = none := by
  intro a ha
  cases hs : E.S a with
  | none => rfl
  | some v =>
    have := World.block_lt_of_cell? w a (hh.cells a v hs)
    omega

/-- A new box. -/
theorem box_new (h : SRel E0 n0 w0 nt E σ a w) {l : List AV} {cs : Array Value} {T : TypeId} {d : Option Tmp} (hd : okDst nt d = true) (hr : Rels E l cs.toList) (hl : ∀ (i : Nat) (x : AV), l[i]? = some x → Lt σ.h.n x) :
    ∃ E', SRel E0 n0 w0 nt E' (({ σ with h := σ.h.new (.box l) } : St).put d (.bp σ.h.n 0)) (a.put d (.pointer (some ⟨w.heap.size, 0, none⟩))) (w.alloc (.cells cs T)) := by
  obtain ⟨g1, g2, g3⟩ := new_obj (x := .box l) (eo := .box w.heap.size) (S' := E.S) (w' := w.alloc (.cells cs T)) h.hr h.ok (by simp) (fun k hk => heap_alloc_old w _ hk)
    (fun _ _ h => h) (fun _ _ h => .inl h) (fun b hb => by simpa [EO.blk] using hb.symm)
    (fun l' hl' => by cases hl'; exact ⟨cs, T, rfl, heap_alloc_new w _, hr, hl, S_none h.hr _ (Nat.le_refl _)⟩)
    (fun tip size hx => by cases hx)
  refine ⟨_, h.step g2 g1 g3 (by simp [AH.new]) (keep_alloc ..) ?_ hd (.bp (by simp)) (.bp (by simp [AH.new]))⟩
  intro id b hid hb
  simp only [AH.new] at hid
  simp only [] at hb
  by_cases he : id = σ.h.n
  · rw [if_pos he] at hb
    simp only [EO.blk, Option.some.injEq] at hb
    exact .inl (by omega)
  · rw [if_neg he] at hb
    exact .inr ⟨by omega, hb⟩

/-- A new row, full or with room, in a new block. -/
theorem row_new (h : SRel E0 n0 w0 nt E σ a w) {w1 : World} {els : List (List AV)} {n cap sz : Nat} {cur : Array Value} {T : TypeId} {d : Option Tmp} (hd : okDst nt d = true)
    (hk : Keep E σ.h.n w (w1.alloc (.cells cur T))) (hw : w1.heap.size = w.heap.size) (hw2 : ∀ k, k < w.heap.size → w1.heap[k]? = w.heap[k]?) (hn : n = els.length) (h1 : n ≤ cap) (h2 : cap ≤ maxLen) (h3 : cur.size = cap * sz) (hel : ∀ e ∈ els, e.length = sz)
    (hc : ∀ (i j : Nat) (el : List AV) (x : AV), els[i]? = some el → el[j]? = some x → ∃ u, cur[i * sz + j]? = some u ∧ PRel E.S x u) :
    ∃ E', SRel E0 n0 w0 nt E' (({ σ with h := σ.h.new (.row n sz) } : St).put d (.own σ.h.n sz els)) (a.put d (.slice (some ⟨w.heap.size, 0, none⟩) n cap)) (w1.alloc (.cells cur T)) := by
  subst hn
  have hold : ∀ k, k < w.heap.size → (w1.alloc (.cells cur T)).heap[k]? = w.heap[k]? := fun k hk => (heap_alloc_old w1 _ (by omega)).trans (hw2 k hk)
  have hnew : (w1.alloc (.cells cur T)).heap[w.heap.size]? = some (.cells cur T (0, 0)) := by rw [← hw]; exact heap_alloc_new w1 _
  have hnone := S_none h.hr w.heap.size (Nat.le_refl _)
  obtain ⟨g1, g2, g3⟩ := new_obj (x := .row els.length sz) (eo := .row (some ⟨w.heap.size, 0, none⟩) cap els.length sz) (S' := (E.addS w.heap.size 0 (els.length * sz) cur).S) (w' := w1.alloc (.cells cur T)) h.hr h.ok (by simp [hw]) hold
    (fun b v hb => by simp only [Env.addS]; rw [if_neg (fun hc => by rw [hnone b hc.1] at hb; cases hb)]; exact hb)
    (fun b v hb => by
      simp only [Env.addS] at hb
      split at hb
      · rename_i hc
        refine .inr ⟨hc.1, ?_⟩
        simp only [World.cell?, hc.1, hnew, hc.2.1]
        simpa using hb
      · exact .inl hb)
    (fun b hb => by simp only [EO.blk] at hb; split at hb <;> simp at hb; exact hb.symm)
    (fun l' hl' => by cases hl')
    (fun tip size hx => by
      cases hx
      refine ⟨_, cap, rfl, h1, h2, (fun hx => by cases hx), fun _ => ⟨w.heap.size, cur, T, rfl, hnew, h3, fun j hj => ?_⟩⟩
      simp only [Env.addS]
      rw [if_neg (fun hc => by have h4 : j < els.length * sz := hc.2.2.2; omega)]
      exact hnone _ rfl)
  refine ⟨_, h.step g2 g1 g3 (by simp [AH.new]) hk ?_ hd ?_ (.own (by simp [AH.new]))⟩
  · intro id b hid hb
    simp only [AH.new] at hid
    simp only [] at hb
    by_cases he : id = σ.h.n
    · rw [if_pos he] at hb
      simp only [EO.blk] at hb
      split at hb <;> simp at hb
      exact .inl (by omega)
    · rw [if_neg he] at hb
      exact .inr ⟨by omega, hb⟩
  · refine .own (base := some ⟨w.heap.size, 0, none⟩) (cap := cap) (tip := els.length) (by simp) (Nat.le_refl _) (fun _ => ⟨rfl, rfl⟩) ?_
    refine .sl (fun i j => (cur[i * sz + j]?).getD undef) rfl h1 h2 (fun _ hk => by cases hk) hel (fun hx => by cases hx) (fun ad i j e x had he hx => ?_) (fun i j e x he hx => ?_)
    · cases had
      obtain ⟨u, hu, _⟩ := hc i j e x he hx
      have hj : j < sz := by
        have hmem := hel e (List.mem_of_getElem? he)
        have := (List.getElem?_eq_some_iff.1 hx).1
        omega
      have hi : i < els.length := (List.getElem?_eq_some_iff.1 he).1
      have hlt : i * sz + j < els.length * sz := by
        have : (i + 1) * sz ≤ els.length * sz := Nat.mul_le_mul_right _ hi
        rw [Nat.add_mul] at this; omega
      rw [addr_add_lit]
      simp only [Env.addS, Nat.zero_add]
      rw [if_pos ⟨trivial, trivial, by omega, hlt⟩, hu]
      rfl
    · obtain ⟨u, hu, hp⟩ := hc i j e x he hx
      rw [hu]
      exact hp.mono g2.S

/-- A new row that no object stands for: what it holds is known for good. -/
theorem sl_new (h : SRel E0 n0 w0 nt E σ a w) {w1 : World} {els : List (List AV)} {n sz : Nat} {cur : Array Value} {T : TypeId} {d : Option Tmp} (hd : okDst nt d = true)
    (hk : Keep E σ.h.n w (w1.alloc (.cells cur T))) (hw : w1.heap.size = w.heap.size) (hw2 : ∀ k, k < w.heap.size → w1.heap[k]? = w.heap[k]?) (hn : n = els.length) (h2 : n ≤ maxLen) (h3 : cur.size = n * sz) (hel : ∀ e ∈ els, e.length = sz)
    (hc : ∀ (i j : Nat) (el : List AV) (x : AV), els[i]? = some el → el[j]? = some x → ∃ u, cur[i * sz + j]? = some u ∧ PRel E.S x u) :
    ∃ E', SRel E0 n0 w0 nt E' (σ.put d (.sl sz els (some n))) (a.put d (.slice (some ⟨w.heap.size, 0, none⟩) n n)) (w1.alloc (.cells cur T)) := by
  subst hn
  have hold : ∀ k, k < w.heap.size → (w1.alloc (.cells cur T)).heap[k]? = w.heap[k]? := fun k hk => (heap_alloc_old w1 _ (by omega)).trans (hw2 k hk)
  have hnew : (w1.alloc (.cells cur T)).heap[w.heap.size]? = some (.cells cur T (0, 0)) := by rw [← hw]; exact heap_alloc_new w1 _
  have hnone := S_none h.hr w.heap.size (Nat.le_refl _)
  obtain ⟨g1, g2, g3⟩ := new_obj (x := .row els.length sz) (eo := .row (some ⟨w.heap.size, 0, none⟩) els.length els.length sz) (S' := (E.addS w.heap.size 0 (els.length * sz) cur).S) (w' := w1.alloc (.cells cur T)) h.hr h.ok (by simp [hw]) hold
    (fun b v hb => by simp only [Env.addS]; rw [if_neg (fun hc => by rw [hnone b hc.1] at hb; cases hb)]; exact hb)
    (fun b v hb => by
      simp only [Env.addS] at hb
      split at hb
      · rename_i hc
        refine .inr ⟨hc.1, ?_⟩
        simp only [World.cell?, hc.1, hnew, hc.2.1]
        simpa using hb
      · exact .inl hb)
    (fun b hb => by simp only [EO.blk] at hb; split at hb <;> simp at hb; exact hb.symm)
    (fun l' hl' => by cases hl')
    (fun tip size hx => by
      cases hx
      exact ⟨_, els.length, rfl, Nat.le_refl _, h2, (fun hx => by cases hx), fun hlt => by omega⟩)
  have g1' := g1.cut (h' := σ.h) (by simp [AH.new]) (fun id hid => by simp only [AH.new]; rw [upd_other _ _ (by omega)])
  refine ⟨_, h.step (h' := σ.h) g2 g1' h.ok (Nat.le_refl _) hk (fun id b hid hb => ?_) hd ?_ (.sl _ _ _)⟩
  · simp only [] at hb
    rw [if_neg (by omega)] at hb
    exact .inr ⟨hid, hb⟩
  · refine .pure (.sl (fun i j => (cur[i * sz + j]?).getD undef) rfl (Nat.le_refl _) h2 (fun _ hk => by cases hk; rfl) hel (fun hx => by cases hx) (fun ad i j e x had he hx => ?_) (fun i j e x he hx => ?_))
    · cases had
      obtain ⟨u, hu, _⟩ := hc i j e x he hx
      have hj : j < sz := by
        have hmem := hel e (List.mem_of_getElem? he)
        have := (List.getElem?_eq_some_iff.1 hx).1
        omega
      have hi : i < els.length := (List.getElem?_eq_some_iff.1 he).1
      have hlt : i * sz + j < els.length * sz := by
        have : (i + 1) * sz ≤ els.length * sz := Nat.mul_le_mul_right _ hi
        rw [Nat.add_mul] at this; omega
      rw [addr_add_lit]
      simp only [Env.addS, Nat.zero_add]
      rw [if_pos ⟨trivial, trivial, by omega, hlt⟩, hu]
      rfl
    · obtain ⟨u, hu, hp⟩ := hc i j e x he hx
      rw [hu]
      exact hp.mono g2.S

theorem elems_flatten {sz : Nat} : ∀ (xss : List (List AV)) (i j : Nat) (e : List AV) (x : AV), (∀ e ∈ xss, e.length = sz) → xss[i]? = some e → e[j]? = some x → xss.flatten[i * sz + j]? = some x
  | [], _, _, _, _, _, h, _ => by cases h
  | y :: xss, 0, j, e, x, hl, he, hx => by
    simp only [List.getElem?_cons_zero, Option.some.injEq] at he
    subst he
    simp only [List.flatten_cons, Nat.zero_mul, Nat.zero_add]
    rw [List.getElem?_append_left (List.getElem?_eq_some_iff.1 hx).1]
    exact hx
  | y :: xss, i + 1, j, e, x, hl, he, hx => by
    simp only [List.getElem?_cons_succ] at he
    simp only [List.flatten_cons]
    have hy := hl y (by simp)
    rw [List.getElem?_append_right (by rw [hy, Nat.add_mul]; omega), hy]
    have := elems_flatten xss i j e x (fun e he => hl e (by simp [he])) he hx
    rw [← this]
    congr 1
    rw [Nat.add_mul]; omega

theorem flatten_len {sz : Nat} : ∀ (xss : List (List AV)), (∀ e ∈ xss, e.length = sz) → xss.flatten.length = xss.length * sz
  | [], _ => by simp
  | y :: xss, hl => by
    simp only [List.flatten_cons, List.length_append, List.length_cons, Nat.add_mul]
    rw [flatten_len xss (fun e he => hl e (by simp [he])), hl y (by simp)]
    omega

theorem fill_seq {sz : Nat} : ∀ (xs : List AV) (k : Nat) (cells : List AV), (∀ x ∈ xs, x.cells.length = sz) → (k + xs.length) * sz ≤ cells.length →
    fillA (fun i => some (i * sz, sz)) cells ((List.range' k xs.length).zip xs) = some (cells.take (k * sz) ++ (xs.map AV.cells).flatten ++ cells.drop ((k + xs.length) * sz))
  | [], k, cells, _, _ => by simp [fillA]
  | x :: xs, k, cells, hl, hb => by
    have hx := hl x (by simp)
    have e0 : (k + (xs.length + 1)) * sz = k * sz + sz + xs.length * sz := by rw [Nat.add_mul, Nat.add_mul]; omega
    simp only [List.length_cons] at hb
    rw [e0] at hb
    simp only [List.length_cons, List.range'_succ, List.zip_cons_cons, fillA]
    rw [if_pos ⟨hx, by omega⟩]
    have e1 : (k + 1) * sz = k * sz + sz := by rw [Nat.add_mul]; omega
    have hlen : (setAt cells (k * sz) x.cells).length = cells.length := by simp only [setAt, List.length_append, List.length_take, List.length_drop, hx]; omega
    rw [fill_seq xs (k + 1) _ (fun y hy => hl y (by simp [hy])) (by rw [hlen, Nat.add_mul, e1]; omega)]
    have e2 : (setAt cells (k * sz) x.cells).take ((k + 1) * sz) = cells.take (k * sz) ++ x.cells := by
      simp only [setAt, e1]
      rw [List.take_append_of_le_length (by simp only [List.length_append, List.length_take, hx]; omega)]
      rw [List.take_of_length_le (by simp only [List.length_append, List.length_take, hx]; omega)]
    have e3 : (setAt cells (k * sz) x.cells).drop ((k + 1 + xs.length) * sz) = cells.drop ((k + (xs.length + 1)) * sz) := by
      have e4 : (k + 1 + xs.length) * sz = k * sz + sz + xs.length * sz := by rw [Nat.add_mul, Nat.add_mul]; omega
      rw [e0, e4]
      simp only [setAt, hx]
      rw [List.drop_append, List.drop_of_length_le (by simp only [List.length_append, List.length_take, hx]; omega), List.nil_append, List.drop_drop]
      congr 1
      simp only [List.length_append, List.length_take, hx]; omega
    rw [e2, e3]
    simp [List.append_assoc]
end
end Go.Vp
