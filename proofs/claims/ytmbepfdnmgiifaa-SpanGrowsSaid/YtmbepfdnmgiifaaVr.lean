/- Vp, part r: what comes in, opened by its type. -/
import Derived.Test.YtmbepfdnmgiifaaVq
set_option linter.unusedVariables false
set_option linter.unusedSimpArgs false
namespace Go.Vp
section
variable {P : Program} {t : TypeId} {l : List AV}
theorem sh_bool (hu : P.underlying t = some .bool) (h : Sh P t l) : ∃ b, l = [.p (.bool b)] := by
  cases h with
  | bool => exact ⟨_, rfl⟩
  | int h => rw [hu] at h; cases h
  | string h => rw [hu] at h; cases h
  | slice h => rw [hu] at h; cases h
  | struct h => rw [hu] at h; cases h
theorem sh_int {k : IntKind} (hu : P.underlying t = some (.int k)) (h : Sh P t l) : ∃ n, l = [.p (.int k n)] ∧ (Lit.int k n).wf = true := by
  cases h with
  | bool h => rw [hu] at h; cases h
  | int h hw => rw [hu] at h; cases h; exact ⟨_, rfl, hw⟩
  | string h => rw [hu] at h; cases h
  | slice h => rw [hu] at h; cases h
  | struct h => rw [hu] at h; cases h
theorem sh_string (hu : P.underlying t = some .string) (h : Sh P t l) : ∃ s, l = [.p (.string s)] ∧ s.size ≤ maxLen := by
  cases h with
  | bool h => rw [hu] at h; cases h
  | int h => rw [hu] at h; cases h
  | string h hs => exact ⟨_, rfl, hs⟩
  | slice h => rw [hu] at h; cases h
  | struct h => rw [hu] at h; cases h
theorem sh_slice {e : TypeId} (hu : P.underlying t = some (.slice e)) (h : Sh P t l) : ∃ els, l = [.sl (P.cellsOf e) els none] ∧ els.length ≤ maxLen ∧ (∀ el ∈ els, Sh P e el) := by
  cases h with
  | bool h => rw [hu] at h; cases h
  | int h => rw [hu] at h; cases h
  | string h => rw [hu] at h; cases h
  | slice h h1 h2 h3 => rw [hu] at h; cases h; exact ⟨_, rfl, h1, h2⟩
  | struct h => rw [hu] at h; cases h
/-- Cells of types one behind the other. -/
inductive Shs (P : Program) : List TypeId → List AV → Prop
  | nil : Shs P [] []
  | cons {t : TypeId} {ts : List TypeId} {p l : List AV} : Sh P t p → Shs P ts l → Shs P (t :: ts) (p ++ l)
theorem shs_of : ∀ (fs : List Go.Field) (parts : List (List AV)), parts.length = fs.length → (∀ (i : Nat) (f : Go.Field) (p : List AV), fs[i]? = some f → parts[i]? = some p → Sh P f.type p) → Shs P (fs.map (·.type)) parts.flatten
  | [], [], _, _ => .nil
  | f :: fs, p :: parts, hl, h => .cons (h 0 f p rfl rfl) (shs_of fs parts (by simpa using hl) fun i f p hf hp => h (i + 1) f p (by simpa using hf) (by simpa using hp))
  | [], _ :: _, hl, _ => by simp at hl
  | _ :: _, [], hl, _ => by simp at hl
theorem sh_struct {fs : Array Go.Field} (hu : P.underlying t = some (.struct fs)) (h : Sh P t l) : Shs P (fs.toList.map (·.type)) l := by
  cases h with
  | bool h => rw [hu] at h; cases h
  | int h => rw [hu] at h; cases h
  | string h => rw [hu] at h; cases h
  | slice h => rw [hu] at h; cases h
  | struct h h1 h2 => rw [hu] at h; cases h; exact shs_of _ _ (by simpa using h1) (fun i f p hf hp => h2 i f p (by simpa using hf) hp)
/-- The types of a struct's fields. -/
def fts (P : Program) (t : TypeId) : Option (List TypeId) :=
  match P.underlying t with
  | some (.struct fs) => some (fs.toList.map (·.type))
  | _ => none
theorem sh_fts {ts : List TypeId} (hu : fts P t = some ts) (h : Sh P t l) : Shs P ts l := by
  unfold fts at hu
  split at hu
  · rename_i fs hf; injection hu with hu; subst hu; exact sh_struct hf h
  · cases hu
theorem shs_cons {ts : List TypeId} (h : Shs P (t :: ts) l) : ∃ p r, l = p ++ r ∧ Sh P t p ∧ Shs P ts r := by
  cases h with
  | cons h1 h2 => exact ⟨_, _, rfl, h1, h2⟩
theorem shs_nil (h : Shs P [] l) : l = [] := by
  cases h; rfl
theorem shAs_cons {ts : List TypeId} (h : ShAs P (t :: ts) l) : ∃ x r, l = x :: r ∧ ShA P t x ∧ ShAs P ts r := by
  cases h with
  | cons h1 h2 => exact ⟨_, _, rfl, h1, h2⟩
theorem shAs_nil (h : ShAs P [] l) : l = [] := by
  cases h; rfl
theorem shA_struct {x : AV} {ts : List TypeId} (hu : fts P t = some ts) (h : ShA P t x) : ∃ l, x = .agg l ∧ Sh P t l := by
  cases h with
  | one hn => 
    unfold fts at hu
    split at hu
    · rename_i fs hf; exact absurd hf (hn fs)
    · cases hu
  | agg h1 h2 => exact ⟨_, rfl, h2⟩
theorem shA_one {x : AV} (hu : fts P t = none) (h : ShA P t x) : Sh P t [x] := by
  cases h with
  | one _ h => exact h
  | agg h1 h2 => unfold fts at hu; rw [h1] at hu; cases hu
theorem shA_int {x : AV} {k : IntKind} (hu : P.underlying t = some (.int k)) (h : ShA P t x) : ∃ n, x = .p (.int k n) ∧ (Lit.int k n).wf = true := by
  obtain ⟨n, h1, h2⟩ := sh_int hu (shA_one (by unfold fts; rw [hu]) h)
  injection h1 with h1; exact ⟨n, h1, h2⟩
theorem shA_bool {x : AV} (hu : P.underlying t = some .bool) (h : ShA P t x) : ∃ b, x = .p (.bool b) := by
  obtain ⟨n, h1⟩ := sh_bool hu (shA_one (by unfold fts; rw [hu]) h)
  injection h1 with h1; exact ⟨n, h1⟩
theorem shA_string {x : AV} (hu : P.underlying t = some .string) (h : ShA P t x) : ∃ s, x = .p (.string s) ∧ s.size ≤ maxLen := by
  obtain ⟨n, h1, h2⟩ := sh_string hu (shA_one (by unfold fts; rw [hu]) h)
  injection h1 with h1; exact ⟨n, h1, h2⟩
theorem shA_slice {x : AV} {e : TypeId} (hu : P.underlying t = some (.slice e)) (h : ShA P t x) : ∃ els, x = .sl (P.cellsOf e) els none ∧ els.length ≤ maxLen ∧ (∀ el ∈ els, Sh P e el) := by
  obtain ⟨n, h1, h2⟩ := sh_slice hu (shA_one (by unfold fts; rw [hu]) h)
  injection h1 with h1; exact ⟨n, h1, h2⟩
/-- Elements, each of which is of some form. -/
theorem els_map {α : Type} {P : α → Prop} {g : α → List AV} : ∀ {els : List (List AV)}, (∀ el ∈ els, ∃ x, el = g x ∧ P x) → ∃ xs : List α, els = xs.map g ∧ ∀ x ∈ xs, P x
  | [], _ => ⟨[], rfl, fun x hx => by cases hx⟩
  | el :: els, h => by
    obtain ⟨x, rfl, hx⟩ := h el (List.mem_cons_self ..)
    obtain ⟨xs, rfl, hxs⟩ := els_map fun el he => h el (List.mem_cons_of_mem _ he)
    exact ⟨x :: xs, rfl, fun y hy => by rcases List.mem_cons.1 hy with rfl | hy; exact hx; exact hxs y hy⟩
theorem wf_i64 {n : Int} (h : (Lit.int .i64 n).wf = true) : -9223372036854775808 ≤ n ∧ n < 9223372036854775808 := by
  simp [Lit.wf, IntKind.min, IntKind.max, IntKind.signed, IntKind.bits] at h; omega
theorem wf_i32 {n : Int} (h : (Lit.int .i32 n).wf = true) : -2147483648 ≤ n ∧ n < 2147483648 := by
  simp [Lit.wf, IntKind.min, IntKind.max, IntKind.signed, IntKind.bits] at h; omega
theorem wf_u32 {n : Int} (h : (Lit.int .u32 n).wf = true) : 0 ≤ n ∧ n < 4294967296 := by
  simp [Lit.wf, IntKind.min, IntKind.max, IntKind.signed, IntKind.bits] at h; omega
end
end Go.Vp
