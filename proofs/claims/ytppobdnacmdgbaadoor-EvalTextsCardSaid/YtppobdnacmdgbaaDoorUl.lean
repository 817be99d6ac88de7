/- Up, part l: objects made and turned: steps of the heap. -/
import Derived.Test.YtppobdnacmdgbaaDoorUk
set_option linter.unusedVariables false
set_option linter.unusedSimpArgs false
namespace Go.Up
open Go.RowKit

section
variable {P : Program} {E : Env} {h : AH} {w : World}

theorem S_none [GTab] (hh : HRel E h w) (b : Nat) (hb : w.heap.size ≤ b) : ∀ a, a.block = b → E.S a = none := by
  intro a ha
  cases hs : E.S a with
  | none => rfl
  | some v =>
    have := World.block_lt_of_cell? w a (hh.cells a v hs)
    omega

/-- A new object, in a block of its own or in none. -/
theorem Step.alloc [GTab] (hh : HRel E h w) (hok : h.ok) {w' : World} {x : AO} {eo : EO} {S' : Addr → Option Value} (hos : w'.os = w.os) (htape : w'.tape = w.tape) (hout : w'.output = w.output)
    (hsz : w.heap.size ≤ w'.heap.size) (hold : ∀ k, k < w.heap.size → w'.heap[k]? = w.heap[k]?)
    (hS : ∀ a v, E.S a = some v → S' a = some v) (hS2 : ∀ a v, S' a = some v → E.S a = some v ∨ (w.heap.size ≤ a.block ∧ w'.cell? a = some v))
    (hblk : ∀ b, eo.blk = some b → w.heap.size ≤ b ∧ b < w'.heap.size)
    (hx : Ext E h.n { S := S', obj := fun j => if j = h.n then eo else E.obj j } → ORel { S := S', obj := fun j => if j = h.n then eo else E.obj j } w' eo x) (hxl : x.lt (h.n + 1)) :
    Step E h w { S := S', obj := fun j => if j = h.n then eo else E.obj j } (h.new x) w' := by
  have hcells : ∀ a v, S' a = some v → w'.cell? a = some v := fun a v ha => by
    rcases hS2 a v ha with h1 | h1
    · have hc := hh.cells a v h1
      rw [World.cell?_of_block (hold _ (World.block_lt_of_cell? w a hc))]; exact hc
    · exact h1.2
  obtain ⟨h1, h2, h3⟩ := hh.new hok (x := x) (eo := eo) hS hcells hsz
    (fun j b hj _ hb => by
      have hlt := hh.lt j b hj hb
      refine ⟨hold b hlt, fun a ha => ?_⟩
      cases hs : E.S a with
      | some v => exact hS a v hs
      | none =>
        cases hs' : S' a with
        | none => rfl
        | some v =>
          rcases hS2 a v hs' with h1 | h1
          · rw [hs] at h1; cases h1
          · omega)
    (fun j b hj _ hb he => by have := hh.lt j b hj hb; have := hblk b he; omega) (fun b hb => (hblk b hb).2) hx hxl
  refine ⟨h2, h1, h3, by simp [AH.new], ⟨hos, htape, hout, hsz, fun k hk _ => hold k hk⟩, fun id b hid hb => ?_, fun a v ha => ?_⟩
  · simp only [AH.new] at hid
    simp only [] at hb
    by_cases he : id = h.n
    · rw [if_pos he] at hb; exact .inl (hblk b hb).1
    · rw [if_neg he] at hb; exact .inr ⟨id, by omega, hb⟩
  · rcases hS2 a v ha with h1 | h1
    · exact .inl h1
    · exact .inr (.inl h1.1)

/-- An object whose block turns. -/
theorem Step.turn [GTab] (hh : HRel E h w) (hok : h.ok) {c b : Nat} {x : AO} {w' : World} (hc : c < h.n) (hlive : h.o c ≠ none) (hb : (E.obj c).blk = some b) (hSb : ∀ a, a.block = b → E.S a = none)
    (hos : w'.os = w.os) (htape : w'.tape = w.tape) (hout : w'.output = w.output) (hsz : w'.heap.size = w.heap.size) (hold : ∀ k, k ≠ b → w'.heap[k]? = w.heap[k]?)
    (hx : ORel E w' (E.obj c) x) (hxl : x.lt h.n) : Step E h w E (h.set c (some x)) w' := by
  obtain ⟨h1, h2, h3⟩ := hh.set hok (S' := E.S) (w' := w') (c := c) (x := some x) (fun _ _ h => h)
    (fun a v ha => by
      have hne : a.block ≠ b := fun he => by rw [hSb a he] at ha; cases ha
      rw [World.cell?_of_block (hold _ hne)]; exact hh.cells a v ha)
    (by omega)
    (fun j b' hj hjc hlj hbj => by
      have hne : b' ≠ b := fun he => hjc (hh.inj j c b hj hc hlj hlive (he ▸ hbj) hb)
      exact ⟨hold b' hne, fun _ _ => rfl⟩)
    (fun _ => hlive) (fun y hy _ => by cases hy; exact hx) (fun y hy => by cases hy; exact hxl)
  refine ⟨h2, h1, h3, Nat.le_refl _, ⟨hos, htape, hout, by omega, fun k hk hne => hold k (fun he => hne c hc (he ▸ hb))⟩, fun id b' hid hb' => .inr ⟨id, hid, hb'⟩, fun a v ha => .inl ha⟩

/-- An object is forgotten; its block's cells are known for good from now on. -/
theorem Step.freeze [GTab] (hh : HRel E h w) (hok : h.ok) {c b : Nat} {cs : Array Value} {T : TypeId} {hi : Nat} (hc : c < h.n) (hlive : h.o c ≠ none) (hb : (E.obj c).blk = some b) (hSb : ∀ a, a.block = b → E.S a = none) (hheap : w.heap[b]? = some (.cells cs T (0, 0))) :
    Step E h w (E.addS b 0 hi cs) (h.set c none) w := by
  have hS : ∀ a v, E.S a = some v → (E.addS b 0 hi cs).S a = some v := fun a v ha => by
    simp only [Env.addS]
    rw [if_neg (fun hc => by rw [hSb a hc.1] at ha; cases ha)]
    exact ha
  obtain ⟨h1, h2, h3⟩ := hh.set hok (S' := (E.addS b 0 hi cs).S) (w' := w) (c := c) (x := none) hS
    (fun a v ha => by
      simp only [Env.addS] at ha
      split at ha
      · rename_i hcc
        obtain ⟨k1, k2, _, _⟩ := hcc
        simp only [World.cell?, k1, hheap, k2]
        simpa using ha
      · exact hh.cells a v ha)
    (Nat.le_refl _)
    (fun j b' hj hjc hlj hbj => by
      have hne : b' ≠ b := fun he => hjc (hh.inj j c b hj hc hlj hlive (he ▸ hbj) hb)
      refine ⟨rfl, fun a ha => ?_⟩
      simp only [Env.addS]
      rw [if_neg (fun hcc => hne (ha ▸ hcc.1))])
    (fun h => absurd rfl h) (fun y hy => by cases hy) (fun y hy => by cases hy)
  refine ⟨h2, h1, h3, Nat.le_refl _, .refl _ _ _, fun id b' hid hb' => .inr ⟨id, hid, hb'⟩, fun a v ha => ?_⟩
  simp only [Env.addS] at ha
  split at ha
  · rename_i hcc; exact .inr (.inr ⟨c, hc, by rw [hb, hcc.1]⟩)
  · exact .inl ha

/-- The same, where the block gets a mark. -/
theorem Step.freezeM [GTab] (hh : HRel E h w) (hok : h.ok) {c b : Nat} {cs : Array Value} {T : TypeId} {hi : Nat} {m : Nat × Nat} {w' : World} (hc : c < h.n) (hlive : h.o c ≠ none) (hb : (E.obj c).blk = some b) (hSb : ∀ a, a.block = b → E.S a = none)
    (hnew : w'.heap[b]? = some (.cells cs T m)) (hos : w'.os = w.os) (htape : w'.tape = w.tape) (hout : w'.output = w.output) (hsz : w'.heap.size = w.heap.size) (hold : ∀ k, k ≠ b → w'.heap[k]? = w.heap[k]?) :
    Step E h w (E.addS b 0 hi cs) (h.set c none) w' := by
  have hS : ∀ a v, E.S a = some v → (E.addS b 0 hi cs).S a = some v := fun a v ha => by
    simp only [Env.addS]
    rw [if_neg (fun hc => by rw [hSb a hc.1] at ha; cases ha)]
    exact ha
  obtain ⟨h1, h2, h3⟩ := hh.set hok (S' := (E.addS b 0 hi cs).S) (w' := w') (c := c) (x := none) hS
    (fun a v ha => by
      simp only [Env.addS] at ha
      split at ha
      · rename_i hcc
        obtain ⟨k1, k2, _, _⟩ := hcc
        simp only [World.cell?, k1, hnew, k2]
        simpa using ha
      · have hne : a.block ≠ b := fun he => by rw [hSb a he] at ha; cases ha
        rw [World.cell?_of_block (hold _ hne)]; exact hh.cells a v ha)
    (by omega)
    (fun j b' hj hjc hlj hbj => by
      have hne : b' ≠ b := fun he => hjc (hh.inj j c b hj hc hlj hlive (he ▸ hbj) hb)
      refine ⟨hold b' hne, fun a ha => ?_⟩
      simp only [Env.addS]
      rw [if_neg (fun hcc => hne (ha ▸ hcc.1))])
    (fun h => absurd rfl h) (fun y hy => by cases hy) (fun y hy => by cases hy)
  refine ⟨h2, h1, h3, Nat.le_refl _, ⟨hos, htape, hout, by omega, fun k hk hne => hold k (fun he => hne c hc (he ▸ hb))⟩, fun id b' hid hb' => .inr ⟨id, hid, hb'⟩, fun a v ha => ?_⟩
  simp only [Env.addS] at ha
  split at ha
  · rename_i hcc; exact .inr (.inr ⟨c, hc, by rw [hb, hcc.1]⟩)
  · exact .inl ha

/-- A new object takes over the block of one that is forgotten; the block turns. -/
theorem Step.take [GTab] (hh : HRel E h w) (hok : h.ok) {c b : Nat} {x : AO} {eo : EO} {S' : Addr → Option Value} {w' : World} (hc : c < h.n) (hlive : h.o c ≠ none) (hb : (E.obj c).blk = some b)
    (hos : w'.os = w.os) (htape : w'.tape = w.tape) (hout : w'.output = w.output) (hsz : w'.heap.size = w.heap.size) (hold : ∀ k, k ≠ b → w'.heap[k]? = w.heap[k]?)
    (hS : ∀ a v, E.S a = some v → S' a = some v) (hS2 : ∀ a v, S' a = some v → E.S a = some v ∨ a.block = b) (hcells : ∀ a v, S' a = some v → w'.cell? a = some v)
    (hblk : ∀ b', eo.blk = some b' → b' = b)
    (hx : Ext E h.n { S := S', obj := fun j => if j = h.n then eo else E.obj j } → ORel { S := S', obj := fun j => if j = h.n then eo else E.obj j } w' eo x) (hxl : x.lt (h.n + 1)) :
    Step E h w { S := S', obj := fun j => if j = h.n then eo else E.obj j } ((h.set c none).new x) w' := by
  obtain ⟨k1, k2⟩ := hh.kill hok c
  have hblt := hh.lt c b hc hb
  have hother : ∀ j b', j < h.n → (h.set c none).o j ≠ none → (E.obj j).blk = some b' → b' ≠ b := fun j b' hj hlj hbj he => by
    simp only [AH.set] at hlj
    by_cases hjc : j = c
    · subst hjc; rw [upd_same] at hlj; exact hlj rfl
    · rw [upd_other _ _ hjc] at hlj
      exact hjc (hh.inj j c b hj hc hlj hlive (he ▸ hbj) hb)
  obtain ⟨h1, h2, h3⟩ := k1.new k2 (x := x) (eo := eo) hS hcells (by omega)
    (fun j b' hj hlj hbj => by
      have hne := hother j b' hj hlj hbj
      refine ⟨hold b' hne, fun a ha => ?_⟩
      cases hs : E.S a with
      | some v => exact hS a v hs
      | none =>
        cases hs' : S' a with
        | none => rfl
        | some v =>
          rcases hS2 a v hs' with h1 | h1
          · rw [hs] at h1; cases h1
          · exact absurd (ha ▸ h1) hne)
    (fun j b' hj hlj hbj he => hother j b' hj hlj hbj (hblk b' he)) (fun b' hb' => by rw [hblk b' hb']; omega) hx hxl
  refine ⟨h2, h1, h3, by simp [AH.new, AH.set], ⟨hos, htape, hout, by omega, fun k hk hne => hold k (fun he => hne c hc (he ▸ hb))⟩, fun id b' hid hb' => ?_, fun a v ha => ?_⟩
  · simp only [AH.new, AH.set] at hid
    simp only [] at hb'
    by_cases he : id = h.n
    · rw [if_pos (by exact he)] at hb'
      exact .inr ⟨c, hc, by rw [hb, hblk b' hb']⟩
    · rw [if_neg (by exact he)] at hb'
      exact .inr ⟨id, by omega, hb'⟩
  · rcases hS2 a v ha with h1 | h1
    · exact .inl h1
    · exact .inr (.inr ⟨c, hc, by rw [hb, h1]⟩)
/-- An object is forgotten. -/
theorem Step.kill [GTab] (hh : HRel E h w) (hok : h.ok) (c : Nat) : Step E h w E (h.set c none) w := by
  obtain ⟨k1, k2⟩ := hh.kill hok c
  exact ⟨.refl _ _, k1, k2, Nat.le_refl _, .refl _ _ _, .refl _ _ _, .refl _ _ _⟩
theorem Step.trans [GTab] {E' E'' : Env} {h' h'' : AH} {w' w'' : World} (s : Step E h w E' h' w') (t : Step E' h' w' E'' h'' w'') : Step E h w E'' h'' w'' :=
  ⟨s.ext.trans t.ext s.le, t.rel, t.ok, Nat.le_trans s.le t.le, s.keep.trans t.keep s.fr, Fr.trans (w' := w'') s.fr t.fr s.keep.size, Gr.trans s.gr t.gr s.fr s.keep.size⟩
end
end Go.Up
