/- Vp, part i: operations that make or turn objects are sound; regions. -/
import Derived.Test.YtmbepfdnmgiifaaVh
set_option linter.unusedVariables false
set_option linter.unusedSimpArgs false
namespace Go.Vp
open Go.RowKit

section
variable {P : Program} {E0 : Env} {n0 : Nat} {w0 : World} {nt : Nat} {E : Env} {σ : St} {a : Act} {w : World}

theorem setAt_rels {E : Env} {l xs : List AV} {vs us : List Value} {off : Nat} (h : Rels E l vs) (k : Rels E xs us) : Rels E (setAt l off xs) (vs.take off ++ us ++ vs.drop (off + us.length)) := by
  rw [k.1]
  exact ((h.take off).append k).append (h.drop _)
theorem setAt_lt {n off : Nat} {l xs : List AV} (h : ∀ (i : Nat) (x : AV), l[i]? = some x → Lt n x) (k : ∀ (i : Nat) (x : AV), xs[i]? = some x → Lt n x) : ∀ (i : Nat) (x : AV), (setAt l off xs)[i]? = some x → Lt n x := by
  intro i x hx
  have hm := List.mem_of_getElem? hx
  simp only [setAt, List.mem_append] at hm
  rcases hm with (hm | hm) | hm
  · obtain ⟨q, hq⟩ := List.getElem?_of_mem (List.mem_of_mem_take hm); exact h q x hq
  · obtain ⟨q, hq⟩ := List.getElem?_of_mem hm; exact k q x hq
  · obtain ⟨q, hq⟩ := List.getElem?_of_mem (List.mem_of_mem_drop hm); exact h q x hq
theorem cells_lt {n : Nat} {x : AV} (h : Lt n x) : ∀ (i : Nat) (y : AV), x.cells[i]? = some y → Lt n y := by
  intro i y hy
  cases x with
  | agg l => exact h.agg_inv i y hy
  | _ =>
    simp only [AV.cells] at hy
    cases i with
    | zero => cases hy; exact h
    | succ i => cases hy

theorem append_sound (h : SRel E0 n0 w0 nt E σ a w) {t ty : TypeId} {s x : AV} {vs vx : Value} {K : AH → AV → Prop} {d : Option Tmp} (hd : okDst nt d = true)
    (hs : Rel E s vs) (hsl : Lt σ.h.n s) (hx : Rel E x vx) (hk : aappend P σ t s x K) :
    ∃ v w' E' h' r, (Builtin.append_ #[t, t] ty #[vs, vx]).run P w = .ok v w' ∧ K h' r ∧ SRel E0 n0 w0 nt E' (({ σ with h := h' } : St).put d r) (a.put d v) w' := by
  unfold aappend at hk
  obtain ⟨⟨e, sz, bytes⟩, ht, hk⟩ := oM_inv hk
  · obtain ⟨xs, hxs, hk⟩ := oM_inv hk
    · simp only at hxs hk
      obtain ⟨hb, hones, hk⟩ := hk
      have hpx := asl_sound hx hxs
      have hxlen : ∀ el ∈ xs, el.length = sz := by cases hpx with | sl us g1 g2 g3 g4 g5 => exact g5
      have mul_ok : ∀ q, q ≤ 4294967296 → q * bytes ≤ 140737488355328 ∧ q ≤ maxLen := fun q hq => ⟨Nat.le_trans (Nat.mul_le_mul hq hb) (by decide), by simp only [maxLen]; omega⟩
      -- a source whose capacity is its length
      have full : ∀ (els : List (List AV)), PRel E.S (.sl sz els (some els.length)) vs → els.length + xs.length ≤ 4294967296 → K (σ.h.new (.row (els.length + xs.length) sz)) (.own σ.h.n sz (els ++ xs)) →
          ∃ v w' E' h' r, (Builtin.append_ #[t, t] ty #[vs, vx]).run P w = .ok v w' ∧ K h' r ∧ SRel E0 n0 w0 nt E' (({ σ with h := h' } : St).put d r) (a.put d v) w' := by
        intro els hp hle hK
        have hslen : ∀ el ∈ els, el.length = sz := by cases hp with | sl us g1 g2 g3 g4 g5 => exact g5
        cases hpx with
        | @sl _ _ _ b m dd ys f1 f2 f3 f4 f5 f6 f7 f8 =>
          have hpx' : PRel E.S (.sl sz xs none) (.slice b m dd) := .sl ys f1 f2 f3 f4 f5 f6 f7 f8
          cases hp with
          | @sl _ _ _ ba n c us g1 g2 g3 g4 g5 g6 g7 g8 =>
            have hp' : PRel E.S (.sl sz els none) (.slice ba n c) := .sl us g1 g2 g3 (fun _ hk => by cases hk) g5 g6 g7 g8
            have hc : c = els.length := g4 _ rfl
            by_cases hm : m = 0
            · subst hm
              have hxs0 : xs = [] := List.eq_nil_of_length_eq_zero (by omega)
              subst hxs0
              have hrun := append_none (P := P) (w := w) (ty := ty) ht (a := ba) (b := b) (n := n) (c := c) (d := dd) g2
              -- the old row, as a row without room
              obtain ⟨q1, q2, q3⟩ := new_obj (x := .row (els.length + ([] : List (List AV)).length) sz) (eo := .row ba c els.length sz) (S' := E.S) (w' := w.alloc (.cells #[] 0)) h.hr h.ok (by simp) (fun k hk => heap_alloc_old w _ hk)
                (fun _ _ h => h) (fun _ _ h => .inl h) (fun b' hb' => by simp only [EO.blk] at hb'; rw [if_neg (by omega)] at hb'; cases hb')
                (fun l' hl' => by cases hl')
                (fun tip size hx => by
                  simp only [List.length_nil, Nat.add_zero, AO.row.injEq] at hx
                  obtain ⟨rfl, rfl⟩ := hx
                  exact ⟨ba, c, rfl, by omega, g3, fun ha => (g6 ha).2, fun hlt => by omega⟩)
              -- the same over the world as it was
              have q1' : HRel ({ S := E.S, obj := fun j => if j = σ.h.n then .row ba c els.length sz else E.obj j } : Env) (σ.h.new (.row (els.length + ([] : List (List AV)).length) sz)) w := by
                refine ⟨h.hr.cells, fun id l hid ho => ?_, fun id tip size hid ho => ?_, q1.inj, fun i b' hi hb' => ?_⟩
                · obtain ⟨b', cs, T, r1, r2, r3, r4⟩ := q1.box id l hid ho
                  have hlt : b' < w.heap.size := by
                    simp only [AH.new] at hid ho
                    by_cases he : id = σ.h.n
                    · subst he; rw [upd_same] at ho; cases ho
                    · simp only [] at r1
                      rw [if_neg he] at r1
                      exact h.hr.lt id b' (by omega) (by simp [EO.blk, r1])
                  exact ⟨b', cs, T, r1, by rw [← r2]; exact (heap_alloc_old w _ hlt).symm, r3, r4⟩
                · obtain ⟨base, cap, r1, r2, r3, r4, r5⟩ := q1.row id tip size hid ho
                  refine ⟨base, cap, r1, r2, r3, r4, fun hlt => ?_⟩
                  obtain ⟨b', cur, T, s1, s2, s3, s4⟩ := r5 hlt
                  have hlt' : b' < w.heap.size := by
                    simp only [AH.new] at hid ho
                    by_cases he : id = σ.h.n
                    · subst he
                      simp only [if_true] at r1
                      cases r1
                      omega
                    · simp only [] at r1
                      rw [if_neg he] at r1
                      exact h.hr.lt id b' (by omega) (by simp [EO.blk, r1, hlt, s1])
                  exact ⟨b', cur, T, s1, by rw [← s2]; exact (heap_alloc_old w _ hlt').symm, s3, s4⟩
                · simp only [AH.new] at hi
                  simp only [] at hb'
                  by_cases he : i = σ.h.n
                  · rw [if_pos he] at hb'
                    simp only [EO.blk] at hb'
                    rw [if_neg (by omega)] at hb'
                    cases hb'
                  · rw [if_neg he] at hb'
                    exact h.hr.lt i b' (by omega) hb'
              refine ⟨_, _, _, _, _, hrun, hK, h.step q2 q1' q3 (by simp [AH.new]) (Keep.refl ..) ?_ hd ?_ (.own (by simp [AH.new]))⟩
              · intro id b' hid hb'
                simp only [AH.new] at hid
                simp only [] at hb'
                by_cases he : id = σ.h.n
                · rw [if_pos he] at hb'
                  simp only [EO.blk] at hb'
                  rw [if_neg (by omega)] at hb'
                  cases hb'
                · rw [if_neg he] at hb'
                  exact .inr ⟨by omega, hb'⟩
              · subst g1
                rw [List.append_nil]
                exact .own (base := ba) (cap := c) (tip := els.length) (by simp) (Nat.le_refl _) (fun _ => ⟨rfl, rfl⟩) hp'
            · obtain ⟨cap', cur, hrun, k1, k2, k3, k4⟩ := append_grow (P := P) (w := w) (ty := ty) ht h.hr.cells hp' hpx' (by omega) (mul_ok _ (by omega)).1 (mul_ok _ (by omega)).2
              obtain ⟨E', hE'⟩ := row_new h (w1 := w.drew) (els := els ++ xs) (n := n + m) (cap := cap') (sz := sz) (cur := cur) (T := e) hd (keep_drew_alloc ..) rfl (fun _ _ => rfl) (by simp; omega) k1 k2 k3
                (fun el hel => by
                  rw [List.mem_append] at hel
                  rcases hel with hel | hel
                  · exact hslen el hel
                  · exact hxlen el hel) k4
              have en : els.length + xs.length = n + m := by omega
              rw [en] at hK
              exact ⟨_, _, E', _, _, hrun, hK, hE'⟩
      cases hos : ownS s with
      | some q =>
        obtain ⟨id, size, els⟩ := q
        rw [hos] at hk
        have hse := ownS_inv hos
        simp only at hse
        subst hse
        obtain ⟨hsz, ho, hle, hK⟩ := hk
        simp only at hsz ho hle hK
        subst hsz
        have hid := hsl.own_inv
        cases hs with
        | pure hs => cases hs
        | @own _ _ base cap tip _ ba c hobj hle2 htip hp =>
          obtain ⟨base2, cap2, r1, r2, r3, r4, r5⟩ := h.hr.row id _ _ hid ho
          rw [hobj] at r1
          cases r1
          obtain ⟨rfl, rfl⟩ := htip rfl
          cases hpx with
          | @sl _ _ _ b m dd ys f1 f2 f3 f4 f5 f6 f7 f8 =>
            have hpx' : PRel E.S (.sl size xs none) (.slice b m dd) := .sl ys f1 f2 f3 f4 f5 f6 f7 f8
            by_cases hm : m = 0
            · subst hm
              have hxs0 : xs = [] := List.eq_nil_of_length_eq_zero (by omega)
              subst hxs0
              have hrun := append_none (P := P) (w := w) (ty := ty) ht (a := ba) (b := b) (n := els.length) (c := c) (d := dd) r2
              have eo : upd σ.h.o id (some (.row (els.length + ([] : List (List AV)).length) size)) = σ.h.o := by
                funext j
                simp only [upd, List.length_nil, Nat.add_zero]
                split
                · rename_i hj; rw [hj, ho]
                · rfl
              rw [eo] at hK
              refine ⟨_, _, E, σ.h, _, hrun, hK, h.put hd ?_ (.own hid)⟩
              rw [List.append_nil]
              exact .own hobj (Nat.le_refl _) (fun _ => ⟨rfl, rfl⟩) hp
            · by_cases hroom : els.length + m ≤ c
              · obtain ⟨blk, cur, T, hbase, hheap, hcs, hfree⟩ := r5 (by omega)
                subst hbase
                obtain ⟨cur', hrun, k1, k2, k3, k4⟩ := append_room (P := P) (w := w) (ty := ty) (els := els) (xs := xs) ht h.hr.cells hp hpx' (by omega) hroom hheap hcs hones
                have hnew : (w.setRow blk cur').heap[blk]? = some (.cells cur' T (0, 0)) := setRow_heap w blk cur cur' T _ hheap
                have hbl : blk < w.heap.size := (Array.getElem?_eq_some_iff.1 hheap).1
                have hoblk : (E.obj id).blk = some blk := by simp only [hobj, EO.blk]; rw [if_pos (by omega)]; rfl
                have hold : ∀ a v, E.S a = some v → (w.setRow blk cur').cell? a = some v := by
                  intro ad v hv
                  have hc := h.hr.cells ad v hv
                  by_cases hab : ad.block = blk
                  · obtain ⟨ab, ao, asp⟩ := ad
                    simp only at hab
                    subst hab
                    have hsp : asp = none := by
                      cases asp with
                      | none => rfl
                      | some q => simp [World.cell?, hheap] at hc
                    subst hsp
                    have hlt : ao < els.length * size := by
                      rcases Nat.lt_or_ge ao (els.length * size) with h' | h'
                      · exact h'
                      · rw [hfree ao h'] at hv; cases hv
                    simp only [World.cell?, hnew]
                    simp only [World.cell?, hheap] at hc
                    have := k2 ao hlt
                    simp only [Option.isSome_none, Bool.false_eq_true, if_false] at hc ⊢
                    rw [this]; exact hc
                  · rw [cell_setRow_other w blk cur' ad hab]; exact hc
                obtain ⟨q1, q2, q3, q4⟩ := row_step (w' := w.setRow blk cur') (base' := some ⟨blk, 0, none⟩) (cap' := c) (tip' := els.length + xs.length) (S' := (E.addS blk (els.length * size) ((els.length + xs.length) * size) cur').S) h.hr h.ok hid hobj (by simp)
                  (fun k hk hne => setRow_other w blk k cur' (fun he => hne (by rw [he]; exact hoblk)))
                  (fun ad v hv => by
                    simp only [Env.addS]
                    rw [if_neg (fun hc => by
                      obtain ⟨ab, ao, asp⟩ := ad
                      obtain ⟨c1, c2, c3, c4⟩ := hc
                      simp only at c1 c2 c3
                      subst c1; subst c2
                      rw [hfree ao c3] at hv; cases hv)]
                    exact hv)
                  (fun ad v hv => by
                    simp only [Env.addS] at hv
                    split at hv
                    · rename_i hc
                      simp only [World.cell?, hc.1, hnew, hc.2.1]
                      simpa using hv
                    · exact hold ad v hv)
                  (fun ad v hv => by
                    simp only [Env.addS] at hv
                    split at hv
                    · rename_i hc; exact .inr (.inl (by rw [hc.1]; exact hoblk))
                    · exact .inl hv)
                  (by omega)
                  (fun b' hb' => by
                    simp only [EO.blk] at hb'
                    split at hb'
                    · simp at hb'; subst hb'; exact .inl hoblk
                    · cases hb')
                  ⟨by omega, r3, (fun hx => by cases hx), fun _ => ⟨blk, cur', T, rfl, hnew, k1, fun j hj => by
                    simp only [Env.addS]
                    rw [if_neg (fun hc => by have h4 : j < (els.length + xs.length) * size := hc.2.2.2; omega)]
                    exact hfree j (by rw [Nat.add_mul] at hj; omega)⟩⟩
                refine ⟨_, _, _, _, _, hrun, hK, h.step q2 q1 q3 (Nat.le_refl _) ⟨rfl, rfl, rfl, by simp, fun k hk hne => setRow_other w blk k cur' (fun he => hne id hid (by rw [he]; exact hoblk))⟩ q4 hd ?_ (.own hid)⟩
                have en : els.length + m = (els ++ xs).length := by simp; omega
                rw [en]
                refine .own (base := some ⟨blk, 0, none⟩) (cap := c) (tip := els.length + xs.length) (size := size) (by simp) (by simp) (fun _ => ⟨rfl, rfl⟩) ?_
                refine .sl (fun i j => (cur'[i * size + j]?).getD undef) rfl (by simp; omega) r3 (fun _ hk => by cases hk) (fun el hel => ?_) (fun hx => by cases hx) (fun ad i j el x had he hx => ?_) (fun i j el x he hx => ?_)
                · rw [List.mem_append] at hel
                  rcases hel with hel | hel
                  · cases hp with | sl us g1 g2 g3 g4 g5 => exact g5 el hel
                  · exact hxlen el hel
                · cases had
                  obtain ⟨u, hu, _⟩ := k4 i j el x he hx
                  have hj : j < size := by
                    have hmem := List.mem_of_getElem? he
                    have hl := (List.getElem?_eq_some_iff.1 hx).1
                    rw [List.mem_append] at hmem
                    rcases hmem with hmem | hmem
                    · cases hp with | sl us g1 g2 g3 g4 g5 => have := g5 el hmem; omega
                    · have := hxlen el hmem; omega
                  have hi : i < els.length + xs.length := by have := (List.getElem?_eq_some_iff.1 he).1; simpa using this
                  have hlt : i * size + j < (els.length + xs.length) * size := by
                    have : (i + 1) * size ≤ (els.length + xs.length) * size := Nat.mul_le_mul_right _ hi
                    rw [Nat.add_mul] at this; omega
                  rw [addr_add_lit]
                  simp only [Env.addS, Nat.zero_add]
                  by_cases hlo : els.length * size ≤ i * size + j
                  · rw [if_pos ⟨trivial, trivial, hlo, hlt⟩, hu]; rfl
                  · rw [if_neg (fun hc => hlo hc.2.2.1)]
                    have hi' : i < els.length := by
                      rcases Nat.lt_or_ge i els.length with h' | h'
                      · exact h'
                      · have := Nat.mul_le_mul_right size h'; omega
                    rw [List.getElem?_append_left hi'] at he
                    cases hp with
                    | sl us g1 g2 g3 g4 g5 g6 g7 g8 =>
                      have hs7 := g7 _ i j el x rfl he hx
                      have hc7 := hold _ _ hs7
                      rw [addr_add_lit] at hc7 hs7
                      simp only [World.cell?, hnew, Nat.zero_add] at hc7
                      simp only [Option.isSome_none, Bool.false_eq_true, if_false] at hc7
                      rw [hc7]
                      simpa using hs7
                · obtain ⟨u, hu, hpu⟩ := k4 i j el x he hx
                  rw [hu]
                  exact hpu.mono q2.S
              · obtain ⟨cap', cur, hrun, k1, k2, k3, k4⟩ := append_grow (P := P) (w := w) (ty := ty) ht h.hr.cells hp hpx' (by omega) (mul_ok _ (by omega)).1 (mul_ok _ (by omega)).2
                have hnone := S_none h.hr w.heap.size (Nat.le_refl _)
                have hnew : (w.drew.alloc (.cells cur e)).heap[w.heap.size]? = some (.cells cur e (0, 0)) := heap_alloc_new w.drew _
                have hold : ∀ k, k < w.heap.size → (w.drew.alloc (.cells cur e)).heap[k]? = w.heap[k]? := fun k hk => heap_alloc_old w.drew _ hk
                obtain ⟨q1, q2, q3, q4⟩ := row_step (w' := w.drew.alloc (.cells cur e)) (base' := some ⟨w.heap.size, 0, none⟩) (cap' := cap') (tip' := els.length + xs.length) (S' := (E.addS w.heap.size 0 ((els.length + xs.length) * size) cur).S) h.hr h.ok hid hobj (by simp)
                  (fun k hk _ => hold k hk)
                  (fun ad v hv => by
                    simp only [Env.addS]
                    rw [if_neg (fun hc => by rw [hnone ad hc.1] at hv; cases hv)]
                    exact hv)
                  (fun ad v hv => by
                    simp only [Env.addS] at hv
                    split at hv
                    · rename_i hc
                      simp only [World.cell?, hc.1, hnew, hc.2.1]
                      simpa using hv
                    · have hc := h.hr.cells ad v hv
                      rw [World.cell?_of_block (hold _ (World.block_lt_of_cell? w ad hc))]; exact hc)
                  (fun ad v hv => by
                    simp only [Env.addS] at hv
                    split at hv
                    · rename_i hc; exact .inr (.inr (by rw [hc.1]; exact Nat.le_refl _))
                    · exact .inl hv)
                  (by omega)
                  (fun b' hb' => by
                    simp only [EO.blk] at hb'
                    split at hb'
                    · simp at hb'; subst hb'; exact .inr ⟨Nat.le_refl _, by simp⟩
                    · cases hb')
                  ⟨by omega, k2, (fun hx => by cases hx), fun _ => ⟨w.heap.size, cur, e, rfl, hnew, k3, fun j hj => by
                    simp only [Env.addS]
                    rw [if_neg (fun hc => by have h4 : j < (els.length + xs.length) * size := hc.2.2.2; omega)]
                    exact hnone _ rfl⟩⟩
                refine ⟨_, _, _, _, _, hrun, hK, h.step q2 q1 q3 (Nat.le_refl _) (keep_drew_alloc ..) q4 hd ?_ (.own hid)⟩
                have en : els.length + m = (els ++ xs).length := by simp; omega
                rw [en] at k1 ⊢
                refine .own (base := some ⟨w.heap.size, 0, none⟩) (cap := cap') (tip := els.length + xs.length) (size := size) (by simp) (by simp) (fun _ => ⟨rfl, rfl⟩) ?_
                refine .sl (fun i j => (cur[i * size + j]?).getD undef) rfl k1 k2 (fun _ hk => by cases hk) (fun el hel => ?_) (fun hx => by cases hx) (fun ad i j el x had he hx => ?_) (fun i j el x he hx => ?_)
                · rw [List.mem_append] at hel
                  rcases hel with hel | hel
                  · cases hp with | sl us g1 g2 g3 g4 g5 => exact g5 el hel
                  · exact hxlen el hel
                · cases had
                  obtain ⟨u, hu, _⟩ := k4 i j el x he hx
                  have hj : j < size := by
                    have hmem := List.mem_of_getElem? he
                    have hl := (List.getElem?_eq_some_iff.1 hx).1
                    rw [List.mem_append] at hmem
                    rcases hmem with hmem | hmem
                    · cases hp with | sl us g1 g2 g3 g4 g5 => have := g5 el hmem; omega
                    · have := hxlen el hmem; omega
                  have hi : i < els.length + xs.length := by have := (List.getElem?_eq_some_iff.1 he).1; simpa using this
                  have hlt : i * size + j < (els.length + xs.length) * size := by
                    have : (i + 1) * size ≤ (els.length + xs.length) * size := Nat.mul_le_mul_right _ hi
                    rw [Nat.add_mul] at this; omega
                  rw [addr_add_lit]
                  simp only [Env.addS, Nat.zero_add]
                  rw [if_pos ⟨trivial, trivial, by omega, hlt⟩, hu]
                  rfl
                · obtain ⟨u, hu, hpu⟩ := k4 i j el x he hx
                  rw [hu]
                  exact hpu.mono q2.S
      | none =>
        rw [hos, bS_none] at hk
        obtain ⟨els, hfs, hle, hK⟩ := oM_inv hk
        unfold fullS at hfs
        split at hfs
        · rename_i size els' c
          split at hfs
          · rename_i hc
            obtain ⟨rfl, rfl⟩ := hc
            cases hfs
            exact full els hs.sl_inv hle hK
          · cases hfs
        · cases hfs
          have hv := hs.p_inv
          subst hv
          exact full [] (prel_nil _ _ _ (fun k hk => by simpa using hk)) hle hK
        · cases hfs
end
end Go.Vp
