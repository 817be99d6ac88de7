/- Up, part n: appending. -/
import Derived.Test.YtppobdnacmdgbaaDoorUm
set_option linter.unusedVariables false
set_option linter.unusedSimpArgs false
namespace Go.Up
open Go.RowKit

def okLen (n : Nat) : Bool := Nat.ble n 4294967296
theorem okLen_ok {n : Nat} (h : okLen n = true) : n ≤ 4294967296 := Nat.le_of_ble_eq_true h
/-- What a full source holds. -/
def srcK (h : AH) (τ : Ty) (s : AV) : Option (List (El τ)) :=
  match s with
  | .p (.slice none 0 0) => some []
  | .sl size els (some c) => if Nat.beq size (sz τ) && Nat.beq els.length c then els.mapM (full (decC h0 τ)) else none
  | _ => none
def tzB (P : Program) (t : TypeId) (n : Nat) : Bool := match tz P t with
  | some e => e.2.1 == n && Nat.ble e.2.2 32768
  | none => false
theorem tzB_ok {P : Program} {t : TypeId} {n : Nat} (h : tzB P t n = true) : ∃ e b, tz P t = some (e, n, b) ∧ b ≤ 32768 := by
  unfold tzB at h
  split at h
  · rename_i e he
    obtain ⟨a, b, c⟩ := e
    simp only [Bool.and_eq_true, beq_iff_eq] at h
    obtain ⟨h1, h2⟩ := h
    subst h1
    exact ⟨a, c, he, Nat.le_of_ble_eq_true h2⟩
  · cases h

section
variable {P : Program} {h : AH} {e : Operand → AV} {R : Type}
def appK (C : Cfg) (h : AH) (t : TypeId) (s x : AV) (K : AH → AV → Option R) : Option R :=
  match s with
  | .rw id =>
    match h.o id with
    | some (.trow τ l) =>
      if tzB C.P t (sz τ) then (match asSl h τ (full (decC h0 τ)) x with
        | some xs => bif okLen (l ++ xs).length then K ((h.set id none).new (.trow τ (l ++ xs))) (.rw h.n) else none
        | none => none) else none
    | _ => none
  | .ms id off len =>
    match h.o id with
    | some (.tarr τ l) =>
      if tzB C.P t (sz τ) && Nat.beq off 0 && C.mt t then (match asSl h τ (full (decC h0 τ)) x with
        | some xs => bif Nat.ble len l.length && okLen (l.take len ++ xs).length then K ((h.set id none).new (.tarr τ (l.take len ++ xs))) (.mw h.n) else none
        | none => none) else none
    | _ => none
  | .mw id =>
    match h.o id with
    | some (.tarr τ l) =>
      if tzB C.P t (sz τ) && C.mt t then (match asSl h τ (full (decC h0 τ)) x with
        | some xs => bif okLen (l ++ xs).length then K ((h.set id none).new (.tarr τ (l ++ xs))) (.mw h.n) else none
        | none => none) else none
    | _ => none
  | s =>
    match C.ety t with
    | some τ =>
      if tzB C.P t (sz τ) then (match srcK h τ s with
        | some l => (match asSl h τ (full (decC h0 τ)) x with
          | some xs =>
            if C.mt t then (bif !xs.isEmpty && okLen (l ++ xs).length then K (h.new (.tarr τ (l ++ xs))) (.mw h.n) else none)
            else (bif okLen (l ++ xs).length then K (h.new (.trow τ (l ++ xs))) (.rw h.n) else none)
          | none => none)
        | none => none) else none
    | none => none

theorem mul_ok {q b : Nat} (hq : q ≤ 4294967296) (hb : b ≤ 32768) : q * b ≤ 140737488355328 ∧ q ≤ maxLen := ⟨Nat.le_trans (Nat.mul_le_mul hq hb) (by decide), by simp only [maxLen]; omega⟩
theorem idx_lt {i j n s : Nat} (hi : i < n) (hj : j < s) : i * s + j < n * s := by
  have : (i + 1) * s ≤ n * s := Nat.mul_le_mul_right _ hi
  rw [Nat.add_mul] at this; omega
theorem idx_inv {k n s : Nat} (hk : k < n * s) : k / s < n ∧ k % s < s ∧ k = k / s * s + k % s := by
  have hs : 0 < s := by
    rcases Nat.eq_zero_or_pos s with h | h
    · subst h; simp at hk
    · exact h
  refine ⟨(Nat.div_lt_iff_lt_mul hs).2 hk, Nat.mod_lt _ hs, ?_⟩
  have := Nat.div_add_mod k s
  rw [Nat.mul_comm] at this
  exact this.symm

/-- Cells of two lists of plain data, one behind the other. -/
theorem joined_cells {S : Addr → Option Value} {τ : Ty} {l xs : List (El τ)} {us ys : Nat → Nat → Value} {cur : Array Value}
    (hl : ∀ (i j : Nat) (y : El τ) (x : AV), l[i]? = some y → (enc τ y)[j]? = some x → PRel S x (us i j)) (hx : ∀ (i j : Nat) (y : El τ) (x : AV), xs[i]? = some y → (enc τ y)[j]? = some x → PRel S x (ys i j))
    (c1 : ∀ i j, i < l.length → j < sz τ → cur[i * sz τ + j]? = some (us i j)) (c2 : ∀ i j, i < xs.length → j < sz τ → cur[(l.length + i) * sz τ + j]? = some (ys i j)) :
    ∀ (i j : Nat) (y : El τ) (x : AV), (l ++ xs)[i]? = some y → (enc τ y)[j]? = some x → ∃ v, cur[i * sz τ + j]? = some v ∧ PRel S x v := by
  intro i j y x hy hxj
  have hj : j < sz τ := by have := (List.getElem?_eq_some_iff.1 hxj).1; rwa [enc_length] at this
  by_cases hi : i < l.length
  · rw [List.getElem?_append_left hi] at hy
    exact ⟨_, c1 i j hi hj, hl i j y x hy hxj⟩
  · rw [List.getElem?_append_right (by omega)] at hy
    have hi2 := (List.getElem?_eq_some_iff.1 hy).1
    have := c2 (i - l.length) j hi2 hj
    rw [show l.length + (i - l.length) = i by omega] at this
    exact ⟨_, this, hx _ j y x hy hxj⟩
/-- A list of plain data in a block's first cells, known for good. -/
theorem row_prel [GTab] {S : Addr → Option Value} {τ : Ty} {l : List (El τ)} {b cap : Nat} {cur : Array Value} (hle : l.length ≤ cap) (hcap : cap ≤ maxLen)
    (hc : ∀ (i j : Nat) (y : El τ) (x : AV), l[i]? = some y → (enc τ y)[j]? = some x → ∃ v, cur[i * sz τ + j]? = some v ∧ PRel S x v)
    (hS : ∀ k v, k < l.length * sz τ → cur[k]? = some v → S ⟨b, k, none⟩ = some v) : PRel S (.sl (sz τ) (l.map (enc τ)) none) (.slice (some ⟨b, 0, none⟩) l.length cap) := by
  have key : ∀ (i j : Nat) (e : List AV) (x : AV), (l.map (enc τ))[i]? = some e → e[j]? = some x → ∃ v, cur[i * sz τ + j]? = some v ∧ PRel S x v ∧ i * sz τ + j < l.length * sz τ := by
    intro i j e x he hx
    rw [List.getElem?_map] at he
    obtain ⟨y, hy, rfl⟩ := Option.map_eq_some_iff.1 he
    obtain ⟨v, h1, h2⟩ := hc i j y x hy hx
    have hj : j < sz τ := by have := (List.getElem?_eq_some_iff.1 hx).1; rwa [enc_length] at this
    exact ⟨v, h1, h2, idx_lt (List.getElem?_eq_some_iff.1 hy).1 hj⟩
  refine .sl (fun i j => (cur[i * sz τ + j]?).getD undef) (by simp) hle hcap (fun _ hk => by cases hk) (fun e he => ?_) (fun ha => by cases ha) (fun ad i j e x ha he hx => ?_) (fun i j e x he hx => ?_)
  · obtain ⟨y, _, rfl⟩ := List.mem_map.1 he
    exact enc_length _ _
  · cases ha
    obtain ⟨v, h1, h2, h3⟩ := key i j e x he hx
    rw [addr_add_lit, h1]
    simp only [Nat.zero_add]
    exact hS _ v h3 h1
  · obtain ⟨v, h1, h2, _⟩ := key i j e x he hx
    rw [h1]; exact h2

/-- A new row of plain data in a new block. -/
theorem Step.row [GTab] {E : Env} {w w1 : World} (hh : HRel E h w) (hok : h.ok) {τ : Ty} {l : List (El τ)} {cap : Nat} {cur : Array Value} {T : TypeId} (hos : w1.os = w.os) (htape : w1.tape = w.tape) (hout : w1.output = w.output) (hheap : w1.heap = w.heap)
    (hle : l.length ≤ cap) (hcap : cap ≤ maxLen) (hsz : cur.size = cap * sz τ)
    (hc : ∀ (i j : Nat) (y : El τ) (x : AV), l[i]? = some y → (enc τ y)[j]? = some x → ∃ v, cur[i * sz τ + j]? = some v ∧ PRel E.S x v) :
    ∃ E', Step E h w E' (h.new (.trow τ l)) (w1.alloc (.cells cur T)) ∧ Rel E' (.rw h.n) (.slice (some ⟨w.heap.size, 0, none⟩) l.length cap) ∧ Lt (h.new (.trow τ l)).n (.rw h.n) := by
  have hnone := S_none hh w.heap.size (Nat.le_refl _)
  have hold : ∀ k, k < w.heap.size → (w1.alloc (.cells cur T)).heap[k]? = w.heap[k]? := fun k hk => by
    have := heap_alloc_old w1 (.cells cur T) (show k < w1.heap.size by rw [hheap]; exact hk)
    rw [this, hheap]
  have hnew : (w1.alloc (.cells cur T)).heap[w.heap.size]? = some (.cells cur T (0, 0)) := by rw [← hheap]; exact heap_alloc_new w1 _
  refine ⟨_, Step.alloc (eo := .row (some ⟨w.heap.size, 0, none⟩) cap l.length (sz τ)) (S' := (E.addS w.heap.size 0 (l.length * sz τ) cur).S) hh hok hos htape hout (by simp [hheap]) hold
    (fun a v ha => by simp only [Env.addS]; rw [if_neg (fun hcc => by rw [hnone a hcc.1] at ha; cases ha)]; exact ha)
    (fun a v ha => by
      simp only [Env.addS] at ha
      split at ha
      · rename_i hcc
        refine .inr ⟨by rw [hcc.1]; exact Nat.le_refl _, ?_⟩
        simp only [World.cell?, hcc.1, hnew, hcc.2.1]
        simpa using ha
      · exact .inl ha)
    (fun b hb => by
      simp only [EO.blk] at hb
      split at hb
      · simp only [Option.map_some, Option.some.injEq] at hb; subst hb; exact ⟨Nat.le_refl _, by simp [hheap]⟩
      · cases hb)
    (fun hext => ?_) trivial, .rw (size := sz τ) (by simp), .rw (by simp [AH.new])⟩
  refine ⟨some ⟨w.heap.size, 0, none⟩, cap, rfl, ?_, fun hlt => ⟨w.heap.size, cur, T, rfl, hnew, hsz, fun j hj => ?_⟩⟩
  · refine row_prel (cur := cur) hle hcap (fun i j y x hy hx => ?_) (fun k v hk hv => ?_)
    · obtain ⟨v, h1, h2⟩ := hc i j y x hy hx
      exact ⟨v, h1, h2.mono hext.S⟩
    · simp only [Env.addS]
      rw [if_pos ⟨trivial, trivial, Nat.zero_le _, hk⟩]; exact hv
  · simp only [Env.addS]
    rw [if_neg (fun hcc => by have h4 : j < l.length * sz τ := hcc.2.2.2; omega)]
    exact hnone _ rfl
/-- New turning cells of plain data in a new block. -/
theorem Step.arr [GTab] {E : Env} {w w1 : World} (hh : HRel E h w) (hok : h.ok) {τ : Ty} {l : List (El τ)} {cap : Nat} {cur : Array Value} {T : TypeId} (hos : w1.os = w.os) (htape : w1.tape = w.tape) (hout : w1.output = w.output) (hheap : w1.heap = w.heap)
    (hle : l.length ≤ cap) (hcap : cap ≤ maxLen) (hsz : cur.size = cap * sz τ)
    (hc : ∀ (i j : Nat) (y : El τ) (x : AV), l[i]? = some y → (enc τ y)[j]? = some x → ∃ v, cur[i * sz τ + j]? = some v ∧ PRel E.S x v) :
    ∃ E', Step E h w E' (h.new (.tarr τ l)) (w1.alloc (.cells cur T)) ∧ Rel E' (.mw h.n) (.slice (some ⟨w.heap.size, 0, none⟩) l.length cap) ∧ Lt (h.new (.tarr τ l)).n (.mw h.n) := by
  have hold : ∀ k, k < w.heap.size → (w1.alloc (.cells cur T)).heap[k]? = w.heap[k]? := fun k hk => by
    have := heap_alloc_old w1 (.cells cur T) (show k < w1.heap.size by rw [hheap]; exact hk)
    rw [this, hheap]
  have hnew : (w1.alloc (.cells cur T)).heap[w.heap.size]? = some (.cells cur T (0, 0)) := by rw [← hheap]; exact heap_alloc_new w1 _
  refine ⟨_, Step.alloc (eo := .arr w.heap.size cap (sz τ) l.length) (S' := E.S) hh hok hos htape hout (by simp [hheap]) hold (fun _ _ h => h) (fun _ _ h => .inl h)
    (fun b hb => by
      simp only [EO.blk] at hb
      split at hb
      · simp only [Option.some.injEq] at hb; subst hb; exact ⟨Nat.le_refl _, by simp [hheap]⟩
      · cases hb)
    (fun hext => ⟨w.heap.size, cap, rfl, hle, hcap, fun _ => ⟨cur, T, hnew, hsz, S_none hh _ (Nat.le_refl _), hc⟩⟩) trivial, ?_, .mw (by simp [AH.new])⟩
  exact .mw (b := w.heap.size) (cap := cap) (size := sz τ) (by simp) (Nat.le_refl _) hle hcap (fun _ => rfl)

/-- An appending of lists of plain data behind a full source. -/
theorem app_full [GTab] {E : Env} {w : World} (hh : HRel E h w) (hok : h.ok) {t ty et : TypeId} {bytes : Nat} {τ : Ty} {l xs : List (El τ)} {a b : Option Addr} {n c m d : Nat} (ht : tz P t = some (et, sz τ, bytes)) (hb : bytes ≤ 32768)
    (hs : PRel E.S (.sl (sz τ) (l.map (enc τ)) none) (.slice a n c)) (hfull : n = c) (hx : PRel E.S (.sl (sz τ) (xs.map (enc τ)) none) (.slice b m d)) (hle : (l ++ xs).length ≤ 4294967296) (hne : xs ≠ []) :
    ∃ cap' cur, (Builtin.append_ #[t, t] ty #[.slice a n c, .slice b m d]).run P w = .ok (.slice (some ⟨w.heap.size, 0, none⟩) (l ++ xs).length cap') (w.drew.alloc (.cells cur et)) ∧ (l ++ xs).length ≤ cap' ∧ cap' ≤ maxLen ∧ cur.size = cap' * sz τ ∧
      ∀ (i j : Nat) (y : El τ) (x : AV), (l ++ xs)[i]? = some y → (enc τ y)[j]? = some x → ∃ v, cur[i * sz τ + j]? = some v ∧ PRel E.S x v := by
  obtain ⟨e1, e2, e3, e4, us, e5, e6⟩ := lie_of_prel hh.cells hs
  obtain ⟨f1, f2, f3, f4, ys, f5, f6⟩ := lie_of_prel hh.cells hx
  have hm : 0 < m := by rw [f1]; exact List.length_pos_iff.2 hne
  have hlen : (l ++ xs).length = n + m := by simp [e1, f1]
  rw [hlen] at hle ⊢
  obtain ⟨cap', cur, k1, k2, k3, k4, k5, k6⟩ := app_grow (P := P) (w := w) (ty := ty) ht e5 f5 e2 e3 e4 f2 f3 f4 (by omega) (mul_ok hle hb).1 (mul_ok hle hb).2
  refine ⟨cap', cur, k1, k2, k3, k4, joined_cells e6 f6 (fun i j hi hj => k5 i j (by omega) hj) (fun i j hi hj => ?_)⟩
  have := k6 i j (by omega) hj
  rw [e1] at this
  exact this
theorem srcK_ok [GTab] {E : Env} {w : World} (hh : HRel E h w) {τ : Ty} {s : AV} {l : List (El τ)} {v : Value} (hs : srcK h τ s = some l) (hv : Rel E s v) : ∃ a n, v = .slice a n n ∧ PRel E.S (.sl (sz τ) (l.map (enc τ)) none) v := by
  unfold srcK at hs
  split at hs
  · cases hs
    obtain rfl := hv.p_inv
    exact ⟨none, 0, rfl, prel_nil _ _ _ (fun _ hk => by cases hk)⟩
  · rename_i size els c
    split at hs
    · rename_i hc
      simp only [Bool.and_eq_true] at hc
      have h1 : size = sz τ := Nat.eq_of_beq_eq_true hc.1
      have h2 : els.length = c := Nat.eq_of_beq_eq_true hc.2
      have hp := hv.sl_inv
      have hr := asSl_ok hh.h0 (fun l y hy => by simpa using (decC_ok τ hh.h0 (fun _ _ => .h0 _) (full_inv hy)).1) (RwOk.h0 _) (x := .sl size els (some c)) (t := τ) (dec := full (decC h0 τ)) (l := l) (by simp only [asSl]; rw [if_pos h1]; exact hs) v hv
      cases hp with
      | @sl _ _ _ a n c' us g1 g2 g3 g4 =>
        have := g4 c rfl
        exact ⟨a, n, by rw [show c' = n by omega], hr.tl_inv⟩
    · cases hs
  · cases hs

theorem app_arr [GTab] {P : Program} {t ty et : TypeId} {bytes : Nat} {τ : Ty} {l xs : List (El τ)} {E : Env} {w : World} {id len blk cap c m d : Nat} {ad b : Option Addr} (hh : HRel E h w) (hok : h.ok) (hid : id < h.n) (ho : h.o id = some (.tarr τ l)) (ht : tz P t = some (et, sz τ, bytes)) (hbytes : bytes ≤ 32768)
    (hobj : E.obj id = .arr blk cap (sz τ) l.length) (m1 : c ≤ cap) (m2 : len ≤ c) (m3 : cap ≤ maxLen) (m4 : 0 < c → ad = some ⟨blk, 0, none⟩) (hll : len ≤ l.length) (hle : (l.take len ++ xs).length ≤ 4294967296) (hpx : PRel E.S (.sl (sz τ) (xs.map (enc τ)) none) (.slice b m d)) :
    ∃ v w', (Builtin.append_ #[t, t] ty #[.slice ad len c, .slice b m d]).run P w = .ok v w' ∧ ∃ E', Step E h w E' ((h.set id none).new (.tarr τ (l.take len ++ xs))) w' ∧ Rel E' (.mw h.n) v ∧ Lt ((h.set id none).new (.tarr τ (l.take len ++ xs))).n (.mw h.n) := by
  obtain ⟨f1, f2, f3, f4, ys, f5, f6⟩ := lie_of_prel hh.cells hpx
  have hlen : (l.take len ++ xs).length = len + m := by simp [f1]; omega
  have htl : (l.take len).length = len := by simp; omega
  rw [hlen] at hle
  obtain ⟨blk2, cap2, q1, q2, q3, q0⟩ := hh.arr id τ l hid ho
  rw [hobj] at q1
  cases q1
  have e0 : cap = 0 → l = [] ∧ len = 0 ∧ c = 0 := fun h0 => ⟨List.eq_nil_of_length_eq_zero (by omega), by omega, by omega⟩
  by_cases hcap : cap = 0
  · obtain ⟨e1, e2, e3⟩ := e0 hcap
    subst e1; subst e2; subst e3; subst hcap
    simp only [List.take_nil, List.nil_append] at hlen hle ⊢
    by_cases hm : m = 0
    · have hxs0 : xs = [] := List.eq_nil_of_length_eq_zero (by omega)
      subst hxs0
      subst hm
      have hrun := append_none (P := P) (w := w) (ty := ty) ht (a := ad) (b := b) (n := 0) (c := 0) (d := d) (Nat.le_refl _)
      obtain ⟨g1, g2⟩ := hh.kill hok id
      refine ⟨_, _, hrun, _, (Step.kill hh hok id).trans (Step.alloc (eo := .arr blk 0 (sz τ) 0) (S' := E.S) g1 g2 rfl rfl rfl (Nat.le_refl _) (fun _ _ => rfl) (fun _ _ h => h) (fun _ _ h => .inl h)
        (fun b' hb' => by simp [EO.blk] at hb') (fun hext => ⟨blk, 0, rfl, Nat.le_refl _, m3, fun h => absurd h (Nat.lt_irrefl _)⟩) trivial), ?_, .mw (by simp [AH.new, AH.set])⟩
      exact .mw (b := blk) (cap := 0) (size := sz τ) (by simp [AH.set]) (Nat.le_refl _) (Nat.le_refl _) m3 (fun h => absurd h (Nat.lt_irrefl _))
    · have us0 : Nat → Nat → Value := fun _ _ => undef
      have had : Lie w (sz τ) 0 us0 ad := ⟨fun _ => rfl, fun _ _ _ _ h => absurd h (Nat.not_lt_zero _)⟩
      obtain ⟨cap', cur', hrun, k1, k2, k3, k4, k5⟩ := app_grow (P := P) (w := w) (ty := ty) ht had f5 (Nat.le_refl 0) (by omega) (fun _ => rfl) f2 f3 f4 (by omega) (mul_ok (by omega) hbytes).1 (mul_ok (by omega) hbytes).2
      obtain ⟨g1, g2⟩ := hh.kill hok id
      obtain ⟨E', s1, s2, s3⟩ := Step.arr (w1 := w.drew) (τ := τ) (l := xs) (cap := cap') (cur := cur') (T := et) g1 g2 rfl rfl rfl rfl (by omega) k2 k3 (fun i j y x hy hx => by
        have hi := (List.getElem?_eq_some_iff.1 hy).1
        have hj : j < sz τ := by have := (List.getElem?_eq_some_iff.1 hx).1; rwa [enc_length] at this
        have := k5 i j (by omega) hj
        rw [Nat.zero_add] at this
        exact ⟨_, this, f6 i j y x hy hx⟩)
      rw [show 0 + m = xs.length by omega] at hrun
      exact ⟨_, _, hrun, E', (Step.kill hh hok id).trans s1, s2, s3⟩
  have hpos : 0 < cap := by omega
  obtain ⟨cur, T, q4, q5, q6, q7⟩ := q0 hpos
  let us : Nat → Nat → Value := fun i j => (cur[i * sz τ + j]?).getD undef
  have hcur : ∀ i j, i < cap → j < sz τ → cur[i * sz τ + j]? = some (us i j) := fun i j hi hj => by
    have hlt : i * sz τ + j < cur.size := by rw [q5]; exact idx_lt hi hj
    simp only [us, Array.getElem?_eq_getElem hlt, Option.getD_some]
  have e6 : ∀ (i j : Nat) (y : El τ) (x : AV), (l.take len)[i]? = some y → (enc τ y)[j]? = some x → PRel E.S x (us i j) := fun i j y x hy hx => by
    rw [List.getElem?_take] at hy
    split at hy
    · obtain ⟨v, h1, h2⟩ := q7 i j y x hy hx
      simp only [us, h1]; exact h2
    · cases hy
  have e5 : ad ≠ none → Lie w (sz τ) len us ad := fun hne => by
    refine ⟨fun h => absurd h hne, fun ad' i j ha hi hj => ?_⟩
    have hpos : 0 < c := by omega
    have := m4 hpos
    rw [this] at ha
    cases ha
    have := hcur i j (by omega) hj
    rw [addr_add_lit]
    simpa [World.cell?, q4] using this
  by_cases hm : m = 0
  · have hxs0 : xs = [] := List.eq_nil_of_length_eq_zero (by omega)
    subst hxs0
    subst hm
    have hrun := append_none (P := P) (w := w) (ty := ty) ht (a := ad) (b := b) (n := len) (c := c) (d := d) m2
    refine ⟨_, _, hrun, ?_⟩
    rw [List.append_nil]
    refine ⟨_, Step.take (c := id) (b := blk) (eo := .arr blk cap (sz τ) (l.take len).length) (S' := E.S) hh hok hid (by rw [ho]; simp) (by simp [hobj, EO.blk, hpos]) rfl rfl rfl rfl (fun _ _ => rfl) (fun _ _ h => h) (fun _ _ h => .inl h) hh.cells
      (fun b' hb' => by simpa [EO.blk, hpos] using hb'.symm) (fun hext => ⟨blk, cap, rfl, by rw [htl]; omega, q3, fun _ => ⟨cur, T, q4, q5, q6, fun i j y x hy hx => ?_⟩⟩) trivial, .mw (b := blk) (cap := cap) (size := sz τ) (len := len) (by simp [htl]) m1 m2 m3 m4, .mw (by simp [AH.new, AH.set])⟩
    rw [List.getElem?_take] at hy
    split at hy
    · exact q7 i j y x hy hx
    · cases hy
  · by_cases hroom : len + m ≤ c
    · have ha := m4 (by omega)
      subst ha
      have hfit : cur.size = cap * sz τ := q5
      -- the kit's law wants the whole block's cells: they are as many
      obtain ⟨cur', hrun, p1, p2, p3⟩ : ∃ cur', (Builtin.append_ #[t, t] ty #[.slice (some ⟨blk, 0, none⟩) len c, .slice b m d]).run P w = .ok (.slice (some ⟨blk, 0, none⟩) (len + m) c) (w.setRow blk cur') ∧ cur'.size = cap * sz τ ∧
          (∀ j, j < len * sz τ → cur'[j]? = cur[j]?) ∧ (∀ i j, i < m → j < sz τ → cur'[(len + i) * sz τ + j]? = some (ys i j)) := by
        have hnews : ∀ (j : Nat) (v : Value), (flat (sz τ) m ys)[j]? = some v → ∀ bb, b = some bb → w.cell? (bb.add j) = some v := fun j v hj bb hbb => by
          obtain ⟨g1, g2, g3, rfl⟩ := flat_inv hj
          have := f5.cell bb _ _ hbb g1 g2
          rw [← g3] at this
          exact this
        cases b with
        | none => have := f5.nil rfl; omega
        | some bb =>
          obtain ⟨i0, z0, hu, hi, hz, hzs, hsz0, hbs⟩ := tz_parts ht
          have hf := run_firstCells_some (P := P) w (sz τ) m bb m d (flat (sz τ) m ys) (flat_length ..) (fun j v hj => hnews j v hj bb rfl)
          have h1c : ∀ u ∈ flat (sz τ) m ys, u.oneCell' = true := by
            intro u hu'
            obtain ⟨k, hk⟩ := List.getElem?_of_mem hu'
            obtain ⟨g1, g2, g3, rfl⟩ := flat_inv hk
            exact ones_of f6 _ _ (by omega) g2
          have hnm : len * sz τ + m * sz τ ≤ cap * sz τ := by rw [← Nat.add_mul]; exact Nat.mul_le_mul_right _ (by omega)
          have hst := run_storeCells_at P blk (len * sz τ) T (flat (sz τ) m ys) 0 cur w q4 (by rw [flat_length, q5]; simpa using hnm) h1c
          simp only [Nat.add_zero] at hst
          obtain ⟨g1, g2, g3⟩ := patch cur.toList (flat (sz τ) m ys) (len * sz τ) (by rw [flat_length, Array.length_toList, q5]; exact hnm)
          refine ⟨(cur.toList.take (len * sz τ) ++ flat (sz τ) m ys ++ cur.toList.drop (len * sz τ + (flat (sz τ) m ys).length)).toArray, ?_, ?_, fun j hj => ?_, fun i j hi hj => ?_⟩
          · have hrr : len + m ≤ c := hroom
            rw [← hsz0] at hf hst ⊢
            simp [Builtin.append_, run_underlying hu, sizeOf, typeInfo, hi, Builtin.lenOf, hrr, hf, Addr.add_lit, hst]
          · rw [List.size_toArray, g1, Array.length_toList, q5]
          · rw [List.getElem?_toArray, g2 j (.inl hj), Array.getElem?_toList]
          · rw [List.getElem?_toArray, Nat.add_mul, Nat.add_assoc]
            exact g3 _ _ (flat_get hi hj)
      have hnew : (w.setRow blk cur').heap[blk]? = some (.cells cur' T (0, 0)) := setRow_heap w blk cur cur' T _ q4
      refine ⟨_, _, hrun, _, Step.take (c := id) (b := blk) (eo := .arr blk cap (sz τ) (l.take len ++ xs).length) (S' := E.S) hh hok hid (by rw [ho]; simp) (by simp [hobj, EO.blk, hpos]) rfl rfl rfl (by simp) (fun k hk => setRow_other w blk k cur' hk) (fun _ _ h => h) (fun _ _ h => .inl h)
        (fun ad v hv => by
          have hne : ad.block ≠ blk := fun he => by rw [q6 ad he] at hv; cases hv
          rw [cell_setRow_other w blk cur' ad hne]; exact hh.cells ad v hv)
        (fun b' hb' => by simpa [EO.blk, hpos] using hb'.symm) (fun hext => ⟨blk, cap, rfl, by omega, q3, fun _ => ⟨cur', T, hnew, p1, q6, ?_⟩⟩) trivial, ?_, .mw (by simp [AH.new, AH.set])⟩
      · refine joined_cells e6 f6 (fun i j hi hj => ?_) (fun i j hi hj => ?_)
        · rw [htl] at hi
          rw [p2 _ (idx_lt hi hj)]; exact hcur i j (by omega) hj
        · rw [htl]; exact p3 i j (by omega) hj
      · exact .mw (b := blk) (cap := cap) (size := sz τ) (len := len + m) (by simp [hlen]) m1 hroom m3 (fun _ => rfl)
    · -- a new block
      have hgrow : ∃ cap' cur', (Builtin.append_ #[t, t] ty #[.slice ad len c, .slice b m d]).run P w = .ok (.slice (some ⟨w.heap.size, 0, none⟩) (len + m) cap') (w.drew.alloc (.cells cur' et)) ∧ len + m ≤ cap' ∧ cap' ≤ maxLen ∧ cur'.size = cap' * sz τ ∧
          (∀ i j, i < len → j < sz τ → cur'[i * sz τ + j]? = some (us i j)) ∧ (∀ i j, i < m → j < sz τ → cur'[(len + i) * sz τ + j]? = some (ys i j)) := by
        cases had : ad with
        | none =>
          have hc0 : c = 0 := by
            rcases Nat.eq_zero_or_pos c with h' | h'
            · exact h'
            · have := m4 h'; rw [had] at this; cases this
          have hl0 : len = 0 := by omega
          exact app_grow (P := P) (w := w) (ty := ty) (us := us) ht ⟨fun _ => hl0, fun _ _ _ h => by cases h⟩ f5 m2 (by omega) (fun _ => hc0) f2 f3 f4 (by omega) (mul_ok hle hbytes).1 (mul_ok hle hbytes).2
        | some ad' =>
          rw [← had]
          exact app_grow (P := P) (w := w) (ty := ty) ht (e5 (by rw [had]; simp)) f5 m2 (by omega) (fun h => by rw [had] at h; cases h) f2 f3 f4 (by omega) (mul_ok hle hbytes).1 (mul_ok hle hbytes).2
      obtain ⟨cap', cur', hrun, k1, k2, k3, k4, k5⟩ := hgrow
      obtain ⟨g1, g2⟩ := hh.kill hok id
      obtain ⟨E', s1, s2, s3⟩ := Step.arr (w1 := w.drew) (τ := τ) (l := l.take len ++ xs) (cap := cap') (cur := cur') (T := et) g1 g2 rfl rfl rfl rfl (by omega) k2 k3 (joined_cells e6 f6 (fun i j hi hj => k4 i j (by omega) hj) (fun i j hi hj => by rw [htl]; exact k5 i j (by omega) hj))
      rw [← hlen] at hrun
      exact ⟨_, _, hrun, E', (Step.kill hh hok id).trans s1, s2, s3⟩
theorem appK_ok [GTab] {C : Cfg} {t : TypeId} {s x : AV} {K : AH → AV → Option R} {r : R} (hk : appK C h t s x K = some r) :
    ∃ h' y, (∀ (ty : TypeId) (E : Env) (w : World) (vs vx : Value), HRel E h w → h.ok → Rel E s vs → Lt h.n s → Rel E x vx → Lt h.n x → ∃ v w', (Builtin.append_ #[t, t] ty #[vs, vx]).run C.P w = .ok v w' ∧ ∃ E', Step E h w E' h' w' ∧ Rel E' y v ∧ Lt h'.n y) ∧ K h' y = some r := by
  have rd : ∀ {τ : Ty} {xs : List (El τ)}, asSl h τ (full (decC h0 τ)) x = some xs → ∀ (E : Env) (w : World) (vx : Value), HRel E h w → Rel E x vx → Lt h.n x → ∃ b m d, vx = .slice b m d ∧ PRel E.S (.sl (sz τ) (xs.map (enc τ)) none) (.slice b m d) := by
    intro τ xs hxs E w vx hh hx hl
    have hr := (asSl_ok hh (fun l y hy => by simpa using (decC_ok τ hh.h0 (fun _ _ => .h0 _) (full_inv hy)).1) (.of_lt hl) hxs vx hx).tl_inv
    cases hr with
    | @sl _ _ _ b m d us g1 g2 g3 g4 g5 g6 g7 g8 => exact ⟨b, m, d, rfl, .sl us g1 g2 g3 g4 g5 g6 g7 g8⟩
  unfold appK at hk
  split at hk
  · rename_i id
    split at hk
    case h_2 => cases hk
    rename_i τ l ho
    split at hk
    case isFalse => cases hk
    rename_i htz
    obtain ⟨et, bytes, ht, hbytes⟩ := tzB_ok htz
    split at hk
    case h_2 => cases hk
    rename_i xs hxs
    obtain ⟨hle, hk⟩ := cond_inv hk
    have hle := okLen_ok hle
    refine ⟨_, _, ?_, hk⟩
    intro ty E w vs vx hh hok hs hsl hx hxl
    obtain ⟨b, m, d, rfl, hpx⟩ := rd hxs E w vx hh hx hxl
    obtain ⟨base, cap, tip, size, rfl, hobj⟩ := hs.rw_inv
    have hid := hsl.rw_inv
    obtain ⟨base', cap', q1, q2, q3⟩ := hh.row id τ l hid ho
    rw [hobj] at q1
    cases q1
    obtain ⟨e1, e2, e3, e4, us, e5, e6⟩ := lie_of_prel hh.cells q2
    obtain ⟨f1, f2, f3, f4, ys, f5, f6⟩ := lie_of_prel hh.cells hpx
    have hlen : (l ++ xs).length = l.length + m := by simp [f1]
    rw [hlen] at hle
    by_cases hm : m = 0
    · -- nothing is appended
      have hxs0 : xs = [] := List.eq_nil_of_length_eq_zero (by omega)
      subst hxs0
      subst hm
      have hrun := append_none (P := C.P) (w := w) (ty := ty) ht (a := base) (b := b) (n := l.length) (c := cap) (d := d) e2
      refine ⟨_, _, hrun, ?_⟩
      rw [List.append_nil]
      by_cases hroom : l.length < cap
      · obtain ⟨blk, cur, T, rfl, k2, k3, k4⟩ := q3 hroom
        refine ⟨_, Step.take (c := id) (b := blk) (eo := .row (some ⟨blk, 0, none⟩) cap l.length (sz τ)) (S' := E.S) hh hok hid (by rw [ho]; simp) (by simp [hobj, EO.blk, hroom]) rfl rfl rfl rfl (fun _ _ => rfl) (fun _ _ h => h) (fun _ _ h => .inl h) hh.cells
          (fun b' hb' => by simpa [EO.blk, hroom] using hb'.symm) (fun hext => ⟨_, cap, rfl, q2, fun _ => ⟨blk, cur, T, rfl, k2, k3, k4⟩⟩) trivial, .rw (size := sz τ) (by simp), .rw (by simp [AH.new, AH.set])⟩
      · obtain ⟨k1, k2⟩ := hh.kill hok id
        refine ⟨_, (Step.kill hh hok id).trans (Step.alloc (eo := .row base cap l.length (sz τ)) (S' := E.S) k1 k2 rfl rfl rfl (Nat.le_refl _) (fun _ _ => rfl) (fun _ _ h => h) (fun _ _ h => .inl h)
          (fun b' hb' => by simp only [EO.blk] at hb'; rw [if_neg hroom] at hb'; cases hb') (fun hext => ⟨_, cap, rfl, q2, fun hlt => absurd hlt hroom⟩) trivial), .rw (size := sz τ) (by simp [AH.set]), .rw (by simp [AH.new, AH.set])⟩
    · by_cases hroom : l.length + m ≤ cap
      · -- there is room
        obtain ⟨blk, cur, T, rfl, k2, k3, k4⟩ := q3 (by omega)
        obtain ⟨cur', hrun, p1, p2, p3⟩ := app_room (P := C.P) (w := w) (ty := ty) ht e5 f5 e2 e3 f2 f3 f4 (by omega) hroom k2 k3 (by rw [f1]; exact ones_of f6)
        have hnew : (w.setRow blk cur').heap[blk]? = some (.cells cur' T (0, 0)) := setRow_heap w blk cur cur' T _ k2
        have hblt : blk < w.heap.size := (Array.getElem?_eq_some_iff.1 k2).1
        have hlo : ∀ j v, E.S ⟨blk, j, none⟩ = some v → j < l.length * sz τ := fun j v hv => by
          rcases Nat.lt_or_ge j (l.length * sz τ) with h' | h'
          · exact h'
          · rw [k4 j h'] at hv; cases hv
        have hspot : ∀ a v, E.S a = some v → a.block = blk → a = ⟨blk, a.off, none⟩ := fun a v ha hb => by
          obtain ⟨ab, ao, asp⟩ := a
          simp only at hb
          subst hb
          have hc := hh.cells _ v ha
          cases asp with
          | none => rfl
          | some q => simp [World.cell?, k2] at hc
        have hcur1 : ∀ i j, i < l.length → j < sz τ → cur'[i * sz τ + j]? = some (us i j) := fun i j hi hj => by
          rw [p2 _ (idx_lt hi hj)]
          have := e5.cell _ i j rfl hi hj
          rw [addr_add_lit] at this
          simpa [World.cell?, k2] using this
        have hold : ∀ a v, E.S a = some v → (w.setRow blk cur').cell? a = some v := by
          intro ad v hv
          have hc := hh.cells ad v hv
          by_cases hab : ad.block = blk
          · have he := hspot ad v hv hab
            rw [he] at hc hv ⊢
            simp only [World.cell?, hnew]
            simp only [World.cell?, k2] at hc
            simp only [Option.isSome_none, Bool.false_eq_true, if_false] at hc ⊢
            rw [p2 _ (hlo _ v hv)]; exact hc
          · rw [cell_setRow_other w blk cur' ad hab]; exact hc
        refine ⟨_, _, hrun, _, Step.take (c := id) (b := blk) (eo := .row (some ⟨blk, 0, none⟩) cap (l ++ xs).length (sz τ)) (S' := (E.addS blk (l.length * sz τ) ((l ++ xs).length * sz τ) cur').S) hh hok hid (by rw [ho]; simp) (by simp only [hobj, EO.blk]; rw [if_pos (by omega)]; rfl) rfl rfl rfl (by simp)
          (fun k hk => setRow_other w blk k cur' hk)
          (fun ad v hv => by
            simp only [Env.addS]
            rw [if_neg (fun hc => by
              have he := hspot ad v hv hc.1
              rw [he] at hv hc
              have := hlo _ v hv
              have h3 := hc.2.2.1
              simp only at h3
              omega)]
            exact hv)
          (fun ad v hv => by
            simp only [Env.addS] at hv
            split at hv
            · rename_i hc; exact .inr hc.1
            · exact .inl hv)
          (fun ad v hv => by
            simp only [Env.addS] at hv
            split at hv
            · rename_i hc
              simp only [World.cell?, hc.1, hnew, hc.2.1]
              simpa using hv
            · exact hold ad v hv)
          (fun b' hb' => by
            simp only [EO.blk] at hb'
            split at hb'
            · simpa using hb'.symm
            · cases hb')
          (fun hext => ?_) trivial, ?_, .rw (by simp [AH.new, AH.set])⟩
        · refine ⟨_, cap, rfl, ?_, fun hlt => ⟨blk, cur', T, rfl, hnew, p1, fun j hj => ?_⟩⟩
          · refine row_prel (cur := cur') (by omega) e3 (fun i j y x hy hx => ?_) (fun k v hk hv => ?_)
            · obtain ⟨v, h1, h2⟩ := joined_cells e6 f6 hcur1 (fun i j hi hj => p3 i j (by omega) hj) i j y x hy hx
              exact ⟨v, h1, h2.mono hext.S⟩
            · by_cases hlk : k < l.length * sz τ
              · obtain ⟨i1, i2, i3⟩ := idx_inv hlk
                simp only [Env.addS]
                rw [if_neg (fun hc => by have h3 : l.length * sz τ ≤ k := hc.2.2.1; omega)]
                have hs7 : E.S ⟨blk, k, none⟩ = some (us (k / sz τ) (k % sz τ)) := by
                  cases q2 with
                  | sl us' g1 g2 g3 g4 g5 g6 g7 g8 =>
                    have hyl : k / sz τ < l.length := i1
                    have hg : (l.map (enc τ))[k / sz τ]? = some (enc τ l[k / sz τ]) := by simp [hyl]
                    have hx : (enc τ l[k / sz τ])[k % sz τ]? = some ((enc τ l[k / sz τ])[k % sz τ]'(by rw [enc_length]; exact i2)) := List.getElem?_eq_getElem _
                    have h7 := g7 _ _ _ _ _ rfl hg hx
                    have hcc := hh.cells _ _ h7
                    have hee := e5.cell _ _ _ rfl i1 i2
                    rw [hee] at hcc
                    have hcc := Option.some.inj hcc
                    rw [addr_add_lit, Nat.zero_add, ← i3, ← hcc] at h7
                    exact h7
                rw [hs7]
                have := hcur1 _ _ i1 i2
                rw [← i3, hv] at this
                exact this.symm
              · simp only [Env.addS]
                rw [if_pos ⟨trivial, trivial, by omega, hk⟩]; exact hv
          · simp only [Env.addS]
            rw [if_neg (fun hc => by have h4 : j < (l ++ xs).length * sz τ := hc.2.2.2; omega)]
            exact k4 j (by rw [hlen, Nat.add_mul] at hj; omega)
        · exact .rw (size := sz τ) (by simp [hlen])
      · -- a new row is laid
        obtain ⟨cap', cur, hrun, k1, k2, k3, k4, k5⟩ := app_grow (P := C.P) (w := w) (ty := ty) ht e5 f5 e2 e3 e4 f2 f3 f4 (by omega) (mul_ok hle hbytes).1 (mul_ok hle hbytes).2
        obtain ⟨g1, g2⟩ := hh.kill hok id
        obtain ⟨E', s1, s2, s3⟩ := Step.row (w1 := w.drew) (τ := τ) (l := l ++ xs) (cap := cap') (cur := cur) (T := et) g1 g2 rfl rfl rfl rfl (by omega) k2 k3 (joined_cells e6 f6 k4 (fun i j hi hj => k5 i j (by omega) hj))
        rw [← hlen] at hrun
        exact ⟨_, _, hrun, E', (Step.kill hh hok id).trans s1, s2, s3⟩
  · rename_i id off len
    split at hk
    case h_2 => cases hk
    rename_i τ l ho
    split at hk
    case isFalse => cases hk
    rename_i hc
    simp only [Bool.and_eq_true] at hc
    obtain ⟨⟨htz, hoff⟩, _⟩ := hc
    have hoff := Nat.eq_of_beq_eq_true hoff
    subst hoff
    obtain ⟨et, bytes, ht, hbytes⟩ := tzB_ok htz
    split at hk
    case h_2 => cases hk
    rename_i xs hxs
    obtain ⟨hc, hk⟩ := cond_inv hk
    simp only [Bool.and_eq_true] at hc
    have hll := Nat.le_of_ble_eq_true hc.1
    have hle := okLen_ok hc.2
    refine ⟨_, _, ?_, hk⟩
    intro ty E w vs vx hh hok hs hsl hx hxl
    obtain ⟨b, m, d, rfl, hpx⟩ := rd hxs E w vx hh hx hxl
    obtain ⟨blk, cap, size, ln, ad, c, rfl, hobj, m1, m2, m3, m4⟩ := hs.ms_inv
    obtain ⟨_, _, q1, _⟩ := hh.arr id τ l hsl.ms_inv ho
    rw [hobj] at q1
    cases q1
    rw [Nat.zero_mul] at m4
    exact app_arr hh hok hsl.ms_inv ho ht hbytes hobj (by omega) m2 m3 m4 hll hle hpx
  · rename_i id
    split at hk
    case h_2 => cases hk
    rename_i τ l ho
    split at hk
    case isFalse => cases hk
    rename_i hc
    simp only [Bool.and_eq_true] at hc
    obtain ⟨htz, _⟩ := hc
    obtain ⟨et, bytes, ht, hbytes⟩ := tzB_ok htz
    split at hk
    case h_2 => cases hk
    rename_i xs hxs
    obtain ⟨hc, hk⟩ := cond_inv hk
    have hle := okLen_ok hc
    refine ⟨_, _, ?_, hk⟩
    intro ty E w vs vx hh hok hs hsl hx hxl
    obtain ⟨b, m, d, rfl, hpx⟩ := rd hxs E w vx hh hx hxl
    obtain ⟨blk, cap, size, len, ad, c, rfl, hobj, m1, m2, m3, m4⟩ := hs.mw_inv
    obtain ⟨_, _, q1, _⟩ := hh.arr id τ l hsl.mw_inv ho
    rw [hobj] at q1
    cases q1
    have := app_arr (P := C.P) (ty := ty) (len := l.length) hh hok hsl.mw_inv ho ht hbytes hobj m1 m2 m3 m4 (Nat.le_refl _) (by rw [List.take_length]; exact hle) hpx
    rw [List.take_length] at this
    exact this
  · split at hk
    case h_2 => cases hk
    rename_i τ hτ
    split at hk
    case isFalse => cases hk
    rename_i htz
    obtain ⟨et, bytes, ht, hbytes⟩ := tzB_ok htz
    split at hk
    case h_2 => cases hk
    rename_i l hsrc
    split at hk
    case h_2 => cases hk
    rename_i xs hxs
    split at hk
    · obtain ⟨hc, hk⟩ := cond_inv hk
      simp only [Bool.and_eq_true, Bool.not_eq_true', List.isEmpty_eq_false_iff] at hc
      have hle := okLen_ok hc.2
      refine ⟨_, _, ?_, hk⟩
      intro ty E w vs vx hh hok hs hsl hx hxl
      obtain ⟨b, m, d, rfl, hpx⟩ := rd hxs E w vx hh hx hxl
      obtain ⟨a, n, rfl, hps⟩ := srcK_ok hh hsrc hs
      obtain ⟨cap', cur, hrun, k1, k2, k3, k4⟩ := app_full (P := C.P) (ty := ty) hh hok ht hbytes hps rfl hpx hle hc.1
      obtain ⟨E', s1, s2, s3⟩ := Step.arr (w1 := w.drew) (τ := τ) (l := l ++ xs) (cap := cap') (cur := cur) (T := et) hh hok rfl rfl rfl rfl k1 k2 k3 k4
      exact ⟨_, _, hrun, E', s1, s2, s3⟩
    · obtain ⟨hc, hk⟩ := cond_inv hk
      have hle := okLen_ok hc
      refine ⟨_, _, ?_, hk⟩
      intro ty E w vs vx hh hok hs hsl hx hxl
      obtain ⟨b, m, d, rfl, hpx⟩ := rd hxs E w vx hh hx hxl
      obtain ⟨a, n, rfl, hps⟩ := srcK_ok hh hsrc hs
      by_cases hne : xs = []
      · subst hne
        obtain ⟨f1, f2, f3, f4, ys, f5, f6⟩ := lie_of_prel hh.cells hpx
        obtain ⟨e1, e2, e3, e4, us, e5, e6⟩ := lie_of_prel hh.cells hps
        simp only [List.length_nil] at f1
        subst f1
        have hrun := append_none (P := C.P) (w := w) (ty := ty) ht (a := a) (b := b) (n := n) (c := n) (d := d) (Nat.le_refl _)
        refine ⟨_, _, hrun, ?_⟩
        rw [List.append_nil]
        refine ⟨_, Step.alloc (eo := .row a n l.length (sz τ)) (S' := E.S) hh hok rfl rfl rfl (Nat.le_refl _) (fun _ _ => rfl) (fun _ _ h => h) (fun _ _ h => .inl h)
          (fun b' hb' => by simp only [EO.blk] at hb'; rw [if_neg (by omega)] at hb'; cases hb') (fun hext => ⟨a, n, rfl, ?_, fun hlt => absurd hlt (by omega)⟩) trivial, ?_, .rw (by simp [AH.new])⟩
        · rw [← e1]; exact hps
        · rw [e1]; exact .rw (size := sz τ) (by simp)
      · obtain ⟨cap', cur, hrun, k1, k2, k3, k4⟩ := app_full (P := C.P) (ty := ty) hh hok ht hbytes hps rfl hpx hle hne
        obtain ⟨E', s1, s2, s3⟩ := Step.row (w1 := w.drew) (τ := τ) (l := l ++ xs) (cap := cap') (cur := cur) (T := et) hh hok rfl rfl rfl rfl k1 k2 k3 k4
        exact ⟨_, _, hrun, E', s1, s2, s3⟩
/-- The same; an owned array that is appended is frozen first. -/
def appF (C : Cfg) (h : AH) (t : TypeId) (s x : AV) (K : AH → AV → Option R) : Option R :=
  match x with
  | .mw id =>
    match h.o id with
    | some (.tarr τ l) => appK C (h.set id none) t s (.tl τ l none) K
    | _ => none
  | x => appK C h t s x K
theorem appF_ok [GTab] {C : Cfg} {t : TypeId} {s x : AV} {K : AH → AV → Option R} {r : R} (hk : appF C h t s x K = some r) :
    ∃ h' y, (∀ (ty : TypeId) (E : Env) (w : World) (vs vx : Value), HRel E h w → h.ok → Rel E s vs → Lt h.n s → Rel E x vx → Lt h.n x → ∃ v w', (Builtin.append_ #[t, t] ty #[vs, vx]).run C.P w = .ok v w' ∧ ∃ E', Step E h w E' h' w' ∧ Rel E' y v ∧ Lt h'.n y) ∧ K h' y = some r := by
  unfold appF at hk
  split at hk
  · rename_i id
    split at hk
    · rename_i τ l ho
      obtain ⟨h', y, h1, h2⟩ := appK_ok hk
      refine ⟨h', y, fun ty E w vs vx hh hok hs hsl hx hxl => ?_, h2⟩
      obtain ⟨E1, s1, s2⟩ := freeze_mw hh hok hxl.mw_inv ho hx
      obtain ⟨v, w', hrun, E', k1, k2, k3⟩ := h1 ty E1 w vs vx s1.rel s1.ok (hs.mono hsl s1.ext) hsl s2 (.tl _ _ _)
      exact ⟨v, w', hrun, E', s1.trans k1, k2, k3⟩
    · cases hk
  · exact appK_ok hk
end
end Go.Up
