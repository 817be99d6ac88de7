/- Vp, part k: every operation that makes or turns objects is sound; regions in the text's order; code; contracts out of code. -/
import Derived.Test.YtmbepfdnmgiifaaVj
set_option linter.unusedVariables false
set_option linter.unusedSimpArgs false
namespace Go.Vp
open Go.RowKit

section
variable {P : Program} {E0 : Env} {n0 : Nat} {w0 : World} {nt : Nat} {E : Env} {σ : St} {a : Act} {w : World}

theorem store_run {t : TypeId} {b : Bool} {n : Nat} {blk off : Nat} {v : Value} {cs : Array Value} {T : TypeId} (hk : tk P t = some (b, n)) (hv : v.cells.size = n) (h1 : ∀ u ∈ v.cells.toList, u.oneCell' = true)
    (hheap : w.heap[blk]? = some (.cells cs T (0, 0))) (hfit : off + n ≤ cs.size) :
    (Instr.storeAt t (.pointer (some ⟨blk, off, none⟩)) v).run P w = .ok () (w.setRow blk (cs.toList.take off ++ v.cells.toList ++ cs.toList.drop (off + v.cells.toList.length)).toArray) := by
  have hst := run_storeCells_at P blk off T v.cells.toList 0 cs w hheap (by simp; omega) h1
  simp only [Nat.add_zero] at hst
  simp only [Instr.storeAt, Instr.sureAddr, Sem.run_bind, Sem.run_pure, Result.andThen_ok, storeVar, tk_sizeOf hk]
  rw [if_neg (by omega)]
  exact hst

theorem aimp_sound (h : SRel E0 n0 w0 nt E σ a w) {g : Bool} {o : Oper} {K : St → Prop} {next : Act → World → Prop} {Q : Exit → Act → World → Prop} (hg : g = true) (hd : okDst nt o.dst = true) (hk : aimp P σ g o K)
    (hnext : ∀ E' σ' a' w', SRel E0 n0 w0 nt E' σ' a' w' → K σ' → next a' w') : o.wp P a w next Q := by
  unfold aimp at hk
  unfold Oper.wp execOp
  split at hk <;> first | (exact hk.elim) | (rename_i hop; rw [hop]; simp only [Sem.run_bind, Sem.run_pure])
  · -- box
    rename_i T x
    obtain ⟨hux, hkn, hK⟩ := hk
    obtain ⟨E', hE'⟩ := box_new h (T := T) hd ((ug_sound (h.ev x) hux hg).cells' hkn) (cells_lt (ug_lt (h.evlt x) hux hg))
    exact hnext E' _ _ _ hE' hK
  · -- alloc
    rename_i T
    obtain ⟨z, hz, hk⟩ := oM_inv hk
    · obtain ⟨i, hi, hz⟩ := Option.bind_eq_some_iff.1 hz
      have hr : Rels E (z.cells.toList.map AV.p) z.cells.toList := ⟨by simp, fun i x v hx hv => by
        rw [List.getElem?_map, hv] at hx
        cases hx
        exact .pure (.p v)⟩
      obtain ⟨E', hE'⟩ := box_new h (T := T) hd hr (fun i x hx => by
        rw [List.getElem?_map] at hx
        obtain ⟨v, _, rfl⟩ := Option.map_eq_some_iff.1 hx
        exact .p v)
      have hrun : (Instr.alloc T true (.tuple #[])).run P w = .ok (.pointer (some ⟨w.heap.size, 0, none⟩)) (w.alloc (.cells z.cells T)) := by
        simp [Instr.alloc, zeroValue, typeInfo, hi, hz, newVar, newRow]
      rw [hrun]
      exact hnext E' _ _ _ hE' hk
  · -- buildSlice
    rename_i T len parts
    obtain ⟨⟨e, sz, bytes⟩, ht, hk⟩ := oM_inv hk
    · obtain ⟨k1, k2, k3, k4, hK⟩ := hk
      obtain ⟨v, w', E', hrun, hE'⟩ := lit_sound h (d := o.dst) hd ht k1 k2 k3 k4
      have ea : (Array.map (fun x => match x with | (i, x) => (i, a.eval x)) parts) = (parts.toList.map fun x => (x.1, a.eval x.2)).toArray := arr_map (fun (x : Nat × Operand) => (x.1, a.eval x.2)) parts
      rw [ea, hrun]
      exact hnext E' _ _ _ hE' hK
  · -- store
    rename_i T x y
    obtain ⟨⟨id, off⟩, hx, hk⟩ := oM_inv hk
    obtain ⟨⟨b, n⟩, hkT, hk⟩ := oM_inv hk
    obtain ⟨l, ho, hk⟩ := oM_inv hk
    have hx := asBp_inv hx
    have ho := boxOf_inv ho
    simp only at hx hkT ho hk
    · · obtain ⟨k1, k2, k3, hK⟩ := hk
        have hxr := h.ev x
        have hxl := h.evlt x
        rw [hx] at hxr hxl
        obtain ⟨blk, hb, hobj⟩ := hxr.bp_inv
        have hid := hxl.bp_inv
        obtain ⟨blk', cs, U, g1, g2, g3, g4⟩ := h.hr.box id l hid ho
        rw [hobj] at g1
        cases g1
        have hcl := (h.ev y).cells' k1
        have hlen : cs.size = l.length := by have := g3.1; simpa using this
        have hvl : (a.eval y).cells.toList.length = n := by rw [hcl.1, k2]
        have hone : ∀ u ∈ (a.eval y).cells.toList, u.oneCell' = true := by
          intro u hu
          obtain ⟨q, hq⟩ := List.getElem?_of_mem hu
          have hq' : q < (ev σ y).cells.length := by have := (List.getElem?_eq_some_iff.1 hq).1; rw [hcl.1] at this; exact this
          exact (hcl.2 q _ u (List.getElem?_eq_getElem hq') hq).one (known_one k1 _ (List.getElem_mem hq'))
        rw [hb, store_run (off := off) hkT (by simpa using hvl) hone g2 (by omega)]
        have hnew := setRow_heap w blk cs (cs.toList.take off ++ (a.eval y).cells.toList ++ cs.toList.drop (off + (a.eval y).cells.toList.length)).toArray U _ g2
        obtain ⟨q1, q2⟩ := box_step (w' := w.setRow blk (cs.toList.take off ++ (a.eval y).cells.toList ++ cs.toList.drop (off + (a.eval y).cells.toList.length)).toArray) (l' := setAt l off (ev σ y).cells) h.hr h.ok hid hobj g4 (by simp) (fun k hk => setRow_other w blk k _ hk) hnew
          (by simpa using setAt_rels (off := off) g3 hcl) (setAt_lt (fun i z hz => h.blt id l i z hid ho hz) (cells_lt (h.evlt y)))
        refine hnext E _ _ _ (h.step (Ext.refl ..) q1 q2 (Nat.le_refl _) ⟨rfl, rfl, rfl, by simp, fun k hk hne => setRow_other w blk k _ (fun he => hne id hid (by simp [EO.blk, hobj, he]))⟩ (fun _ _ h1 h2 => .inr ⟨h1, h2⟩) hd (.pure (.p _)) (.p _)) hK
  · -- makeInterface
    rename_i T x
    obtain ⟨⟨id, off⟩, hx0, hk1⟩ := oM_inv hk
    obtain ⟨l, ho0, hk2⟩ := oM_inv hk1.2.2
    have hx : ev σ x = .bp id 0 := by rw [asBp_inv hx0]; congr 1; exact hk1.1
    have hptr := hk1.2.1
    have ho : σ.h.o id = some (.box l) := boxOf_inv ho0
    obtain ⟨e, hu⟩ : ∃ e, P.underlying T = some (.pointer e) := by
      unfold isPtr at hptr
      split at hptr
      · rename_i e hu; exact ⟨e, hu⟩
      · cases hptr
    · · obtain ⟨k1, hK⟩ := hk2
        have hxr := h.ev x
        have hxl := h.evlt x
        rw [hx] at hxr hxl
        obtain ⟨blk, hb, hobj⟩ := hxr.bp_inv
        have hid := hxl.bp_inv
        obtain ⟨blk', cs, U, g1, g2, g3, g4⟩ := h.hr.box id l hid ho
        rw [hobj] at g1
        cases g1
        obtain ⟨q1, q2, q3⟩ := freeze_step h.hr h.ok hid ho hobj g2
        have hrun : (Instr.makeInterface T (a.eval x)).run P w = .ok (.iface T (a.eval x)) w := by simp [Instr.makeInterface, underlying, hu]
        rw [hrun, hb]
        refine hnext _ _ _ _ (h.step q3 q1 q2 (Nat.le_refl _) (Keep.refl ..) (fun _ _ h1 h2 => .inr ⟨h1, h2⟩) hd (.pure (.ifc (.ep (fun j => (cs[j]?).getD undef) (fun j y hy => ?_) (fun j y hy => ?_)))) (.ifc _ _)) hK
        · obtain ⟨u, hu', hr⟩ := g3.getElem hy
          rw [addr_add_lit]
          simp only [Env.addS, Nat.zero_add]
          rw [Array.getElem?_toList] at hu'
          have hlt : j < cs.size := (Array.getElem?_eq_some_iff.1 hu').1
          rw [if_pos ⟨trivial, trivial, Nat.zero_le _, hlt⟩, hu']
          rfl
        · obtain ⟨u, hu', hr⟩ := g3.getElem hy
          rw [Array.getElem?_toList] at hu'
          rw [hu']
          have hp := prel_of_isP hr (by rw [List.all_eq_true] at k1; exact k1 y (List.mem_of_getElem? hy))
          exact hp.mono q3.S
  · -- calls
    rename_i c
    obtain ⟨callee, args, ts⟩ := c
    obtain ⟨args⟩ := args
    obtain ⟨ts⟩ := ts
    simp only at hk
    split at hk
    · -- append
      rename_i hap
      have hcal : callee = .builtin .append := by
        unfold isAppend at hap
        split at hap
        · rfl
        · cases hap
      subst hcal
      obtain ⟨⟨s, x⟩, ha, hk⟩ := oM_inv hk
      obtain ⟨⟨t, t'⟩, ht, hk⟩ := oM_inv hk
      have ha := two_inv ha
      have ht := two_inv ht
      simp only at ha ht hk
      subst ha; subst ht
      have htt : t = t' := hk.1
      have hk := hk.2
      subst htt
      obtain ⟨v, w', E', h', r, hrun, hK, hE'⟩ := append_sound h (d := o.dst) (ty := o.type) hd (h.ev s) (h.evlt s) (h.ev x) hk
      simp only [resolve, Sem.run_bind, Sem.run_pure, Result.andThen_ok, invoke, builtin, List.map_toArray, List.map_cons, List.map_nil, hrun]
      exact hnext E' _ _ _ hE' hK
    · -- a function
      obtain ⟨fo, hfo, hk⟩ := oM_inv hk
      have hcal : callee = .value fo := by
        unfold valueOf at hfo
        split at hfo
        · cases hfo; rfl
        · cases hfo
      subst hcal
      have hoks : oks g (args.map (ev σ)) := hk.1
      have hk : oM (fcall (ev σ fo) (args.map fun x => (ug g (ev σ x)).2)) (fun fa => ACall P fa.1 σ.h fa.2 (fun r h => K (({ σ with h := h } : St).put o.dst r))) .mk := hk.2
      obtain ⟨⟨g, xs⟩, hf, hk⟩ := oM_inv hk
      obtain ⟨first, cap, vs, hv, hvs, hrels, hlts⟩ := fcall_sound (vargs := args.map a.eval) (h.ev fo) (h.evlt fo) ⟨by simp, fun i x v hx hv => by
          rw [List.getElem?_map] at hx hv
          obtain ⟨q, hq, rfl⟩ := Option.map_eq_some_iff.1 hx
          rw [hq] at hv
          cases hv
          exact ug_sound (h.ev q) (hoks _ (List.mem_map.2 ⟨q, List.mem_of_getElem? hq, rfl⟩)) hg⟩ (fun i x hx => by
          rw [List.getElem?_map] at hx
          obtain ⟨q, hq, rfl⟩ := Option.map_eq_some_iff.1 hx
          exact ug_lt (h.evlt q) (hoks _ (List.mem_map.2 ⟨q, List.mem_of_getElem? hq, rfl⟩)) hg) hf
      obtain ⟨hcall, hcon⟩ := hk
      have hc := hcon E w vs h.hr h.ok hrels hlts
      have e1 : (first ++ Array.map a.eval { toList := args }) ++ cap = vs.toArray := by rw [← hvs]; simp
      simp only [resolve, Deferred.ofValue, hv, Sem.run_bind, Sem.run_pure, Result.andThen_ok, invoke]
      rw [e1, hcall]
      simp only [Oper.upon]
      refine hc.mono ?_
      rintro e w' ⟨v, r, h', E', rfl, hK, hn, hext, hh, hok, hr, hl, hkeep, hfr⟩
      exact hnext E' _ _ _ (h.step hext hh hok hn hkeep hfr hd hr hl) hK

/-! ### Regions, in the text's order -/
/-- Does a guard hold? -/
def gq (want : Bool) : AV → Option Bool
  | .p (.bool b) => some (b == want)
  | .gd c (.p (.bool b)) => some (c && (b == want))
  | _ => none
def gslot (ops : Array Oper) (j : Nat) : Option Tmp := (ops[j]?).bind (·.dst)

def aops (P : Program) (nt : Nat) (ops : Array Oper) : List Oper → St → (St → Prop) → Prop
  | [], σ, K => K σ
  | o :: rest, σ, K =>
    okDst nt o.dst = true ∧
    match o.guard with
    | none => bO (ypure P σ true o.op) (fun ok r => ok ∧ aops P nt ops rest (σ.put o.dst r) K) (aimp P σ true o (fun σ' => aops P nt ops rest σ' K)) .mk .mk
    | some (j, want) => oM (gslot ops j) (fun s => s < nt ∧ oM (gq want (look σ.t s)) (fun g =>
        bO (ypure P σ g o.op) (fun ok r => (g = true → ok) ∧ aops P nt ops rest (σ.put o.dst (.gd g r)) K)
          ((g = true → aimp P σ g o (fun σ' => aops P nt ops rest σ' K)) ∧ (g = false → aops P nt ops rest (σ.put o.dst (.p undef)) K)) .mk .mk) .mk) .mk

theorem gq_sound (h : SRel E0 n0 w0 nt E σ a w) {ops : Array Oper} {o : Oper} {j : Nat} {want g : Bool} {s : Tmp} (hg : o.guard = some (j, want)) (hs : gslot ops j = some s) (hlt : s < nt) (hq : gq want (look σ.t s) = some g) :
    Region.wanted o (yielded ops a.tmps) = g := by
  have hr := h.tm s
  have hsz : s < a.tmps.size := by rw [h.sz]; exact hlt
  have hget : a.tmps[s]? = some (a.tmps.getD s undef) := by simp [Array.getD, hsz]
  have hy : yielded ops a.tmps j = (match a.tmps.getD s undef with | .bool b => some b | _ => none) := by
    simp only [yielded]
    simp only [gslot] at hs
    rw [hs]
    simp only [Option.bind_some, hget]
    cases a.tmps.getD s undef <;> rfl
  simp only [Region.wanted, hg, hy]
  unfold gq at hq
  split at hq
  · rename_i b hl
    rw [hl] at hr
    rw [hr.p_inv]
    simp only [Option.some.injEq] at hq
    rw [← hq]
    cases b <;> cases want <;> rfl
  · rename_i c b hl
    rw [hl] at hr
    simp only [Option.some.injEq] at hq
    rw [← hq]
    generalize hv : a.tmps.getD s undef = v at hr
    cases hr with
    | pure hp => cases hp
    | gdT hp =>
      rw [hp.p_inv]
      cases b <;> cases want <;> rfl
    | gdF => cases want <;> rfl
  · cases hq

theorem Rel.gd {E : Env} {g : Bool} {x : AV} {v : Value} (h1 : g = true → Rel E x v) (h2 : g = false → v = undef) : Rel E (.gd g x) v := by
  cases g
  · rw [h2 rfl]; exact .gdF
  · exact .gdT (h1 rfl)

theorem aops_sound {ops : Array Oper} {K : St → Prop} {Q : Exit → Act → World → Prop} (hK : ∀ E' σ' a' w', SRel E0 n0 w0 nt E' σ' a' w' → K σ' → Q .normal a' w') :
    ∀ (l : List Oper) (E : Env) (σ : St) (a : Act) (w : World), SRel E0 n0 w0 nt E σ a w → aops P nt ops l σ K → wpList P ops Q l a w
  | [], E, σ, a, w, h, hk => hK E σ a w h hk
  | o :: rest, E, σ, a, w, h, hk => by
    have ih := aops_sound (ops := ops) (K := K) (Q := Q) hK rest
    simp only [aops] at hk
    obtain ⟨hd, hk⟩ := hk
    unfold wpList
    cases hg : o.guard with
    | none =>
      rw [hg] at hk
      simp only at hk
      rw [if_pos (by simp [Region.wanted, hg])]
      refine .inl ?_
      unfold bO at hk
      split at hk
      · rename_i ok r hy
        obtain ⟨hok, hk⟩ := hk
        obtain ⟨v, hv, hr, hl⟩ := ypure_sound h rfl hy hok
        simp only [Oper.wp, hv, Oper.upon]
        exact ih E _ _ w (h.put hd hr hl) hk
      · exact aimp_sound h rfl hd hk (fun E' σ' a' w' h' hk' => ih E' σ' a' w' h' hk')
    | some jw =>
      obtain ⟨j, want⟩ := jw
      rw [hg] at hk
      simp only at hk
      obtain ⟨s, hs, hlt, hk⟩ := oM_inv hk
      · obtain ⟨g, hq, hk⟩ := oM_inv hk
        · have hw := gq_sound h hg hs hlt hq
          unfold bO at hk
          split at hk
          · rename_i ok r hy
            obtain ⟨hok, hk⟩ := hk
            cases hgv : g with
            | true =>
              rw [hw, hgv, if_pos rfl]
              refine .inl ?_
              obtain ⟨v, hv, hr, hl⟩ := ypure_sound h hgv hy (hok hgv)
              simp only [Oper.wp, hv, Oper.upon]
              exact ih E _ _ w (h.put hd (Rel.gd (fun _ => hr) (fun hf => by rw [hgv] at hf; cases hf)) (.gd fun _ => hl)) hk
            | false =>
              rw [hw, hgv, if_neg (by simp)]
              have hl : Lt σ.h.n (.gd g r) := .gd fun ht => by rw [hgv] at ht; cases ht
              exact ih E _ _ w (h.put hd (Rel.gd (fun ht => by rw [hgv] at ht; cases ht) (fun _ => rfl)) hl) hk
          · obtain ⟨hk1, hk2⟩ := hk
            cases hgv : g with
            | true =>
              rw [hw, hgv, if_pos rfl]
              exact .inl (aimp_sound h hgv hd (hk1 hgv) (fun E' σ' a' w' h' hk' => ih E' σ' a' w' h' hk'))
            | false =>
              rw [hw, hgv, if_neg (by simp)]
              exact ih E _ _ w (h.put hd (.pure (.p _)) (.p _)) (hk2 hgv)
end
end Go.Vp
