/- Up, part p: makes, conversions, calls; every operation, told onwards. -/
import Derived.Test.YtppobdnacmdgbaaDoorUo
set_option linter.unusedVariables false
set_option linter.unusedSimpArgs false
namespace Go.Up
open Go.RowKit

abbrev Callk := (R : Type) → FuncId → AH → List AV → (AH → AV → Option R) → Option R
/-- Calls that are right. -/
def CallOk [GTab] (P : Program) (call : Callk) : Prop := ∀ (R : Type) f h args (K : AH → AV → Option R) r, call R f h args K = some r → ∃ h' y, ACall P f h args (fun v h2 => v = y ∧ h2 = h') ∧ K h' y = some r

section
variable {P : Program} {h : AH} {e : Operand → AV} {R : Type}

/-! ### Slices of noughts -/
def mskK (C : Cfg) (h : AH) (t : TypeId) (l c : AV) (K : AH → AV → Option R) : Option R :=
  match l, c with
  | .p (.int k n), .p (.int k' n') =>
    match C.ety t with
    | some τ =>
      if tzB C.P t (sz τ) && decide (k = .i64) && decide (k' = .i64) then
        match C.P.underlying t with
        | some (.slice et) =>
          match (C.P.info? et).bind (·.zero) with
          | some z =>
            match full (decC h0 τ) (z.cells.toList.map nv) with
            | some y => bif inC n 16777216 && decide (n = n') then K (h.new (.tarr τ (List.replicate n.toNat y))) (.mw h.n) else none
            | none => none
          | none => none
        | _ => none
      else none
    | none => none
  | _, _ => none
theorem mskK_ok [GTab] {C : Cfg} {t : TypeId} {lo co : Operand} {K : AH → AV → Option R} {r : R} (hk : mskK C h t (e lo) (e co) K = some r) : ∃ h' y, ImpS C.P h e (.makeSlice t lo co) h' y ∧ K h' y = some r := by
  unfold mskK at hk
  split at hk
  case h_2 => cases hk
  rename_i k n k' n' hl hc
  split at hk
  case h_2 => cases hk
  rename_i τ hτ
  split at hk
  case isFalse => cases hk
  rename_i hcond
  simp only [Bool.and_eq_true, decide_eq_true_eq] at hcond
  obtain ⟨⟨htz, rfl⟩, rfl⟩ := hcond
  obtain ⟨et, bytes, ht, hbytes⟩ := tzB_ok htz
  split at hk
  case h_2 => cases hk
  rename_i et' hu'
  split at hk
  case h_2 => cases hk
  rename_i z' hz'
  split at hk
  case h_2 => cases hk
  rename_i y hy
  obtain ⟨hc2, hk2⟩ := cond_inv hk
  clear hk
  simp only [Bool.and_eq_true, decide_eq_true_eq] at hc2
  obtain ⟨hin, rfl⟩ := hc2
  obtain ⟨g0, g1⟩ := inC_ok hin
  obtain ⟨i, z, hu, hinfo, hz, hzs, hs, hbs⟩ := tz_parts ht
  rw [hu] at hu'
  cases hu'
  rw [hinfo] at hz'
  simp only [Option.bind_some, hz, Option.some.injEq] at hz'
  subst hz'
  refine ⟨_, _, ?_, hk2⟩
  intro E w vals hh hok hO o hop
  have hlv := hO.rel lo (by simp [Op.operands])
  have hcv := hO.rel co (by simp [Op.operands])
  rw [hl] at hlv
  rw [hc] at hcv
  -- the nought, read
  have hzr : Rels E (z.cells.toList.map nv) z.cells.toList := ⟨by simp, fun i x v hx hv => by
    rw [List.getElem?_map, hv] at hx
    cases hx
    exact nv_rel E v⟩
  have hyr := (decC_ok τ hh.h0 (fun _ _ => .h0 _) (full_inv hy)).1 _ hzr
  rw [List.append_nil] at hyr
  have hn : (n.toNat : Int) = n := Int.toNat_of_nonneg g0
  have hw : IntKind.i64.wrap n = n := by rw [IntKind.wrap_i64]; omega
  generalize hcur : (Array.range (n.toNat * i.size)).map ((if n.toNat * i.size = 0 then (#[] : Array Value) else z.cells)[· % (if n.toNat * i.size = 0 then (#[] : Array Value) else z.cells).size]!) = cur
  have hrun : (execOp vals o).run C.P w = .ok (.value (.slice (some ⟨w.heap.size, 0, none⟩) n.toNat n.toNat)) (w.alloc (.cells cur et)) := by
    unfold execOp
    rw [hop]
    dsimp only
    rw [hlv.p_inv, hcv.p_inv]
    have hb2 : (i.bytes : Int) * n ≤ 2 ^ 48 := by
      rw [hbs]
      have h1 : (bytes : Int) * n ≤ 32768 * 16777216 := by
        have hb' : (bytes : Int) ≤ 32768 := by omega
        have hn' : n ≤ 16777216 := by omega
        exact Int.mul_le_mul hb' hn' g0 (by omega)
      omega
    have hroom : ¬ (n.toNat * i.bytes > roomBytes) := by
      have h1 : n.toNat * i.bytes ≤ 16777216 * 32768 := Nat.mul_le_mul (by omega) (by omega)
      simp only [roomBytes]
      omega
    have ha : ∀ m : Int, (Go.asInt (.int .i64 m)).run C.P w = .ok m w := fun m => rfl
    simp only [Instr.makeSlice, Sem.run_bind, run_underlying hu, Result.andThen_ok, ha, Sem.run_pure, typeInfo, run_program, hinfo, hw]
    rw [if_neg (by simp only [Bool.or_eq_true, decide_eq_true_eq]; omega)]
    simp only [askRoom, if_neg hroom, sizeOf, typeInfo, Sem.run_bind, run_program, Result.andThen_ok, hinfo, Sem.run_pure]
    by_cases h0 : n.toNat * i.size = 0
    · rw [if_pos h0] at hcur
      rw [if_pos h0]
      simp only [Sem.run_bind, Sem.run_pure, Result.andThen_ok]
      rw [hcur]
      simp [newRow]
    · rw [if_neg h0] at hcur
      rw [if_neg h0]
      simp only [Sem.run_bind, zeroValue, typeInfo, run_program, Result.andThen_ok, hinfo, hz, Sem.run_pure]
      rw [hcur]
      simp [newRow]
  unfold Lands
  rw [hrun]
  have hlen : (List.replicate n.toNat y).length = n.toNat := List.length_replicate
  obtain ⟨E', s1, s2, s3⟩ := Step.arr (w1 := w) (τ := τ) (l := List.replicate n.toNat y) (cap := n.toNat) (cur := cur) (T := et) hh hok rfl rfl rfl rfl (by omega) (by simp only [maxLen]; omega)
    (by rw [← hcur]; simp [hs])
    (fun a j q x hq hx => by
      have hq' := List.mem_of_getElem? hq
      rw [List.mem_replicate] at hq'
      obtain rfl := hq'.2
      have ha : a < n.toNat := by have := (List.getElem?_eq_some_iff.1 hq).1; rwa [hlen] at this
      have hj : j < sz τ := by have := (List.getElem?_eq_some_iff.1 hx).1; rwa [enc_length] at this
      obtain ⟨v, hv, hr⟩ := hyr.getElem hx
      refine ⟨v, ?_, prel_of_isP hr (enc_isP τ _ x (List.mem_of_getElem? hx))⟩
      have hlt := idx_lt ha hj
      rw [← hcur, hs]
      have hne : n.toNat * sz τ ≠ 0 := by omega
      rw [if_neg hne]
      have hz3 : z.cells.size = sz τ := hzs
      have hmod : (a * sz τ + j) % z.cells.size = j := by rw [hz3, Nat.mul_comm, Nat.mul_add_mod]; exact Nat.mod_eq_of_lt hj
      have hjz : j < z.cells.size := by omega
      rw [Array.getElem?_map, Array.getElem?_range, if_pos hlt, Option.map_some, hmod]
      rw [Array.getElem?_toList, Array.getElem?_eq_getElem hjz] at hv
      simp only [Option.some.injEq] at hv
      rw [← hv, getElem!_pos z.cells j hjz])
  rw [hlen] at s2
  exact ⟨E', s1, s2, s3⟩

/-! ### Bytes and texts -/
def bytesOf (s : Str) : List Int := s.map fun b => (b.toNat : Int)
def textOf (l : List Int) : Str := l.map fun n => UInt8.ofNat n.toNat
def cnvK (P : Program) (h : AH) (src dst : TypeId) (x : AV) (K : AV → Option R) : Option R :=
  match P.underlying dst with
  | some (.slice et) =>
    match x, P.underlying et, P.underlying src with
    | .st s, some (.int .u8), some _ => bif okLen s.length then K (.tl (.int .u8) (bytesOf s) none) else none
    | _, _, _ => none
  | some .string =>
    match x with
    | .st s => (match P.underlying src with
      | some _ => K (.st s)
      | none => none)
    | x =>
      match P.underlying src with
      | some (.slice et) =>
        match P.underlying et with
        | some (.int .u8) =>
          match x with
          | .ms id off len =>
            match h.o id with
            | some (.tarr (.int .u8) l) => bif Nat.ble (off + len) l.length then K (.st (textOf ((l.drop off).take len))) else none
            | _ => none
          | .mw id =>
            match h.o id with
            | some (.tarr (.int .u8) l) => K (.st (textOf l))
            | _ => none
          | x => match asSl h (.int .u8) (full (decC h0 (.int .u8))) x with
            | some l => K (.st (textOf l))
            | none => none
        | _ => none
      | _ => none
  | _ =>
    match aconv P src dst x with
    | some r => K r
    | none => none
theorem fold_text (l : List Int) : ∀ s : ByteArray, l.foldl (fun r n => r.push (UInt8.ofNat n.toNat)) s = ⟨s.data ++ (textOf l).toArray⟩ := by
  induction l with
  | nil => intro s; simp [textOf]
  | cons n l ih =>
    intro s
    rw [List.foldl_cons, ih]
    simp [textOf, ByteArray.push]
theorem cnvK_ok [GTab] {src dst : TypeId} {xo : Operand} {K : AV → Option R} {r : R} (hk : cnvK P h src dst (e xo) K = some r) : ∃ y, ImpS P h e (.convert src dst xo) h y ∧ K y = some r := by
  unfold cnvK at hk
  split at hk
  · rename_i et hd
    split at hk
    case h_2 => cases hk
    rename_i s d hx he hs
    obtain ⟨hlen, hk⟩ := cond_inv hk
    have hlen := okLen_ok hlen
    refine ⟨_, ?_, hk⟩
    intro E w vals hh hok hO o hop
    have hxv := hO.rel xo (by simp [Op.operands])
    rw [hx] at hxv
    have hrun := Lib.run_convert_string_bytes (P := P) w src dst et ⟨s.toArray⟩ hs hd he
    have hrun2 : (execOp vals o).run P w = .ok (.value (.slice (some ⟨w.heap.size, 0, none⟩) s.length (grownCap w s.length 0 et))) (Lib.bytesWorld w et ⟨s.toArray⟩) := by
      unfold execOp
      rw [hop]
      dsimp only
      rw [hxv.st_inv]
      simp only [Sem.run_bind, hrun, st_size]; rfl
    unfold Lands
    rw [hrun2]
    have hcap1 := grownCap_ge w s.length 0 et
    have hcm := grownCap_le_maxLen w s.length 0 et (by simp only [maxLen]; omega)
    have hget : ∀ (i : Nat) (el : List AV), (List.map (enc (.int .u8)) (bytesOf s))[i]? = some el → ∃ b, s[i]? = some b ∧ el = [.p (.int .u8 (b.toNat : Int))] := fun i el hi => by
      have h1 : (List.map (enc (.int .u8)) (bytesOf s)) = s.map fun b => [AV.p (.int .u8 (b.toNat : Int))] := by
        simp only [bytesOf]; exact List.map_map
      rw [h1, List.getElem?_map] at hi
      obtain ⟨b, hb, rfl⟩ := Option.map_eq_some_iff.1 hi
      exact ⟨b, hb, rfl⟩
    have hll : (List.map (enc (.int .u8)) (bytesOf s)).length = s.length := by
      rw [List.length_map]; exact List.length_map ..
    obtain ⟨E', s1, s2⟩ := Step.sl (w' := Lib.bytesWorld w et ⟨s.toArray⟩) hh hok (els := List.map (enc (.int .u8)) (bytesOf s)) (n := s.length) (cap := grownCap w s.length 0 et) (size := 1) hll.symm rfl rfl rfl (Lib.bytesWorld_size ..) (fun k hk => Lib.bytesWorld_at_old w et _ k hk) hcap1 hcm
      (fun el hel => by
        obtain ⟨i, hi⟩ := List.getElem?_of_mem hel
        obtain ⟨b, _, rfl⟩ := hget i el hi
        rfl)
      (fun i j el x hi hj => by
        obtain ⟨b, hb, rfl⟩ := hget i el hi
        have hil := (List.getElem?_eq_some_iff.1 hb).1
        have hj0 : j = 0 := by have := (List.getElem?_eq_some_iff.1 hj).1; simpa using this
        subst hj0
        simp only [List.getElem?_cons_zero, Option.some.injEq] at hj
        subst hj
        refine ⟨_, by rw [Nat.mul_one, Nat.add_zero]; exact Lib.bytesWorld_cell w et ⟨s.toArray⟩ i hil, ?_⟩
        have : (⟨s.toArray⟩ : ByteArray).data.toList.getD i 0 = b := by simp [List.getD, hb]
        rw [this]
        exact .p _)
    exact ⟨E', s1, .pure (.tl (s2 none (.inr rfl))), .tl _ _ _⟩
  · rename_i hd
    split at hk
    · rename_i s hx
      split at hk
      · rename_i d hs
        refine ⟨_, YO.imp (.of_pure (ok := True) (by simp only [ypure, aconv, hs, hd, Option.bind_some, hx, aconvd, Option.map_some]) trivial), hk⟩
      · cases hk
    · split at hk
      · rename_i et hs
        split at hk
        · rename_i he
          -- the bytes' text
          have txt : ∀ (l : List Int) (a : Option Addr) (n c : Nat) (w : World), n = l.length → (a = none → n = 0) → (∀ ad i (v : Int), a = some ad → l[i]? = some v → w.cell? (ad.add i) = some (.int .u8 v)) →
              (convert src dst (.slice a n c)).run P w = .ok (.string ⟨(textOf l).toArray⟩) w := by
            intro l a n c w hn ha hc
            rw [run_convert_bytes_string w src dst et a n c hs he hd]
            cases a with
            | none =>
              have h0 : n = 0 := ha rfl
              subst hn
              have : l = [] := List.eq_nil_of_length_eq_zero h0
              subst this
              simp [Conv.bytesToString, textOf]; rfl
            | some ad =>
              have hl := run_loadCells_list (P := P) w ad (l.map (Value.int .u8)) (fun j v hv => by
                rw [List.getElem?_map] at hv
                obtain ⟨q, hq, rfl⟩ := Option.map_eq_some_iff.1 hv
                exact hc ad j q rfl hq)
              rw [List.length_map, ← hn] at hl
              rw [run_bytesToString w ad n c l hl, fold_text]
              simp
          split at hk
          · rename_i id off len hx
            split at hk
            · rename_i l ho
              obtain ⟨hb, hk⟩ := cond_inv hk
              have hb := Nat.le_of_ble_eq_true hb
              refine ⟨_, ?_, hk⟩
              intro E w vals hh hok hO o hop
              have hxv := hO.rel xo (by simp [Op.operands])
              have hxl := hO.lt xo (by simp [Op.operands])
              rw [hx] at hxv hxl
              obtain ⟨b, cap, size, ln, a, c, hve, h1, h2, h3, h4, h5⟩ := hxv.ms_inv
              obtain ⟨b', cap', k1, k2, k3, krest⟩ := hh.arr _ _ _ hxl.ms_inv ho
              rw [h1] at k1
              cases k1
              have hlen : len = ((l.drop off).take len : List Int).length := by
                have hb' : off + len ≤ (l : List Int).length := hb
                rw [List.length_take, List.length_drop]; omega
              have hrun := txt ((l.drop off).take len) a len c w hlen (fun ha => by
                rcases Nat.eq_zero_or_pos c with h' | h'
                · omega
                · have := h5 h'; rw [ha] at this; cases this) (fun ad i v had hv => by
                have hil : i < len := by have := (List.getElem?_eq_some_iff.1 hv).1; rwa [← hlen] at this
                have := h5 (by omega)
                rw [this] at had
                cases had
                rw [List.getElem?_take, if_pos hil, List.getElem?_drop] at hv
                obtain ⟨cur, T, k4, k5, k6, k7⟩ := krest (by have := (List.getElem?_eq_some_iff.1 hv).1; omega)
                obtain ⟨u, hu, hp⟩ := k7 (off + i) 0 v (.p (.int .u8 v)) hv rfl
                cases hp
                rw [addr_add_lit]
                have e1 : (sz (.int .u8)) = 1 := rfl
                rw [e1] at hu ⊢
                simp only [Nat.mul_one, Nat.add_zero] at hu ⊢
                simpa [World.cell?, k4] using hu)
              have hrun2 : (execOp vals o).run P w = .ok (.value (.string ⟨(textOf ((l.drop off).take len)).toArray⟩)) w := by
                unfold execOp
                rw [hop]
                dsimp only
                rw [hve]
                simp only [Sem.run_bind, hrun]; rfl
              unfold Lands
              rw [hrun2]
              exact ⟨E, .refl hh hok, .pure (.st _), .st _⟩
            · cases hk
          · rename_i id hx
            split at hk
            · rename_i l ho
              refine ⟨_, ?_, hk⟩
              intro E w vals hh hok hO o hop
              have hxv := hO.rel xo (by simp [Op.operands])
              have hxl := hO.lt xo (by simp [Op.operands])
              rw [hx] at hxv hxl
              obtain ⟨b, cap, size, len, a, c, hve, h1, h2, h3, h4, h5⟩ := hxv.mw_inv
              obtain ⟨b', cap', k1, k2, k3, krest⟩ := hh.arr _ _ _ hxl.mw_inv ho
              rw [h1] at k1
              cases k1
              have hrun := txt l a _ c w rfl (fun ha => by
                rcases Nat.eq_zero_or_pos c with h' | h'
                · omega
                · have := h5 h'; rw [ha] at this; cases this) (fun ad i v had hv => by
                have hil : i < l.length := (List.getElem?_eq_some_iff.1 hv).1
                have := h5 (by omega)
                rw [this] at had
                cases had
                obtain ⟨cur, T, k4, k5, k6, k7⟩ := krest (by have := (List.getElem?_eq_some_iff.1 hv).1; omega)
                obtain ⟨u, hu, hp⟩ := k7 i 0 v (.p (.int .u8 v)) hv rfl
                cases hp
                rw [addr_add_lit]
                have e1 : (sz (.int .u8)) = 1 := rfl
                rw [e1] at hu
                simp only [Nat.mul_one, Nat.add_zero] at hu ⊢
                simpa [World.cell?, k4] using hu)
              have hrun2 : (execOp vals o).run P w = .ok (.value (.string ⟨(textOf l).toArray⟩)) w := by
                unfold execOp
                rw [hop]
                dsimp only
                rw [hve]
                simp only [Sem.run_bind, hrun]; rfl
              unfold Lands
              rw [hrun2]
              exact ⟨E, .refl hh hok, .pure (.st _), .st _⟩
            · cases hk
          · split at hk
            · rename_i l hl
              refine ⟨_, ?_, hk⟩
              intro E w vals hh hok hO o hop
              have hxv := hO.rel xo (by simp [Op.operands])
              have hxl := hO.lt xo (by simp [Op.operands])
              have hr := (asSl_ok hh (fun l y hy => by simpa using (decC_ok (.int .u8) hh.h0 (fun _ _ => .h0 _) (full_inv hy)).1) (.of_lt hxl) hl _ hxv).tl_inv
              generalize hv : vals xo = v at hr
              cases hr with
              | @sl _ _ _ a n c us g1 g2 g3 g4 g5 g6 g7 g8 =>
                have hget : ∀ (i : Nat) (v : Int), (l : List Int)[i]? = some v → (List.map (enc (.int .u8)) l)[i]? = some [.p (.int .u8 v)] := fun i v hv => by
                  rw [List.getElem?_map]
                  have : (l[i]? : Option (El (.int .u8))) = some v := hv
                  rw [this]; rfl
                rw [List.length_map] at g1
                have hrun := txt l a n c w g1 (fun ha => by have := (g6 ha).2; omega) (fun ad i v had hv => by
                  have h7 := g7 ad i 0 _ _ had (hget i v hv) rfl
                  have h8 := Rel.p_inv (E := E) (.pure (g8 i 0 _ _ (hget i v hv) rfl))
                  have hc := hh.cells _ _ h7
                  rw [h8] at hc
                  have e1 : (sz (.int .u8)) = 1 := rfl
                  rw [e1] at hc
                  simpa using hc)
                have hrun2 : (execOp vals o).run P w = .ok (.value (.string ⟨(textOf l).toArray⟩)) w := by
                  unfold execOp
                  rw [hop]
                  dsimp only
                  rw [hv]
                  simp only [Sem.run_bind, hrun]; rfl
                unfold Lands
                rw [hrun2]
                exact ⟨E, .refl hh hok, .pure (.st _), .st _⟩
            · cases hk
        · cases hk
      · cases hk
  · split at hk
    · rename_i r' hq
      exact ⟨_, YO.imp (.of_pure (ok := True) (by simp only [ypure, hq, Option.map_some]) trivial), hk⟩
    · cases hk
/-- The bytes of a literal, turned to their own type: the block gets a mark; its cells never turn again. -/
def cnvM (P : Program) (h : AH) (src dst : TypeId) (x : AV) (K : AH → AV → Option R) : Option R :=
  match x with
  | .mw id =>
    match h.o id with
    | some (.tarr (.int .u8) l) =>
      match P.underlying dst with
      | some (.slice et) =>
        match P.underlying et with
        | some (.int .u8) => if Nat.beq src dst then (match l with
          | [] => none
          | y :: l => K (h.set id none) (.tl (.int .u8) (y :: l) none)) else none
        | _ => none
      | _ => none
    | _ => none
  | _ => none
theorem cnvM_ok [GTab] {src dst : TypeId} {xo : Operand} {K : AH → AV → Option R} {r : R} (hk : cnvM P h src dst (e xo) K = some r) : ∃ h' y, ImpS P h e (.convert src dst xo) h' y ∧ K h' y = some r := by
  unfold cnvM at hk
  split at hk
  case h_2 => cases hk
  rename_i id hx
  split at hk
  case h_2 => cases hk
  rename_i l ho
  split at hk
  case h_2 => cases hk
  rename_i et hd
  split at hk
  case h_2 => cases hk
  rename_i he
  split at hk
  case isFalse => cases hk
  rename_i hsd
  have hsd := Nat.eq_of_beq_eq_true hsd
  subst hsd
  split at hk
  case h_1 => cases hk
  rename_i y l
  refine ⟨_, _, ?_, hk⟩
  intro E w vals hh hok hO o hop
  have hxv := hO.rel xo (by simp [Op.operands])
  have hxl := hO.lt xo (by simp [Op.operands])
  rw [hx] at hxv hxl
  obtain ⟨b, cap, size, len, a, c, hve, h1, h2, h3, h4, h5⟩ := hxv.mw_inv
  obtain ⟨b', cap', k1, k2, k3, krest⟩ := hh.arr _ _ _ hxl.mw_inv ho
  rw [h1] at k1
  cases k1
  have hlp : 0 < ((y :: l : List Int)).length := by simp
  have ha := h5 (by omega)
  subst ha
  obtain ⟨cur, T, k4, k5, k6, k7⟩ := krest (by omega)
  have hshp : w.shape? b = some (T, cur.size) := by simp only [World.shape?, k4]
  have hfz : ∀ k, (w.freeze ⟨b, cur.size, none⟩ 1).heap[k]? = if k = b then some (.cells cur T (cur.size, cur.size + 1)) else w.heap[k]? := fun k => by
    unfold World.freeze
    rw [if_neg (by decide)]
    simp only [Array.getElem?_modify]
    by_cases hkb : k = b
    · subst hkb
      simp [k4]
    · rw [if_neg (Ne.symm hkb), if_neg hkb]
  have hrun : (execOp vals o).run P w = .ok (.value (.slice (some ⟨b, 0, none⟩) ((y :: l : List Int)).length c)) (w.freeze ⟨b, cur.size, none⟩ 1) := by
    unfold execOp
    rw [hop]
    dsimp only
    rw [hve]
    simp [convert, underlying, hd, he, markStringish, hshp]
  unfold Lands
  rw [hrun]
  have e1 : (sz (.int .u8)) = 1 := rfl
  have st := Step.freezeM (w' := w.freeze ⟨b, cur.size, none⟩ 1) (hi := cur.size) (m := (cur.size, cur.size + 1)) (cs := cur) (T := T) hh hok hxl.mw_inv (by rw [ho]; simp) (by rw [h1]; simp [EO.blk]; omega) k6 (by rw [hfz, if_pos rfl]) (by simp [World.freeze]) (by simp [World.freeze]) (by simp [World.freeze]) (by simp [World.freeze])
    (fun k hk => by rw [hfz, if_neg hk])
  refine ⟨_, st, .pure (.tl (.sl (fun i j => (cur[i * 1 + j]?).getD undef) (by simp) h3 (by omega) (fun _ hc => by cases hc) (fun el hel => ?_) (fun ha => by cases ha) (fun ad i j el x had hi hj => ?_) (fun i j el x hi hj => ?_))), .tl _ _ _⟩
  · obtain ⟨z, _, rfl⟩ := List.mem_map.1 hel
    exact enc_length _ _
  · cases had
    rw [List.getElem?_map] at hi
    obtain ⟨z, hz, rfl⟩ := Option.map_eq_some_iff.1 hi
    obtain ⟨v, q1, q2⟩ := k7 i j z x hz hj
    rw [e1] at q1
    rw [addr_add_lit]
    simp only [Env.addS, Nat.zero_add]
    have hlt := (Array.getElem?_eq_some_iff.1 q1).1
    rw [if_pos ⟨trivial, trivial, Nat.zero_le _, by rw [e1]; exact hlt⟩, e1, q1]
    rfl
  · rw [List.getElem?_map] at hi
    obtain ⟨z, hz, rfl⟩ := Option.map_eq_some_iff.1 hi
    obtain ⟨v, q1, q2⟩ := k7 i j z x hz hj
    rw [e1] at q1
    rw [q1]
    exact q2.mono st.ext.S
end
end Go.Up
