/- The project's types as they come in. -/
import Derived.Test.YtmbepfdnmgiifaaFacts
import Derived.Test.YtmbepfdnmgiifaaVr
set_option linter.unusedVariables false
set_option linter.unusedSimpArgs false
namespace Go.Proofs.Ytmbepfdnmgiifaa
open Go.Vp
structure InsOk (i : Ins) : Prop where
  op : -9223372036854775808 ≤ i.op ∧ i.op < 9223372036854775808
  rd : -9223372036854775808 ≤ i.rd ∧ i.rd < 9223372036854775808
  rs1 : -9223372036854775808 ≤ i.rs1 ∧ i.rs1 < 9223372036854775808
  rs2 : -9223372036854775808 ≤ i.rs2 ∧ i.rs2 < 9223372036854775808
  imm : -2147483648 ≤ i.imm ∧ i.imm < 2147483648
structure NodOk (i : Nod) : Prop where
  kind : -9223372036854775808 ≤ i.kind ∧ i.kind < 9223372036854775808
  line : -9223372036854775808 ≤ i.line ∧ i.line < 9223372036854775808
  col : -9223372036854775808 ≤ i.col ∧ i.col < 9223372036854775808
  num : 0 ≤ i.num ∧ i.num < 4294967296
  name : i.name.size ≤ maxLen
structure ItmOk (i : Itm) : Prop where
  kind : -9223372036854775808 ≤ i.kind ∧ i.kind < 9223372036854775808
  line : -9223372036854775808 ≤ i.line ∧ i.line < 9223372036854775808
  col : -9223372036854775808 ≤ i.col ∧ i.col < 9223372036854775808
  name : i.name.size ≤ maxLen
  ins : InsOk i.ins
  short : i.short.size ≤ maxLen
  size : -9223372036854775808 ≤ i.size ∧ i.size < 9223372036854775808
  nodesL : i.nodes.length ≤ maxLen
  nodes : ∀ x ∈ i.nodes, NodOk x
  num : 0 ≤ i.num ∧ i.num < 4294967296
theorem open_ins {l : List AV} (h : Sh Try.prog 23 l) : ∃ i : Ins, l = i.cells ∧ InsOk i := by
  have h := sh_fts (ts := [3, 3, 3, 3, 21]) (by kernel_rfl) h
  obtain ⟨p0, r, rfl, h0, h⟩ := shs_cons h
  obtain ⟨p1, r, rfl, h1, h⟩ := shs_cons h
  obtain ⟨p2, r, rfl, h2, h⟩ := shs_cons h
  obtain ⟨p3, r, rfl, h3, h⟩ := shs_cons h
  obtain ⟨p4, r, rfl, h4, h⟩ := shs_cons h
  cases shs_nil h
  obtain ⟨n0, rfl, w0⟩ := sh_int Try.underlying3 h0
  obtain ⟨n1, rfl, w1⟩ := sh_int Try.underlying3 h1
  obtain ⟨n2, rfl, w2⟩ := sh_int Try.underlying3 h2
  obtain ⟨n3, rfl, w3⟩ := sh_int Try.underlying3 h3
  obtain ⟨n4, rfl, w4⟩ := sh_int Try.underlying21 h4
  exact ⟨⟨n0, n1, n2, n3, n4⟩, rfl, wf_i64 w0, wf_i64 w1, wf_i64 w2, wf_i64 w3, wf_i32 w4⟩
theorem open_nod {l : List AV} (h : Sh Try.prog 62 l) : ∃ i : Nod, l = i.cells ∧ NodOk i := by
  have h := sh_fts (ts := [3, 3, 3, 25, 9]) (by kernel_rfl) h
  obtain ⟨p0, r, rfl, h0, h⟩ := shs_cons h
  obtain ⟨p1, r, rfl, h1, h⟩ := shs_cons h
  obtain ⟨p2, r, rfl, h2, h⟩ := shs_cons h
  obtain ⟨p3, r, rfl, h3, h⟩ := shs_cons h
  obtain ⟨p4, r, rfl, h4, h⟩ := shs_cons h
  cases shs_nil h
  obtain ⟨n0, rfl, w0⟩ := sh_int Try.underlying3 h0
  obtain ⟨n1, rfl, w1⟩ := sh_int Try.underlying3 h1
  obtain ⟨n2, rfl, w2⟩ := sh_int Try.underlying3 h2
  obtain ⟨n3, rfl, w3⟩ := sh_int Try.underlying25 h3
  obtain ⟨n4, rfl, w4⟩ := sh_string Try.underlying9 h4
  exact ⟨⟨n0, n1, n2, n3, n4⟩, rfl, wf_i64 w0, wf_i64 w1, wf_i64 w2, wf_u32 w3, w4⟩
theorem open_itm {l : List AV} (h : Sh Try.prog 27 l) : ∃ i : Itm, l = i.cells ∧ ItmOk i := by
  have h := sh_fts (ts := [3, 3, 3, 9, 23, 9, 3, 24, 25, 4, 4]) (by kernel_rfl) h
  obtain ⟨p0, r, rfl, h0, h⟩ := shs_cons h
  obtain ⟨p1, r, rfl, h1, h⟩ := shs_cons h
  obtain ⟨p2, r, rfl, h2, h⟩ := shs_cons h
  obtain ⟨p3, r, rfl, h3, h⟩ := shs_cons h
  obtain ⟨p4, r, rfl, h4, h⟩ := shs_cons h
  obtain ⟨p5, r, rfl, h5, h⟩ := shs_cons h
  obtain ⟨p6, r, rfl, h6, h⟩ := shs_cons h
  obtain ⟨p7, r, rfl, h7, h⟩ := shs_cons h
  obtain ⟨p8, r, rfl, h8, h⟩ := shs_cons h
  obtain ⟨p9, r, rfl, h9, h⟩ := shs_cons h
  obtain ⟨pA, r, rfl, hA, h⟩ := shs_cons h
  cases shs_nil h
  obtain ⟨n0, rfl, w0⟩ := sh_int Try.underlying3 h0
  obtain ⟨n1, rfl, w1⟩ := sh_int Try.underlying3 h1
  obtain ⟨n2, rfl, w2⟩ := sh_int Try.underlying3 h2
  obtain ⟨n3, rfl, w3⟩ := sh_string Try.underlying9 h3
  obtain ⟨n4, rfl, w4⟩ := open_ins h4
  obtain ⟨n5, rfl, w5⟩ := sh_string Try.underlying9 h5
  obtain ⟨n6, rfl, w6⟩ := sh_int Try.underlying3 h6
  obtain ⟨n7, rfl, w7, k7⟩ := sh_slice Try.underlying24 h7
  obtain ⟨n8, rfl, w8⟩ := sh_int Try.underlying25 h8
  obtain ⟨n9, rfl⟩ := sh_bool Try.underlying4 h9
  obtain ⟨nA, rfl⟩ := sh_bool Try.underlying4 hA
  obtain ⟨nodes, rfl, k⟩ := els_map fun el he => open_nod (k7 el he)
  refine ⟨⟨n0, n1, n2, n3, n4, n5, n6, nodes, n8, n9, nA⟩, ?_, wf_i64 w0, wf_i64 w1, wf_i64 w2, w3, w4, w5, wf_i64 w6, by simpa using w7, k, wf_u32 w8⟩
  have e : Try.prog.cellsOf 62 = 5 := by kernel_rfl
  rw [e]; rfl
end Go.Proofs.Ytmbepfdnmgiifaa
