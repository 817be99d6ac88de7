/- Facts on the types of this program, each by the kernel. -/
import Derived.Test.YtmbepfdnmgiifaaVo
import Derived.Test.YtmbepfdnmgiifaaProg
import Derived.KernelRfl
set_option linter.unusedVariables false
set_option linter.unusedSimpArgs false
namespace Go.Proofs
open Go.Vp
@[go_sem] theorem Try.tk0 : tk Try.prog 0 = some (false, 1) := by kernel_rfl
@[go_sem] theorem Try.tk1 : tk Try.prog 1 = some (false, 1) := by kernel_rfl
@[go_sem] theorem Try.zero1 : (Try.prog.info? 1).bind (·.zero) = some (.nilFunc) := by kernel_rfl
@[go_sem] theorem Try.tk2 : tk Try.prog 2 = some (false, 1) := by kernel_rfl
@[go_sem] theorem Try.zero2 : (Try.prog.info? 2).bind (·.zero) = some (.int .i64 0) := by kernel_rfl
@[go_sem] theorem Try.tk3 : tk Try.prog 3 = some (false, 1) := by kernel_rfl
@[go_sem] theorem Try.zero3 : (Try.prog.info? 3).bind (·.zero) = some (.int .i64 0) := by kernel_rfl
@[go_sem] theorem Try.tk4 : tk Try.prog 4 = some (false, 1) := by kernel_rfl
@[go_sem] theorem Try.zero4 : (Try.prog.info? 4).bind (·.zero) = some (.bool false) := by kernel_rfl
@[go_sem] theorem Try.tk5 : tk Try.prog 5 = some (false, 1) := by kernel_rfl
@[go_sem] theorem Try.zero5 : (Try.prog.info? 5).bind (·.zero) = some (.int .u8 0) := by kernel_rfl
@[go_sem] theorem Try.tk6 : tk Try.prog 6 = some (false, 1) := by kernel_rfl
@[go_sem] theorem Try.zero6 : (Try.prog.info? 6).bind (·.zero) = some (.int .u8 0) := by kernel_rfl
@[go_sem] theorem Try.tk7 : tk Try.prog 7 = some (true, 4) := by kernel_rfl
@[go_sem] theorem Try.fo7_0 : fo Try.prog 7 0 = some (0, 2) := by kernel_rfl
@[go_sem] theorem Try.fo7_1 : fo Try.prog 7 1 = some (1, 3) := by kernel_rfl
@[go_sem] theorem Try.fo7_2 : fo Try.prog 7 2 = some (2, 4) := by kernel_rfl
@[go_sem] theorem Try.fo7_3 : fo Try.prog 7 3 = some (3, 6) := by kernel_rfl
@[go_sem] theorem Try.zero7 : (Try.prog.info? 7).bind (·.zero) = some (.agg #[.int .i64 0, .int .i64 0, .bool false, .int .u8 0]) := by kernel_rfl
@[go_sem] theorem Try.ab7 (parts : List (Nat × AV)) : abuild Try.prog 7 parts = (fillA (fun i => [(0, 1), (1, 1), (2, 1), (3, 1)][i]?) [.p (.int .i64 0), .p (.int .i64 0), .p (.bool false), .p (.int .u8 0)] parts).map fun l => (kn parts, .agg l) := abuild_of (by kernel_rfl)
@[go_sem] theorem Try.tk8 : tk Try.prog 8 = some (true, 4) := by kernel_rfl
@[go_sem] theorem Try.fo8_0 : fo Try.prog 8 0 = some (0, 2) := by kernel_rfl
@[go_sem] theorem Try.fo8_1 : fo Try.prog 8 1 = some (1, 3) := by kernel_rfl
@[go_sem] theorem Try.fo8_2 : fo Try.prog 8 2 = some (2, 4) := by kernel_rfl
@[go_sem] theorem Try.fo8_3 : fo Try.prog 8 3 = some (3, 6) := by kernel_rfl
@[go_sem] theorem Try.zero8 : (Try.prog.info? 8).bind (·.zero) = some (.agg #[.int .i64 0, .int .i64 0, .bool false, .int .u8 0]) := by kernel_rfl
@[go_sem] theorem Try.ab8 (parts : List (Nat × AV)) : abuild Try.prog 8 parts = (fillA (fun i => [(0, 1), (1, 1), (2, 1), (3, 1)][i]?) [.p (.int .i64 0), .p (.int .i64 0), .p (.bool false), .p (.int .u8 0)] parts).map fun l => (kn parts, .agg l) := abuild_of (by kernel_rfl)
@[go_sem] theorem Try.tk9 : tk Try.prog 9 = some (false, 1) := by kernel_rfl
@[go_sem] theorem Try.zero9 : (Try.prog.info? 9).bind (·.zero) = some (.string .empty) := by kernel_rfl
@[go_sem] theorem Try.tk10 : tk Try.prog 10 = some (false, 1) := by kernel_rfl
@[go_sem] theorem Try.zero10 : (Try.prog.info? 10).bind (·.zero) = some (.string .empty) := by kernel_rfl
@[go_sem] theorem Try.tk11 : tk Try.prog 11 = some (false, 1) := by kernel_rfl
@[go_sem] theorem Try.zero11 : (Try.prog.info? 11).bind (·.zero) = some (.string .empty) := by kernel_rfl
@[go_sem] theorem Try.tk12 : tk Try.prog 12 = some (false, 1) := by kernel_rfl
@[go_sem] theorem Try.zero12 : (Try.prog.info? 12).bind (·.zero) = some (.int .u64 0) := by kernel_rfl
@[go_sem] theorem Try.tk13 : tk Try.prog 13 = some (true, 2) := by kernel_rfl
@[go_sem] theorem Try.fo13_0 : fo Try.prog 13 0 = some (0, 9) := by kernel_rfl
@[go_sem] theorem Try.fo13_1 : fo Try.prog 13 1 = some (1, 12) := by kernel_rfl
@[go_sem] theorem Try.zero13 : (Try.prog.info? 13).bind (·.zero) = some (.agg #[.string .empty, .int .u64 0]) := by kernel_rfl
@[go_sem] theorem Try.ab13 (parts : List (Nat × AV)) : abuild Try.prog 13 parts = (fillA (fun i => [(0, 1), (1, 1)][i]?) [.p (.string .empty), .p (.int .u64 0)] parts).map fun l => (kn parts, .agg l) := abuild_of (by kernel_rfl)
@[go_sem] theorem Try.tk14 : tk Try.prog 14 = some (true, 2) := by kernel_rfl
@[go_sem] theorem Try.fo14_0 : fo Try.prog 14 0 = some (0, 9) := by kernel_rfl
@[go_sem] theorem Try.fo14_1 : fo Try.prog 14 1 = some (1, 12) := by kernel_rfl
@[go_sem] theorem Try.zero14 : (Try.prog.info? 14).bind (·.zero) = some (.agg #[.string .empty, .int .u64 0]) := by kernel_rfl
@[go_sem] theorem Try.ab14 (parts : List (Nat × AV)) : abuild Try.prog 14 parts = (fillA (fun i => [(0, 1), (1, 1)][i]?) [.p (.string .empty), .p (.int .u64 0)] parts).map fun l => (kn parts, .agg l) := abuild_of (by kernel_rfl)
@[go_sem] theorem Try.tk15 : tk Try.prog 15 = some (false, 1) := by kernel_rfl
@[go_sem] theorem Try.zero15 : (Try.prog.info? 15).bind (·.zero) = some (.pointer none) := by kernel_rfl
@[go_sem] theorem Try.tk16 : tk Try.prog 16 = some (false, 1) := by kernel_rfl
@[go_sem] theorem Try.zero16 : (Try.prog.info? 16).bind (·.zero) = some (.pointer none) := by kernel_rfl
@[go_sem] theorem Try.tk17 : tk Try.prog 17 = some (false, 1) := by kernel_rfl
@[go_sem] theorem Try.zero17 : (Try.prog.info? 17).bind (·.zero) = some (.pointer none) := by kernel_rfl
@[go_sem] theorem Try.tk18 : tk Try.prog 18 = some (true, 1) := by kernel_rfl
@[go_sem] theorem Try.fo18_0 : fo Try.prog 18 0 = some (0, 17) := by kernel_rfl
@[go_sem] theorem Try.zero18 : (Try.prog.info? 18).bind (·.zero) = some (.agg #[.pointer none]) := by kernel_rfl
@[go_sem] theorem Try.ab18 (parts : List (Nat × AV)) : abuild Try.prog 18 parts = (fillA (fun i => [(0, 1)][i]?) [.p (.pointer none)] parts).map fun l => (kn parts, .agg l) := abuild_of (by kernel_rfl)
@[go_sem] theorem Try.tk19 : tk Try.prog 19 = some (true, 1) := by kernel_rfl
@[go_sem] theorem Try.fo19_0 : fo Try.prog 19 0 = some (0, 17) := by kernel_rfl
@[go_sem] theorem Try.zero19 : (Try.prog.info? 19).bind (·.zero) = some (.agg #[.pointer none]) := by kernel_rfl
@[go_sem] theorem Try.ab19 (parts : List (Nat × AV)) : abuild Try.prog 19 parts = (fillA (fun i => [(0, 1)][i]?) [.p (.pointer none)] parts).map fun l => (kn parts, .agg l) := abuild_of (by kernel_rfl)
@[go_sem] theorem Try.tk20 : tk Try.prog 20 = some (false, 1) := by kernel_rfl
@[go_sem] theorem Try.zero20 : (Try.prog.info? 20).bind (·.zero) = some (.nilIface) := by kernel_rfl
@[go_sem] theorem Try.tk21 : tk Try.prog 21 = some (false, 1) := by kernel_rfl
@[go_sem] theorem Try.zero21 : (Try.prog.info? 21).bind (·.zero) = some (.int .i32 0) := by kernel_rfl
@[go_sem] theorem Try.tk22 : tk Try.prog 22 = some (true, 5) := by kernel_rfl
@[go_sem] theorem Try.fo22_0 : fo Try.prog 22 0 = some (0, 3) := by kernel_rfl
@[go_sem] theorem Try.fo22_1 : fo Try.prog 22 1 = some (1, 3) := by kernel_rfl
@[go_sem] theorem Try.fo22_2 : fo Try.prog 22 2 = some (2, 3) := by kernel_rfl
@[go_sem] theorem Try.fo22_3 : fo Try.prog 22 3 = some (3, 3) := by kernel_rfl
@[go_sem] theorem Try.fo22_4 : fo Try.prog 22 4 = some (4, 21) := by kernel_rfl
@[go_sem] theorem Try.zero22 : (Try.prog.info? 22).bind (·.zero) = some (.agg #[.int .i64 0, .int .i64 0, .int .i64 0, .int .i64 0, .int .i32 0]) := by kernel_rfl
@[go_sem] theorem Try.ab22 (parts : List (Nat × AV)) : abuild Try.prog 22 parts = (fillA (fun i => [(0, 1), (1, 1), (2, 1), (3, 1), (4, 1)][i]?) [.p (.int .i64 0), .p (.int .i64 0), .p (.int .i64 0), .p (.int .i64 0), .p (.int .i32 0)] parts).map fun l => (kn parts, .agg l) := abuild_of (by kernel_rfl)
@[go_sem] theorem Try.tk23 : tk Try.prog 23 = some (true, 5) := by kernel_rfl
@[go_sem] theorem Try.fo23_0 : fo Try.prog 23 0 = some (0, 3) := by kernel_rfl
@[go_sem] theorem Try.fo23_1 : fo Try.prog 23 1 = some (1, 3) := by kernel_rfl
@[go_sem] theorem Try.fo23_2 : fo Try.prog 23 2 = some (2, 3) := by kernel_rfl
@[go_sem] theorem Try.fo23_3 : fo Try.prog 23 3 = some (3, 3) := by kernel_rfl
@[go_sem] theorem Try.fo23_4 : fo Try.prog 23 4 = some (4, 21) := by kernel_rfl
@[go_sem] theorem Try.zero23 : (Try.prog.info? 23).bind (·.zero) = some (.agg #[.int .i64 0, .int .i64 0, .int .i64 0, .int .i64 0, .int .i32 0]) := by kernel_rfl
@[go_sem] theorem Try.ab23 (parts : List (Nat × AV)) : abuild Try.prog 23 parts = (fillA (fun i => [(0, 1), (1, 1), (2, 1), (3, 1), (4, 1)][i]?) [.p (.int .i64 0), .p (.int .i64 0), .p (.int .i64 0), .p (.int .i64 0), .p (.int .i32 0)] parts).map fun l => (kn parts, .agg l) := abuild_of (by kernel_rfl)
@[go_sem] theorem Try.tk24 : tk Try.prog 24 = some (false, 1) := by kernel_rfl
@[go_sem] theorem Try.zero24 : (Try.prog.info? 24).bind (·.zero) = some (.slice none 0 0) := by kernel_rfl
@[go_sem] theorem Try.te24 : te Try.prog 24 = some (62, 5) := by kernel_rfl
@[go_sem] theorem Try.tz24 : tz Try.prog 24 = some (62, 5, 48) := by kernel_rfl
@[go_sem] theorem Try.tk25 : tk Try.prog 25 = some (false, 1) := by kernel_rfl
@[go_sem] theorem Try.zero25 : (Try.prog.info? 25).bind (·.zero) = some (.int .u32 0) := by kernel_rfl
@[go_sem] theorem Try.tk26 : tk Try.prog 26 = some (true, 15) := by kernel_rfl
@[go_sem] theorem Try.fo26_0 : fo Try.prog 26 0 = some (0, 3) := by kernel_rfl
@[go_sem] theorem Try.fo26_1 : fo Try.prog 26 1 = some (1, 3) := by kernel_rfl
@[go_sem] theorem Try.fo26_2 : fo Try.prog 26 2 = some (2, 3) := by kernel_rfl
@[go_sem] theorem Try.fo26_3 : fo Try.prog 26 3 = some (3, 9) := by kernel_rfl
@[go_sem] theorem Try.fo26_4 : fo Try.prog 26 4 = some (4, 23) := by kernel_rfl
@[go_sem] theorem Try.fo26_5 : fo Try.prog 26 5 = some (9, 9) := by kernel_rfl
@[go_sem] theorem Try.fo26_6 : fo Try.prog 26 6 = some (10, 3) := by kernel_rfl
@[go_sem] theorem Try.fo26_7 : fo Try.prog 26 7 = some (11, 24) := by kernel_rfl
@[go_sem] theorem Try.fo26_8 : fo Try.prog 26 8 = some (12, 25) := by kernel_rfl
@[go_sem] theorem Try.fo26_9 : fo Try.prog 26 9 = some (13, 4) := by kernel_rfl
@[go_sem] theorem Try.fo26_10 : fo Try.prog 26 10 = some (14, 4) := by kernel_rfl
@[go_sem] theorem Try.zero26 : (Try.prog.info? 26).bind (·.zero) = some (.agg #[.int .i64 0, .int .i64 0, .int .i64 0, .string .empty, .int .i64 0, .int .i64 0, .int .i64 0, .int .i64 0, .int .i32 0, .string .empty, .int .i64 0, .slice none 0 0, .int .u32 0, .bool false, .bool false]) := by kernel_rfl
@[go_sem] theorem Try.ab26 (parts : List (Nat × AV)) : abuild Try.prog 26 parts = (fillA (fun i => [(0, 1), (1, 1), (2, 1), (3, 1), (4, 5), (9, 1), (10, 1), (11, 1), (12, 1), (13, 1), (14, 1)][i]?) [.p (.int .i64 0), .p (.int .i64 0), .p (.int .i64 0), .p (.string .empty), .p (.int .i64 0), .p (.int .i64 0), .p (.int .i64 0), .p (.int .i64 0), .p (.int .i32 0), .p (.string .empty), .p (.int .i64 0), .p (.slice none 0 0), .p (.int .u32 0), .p (.bool false), .p (.bool false)] parts).map fun l => (kn parts, .agg l) := abuild_of (by kernel_rfl)
@[go_sem] theorem Try.tk27 : tk Try.prog 27 = some (true, 15) := by kernel_rfl
@[go_sem] theorem Try.fo27_0 : fo Try.prog 27 0 = some (0, 3) := by kernel_rfl
@[go_sem] theorem Try.fo27_1 : fo Try.prog 27 1 = some (1, 3) := by kernel_rfl
@[go_sem] theorem Try.fo27_2 : fo Try.prog 27 2 = some (2, 3) := by kernel_rfl
@[go_sem] theorem Try.fo27_3 : fo Try.prog 27 3 = some (3, 9) := by kernel_rfl
@[go_sem] theorem Try.fo27_4 : fo Try.prog 27 4 = some (4, 23) := by kernel_rfl
@[go_sem] theorem Try.fo27_5 : fo Try.prog 27 5 = some (9, 9) := by kernel_rfl
@[go_sem] theorem Try.fo27_6 : fo Try.prog 27 6 = some (10, 3) := by kernel_rfl
@[go_sem] theorem Try.fo27_7 : fo Try.prog 27 7 = some (11, 24) := by kernel_rfl
@[go_sem] theorem Try.fo27_8 : fo Try.prog 27 8 = some (12, 25) := by kernel_rfl
@[go_sem] theorem Try.fo27_9 : fo Try.prog 27 9 = some (13, 4) := by kernel_rfl
@[go_sem] theorem Try.fo27_10 : fo Try.prog 27 10 = some (14, 4) := by kernel_rfl
@[go_sem] theorem Try.zero27 : (Try.prog.info? 27).bind (·.zero) = some (.agg #[.int .i64 0, .int .i64 0, .int .i64 0, .string .empty, .int .i64 0, .int .i64 0, .int .i64 0, .int .i64 0, .int .i32 0, .string .empty, .int .i64 0, .slice none 0 0, .int .u32 0, .bool false, .bool false]) := by kernel_rfl
@[go_sem] theorem Try.ab27 (parts : List (Nat × AV)) : abuild Try.prog 27 parts = (fillA (fun i => [(0, 1), (1, 1), (2, 1), (3, 1), (4, 5), (9, 1), (10, 1), (11, 1), (12, 1), (13, 1), (14, 1)][i]?) [.p (.int .i64 0), .p (.int .i64 0), .p (.int .i64 0), .p (.string .empty), .p (.int .i64 0), .p (.int .i64 0), .p (.int .i64 0), .p (.int .i64 0), .p (.int .i32 0), .p (.string .empty), .p (.int .i64 0), .p (.slice none 0 0), .p (.int .u32 0), .p (.bool false), .p (.bool false)] parts).map fun l => (kn parts, .agg l) := abuild_of (by kernel_rfl)
@[go_sem] theorem Try.tk28 : tk Try.prog 28 = some (false, 1) := by kernel_rfl
@[go_sem] theorem Try.zero28 : (Try.prog.info? 28).bind (·.zero) = some (.nilFunc) := by kernel_rfl
@[go_sem] theorem Try.tk29 : tk Try.prog 29 = some (false, 1) := by kernel_rfl
@[go_sem] theorem Try.zero29 : (Try.prog.info? 29).bind (·.zero) = some (.nilFunc) := by kernel_rfl
@[go_sem] theorem Try.tk30 : tk Try.prog 30 = some (false, 1) := by kernel_rfl
@[go_sem] theorem Try.tk31 : tk Try.prog 31 = some (false, 1) := by kernel_rfl
@[go_sem] theorem Try.zero31 : (Try.prog.info? 31).bind (·.zero) = some (.nilFunc) := by kernel_rfl
@[go_sem] theorem Try.tk32 : tk Try.prog 32 = some (false, 1) := by kernel_rfl
@[go_sem] theorem Try.zero32 : (Try.prog.info? 32).bind (·.zero) = some (.nilFunc) := by kernel_rfl
@[go_sem] theorem Try.tk33 : tk Try.prog 33 = some (false, 1) := by kernel_rfl
@[go_sem] theorem Try.zero33 : (Try.prog.info? 33).bind (·.zero) = some (.slice none 0 0) := by kernel_rfl
@[go_sem] theorem Try.te33 : te Try.prog 33 = some (3, 1) := by kernel_rfl
@[go_sem] theorem Try.tz33 : tz Try.prog 33 = some (3, 1, 8) := by kernel_rfl
@[go_sem] theorem Try.tk34 : tk Try.prog 34 = some (false, 1) := by kernel_rfl
@[go_sem] theorem Try.zero34 : (Try.prog.info? 34).bind (·.zero) = some (.nilFunc) := by kernel_rfl
@[go_sem] theorem Try.tk35 : tk Try.prog 35 = some (false, 1) := by kernel_rfl
@[go_sem] theorem Try.zero35 : (Try.prog.info? 35).bind (·.zero) = some (.nilFunc) := by kernel_rfl
@[go_sem] theorem Try.tk36 : tk Try.prog 36 = some (false, 1) := by kernel_rfl
@[go_sem] theorem Try.zero36 : (Try.prog.info? 36).bind (·.zero) = some (.nilFunc) := by kernel_rfl
@[go_sem] theorem Try.tk37 : tk Try.prog 37 = some (false, 1) := by kernel_rfl
@[go_sem] theorem Try.zero37 : (Try.prog.info? 37).bind (·.zero) = some (.nilFunc) := by kernel_rfl
@[go_sem] theorem Try.tk38 : tk Try.prog 38 = some (false, 1) := by kernel_rfl
@[go_sem] theorem Try.zero38 : (Try.prog.info? 38).bind (·.zero) = some (.nilFunc) := by kernel_rfl
@[go_sem] theorem Try.tk39 : tk Try.prog 39 = some (false, 1) := by kernel_rfl
@[go_sem] theorem Try.zero39 : (Try.prog.info? 39).bind (·.zero) = some (.nilFunc) := by kernel_rfl
@[go_sem] theorem Try.tk40 : tk Try.prog 40 = some (false, 1) := by kernel_rfl
@[go_sem] theorem Try.zero40 : (Try.prog.info? 40).bind (·.zero) = some (.nilFunc) := by kernel_rfl
@[go_sem] theorem Try.tk41 : tk Try.prog 41 = some (false, 1) := by kernel_rfl
@[go_sem] theorem Try.zero41 : (Try.prog.info? 41).bind (·.zero) = some (.nilFunc) := by kernel_rfl
@[go_sem] theorem Try.tk42 : tk Try.prog 42 = some (false, 1) := by kernel_rfl
@[go_sem] theorem Try.zero42 : (Try.prog.info? 42).bind (·.zero) = some (.nilFunc) := by kernel_rfl
@[go_sem] theorem Try.tk43 : tk Try.prog 43 = some (false, 1) := by kernel_rfl
@[go_sem] theorem Try.zero43 : (Try.prog.info? 43).bind (·.zero) = some (.nilFunc) := by kernel_rfl
@[go_sem] theorem Try.tk44 : tk Try.prog 44 = some (false, 1) := by kernel_rfl
@[go_sem] theorem Try.zero44 : (Try.prog.info? 44).bind (·.zero) = some (.nilFunc) := by kernel_rfl
@[go_sem] theorem Try.tk45 : tk Try.prog 45 = some (false, 1) := by kernel_rfl
@[go_sem] theorem Try.zero45 : (Try.prog.info? 45).bind (·.zero) = some (.nilFunc) := by kernel_rfl
@[go_sem] theorem Try.tk46 : tk Try.prog 46 = some (false, 1) := by kernel_rfl
@[go_sem] theorem Try.zero46 : (Try.prog.info? 46).bind (·.zero) = some (.nilFunc) := by kernel_rfl
@[go_sem] theorem Try.tk47 : tk Try.prog 47 = some (true, 4) := by kernel_rfl
@[go_sem] theorem Try.fo47_0 : fo Try.prog 47 0 = some (0, 17) := by kernel_rfl
@[go_sem] theorem Try.fo47_1 : fo Try.prog 47 1 = some (1, 17) := by kernel_rfl
@[go_sem] theorem Try.fo47_2 : fo Try.prog 47 2 = some (2, 17) := by kernel_rfl
@[go_sem] theorem Try.fo47_3 : fo Try.prog 47 3 = some (3, 9) := by kernel_rfl
@[go_sem] theorem Try.zero47 : (Try.prog.info? 47).bind (·.zero) = some (.agg #[.pointer none, .pointer none, .pointer none, .string .empty]) := by kernel_rfl
@[go_sem] theorem Try.ab47 (parts : List (Nat × AV)) : abuild Try.prog 47 parts = (fillA (fun i => [(0, 1), (1, 1), (2, 1), (3, 1)][i]?) [.p (.pointer none), .p (.pointer none), .p (.pointer none), .p (.string .empty)] parts).map fun l => (kn parts, .agg l) := abuild_of (by kernel_rfl)
@[go_sem] theorem Try.tk48 : tk Try.prog 48 = some (true, 4) := by kernel_rfl
@[go_sem] theorem Try.fo48_0 : fo Try.prog 48 0 = some (0, 17) := by kernel_rfl
@[go_sem] theorem Try.fo48_1 : fo Try.prog 48 1 = some (1, 17) := by kernel_rfl
@[go_sem] theorem Try.fo48_2 : fo Try.prog 48 2 = some (2, 17) := by kernel_rfl
@[go_sem] theorem Try.fo48_3 : fo Try.prog 48 3 = some (3, 9) := by kernel_rfl
@[go_sem] theorem Try.zero48 : (Try.prog.info? 48).bind (·.zero) = some (.agg #[.pointer none, .pointer none, .pointer none, .string .empty]) := by kernel_rfl
@[go_sem] theorem Try.ab48 (parts : List (Nat × AV)) : abuild Try.prog 48 parts = (fillA (fun i => [(0, 1), (1, 1), (2, 1), (3, 1)][i]?) [.p (.pointer none), .p (.pointer none), .p (.pointer none), .p (.string .empty)] parts).map fun l => (kn parts, .agg l) := abuild_of (by kernel_rfl)
@[go_sem] theorem Try.tk49 : tk Try.prog 49 = some (true, 0) := by kernel_rfl
@[go_sem] theorem Try.zero49 : (Try.prog.info? 49).bind (·.zero) = some (.agg #[]) := by kernel_rfl
@[go_sem] theorem Try.ta49 : ta Try.prog 49 = some (0, 16, 1) := by kernel_rfl
@[go_sem] theorem Try.tk50 : tk Try.prog 50 = some (true, 0) := by kernel_rfl
@[go_sem] theorem Try.fo50_0 : fo Try.prog 50 0 = some (0, 49) := by kernel_rfl
@[go_sem] theorem Try.zero50 : (Try.prog.info? 50).bind (·.zero) = some (.agg #[]) := by kernel_rfl
@[go_sem] theorem Try.ab50 (parts : List (Nat × AV)) : abuild Try.prog 50 parts = (fillA (fun i => [(0, 0)][i]?) [] parts).map fun l => (kn parts, .agg l) := abuild_of (by kernel_rfl)
@[go_sem] theorem Try.tk51 : tk Try.prog 51 = some (true, 0) := by kernel_rfl
@[go_sem] theorem Try.fo51_0 : fo Try.prog 51 0 = some (0, 49) := by kernel_rfl
@[go_sem] theorem Try.zero51 : (Try.prog.info? 51).bind (·.zero) = some (.agg #[]) := by kernel_rfl
@[go_sem] theorem Try.ab51 (parts : List (Nat × AV)) : abuild Try.prog 51 parts = (fillA (fun i => [(0, 0)][i]?) [] parts).map fun l => (kn parts, .agg l) := abuild_of (by kernel_rfl)
@[go_sem] theorem Try.tk52 : tk Try.prog 52 = some (false, 1) := by kernel_rfl
@[go_sem] theorem Try.zero52 : (Try.prog.info? 52).bind (·.zero) = some (.nilFunc) := by kernel_rfl
@[go_sem] theorem Try.tk53 : tk Try.prog 53 = some (false, 1) := by kernel_rfl
@[go_sem] theorem Try.zero53 : (Try.prog.info? 53).bind (·.zero) = some (.int .u8 0) := by kernel_rfl
@[go_sem] theorem Try.tk54 : tk Try.prog 54 = some (false, 1) := by kernel_rfl
@[go_sem] theorem Try.zero54 : (Try.prog.info? 54).bind (·.zero) = some (.int .u8 0) := by kernel_rfl
@[go_sem] theorem Try.tk55 : tk Try.prog 55 = some (false, 1) := by kernel_rfl
@[go_sem] theorem Try.zero55 : (Try.prog.info? 55).bind (·.zero) = some (.nilFunc) := by kernel_rfl
@[go_sem] theorem Try.tk56 : tk Try.prog 56 = some (false, 1) := by kernel_rfl
@[go_sem] theorem Try.zero56 : (Try.prog.info? 56).bind (·.zero) = some (.pointer none) := by kernel_rfl
@[go_sem] theorem Try.tk57 : tk Try.prog 57 = some (false, 1) := by kernel_rfl
@[go_sem] theorem Try.zero57 : (Try.prog.info? 57).bind (·.zero) = some (.int .i32 0) := by kernel_rfl
@[go_sem] theorem Try.tk58 : tk Try.prog 58 = some (false, 1) := by kernel_rfl
@[go_sem] theorem Try.zero58 : (Try.prog.info? 58).bind (·.zero) = some (.int .i32 0) := by kernel_rfl
@[go_sem] theorem Try.tk59 : tk Try.prog 59 = some (true, 11) := by kernel_rfl
@[go_sem] theorem Try.fo59_0 : fo Try.prog 59 0 = some (0, 12) := by kernel_rfl
@[go_sem] theorem Try.fo59_1 : fo Try.prog 59 1 = some (1, 12) := by kernel_rfl
@[go_sem] theorem Try.fo59_2 : fo Try.prog 59 2 = some (2, 25) := by kernel_rfl
@[go_sem] theorem Try.fo59_3 : fo Try.prog 59 3 = some (3, 53) := by kernel_rfl
@[go_sem] theorem Try.fo59_4 : fo Try.prog 59 4 = some (4, 5) := by kernel_rfl
@[go_sem] theorem Try.fo59_5 : fo Try.prog 59 5 = some (5, 5) := by kernel_rfl
@[go_sem] theorem Try.fo59_6 : fo Try.prog 59 6 = some (6, 54) := by kernel_rfl
@[go_sem] theorem Try.fo59_7 : fo Try.prog 59 7 = some (7, 55) := by kernel_rfl
@[go_sem] theorem Try.fo59_8 : fo Try.prog 59 8 = some (8, 56) := by kernel_rfl
@[go_sem] theorem Try.fo59_9 : fo Try.prog 59 9 = some (9, 57) := by kernel_rfl
@[go_sem] theorem Try.fo59_10 : fo Try.prog 59 10 = some (10, 58) := by kernel_rfl
@[go_sem] theorem Try.zero59 : (Try.prog.info? 59).bind (·.zero) = some (.agg #[.int .u64 0, .int .u64 0, .int .u32 0, .int .u8 0, .int .u8 0, .int .u8 0, .int .u8 0, .nilFunc, .pointer none, .int .i32 0, .int .i32 0]) := by kernel_rfl
@[go_sem] theorem Try.ab59 (parts : List (Nat × AV)) : abuild Try.prog 59 parts = (fillA (fun i => [(0, 1), (1, 1), (2, 1), (3, 1), (4, 1), (5, 1), (6, 1), (7, 1), (8, 1), (9, 1), (10, 1)][i]?) [.p (.int .u64 0), .p (.int .u64 0), .p (.int .u32 0), .p (.int .u8 0), .p (.int .u8 0), .p (.int .u8 0), .p (.int .u8 0), .p (.nilFunc), .p (.pointer none), .p (.int .i32 0), .p (.int .i32 0)] parts).map fun l => (kn parts, .agg l) := abuild_of (by kernel_rfl)
@[go_sem] theorem Try.tk60 : tk Try.prog 60 = some (true, 11) := by kernel_rfl
@[go_sem] theorem Try.fo60_0 : fo Try.prog 60 0 = some (0, 12) := by kernel_rfl
@[go_sem] theorem Try.fo60_1 : fo Try.prog 60 1 = some (1, 12) := by kernel_rfl
@[go_sem] theorem Try.fo60_2 : fo Try.prog 60 2 = some (2, 25) := by kernel_rfl
@[go_sem] theorem Try.fo60_3 : fo Try.prog 60 3 = some (3, 53) := by kernel_rfl
@[go_sem] theorem Try.fo60_4 : fo Try.prog 60 4 = some (4, 5) := by kernel_rfl
@[go_sem] theorem Try.fo60_5 : fo Try.prog 60 5 = some (5, 5) := by kernel_rfl
@[go_sem] theorem Try.fo60_6 : fo Try.prog 60 6 = some (6, 54) := by kernel_rfl
@[go_sem] theorem Try.fo60_7 : fo Try.prog 60 7 = some (7, 55) := by kernel_rfl
@[go_sem] theorem Try.fo60_8 : fo Try.prog 60 8 = some (8, 56) := by kernel_rfl
@[go_sem] theorem Try.fo60_9 : fo Try.prog 60 9 = some (9, 57) := by kernel_rfl
@[go_sem] theorem Try.fo60_10 : fo Try.prog 60 10 = some (10, 58) := by kernel_rfl
@[go_sem] theorem Try.zero60 : (Try.prog.info? 60).bind (·.zero) = some (.agg #[.int .u64 0, .int .u64 0, .int .u32 0, .int .u8 0, .int .u8 0, .int .u8 0, .int .u8 0, .nilFunc, .pointer none, .int .i32 0, .int .i32 0]) := by kernel_rfl
@[go_sem] theorem Try.ab60 (parts : List (Nat × AV)) : abuild Try.prog 60 parts = (fillA (fun i => [(0, 1), (1, 1), (2, 1), (3, 1), (4, 1), (5, 1), (6, 1), (7, 1), (8, 1), (9, 1), (10, 1)][i]?) [.p (.int .u64 0), .p (.int .u64 0), .p (.int .u32 0), .p (.int .u8 0), .p (.int .u8 0), .p (.int .u8 0), .p (.int .u8 0), .p (.nilFunc), .p (.pointer none), .p (.int .i32 0), .p (.int .i32 0)] parts).map fun l => (kn parts, .agg l) := abuild_of (by kernel_rfl)
@[go_sem] theorem Try.tk61 : tk Try.prog 61 = some (true, 5) := by kernel_rfl
@[go_sem] theorem Try.fo61_0 : fo Try.prog 61 0 = some (0, 3) := by kernel_rfl
@[go_sem] theorem Try.fo61_1 : fo Try.prog 61 1 = some (1, 3) := by kernel_rfl
@[go_sem] theorem Try.fo61_2 : fo Try.prog 61 2 = some (2, 3) := by kernel_rfl
@[go_sem] theorem Try.fo61_3 : fo Try.prog 61 3 = some (3, 25) := by kernel_rfl
@[go_sem] theorem Try.fo61_4 : fo Try.prog 61 4 = some (4, 9) := by kernel_rfl
@[go_sem] theorem Try.zero61 : (Try.prog.info? 61).bind (·.zero) = some (.agg #[.int .i64 0, .int .i64 0, .int .i64 0, .int .u32 0, .string .empty]) := by kernel_rfl
@[go_sem] theorem Try.ab61 (parts : List (Nat × AV)) : abuild Try.prog 61 parts = (fillA (fun i => [(0, 1), (1, 1), (2, 1), (3, 1), (4, 1)][i]?) [.p (.int .i64 0), .p (.int .i64 0), .p (.int .i64 0), .p (.int .u32 0), .p (.string .empty)] parts).map fun l => (kn parts, .agg l) := abuild_of (by kernel_rfl)
@[go_sem] theorem Try.tk62 : tk Try.prog 62 = some (true, 5) := by kernel_rfl
@[go_sem] theorem Try.fo62_0 : fo Try.prog 62 0 = some (0, 3) := by kernel_rfl
@[go_sem] theorem Try.fo62_1 : fo Try.prog 62 1 = some (1, 3) := by kernel_rfl
@[go_sem] theorem Try.fo62_2 : fo Try.prog 62 2 = some (2, 3) := by kernel_rfl
@[go_sem] theorem Try.fo62_3 : fo Try.prog 62 3 = some (3, 25) := by kernel_rfl
@[go_sem] theorem Try.fo62_4 : fo Try.prog 62 4 = some (4, 9) := by kernel_rfl
@[go_sem] theorem Try.zero62 : (Try.prog.info? 62).bind (·.zero) = some (.agg #[.int .i64 0, .int .i64 0, .int .i64 0, .int .u32 0, .string .empty]) := by kernel_rfl
@[go_sem] theorem Try.ab62 (parts : List (Nat × AV)) : abuild Try.prog 62 parts = (fillA (fun i => [(0, 1), (1, 1), (2, 1), (3, 1), (4, 1)][i]?) [.p (.int .i64 0), .p (.int .i64 0), .p (.int .i64 0), .p (.int .u32 0), .p (.string .empty)] parts).map fun l => (kn parts, .agg l) := abuild_of (by kernel_rfl)
@[go_sem] theorem Try.tk63 : tk Try.prog 63 = some (false, 1) := by kernel_rfl
@[go_sem] theorem Try.zero63 : (Try.prog.info? 63).bind (·.zero) = some (.pointer none) := by kernel_rfl
attribute [go_sem] Try.underlying0 Try.underlying1 Try.underlying2 Try.underlying3 Try.underlying4 Try.underlying5 Try.underlying6 Try.underlying7 Try.underlying8 Try.underlying9 Try.underlying10 Try.underlying11 Try.underlying12 Try.underlying13 Try.underlying14 Try.underlying15 Try.underlying16 Try.underlying17 Try.underlying18 Try.underlying19 Try.underlying20 Try.underlying21 Try.underlying22 Try.underlying23 Try.underlying24 Try.underlying25 Try.underlying26 Try.underlying27 Try.underlying28 Try.underlying29 Try.underlying30 Try.underlying31 Try.underlying32 Try.underlying33 Try.underlying34 Try.underlying35 Try.underlying36 Try.underlying37 Try.underlying38 Try.underlying39 Try.underlying40 Try.underlying41 Try.underlying42 Try.underlying43 Try.underlying44 Try.underlying45 Try.underlying46 Try.underlying47 Try.underlying48 Try.underlying49 Try.underlying50 Try.underlying51 Try.underlying52 Try.underlying53 Try.underlying54 Try.underlying55 Try.underlying56 Try.underlying57 Try.underlying58 Try.underlying59 Try.underlying60 Try.underlying61 Try.underlying62 Try.underlying63
attribute [go_sem] Try.ntmps0 Try.results0 Try.ntmps1 Try.results1 Try.ntmps2 Try.results2 Try.ntmps3 Try.results3 Try.ntmps4 Try.results4 Try.ntmps5 Try.results5 Try.ntmps6 Try.results6 Try.ntmps7 Try.results7 Try.ntmps8 Try.results8 Try.ntmps9 Try.results9 Try.ntmps10 Try.results10 Try.ntmps11 Try.results11 Try.ntmps12 Try.results12 Try.ntmps13 Try.results13 Try.ntmps14 Try.results14 Try.ntmps15 Try.results15 Try.ntmps16 Try.results16 Try.ntmps17 Try.results17 Try.ntmps18 Try.results18 Try.ntmps19 Try.results19 Try.ntmps20 Try.results20 Try.ntmps21 Try.results21 Try.ntmps22 Try.results22 Try.ntmps23 Try.results23 Try.ntmps24 Try.results24 Try.ntmps25 Try.results25 Try.ntmps26 Try.results26 Try.ntmps27 Try.results27 Try.ntmps28 Try.results28 Try.ntmps29 Try.results29 Try.ntmps30 Try.results30 Try.ntmps31 Try.results31 Try.ntmps32 Try.results32 Try.ntmps33 Try.results33 Try.ntmps34 Try.results34 Try.ntmps35 Try.results35 Try.ntmps36 Try.results36 Try.ntmps37 Try.results37 Try.ntmps38 Try.results38 Try.ntmps39 Try.results39
end Go.Proofs
