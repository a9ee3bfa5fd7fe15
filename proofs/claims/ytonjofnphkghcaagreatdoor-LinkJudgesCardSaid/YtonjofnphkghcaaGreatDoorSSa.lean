/- Contracts of this program's functions over values, joined texts. Conditions: none. -/
import Derived.Test.YtonjofnphkghcaaGreatDoorVVc
import Derived.Test.YtonjofnphkghcaaGreatDoorProg
set_option linter.unusedVariables false
set_option linter.unusedSimpArgs false
/- The types of this program, as the value-level words want them. Conditions: none (facts about the given program, by the kernel's own reckoning). -/
namespace Go.VL

theorem ty0 : tyOf Go.Proofs.Tryz.prog 0 = { known := true, bytes := 0, zero := [Value.tuple ([]).toArray] } := by kernel_rfl
theorem ty1 : tyOf Go.Proofs.Tryz.prog 1 = { known := true, zero := [Value.nilFunc], d := TD.func } := by kernel_rfl
theorem ty2 : tyOf Go.Proofs.Tryz.prog 2 = { known := true, zero := [Value.int IntKind.i64 (0)], d := TD.int } := by kernel_rfl
theorem ty3 : tyOf Go.Proofs.Tryz.prog 3 = { known := true, zero := [Value.int IntKind.i64 (0)], d := TD.int } := by kernel_rfl
theorem ty4 : tyOf Go.Proofs.Tryz.prog 4 = { known := true, bytes := 1, zero := [Value.bool false], d := TD.bool } := by kernel_rfl
theorem ty5 : tyOf Go.Proofs.Tryz.prog 5 = { known := true, bytes := 1, zero := [Value.int IntKind.u8 (0)], d := TD.int } := by kernel_rfl
theorem ty6 : tyOf Go.Proofs.Tryz.prog 6 = { known := true, bytes := 1, zero := [Value.int IntKind.u8 (0)], d := TD.int } := by kernel_rfl
theorem ty7 : tyOf Go.Proofs.Tryz.prog 7 = { known := true, agg := true, size := 4, bytes := 24, zero := [Value.int IntKind.i64 (0), Value.int IntKind.i64 (0), Value.bool false, Value.int IntKind.u8 (0)], d := TD.struct [(0, 2), (1, 3), (2, 4), (3, 6)], eqs := true, eqk := [PK.int IntKind.i64, PK.int IntKind.i64, PK.bool, PK.int IntKind.u8] } := by kernel_rfl
theorem ty8 : tyOf Go.Proofs.Tryz.prog 8 = { known := true, agg := true, size := 4, bytes := 24, zero := [Value.int IntKind.i64 (0), Value.int IntKind.i64 (0), Value.bool false, Value.int IntKind.u8 (0)], d := TD.struct [(0, 2), (1, 3), (2, 4), (3, 6)], eqs := true, eqk := [PK.int IntKind.i64, PK.int IntKind.i64, PK.bool, PK.int IntKind.u8] } := by kernel_rfl
theorem ty9 : tyOf Go.Proofs.Tryz.prog 9 = { known := true, bytes := 16, zero := [Value.string ⟨#[]⟩], d := TD.str } := by kernel_rfl
theorem ty10 : tyOf Go.Proofs.Tryz.prog 10 = { known := true, bytes := 16, zero := [Value.string ⟨#[]⟩], d := TD.str } := by kernel_rfl
theorem ty11 : tyOf Go.Proofs.Tryz.prog 11 = { known := true, bytes := 16, zero := [Value.string ⟨#[]⟩], d := TD.str } := by kernel_rfl
theorem ty12 : tyOf Go.Proofs.Tryz.prog 12 = { known := true, zero := [Value.int IntKind.u64 (0)], d := TD.int } := by kernel_rfl
theorem ty13 : tyOf Go.Proofs.Tryz.prog 13 = { known := true, agg := true, size := 2, bytes := 24, zero := [Value.string ⟨#[]⟩, Value.int IntKind.u64 (0)], d := TD.struct [(0, 9), (1, 12)] } := by kernel_rfl
theorem ty14 : tyOf Go.Proofs.Tryz.prog 14 = { known := true, agg := true, size := 2, bytes := 24, zero := [Value.string ⟨#[]⟩, Value.int IntKind.u64 (0)], d := TD.struct [(0, 9), (1, 12)] } := by kernel_rfl
theorem ty15 : tyOf Go.Proofs.Tryz.prog 15 = { known := true, zero := [Value.pointer none], d := TD.ptr } := by kernel_rfl
theorem ty16 : tyOf Go.Proofs.Tryz.prog 16 = { known := true, zero := [Value.pointer none], d := TD.ptr } := by kernel_rfl
theorem ty17 : tyOf Go.Proofs.Tryz.prog 17 = { known := true, zero := [Value.pointer none], d := TD.ptr } := by kernel_rfl
theorem ty18 : tyOf Go.Proofs.Tryz.prog 18 = { known := true, agg := true, zero := [Value.pointer none], d := TD.struct [(0, 17)] } := by kernel_rfl
theorem ty19 : tyOf Go.Proofs.Tryz.prog 19 = { known := true, agg := true, zero := [Value.pointer none], d := TD.struct [(0, 17)] } := by kernel_rfl
theorem ty20 : tyOf Go.Proofs.Tryz.prog 20 = { known := true, bytes := 16, zero := [Value.nilIface], d := TD.iface } := by kernel_rfl
theorem ty21 : tyOf Go.Proofs.Tryz.prog 21 = { known := true, bytes := 4, zero := [Value.int IntKind.i32 (0)], d := TD.int } := by kernel_rfl
theorem ty22 : tyOf Go.Proofs.Tryz.prog 22 = { known := true, bytes := 24, zero := [Value.slice none 0 0], d := TD.slice 5 } := by kernel_rfl
theorem ty23 : tyOf Go.Proofs.Tryz.prog 23 = { known := true, agg := true, size := 2, bytes := 32, zero := [Value.slice none 0 0, Value.bool false], d := TD.struct [(0, 22), (1, 4)] } := by kernel_rfl
theorem ty24 : tyOf Go.Proofs.Tryz.prog 24 = { known := true, agg := true, size := 2, bytes := 32, zero := [Value.slice none 0 0, Value.bool false], d := TD.struct [(0, 22), (1, 4)] } := by kernel_rfl
theorem ty25 : tyOf Go.Proofs.Tryz.prog 25 = { known := true, agg := true, size := 4, bytes := 32, zero := [Value.int IntKind.i64 (0), Value.int IntKind.i64 (0), Value.int IntKind.i64 (0), Value.int IntKind.u8 (0)], d := TD.struct [(0, 3), (1, 3), (2, 3), (3, 5)], eqs := true, eqk := [PK.int IntKind.i64, PK.int IntKind.i64, PK.int IntKind.i64, PK.int IntKind.u8] } := by kernel_rfl
theorem ty26 : tyOf Go.Proofs.Tryz.prog 26 = { known := true, agg := true, size := 4, bytes := 32, zero := [Value.int IntKind.i64 (0), Value.int IntKind.i64 (0), Value.int IntKind.i64 (0), Value.int IntKind.u8 (0)], d := TD.struct [(0, 3), (1, 3), (2, 3), (3, 5)], eqs := true, eqk := [PK.int IntKind.i64, PK.int IntKind.i64, PK.int IntKind.i64, PK.int IntKind.u8] } := by kernel_rfl
theorem ty27 : tyOf Go.Proofs.Tryz.prog 27 = { known := true, bytes := 4, zero := [Value.int IntKind.u32 (0)], d := TD.int } := by kernel_rfl
theorem ty28 : tyOf Go.Proofs.Tryz.prog 28 = { known := true, agg := true, size := 5, bytes := 20, zero := [Value.bool false, Value.int IntKind.u32 (0), Value.int IntKind.u32 (0), Value.int IntKind.u32 (0), Value.int IntKind.u32 (0)], d := TD.struct [(0, 4), (1, 27), (2, 27), (3, 27), (4, 27)], eqs := true, eqk := [PK.bool, PK.int IntKind.u32, PK.int IntKind.u32, PK.int IntKind.u32, PK.int IntKind.u32] } := by kernel_rfl
theorem ty29 : tyOf Go.Proofs.Tryz.prog 29 = { known := true, agg := true, size := 5, bytes := 20, zero := [Value.bool false, Value.int IntKind.u32 (0), Value.int IntKind.u32 (0), Value.int IntKind.u32 (0), Value.int IntKind.u32 (0)], d := TD.struct [(0, 4), (1, 27), (2, 27), (3, 27), (4, 27)], eqs := true, eqk := [PK.bool, PK.int IntKind.u32, PK.int IntKind.u32, PK.int IntKind.u32, PK.int IntKind.u32] } := by kernel_rfl
theorem ty30 : tyOf Go.Proofs.Tryz.prog 30 = { known := true, bytes := 24, zero := [Value.slice none 0 0], d := TD.slice 133 } := by kernel_rfl
theorem ty31 : tyOf Go.Proofs.Tryz.prog 31 = { known := true, agg := true, size := 12, bytes := 112, zero := [Value.int IntKind.i64 (0), Value.int IntKind.i64 (0), Value.int IntKind.i64 (0), Value.int IntKind.u8 (0), Value.bool false, Value.int IntKind.u32 (0), Value.int IntKind.u32 (0), Value.int IntKind.u32 (0), Value.int IntKind.u32 (0), Value.slice none 0 0, Value.int IntKind.i64 (0), Value.slice none 0 0], d := TD.struct [(0, 26), (4, 29), (9, 30), (10, 3), (11, 30)] } := by kernel_rfl
theorem ty32 : tyOf Go.Proofs.Tryz.prog 32 = { known := true, agg := true, size := 12, bytes := 112, zero := [Value.int IntKind.i64 (0), Value.int IntKind.i64 (0), Value.int IntKind.i64 (0), Value.int IntKind.u8 (0), Value.bool false, Value.int IntKind.u32 (0), Value.int IntKind.u32 (0), Value.int IntKind.u32 (0), Value.int IntKind.u32 (0), Value.slice none 0 0, Value.int IntKind.i64 (0), Value.slice none 0 0], d := TD.struct [(0, 26), (4, 29), (9, 30), (10, 3), (11, 30)] } := by kernel_rfl
theorem ty33 : tyOf Go.Proofs.Tryz.prog 33 = { known := true, agg := true, size := 16, bytes := 16, zero := [Value.int IntKind.u8 (0), Value.int IntKind.u8 (0), Value.int IntKind.u8 (0), Value.int IntKind.u8 (0), Value.int IntKind.u8 (0), Value.int IntKind.u8 (0), Value.int IntKind.u8 (0), Value.int IntKind.u8 (0), Value.int IntKind.u8 (0), Value.int IntKind.u8 (0), Value.int IntKind.u8 (0), Value.int IntKind.u8 (0), Value.int IntKind.u8 (0), Value.int IntKind.u8 (0), Value.int IntKind.u8 (0), Value.int IntKind.u8 (0)], d := TD.array 16 5, eqs := true, eqk := [PK.int IntKind.u8, PK.int IntKind.u8, PK.int IntKind.u8, PK.int IntKind.u8, PK.int IntKind.u8, PK.int IntKind.u8, PK.int IntKind.u8, PK.int IntKind.u8, PK.int IntKind.u8, PK.int IntKind.u8, PK.int IntKind.u8, PK.int IntKind.u8, PK.int IntKind.u8, PK.int IntKind.u8, PK.int IntKind.u8, PK.int IntKind.u8] } := by kernel_rfl
theorem ty34 : tyOf Go.Proofs.Tryz.prog 34 = { known := true, agg := true, size := 37, bytes := 80, zero := [Value.int IntKind.i64 (0), Value.int IntKind.i64 (0), Value.int IntKind.i64 (0), Value.int IntKind.u8 (0), Value.int IntKind.u8 (0), Value.int IntKind.u8 (0), Value.int IntKind.u8 (0), Value.int IntKind.u8 (0), Value.int IntKind.u8 (0), Value.int IntKind.u8 (0), Value.int IntKind.u8 (0), Value.int IntKind.u8 (0), Value.int IntKind.u8 (0), Value.int IntKind.u8 (0), Value.int IntKind.u8 (0), Value.int IntKind.u8 (0), Value.int IntKind.u8 (0), Value.int IntKind.u8 (0), Value.int IntKind.u8 (0), Value.int IntKind.u8 (0), Value.string ⟨#[]⟩, Value.int IntKind.u8 (0), Value.int IntKind.u8 (0), Value.int IntKind.u8 (0), Value.int IntKind.u8 (0), Value.int IntKind.u8 (0), Value.int IntKind.u8 (0), Value.int IntKind.u8 (0), Value.int IntKind.u8 (0), Value.int IntKind.u8 (0), Value.int IntKind.u8 (0), Value.int IntKind.u8 (0), Value.int IntKind.u8 (0), Value.int IntKind.u8 (0), Value.int IntKind.u8 (0), Value.int IntKind.u8 (0), Value.int IntKind.u8 (0)], d := TD.struct [(0, 3), (1, 3), (2, 3), (3, 5), (4, 33), (20, 9), (21, 33)] } := by kernel_rfl
theorem ty35 : tyOf Go.Proofs.Tryz.prog 35 = { known := true, agg := true, size := 37, bytes := 80, zero := [Value.int IntKind.i64 (0), Value.int IntKind.i64 (0), Value.int IntKind.i64 (0), Value.int IntKind.u8 (0), Value.int IntKind.u8 (0), Value.int IntKind.u8 (0), Value.int IntKind.u8 (0), Value.int IntKind.u8 (0), Value.int IntKind.u8 (0), Value.int IntKind.u8 (0), Value.int IntKind.u8 (0), Value.int IntKind.u8 (0), Value.int IntKind.u8 (0), Value.int IntKind.u8 (0), Value.int IntKind.u8 (0), Value.int IntKind.u8 (0), Value.int IntKind.u8 (0), Value.int IntKind.u8 (0), Value.int IntKind.u8 (0), Value.int IntKind.u8 (0), Value.string ⟨#[]⟩, Value.int IntKind.u8 (0), Value.int IntKind.u8 (0), Value.int IntKind.u8 (0), Value.int IntKind.u8 (0), Value.int IntKind.u8 (0), Value.int IntKind.u8 (0), Value.int IntKind.u8 (0), Value.int IntKind.u8 (0), Value.int IntKind.u8 (0), Value.int IntKind.u8 (0), Value.int IntKind.u8 (0), Value.int IntKind.u8 (0), Value.int IntKind.u8 (0), Value.int IntKind.u8 (0), Value.int IntKind.u8 (0), Value.int IntKind.u8 (0)], d := TD.struct [(0, 3), (1, 3), (2, 3), (3, 5), (4, 33), (20, 9), (21, 33)] } := by kernel_rfl
theorem ty36 : tyOf Go.Proofs.Tryz.prog 36 = { known := true, zero := [Value.int IntKind.u64 (0)], d := TD.int } := by kernel_rfl
theorem ty37 : tyOf Go.Proofs.Tryz.prog 37 = { known := true, agg := true, size := 3, bytes := 24, zero := [Value.int IntKind.u64 (0), Value.int IntKind.u64 (0), Value.int IntKind.i64 (0)], d := TD.struct [(0, 36), (1, 36), (2, 3)], eqs := true, eqk := [PK.int IntKind.u64, PK.int IntKind.u64, PK.int IntKind.i64] } := by kernel_rfl
theorem ty38 : tyOf Go.Proofs.Tryz.prog 38 = { known := true, agg := true, size := 3, bytes := 24, zero := [Value.int IntKind.u64 (0), Value.int IntKind.u64 (0), Value.int IntKind.i64 (0)], d := TD.struct [(0, 36), (1, 36), (2, 3)], eqs := true, eqk := [PK.int IntKind.u64, PK.int IntKind.u64, PK.int IntKind.i64] } := by kernel_rfl
theorem ty39 : tyOf Go.Proofs.Tryz.prog 39 = { known := true, agg := true, size := 69, bytes := 384, zero := [Value.int IntKind.i64 (0), Value.slice none 0 0, Value.bool false, Value.int IntKind.i64 (0), Value.int IntKind.i64 (0), Value.int IntKind.i64 (0), Value.int IntKind.u8 (0), Value.bool false, Value.int IntKind.u32 (0), Value.int IntKind.u32 (0), Value.int IntKind.u32 (0), Value.int IntKind.u32 (0), Value.slice none 0 0, Value.int IntKind.i64 (0), Value.slice none 0 0, Value.int IntKind.i64 (0), Value.int IntKind.i64 (0), Value.int IntKind.i64 (0), Value.int IntKind.u8 (0), Value.bool false, Value.int IntKind.u32 (0), Value.int IntKind.u32 (0), Value.int IntKind.u32 (0), Value.int IntKind.u32 (0), Value.slice none 0 0, Value.int IntKind.i64 (0), Value.slice none 0 0, Value.int IntKind.i64 (0), Value.int IntKind.i64 (0), Value.int IntKind.i64 (0), Value.int IntKind.u8 (0), Value.int IntKind.u8 (0), Value.int IntKind.u8 (0), Value.int IntKind.u8 (0), Value.int IntKind.u8 (0), Value.int IntKind.u8 (0), Value.int IntKind.u8 (0), Value.int IntKind.u8 (0), Value.int IntKind.u8 (0), Value.int IntKind.u8 (0), Value.int IntKind.u8 (0), Value.int IntKind.u8 (0), Value.int IntKind.u8 (0), Value.int IntKind.u8 (0), Value.int IntKind.u8 (0), Value.int IntKind.u8 (0), Value.int IntKind.u8 (0), Value.string ⟨#[]⟩, Value.int IntKind.u8 (0), Value.int IntKind.u8 (0), Value.int IntKind.u8 (0), Value.int IntKind.u8 (0), Value.int IntKind.u8 (0), Value.int IntKind.u8 (0), Value.int IntKind.u8 (0), Value.int IntKind.u8 (0), Value.int IntKind.u8 (0), Value.int IntKind.u8 (0), Value.int IntKind.u8 (0), Value.int IntKind.u8 (0), Value.int IntKind.u8 (0), Value.int IntKind.u8 (0), Value.int IntKind.u8 (0), Value.int IntKind.u8 (0), Value.int IntKind.u64 (0), Value.int IntKind.u64 (0), Value.int IntKind.i64 (0), Value.int IntKind.i64 (0), Value.int IntKind.u32 (0)], d := TD.struct [(0, 3), (1, 24), (3, 32), (15, 32), (27, 35), (64, 38), (67, 3), (68, 27)] } := by kernel_rfl
theorem ty40 : tyOf Go.Proofs.Tryz.prog 40 = { known := true, agg := true, size := 69, bytes := 384, zero := [Value.int IntKind.i64 (0), Value.slice none 0 0, Value.bool false, Value.int IntKind.i64 (0), Value.int IntKind.i64 (0), Value.int IntKind.i64 (0), Value.int IntKind.u8 (0), Value.bool false, Value.int IntKind.u32 (0), Value.int IntKind.u32 (0), Value.int IntKind.u32 (0), Value.int IntKind.u32 (0), Value.slice none 0 0, Value.int IntKind.i64 (0), Value.slice none 0 0, Value.int IntKind.i64 (0), Value.int IntKind.i64 (0), Value.int IntKind.i64 (0), Value.int IntKind.u8 (0), Value.bool false, Value.int IntKind.u32 (0), Value.int IntKind.u32 (0), Value.int IntKind.u32 (0), Value.int IntKind.u32 (0), Value.slice none 0 0, Value.int IntKind.i64 (0), Value.slice none 0 0, Value.int IntKind.i64 (0), Value.int IntKind.i64 (0), Value.int IntKind.i64 (0), Value.int IntKind.u8 (0), Value.int IntKind.u8 (0), Value.int IntKind.u8 (0), Value.int IntKind.u8 (0), Value.int IntKind.u8 (0), Value.int IntKind.u8 (0), Value.int IntKind.u8 (0), Value.int IntKind.u8 (0), Value.int IntKind.u8 (0), Value.int IntKind.u8 (0), Value.int IntKind.u8 (0), Value.int IntKind.u8 (0), Value.int IntKind.u8 (0), Value.int IntKind.u8 (0), Value.int IntKind.u8 (0), Value.int IntKind.u8 (0), Value.int IntKind.u8 (0), Value.string ⟨#[]⟩, Value.int IntKind.u8 (0), Value.int IntKind.u8 (0), Value.int IntKind.u8 (0), Value.int IntKind.u8 (0), Value.int IntKind.u8 (0), Value.int IntKind.u8 (0), Value.int IntKind.u8 (0), Value.int IntKind.u8 (0), Value.int IntKind.u8 (0), Value.int IntKind.u8 (0), Value.int IntKind.u8 (0), Value.int IntKind.u8 (0), Value.int IntKind.u8 (0), Value.int IntKind.u8 (0), Value.int IntKind.u8 (0), Value.int IntKind.u8 (0), Value.int IntKind.u64 (0), Value.int IntKind.u64 (0), Value.int IntKind.i64 (0), Value.int IntKind.i64 (0), Value.int IntKind.u32 (0)], d := TD.struct [(0, 3), (1, 24), (3, 32), (15, 32), (27, 35), (64, 38), (67, 3), (68, 27)] } := by kernel_rfl
theorem ty41 : tyOf Go.Proofs.Tryz.prog 41 = { known := true, zero := [Value.nilFunc], d := TD.func } := by kernel_rfl
theorem ty42 : tyOf Go.Proofs.Tryz.prog 42 = { known := true, zero := [Value.nilFunc], d := TD.func } := by kernel_rfl
theorem ty43 : tyOf Go.Proofs.Tryz.prog 43 = { known := true, bytes := 24, zero := [Value.slice none 0 0], d := TD.slice 57 } := by kernel_rfl
theorem ty44 : tyOf Go.Proofs.Tryz.prog 44 = { known := true, bytes := 24, zero := [Value.slice none 0 0], d := TD.slice 3 } := by kernel_rfl
theorem ty45 : tyOf Go.Proofs.Tryz.prog 45 = { known := true, agg := true, size := 3, bytes := 32, zero := [Value.int IntKind.u8 (0), Value.int IntKind.u8 (0), Value.slice none 0 0], d := TD.struct [(0, 5), (1, 5), (2, 22)] } := by kernel_rfl
theorem ty46 : tyOf Go.Proofs.Tryz.prog 46 = { known := true, agg := true, size := 3, bytes := 32, zero := [Value.int IntKind.u8 (0), Value.int IntKind.u8 (0), Value.slice none 0 0], d := TD.struct [(0, 5), (1, 5), (2, 22)] } := by kernel_rfl
theorem ty47 : tyOf Go.Proofs.Tryz.prog 47 = { known := true, agg := true, size := 9, bytes := 80, zero := [Value.int IntKind.i64 (0), Value.int IntKind.i64 (0), Value.int IntKind.i64 (0), Value.int IntKind.u32 (0), Value.string ⟨#[]⟩, Value.int IntKind.u64 (0), Value.int IntKind.u64 (0), Value.int IntKind.i64 (0), Value.int IntKind.i64 (0)], d := TD.struct [(0, 3), (1, 3), (2, 3), (3, 27), (4, 9), (5, 36), (6, 36), (7, 3), (8, 3)], eqs := true, eqk := [PK.int IntKind.i64, PK.int IntKind.i64, PK.int IntKind.i64, PK.int IntKind.u32, PK.str, PK.int IntKind.u64, PK.int IntKind.u64, PK.int IntKind.i64, PK.int IntKind.i64] } := by kernel_rfl
theorem ty48 : tyOf Go.Proofs.Tryz.prog 48 = { known := true, agg := true, size := 9, bytes := 80, zero := [Value.int IntKind.i64 (0), Value.int IntKind.i64 (0), Value.int IntKind.i64 (0), Value.int IntKind.u32 (0), Value.string ⟨#[]⟩, Value.int IntKind.u64 (0), Value.int IntKind.u64 (0), Value.int IntKind.i64 (0), Value.int IntKind.i64 (0)], d := TD.struct [(0, 3), (1, 3), (2, 3), (3, 27), (4, 9), (5, 36), (6, 36), (7, 3), (8, 3)], eqs := true, eqk := [PK.int IntKind.i64, PK.int IntKind.i64, PK.int IntKind.i64, PK.int IntKind.u32, PK.str, PK.int IntKind.u64, PK.int IntKind.u64, PK.int IntKind.i64, PK.int IntKind.i64] } := by kernel_rfl
theorem ty49 : tyOf Go.Proofs.Tryz.prog 49 = { known := true, bytes := 24, zero := [Value.slice none 0 0], d := TD.slice 22 } := by kernel_rfl
theorem ty50 : tyOf Go.Proofs.Tryz.prog 50 = { known := true, agg := true, size := 15, bytes := 184, zero := [Value.slice none 0 0, Value.slice none 0 0, Value.int IntKind.u8 (0), Value.int IntKind.u8 (0), Value.slice none 0 0, Value.int IntKind.i64 (0), Value.int IntKind.i64 (0), Value.int IntKind.i64 (0), Value.int IntKind.u32 (0), Value.string ⟨#[]⟩, Value.int IntKind.u64 (0), Value.int IntKind.u64 (0), Value.int IntKind.i64 (0), Value.int IntKind.i64 (0), Value.slice none 0 0], d := TD.struct [(0, 43), (1, 44), (2, 46), (5, 48), (14, 49)] } := by kernel_rfl
theorem ty51 : tyOf Go.Proofs.Tryz.prog 51 = { known := true, agg := true, size := 15, bytes := 184, zero := [Value.slice none 0 0, Value.slice none 0 0, Value.int IntKind.u8 (0), Value.int IntKind.u8 (0), Value.slice none 0 0, Value.int IntKind.i64 (0), Value.int IntKind.i64 (0), Value.int IntKind.i64 (0), Value.int IntKind.u32 (0), Value.string ⟨#[]⟩, Value.int IntKind.u64 (0), Value.int IntKind.u64 (0), Value.int IntKind.i64 (0), Value.int IntKind.i64 (0), Value.slice none 0 0], d := TD.struct [(0, 43), (1, 44), (2, 46), (5, 48), (14, 49)] } := by kernel_rfl
theorem ty52 : tyOf Go.Proofs.Tryz.prog 52 = { known := true, bytes := 0, zero := [Value.tuple { toList := [Value.agg ([Value.int IntKind.i64 (0), Value.slice none 0 0, Value.bool false, Value.int IntKind.i64 (0), Value.int IntKind.i64 (0), Value.int IntKind.i64 (0), Value.int IntKind.u8 (0), Value.bool false, Value.int IntKind.u32 (0), Value.int IntKind.u32 (0), Value.int IntKind.u32 (0), Value.int IntKind.u32 (0), Value.slice none 0 0, Value.int IntKind.i64 (0), Value.slice none 0 0, Value.int IntKind.i64 (0), Value.int IntKind.i64 (0), Value.int IntKind.i64 (0), Value.int IntKind.u8 (0), Value.bool false, Value.int IntKind.u32 (0), Value.int IntKind.u32 (0), Value.int IntKind.u32 (0), Value.int IntKind.u32 (0), Value.slice none 0 0, Value.int IntKind.i64 (0), Value.slice none 0 0, Value.int IntKind.i64 (0), Value.int IntKind.i64 (0), Value.int IntKind.i64 (0), Value.int IntKind.u8 (0), Value.int IntKind.u8 (0), Value.int IntKind.u8 (0), Value.int IntKind.u8 (0), Value.int IntKind.u8 (0), Value.int IntKind.u8 (0), Value.int IntKind.u8 (0), Value.int IntKind.u8 (0), Value.int IntKind.u8 (0), Value.int IntKind.u8 (0), Value.int IntKind.u8 (0), Value.int IntKind.u8 (0), Value.int IntKind.u8 (0), Value.int IntKind.u8 (0), Value.int IntKind.u8 (0), Value.int IntKind.u8 (0), Value.int IntKind.u8 (0), Value.string { data := (List.toArray []) }, Value.int IntKind.u8 (0), Value.int IntKind.u8 (0), Value.int IntKind.u8 (0), Value.int IntKind.u8 (0), Value.int IntKind.u8 (0), Value.int IntKind.u8 (0), Value.int IntKind.u8 (0), Value.int IntKind.u8 (0), Value.int IntKind.u8 (0), Value.int IntKind.u8 (0), Value.int IntKind.u8 (0), Value.int IntKind.u8 (0), Value.int IntKind.u8 (0), Value.int IntKind.u8 (0), Value.int IntKind.u8 (0), Value.int IntKind.u8 (0), Value.int IntKind.u64 (0), Value.int IntKind.u64 (0), Value.int IntKind.i64 (0), Value.int IntKind.i64 (0), Value.int IntKind.u32 (0)]).toArray, Value.agg ([Value.slice none 0 0, Value.slice none 0 0, Value.int IntKind.u8 (0), Value.int IntKind.u8 (0), Value.slice none 0 0, Value.int IntKind.i64 (0), Value.int IntKind.i64 (0), Value.int IntKind.i64 (0), Value.int IntKind.u32 (0), Value.string { data := (List.toArray []) }, Value.int IntKind.u64 (0), Value.int IntKind.u64 (0), Value.int IntKind.i64 (0), Value.int IntKind.i64 (0), Value.slice none 0 0]).toArray] }] } := by kernel_rfl
theorem ty53 : tyOf Go.Proofs.Tryz.prog 53 = { known := true, zero := [Value.nilFunc], d := TD.func } := by kernel_rfl
theorem ty54 : tyOf Go.Proofs.Tryz.prog 54 = { known := true, zero := [Value.nilFunc], d := TD.func } := by kernel_rfl
theorem ty55 : tyOf Go.Proofs.Tryz.prog 55 = { known := true, bytes := 2, zero := [Value.int IntKind.u16 (0)], d := TD.int } := by kernel_rfl
theorem ty56 : tyOf Go.Proofs.Tryz.prog 56 = { known := true, agg := true, size := 2, bytes := 32, zero := [Value.int IntKind.u16 (0), Value.slice none 0 0], d := TD.struct [(0, 55), (1, 22)] } := by kernel_rfl
theorem ty57 : tyOf Go.Proofs.Tryz.prog 57 = { known := true, agg := true, size := 2, bytes := 32, zero := [Value.int IntKind.u16 (0), Value.slice none 0 0], d := TD.struct [(0, 55), (1, 22)] } := by kernel_rfl
theorem ty58 : tyOf Go.Proofs.Tryz.prog 58 = { known := true, zero := [Value.nilFunc], d := TD.func } := by kernel_rfl
theorem ty59 : tyOf Go.Proofs.Tryz.prog 59 = { known := true, zero := [Value.nilFunc], d := TD.func } := by kernel_rfl
theorem ty60 : tyOf Go.Proofs.Tryz.prog 60 = { known := true, zero := [Value.nilFunc], d := TD.func } := by kernel_rfl
theorem ty61 : tyOf Go.Proofs.Tryz.prog 61 = { known := true, zero := [Value.nilFunc], d := TD.func } := by kernel_rfl
theorem ty62 : tyOf Go.Proofs.Tryz.prog 62 = { known := true, zero := [Value.nilFunc], d := TD.func } := by kernel_rfl
theorem ty63 : tyOf Go.Proofs.Tryz.prog 63 = { known := true, zero := [Value.nilFunc], d := TD.func } := by kernel_rfl
theorem ty64 : tyOf Go.Proofs.Tryz.prog 64 = { known := true, zero := [Value.nilFunc], d := TD.func } := by kernel_rfl
theorem ty65 : tyOf Go.Proofs.Tryz.prog 65 = { known := true, agg := true, size := 87, bytes := 408, zero := [Value.int IntKind.i64 (0), Value.slice none 0 0, Value.bool false, Value.int IntKind.i64 (0), Value.int IntKind.i64 (0), Value.int IntKind.i64 (0), Value.int IntKind.u8 (0), Value.bool false, Value.int IntKind.u32 (0), Value.int IntKind.u32 (0), Value.int IntKind.u32 (0), Value.int IntKind.u32 (0), Value.slice none 0 0, Value.int IntKind.i64 (0), Value.slice none 0 0, Value.int IntKind.i64 (0), Value.int IntKind.i64 (0), Value.int IntKind.i64 (0), Value.int IntKind.u8 (0), Value.bool false, Value.int IntKind.u32 (0), Value.int IntKind.u32 (0), Value.int IntKind.u32 (0), Value.int IntKind.u32 (0), Value.slice none 0 0, Value.int IntKind.i64 (0), Value.slice none 0 0, Value.int IntKind.i64 (0), Value.int IntKind.i64 (0), Value.int IntKind.i64 (0), Value.int IntKind.u8 (0), Value.int IntKind.u8 (0), Value.int IntKind.u8 (0), Value.int IntKind.u8 (0), Value.int IntKind.u8 (0), Value.int IntKind.u8 (0), Value.int IntKind.u8 (0), Value.int IntKind.u8 (0), Value.int IntKind.u8 (0), Value.int IntKind.u8 (0), Value.int IntKind.u8 (0), Value.int IntKind.u8 (0), Value.int IntKind.u8 (0), Value.int IntKind.u8 (0), Value.int IntKind.u8 (0), Value.int IntKind.u8 (0), Value.int IntKind.u8 (0), Value.string ⟨#[]⟩, Value.int IntKind.u8 (0), Value.int IntKind.u8 (0), Value.int IntKind.u8 (0), Value.int IntKind.u8 (0), Value.int IntKind.u8 (0), Value.int IntKind.u8 (0), Value.int IntKind.u8 (0), Value.int IntKind.u8 (0), Value.int IntKind.u8 (0), Value.int IntKind.u8 (0), Value.int IntKind.u8 (0), Value.int IntKind.u8 (0), Value.int IntKind.u8 (0), Value.int IntKind.u8 (0), Value.int IntKind.u8 (0), Value.int IntKind.u8 (0), Value.int IntKind.u64 (0), Value.int IntKind.u64 (0), Value.int IntKind.i64 (0), Value.int IntKind.i64 (0), Value.int IntKind.u32 (0), Value.int IntKind.u8 (0), Value.int IntKind.u8 (0), Value.int IntKind.u8 (0), Value.int IntKind.u8 (0), Value.int IntKind.u8 (0), Value.int IntKind.u8 (0), Value.int IntKind.u8 (0), Value.int IntKind.u8 (0), Value.int IntKind.u8 (0), Value.int IntKind.u8 (0), Value.int IntKind.u8 (0), Value.int IntKind.u8 (0), Value.int IntKind.u8 (0), Value.int IntKind.u8 (0), Value.int IntKind.u8 (0), Value.int IntKind.u8 (0), Value.int IntKind.u16 (0), Value.int IntKind.u32 (0)], d := TD.struct [(0, 40), (69, 33), (85, 55), (86, 27)] } := by kernel_rfl
theorem ty66 : tyOf Go.Proofs.Tryz.prog 66 = { known := true, agg := true, size := 87, bytes := 408, zero := [Value.int IntKind.i64 (0), Value.slice none 0 0, Value.bool false, Value.int IntKind.i64 (0), Value.int IntKind.i64 (0), Value.int IntKind.i64 (0), Value.int IntKind.u8 (0), Value.bool false, Value.int IntKind.u32 (0), Value.int IntKind.u32 (0), Value.int IntKind.u32 (0), Value.int IntKind.u32 (0), Value.slice none 0 0, Value.int IntKind.i64 (0), Value.slice none 0 0, Value.int IntKind.i64 (0), Value.int IntKind.i64 (0), Value.int IntKind.i64 (0), Value.int IntKind.u8 (0), Value.bool false, Value.int IntKind.u32 (0), Value.int IntKind.u32 (0), Value.int IntKind.u32 (0), Value.int IntKind.u32 (0), Value.slice none 0 0, Value.int IntKind.i64 (0), Value.slice none 0 0, Value.int IntKind.i64 (0), Value.int IntKind.i64 (0), Value.int IntKind.i64 (0), Value.int IntKind.u8 (0), Value.int IntKind.u8 (0), Value.int IntKind.u8 (0), Value.int IntKind.u8 (0), Value.int IntKind.u8 (0), Value.int IntKind.u8 (0), Value.int IntKind.u8 (0), Value.int IntKind.u8 (0), Value.int IntKind.u8 (0), Value.int IntKind.u8 (0), Value.int IntKind.u8 (0), Value.int IntKind.u8 (0), Value.int IntKind.u8 (0), Value.int IntKind.u8 (0), Value.int IntKind.u8 (0), Value.int IntKind.u8 (0), Value.int IntKind.u8 (0), Value.string ⟨#[]⟩, Value.int IntKind.u8 (0), Value.int IntKind.u8 (0), Value.int IntKind.u8 (0), Value.int IntKind.u8 (0), Value.int IntKind.u8 (0), Value.int IntKind.u8 (0), Value.int IntKind.u8 (0), Value.int IntKind.u8 (0), Value.int IntKind.u8 (0), Value.int IntKind.u8 (0), Value.int IntKind.u8 (0), Value.int IntKind.u8 (0), Value.int IntKind.u8 (0), Value.int IntKind.u8 (0), Value.int IntKind.u8 (0), Value.int IntKind.u8 (0), Value.int IntKind.u64 (0), Value.int IntKind.u64 (0), Value.int IntKind.i64 (0), Value.int IntKind.i64 (0), Value.int IntKind.u32 (0), Value.int IntKind.u8 (0), Value.int IntKind.u8 (0), Value.int IntKind.u8 (0), Value.int IntKind.u8 (0), Value.int IntKind.u8 (0), Value.int IntKind.u8 (0), Value.int IntKind.u8 (0), Value.int IntKind.u8 (0), Value.int IntKind.u8 (0), Value.int IntKind.u8 (0), Value.int IntKind.u8 (0), Value.int IntKind.u8 (0), Value.int IntKind.u8 (0), Value.int IntKind.u8 (0), Value.int IntKind.u8 (0), Value.int IntKind.u8 (0), Value.int IntKind.u16 (0), Value.int IntKind.u32 (0)], d := TD.struct [(0, 40), (69, 33), (85, 55), (86, 27)] } := by kernel_rfl
theorem ty67 : tyOf Go.Proofs.Tryz.prog 67 = { known := true, zero := [Value.nilFunc], d := TD.func } := by kernel_rfl
theorem ty68 : tyOf Go.Proofs.Tryz.prog 68 = { known := true, zero := [Value.nilFunc], d := TD.func } := by kernel_rfl
theorem ty69 : tyOf Go.Proofs.Tryz.prog 69 = { known := true, zero := [Value.nilFunc], d := TD.func } := by kernel_rfl
theorem ty70 : tyOf Go.Proofs.Tryz.prog 70 = { known := true, zero := [Value.nilFunc], d := TD.func } := by kernel_rfl
theorem ty71 : tyOf Go.Proofs.Tryz.prog 71 = { known := true, bytes := 24, zero := [Value.slice none 0 0], d := TD.slice 46 } := by kernel_rfl
theorem ty72 : tyOf Go.Proofs.Tryz.prog 72 = { known := true, bytes := 0, zero := [Value.tuple ([Value.agg (List.toArray [Value.int IntKind.i64 (0), Value.int IntKind.i64 (0), Value.int IntKind.i64 (0), Value.int IntKind.u8 (0), Value.bool false, Value.int IntKind.u32 (0), Value.int IntKind.u32 (0), Value.int IntKind.u32 (0), Value.int IntKind.u32 (0), Value.slice none 0 0, Value.int IntKind.i64 (0), Value.slice none 0 0]), Value.slice none 0 0, Value.slice none 0 0]).toArray] } := by kernel_rfl
theorem ty73 : tyOf Go.Proofs.Tryz.prog 73 = { known := true, zero := [Value.nilFunc], d := TD.func } := by kernel_rfl
theorem ty74 : tyOf Go.Proofs.Tryz.prog 74 = { known := true, zero := [Value.nilFunc], d := TD.func } := by kernel_rfl
theorem ty75 : tyOf Go.Proofs.Tryz.prog 75 = { known := true, zero := [Value.nilFunc], d := TD.func } := by kernel_rfl
theorem ty76 : tyOf Go.Proofs.Tryz.prog 76 = { known := true, zero := [Value.nilFunc], d := TD.func } := by kernel_rfl
theorem ty77 : tyOf Go.Proofs.Tryz.prog 77 = { known := true, agg := true, size := 15, bytes := 184, zero := [Value.int IntKind.i64 (0), Value.int IntKind.i64 (0), Value.int IntKind.i64 (0), Value.int IntKind.u8 (0), Value.bool false, Value.int IntKind.u32 (0), Value.int IntKind.u32 (0), Value.int IntKind.u32 (0), Value.int IntKind.u32 (0), Value.slice none 0 0, Value.int IntKind.i64 (0), Value.slice none 0 0, Value.slice none 0 0, Value.slice none 0 0, Value.slice none 0 0], d := TD.struct [(0, 32), (12, 71), (13, 44), (14, 44)] } := by kernel_rfl
theorem ty78 : tyOf Go.Proofs.Tryz.prog 78 = { known := true, agg := true, size := 15, bytes := 184, zero := [Value.int IntKind.i64 (0), Value.int IntKind.i64 (0), Value.int IntKind.i64 (0), Value.int IntKind.u8 (0), Value.bool false, Value.int IntKind.u32 (0), Value.int IntKind.u32 (0), Value.int IntKind.u32 (0), Value.int IntKind.u32 (0), Value.slice none 0 0, Value.int IntKind.i64 (0), Value.slice none 0 0, Value.slice none 0 0, Value.slice none 0 0, Value.slice none 0 0], d := TD.struct [(0, 32), (12, 71), (13, 44), (14, 44)] } := by kernel_rfl
theorem ty79 : tyOf Go.Proofs.Tryz.prog 79 = { known := true, zero := [Value.nilFunc], d := TD.func } := by kernel_rfl
theorem ty80 : tyOf Go.Proofs.Tryz.prog 80 = { known := true, zero := [Value.nilFunc], d := TD.func } := by kernel_rfl
theorem ty81 : tyOf Go.Proofs.Tryz.prog 81 = { known := true, zero := [Value.nilFunc], d := TD.func } := by kernel_rfl
theorem ty82 : tyOf Go.Proofs.Tryz.prog 82 = { known := true, zero := [Value.nilFunc], d := TD.func } := by kernel_rfl
theorem ty83 : tyOf Go.Proofs.Tryz.prog 83 = { known := true, agg := true, size := 88, bytes := 424, zero := [Value.int IntKind.i64 (0), Value.slice none 0 0, Value.bool false, Value.int IntKind.i64 (0), Value.int IntKind.i64 (0), Value.int IntKind.i64 (0), Value.int IntKind.u8 (0), Value.bool false, Value.int IntKind.u32 (0), Value.int IntKind.u32 (0), Value.int IntKind.u32 (0), Value.int IntKind.u32 (0), Value.slice none 0 0, Value.int IntKind.i64 (0), Value.slice none 0 0, Value.int IntKind.i64 (0), Value.int IntKind.i64 (0), Value.int IntKind.i64 (0), Value.int IntKind.u8 (0), Value.bool false, Value.int IntKind.u32 (0), Value.int IntKind.u32 (0), Value.int IntKind.u32 (0), Value.int IntKind.u32 (0), Value.slice none 0 0, Value.int IntKind.i64 (0), Value.slice none 0 0, Value.int IntKind.i64 (0), Value.int IntKind.i64 (0), Value.int IntKind.i64 (0), Value.int IntKind.u8 (0), Value.int IntKind.u8 (0), Value.int IntKind.u8 (0), Value.int IntKind.u8 (0), Value.int IntKind.u8 (0), Value.int IntKind.u8 (0), Value.int IntKind.u8 (0), Value.int IntKind.u8 (0), Value.int IntKind.u8 (0), Value.int IntKind.u8 (0), Value.int IntKind.u8 (0), Value.int IntKind.u8 (0), Value.int IntKind.u8 (0), Value.int IntKind.u8 (0), Value.int IntKind.u8 (0), Value.int IntKind.u8 (0), Value.int IntKind.u8 (0), Value.string ⟨#[]⟩, Value.int IntKind.u8 (0), Value.int IntKind.u8 (0), Value.int IntKind.u8 (0), Value.int IntKind.u8 (0), Value.int IntKind.u8 (0), Value.int IntKind.u8 (0), Value.int IntKind.u8 (0), Value.int IntKind.u8 (0), Value.int IntKind.u8 (0), Value.int IntKind.u8 (0), Value.int IntKind.u8 (0), Value.int IntKind.u8 (0), Value.int IntKind.u8 (0), Value.int IntKind.u8 (0), Value.int IntKind.u8 (0), Value.int IntKind.u8 (0), Value.int IntKind.u64 (0), Value.int IntKind.u64 (0), Value.int IntKind.i64 (0), Value.int IntKind.i64 (0), Value.int IntKind.u32 (0), Value.int IntKind.u8 (0), Value.int IntKind.u8 (0), Value.int IntKind.u8 (0), Value.int IntKind.u8 (0), Value.int IntKind.u8 (0), Value.int IntKind.u8 (0), Value.int IntKind.u8 (0), Value.int IntKind.u8 (0), Value.int IntKind.u8 (0), Value.int IntKind.u8 (0), Value.int IntKind.u8 (0), Value.int IntKind.u8 (0), Value.int IntKind.u8 (0), Value.int IntKind.u8 (0), Value.int IntKind.u8 (0), Value.int IntKind.u8 (0), Value.string ⟨#[]⟩, Value.int IntKind.u16 (0), Value.int IntKind.u32 (0)], d := TD.struct [(0, 40), (69, 33), (85, 9), (86, 55), (87, 27)] } := by kernel_rfl
theorem ty84 : tyOf Go.Proofs.Tryz.prog 84 = { known := true, agg := true, size := 88, bytes := 424, zero := [Value.int IntKind.i64 (0), Value.slice none 0 0, Value.bool false, Value.int IntKind.i64 (0), Value.int IntKind.i64 (0), Value.int IntKind.i64 (0), Value.int IntKind.u8 (0), Value.bool false, Value.int IntKind.u32 (0), Value.int IntKind.u32 (0), Value.int IntKind.u32 (0), Value.int IntKind.u32 (0), Value.slice none 0 0, Value.int IntKind.i64 (0), Value.slice none 0 0, Value.int IntKind.i64 (0), Value.int IntKind.i64 (0), Value.int IntKind.i64 (0), Value.int IntKind.u8 (0), Value.bool false, Value.int IntKind.u32 (0), Value.int IntKind.u32 (0), Value.int IntKind.u32 (0), Value.int IntKind.u32 (0), Value.slice none 0 0, Value.int IntKind.i64 (0), Value.slice none 0 0, Value.int IntKind.i64 (0), Value.int IntKind.i64 (0), Value.int IntKind.i64 (0), Value.int IntKind.u8 (0), Value.int IntKind.u8 (0), Value.int IntKind.u8 (0), Value.int IntKind.u8 (0), Value.int IntKind.u8 (0), Value.int IntKind.u8 (0), Value.int IntKind.u8 (0), Value.int IntKind.u8 (0), Value.int IntKind.u8 (0), Value.int IntKind.u8 (0), Value.int IntKind.u8 (0), Value.int IntKind.u8 (0), Value.int IntKind.u8 (0), Value.int IntKind.u8 (0), Value.int IntKind.u8 (0), Value.int IntKind.u8 (0), Value.int IntKind.u8 (0), Value.string ⟨#[]⟩, Value.int IntKind.u8 (0), Value.int IntKind.u8 (0), Value.int IntKind.u8 (0), Value.int IntKind.u8 (0), Value.int IntKind.u8 (0), Value.int IntKind.u8 (0), Value.int IntKind.u8 (0), Value.int IntKind.u8 (0), Value.int IntKind.u8 (0), Value.int IntKind.u8 (0), Value.int IntKind.u8 (0), Value.int IntKind.u8 (0), Value.int IntKind.u8 (0), Value.int IntKind.u8 (0), Value.int IntKind.u8 (0), Value.int IntKind.u8 (0), Value.int IntKind.u64 (0), Value.int IntKind.u64 (0), Value.int IntKind.i64 (0), Value.int IntKind.i64 (0), Value.int IntKind.u32 (0), Value.int IntKind.u8 (0), Value.int IntKind.u8 (0), Value.int IntKind.u8 (0), Value.int IntKind.u8 (0), Value.int IntKind.u8 (0), Value.int IntKind.u8 (0), Value.int IntKind.u8 (0), Value.int IntKind.u8 (0), Value.int IntKind.u8 (0), Value.int IntKind.u8 (0), Value.int IntKind.u8 (0), Value.int IntKind.u8 (0), Value.int IntKind.u8 (0), Value.int IntKind.u8 (0), Value.int IntKind.u8 (0), Value.int IntKind.u8 (0), Value.string ⟨#[]⟩, Value.int IntKind.u16 (0), Value.int IntKind.u32 (0)], d := TD.struct [(0, 40), (69, 33), (85, 9), (86, 55), (87, 27)] } := by kernel_rfl
theorem ty85 : tyOf Go.Proofs.Tryz.prog 85 = { known := true, zero := [Value.nilFunc], d := TD.func } := by kernel_rfl
theorem ty86 : tyOf Go.Proofs.Tryz.prog 86 = { known := true, zero := [Value.nilFunc], d := TD.func } := by kernel_rfl
theorem ty87 : tyOf Go.Proofs.Tryz.prog 87 = { known := true, agg := true, size := 84, bytes := 568, zero := [Value.int IntKind.i64 (0), Value.slice none 0 0, Value.bool false, Value.int IntKind.i64 (0), Value.int IntKind.i64 (0), Value.int IntKind.i64 (0), Value.int IntKind.u8 (0), Value.bool false, Value.int IntKind.u32 (0), Value.int IntKind.u32 (0), Value.int IntKind.u32 (0), Value.int IntKind.u32 (0), Value.slice none 0 0, Value.int IntKind.i64 (0), Value.slice none 0 0, Value.int IntKind.i64 (0), Value.int IntKind.i64 (0), Value.int IntKind.i64 (0), Value.int IntKind.u8 (0), Value.bool false, Value.int IntKind.u32 (0), Value.int IntKind.u32 (0), Value.int IntKind.u32 (0), Value.int IntKind.u32 (0), Value.slice none 0 0, Value.int IntKind.i64 (0), Value.slice none 0 0, Value.int IntKind.i64 (0), Value.int IntKind.i64 (0), Value.int IntKind.i64 (0), Value.int IntKind.u8 (0), Value.int IntKind.u8 (0), Value.int IntKind.u8 (0), Value.int IntKind.u8 (0), Value.int IntKind.u8 (0), Value.int IntKind.u8 (0), Value.int IntKind.u8 (0), Value.int IntKind.u8 (0), Value.int IntKind.u8 (0), Value.int IntKind.u8 (0), Value.int IntKind.u8 (0), Value.int IntKind.u8 (0), Value.int IntKind.u8 (0), Value.int IntKind.u8 (0), Value.int IntKind.u8 (0), Value.int IntKind.u8 (0), Value.int IntKind.u8 (0), Value.string ⟨#[]⟩, Value.int IntKind.u8 (0), Value.int IntKind.u8 (0), Value.int IntKind.u8 (0), Value.int IntKind.u8 (0), Value.int IntKind.u8 (0), Value.int IntKind.u8 (0), Value.int IntKind.u8 (0), Value.int IntKind.u8 (0), Value.int IntKind.u8 (0), Value.int IntKind.u8 (0), Value.int IntKind.u8 (0), Value.int IntKind.u8 (0), Value.int IntKind.u8 (0), Value.int IntKind.u8 (0), Value.int IntKind.u8 (0), Value.int IntKind.u8 (0), Value.int IntKind.u64 (0), Value.int IntKind.u64 (0), Value.int IntKind.i64 (0), Value.int IntKind.i64 (0), Value.int IntKind.u32 (0), Value.slice none 0 0, Value.slice none 0 0, Value.int IntKind.u8 (0), Value.int IntKind.u8 (0), Value.slice none 0 0, Value.int IntKind.i64 (0), Value.int IntKind.i64 (0), Value.int IntKind.i64 (0), Value.int IntKind.u32 (0), Value.string ⟨#[]⟩, Value.int IntKind.u64 (0), Value.int IntKind.u64 (0), Value.int IntKind.i64 (0), Value.int IntKind.i64 (0), Value.slice none 0 0], d := TD.struct [(0, 40), (69, 51)] } := by kernel_rfl
theorem ty88 : tyOf Go.Proofs.Tryz.prog 88 = { known := true, agg := true, size := 84, bytes := 568, zero := [Value.int IntKind.i64 (0), Value.slice none 0 0, Value.bool false, Value.int IntKind.i64 (0), Value.int IntKind.i64 (0), Value.int IntKind.i64 (0), Value.int IntKind.u8 (0), Value.bool false, Value.int IntKind.u32 (0), Value.int IntKind.u32 (0), Value.int IntKind.u32 (0), Value.int IntKind.u32 (0), Value.slice none 0 0, Value.int IntKind.i64 (0), Value.slice none 0 0, Value.int IntKind.i64 (0), Value.int IntKind.i64 (0), Value.int IntKind.i64 (0), Value.int IntKind.u8 (0), Value.bool false, Value.int IntKind.u32 (0), Value.int IntKind.u32 (0), Value.int IntKind.u32 (0), Value.int IntKind.u32 (0), Value.slice none 0 0, Value.int IntKind.i64 (0), Value.slice none 0 0, Value.int IntKind.i64 (0), Value.int IntKind.i64 (0), Value.int IntKind.i64 (0), Value.int IntKind.u8 (0), Value.int IntKind.u8 (0), Value.int IntKind.u8 (0), Value.int IntKind.u8 (0), Value.int IntKind.u8 (0), Value.int IntKind.u8 (0), Value.int IntKind.u8 (0), Value.int IntKind.u8 (0), Value.int IntKind.u8 (0), Value.int IntKind.u8 (0), Value.int IntKind.u8 (0), Value.int IntKind.u8 (0), Value.int IntKind.u8 (0), Value.int IntKind.u8 (0), Value.int IntKind.u8 (0), Value.int IntKind.u8 (0), Value.int IntKind.u8 (0), Value.string ⟨#[]⟩, Value.int IntKind.u8 (0), Value.int IntKind.u8 (0), Value.int IntKind.u8 (0), Value.int IntKind.u8 (0), Value.int IntKind.u8 (0), Value.int IntKind.u8 (0), Value.int IntKind.u8 (0), Value.int IntKind.u8 (0), Value.int IntKind.u8 (0), Value.int IntKind.u8 (0), Value.int IntKind.u8 (0), Value.int IntKind.u8 (0), Value.int IntKind.u8 (0), Value.int IntKind.u8 (0), Value.int IntKind.u8 (0), Value.int IntKind.u8 (0), Value.int IntKind.u64 (0), Value.int IntKind.u64 (0), Value.int IntKind.i64 (0), Value.int IntKind.i64 (0), Value.int IntKind.u32 (0), Value.slice none 0 0, Value.slice none 0 0, Value.int IntKind.u8 (0), Value.int IntKind.u8 (0), Value.slice none 0 0, Value.int IntKind.i64 (0), Value.int IntKind.i64 (0), Value.int IntKind.i64 (0), Value.int IntKind.u32 (0), Value.string ⟨#[]⟩, Value.int IntKind.u64 (0), Value.int IntKind.u64 (0), Value.int IntKind.i64 (0), Value.int IntKind.i64 (0), Value.slice none 0 0], d := TD.struct [(0, 40), (69, 51)] } := by kernel_rfl
theorem ty89 : tyOf Go.Proofs.Tryz.prog 89 = { known := true, zero := [Value.nilFunc], d := TD.func } := by kernel_rfl
theorem ty90 : tyOf Go.Proofs.Tryz.prog 90 = { known := true, zero := [Value.nilFunc], d := TD.func } := by kernel_rfl
theorem ty91 : tyOf Go.Proofs.Tryz.prog 91 = { known := true, zero := [Value.nilFunc], d := TD.func } := by kernel_rfl
theorem ty92 : tyOf Go.Proofs.Tryz.prog 92 = { known := true, zero := [Value.nilFunc], d := TD.func } := by kernel_rfl
theorem ty93 : tyOf Go.Proofs.Tryz.prog 93 = { known := true, zero := [Value.nilFunc], d := TD.func } := by kernel_rfl
theorem ty94 : tyOf Go.Proofs.Tryz.prog 94 = { known := true, zero := [Value.nilFunc], d := TD.func } := by kernel_rfl
theorem ty95 : tyOf Go.Proofs.Tryz.prog 95 = { known := true, zero := [Value.nilFunc], d := TD.func } := by kernel_rfl
theorem ty96 : tyOf Go.Proofs.Tryz.prog 96 = { known := true, zero := [Value.nilFunc], d := TD.func } := by kernel_rfl
theorem ty97 : tyOf Go.Proofs.Tryz.prog 97 = { known := true, agg := true, size := 88, bytes := 456, zero := [Value.int IntKind.i64 (0), Value.slice none 0 0, Value.bool false, Value.int IntKind.i64 (0), Value.int IntKind.i64 (0), Value.int IntKind.i64 (0), Value.int IntKind.u8 (0), Value.bool false, Value.int IntKind.u32 (0), Value.int IntKind.u32 (0), Value.int IntKind.u32 (0), Value.int IntKind.u32 (0), Value.slice none 0 0, Value.int IntKind.i64 (0), Value.slice none 0 0, Value.int IntKind.i64 (0), Value.int IntKind.i64 (0), Value.int IntKind.i64 (0), Value.int IntKind.u8 (0), Value.bool false, Value.int IntKind.u32 (0), Value.int IntKind.u32 (0), Value.int IntKind.u32 (0), Value.int IntKind.u32 (0), Value.slice none 0 0, Value.int IntKind.i64 (0), Value.slice none 0 0, Value.int IntKind.i64 (0), Value.int IntKind.i64 (0), Value.int IntKind.i64 (0), Value.int IntKind.u8 (0), Value.int IntKind.u8 (0), Value.int IntKind.u8 (0), Value.int IntKind.u8 (0), Value.int IntKind.u8 (0), Value.int IntKind.u8 (0), Value.int IntKind.u8 (0), Value.int IntKind.u8 (0), Value.int IntKind.u8 (0), Value.int IntKind.u8 (0), Value.int IntKind.u8 (0), Value.int IntKind.u8 (0), Value.int IntKind.u8 (0), Value.int IntKind.u8 (0), Value.int IntKind.u8 (0), Value.int IntKind.u8 (0), Value.int IntKind.u8 (0), Value.string ⟨#[]⟩, Value.int IntKind.u8 (0), Value.int IntKind.u8 (0), Value.int IntKind.u8 (0), Value.int IntKind.u8 (0), Value.int IntKind.u8 (0), Value.int IntKind.u8 (0), Value.int IntKind.u8 (0), Value.int IntKind.u8 (0), Value.int IntKind.u8 (0), Value.int IntKind.u8 (0), Value.int IntKind.u8 (0), Value.int IntKind.u8 (0), Value.int IntKind.u8 (0), Value.int IntKind.u8 (0), Value.int IntKind.u8 (0), Value.int IntKind.u8 (0), Value.int IntKind.u64 (0), Value.int IntKind.u64 (0), Value.int IntKind.i64 (0), Value.int IntKind.i64 (0), Value.int IntKind.u32 (0), Value.int IntKind.u16 (0), Value.slice none 0 0, Value.int IntKind.u8 (0), Value.int IntKind.u8 (0), Value.int IntKind.u8 (0), Value.int IntKind.u8 (0), Value.int IntKind.u8 (0), Value.int IntKind.u8 (0), Value.int IntKind.u8 (0), Value.int IntKind.u8 (0), Value.int IntKind.u8 (0), Value.int IntKind.u8 (0), Value.int IntKind.u8 (0), Value.int IntKind.u8 (0), Value.int IntKind.u8 (0), Value.int IntKind.u8 (0), Value.int IntKind.u8 (0), Value.int IntKind.u8 (0), Value.slice none 0 0], d := TD.struct [(0, 40), (69, 57), (71, 33), (87, 22)] } := by kernel_rfl
theorem ty98 : tyOf Go.Proofs.Tryz.prog 98 = { known := true, agg := true, size := 88, bytes := 456, zero := [Value.int IntKind.i64 (0), Value.slice none 0 0, Value.bool false, Value.int IntKind.i64 (0), Value.int IntKind.i64 (0), Value.int IntKind.i64 (0), Value.int IntKind.u8 (0), Value.bool false, Value.int IntKind.u32 (0), Value.int IntKind.u32 (0), Value.int IntKind.u32 (0), Value.int IntKind.u32 (0), Value.slice none 0 0, Value.int IntKind.i64 (0), Value.slice none 0 0, Value.int IntKind.i64 (0), Value.int IntKind.i64 (0), Value.int IntKind.i64 (0), Value.int IntKind.u8 (0), Value.bool false, Value.int IntKind.u32 (0), Value.int IntKind.u32 (0), Value.int IntKind.u32 (0), Value.int IntKind.u32 (0), Value.slice none 0 0, Value.int IntKind.i64 (0), Value.slice none 0 0, Value.int IntKind.i64 (0), Value.int IntKind.i64 (0), Value.int IntKind.i64 (0), Value.int IntKind.u8 (0), Value.int IntKind.u8 (0), Value.int IntKind.u8 (0), Value.int IntKind.u8 (0), Value.int IntKind.u8 (0), Value.int IntKind.u8 (0), Value.int IntKind.u8 (0), Value.int IntKind.u8 (0), Value.int IntKind.u8 (0), Value.int IntKind.u8 (0), Value.int IntKind.u8 (0), Value.int IntKind.u8 (0), Value.int IntKind.u8 (0), Value.int IntKind.u8 (0), Value.int IntKind.u8 (0), Value.int IntKind.u8 (0), Value.int IntKind.u8 (0), Value.string ⟨#[]⟩, Value.int IntKind.u8 (0), Value.int IntKind.u8 (0), Value.int IntKind.u8 (0), Value.int IntKind.u8 (0), Value.int IntKind.u8 (0), Value.int IntKind.u8 (0), Value.int IntKind.u8 (0), Value.int IntKind.u8 (0), Value.int IntKind.u8 (0), Value.int IntKind.u8 (0), Value.int IntKind.u8 (0), Value.int IntKind.u8 (0), Value.int IntKind.u8 (0), Value.int IntKind.u8 (0), Value.int IntKind.u8 (0), Value.int IntKind.u8 (0), Value.int IntKind.u64 (0), Value.int IntKind.u64 (0), Value.int IntKind.i64 (0), Value.int IntKind.i64 (0), Value.int IntKind.u32 (0), Value.int IntKind.u16 (0), Value.slice none 0 0, Value.int IntKind.u8 (0), Value.int IntKind.u8 (0), Value.int IntKind.u8 (0), Value.int IntKind.u8 (0), Value.int IntKind.u8 (0), Value.int IntKind.u8 (0), Value.int IntKind.u8 (0), Value.int IntKind.u8 (0), Value.int IntKind.u8 (0), Value.int IntKind.u8 (0), Value.int IntKind.u8 (0), Value.int IntKind.u8 (0), Value.int IntKind.u8 (0), Value.int IntKind.u8 (0), Value.int IntKind.u8 (0), Value.int IntKind.u8 (0), Value.slice none 0 0], d := TD.struct [(0, 40), (69, 57), (71, 33), (87, 22)] } := by kernel_rfl
theorem ty99 : tyOf Go.Proofs.Tryz.prog 99 = { known := true, zero := [Value.nilFunc], d := TD.func } := by kernel_rfl
theorem ty100 : tyOf Go.Proofs.Tryz.prog 100 = { known := true, zero := [Value.nilFunc], d := TD.func } := by kernel_rfl
theorem ty101 : tyOf Go.Proofs.Tryz.prog 101 = { known := true, zero := [Value.nilFunc], d := TD.func } := by kernel_rfl
theorem ty102 : tyOf Go.Proofs.Tryz.prog 102 = { known := true, zero := [Value.nilFunc], d := TD.func } := by kernel_rfl
theorem ty103 : tyOf Go.Proofs.Tryz.prog 103 = { known := true, zero := [Value.nilFunc], d := TD.func } := by kernel_rfl
theorem ty104 : tyOf Go.Proofs.Tryz.prog 104 = { known := true, zero := [Value.nilFunc], d := TD.func } := by kernel_rfl
theorem ty105 : tyOf Go.Proofs.Tryz.prog 105 = { known := true, zero := [Value.nilFunc], d := TD.func } := by kernel_rfl
theorem ty106 : tyOf Go.Proofs.Tryz.prog 106 = { known := true, zero := [Value.pointer none], d := TD.ptr } := by kernel_rfl
theorem ty107 : tyOf Go.Proofs.Tryz.prog 107 = { known := true, zero := [Value.nilFunc], d := TD.func } := by kernel_rfl
theorem ty108 : tyOf Go.Proofs.Tryz.prog 108 = { known := true, zero := [Value.nilFunc], d := TD.func } := by kernel_rfl
theorem ty109 : tyOf Go.Proofs.Tryz.prog 109 = { known := true, agg := true, size := 84, bytes := 568, zero := [Value.int IntKind.i64 (0), Value.slice none 0 0, Value.bool false, Value.int IntKind.i64 (0), Value.int IntKind.i64 (0), Value.int IntKind.i64 (0), Value.int IntKind.u8 (0), Value.bool false, Value.int IntKind.u32 (0), Value.int IntKind.u32 (0), Value.int IntKind.u32 (0), Value.int IntKind.u32 (0), Value.slice none 0 0, Value.int IntKind.i64 (0), Value.slice none 0 0, Value.int IntKind.i64 (0), Value.int IntKind.i64 (0), Value.int IntKind.i64 (0), Value.int IntKind.u8 (0), Value.bool false, Value.int IntKind.u32 (0), Value.int IntKind.u32 (0), Value.int IntKind.u32 (0), Value.int IntKind.u32 (0), Value.slice none 0 0, Value.int IntKind.i64 (0), Value.slice none 0 0, Value.int IntKind.i64 (0), Value.int IntKind.i64 (0), Value.int IntKind.i64 (0), Value.int IntKind.u8 (0), Value.int IntKind.u8 (0), Value.int IntKind.u8 (0), Value.int IntKind.u8 (0), Value.int IntKind.u8 (0), Value.int IntKind.u8 (0), Value.int IntKind.u8 (0), Value.int IntKind.u8 (0), Value.int IntKind.u8 (0), Value.int IntKind.u8 (0), Value.int IntKind.u8 (0), Value.int IntKind.u8 (0), Value.int IntKind.u8 (0), Value.int IntKind.u8 (0), Value.int IntKind.u8 (0), Value.int IntKind.u8 (0), Value.int IntKind.u8 (0), Value.string ⟨#[]⟩, Value.int IntKind.u8 (0), Value.int IntKind.u8 (0), Value.int IntKind.u8 (0), Value.int IntKind.u8 (0), Value.int IntKind.u8 (0), Value.int IntKind.u8 (0), Value.int IntKind.u8 (0), Value.int IntKind.u8 (0), Value.int IntKind.u8 (0), Value.int IntKind.u8 (0), Value.int IntKind.u8 (0), Value.int IntKind.u8 (0), Value.int IntKind.u8 (0), Value.int IntKind.u8 (0), Value.int IntKind.u8 (0), Value.int IntKind.u8 (0), Value.int IntKind.u64 (0), Value.int IntKind.u64 (0), Value.int IntKind.i64 (0), Value.int IntKind.i64 (0), Value.int IntKind.u32 (0), Value.slice none 0 0, Value.slice none 0 0, Value.int IntKind.u8 (0), Value.int IntKind.u8 (0), Value.slice none 0 0, Value.int IntKind.i64 (0), Value.int IntKind.i64 (0), Value.int IntKind.i64 (0), Value.int IntKind.u32 (0), Value.string ⟨#[]⟩, Value.int IntKind.u64 (0), Value.int IntKind.u64 (0), Value.int IntKind.i64 (0), Value.int IntKind.i64 (0), Value.slice none 0 0], d := TD.struct [(0, 40), (69, 51)] } := by kernel_rfl
theorem ty110 : tyOf Go.Proofs.Tryz.prog 110 = { known := true, agg := true, size := 84, bytes := 568, zero := [Value.int IntKind.i64 (0), Value.slice none 0 0, Value.bool false, Value.int IntKind.i64 (0), Value.int IntKind.i64 (0), Value.int IntKind.i64 (0), Value.int IntKind.u8 (0), Value.bool false, Value.int IntKind.u32 (0), Value.int IntKind.u32 (0), Value.int IntKind.u32 (0), Value.int IntKind.u32 (0), Value.slice none 0 0, Value.int IntKind.i64 (0), Value.slice none 0 0, Value.int IntKind.i64 (0), Value.int IntKind.i64 (0), Value.int IntKind.i64 (0), Value.int IntKind.u8 (0), Value.bool false, Value.int IntKind.u32 (0), Value.int IntKind.u32 (0), Value.int IntKind.u32 (0), Value.int IntKind.u32 (0), Value.slice none 0 0, Value.int IntKind.i64 (0), Value.slice none 0 0, Value.int IntKind.i64 (0), Value.int IntKind.i64 (0), Value.int IntKind.i64 (0), Value.int IntKind.u8 (0), Value.int IntKind.u8 (0), Value.int IntKind.u8 (0), Value.int IntKind.u8 (0), Value.int IntKind.u8 (0), Value.int IntKind.u8 (0), Value.int IntKind.u8 (0), Value.int IntKind.u8 (0), Value.int IntKind.u8 (0), Value.int IntKind.u8 (0), Value.int IntKind.u8 (0), Value.int IntKind.u8 (0), Value.int IntKind.u8 (0), Value.int IntKind.u8 (0), Value.int IntKind.u8 (0), Value.int IntKind.u8 (0), Value.int IntKind.u8 (0), Value.string ⟨#[]⟩, Value.int IntKind.u8 (0), Value.int IntKind.u8 (0), Value.int IntKind.u8 (0), Value.int IntKind.u8 (0), Value.int IntKind.u8 (0), Value.int IntKind.u8 (0), Value.int IntKind.u8 (0), Value.int IntKind.u8 (0), Value.int IntKind.u8 (0), Value.int IntKind.u8 (0), Value.int IntKind.u8 (0), Value.int IntKind.u8 (0), Value.int IntKind.u8 (0), Value.int IntKind.u8 (0), Value.int IntKind.u8 (0), Value.int IntKind.u8 (0), Value.int IntKind.u64 (0), Value.int IntKind.u64 (0), Value.int IntKind.i64 (0), Value.int IntKind.i64 (0), Value.int IntKind.u32 (0), Value.slice none 0 0, Value.slice none 0 0, Value.int IntKind.u8 (0), Value.int IntKind.u8 (0), Value.slice none 0 0, Value.int IntKind.i64 (0), Value.int IntKind.i64 (0), Value.int IntKind.i64 (0), Value.int IntKind.u32 (0), Value.string ⟨#[]⟩, Value.int IntKind.u64 (0), Value.int IntKind.u64 (0), Value.int IntKind.i64 (0), Value.int IntKind.i64 (0), Value.slice none 0 0], d := TD.struct [(0, 40), (69, 51)] } := by kernel_rfl
theorem ty111 : tyOf Go.Proofs.Tryz.prog 111 = { known := true, zero := [Value.nilFunc], d := TD.func } := by kernel_rfl
theorem ty112 : tyOf Go.Proofs.Tryz.prog 112 = { known := true, zero := [Value.nilFunc], d := TD.func } := by kernel_rfl
theorem ty113 : tyOf Go.Proofs.Tryz.prog 113 = { known := true, zero := [Value.nilFunc], d := TD.func } := by kernel_rfl
theorem ty114 : tyOf Go.Proofs.Tryz.prog 114 = { known := true, zero := [Value.nilFunc], d := TD.func } := by kernel_rfl
theorem ty115 : tyOf Go.Proofs.Tryz.prog 115 = { known := true, zero := [Value.nilFunc], d := TD.func } := by kernel_rfl
theorem ty116 : tyOf Go.Proofs.Tryz.prog 116 = { known := true, zero := [Value.nilFunc], d := TD.func } := by kernel_rfl
theorem ty117 : tyOf Go.Proofs.Tryz.prog 117 = { known := true, bytes := 0, zero := [Value.tuple ([Value.agg (List.toArray [Value.int IntKind.u16 (0), Value.slice none 0 0]), Value.int IntKind.i64 (0)]).toArray] } := by kernel_rfl
theorem ty118 : tyOf Go.Proofs.Tryz.prog 118 = { known := true, zero := [Value.nilFunc], d := TD.func } := by kernel_rfl
theorem ty119 : tyOf Go.Proofs.Tryz.prog 119 = { known := true, agg := true, size := 5, bytes := 24, zero := [Value.int IntKind.i64 (0), Value.int IntKind.u32 (0), Value.int IntKind.u32 (0), Value.bool false, Value.bool false], d := TD.struct [(0, 3), (1, 27), (2, 27), (3, 4), (4, 4)], eqs := true, eqk := [PK.int IntKind.i64, PK.int IntKind.u32, PK.int IntKind.u32, PK.bool, PK.bool] } := by kernel_rfl
theorem ty120 : tyOf Go.Proofs.Tryz.prog 120 = { known := true, agg := true, size := 5, bytes := 24, zero := [Value.int IntKind.i64 (0), Value.int IntKind.u32 (0), Value.int IntKind.u32 (0), Value.bool false, Value.bool false], d := TD.struct [(0, 3), (1, 27), (2, 27), (3, 4), (4, 4)], eqs := true, eqk := [PK.int IntKind.i64, PK.int IntKind.u32, PK.int IntKind.u32, PK.bool, PK.bool] } := by kernel_rfl
theorem ty121 : tyOf Go.Proofs.Tryz.prog 121 = { known := true, zero := [Value.nilFunc], d := TD.func } := by kernel_rfl
theorem ty122 : tyOf Go.Proofs.Tryz.prog 122 = { known := true, zero := [Value.int IntKind.i64 (0)], d := TD.int } := by kernel_rfl
theorem ty123 : tyOf Go.Proofs.Tryz.prog 123 = { known := true, bytes := 0, zero := [Value.tuple ([Value.slice none 0 0, Value.int IntKind.i64 (0)]).toArray] } := by kernel_rfl
theorem ty124 : tyOf Go.Proofs.Tryz.prog 124 = { known := true, zero := [Value.nilFunc], d := TD.func } := by kernel_rfl
theorem ty125 : tyOf Go.Proofs.Tryz.prog 125 = { known := true, zero := [Value.nilFunc], d := TD.func } := by kernel_rfl
theorem ty126 : tyOf Go.Proofs.Tryz.prog 126 = { known := true, zero := [Value.nilFunc], d := TD.func } := by kernel_rfl
theorem ty127 : tyOf Go.Proofs.Tryz.prog 127 = { known := true, zero := [Value.nilFunc], d := TD.func } := by kernel_rfl
theorem ty128 : tyOf Go.Proofs.Tryz.prog 128 = { known := true, zero := [Value.nilFunc], d := TD.func } := by kernel_rfl
theorem ty129 : tyOf Go.Proofs.Tryz.prog 129 = { known := true, zero := [Value.nilFunc], d := TD.func } := by kernel_rfl
theorem ty130 : tyOf Go.Proofs.Tryz.prog 130 = { known := true, bytes := 0, zero := [Value.tuple ([Value.slice none 0 0, Value.int IntKind.i64 (0)]).toArray] } := by kernel_rfl
theorem ty131 : tyOf Go.Proofs.Tryz.prog 131 = { known := true, zero := [Value.nilFunc], d := TD.func } := by kernel_rfl
theorem ty132 : tyOf Go.Proofs.Tryz.prog 132 = { known := true, agg := true, size := 2, bytes := 32, zero := [Value.int IntKind.u8 (0), Value.slice none 0 0], d := TD.struct [(0, 5), (1, 22)] } := by kernel_rfl
theorem ty133 : tyOf Go.Proofs.Tryz.prog 133 = { known := true, agg := true, size := 2, bytes := 32, zero := [Value.int IntKind.u8 (0), Value.slice none 0 0], d := TD.struct [(0, 5), (1, 22)] } := by kernel_rfl
theorem ty134 : tyOf Go.Proofs.Tryz.prog 134 = { known := true, zero := [Value.pointer none], d := TD.ptr } := by kernel_rfl
theorem ty135 : tyOf Go.Proofs.Tryz.prog 135 = { known := true, agg := true, size := 17, bytes := 192, zero := [Value.int IntKind.i64 (0), Value.int IntKind.i64 (0), Value.int IntKind.i64 (0), Value.int IntKind.u8 (0), Value.bool false, Value.int IntKind.u32 (0), Value.int IntKind.u32 (0), Value.int IntKind.u32 (0), Value.int IntKind.u32 (0), Value.slice none 0 0, Value.int IntKind.i64 (0), Value.slice none 0 0, Value.slice none 0 0, Value.slice none 0 0, Value.int IntKind.u8 (0), Value.int IntKind.u8 (0), Value.slice none 0 0], d := TD.struct [(0, 32), (12, 71), (13, 44), (14, 46)] } := by kernel_rfl
theorem ty136 : tyOf Go.Proofs.Tryz.prog 136 = { known := true, agg := true, size := 17, bytes := 192, zero := [Value.int IntKind.i64 (0), Value.int IntKind.i64 (0), Value.int IntKind.i64 (0), Value.int IntKind.u8 (0), Value.bool false, Value.int IntKind.u32 (0), Value.int IntKind.u32 (0), Value.int IntKind.u32 (0), Value.int IntKind.u32 (0), Value.slice none 0 0, Value.int IntKind.i64 (0), Value.slice none 0 0, Value.slice none 0 0, Value.slice none 0 0, Value.int IntKind.u8 (0), Value.int IntKind.u8 (0), Value.slice none 0 0], d := TD.struct [(0, 32), (12, 71), (13, 44), (14, 46)] } := by kernel_rfl
theorem ty137 : tyOf Go.Proofs.Tryz.prog 137 = { known := true, zero := [Value.nilFunc], d := TD.func } := by kernel_rfl
theorem ty138 : tyOf Go.Proofs.Tryz.prog 138 = { known := true, zero := [Value.nilFunc], d := TD.func } := by kernel_rfl
theorem ty139 : tyOf Go.Proofs.Tryz.prog 139 = { known := true, bytes := 0, zero := [Value.tuple ([Value.agg (List.toArray [Value.int IntKind.i64 (0), Value.int IntKind.i64 (0), Value.int IntKind.i64 (0), Value.int IntKind.u8 (0)]), Value.slice none 0 0]).toArray] } := by kernel_rfl
theorem ty140 : tyOf Go.Proofs.Tryz.prog 140 = { known := true, zero := [Value.nilFunc], d := TD.func } := by kernel_rfl
theorem ty141 : tyOf Go.Proofs.Tryz.prog 141 = { known := true, zero := [Value.nilFunc], d := TD.func } := by kernel_rfl
theorem ty142 : tyOf Go.Proofs.Tryz.prog 142 = { known := true, zero := [Value.nilFunc], d := TD.func } := by kernel_rfl
theorem ty143 : tyOf Go.Proofs.Tryz.prog 143 = { known := true, zero := [Value.nilFunc], d := TD.func } := by kernel_rfl
theorem ty144 : tyOf Go.Proofs.Tryz.prog 144 = { known := true, zero := [Value.nilFunc], d := TD.func } := by kernel_rfl
theorem ty145 : tyOf Go.Proofs.Tryz.prog 145 = { known := true, zero := [Value.map none], d := TD.map 5 144 } := by kernel_rfl
theorem ty146 : tyOf Go.Proofs.Tryz.prog 146 = { known := true, zero := [Value.nilFunc], d := TD.func } := by kernel_rfl
theorem ty147 : tyOf Go.Proofs.Tryz.prog 147 = { known := true, zero := [Value.nilFunc], d := TD.func } := by kernel_rfl
theorem ty148 : tyOf Go.Proofs.Tryz.prog 148 = { known := true, zero := [Value.nilFunc], d := TD.func } := by kernel_rfl
theorem ty149 : tyOf Go.Proofs.Tryz.prog 149 = { known := true, zero := [Value.nilFunc], d := TD.func } := by kernel_rfl
theorem ty150 : tyOf Go.Proofs.Tryz.prog 150 = { known := true, zero := [Value.nilFunc], d := TD.func } := by kernel_rfl
theorem ty151 : tyOf Go.Proofs.Tryz.prog 151 = { known := true, zero := [Value.nilFunc], d := TD.func } := by kernel_rfl
theorem ty152 : tyOf Go.Proofs.Tryz.prog 152 = { known := true, bytes := 0, zero := [Value.tuple { toList := [Value.agg ([Value.int IntKind.i64 (0), Value.int IntKind.i64 (0), Value.int IntKind.i64 (0), Value.int IntKind.u8 (0), Value.int IntKind.u8 (0), Value.int IntKind.u8 (0), Value.int IntKind.u8 (0), Value.int IntKind.u8 (0), Value.int IntKind.u8 (0), Value.int IntKind.u8 (0), Value.int IntKind.u8 (0), Value.int IntKind.u8 (0), Value.int IntKind.u8 (0), Value.int IntKind.u8 (0), Value.int IntKind.u8 (0), Value.int IntKind.u8 (0), Value.int IntKind.u8 (0), Value.int IntKind.u8 (0), Value.int IntKind.u8 (0), Value.int IntKind.u8 (0), Value.string { data := (List.toArray []) }, Value.int IntKind.u8 (0), Value.int IntKind.u8 (0), Value.int IntKind.u8 (0), Value.int IntKind.u8 (0), Value.int IntKind.u8 (0), Value.int IntKind.u8 (0), Value.int IntKind.u8 (0), Value.int IntKind.u8 (0), Value.int IntKind.u8 (0), Value.int IntKind.u8 (0), Value.int IntKind.u8 (0), Value.int IntKind.u8 (0), Value.int IntKind.u8 (0), Value.int IntKind.u8 (0), Value.int IntKind.u8 (0), Value.int IntKind.u8 (0)]).toArray, Value.agg ([Value.int IntKind.u8 (0), Value.int IntKind.u8 (0), Value.slice none 0 0]).toArray] }] } := by kernel_rfl
theorem ty153 : tyOf Go.Proofs.Tryz.prog 153 = { known := true, zero := [Value.nilFunc], d := TD.func } := by kernel_rfl
theorem ty154 : tyOf Go.Proofs.Tryz.prog 154 = { known := true, zero := [Value.nilFunc], d := TD.func } := by kernel_rfl
theorem ty155 : tyOf Go.Proofs.Tryz.prog 155 = { known := true, zero := [Value.nilFunc], d := TD.func } := by kernel_rfl
theorem ty156 : tyOf Go.Proofs.Tryz.prog 156 = { known := true, zero := [Value.nilFunc], d := TD.func } := by kernel_rfl
theorem ty157 : tyOf Go.Proofs.Tryz.prog 157 = { known := true, zero := [Value.nilFunc], d := TD.func } := by kernel_rfl
theorem ty158 : tyOf Go.Proofs.Tryz.prog 158 = { known := true, zero := [Value.nilFunc], d := TD.func } := by kernel_rfl
theorem ty159 : tyOf Go.Proofs.Tryz.prog 159 = { known := true, zero := [Value.nilFunc], d := TD.func } := by kernel_rfl
theorem ty160 : tyOf Go.Proofs.Tryz.prog 160 = { known := true, zero := [Value.nilFunc], d := TD.func } := by kernel_rfl
theorem ty161 : tyOf Go.Proofs.Tryz.prog 161 = { known := true, zero := [Value.map none], d := TD.map 55 160 } := by kernel_rfl
theorem ty162 : tyOf Go.Proofs.Tryz.prog 162 = { known := true, bytes := 0, zero := [Value.tuple ([Value.nilFunc, Value.bool false]).toArray] } := by kernel_rfl
theorem ty163 : tyOf Go.Proofs.Tryz.prog 163 = { known := true, zero := [Value.nilFunc], d := TD.func } := by kernel_rfl
theorem ty164 : tyOf Go.Proofs.Tryz.prog 164 = { known := true, bytes := 0, zero := [Value.tuple { toList := [Value.agg ([Value.int IntKind.i64 (0), Value.int IntKind.i64 (0), Value.int IntKind.i64 (0), Value.int IntKind.u8 (0), Value.int IntKind.u8 (0), Value.int IntKind.u8 (0), Value.int IntKind.u8 (0), Value.int IntKind.u8 (0), Value.int IntKind.u8 (0), Value.int IntKind.u8 (0), Value.int IntKind.u8 (0), Value.int IntKind.u8 (0), Value.int IntKind.u8 (0), Value.int IntKind.u8 (0), Value.int IntKind.u8 (0), Value.int IntKind.u8 (0), Value.int IntKind.u8 (0), Value.int IntKind.u8 (0), Value.int IntKind.u8 (0), Value.int IntKind.u8 (0), Value.string { data := (List.toArray []) }, Value.int IntKind.u8 (0), Value.int IntKind.u8 (0), Value.int IntKind.u8 (0), Value.int IntKind.u8 (0), Value.int IntKind.u8 (0), Value.int IntKind.u8 (0), Value.int IntKind.u8 (0), Value.int IntKind.u8 (0), Value.int IntKind.u8 (0), Value.int IntKind.u8 (0), Value.int IntKind.u8 (0), Value.int IntKind.u8 (0), Value.int IntKind.u8 (0), Value.int IntKind.u8 (0), Value.int IntKind.u8 (0), Value.int IntKind.u8 (0)]).toArray, Value.slice none 0 0] }] } := by kernel_rfl
theorem ty165 : tyOf Go.Proofs.Tryz.prog 165 = { known := true, zero := [Value.nilFunc], d := TD.func } := by kernel_rfl
theorem ty166 : tyOf Go.Proofs.Tryz.prog 166 = { known := true, bytes := 0, zero := [Value.tuple ([Value.agg (List.toArray [Value.int IntKind.u64 (0), Value.int IntKind.u64 (0), Value.int IntKind.i64 (0)]), Value.bool false]).toArray] } := by kernel_rfl
theorem ty167 : tyOf Go.Proofs.Tryz.prog 167 = { known := true, zero := [Value.nilFunc], d := TD.func } := by kernel_rfl
theorem ty168 : tyOf Go.Proofs.Tryz.prog 168 = { known := true, zero := [Value.nilFunc], d := TD.func } := by kernel_rfl
theorem ty169 : tyOf Go.Proofs.Tryz.prog 169 = { known := true, zero := [Value.nilFunc], d := TD.func } := by kernel_rfl
theorem ty170 : tyOf Go.Proofs.Tryz.prog 170 = { known := true, zero := [Value.nilFunc], d := TD.func } := by kernel_rfl
theorem ty171 : tyOf Go.Proofs.Tryz.prog 171 = { known := true, zero := [Value.nilFunc], d := TD.func } := by kernel_rfl
theorem ty172 : tyOf Go.Proofs.Tryz.prog 172 = { known := true, zero := [Value.nilFunc], d := TD.func } := by kernel_rfl
theorem ty173 : tyOf Go.Proofs.Tryz.prog 173 = { known := true, zero := [Value.nilFunc], d := TD.func } := by kernel_rfl
theorem ty174 : tyOf Go.Proofs.Tryz.prog 174 = { known := true, agg := true, size := 2, bytes := 16, zero := [Value.int IntKind.u64 (0), Value.int IntKind.u64 (0)], d := TD.array 2 36, eqs := true, eqk := [PK.int IntKind.u64, PK.int IntKind.u64] } := by kernel_rfl
theorem ty175 : tyOf Go.Proofs.Tryz.prog 175 = { known := true, zero := [Value.nilFunc], d := TD.func } := by kernel_rfl
theorem ty176 : tyOf Go.Proofs.Tryz.prog 176 = { known := true, bytes := 0, zero := [Value.tuple ([Value.int IntKind.u32 (0), Value.bool false]).toArray] } := by kernel_rfl
theorem ty177 : tyOf Go.Proofs.Tryz.prog 177 = { known := true, zero := [Value.nilFunc], d := TD.func } := by kernel_rfl
theorem ty178 : tyOf Go.Proofs.Tryz.prog 178 = { known := true, zero := [Value.nilFunc], d := TD.func } := by kernel_rfl
theorem ty179 : tyOf Go.Proofs.Tryz.prog 179 = { known := true, zero := [Value.nilFunc], d := TD.func } := by kernel_rfl
theorem ty180 : tyOf Go.Proofs.Tryz.prog 180 = { known := true, zero := [Value.nilFunc], d := TD.func } := by kernel_rfl
theorem ty181 : tyOf Go.Proofs.Tryz.prog 181 = { known := true, zero := [Value.nilFunc], d := TD.func } := by kernel_rfl
theorem ty182 : tyOf Go.Proofs.Tryz.prog 182 = { known := true, bytes := 0, zero := [Value.tuple ([Value.agg (List.toArray [Value.int IntKind.u8 (0), Value.slice none 0 0]), Value.bool false]).toArray] } := by kernel_rfl
theorem ty183 : tyOf Go.Proofs.Tryz.prog 183 = { known := true, zero := [Value.nilFunc], d := TD.func } := by kernel_rfl
theorem ty184 : tyOf Go.Proofs.Tryz.prog 184 = { known := true, zero := [Value.nilFunc], d := TD.func } := by kernel_rfl
theorem ty185 : tyOf Go.Proofs.Tryz.prog 185 = { known := true, zero := [Value.nilFunc], d := TD.func } := by kernel_rfl
theorem ty186 : tyOf Go.Proofs.Tryz.prog 186 = { known := true, zero := [Value.nilFunc], d := TD.func } := by kernel_rfl
theorem ty187 : tyOf Go.Proofs.Tryz.prog 187 = { known := true, zero := [Value.nilFunc], d := TD.func } := by kernel_rfl
theorem ty188 : tyOf Go.Proofs.Tryz.prog 188 = { known := true, zero := [Value.nilFunc], d := TD.func } := by kernel_rfl
theorem ty189 : tyOf Go.Proofs.Tryz.prog 189 = { known := true, bytes := 0, zero := [Value.tuple ([Value.agg (List.toArray [Value.int IntKind.i64 (0), Value.int IntKind.i64 (0), Value.int IntKind.i64 (0), Value.int IntKind.u8 (0)]), Value.slice none 0 0, Value.int IntKind.i64 (0)]).toArray] } := by kernel_rfl
theorem ty190 : tyOf Go.Proofs.Tryz.prog 190 = { known := true, zero := [Value.nilFunc], d := TD.func } := by kernel_rfl
theorem ty191 : tyOf Go.Proofs.Tryz.prog 191 = { known := true, agg := true, size := 2, bytes := 2, zero := [Value.int IntKind.u8 (0), Value.int IntKind.u8 (0)], d := TD.array 2 5, eqs := true, eqk := [PK.int IntKind.u8, PK.int IntKind.u8] } := by kernel_rfl
theorem ty192 : tyOf Go.Proofs.Tryz.prog 192 = { known := true, bytes := 0, zero := [Value.tuple ([Value.agg (List.toArray [Value.int IntKind.u8 (0), Value.int IntKind.u8 (0)]), Value.bool false]).toArray] } := by kernel_rfl
theorem ty193 : tyOf Go.Proofs.Tryz.prog 193 = { known := true, zero := [Value.map none], d := TD.map 55 191 } := by kernel_rfl
theorem ty194 : tyOf Go.Proofs.Tryz.prog 194 = { known := true, zero := [Value.nilFunc], d := TD.func } := by kernel_rfl
theorem ty195 : tyOf Go.Proofs.Tryz.prog 195 = { known := true, zero := [Value.nilFunc], d := TD.func } := by kernel_rfl
theorem ty196 : tyOf Go.Proofs.Tryz.prog 196 = { known := true, zero := [Value.nilFunc], d := TD.func } := by kernel_rfl
theorem ty197 : tyOf Go.Proofs.Tryz.prog 197 = { known := true, zero := [Value.nilFunc], d := TD.func } := by kernel_rfl
theorem ty198 : tyOf Go.Proofs.Tryz.prog 198 = { known := true, bytes := 0, zero := [Value.tuple ([Value.agg (List.toArray [Value.int IntKind.i64 (0), Value.int IntKind.i64 (0), Value.int IntKind.i64 (0), Value.int IntKind.u8 (0)]), Value.slice none 0 0, Value.int IntKind.i64 (0)]).toArray] } := by kernel_rfl
theorem ty199 : tyOf Go.Proofs.Tryz.prog 199 = { known := true, zero := [Value.nilFunc], d := TD.func } := by kernel_rfl
theorem ty200 : tyOf Go.Proofs.Tryz.prog 200 = { known := true, zero := [Value.nilFunc], d := TD.func } := by kernel_rfl
theorem ty201 : tyOf Go.Proofs.Tryz.prog 201 = { known := true, bytes := 0, zero := [Value.tuple ([Value.slice none 0 0, Value.int IntKind.i64 (0)]).toArray] } := by kernel_rfl
theorem ty202 : tyOf Go.Proofs.Tryz.prog 202 = { known := true, zero := [Value.nilFunc], d := TD.func } := by kernel_rfl
theorem ty203 : tyOf Go.Proofs.Tryz.prog 203 = { known := true, bytes := 0, zero := [Value.tuple ([Value.int IntKind.u8 (0), Value.slice none 0 0]).toArray] } := by kernel_rfl
theorem ty204 : tyOf Go.Proofs.Tryz.prog 204 = { known := true, zero := [Value.nilFunc], d := TD.func } := by kernel_rfl
theorem ty205 : tyOf Go.Proofs.Tryz.prog 205 = { known := true, bytes := 0, zero := [Value.tuple ([Value.slice none 0 0, Value.bool false]).toArray] } := by kernel_rfl
theorem ty206 : tyOf Go.Proofs.Tryz.prog 206 = { known := true, zero := [Value.nilFunc], d := TD.func } := by kernel_rfl
theorem ty207 : tyOf Go.Proofs.Tryz.prog 207 = { known := true, zero := [Value.nilFunc], d := TD.func } := by kernel_rfl
theorem ty208 : tyOf Go.Proofs.Tryz.prog 208 = { known := true, zero := [Value.nilFunc], d := TD.func } := by kernel_rfl
theorem ty209 : tyOf Go.Proofs.Tryz.prog 209 = { known := true, bytes := 0, zero := [Value.tuple ([Value.agg (List.toArray [Value.int IntKind.u8 (0), Value.int IntKind.u8 (0), Value.slice none 0 0]), Value.int IntKind.i64 (0)]).toArray] } := by kernel_rfl
theorem ty210 : tyOf Go.Proofs.Tryz.prog 210 = { known := true, zero := [Value.nilFunc], d := TD.func } := by kernel_rfl
theorem ty211 : tyOf Go.Proofs.Tryz.prog 211 = { known := true, zero := [Value.int IntKind.u64 (0)], d := TD.int } := by kernel_rfl
theorem ty212 : tyOf Go.Proofs.Tryz.prog 212 = { known := true, zero := [Value.nilFunc], d := TD.func } := by kernel_rfl
theorem ty213 : tyOf Go.Proofs.Tryz.prog 213 = { known := true, zero := [Value.nilFunc], d := TD.func } := by kernel_rfl
theorem ty214 : tyOf Go.Proofs.Tryz.prog 214 = { known := true, zero := [Value.nilFunc], d := TD.func } := by kernel_rfl
theorem ty215 : tyOf Go.Proofs.Tryz.prog 215 = { known := true, zero := [Value.nilFunc], d := TD.func } := by kernel_rfl
theorem ty216 : tyOf Go.Proofs.Tryz.prog 216 = { known := true, zero := [Value.nilFunc], d := TD.func } := by kernel_rfl
theorem ty217 : tyOf Go.Proofs.Tryz.prog 217 = { known := true, zero := [Value.nilFunc], d := TD.func } := by kernel_rfl
theorem ty218 : tyOf Go.Proofs.Tryz.prog 218 = { known := true, agg := true, size := 3, bytes := 24, zero := [Value.int IntKind.i64 (0), Value.nilFunc, Value.int IntKind.u32 (0)], d := TD.struct [(0, 3), (1, 217), (2, 27)] } := by kernel_rfl
theorem ty219 : tyOf Go.Proofs.Tryz.prog 219 = { known := true, agg := true, size := 3, bytes := 24, zero := [Value.int IntKind.i64 (0), Value.nilFunc, Value.int IntKind.u32 (0)], d := TD.struct [(0, 3), (1, 217), (2, 27)] } := by kernel_rfl
theorem ty220 : tyOf Go.Proofs.Tryz.prog 220 = { known := true, bytes := 0, zero := [Value.tuple ([Value.agg (List.toArray [Value.int IntKind.i64 (0), Value.nilFunc, Value.int IntKind.u32 (0)]), Value.bool false]).toArray] } := by kernel_rfl
theorem ty221 : tyOf Go.Proofs.Tryz.prog 221 = { known := true, zero := [Value.nilFunc], d := TD.func } := by kernel_rfl
theorem ty222 : tyOf Go.Proofs.Tryz.prog 222 = { known := true, agg := true, size := 2, bytes := 2, zero := [Value.bool false, Value.bool false], d := TD.array 2 4, eqs := true, eqk := [PK.bool, PK.bool] } := by kernel_rfl
theorem ty223 : tyOf Go.Proofs.Tryz.prog 223 = { known := true, zero := [Value.nilFunc], d := TD.func } := by kernel_rfl
theorem ty224 : tyOf Go.Proofs.Tryz.prog 224 = { known := true, zero := [Value.map none], d := TD.map 222 22 } := by kernel_rfl
theorem ty225 : tyOf Go.Proofs.Tryz.prog 225 = { known := true, zero := [Value.nilFunc], d := TD.func } := by kernel_rfl
theorem ty226 : tyOf Go.Proofs.Tryz.prog 226 = { known := true, zero := [Value.nilFunc], d := TD.func } := by kernel_rfl
theorem ty227 : tyOf Go.Proofs.Tryz.prog 227 = { known := true, bytes := 0, zero := [Value.tuple ([Value.agg (List.toArray [Value.int IntKind.u8 (0), Value.slice none 0 0]), Value.int IntKind.i64 (0)]).toArray] } := by kernel_rfl
theorem ty228 : tyOf Go.Proofs.Tryz.prog 228 = { known := true, zero := [Value.nilFunc], d := TD.func } := by kernel_rfl
theorem ty229 : tyOf Go.Proofs.Tryz.prog 229 = { known := true, zero := [Value.nilFunc], d := TD.func } := by kernel_rfl
theorem ty230 : tyOf Go.Proofs.Tryz.prog 230 = { known := true, zero := [Value.nilFunc], d := TD.func } := by kernel_rfl
theorem ty231 : tyOf Go.Proofs.Tryz.prog 231 = { known := true, bytes := 0, zero := [Value.tuple ([Value.slice none 0 0, Value.int IntKind.i64 (0), Value.bool false]).toArray] } := by kernel_rfl
theorem ty232 : tyOf Go.Proofs.Tryz.prog 232 = { known := true, zero := [Value.nilFunc], d := TD.func } := by kernel_rfl
theorem ty233 : tyOf Go.Proofs.Tryz.prog 233 = { known := true, zero := [Value.pointer none], d := TD.ptr } := by kernel_rfl
theorem ty234 : tyOf Go.Proofs.Tryz.prog 234 = { known := true, agg := true, size := 5, bytes := 56, zero := [Value.int IntKind.i64 (0), Value.int IntKind.i64 (0), Value.int IntKind.i64 (0), Value.int IntKind.u8 (0), Value.slice none 0 0], d := TD.struct [(0, 26), (4, 44)] } := by kernel_rfl
theorem ty235 : tyOf Go.Proofs.Tryz.prog 235 = { known := true, agg := true, size := 5, bytes := 56, zero := [Value.int IntKind.i64 (0), Value.int IntKind.i64 (0), Value.int IntKind.i64 (0), Value.int IntKind.u8 (0), Value.slice none 0 0], d := TD.struct [(0, 26), (4, 44)] } := by kernel_rfl
theorem ty236 : tyOf Go.Proofs.Tryz.prog 236 = { known := true, zero := [Value.map none], d := TD.map 3 1 } := by kernel_rfl
theorem ty237 : tyOf Go.Proofs.Tryz.prog 237 = { known := true, bytes := 0, zero := [Value.tuple ([Value.nilFunc, Value.bool false]).toArray] } := by kernel_rfl
theorem ty238 : tyOf Go.Proofs.Tryz.prog 238 = { known := true, bytes := 0, zero := [Value.tuple ([Value.slice none 0 0, Value.int IntKind.i64 (0)]).toArray] } := by kernel_rfl
theorem ty239 : tyOf Go.Proofs.Tryz.prog 239 = { known := true, zero := [Value.nilFunc], d := TD.func } := by kernel_rfl
theorem ty240 : tyOf Go.Proofs.Tryz.prog 240 = { known := true, zero := [Value.nilFunc], d := TD.func } := by kernel_rfl
theorem ty241 : tyOf Go.Proofs.Tryz.prog 241 = { known := true, zero := [Value.nilFunc], d := TD.func } := by kernel_rfl
theorem ty242 : tyOf Go.Proofs.Tryz.prog 242 = { known := true, zero := [Value.nilFunc], d := TD.func } := by kernel_rfl
theorem ty243 : tyOf Go.Proofs.Tryz.prog 243 = { known := true, zero := [Value.nilFunc], d := TD.func } := by kernel_rfl
theorem ty244 : tyOf Go.Proofs.Tryz.prog 244 = { known := true, zero := [Value.nilFunc], d := TD.func } := by kernel_rfl
theorem ty245 : tyOf Go.Proofs.Tryz.prog 245 = { known := true, zero := [Value.nilFunc], d := TD.func } := by kernel_rfl
theorem ty246 : tyOf Go.Proofs.Tryz.prog 246 = { known := true, zero := [Value.nilFunc], d := TD.func } := by kernel_rfl
theorem ty247 : tyOf Go.Proofs.Tryz.prog 247 = { known := true, zero := [Value.nilFunc], d := TD.func } := by kernel_rfl
theorem ty248 : tyOf Go.Proofs.Tryz.prog 248 = { known := true, zero := [Value.nilFunc], d := TD.func } := by kernel_rfl
theorem ty249 : tyOf Go.Proofs.Tryz.prog 249 = { known := true, zero := [Value.nilFunc], d := TD.func } := by kernel_rfl
theorem ty250 : tyOf Go.Proofs.Tryz.prog 250 = { known := true, zero := [Value.map none], d := TD.map 5 219 } := by kernel_rfl
theorem ty251 : tyOf Go.Proofs.Tryz.prog 251 = { known := true, zero := [Value.nilFunc], d := TD.func } := by kernel_rfl
theorem ty252 : tyOf Go.Proofs.Tryz.prog 252 = { known := true, zero := [Value.nilFunc], d := TD.func } := by kernel_rfl
theorem ty253 : tyOf Go.Proofs.Tryz.prog 253 = { known := true, zero := [Value.nilFunc], d := TD.func } := by kernel_rfl
theorem ty254 : tyOf Go.Proofs.Tryz.prog 254 = { known := true, zero := [Value.nilFunc], d := TD.func } := by kernel_rfl
theorem ty255 : tyOf Go.Proofs.Tryz.prog 255 = { known := true, zero := [Value.map none], d := TD.map 21 3 } := by kernel_rfl
theorem ty256 : tyOf Go.Proofs.Tryz.prog 256 = { known := true, zero := [Value.nilFunc], d := TD.func } := by kernel_rfl
theorem ty257 : tyOf Go.Proofs.Tryz.prog 257 = { known := true, bytes := 24, zero := [Value.slice none 0 0], d := TD.slice 9 } := by kernel_rfl
theorem ty258 : tyOf Go.Proofs.Tryz.prog 258 = { known := true, zero := [Value.nilFunc], d := TD.func } := by kernel_rfl
theorem ty259 : tyOf Go.Proofs.Tryz.prog 259 = { known := true, agg := true, size := 16, bytes := 256, zero := [Value.string ⟨#[]⟩, Value.string ⟨#[]⟩, Value.string ⟨#[]⟩, Value.string ⟨#[]⟩, Value.string ⟨#[]⟩, Value.string ⟨#[]⟩, Value.string ⟨#[]⟩, Value.string ⟨#[]⟩, Value.string ⟨#[]⟩, Value.string ⟨#[]⟩, Value.string ⟨#[]⟩, Value.string ⟨#[]⟩, Value.string ⟨#[]⟩, Value.string ⟨#[]⟩, Value.string ⟨#[]⟩, Value.string ⟨#[]⟩], d := TD.array 16 9, eqs := true, eqk := [PK.str, PK.str, PK.str, PK.str, PK.str, PK.str, PK.str, PK.str, PK.str, PK.str, PK.str, PK.str, PK.str, PK.str, PK.str, PK.str] } := by kernel_rfl
theorem ty260 : tyOf Go.Proofs.Tryz.prog 260 = { known := true, zero := [Value.nilFunc], d := TD.func } := by kernel_rfl
theorem ty261 : tyOf Go.Proofs.Tryz.prog 261 = { known := true, zero := [Value.nilFunc], d := TD.func } := by kernel_rfl
theorem ty262 : tyOf Go.Proofs.Tryz.prog 262 = { known := true, zero := [Value.nilFunc], d := TD.func } := by kernel_rfl
theorem ty263 : tyOf Go.Proofs.Tryz.prog 263 = { known := true, zero := [Value.nilFunc], d := TD.func } := by kernel_rfl
theorem ty264 : tyOf Go.Proofs.Tryz.prog 264 = { known := true, zero := [Value.nilFunc], d := TD.func } := by kernel_rfl
theorem ty265 : tyOf Go.Proofs.Tryz.prog 265 = { known := true, zero := [Value.nilFunc], d := TD.func } := by kernel_rfl
theorem ty266 : tyOf Go.Proofs.Tryz.prog 266 = { known := true, zero := [Value.nilFunc], d := TD.func } := by kernel_rfl
theorem ty267 : tyOf Go.Proofs.Tryz.prog 267 = { known := true, zero := [Value.nilFunc], d := TD.func } := by kernel_rfl
theorem ty268 : tyOf Go.Proofs.Tryz.prog 268 = { known := true, zero := [Value.nilFunc], d := TD.func } := by kernel_rfl
theorem ty269 : tyOf Go.Proofs.Tryz.prog 269 = { known := true, zero := [Value.nilFunc], d := TD.func } := by kernel_rfl
theorem ty270 : tyOf Go.Proofs.Tryz.prog 270 = { known := true, zero := [Value.nilFunc], d := TD.func } := by kernel_rfl
theorem ty271 : tyOf Go.Proofs.Tryz.prog 271 = { known := true, agg := true, size := 256, bytes := 256, zero := [Value.int IntKind.u8 (0), Value.int IntKind.u8 (0), Value.int IntKind.u8 (0), Value.int IntKind.u8 (0), Value.int IntKind.u8 (0), Value.int IntKind.u8 (0), Value.int IntKind.u8 (0), Value.int IntKind.u8 (0), Value.int IntKind.u8 (0), Value.int IntKind.u8 (0), Value.int IntKind.u8 (0), Value.int IntKind.u8 (0), Value.int IntKind.u8 (0), Value.int IntKind.u8 (0), Value.int IntKind.u8 (0), Value.int IntKind.u8 (0), Value.int IntKind.u8 (0), Value.int IntKind.u8 (0), Value.int IntKind.u8 (0), Value.int IntKind.u8 (0), Value.int IntKind.u8 (0), Value.int IntKind.u8 (0), Value.int IntKind.u8 (0), Value.int IntKind.u8 (0), Value.int IntKind.u8 (0), Value.int IntKind.u8 (0), Value.int IntKind.u8 (0), Value.int IntKind.u8 (0), Value.int IntKind.u8 (0), Value.int IntKind.u8 (0), Value.int IntKind.u8 (0), Value.int IntKind.u8 (0), Value.int IntKind.u8 (0), Value.int IntKind.u8 (0), Value.int IntKind.u8 (0), Value.int IntKind.u8 (0), Value.int IntKind.u8 (0), Value.int IntKind.u8 (0), Value.int IntKind.u8 (0), Value.int IntKind.u8 (0), Value.int IntKind.u8 (0), Value.int IntKind.u8 (0), Value.int IntKind.u8 (0), Value.int IntKind.u8 (0), Value.int IntKind.u8 (0), Value.int IntKind.u8 (0), Value.int IntKind.u8 (0), Value.int IntKind.u8 (0), Value.int IntKind.u8 (0), Value.int IntKind.u8 (0), Value.int IntKind.u8 (0), Value.int IntKind.u8 (0), Value.int IntKind.u8 (0), Value.int IntKind.u8 (0), Value.int IntKind.u8 (0), Value.int IntKind.u8 (0), Value.int IntKind.u8 (0), Value.int IntKind.u8 (0), Value.int IntKind.u8 (0), Value.int IntKind.u8 (0), Value.int IntKind.u8 (0), Value.int IntKind.u8 (0), Value.int IntKind.u8 (0), Value.int IntKind.u8 (0), Value.int IntKind.u8 (0), Value.int IntKind.u8 (0), Value.int IntKind.u8 (0), Value.int IntKind.u8 (0), Value.int IntKind.u8 (0), Value.int IntKind.u8 (0), Value.int IntKind.u8 (0), Value.int IntKind.u8 (0), Value.int IntKind.u8 (0), Value.int IntKind.u8 (0), Value.int IntKind.u8 (0), Value.int IntKind.u8 (0), Value.int IntKind.u8 (0), Value.int IntKind.u8 (0), Value.int IntKind.u8 (0), Value.int IntKind.u8 (0), Value.int IntKind.u8 (0), Value.int IntKind.u8 (0), Value.int IntKind.u8 (0), Value.int IntKind.u8 (0), Value.int IntKind.u8 (0), Value.int IntKind.u8 (0), Value.int IntKind.u8 (0), Value.int IntKind.u8 (0), Value.int IntKind.u8 (0), Value.int IntKind.u8 (0), Value.int IntKind.u8 (0), Value.int IntKind.u8 (0), Value.int IntKind.u8 (0), Value.int IntKind.u8 (0), Value.int IntKind.u8 (0), Value.int IntKind.u8 (0), Value.int IntKind.u8 (0), Value.int IntKind.u8 (0), Value.int IntKind.u8 (0), Value.int IntKind.u8 (0), Value.int IntKind.u8 (0), Value.int IntKind.u8 (0), Value.int IntKind.u8 (0), Value.int IntKind.u8 (0), Value.int IntKind.u8 (0), Value.int IntKind.u8 (0), Value.int IntKind.u8 (0), Value.int IntKind.u8 (0), Value.int IntKind.u8 (0), Value.int IntKind.u8 (0), Value.int IntKind.u8 (0), Value.int IntKind.u8 (0), Value.int IntKind.u8 (0), Value.int IntKind.u8 (0), Value.int IntKind.u8 (0), Value.int IntKind.u8 (0), Value.int IntKind.u8 (0), Value.int IntKind.u8 (0), Value.int IntKind.u8 (0), Value.int IntKind.u8 (0), Value.int IntKind.u8 (0), Value.int IntKind.u8 (0), Value.int IntKind.u8 (0), Value.int IntKind.u8 (0), Value.int IntKind.u8 (0), Value.int IntKind.u8 (0), Value.int IntKind.u8 (0), Value.int IntKind.u8 (0), Value.int IntKind.u8 (0), Value.int IntKind.u8 (0), Value.int IntKind.u8 (0), Value.int IntKind.u8 (0), Value.int IntKind.u8 (0), Value.int IntKind.u8 (0), Value.int IntKind.u8 (0), Value.int IntKind.u8 (0), Value.int IntKind.u8 (0), Value.int IntKind.u8 (0), Value.int IntKind.u8 (0), Value.int IntKind.u8 (0), Value.int IntKind.u8 (0), Value.int IntKind.u8 (0), Value.int IntKind.u8 (0), Value.int IntKind.u8 (0), Value.int IntKind.u8 (0), Value.int IntKind.u8 (0), Value.int IntKind.u8 (0), Value.int IntKind.u8 (0), Value.int IntKind.u8 (0), Value.int IntKind.u8 (0), Value.int IntKind.u8 (0), Value.int IntKind.u8 (0), Value.int IntKind.u8 (0), Value.int IntKind.u8 (0), Value.int IntKind.u8 (0), Value.int IntKind.u8 (0), Value.int IntKind.u8 (0), Value.int IntKind.u8 (0), Value.int IntKind.u8 (0), Value.int IntKind.u8 (0), Value.int IntKind.u8 (0), Value.int IntKind.u8 (0), Value.int IntKind.u8 (0), Value.int IntKind.u8 (0), Value.int IntKind.u8 (0), Value.int IntKind.u8 (0), Value.int IntKind.u8 (0), Value.int IntKind.u8 (0), Value.int IntKind.u8 (0), Value.int IntKind.u8 (0), Value.int IntKind.u8 (0), Value.int IntKind.u8 (0), Value.int IntKind.u8 (0), Value.int IntKind.u8 (0), Value.int IntKind.u8 (0), Value.int IntKind.u8 (0), Value.int IntKind.u8 (0), Value.int IntKind.u8 (0), Value.int IntKind.u8 (0), Value.int IntKind.u8 (0), Value.int IntKind.u8 (0), Value.int IntKind.u8 (0), Value.int IntKind.u8 (0), Value.int IntKind.u8 (0), Value.int IntKind.u8 (0), Value.int IntKind.u8 (0), Value.int IntKind.u8 (0), Value.int IntKind.u8 (0), Value.int IntKind.u8 (0), Value.int IntKind.u8 (0), Value.int IntKind.u8 (0), Value.int IntKind.u8 (0), Value.int IntKind.u8 (0), Value.int IntKind.u8 (0), Value.int IntKind.u8 (0), Value.int IntKind.u8 (0), Value.int IntKind.u8 (0), Value.int IntKind.u8 (0), Value.int IntKind.u8 (0), Value.int IntKind.u8 (0), Value.int IntKind.u8 (0), Value.int IntKind.u8 (0), Value.int IntKind.u8 (0), Value.int IntKind.u8 (0), Value.int IntKind.u8 (0), Value.int IntKind.u8 (0), Value.int IntKind.u8 (0), Value.int IntKind.u8 (0), Value.int IntKind.u8 (0), Value.int IntKind.u8 (0), Value.int IntKind.u8 (0), Value.int IntKind.u8 (0), Value.int IntKind.u8 (0), Value.int IntKind.u8 (0), Value.int IntKind.u8 (0), Value.int IntKind.u8 (0), Value.int IntKind.u8 (0), Value.int IntKind.u8 (0), Value.int IntKind.u8 (0), Value.int IntKind.u8 (0), Value.int IntKind.u8 (0), Value.int IntKind.u8 (0), Value.int IntKind.u8 (0), Value.int IntKind.u8 (0), Value.int IntKind.u8 (0), Value.int IntKind.u8 (0), Value.int IntKind.u8 (0), Value.int IntKind.u8 (0), Value.int IntKind.u8 (0), Value.int IntKind.u8 (0), Value.int IntKind.u8 (0), Value.int IntKind.u8 (0), Value.int IntKind.u8 (0), Value.int IntKind.u8 (0), Value.int IntKind.u8 (0), Value.int IntKind.u8 (0), Value.int IntKind.u8 (0), Value.int IntKind.u8 (0), Value.int IntKind.u8 (0), Value.int IntKind.u8 (0), Value.int IntKind.u8 (0), Value.int IntKind.u8 (0), Value.int IntKind.u8 (0), Value.int IntKind.u8 (0), Value.int IntKind.u8 (0), Value.int IntKind.u8 (0), Value.int IntKind.u8 (0), Value.int IntKind.u8 (0), Value.int IntKind.u8 (0), Value.int IntKind.u8 (0), Value.int IntKind.u8 (0), Value.int IntKind.u8 (0), Value.int IntKind.u8 (0), Value.int IntKind.u8 (0), Value.int IntKind.u8 (0), Value.int IntKind.u8 (0)], d := TD.array 256 5, eqs := true, eqk := [PK.int IntKind.u8, PK.int IntKind.u8, PK.int IntKind.u8, PK.int IntKind.u8, PK.int IntKind.u8, PK.int IntKind.u8, PK.int IntKind.u8, PK.int IntKind.u8, PK.int IntKind.u8, PK.int IntKind.u8, PK.int IntKind.u8, PK.int IntKind.u8, PK.int IntKind.u8, PK.int IntKind.u8, PK.int IntKind.u8, PK.int IntKind.u8, PK.int IntKind.u8, PK.int IntKind.u8, PK.int IntKind.u8, PK.int IntKind.u8, PK.int IntKind.u8, PK.int IntKind.u8, PK.int IntKind.u8, PK.int IntKind.u8, PK.int IntKind.u8, PK.int IntKind.u8, PK.int IntKind.u8, PK.int IntKind.u8, PK.int IntKind.u8, PK.int IntKind.u8, PK.int IntKind.u8, PK.int IntKind.u8, PK.int IntKind.u8, PK.int IntKind.u8, PK.int IntKind.u8, PK.int IntKind.u8, PK.int IntKind.u8, PK.int IntKind.u8, PK.int IntKind.u8, PK.int IntKind.u8, PK.int IntKind.u8, PK.int IntKind.u8, PK.int IntKind.u8, PK.int IntKind.u8, PK.int IntKind.u8, PK.int IntKind.u8, PK.int IntKind.u8, PK.int IntKind.u8, PK.int IntKind.u8, PK.int IntKind.u8, PK.int IntKind.u8, PK.int IntKind.u8, PK.int IntKind.u8, PK.int IntKind.u8, PK.int IntKind.u8, PK.int IntKind.u8, PK.int IntKind.u8, PK.int IntKind.u8, PK.int IntKind.u8, PK.int IntKind.u8, PK.int IntKind.u8, PK.int IntKind.u8, PK.int IntKind.u8, PK.int IntKind.u8, PK.int IntKind.u8, PK.int IntKind.u8, PK.int IntKind.u8, PK.int IntKind.u8, PK.int IntKind.u8, PK.int IntKind.u8, PK.int IntKind.u8, PK.int IntKind.u8, PK.int IntKind.u8, PK.int IntKind.u8, PK.int IntKind.u8, PK.int IntKind.u8, PK.int IntKind.u8, PK.int IntKind.u8, PK.int IntKind.u8, PK.int IntKind.u8, PK.int IntKind.u8, PK.int IntKind.u8, PK.int IntKind.u8, PK.int IntKind.u8, PK.int IntKind.u8, PK.int IntKind.u8, PK.int IntKind.u8, PK.int IntKind.u8, PK.int IntKind.u8, PK.int IntKind.u8, PK.int IntKind.u8, PK.int IntKind.u8, PK.int IntKind.u8, PK.int IntKind.u8, PK.int IntKind.u8, PK.int IntKind.u8, PK.int IntKind.u8, PK.int IntKind.u8, PK.int IntKind.u8, PK.int IntKind.u8, PK.int IntKind.u8, PK.int IntKind.u8, PK.int IntKind.u8, PK.int IntKind.u8, PK.int IntKind.u8, PK.int IntKind.u8, PK.int IntKind.u8, PK.int IntKind.u8, PK.int IntKind.u8, PK.int IntKind.u8, PK.int IntKind.u8, PK.int IntKind.u8, PK.int IntKind.u8, PK.int IntKind.u8, PK.int IntKind.u8, PK.int IntKind.u8, PK.int IntKind.u8, PK.int IntKind.u8, PK.int IntKind.u8, PK.int IntKind.u8, PK.int IntKind.u8, PK.int IntKind.u8, PK.int IntKind.u8, PK.int IntKind.u8, PK.int IntKind.u8, PK.int IntKind.u8, PK.int IntKind.u8, PK.int IntKind.u8, PK.int IntKind.u8, PK.int IntKind.u8, PK.int IntKind.u8, PK.int IntKind.u8, PK.int IntKind.u8, PK.int IntKind.u8, PK.int IntKind.u8, PK.int IntKind.u8, PK.int IntKind.u8, PK.int IntKind.u8, PK.int IntKind.u8, PK.int IntKind.u8, PK.int IntKind.u8, PK.int IntKind.u8, PK.int IntKind.u8, PK.int IntKind.u8, PK.int IntKind.u8, PK.int IntKind.u8, PK.int IntKind.u8, PK.int IntKind.u8, PK.int IntKind.u8, PK.int IntKind.u8, PK.int IntKind.u8, PK.int IntKind.u8, PK.int IntKind.u8, PK.int IntKind.u8, PK.int IntKind.u8, PK.int IntKind.u8, PK.int IntKind.u8, PK.int IntKind.u8, PK.int IntKind.u8, PK.int IntKind.u8, PK.int IntKind.u8, PK.int IntKind.u8, PK.int IntKind.u8, PK.int IntKind.u8, PK.int IntKind.u8, PK.int IntKind.u8, PK.int IntKind.u8, PK.int IntKind.u8, PK.int IntKind.u8, PK.int IntKind.u8, PK.int IntKind.u8, PK.int IntKind.u8, PK.int IntKind.u8, PK.int IntKind.u8, PK.int IntKind.u8, PK.int IntKind.u8, PK.int IntKind.u8, PK.int IntKind.u8, PK.int IntKind.u8, PK.int IntKind.u8, PK.int IntKind.u8, PK.int IntKind.u8, PK.int IntKind.u8, PK.int IntKind.u8, PK.int IntKind.u8, PK.int IntKind.u8, PK.int IntKind.u8, PK.int IntKind.u8, PK.int IntKind.u8, PK.int IntKind.u8, PK.int IntKind.u8, PK.int IntKind.u8, PK.int IntKind.u8, PK.int IntKind.u8, PK.int IntKind.u8, PK.int IntKind.u8, PK.int IntKind.u8, PK.int IntKind.u8, PK.int IntKind.u8, PK.int IntKind.u8, PK.int IntKind.u8, PK.int IntKind.u8, PK.int IntKind.u8, PK.int IntKind.u8, PK.int IntKind.u8, PK.int IntKind.u8, PK.int IntKind.u8, PK.int IntKind.u8, PK.int IntKind.u8, PK.int IntKind.u8, PK.int IntKind.u8, PK.int IntKind.u8, PK.int IntKind.u8, PK.int IntKind.u8, PK.int IntKind.u8, PK.int IntKind.u8, PK.int IntKind.u8, PK.int IntKind.u8, PK.int IntKind.u8, PK.int IntKind.u8, PK.int IntKind.u8, PK.int IntKind.u8, PK.int IntKind.u8, PK.int IntKind.u8, PK.int IntKind.u8, PK.int IntKind.u8, PK.int IntKind.u8, PK.int IntKind.u8, PK.int IntKind.u8, PK.int IntKind.u8, PK.int IntKind.u8, PK.int IntKind.u8, PK.int IntKind.u8, PK.int IntKind.u8, PK.int IntKind.u8, PK.int IntKind.u8, PK.int IntKind.u8, PK.int IntKind.u8, PK.int IntKind.u8, PK.int IntKind.u8, PK.int IntKind.u8, PK.int IntKind.u8, PK.int IntKind.u8, PK.int IntKind.u8, PK.int IntKind.u8, PK.int IntKind.u8, PK.int IntKind.u8, PK.int IntKind.u8, PK.int IntKind.u8, PK.int IntKind.u8, PK.int IntKind.u8, PK.int IntKind.u8, PK.int IntKind.u8, PK.int IntKind.u8, PK.int IntKind.u8, PK.int IntKind.u8] } := by kernel_rfl
theorem ty272 : tyOf Go.Proofs.Tryz.prog 272 = { known := true, zero := [Value.nilFunc], d := TD.func } := by kernel_rfl
theorem ty273 : tyOf Go.Proofs.Tryz.prog 273 = { known := true, zero := [Value.nilFunc], d := TD.func } := by kernel_rfl
theorem ty274 : tyOf Go.Proofs.Tryz.prog 274 = { known := true, zero := [Value.nilFunc], d := TD.func } := by kernel_rfl
theorem ty275 : tyOf Go.Proofs.Tryz.prog 275 = { known := true, bytes := 24, zero := [Value.slice none 0 0], d := TD.slice 277 } := by kernel_rfl
theorem ty276 : tyOf Go.Proofs.Tryz.prog 276 = { known := true, agg := true, size := 2, bytes := 16, zero := [Value.int IntKind.i64 (0), Value.int IntKind.i64 (0)], d := TD.struct [(0, 3), (1, 3)], eqs := true, eqk := [PK.int IntKind.i64, PK.int IntKind.i64] } := by kernel_rfl
theorem ty277 : tyOf Go.Proofs.Tryz.prog 277 = { known := true, agg := true, size := 2, bytes := 16, zero := [Value.int IntKind.i64 (0), Value.int IntKind.i64 (0)], d := TD.struct [(0, 3), (1, 3)], eqs := true, eqk := [PK.int IntKind.i64, PK.int IntKind.i64] } := by kernel_rfl
theorem ty278 : tyOf Go.Proofs.Tryz.prog 278 = { known := true, zero := [Value.nilFunc], d := TD.func } := by kernel_rfl
theorem ty279 : tyOf Go.Proofs.Tryz.prog 279 = { known := true, zero := [Value.pointer none], d := TD.ptr } := by kernel_rfl
theorem ty280 : tyOf Go.Proofs.Tryz.prog 280 = { known := true, bytes := 24, zero := [Value.slice none 0 0], d := TD.slice 285 } := by kernel_rfl
theorem ty281 : tyOf Go.Proofs.Tryz.prog 281 = { known := true, bytes := 24, zero := [Value.slice none 0 0], d := TD.slice 288 } := by kernel_rfl
theorem ty282 : tyOf Go.Proofs.Tryz.prog 282 = { known := true, agg := true, size := 3, bytes := 56, zero := [Value.slice none 0 0, Value.slice none 0 0, Value.int IntKind.i64 (0)], d := TD.struct [(0, 280), (1, 281), (2, 3)] } := by kernel_rfl
theorem ty283 : tyOf Go.Proofs.Tryz.prog 283 = { known := true, agg := true, size := 3, bytes := 56, zero := [Value.slice none 0 0, Value.slice none 0 0, Value.int IntKind.i64 (0)], d := TD.struct [(0, 280), (1, 281), (2, 3)] } := by kernel_rfl
theorem ty284 : tyOf Go.Proofs.Tryz.prog 284 = { known := true, agg := true, size := 3, bytes := 6, zero := [Value.int IntKind.u16 (0), Value.int IntKind.u16 (0), Value.int IntKind.u16 (0)], d := TD.struct [(0, 55), (1, 55), (2, 55)], eqs := true, eqk := [PK.int IntKind.u16, PK.int IntKind.u16, PK.int IntKind.u16] } := by kernel_rfl
theorem ty285 : tyOf Go.Proofs.Tryz.prog 285 = { known := true, agg := true, size := 3, bytes := 6, zero := [Value.int IntKind.u16 (0), Value.int IntKind.u16 (0), Value.int IntKind.u16 (0)], d := TD.struct [(0, 55), (1, 55), (2, 55)], eqs := true, eqk := [PK.int IntKind.u16, PK.int IntKind.u16, PK.int IntKind.u16] } := by kernel_rfl
theorem ty286 : tyOf Go.Proofs.Tryz.prog 286 = { known := true, zero := [Value.nilFunc], d := TD.func } := by kernel_rfl
theorem ty287 : tyOf Go.Proofs.Tryz.prog 287 = { known := true, agg := true, size := 3, bytes := 12, zero := [Value.int IntKind.u32 (0), Value.int IntKind.u32 (0), Value.int IntKind.u32 (0)], d := TD.struct [(0, 27), (1, 27), (2, 27)], eqs := true, eqk := [PK.int IntKind.u32, PK.int IntKind.u32, PK.int IntKind.u32] } := by kernel_rfl
theorem ty288 : tyOf Go.Proofs.Tryz.prog 288 = { known := true, agg := true, size := 3, bytes := 12, zero := [Value.int IntKind.u32 (0), Value.int IntKind.u32 (0), Value.int IntKind.u32 (0)], d := TD.struct [(0, 27), (1, 27), (2, 27)], eqs := true, eqk := [PK.int IntKind.u32, PK.int IntKind.u32, PK.int IntKind.u32] } := by kernel_rfl
theorem ty289 : tyOf Go.Proofs.Tryz.prog 289 = { known := true, zero := [Value.nilFunc], d := TD.func } := by kernel_rfl
theorem ty290 : tyOf Go.Proofs.Tryz.prog 290 = { known := true, zero := [Value.pointer none], d := TD.ptr } := by kernel_rfl
theorem ty291 : tyOf Go.Proofs.Tryz.prog 291 = { known := true, zero := [Value.pointer none], d := TD.ptr } := by kernel_rfl
theorem ty292 : tyOf Go.Proofs.Tryz.prog 292 = { known := true, zero := [Value.nilFunc], d := TD.func } := by kernel_rfl
theorem ty293 : tyOf Go.Proofs.Tryz.prog 293 = { known := true, agg := true, size := 4, bytes := 40, zero := [Value.pointer none, Value.pointer none, Value.pointer none, Value.string ⟨#[]⟩], d := TD.struct [(0, 17), (1, 17), (2, 17), (3, 9)] } := by kernel_rfl
theorem ty294 : tyOf Go.Proofs.Tryz.prog 294 = { known := true, agg := true, size := 4, bytes := 40, zero := [Value.pointer none, Value.pointer none, Value.pointer none, Value.string ⟨#[]⟩], d := TD.struct [(0, 17), (1, 17), (2, 17), (3, 9)] } := by kernel_rfl
theorem ty295 : tyOf Go.Proofs.Tryz.prog 295 = { known := true, agg := true, size := 0, bytes := 0, d := TD.array 0 16 } := by kernel_rfl
theorem ty296 : tyOf Go.Proofs.Tryz.prog 296 = { known := true, agg := true, size := 0, bytes := 0, d := TD.struct [(0, 295)] } := by kernel_rfl
theorem ty297 : tyOf Go.Proofs.Tryz.prog 297 = { known := true, agg := true, size := 0, bytes := 0, d := TD.struct [(0, 295)] } := by kernel_rfl
theorem ty298 : tyOf Go.Proofs.Tryz.prog 298 = { known := true, zero := [Value.nilFunc], d := TD.func } := by kernel_rfl
theorem ty299 : tyOf Go.Proofs.Tryz.prog 299 = { known := true, bytes := 1, zero := [Value.int IntKind.u8 (0)], d := TD.int } := by kernel_rfl
theorem ty300 : tyOf Go.Proofs.Tryz.prog 300 = { known := true, bytes := 1, zero := [Value.int IntKind.u8 (0)], d := TD.int } := by kernel_rfl
theorem ty301 : tyOf Go.Proofs.Tryz.prog 301 = { known := true, zero := [Value.nilFunc], d := TD.func } := by kernel_rfl
theorem ty302 : tyOf Go.Proofs.Tryz.prog 302 = { known := true, zero := [Value.pointer none], d := TD.ptr } := by kernel_rfl
theorem ty303 : tyOf Go.Proofs.Tryz.prog 303 = { known := true, bytes := 4, zero := [Value.int IntKind.i32 (0)], d := TD.int } := by kernel_rfl
theorem ty304 : tyOf Go.Proofs.Tryz.prog 304 = { known := true, bytes := 4, zero := [Value.int IntKind.i32 (0)], d := TD.int } := by kernel_rfl
theorem ty305 : tyOf Go.Proofs.Tryz.prog 305 = { known := true, agg := true, size := 11, bytes := 48, zero := [Value.int IntKind.u64 (0), Value.int IntKind.u64 (0), Value.int IntKind.u32 (0), Value.int IntKind.u8 (0), Value.int IntKind.u8 (0), Value.int IntKind.u8 (0), Value.int IntKind.u8 (0), Value.nilFunc, Value.pointer none, Value.int IntKind.i32 (0), Value.int IntKind.i32 (0)], d := TD.struct [(0, 12), (1, 12), (2, 27), (3, 299), (4, 5), (5, 5), (6, 300), (7, 301), (8, 302), (9, 303), (10, 304)] } := by kernel_rfl
theorem ty306 : tyOf Go.Proofs.Tryz.prog 306 = { known := true, agg := true, size := 11, bytes := 48, zero := [Value.int IntKind.u64 (0), Value.int IntKind.u64 (0), Value.int IntKind.u32 (0), Value.int IntKind.u8 (0), Value.int IntKind.u8 (0), Value.int IntKind.u8 (0), Value.int IntKind.u8 (0), Value.nilFunc, Value.pointer none, Value.int IntKind.i32 (0), Value.int IntKind.i32 (0)], d := TD.struct [(0, 12), (1, 12), (2, 27), (3, 299), (4, 5), (5, 5), (6, 300), (7, 301), (8, 302), (9, 303), (10, 304)] } := by kernel_rfl
theorem ty307 : tyOf Go.Proofs.Tryz.prog 307 = { known := true, zero := [Value.pointer none] } := by kernel_rfl
theorem rs3 : Go.Proofs.Tryz.f3.results.toList = [.tmp 6] := rfl
theorem rs4 : Go.Proofs.Tryz.f4.results.toList = [.tmp 4] := rfl
theorem rs5 : Go.Proofs.Tryz.f5.results.toList = [.tmp 2] := rfl
theorem rs6 : Go.Proofs.Tryz.f6.results.toList = [.tmp 6] := rfl
theorem rs7 : Go.Proofs.Tryz.f7.results.toList = [.tmp 2] := rfl
theorem rs8 : Go.Proofs.Tryz.f8.results.toList = [.tmp 4] := rfl
theorem rs9 : Go.Proofs.Tryz.f9.results.toList = [.tmp 4] := rfl
theorem rs10 : Go.Proofs.Tryz.f10.results.toList = [.tmp 2] := rfl
theorem rs11 : Go.Proofs.Tryz.f11.results.toList = [.tmp 0] := rfl
theorem rs12 : Go.Proofs.Tryz.f12.results.toList = [.tmp 2] := rfl
theorem rs13 : Go.Proofs.Tryz.f13.results.toList = [.tmp 2] := rfl
theorem rs14 : Go.Proofs.Tryz.f14.results.toList = [.cell 2  40, .cell 3  51] := rfl
theorem rs15 : Go.Proofs.Tryz.f15.results.toList = [.cell 6  40, .cell 7  51] := rfl
theorem rs16 : Go.Proofs.Tryz.f16.results.toList = [.tmp 4] := rfl
theorem rs17 : Go.Proofs.Tryz.f17.results.toList = [.cell 4  40, .cell 5  51] := rfl
theorem rs18 : Go.Proofs.Tryz.f18.results.toList = [.tmp 2] := rfl
theorem rs19 : Go.Proofs.Tryz.f19.results.toList = [.tmp 4] := rfl
theorem rs20 : Go.Proofs.Tryz.f20.results.toList = [.tmp 4] := rfl
theorem rs21 : Go.Proofs.Tryz.f21.results.toList = [.cell 2  40, .cell 3  51] := rfl
theorem rs22 : Go.Proofs.Tryz.f22.results.toList = [.cell 6  40, .cell 7  51] := rfl
theorem rs23 : Go.Proofs.Tryz.f23.results.toList = [.cell 10  40, .cell 11  51] := rfl
theorem rs24 : Go.Proofs.Tryz.f24.results.toList = [.tmp 0] := rfl
theorem rs25 : Go.Proofs.Tryz.f25.results.toList = [.tmp 2] := rfl
theorem rs26 : Go.Proofs.Tryz.f26.results.toList = [.tmp 2] := rfl
theorem rs27 : Go.Proofs.Tryz.f27.results.toList = [.cell 4  32, .tmp 5, .tmp 6] := rfl
theorem rs28 : Go.Proofs.Tryz.f28.results.toList = [.cell 2  32, .tmp 3, .tmp 4] := rfl
theorem rs29 : Go.Proofs.Tryz.f29.results.toList = [.cell 4  32, .tmp 5, .tmp 6] := rfl
theorem rs30 : Go.Proofs.Tryz.f30.results.toList = [.tmp 8] := rfl
theorem rs31 : Go.Proofs.Tryz.f31.results.toList = [.cell 4  78] := rfl
theorem rs32 : Go.Proofs.Tryz.f32.results.toList = [.cell 2  78] := rfl
theorem rs33 : Go.Proofs.Tryz.f33.results.toList = [.cell 4  78] := rfl
theorem rs34 : Go.Proofs.Tryz.f34.results.toList = [.cell 4  40, .cell 5  51] := rfl
theorem rs35 : Go.Proofs.Tryz.f35.results.toList = [.tmp 6] := rfl
theorem rs36 : Go.Proofs.Tryz.f36.results.toList = [.cell 4  88] := rfl
theorem rs37 : Go.Proofs.Tryz.f37.results.toList = [.cell 2  88] := rfl
theorem rs38 : Go.Proofs.Tryz.f38.results.toList = [.cell 6  88] := rfl
theorem rs39 : Go.Proofs.Tryz.f39.results.toList = [.cell 10  88] := rfl
theorem rs40 : Go.Proofs.Tryz.f40.results.toList = [.tmp 2] := rfl
theorem rs41 : Go.Proofs.Tryz.f41.results.toList = [.cell 4  40, .cell 5  51] := rfl
theorem rs42 : Go.Proofs.Tryz.f42.results.toList = [.cell 4  40, .cell 5  51] := rfl
theorem rs43 : Go.Proofs.Tryz.f43.results.toList = [.tmp 6] := rfl
theorem rs44 : Go.Proofs.Tryz.f44.results.toList = [.cell 0  40] := rfl
theorem rs45 : Go.Proofs.Tryz.f45.results.toList = [.tmp 2] := rfl
theorem rs46 : Go.Proofs.Tryz.f46.results.toList = [.tmp 2] := rfl
theorem rs47 : Go.Proofs.Tryz.f47.results.toList = [.tmp 4] := rfl
theorem rs48 : Go.Proofs.Tryz.f48.results.toList = [.tmp 2] := rfl
theorem rs49 : Go.Proofs.Tryz.f49.results.toList = [.tmp 2] := rfl
theorem rs50 : Go.Proofs.Tryz.f50.results.toList = [.tmp 2] := rfl
theorem rs51 : Go.Proofs.Tryz.f51.results.toList = [.tmp 2] := rfl
theorem rs52 : Go.Proofs.Tryz.f52.results.toList = [.tmp 2] := rfl
theorem rs53 : Go.Proofs.Tryz.f53.results.toList = [] := rfl
theorem rs54 : Go.Proofs.Tryz.f54.results.toList = [] := rfl
theorem rs55 : Go.Proofs.Tryz.f55.results.toList = [.cell 2  40, .cell 3  51] := rfl
theorem rs56 : Go.Proofs.Tryz.f56.results.toList = [.cell 2  32] := rfl
theorem rs57 : Go.Proofs.Tryz.f57.results.toList = [.tmp 4] := rfl
theorem rs58 : Go.Proofs.Tryz.f58.results.toList = [.tmp 4] := rfl
theorem rs59 : Go.Proofs.Tryz.f59.results.toList = [.tmp 2] := rfl
theorem rs60 : Go.Proofs.Tryz.f60.results.toList = [.cell 6  38] := rfl
theorem rs61 : Go.Proofs.Tryz.f61.results.toList = [.tmp 2] := rfl
theorem rs62 : Go.Proofs.Tryz.f62.results.toList = [.cell 2  57, .tmp 3] := rfl
theorem rs63 : Go.Proofs.Tryz.f63.results.toList = [.cell 2  120] := rfl
theorem rs64 : Go.Proofs.Tryz.f64.results.toList = [.tmp 6, .tmp 7] := rfl
theorem rs65 : Go.Proofs.Tryz.f65.results.toList = [.tmp 8] := rfl
theorem rs66 : Go.Proofs.Tryz.f66.results.toList = [.cell 0  38] := rfl
theorem rs67 : Go.Proofs.Tryz.f67.results.toList = [] := rfl
theorem rs68 : Go.Proofs.Tryz.f68.results.toList = [.tmp 2] := rfl
theorem rs69 : Go.Proofs.Tryz.f69.results.toList = [.tmp 2] := rfl
theorem rs70 : Go.Proofs.Tryz.f70.results.toList = [.tmp 4] := rfl
theorem rs71 : Go.Proofs.Tryz.f71.results.toList = [.tmp 2] := rfl
theorem rs72 : Go.Proofs.Tryz.f72.results.toList = [.tmp 2] := rfl
theorem rs73 : Go.Proofs.Tryz.f73.results.toList = [.tmp 2, .tmp 3] := rfl
theorem rs74 : Go.Proofs.Tryz.f74.results.toList = [.tmp 6] := rfl
theorem rs75 : Go.Proofs.Tryz.f75.results.toList = [.cell 2  32, .tmp 3, .tmp 4] := rfl
theorem rs76 : Go.Proofs.Tryz.f76.results.toList = [.cell 2  26, .tmp 3] := rfl
theorem rs77 : Go.Proofs.Tryz.f77.results.toList = [] := rfl
theorem rs78 : Go.Proofs.Tryz.f78.results.toList = [.tmp 4] := rfl
theorem rs79 : Go.Proofs.Tryz.f79.results.toList = [.cell 4  46] := rfl
theorem rs80 : Go.Proofs.Tryz.f80.results.toList = [.tmp 0] := rfl
theorem rs81 : Go.Proofs.Tryz.f81.results.toList = [.tmp 4] := rfl
theorem rs82 : Go.Proofs.Tryz.f82.results.toList = [.tmp 4] := rfl
theorem rs83 : Go.Proofs.Tryz.f83.results.toList = [.cell 8  78] := rfl
theorem rs84 : Go.Proofs.Tryz.f84.results.toList = [.cell 2  26, .tmp 3] := rfl
theorem rs85 : Go.Proofs.Tryz.f85.results.toList = [.cell 10  78] := rfl
theorem rs86 : Go.Proofs.Tryz.f86.results.toList = [.cell 4  46] := rfl
theorem rs87 : Go.Proofs.Tryz.f87.results.toList = [.cell 4  78] := rfl
theorem rs88 : Go.Proofs.Tryz.f88.results.toList = [.cell 4  78] := rfl
theorem rs89 : Go.Proofs.Tryz.f89.results.toList = [.tmp 2] := rfl
theorem rs90 : Go.Proofs.Tryz.f90.results.toList = [.tmp 2] := rfl
theorem rs91 : Go.Proofs.Tryz.f91.results.toList = [.cell 4  35, .cell 5  46] := rfl
theorem rs92 : Go.Proofs.Tryz.f92.results.toList = [] := rfl
theorem rs93 : Go.Proofs.Tryz.f93.results.toList = [.tmp 4] := rfl
theorem rs94 : Go.Proofs.Tryz.f94.results.toList = [.cell 2  88] := rfl
theorem rs95 : Go.Proofs.Tryz.f95.results.toList = [.cell 4  35, .cell 5  46] := rfl
theorem rs96 : Go.Proofs.Tryz.f96.results.toList = [.cell 6  88] := rfl
theorem rs97 : Go.Proofs.Tryz.f97.results.toList = [.tmp 2] := rfl
theorem rs98 : Go.Proofs.Tryz.f98.results.toList = [.cell 2  88] := rfl
theorem rs99 : Go.Proofs.Tryz.f99.results.toList = [.cell 8  88] := rfl
theorem rs100 : Go.Proofs.Tryz.f100.results.toList = [.cell 0  38] := rfl
theorem rs101 : Go.Proofs.Tryz.f101.results.toList = [.cell 2  32] := rfl
theorem rs102 : Go.Proofs.Tryz.f102.results.toList = [.cell 4  88] := rfl
theorem rs103 : Go.Proofs.Tryz.f103.results.toList = [] := rfl
theorem rs104 : Go.Proofs.Tryz.f104.results.toList = [] := rfl
theorem rs105 : Go.Proofs.Tryz.f105.results.toList = [] := rfl
theorem rs106 : Go.Proofs.Tryz.f106.results.toList = [] := rfl
theorem rs107 : Go.Proofs.Tryz.f107.results.toList = [.cell 4  46] := rfl
theorem rs108 : Go.Proofs.Tryz.f108.results.toList = [.cell 4  35, .tmp 5] := rfl
theorem rs109 : Go.Proofs.Tryz.f109.results.toList = [.cell 2  38, .tmp 3] := rfl
theorem rs110 : Go.Proofs.Tryz.f110.results.toList = [] := rfl
theorem rs111 : Go.Proofs.Tryz.f111.results.toList = [.cell 0  32] := rfl
theorem rs112 : Go.Proofs.Tryz.f112.results.toList = [.tmp 2] := rfl
theorem rs113 : Go.Proofs.Tryz.f113.results.toList = [.tmp 2] := rfl
theorem rs114 : Go.Proofs.Tryz.f114.results.toList = [.tmp 2] := rfl
theorem rs115 : Go.Proofs.Tryz.f115.results.toList = [.tmp 4] := rfl
theorem rs116 : Go.Proofs.Tryz.f116.results.toList = [.cell 6  48] := rfl
theorem rs117 : Go.Proofs.Tryz.f117.results.toList = [.tmp 2] := rfl
theorem rs118 : Go.Proofs.Tryz.f118.results.toList = [.tmp 4] := rfl
theorem rs119 : Go.Proofs.Tryz.f119.results.toList = [.tmp 4] := rfl
theorem rs120 : Go.Proofs.Tryz.f120.results.toList = [.tmp 2, .tmp 3] := rfl
theorem rs121 : Go.Proofs.Tryz.f121.results.toList = [.tmp 2, .tmp 3] := rfl
theorem rs122 : Go.Proofs.Tryz.f122.results.toList = [.tmp 4, .tmp 5] := rfl
theorem rs123 : Go.Proofs.Tryz.f123.results.toList = [.tmp 4, .tmp 5] := rfl
theorem rs124 : Go.Proofs.Tryz.f124.results.toList = [.tmp 4] := rfl
theorem rs125 : Go.Proofs.Tryz.f125.results.toList = [.cell 8  35, .cell 9  46] := rfl
theorem rs126 : Go.Proofs.Tryz.f126.results.toList = [.tmp 4] := rfl
theorem rs127 : Go.Proofs.Tryz.f127.results.toList = [.cell 4  133, .tmp 5] := rfl
theorem rs128 : Go.Proofs.Tryz.f128.results.toList = [.tmp 2] := rfl
theorem rs129 : Go.Proofs.Tryz.f129.results.toList = [.tmp 2, .tmp 3] := rfl
theorem rs130 : Go.Proofs.Tryz.f130.results.toList = [.tmp 2] := rfl
theorem rs131 : Go.Proofs.Tryz.f131.results.toList = [.tmp 2] := rfl
theorem rs132 : Go.Proofs.Tryz.f132.results.toList = [.tmp 4] := rfl
theorem rs133 : Go.Proofs.Tryz.f133.results.toList = [.tmp 4] := rfl
theorem rs134 : Go.Proofs.Tryz.f134.results.toList = [.tmp 2] := rfl
theorem rs135 : Go.Proofs.Tryz.f135.results.toList = [.cell 4  26, .tmp 5, .tmp 6] := rfl
theorem rs136 : Go.Proofs.Tryz.f136.results.toList = [.tmp 0] := rfl
theorem rs137 : Go.Proofs.Tryz.f137.results.toList = [.tmp 2, .tmp 3] := rfl
theorem rs138 : Go.Proofs.Tryz.f138.results.toList = [.tmp 2] := rfl
theorem rs139 : Go.Proofs.Tryz.f139.results.toList = [] := rfl
theorem rs140 : Go.Proofs.Tryz.f140.results.toList = [] := rfl
theorem rs141 : Go.Proofs.Tryz.f141.results.toList = [] := rfl
theorem rs142 : Go.Proofs.Tryz.f142.results.toList = [] := rfl
theorem rs143 : Go.Proofs.Tryz.f143.results.toList = [] := rfl
theorem rs144 : Go.Proofs.Tryz.f144.results.toList = [] := rfl
theorem rs145 : Go.Proofs.Tryz.f145.results.toList = [] := rfl
theorem rs146 : Go.Proofs.Tryz.f146.results.toList = [] := rfl
theorem rs147 : Go.Proofs.Tryz.f147.results.toList = [] := rfl
theorem rs148 : Go.Proofs.Tryz.f148.results.toList = [.tmp 4] := rfl
theorem rs149 : Go.Proofs.Tryz.f149.results.toList = [.cell 4  26, .tmp 5, .tmp 6] := rfl
theorem rs150 : Go.Proofs.Tryz.f150.results.toList = [.tmp 4] := rfl
theorem rs151 : Go.Proofs.Tryz.f151.results.toList = [.tmp 2] := rfl
theorem rs152 : Go.Proofs.Tryz.f152.results.toList = [.tmp 2, .tmp 3] := rfl
theorem rs153 : Go.Proofs.Tryz.f153.results.toList = [.tmp 2, .tmp 3] := rfl
theorem rs154 : Go.Proofs.Tryz.f154.results.toList = [.tmp 6, .tmp 7] := rfl
theorem rs155 : Go.Proofs.Tryz.f155.results.toList = [.tmp 8, .tmp 9] := rfl
theorem rs156 : Go.Proofs.Tryz.f156.results.toList = [.cell 4  133, .tmp 5] := rfl
theorem rs157 : Go.Proofs.Tryz.f157.results.toList = [.tmp 2] := rfl
theorem rs158 : Go.Proofs.Tryz.f158.results.toList = [.cell 4  35, .cell 5  46] := rfl
theorem rs159 : Go.Proofs.Tryz.f159.results.toList = [.tmp 4] := rfl
theorem rs160 : Go.Proofs.Tryz.f160.results.toList = [.cell 4  46] := rfl
theorem rs161 : Go.Proofs.Tryz.f161.results.toList = [.cell 4  88] := rfl
theorem rs162 : Go.Proofs.Tryz.f162.results.toList = [.cell 8  35, .cell 9  46] := rfl
theorem rs163 : Go.Proofs.Tryz.f163.results.toList = [.cell 2  46, .tmp 3] := rfl
theorem rs164 : Go.Proofs.Tryz.f164.results.toList = [.tmp 4] := rfl
theorem rs165 : Go.Proofs.Tryz.f165.results.toList = [.tmp 4] := rfl
theorem rs166 : Go.Proofs.Tryz.f166.results.toList = [.cell 6  133] := rfl
theorem rs167 : Go.Proofs.Tryz.f167.results.toList = [.tmp 4] := rfl
theorem rs168 : Go.Proofs.Tryz.f168.results.toList = [.tmp 2] := rfl
theorem rs169 : Go.Proofs.Tryz.f169.results.toList = [.tmp 4] := rfl
theorem rs170 : Go.Proofs.Tryz.f170.results.toList = [.tmp 3] := rfl
theorem rs171 : Go.Proofs.Tryz.f171.results.toList = [.cell 4  219, .tmp 5] := rfl
theorem rs172 : Go.Proofs.Tryz.f172.results.toList = [.tmp 2] := rfl
theorem rs173 : Go.Proofs.Tryz.f173.results.toList = [.tmp 0] := rfl
theorem rs174 : Go.Proofs.Tryz.f174.results.toList = [.tmp 2] := rfl
theorem rs175 : Go.Proofs.Tryz.f175.results.toList = [.tmp 2] := rfl
theorem rs176 : Go.Proofs.Tryz.f176.results.toList = [.tmp 4] := rfl
theorem rs177 : Go.Proofs.Tryz.f177.results.toList = [.tmp 4] := rfl
theorem rs178 : Go.Proofs.Tryz.f178.results.toList = [.cell 4  133, .tmp 5] := rfl
theorem rs179 : Go.Proofs.Tryz.f179.results.toList = [.tmp 2] := rfl
theorem rs180 : Go.Proofs.Tryz.f180.results.toList = [.tmp 2] := rfl
theorem rs181 : Go.Proofs.Tryz.f181.results.toList = [.tmp 6] := rfl
theorem rs182 : Go.Proofs.Tryz.f182.results.toList = [.tmp 4] := rfl
theorem rs183 : Go.Proofs.Tryz.f183.results.toList = [.tmp 4, .tmp 5, .tmp 6] := rfl
theorem rs184 : Go.Proofs.Tryz.f184.results.toList = [] := rfl
theorem rs185 : Go.Proofs.Tryz.f185.results.toList = [] := rfl
theorem rs186 : Go.Proofs.Tryz.f186.results.toList = [] := rfl
theorem rs187 : Go.Proofs.Tryz.f187.results.toList = [.cell 2  30, .cell 3  122] := rfl
theorem rs188 : Go.Proofs.Tryz.f188.results.toList = [.tmp 6, .tmp 7] := rfl
theorem rs189 : Go.Proofs.Tryz.f189.results.toList = [.cell 6  46] := rfl
theorem rs190 : Go.Proofs.Tryz.f190.results.toList = [.tmp 2] := rfl
theorem rs191 : Go.Proofs.Tryz.f191.results.toList = [.tmp 8, .tmp 9] := rfl
theorem rs192 : Go.Proofs.Tryz.f192.results.toList = [] := rfl
theorem rs193 : Go.Proofs.Tryz.f193.results.toList = [.tmp 4] := rfl
theorem rs194 : Go.Proofs.Tryz.f194.results.toList = [.tmp 2] := rfl
theorem rs195 : Go.Proofs.Tryz.f195.results.toList = [.tmp 4, .tmp 5, .tmp 6] := rfl
theorem rs196 : Go.Proofs.Tryz.f196.results.toList = [.tmp 4] := rfl
theorem rs197 : Go.Proofs.Tryz.f197.results.toList = [.cell 4  133, .tmp 5] := rfl
theorem rs198 : Go.Proofs.Tryz.f198.results.toList = [.tmp 2, .tmp 3] := rfl
theorem rs199 : Go.Proofs.Tryz.f199.results.toList = [.tmp 4] := rfl
theorem rs200 : Go.Proofs.Tryz.f200.results.toList = [.tmp 4] := rfl
theorem rs201 : Go.Proofs.Tryz.f201.results.toList = [.tmp 4] := rfl
theorem rs202 : Go.Proofs.Tryz.f202.results.toList = [.cell 6  48] := rfl
theorem rs203 : Go.Proofs.Tryz.f203.results.toList = [.cell 0  32] := rfl
theorem rs204 : Go.Proofs.Tryz.f204.results.toList = [.tmp 4] := rfl
theorem rs205 : Go.Proofs.Tryz.f205.results.toList = [.tmp 2] := rfl
theorem rs206 : Go.Proofs.Tryz.f206.results.toList = [.tmp 2] := rfl
theorem rs207 : Go.Proofs.Tryz.f207.results.toList = [.tmp 4] := rfl
theorem rs208 : Go.Proofs.Tryz.f208.results.toList = [.tmp 2] := rfl
theorem rs209 : Go.Proofs.Tryz.f209.results.toList = [.tmp 4] := rfl
theorem rs210 : Go.Proofs.Tryz.f210.results.toList = [.tmp 3] := rfl
theorem rs211 : Go.Proofs.Tryz.f211.results.toList = [.tmp 3] := rfl
theorem rs212 : Go.Proofs.Tryz.f212.results.toList = [.tmp 0] := rfl
theorem rs213 : Go.Proofs.Tryz.f213.results.toList = [.tmp 2] := rfl
theorem rs214 : Go.Proofs.Tryz.f214.results.toList = [.cell 0  259] := rfl
theorem rs215 : Go.Proofs.Tryz.f215.results.toList = [.tmp 2] := rfl
theorem rs216 : Go.Proofs.Tryz.f216.results.toList = [.tmp 2, .tmp 3] := rfl
theorem rs217 : Go.Proofs.Tryz.f217.results.toList = [.tmp 4] := rfl
theorem rs218 : Go.Proofs.Tryz.f218.results.toList = [.tmp 2] := rfl
theorem rs219 : Go.Proofs.Tryz.f219.results.toList = [.tmp 3] := rfl
theorem rs220 : Go.Proofs.Tryz.f220.results.toList = [.tmp 4] := rfl
theorem rs221 : Go.Proofs.Tryz.f221.results.toList = [.tmp 2, .tmp 3, .tmp 4] := rfl
theorem rs222 : Go.Proofs.Tryz.f222.results.toList = [.tmp 2, .tmp 3, .tmp 4] := rfl
theorem rs223 : Go.Proofs.Tryz.f223.results.toList = [.tmp 2, .tmp 3, .tmp 4] := rfl
theorem rs224 : Go.Proofs.Tryz.f224.results.toList = [.tmp 2, .tmp 3, .tmp 4] := rfl
theorem rs225 : Go.Proofs.Tryz.f225.results.toList = [.tmp 2, .tmp 3, .tmp 4] := rfl
theorem rs226 : Go.Proofs.Tryz.f226.results.toList = [.tmp 4, .tmp 5, .tmp 6] := rfl
theorem rs227 : Go.Proofs.Tryz.f227.results.toList = [.tmp 6, .tmp 7, .tmp 8] := rfl
theorem rs228 : Go.Proofs.Tryz.f228.results.toList = [.tmp 4, .tmp 5, .tmp 6] := rfl
theorem rs229 : Go.Proofs.Tryz.f229.results.toList = [.tmp 2, .tmp 3, .tmp 4] := rfl
theorem rs230 : Go.Proofs.Tryz.f230.results.toList = [.tmp 2, .tmp 3, .tmp 4] := rfl
theorem rs231 : Go.Proofs.Tryz.f231.results.toList = [.tmp 4, .tmp 5, .tmp 6] := rfl
theorem rs232 : Go.Proofs.Tryz.f232.results.toList = [.tmp 4, .tmp 5, .tmp 6] := rfl
theorem rs233 : Go.Proofs.Tryz.f233.results.toList = [.tmp 2, .tmp 3, .tmp 4] := rfl
theorem rs234 : Go.Proofs.Tryz.f234.results.toList = [.tmp 4] := rfl
theorem rs235 : Go.Proofs.Tryz.f235.results.toList = [.tmp 3] := rfl
theorem rs236 : Go.Proofs.Tryz.f236.results.toList = [.tmp 2] := rfl
theorem rs237 : Go.Proofs.Tryz.f237.results.toList = [.tmp 2] := rfl
theorem rs238 : Go.Proofs.Tryz.f238.results.toList = [.tmp 3] := rfl
theorem rs239 : Go.Proofs.Tryz.f239.results.toList = [.tmp 4] := rfl
theorem rs240 : Go.Proofs.Tryz.f240.results.toList = [.tmp 4] := rfl
theorem rs241 : Go.Proofs.Tryz.f241.results.toList = [.tmp 2] := rfl
theorem rs242 : Go.Proofs.Tryz.f242.results.toList = [] := rfl
theorem rs243 : Go.Proofs.Tryz.f243.results.toList = [.tmp 2] := rfl
theorem rs244 : Go.Proofs.Tryz.f244.results.toList = [.tmp 4] := rfl
theorem rs245 : Go.Proofs.Tryz.f245.results.toList = [.tmp 4] := rfl
theorem rs246 : Go.Proofs.Tryz.f246.results.toList = [.tmp 4] := rfl
theorem rs247 : Go.Proofs.Tryz.f247.results.toList = [.tmp 4] := rfl
theorem rs248 : Go.Proofs.Tryz.f248.results.toList = [] := rfl
theorem rs249 : Go.Proofs.Tryz.f249.results.toList = [] := rfl
theorem rs250 : Go.Proofs.Tryz.f250.results.toList = [] := rfl
theorem rs251 : Go.Proofs.Tryz.f251.results.toList = [] := rfl
theorem rs252 : Go.Proofs.Tryz.f252.results.toList = [] := rfl
theorem rs253 : Go.Proofs.Tryz.f253.results.toList = [] := rfl
theorem rs254 : Go.Proofs.Tryz.f254.results.toList = [] := rfl
theorem rs255 : Go.Proofs.Tryz.f255.results.toList = [] := rfl
theorem rs256 : Go.Proofs.Tryz.f256.results.toList = [] := rfl
theorem rs257 : Go.Proofs.Tryz.f257.results.toList = [] := rfl
theorem rs258 : Go.Proofs.Tryz.f258.results.toList = [] := rfl
theorem rs259 : Go.Proofs.Tryz.f259.results.toList = [] := rfl
theorem rs260 : Go.Proofs.Tryz.f260.results.toList = [] := rfl
theorem rs261 : Go.Proofs.Tryz.f261.results.toList = [] := rfl
theorem rs262 : Go.Proofs.Tryz.f262.results.toList = [] := rfl
theorem rs263 : Go.Proofs.Tryz.f263.results.toList = [] := rfl
theorem rs264 : Go.Proofs.Tryz.f264.results.toList = [] := rfl
theorem rs265 : Go.Proofs.Tryz.f265.results.toList = [] := rfl
theorem rs266 : Go.Proofs.Tryz.f266.results.toList = [] := rfl
theorem rs267 : Go.Proofs.Tryz.f267.results.toList = [] := rfl
theorem rs268 : Go.Proofs.Tryz.f268.results.toList = [] := rfl

attribute [go_sem] ty0 ty1 ty2 ty3 ty4 ty5 ty6 ty7 ty8 ty9 ty10 ty11 ty12 ty13 ty14 ty15 ty16 ty17 ty18 ty19 ty20 ty21 ty22 ty23 ty24 ty25 ty26 ty27 ty28 ty29 ty30 ty31 ty32 ty33 ty34 ty35 ty36 ty37 ty38 ty39 ty40 ty41 ty42 ty43 ty44 ty45 ty46 ty47 ty48 ty49 ty50 ty51 ty52 ty53 ty54 ty55 ty56 ty57 ty58 ty59 ty60 ty61 ty62 ty63 ty64 ty65 ty66 ty67 ty68 ty69 ty70 ty71 ty72 ty73 ty74 ty75 ty76 ty77 ty78 ty79 ty80 ty81 ty82 ty83 ty84 ty85 ty86 ty87 ty88 ty89 ty90 ty91 ty92 ty93 ty94 ty95 ty96 ty97 ty98 ty99 ty100 ty101 ty102 ty103 ty104 ty105 ty106 ty107 ty108 ty109 ty110 ty111 ty112 ty113 ty114 ty115 ty116 ty117 ty118 ty119 ty120 ty121 ty122 ty123 ty124 ty125 ty126 ty127 ty128 ty129 ty130 ty131 ty132 ty133 ty134 ty135 ty136 ty137 ty138 ty139 ty140 ty141 ty142 ty143 ty144 ty145 ty146 ty147 ty148 ty149 ty150 ty151 ty152 ty153 ty154 ty155 ty156 ty157 ty158 ty159 ty160 ty161 ty162 ty163 ty164 ty165 ty166 ty167 ty168 ty169 ty170 ty171 ty172 ty173 ty174 ty175 ty176 ty177 ty178 ty179 ty180 ty181 ty182 ty183 ty184 ty185 ty186 ty187 ty188 ty189 ty190 ty191 ty192 ty193 ty194 ty195 ty196 ty197 ty198 ty199 ty200 ty201 ty202 ty203 ty204 ty205 ty206 ty207 ty208 ty209 ty210 ty211 ty212 ty213 ty214 ty215 ty216 ty217 ty218 ty219 ty220 ty221 ty222 ty223 ty224 ty225 ty226 ty227 ty228 ty229 ty230 ty231 ty232 ty233 ty234 ty235 ty236 ty237 ty238 ty239 ty240 ty241 ty242 ty243 ty244 ty245 ty246 ty247 ty248 ty249 ty250 ty251 ty252 ty253 ty254 ty255 ty256 ty257 ty258 ty259 ty260 ty261 ty262 ty263 ty264 ty265 ty266 ty267 ty268 ty269 ty270 ty271 ty272 ty273 ty274 ty275 ty276 ty277 ty278 ty279 ty280 ty281 ty282 ty283 ty284 ty285 ty286 ty287 ty288 ty289 ty290 ty291 ty292 ty293 ty294 ty295 ty296 ty297 ty298 ty299 ty300 ty301 ty302 ty303 ty304 ty305 ty306 ty307
attribute [go_sem] rs3 rs4 rs5 rs6 rs7 rs8 rs9 rs10 rs11 rs12 rs13 rs14 rs15 rs16 rs17 rs18 rs19 rs20 rs21 rs22 rs23 rs24 rs25 rs26 rs27 rs28 rs29 rs30 rs31 rs32 rs33 rs34 rs35 rs36 rs37 rs38 rs39 rs40 rs41 rs42 rs43 rs44 rs45 rs46 rs47 rs48 rs49 rs50 rs51 rs52 rs53 rs54 rs55 rs56 rs57 rs58 rs59 rs60 rs61 rs62 rs63 rs64 rs65 rs66 rs67 rs68 rs69 rs70 rs71 rs72 rs73 rs74 rs75 rs76 rs77 rs78 rs79 rs80 rs81 rs82 rs83 rs84 rs85 rs86 rs87 rs88 rs89 rs90 rs91 rs92 rs93 rs94 rs95 rs96 rs97 rs98 rs99 rs100 rs101 rs102 rs103 rs104 rs105 rs106 rs107 rs108 rs109 rs110 rs111 rs112 rs113 rs114 rs115 rs116 rs117 rs118 rs119 rs120 rs121 rs122 rs123 rs124 rs125 rs126 rs127 rs128 rs129 rs130 rs131 rs132 rs133 rs134 rs135 rs136 rs137 rs138 rs139 rs140 rs141 rs142 rs143 rs144 rs145 rs146 rs147 rs148 rs149 rs150 rs151 rs152 rs153 rs154 rs155 rs156 rs157 rs158 rs159 rs160 rs161 rs162 rs163 rs164 rs165 rs166 rs167 rs168 rs169 rs170 rs171 rs172 rs173 rs174 rs175 rs176 rs177 rs178 rs179 rs180 rs181 rs182 rs183 rs184 rs185 rs186 rs187 rs188 rs189 rs190 rs191 rs192 rs193 rs194 rs195 rs196 rs197 rs198 rs199 rs200 rs201 rs202 rs203 rs204 rs205 rs206 rs207 rs208 rs209 rs210 rs211 rs212 rs213 rs214 rs215 rs216 rs217 rs218 rs219 rs220 rs221 rs222 rs223 rs224 rs225 rs226 rs227 rs228 rs229 rs230 rs231 rs232 rs233 rs234 rs235 rs236 rs237 rs238 rs239 rs240 rs241 rs242 rs243 rs244 rs245 rs246 rs247 rs248 rs249 rs250 rs251 rs252 rs253 rs254 rs255 rs256 rs257 rs258 rs259 rs260 rs261 rs262 rs263 rs264 rs265 rs266 rs267 rs268

theorem mixed : Go.Proofs.Tryz.prog.follows .mixedOrders = true := by kernel_rfl

end Go.VL

/- Contracts of this program's functions, first part. Conditions: none. -/
namespace Go.VL
open Go.Proofs

theorem c_four (n : Int) (σ : St) : VCalls Tryz.prog 194 [.int .u32 n] σ fun r σ' => r = .sl false true 1 [.int .u8 (IntKind.u8.wrap (n.fdiv (2 ^ 24))), .int .u8 (IntKind.u8.wrap (n.fdiv (2 ^ 16))), .int .u8 (IntKind.u8.wrap (n.fdiv (2 ^ 8))), .int .u8 (IntKind.u8.wrap n)] ∧ σ' = σ := by
  refine vcalls_intro (C := cfg Tryz.prog [] [] []) (cfg_ok mixed) Tryz.func194 rfl rfl rfl rfl rfl ?_
  simp only [go_sem]

/-- Bytes, as values. -/
def bv (l : List UInt8) : List V := l.map fun b => .int .u8 b.toNat
theorem bv_length (l : List UInt8) : (bv l).length = l.length := by simp [bv]

theorem bv_getD {l : List UInt8} {i : Nat} (h : i < l.length) : (bv l).getD i .undef = .int .u8 (l[i]).toNat := by simp [bv, h]
end Go.VL

/- Contracts of this program's functions. Conditions: none. -/
namespace Go.VL
open Go.Proofs

theorem bv_getD' {l : List UInt8} {i : Nat} (h : i < l.length) : (bv l).getD i .undef = .int .u8 (l.getD i 0).toNat := by simp [bv, h]

theorem toNat_beq (a b : UInt8) : ((a.toNat : Int) == (b.toNat : Int)) = (a == b) := by
  rw [Bool.eq_iff_iff]
  simp only [beq_iff_eq]
  exact ⟨fun h => UInt8.toNat_inj.1 (by omega), fun h => by rw [h]⟩
theorem toNat_bne (a b : UInt8) : ((a.toNat : Int) != (b.toNat : Int)) = (a != b) := by
  simp only [bne, toNat_beq]

theorem take_getD {l l' : List UInt8} {i : Nat} (h : i < l.length) (h' : i < l'.length) (hp : l.take i = l'.take i) (he : l.getD i 0 = l'.getD i 0) : l.take (i + 1) = l'.take (i + 1) := by
  rw [List.take_succ_eq_append_getElem h, List.take_succ_eq_append_getElem h', hp]
  simp [h, h'] at he
  rw [he]

theorem c_row (nl c nl' c' : Bool) (l l' : List UInt8) (hl : l.length ≤ lim) (σ : St) : VCalls Tryz.prog 20 [.sl nl c 1 (bv l), .sl nl' c' 1 (bv l')] σ fun r σ' => r = .bool (decide (l = l')) ∧ σ' = σ := by
  refine vcalls_intro (C := cfg Tryz.prog [] [] []) (cfg_ok mixed) Tryz.func20 rfl rfl rfl rfl rfl ?_
  simp only [go_sem, bv_length]
  unfold lim at hl
  rcases Decidable.em (l.length = l'.length) with he | he
  · simp only [go_sem, he, bne_self_eq_false]
    refine w_loop (fun i => i ≤ l.length ∧ l.take i = l'.take i) (fun i => [(5, .int .i64 i), (0, .sl nl c 1 (bv l)), (1, .sl nl' c' 1 (bv l'))]) (fun _ => σ) (fun i => l.length - i) 0 ⟨Nat.zero_le _, rfl⟩ ?_ rfl ?_
    · simp only [go_sem]
      rfl
    rintro i ⟨hi, hp⟩
    rcases Nat.lt_or_ge i l.length with h | h
    · have h' : i < l'.length := he ▸ h
      simp only [go_sem, bv_length, h]
      refine w_walk [] [0, 1, 2, 3, 4, 5, 6, 7, 8] _ rfl rfl rfl ?_
      simp only [go_sem, bv_length, h, h', bv_getD' h, bv_getD' h', toNat_bne]
      by_cases hx : l.getD i 0 = l'.getD i 0
      · simp only [go_sem, hx, bne_self_eq_false]
        have hw : IntKind.i64.wrap ((i : Int) + 1) = ((i + 1 : Nat) : Int) := wrap_ok (by omega) (by omega)
        refine l_next (i + 1) ⟨h, take_getD h h' hp hx⟩ (by omega) ?_ rfl
        simp only [go_sem, hw]
      · simp only [go_sem, bne_iff_ne.2 hx]
        refine l_ret ?_
        have : ¬ l = l' := fun e => hx (by rw [e])
        simp only [go_sem, this]
    · have hn : ¬ (i < l.length) := by omega
      simp only [go_sem, bv_length, hn]
      refine l_exit ?_
      have : l = l' := by rwa [List.take_of_length_le h, List.take_of_length_le (he ▸ h)] at hp
      simp only [go_sem, this]
  · have hb : ((l.length : Int) != (l'.length : Int)) = true := by simp; omega
    have : ¬ l = l' := fun e => he (by rw [e])
    simp only [go_sem, hb, this]

end Go.VL

/- Contracts of this program's functions: options. Conditions: none. -/
namespace Go.VL
open Go.Proofs

/-- An option: its type, and its data, which may be nil, or without room behind. -/
structure OV where
  t : UInt8
  nl : Bool
  c : Bool
  d : List UInt8

def ov (o : OV) : V := .agg [.int .u8 o.t.toNat, .sl o.nl o.c 1 (bv o.d)]
def osv (l : List OV) : List V := l.map ov
theorem osv_length (l : List OV) : (osv l).length = l.length := by simp [osv]
theorem osv_getD {l : List OV} {i : Nat} (h : i < l.length) : (osv l).getD i .undef = ov l[i] := by simp [osv, h]
def eqO (a b : OV) : Bool := decide (a.d = b.d) && (a.t == b.t)

theorem c_one (a b : OV) (ha : a.d.length ≤ lim) (σ : St) : VCalls Tryz.prog 167 [ov a, ov b] σ fun r σ' => r = .bool (eqO a b) ∧ σ' = σ := by
  refine vcalls_intro (C := cfg Tryz.prog [] [] []) (cfg_ok mixed) Tryz.func167 rfl rfl rfl rfl rfl ?_
  simp only [ov, go_sem]
  refine vgo_call rfl rfl rfl rfl (c_row _ _ _ _ _ _ ha σ) ?_
  unfold eqO
  cases hd : decide (a.d = b.d) <;> simp only [go_sem, hd, toNat_beq, Bool.false_and]

end Go.VL

/- Contracts of this program's functions: options, second part. Conditions: none. -/
namespace Go.VL
open Go.Proofs

def smallO (o : OV) : Bool := decide (o.d.length ≤ 253)
def few (l : List OV) : Bool := decide (l.length ≤ 30) && l.all smallO

theorem ov_getD {l : List OV} {i : Nat} (h : i < l.length) : (osv l).getD i .undef = .agg [.int .u8 (l[i]).t.toNat, .sl (l[i]).nl (l[i]).c 1 (bv (l[i]).d)] := osv_getD h

theorem c_few (nl c : Bool) (l : List OV) (σ : St) : VCalls Tryz.prog 71 [.sl nl c 2 (osv l)] σ fun r σ' => r = .bool (few l) ∧ σ' = σ := by
  refine vcalls_intro (C := cfg Tryz.prog [] [] []) (cfg_ok mixed) Tryz.func71 rfl rfl rfl rfl rfl ?_
  simp only [go_sem]
  refine w_loop (fun i => i ≤ l.length ∧ i ≤ 30 ∧ (l.take i).all smallO = true) (fun i => [(3, .int .i64 i), (0, .sl nl c 2 (osv l))]) (fun _ => σ) (fun i => l.length - i) 0 ⟨Nat.zero_le _, Nat.zero_le _, rfl⟩ ?_ rfl ?_
  · simp only [go_sem]
    rfl
  rintro i ⟨hi, h30, hp⟩
  rcases Nat.lt_or_ge i l.length with h | h
  · simp only [go_sem, osv_length, h]
    rcases Nat.lt_or_ge i 30 with h3 | h3
    · have e3 : ¬ ((30 : Int) ≤ (i : Int)) := by omega
      simp only [go_sem, osv_length, h, e3, ov_getD h, bv_length]
      by_cases hx : (253 : Int) < ((l[i]).d.length : Int)
      · simp only [go_sem, hx]
        refine l_ret ?_
        have hf : few l = false := by
          unfold few
          have : smallO l[i] = false := by simp [smallO]; omega
          have h2 : l.all smallO = false := by
            rw [List.all_eq_false]
            exact ⟨_, List.getElem_mem h, by simp [this]⟩
          rw [h2, Bool.and_false]
        simp only [go_sem, hf]
      · simp only [go_sem, hx]
        have hw : IntKind.i64.wrap ((i : Int) + 1) = ((i + 1 : Nat) : Int) := wrap_ok (by omega) (by omega)
        refine l_next (i + 1) ⟨h, h3, ?_⟩ (by omega) ?_ rfl
        · rw [List.take_succ_eq_append_getElem h, List.all_append, hp]
          simp [smallO]; omega
        · simp only [go_sem, hw]
    · have e3 : ((30 : Int) ≤ (i : Int)) := by omega
      simp only [go_sem, osv_length, h, e3]
      refine l_ret ?_
      have hf : few l = false := by
        unfold few
        have : ¬ l.length ≤ 30 := by omega
        simp [this]
      simp only [go_sem, hf]
  · have hn : ¬ (i < l.length) := by omega
    simp only [go_sem, osv_length, hn]
    refine l_exit ?_
    have hf : few l = true := by
      unfold few
      rw [List.take_of_length_le h] at hp
      have : l.length ≤ 30 := by omega
      simp [this, hp]
    simp only [go_sem, hf]

end Go.VL

/- Contracts of this program's functions: options, third part. Conditions: none. -/
namespace Go.VL
open Go.Proofs

def same : List OV → List OV → Bool
  | [], [] => true
  | a :: l, b :: l' => eqO a b && same l l'
  | _, _ => false

theorem same_length : ∀ {l l' : List OV}, same l l' = true → l.length = l'.length
  | [], [], _ => rfl
  | a :: l, b :: l', h => by simp only [same, Bool.and_eq_true] at h; simp [same_length h.2]
theorem same_take : ∀ {l l' : List OV} {i : Nat} (h : i < l.length) (h' : i < l'.length), same (l.take (i + 1)) (l'.take (i + 1)) = (same (l.take i) (l'.take i) && eqO l[i] l'[i])
  | a :: l, b :: l', 0, _, _ => by simp [same]
  | a :: l, b :: l', i + 1, h, h' => by
    have := same_take (l := l) (l' := l') (i := i) (by simpa using h) (by simpa using h')
    simp only [List.take_succ_cons, same, this, List.getElem_cons_succ, Bool.and_assoc]
theorem same_false : ∀ {l l' : List OV} {i : Nat} (h : i < l.length) (h' : i < l'.length), eqO l[i] l'[i] = false → same l l' = false
  | a :: l, b :: l', 0, _, _, e => by simp only [List.getElem_cons_zero] at e; simp [same, e]
  | a :: l, b :: l', i + 1, h, h', e => by
    have := same_false (l := l) (l' := l') (i := i) (by simpa using h) (by simpa using h') (by simpa using e)
    simp [same, this]

theorem c_same (nl c nl' c' : Bool) (l l' : List OV) (hl : l.length ≤ lim) (hd : ∀ o ∈ l, o.d.length ≤ lim) (σ : St) : VCalls Tryz.prog 118 [.sl nl c 2 (osv l), .sl nl' c' 2 (osv l')] σ fun r σ' => r = .bool (same l l') ∧ σ' = σ := by
  refine vcalls_intro (C := cfg Tryz.prog [] [] []) (cfg_ok mixed) Tryz.func118 rfl rfl rfl rfl rfl ?_
  simp only [go_sem, osv_length]
  unfold lim at hl
  rcases Decidable.em (l.length = l'.length) with he | he
  · simp only [go_sem, he, bne_self_eq_false]
    refine w_loop (fun i => i ≤ l.length ∧ same (l.take i) (l'.take i) = true) (fun i => [(5, .int .i64 i), (0, .sl nl c 2 (osv l)), (1, .sl nl' c' 2 (osv l'))]) (fun _ => σ) (fun i => l.length - i) 0 ⟨Nat.zero_le _, rfl⟩ ?_ rfl ?_
    · simp only [go_sem]
      rfl
    rintro i ⟨hi, hp⟩
    rcases Nat.lt_or_ge i l.length with h | h
    · have h' : i < l'.length := he ▸ h
      simp only [go_sem, osv_length, h]
      refine w_walk [] [0, 1, 2, 3, 4, 5, 6, 7, 8, 9] _ rfl rfl rfl ?_
      simp only [go_sem, osv_length, h, h', ov_getD h, ov_getD h']
      refine vdgo_call rfl rfl rfl rfl (c_one l[i] l'[i] (hd _ (List.getElem_mem h)) σ) ?_
      cases hx : eqO l[i] l'[i]
      · simp only [go_sem]
        refine l_ret ?_
        simp only [go_sem, same_false h h' hx]
      · simp only [go_sem]
        have hw : IntKind.i64.wrap ((i : Int) + 1) = ((i + 1 : Nat) : Int) := wrap_ok (by omega) (by omega)
        refine l_next (i + 1) ⟨h, ?_⟩ (by omega) ?_ rfl
        · rw [same_take h h', hp, hx]; rfl
        · simp only [go_sem, hw]
    · have hn : ¬ (i < l.length) := by omega
      simp only [go_sem, osv_length, hn]
      refine l_exit ?_
      rw [List.take_of_length_le h, List.take_of_length_le (he ▸ h)] at hp
      simp only [go_sem, hp]
  · have hb : ((l.length : Int) != (l'.length : Int)) = true := by simp; omega
    have hf : same l l' = false := by
      cases h : same l l' with
      | false => rfl
      | true => exact absurd (same_length h) he
    simp only [go_sem, hb, hf]

end Go.VL

/- Contracts of this program's functions: options, fourth part. Conditions: none. -/
namespace Go.VL
open Go.Proofs

theorem c_rfour (n : Int) (σ : St) : VCalls Tryz.prog 89 [.int .u32 n] σ fun r σ' => r = .sl false true 1 [.int .u8 (IntKind.u8.wrap (IntKind.u32.wrap (n.tdiv 16777216))), .int .u8 (IntKind.u8.wrap ((IntKind.u32.wrap (n.tdiv 65536)).tmod 256)),
    .int .u8 (IntKind.u8.wrap ((IntKind.u32.wrap (n.tdiv 256)).tmod 256)), .int .u8 (IntKind.u8.wrap (n.tmod 256))] ∧ σ' = σ := by
  refine vcalls_intro (C := cfg Tryz.prog [] [] []) (cfg_ok mixed) Tryz.func89 rfl rfl rfl rfl rfl ?_
  simp only [go_sem]

end Go.VL

/- Contracts of this program's functions: options, fifth part. Conditions: none. -/
namespace Go.VL
open Go.Proofs

end Go.VL

/- Contracts of this program's functions: options, sixth part. Conditions: none. -/
namespace Go.VL
open Go.Proofs

end Go.VL

/- Contracts of this program's functions: options, seventh part. Conditions: none. -/
namespace Go.VL
open Go.Proofs

end Go.VL

/- Contracts of this program's functions: the library's rows. Conditions: none. -/
namespace Go.VL
open Go.Proofs

end Go.VL

/- Contracts of this program's functions: the library's rows, second part. Conditions: none. -/
namespace Go.VL
open Go.Proofs

def idxO (p : OV → Bool) : List OV → Int
  | [] => -1
  | o :: l => bif p o then 0 else (bif decide (idxO p l < 0) then -1 else idxO p l + 1)
def noneO (p : OV → Bool) (l : List OV) : Bool := l.all fun o => !p o

theorem idxO_none {p : OV → Bool} : ∀ {l : List OV}, noneO p l = true → idxO p l = -1
  | [], _ => rfl
  | o :: l, h => by
    simp only [noneO, List.all_cons, Bool.and_eq_true, Bool.not_eq_true'] at h
    have := idxO_none (l := l) h.2
    simp [idxO, h.1, this]
theorem idxO_at {p : OV → Bool} : ∀ {l : List OV} {i : Nat} (h : i < l.length), noneO p (l.take i) = true → p l[i] = true → idxO p l = i
  | o :: l, 0, _, _, hp => by simp only [List.getElem_cons_zero] at hp; simp [idxO, hp]
  | o :: l, i + 1, h, hn, hp => by
    simp only [noneO, List.take_succ_cons, List.all_cons, Bool.and_eq_true, Bool.not_eq_true'] at hn
    have := idxO_at (l := l) (i := i) (by simpa using h) hn.2 (by simpa using hp)
    have h0 : ¬ ((i : Int) < 0) := by omega
    simp [idxO, hn.1, this, h0]
theorem noneO_take {p : OV → Bool} {l : List OV} {i : Nat} (h : i < l.length) (hn : noneO p (l.take i) = true) (hp : p l[i] = false) : noneO p (l.take (i + 1)) = true := by
  unfold noneO at hn ⊢
  rw [List.take_succ_eq_append_getElem h, List.all_append, hn]
  simp [hp]

theorem c_index (nl c : Bool) (l : List OV) (p : OV → Bool) (g : FuncId) (xs ys : List V) (hl : l.length ≤ lim) (σ : St) (hg : ∀ o, VCalls Tryz.prog g (xs ++ [ov o] ++ ys) σ fun r σ' => r = .bool (p o) ∧ σ' = σ) :
    VCalls Tryz.prog 169 [.sl nl c 2 (osv l), .fn (.func g) xs ys] σ fun r σ' => r = .int .i64 (idxO p l) ∧ σ' = σ := by
  refine vcalls_intro (C := cfg Tryz.prog [] [] []) (cfg_ok mixed) Tryz.func169 rfl rfl rfl rfl rfl ?_
  simp only [go_sem, osv_length]
  unfold lim at hl
  refine w_loop (fun i => i ≤ l.length ∧ noneO p (l.take i) = true) (fun i => [(8, .int .i64 i), (7, .int .i64 l.length), (0, .sl nl c 2 (osv l)), (1, .fn (.func g) xs ys)]) (fun _ => σ) (fun i => l.length - i) 0 ⟨Nat.zero_le _, rfl⟩ ?_ rfl ?_
  · simp only [go_sem]
    rfl
  rintro i ⟨hi, hn⟩
  rcases Nat.lt_or_ge i l.length with h | h
  · simp only [go_sem, osv_length, h, ov_getD h]
    refine vgo_call rfl rfl rfl rfl (hg l[i]) ?_
    have hw : IntKind.i64.wrap ((i : Int) + 1) = ((i + 1 : Nat) : Int) := wrap_ok (by omega) (by omega)
    cases hp : p l[i]
    · simp only [go_sem]
      refine l_next (i + 1) ⟨h, noneO_take h hn hp⟩ (by omega) ?_ rfl
      simp only [go_sem, hw]
    · simp only [go_sem]
      refine l_ret ?_
      simp only [go_sem, idxO_at h hn hp]
  · have hh : ¬ (i < l.length) := by omega
    simp only [go_sem, osv_length, hh]
    refine l_exit ?_
    rw [List.take_of_length_le h] at hn
    simp only [go_sem, idxO_none hn]

end Go.VL

/- Contracts of this program's functions: the library's rows, third part. Conditions: none. -/
namespace Go.VL
open Go.Proofs

theorem strEq_bytes (l l' : List UInt8) : strEq ⟨l.toArray⟩ ⟨l'.toArray⟩ = decide (l = l') := by
  unfold strEq
  rw [Bool.eq_iff_iff]
  simp [ByteArray.toList_eq]

theorem c_bytesEqual (nl c nl' c' : Bool) (l l' : List UInt8) (σ : St) : VCalls Tryz.prog 165 [.sl nl c 1 (bv l), .sl nl' c' 1 (bv l')] σ fun r σ' => r = .bool (decide (l = l')) ∧ σ' = σ := by
  refine vcalls_intro (C := cfg Tryz.prog [] [] []) (cfg_ok mixed) Tryz.func165 rfl rfl rfl rfl rfl ?_
  simp only [go_sem, strEq_bytes]
  exact ⟨l, rfl, l', rfl, rfl⟩

end Go.VL

/- Contracts of this program's functions: opts.Same. Conditions: none. -/
namespace Go.VL
open Go.Proofs

theorem c_same1 (a b : OV) (σ : St) : VCalls Tryz.prog 182 [ov a, ov b] σ fun r σ' => r = .bool (eqO a b) ∧ σ' = σ := by
  refine vcalls_intro (C := cfg Tryz.prog [] [] []) (cfg_ok mixed) Tryz.func182 rfl rfl rfl rfl rfl ?_
  simp only [go_sem, ov, toNat_beq]
  unfold eqO
  cases hx : a.t == b.t
  · simp only [go_sem, Bool.and_false]
  · simp only [go_sem]
    refine vgo_call rfl rfl rfl rfl (c_bytesEqual _ _ _ _ _ _ σ) ?_
    simp only [go_sem]

end Go.VL

/- Contracts of this program's functions: opts.Same, second part. Conditions: none. -/
namespace Go.VL
open Go.Proofs

theorem c_equalFunc (nl c nl' c' : Bool) (l l' : List OV) (g : FuncId) (hl : l.length ≤ lim) (σ : St) (hg : ∀ a b, VCalls Tryz.prog g [ov a, ov b] σ fun r σ' => r = .bool (eqO a b) ∧ σ' = σ) :
    VCalls Tryz.prog 181 [.sl nl c 2 (osv l), .sl nl' c' 2 (osv l'), .fn (.func g) [] []] σ fun r σ' => r = .bool (same l l') ∧ σ' = σ := by
  refine vcalls_intro (C := cfg Tryz.prog [] [] []) (cfg_ok mixed) Tryz.func181 rfl rfl rfl rfl rfl ?_
  simp only [go_sem, osv_length]
  unfold lim at hl
  rcases Decidable.em (l.length = l'.length) with he | he
  · simp only [go_sem, he, bne_self_eq_false]
    refine w_loop (fun i => i ≤ l.length ∧ same (l.take i) (l'.take i) = true) (fun i => [(17, .int .i64 i), (16, .int .i64 l.length), (15, .sl nl c 2 (osv l)), (1, .sl nl' c' 2 (osv l')), (2, .fn (.func g) [] [])]) (fun _ => σ) (fun i => l.length - i) 0 ⟨Nat.zero_le _, rfl⟩ ?_ rfl ?_
    · simp only [go_sem, osv_length, he]
      rfl
    rintro i ⟨hi, hp⟩
    rcases Nat.lt_or_ge i l.length with h | h
    · have h' : i < l'.length := he ▸ h
      simp only [go_sem, osv_length, h, h', ov_getD h, ov_getD h']
      refine vgo_call rfl rfl rfl rfl (hg l[i] l'[i]) ?_
      cases hx : eqO l[i] l'[i]
      · simp only [go_sem]
        refine l_ret ?_
        simp only [go_sem, same_false h h' hx]
      · simp only [go_sem]
        have hw : IntKind.i64.wrap ((i : Int) + 1) = ((i + 1 : Nat) : Int) := wrap_ok (by omega) (by omega)
        refine l_next (i + 1) ⟨h, ?_⟩ (by omega) ?_ rfl
        · rw [same_take h h', hp, hx]; rfl
        · simp only [go_sem, hw]
    · have hn : ¬ (i < l.length) := by omega
      simp only [go_sem, osv_length, hn]
      refine l_exit ?_
      rw [List.take_of_length_le h, List.take_of_length_le (he ▸ h)] at hp
      simp only [go_sem, hp]
  · have hb : ((l.length : Int) != (l'.length : Int)) = true := by simp; omega
    have hf : same l l' = false := by
      cases h : same l l' with
      | false => rfl
      | true => exact absurd (same_length h) he
    simp only [go_sem, hb, hf]

theorem c_optsSame (nl c nl' c' : Bool) (l l' : List OV) (hl : l.length ≤ lim) (σ : St) : VCalls Tryz.prog 133 [.sl nl c 2 (osv l), .sl nl' c' 2 (osv l')] σ fun r σ' => r = .bool (same l l') ∧ σ' = σ := by
  refine vcalls_intro (C := cfg Tryz.prog [] [] []) (cfg_ok mixed) Tryz.func133 rfl rfl rfl rfl rfl ?_
  simp only [go_sem]
  refine vgo_call rfl rfl rfl rfl (c_equalFunc nl c nl' c' l l' _ hl σ fun a b => c_same1 a b σ) ?_
  simp only [go_sem]

end Go.VL

/- Contracts of this program's functions: slices.Clone. Conditions: none. -/
namespace Go.VL
open Go.Proofs

end Go.VL

/- Contracts of this program's functions: slices.IndexFunc over a row that is the caller's own. Conditions: none. -/
namespace Go.VL
open Go.Proofs

end Go.VL

/- Contracts of this program's functions: slices.DeleteFunc. Conditions: none. -/
namespace Go.VL
open Go.Proofs

theorem set_self {σ : St} {id : Nat} {o o' : VO} (h : σ[id]? = some o) : (σ.set id o')[id]? = some o' := by
  have := lt_of_some h
  simp [this]
theorem set_same {σ : St} {id : Nat} {o : VO} (h : σ[id]? = some o) : σ = σ.set id o := by
  obtain ⟨h1, h2⟩ := List.getElem?_eq_some_iff.1 h
  rw [← h2, List.set_getElem_self]

end Go.VL

/- Contracts of this program's functions: what is found, dropped and put. Conditions: none. -/
namespace Go.VL
open Go.Proofs

theorem idx_cases (p : OV → Bool) (l : List OV) : noneO p l = true ∨ ∃ i, ∃ h : i < l.length, noneO p (l.take i) = true ∧ p l[i] = true := by
  induction l with
  | nil => exact .inl rfl
  | cons o l ih =>
    cases ho : p o with
    | true => exact .inr ⟨0, by simp, rfl, by simpa using ho⟩
    | false =>
      rcases ih with ih | ⟨i, h1, h2, h3⟩
      · exact .inl (by simpa [noneO, ho] using ih)
      · exact .inr ⟨i + 1, by simpa using h1, by simpa [noneO, ho] using h2, by simpa using h3⟩

end Go.VL

/- Contracts of this program's functions: opts.Drop, opts.Put, rules.number. Conditions: none. -/
namespace Go.VL
open Go.Proofs

end Go.VL

/- Numbers of four bytes, and bytes as numbers: contracts told over words. Conditions: none. -/
namespace Go.VL
open Go.Proofs

def fourB (n : UInt32) : List UInt8 := [UInt8.ofNat (n.toNat / 16777216), UInt8.ofNat (n.toNat / 65536), UInt8.ofNat (n.toNat / 256), UInt8.ofNat n.toNat]

theorem wrap_u8 (n : Int) : IntKind.u8.wrap n = n % 256 := by simp [IntKind.wrap, IntKind.signed, IntKind.bits]
theorem wrap_u32 (n : Int) : IntKind.u32.wrap n = n % 4294967296 := by simp [IntKind.wrap, IntKind.signed, IntKind.bits]

theorem u8_ofNat (n : Nat) : ((UInt8.ofNat n).toNat : Int) = (n : Int) % 256 := by simp
theorem fdiv_nat (n k : Nat) (hk : 0 < k) : (n : Int).fdiv (k : Int) = ((n / k : Nat) : Int) := by
  rw [Int.fdiv_eq_ediv_of_nonneg _ (by omega)]; omega

theorem c_four' (n : UInt32) (σ : St) : VCalls Tryz.prog 194 [.int .u32 n.toNat] σ fun r σ' => r = .sl false true 1 (bv (fourB n)) ∧ σ' = σ := by
  refine (c_four n.toNat σ).mono fun r σ' h => ⟨h.1.trans ?_, h.2⟩
  have e1 : (2 : Int) ^ 24 = ((16777216 : Nat) : Int) := by decide
  have e2 : (2 : Int) ^ 16 = ((65536 : Nat) : Int) := by decide
  have e3 : (2 : Int) ^ 8 = ((256 : Nat) : Int) := by decide
  simp only [bv, fourB, List.map_cons, List.map_nil, wrap_u8, e1, e2, e3, fdiv_nat _ _ (by decide : 0 < 16777216), fdiv_nat _ _ (by decide : 0 < 65536), fdiv_nat _ _ (by decide : 0 < 256), u8_ofNat]
theorem c_rfour' (n : UInt32) (σ : St) : VCalls Tryz.prog 89 [.int .u32 n.toNat] σ fun r σ' => r = .sl false true 1 (bv (fourB n)) ∧ σ' = σ := by
  refine (c_rfour n.toNat σ).mono fun r σ' h => ⟨h.1.trans ?_, h.2⟩
  have hn : (n.toNat : Int) < 4294967296 := by have := n.toNat_lt; omega
  have t1 : ∀ k : Nat, 0 < k → (n.toNat : Int).tdiv (k : Int) = ((n.toNat / k : Nat) : Int) := fun k hk => by rw [Int.tdiv_eq_ediv_of_nonneg (by omega)]; omega
  have e1 : (16777216 : Int) = ((16777216 : Nat) : Int) := rfl
  have e2 : (65536 : Int) = ((65536 : Nat) : Int) := rfl
  have e3 : (256 : Int) = ((256 : Nat) : Int) := rfl
  simp only [bv, fourB, List.map_cons, List.map_nil, u8_ofNat]
  rw [e1, e2, e3, t1 _ (by decide), t1 _ (by decide), t1 _ (by decide), ← e3]
  simp only [wrap_u8, wrap_u32]
  have m1 : ∀ x : Nat, ((x : Int) % 4294967296).tmod 256 = ((x : Int) % 4294967296) % 256 := fun x => Int.tmod_eq_emod_of_nonneg (by omega)
  have m2 : (n.toNat : Int).tmod 256 = (n.toNat : Int) % 256 := Int.tmod_eq_emod_of_nonneg (by omega)
  rw [m1, m1, m2]
  congr 1
  congr 1
  · congr 1; omega
  congr 1
  · congr 1; omega
  congr 1
  · congr 1; omega
  congr 1
  congr 1
  omega

end Go.VL

/- Contracts of this program's functions: opts.Read, first part: what is ranged over. Conditions: none. -/
namespace Go.VL
open Go.Proofs

end Go.VL

/- Contracts of this program's functions: opts.Read, second part: the function that is ranged over. Conditions: none. -/
namespace Go.VL
open Go.Proofs

end Go.VL

/- Contracts of this program's functions: opts.Read. Conditions: none. -/
namespace Go.VL
open Go.Proofs

end Go.VL

/- Contracts of this program's functions: opts.Bytes. Conditions: none. -/
namespace Go.VL
open Go.Proofs

def encO (o : OV) : List UInt8 := o.t :: UInt8.ofNat (o.d.length + 2) :: o.d
def encL (l : List OV) : List UInt8 := l.flatMap encO
def bytesV' (l : List OV) : V := bif l.all (fun o => decide (o.d.length ≤ 253)) && decide ((encL l).length ≤ 1496) then .tup [.sl l.isEmpty false 1 (bv (encL l)), .int .i64 0] else .tup [.sl true false 0 [], .int .i64 1]

theorem encL_take {l : List OV} {i : Nat} (h : i < l.length) : encL (l.take (i + 1)) = encL (l.take i) ++ encO l[i] := by
  unfold encL
  rw [List.take_succ_eq_append_getElem h, List.flatMap_append]
  simp

theorem u8_small {n : Nat} (h : n < 256) : IntKind.u8.wrap (n : Int) = (n : Int) := by
  unfold IntKind.wrap
  simp [IntKind.bits, IntKind.signed]
  omega

theorem c_bytes (nl c : Bool) (l : List OV) (hl : l.length ≤ 8388608) (hd : ∀ o ∈ l, o.d.length ≤ lim) (σ : St) : VCalls Tryz.prog 129 [.sl nl c 2 (osv l)] σ fun r σ' => r = bytesV' l ∧ σ' = σ := by
  refine vcalls_intro (C := cfg Tryz.prog [] [] []) (cfg_ok mixed) Tryz.func129 rfl rfl rfl rfl rfl ?_
  simp only [go_sem]
  refine loop_adopt 4 1 σ.length rfl rfl ?_
  refine w_loop (fun i => i ≤ l.length ∧ (encL (l.take i)).length ≤ 255 * i ∧ ∀ o ∈ l.take i, o.d.length ≤ 253) (fun i => [(9, .int .i64 i), (8, .int .i64 l.length), (7, .sl nl c 2 (osv l)), (4, .rsl σ.length (2 * i) 0 (encL (l.take i)).length)]) (fun i => σ ++ [.arr (i == 0) (2 * i) 1 (bv (encL (l.take i)))]) (fun i => l.length - i) 0 ⟨Nat.zero_le _, Nat.le_refl _, fun o h => (by simp at h)⟩ ?_ rfl ?_
  · simp only [go_sem, osv_length, encL, List.take_zero, List.flatMap_nil, List.length_nil, Nat.mul_zero]
    rfl
  rintro i ⟨hi, hlen, hall⟩
  have hlz : (bv (encL (l.take i))).length = (encL (l.take i)).length := bv_length _
  rcases Nat.lt_or_ge i l.length with h | h
  · have hdi := hd l[i] (List.getElem_mem h)
    rcases Nat.lt_or_ge 253 l[i].d.length with h3 | h3
    · have c3 : decide ((253 : Int) < (l[i].d.length : Int)) = true := by simp; omega
      simp only [go_sem, osv_length, osv_getD h, h, ov, bv_length, c3]
      refine l_ret ?_
      have hb : bytesV' l = .tup [.sl true false 0 [], .int .i64 1] := by
        have : l.all (fun o => decide (o.d.length ≤ 253)) = false := by
          rw [List.all_eq_false]
          exact ⟨l[i], List.getElem_mem h, by simp; omega⟩
        unfold bytesV'
        rw [this]
        rfl
      simp only [go_sem, hb]
    · have c3 : decide ((253 : Int) < (l[i].d.length : Int)) = false := by simp; omega
      simp only [go_sem, osv_length, osv_getD h, h, ov, bv_length, c3]
      refine w_walk2 [9, 12, 13] [0, 1, 2, 3, 4, 5, 6, 7, 8, 10, 11, 9, 12, 13] [17, 18, 19, 20, 21, 22, 23, 24, 25, 27, 28] [0, 0, 2, 0, 8, 24, 56, 120, 254, 511, 0, 1024, 4095, 8191] rfl rfl rfl rfl ?_
      simp only [go_sem, osv_length, osv_getD h, h, ov, bv_length]
      have hw : IntKind.u8.wrap (IntKind.i64.wrap ((l[i].d.length : Int) + 2)) = ((UInt8.ofNat (l[i].d.length + 2)).toNat : Int) := by
        rw [wrap_ok (by omega) (by omega)]
        have : (UInt8.ofNat (l[i].d.length + 2)).toNat = l[i].d.length + 2 := by simp; omega
        rw [this, show ((l[i].d.length : Int) + 2) = ((l[i].d.length + 2 : Nat) : Int) by omega]
        exact u8_small (by omega)
      simp only [hw]
      refine ⟨by unfold lim; omega, ?_⟩
      have hw1 : IntKind.i64.wrap ((i : Int) + 1) = ((i + 1 : Nat) : Int) := wrap_ok (by omega) (by omega)
      have he1 : bv (encL (l.take i)) ++ [V.int IntKind.u8 l[i].t.toNat, V.int IntKind.u8 (UInt8.ofNat (l[i].d.length + 2)).toNat] ++ bv l[i].d = bv (encL (l.take (i + 1))) := by
        rw [encL_take h]
        simp [bv, encO]
      have he2 : (encL (l.take (i + 1))).length = (encL (l.take i)).length + 2 + l[i].d.length := by
        rw [encL_take h]
        simp [encO]
        omega
      refine ⟨by simp [bv], by simp [bv]; unfold lim; omega, l_next (i + 1) ⟨h, by omega, fun o ho => ?_⟩ (by omega) ?_ ?_⟩
      · rw [List.take_succ_eq_append_getElem h] at ho
        rcases List.mem_append.1 ho with ho | ho
        · exact hall o ho
        · have : o = l[i] := by simpa using ho
          rw [this]; exact h3
      · have hg : 2 * i + 1 + 1 = 2 * (i + 1) := by omega
        simp only [go_sem, hw1, he2, hg, List.length_append, List.length_cons, List.length_nil, bv_length]
      · have hg : 2 * i + 1 + 1 = 2 * (i + 1) := by omega
        simp only [he1, go_sem, hg]
  · have hn : ¬ (i < l.length) := by omega
    simp only [go_sem, osv_length, hn]
    refine l_exit ?_
    have hil : i = l.length := by omega
    subst hil
    rw [List.take_length] at hall hlen
    have hal : l.all (fun o => decide (o.d.length ≤ 253)) = true := List.all_eq_true.2 fun o ho => by simpa using hall o ho
    have hem : (l.length == 0) = l.isEmpty := by cases l <;> rfl
    rcases Nat.lt_or_ge 1496 (encL l).length with h3 | h3
    · have c3 : decide ((1496 : Int) < ((encL l).length : Int)) = true := by simp; omega
      have c4 : decide ((encL l).length ≤ 1496) = false := by simp; omega
      simp only [go_sem, List.take_length, Nat.sub_zero, c3, bytesV', hal, c4, Bool.true_and]
    · have c3 : decide ((1496 : Int) < ((encL l).length : Int)) = false := by simp; omega
      have c4 : decide ((encL l).length ≤ 1496) = true := by simp; omega
      simp only [go_sem, List.take_length, Nat.sub_zero, c3, bytesV', hal, c4, Bool.true_and, hem]
      rw [List.take_of_length_le (by simp [bv])]

end Go.VL

/- The document's examples, at the head of the laws on options. Conditions: none. -/
namespace Go.VL
open Go.Proofs

end Go.VL
/- Options as bytes, and back: plain laws. Conditions: none. -/
namespace Go.VL
open Go.Proofs

end Go.VL

/- The law OptsBack, over values. Conditions: none. -/
namespace Go.VL
open Go.Proofs

end Go.VL

/- Contracts of this program's functions: rules, first part. Conditions: none. -/
namespace Go.VL
open Go.Proofs

structure RV where
  ip : Bool
  magic : UInt32
  other : UInt32
  addr : UInt32
  ours : UInt32
def rvC (r : RV) : List V := [.bool r.ip, .int .u32 r.magic.toNat, .int .u32 r.other.toNat, .int .u32 r.addr.toNat, .int .u32 r.ours.toNat]
def rv (r : RV) : V := .agg (rvC r)

/-- Which numbers may not be. -/
inductive NK where
  | addr
  | mru
  | never
  | magic
def gOf : NK → FuncId
  | .addr => 235
  | .mru => 236
  | .never => 237
  | .magic => 238
def capOf (r : RV) : NK → List V
  | .addr => [.ip (rvC r)]
  | .mru => []
  | .never => []
  | .magic => [.ip (rvC r)]
/-- A kind of option. -/
structure KV where
  long : Nat
  nf : NK
  should : UInt32
def kv (r : RV) (k : KV) : V := .agg [.int .i64 k.long, .fn (.func (gOf k.nf)) [] (capOf r k.nf), .int .u32 k.should.toNat]
end Go.VL

/- Contracts of this program's functions: rules, second part. Conditions: none. -/
namespace Go.VL
open Go.Proofs

end Go.VL

/- Contracts of this program's functions: rules, third part. Conditions: none. -/
namespace Go.VL
open Go.Proofs

/-- A number as an option. -/
def numO (t : UInt8) (long : Nat) (n : UInt32) : OV := { t := t, nl := false, c := true, d := (fourB n).drop (4 - long) }
theorem fourB_length (n : UInt32) : (fourB n).length = 4 := rfl
theorem bv_drop (l : List UInt8) (k : Nat) : (bv l).drop k = bv (l.drop k) := by simp [bv, List.map_drop]
theorem bv_take (l : List UInt8) : (bv l).take l.length = bv l := by rw [← bv_length l, List.take_length]

theorem c_rnumb (t : UInt8) (long : Nat) (hlong : long ≤ 4) (n : UInt32) (σ : St) : VCalls Tryz.prog 166 [.int .u8 t.toNat, .int .i64 long, .int .u32 n.toNat] σ fun r σ' => r = ov (numO t long n) ∧ σ' = σ := by
  refine vcalls_intro (C := cfg Tryz.prog [] [] []) (cfg_ok mixed) Tryz.func166 rfl rfl rfl rfl rfl ?_
  simp only [go_sem]
  refine vgo_call rfl rfl rfl rfl (c_four' n σ) ?_
  have e4 : ((4 : Nat) : Int) = 4 := rfl
  have hw : IntKind.i64.wrap (4 - (long : Int)) = ((4 - long : Nat) : Int) := by rw [IntWalk.i64_in _ (by omega)]; omega
  have h1 : ((4 - long : Nat) : Int) ≤ 4 := by omega
  have hb : (bv (fourB n)).take 4 = bv (fourB n) := bv_take (fourB n)
  have h2 : 4 - long ≤ 4 := by omega
  simp only [go_sem, bv_length, fourB_length, e4, hw, h1, h2, hb, bv_drop, ov, numO]

def rAsk (r : RV) : List OV := bif r.ip then [numO 3 4 r.ours] else [{ t := 3, nl := false, c := true, d := [194, 35, 5] }, numO 5 4 r.magic]

theorem c_ask (r : RV) (σ : St) : VCalls Tryz.prog 117 [rv r] σ fun x σ' => x = .sl false true 2 (osv (rAsk r)) ∧ σ' = σ := by
  refine vcalls_intro (C := cfg Tryz.prog [] [] []) (cfg_ok mixed) Tryz.func117 rfl rfl rfl rfl rfl ?_
  simp only [go_sem, rv, rvC]
  unfold rAsk
  cases hi : r.ip
  · simp only [go_sem]
    refine vgo_call rfl rfl rfl rfl (c_rnumb 5 4 (Nat.le_refl _) r.magic σ) ?_
    simp only [go_sem, ov]
    rfl
  · simp only [go_sem]
    refine vgo_call rfl rfl rfl rfl (c_rnumb 3 4 (Nat.le_refl _) r.ours σ) ?_
    simp only [go_sem, ov]
    rfl

theorem c_rask (r : RV) (σ : St) : VCalls Tryz.prog 151 [rv r] σ fun x σ' => x = .sl false true 2 (osv (rAsk r)) ∧ σ' = σ := by
  refine vcalls_intro (C := cfg Tryz.prog [] [] []) (cfg_ok mixed) Tryz.func151 rfl rfl rfl rfl rfl ?_
  simp only [go_sem, rv, rvC]
  unfold rAsk
  cases hi : r.ip
  · simp only [go_sem]
    refine vgo_call rfl rfl rfl rfl (c_rfour' r.magic σ) ?_
    simp only [go_sem, ov]
    rfl
  · simp only [go_sem]
    refine vgo_call rfl rfl rfl rfl (c_rfour' r.ours σ) ?_
    simp only [go_sem, ov]
    rfl

end Go.VL

/- Contracts of this program's functions: rules, fourth part. Conditions: none. -/
namespace Go.VL
open Go.Proofs

def ipR : RV := { ip := true, magic := 0, other := 0, addr := 0, ours := 0 }
end Go.VL
/- Contracts of this program's functions: rules, fifth part. Conditions: none. -/
namespace Go.VL
open Go.Proofs

end Go.VL
/- Contracts of this program's functions: rules.Answer. Conditions: none. -/
namespace Go.VL
open Go.Proofs

end Go.VL

/- Contracts of this program's functions: the document's Answer. Conditions: none. -/
namespace Go.VL
open Go.Proofs

end Go.VL

/- Contracts of this program's functions: rules.Turn. Conditions: none. -/
namespace Go.VL
open Go.Proofs

end Go.VL
