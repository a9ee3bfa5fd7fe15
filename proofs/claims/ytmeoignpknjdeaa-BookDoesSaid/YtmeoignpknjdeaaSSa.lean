/- Contracts of this program's functions over values, joined texts. Conditions: none. -/
import Derived.Test.YtmeoignpknjdeaaVVc
import Derived.Test.YtmeoignpknjdeaaProg
set_option linter.unusedVariables false
set_option linter.unusedSimpArgs false
/- The types of this program, as the value-level words want them. Conditions: none (facts about the given program, by the kernel's own reckoning). -/
namespace Go.VL

theorem ty0 : tyOf Go.Proofs.Try.prog 0 = { known := true, bytes := 0, zero := [Value.tuple ([]).toArray] } := by kernel_rfl
theorem ty1 : tyOf Go.Proofs.Try.prog 1 = { known := true, zero := [Value.nilFunc], d := TD.func } := by kernel_rfl
theorem ty2 : tyOf Go.Proofs.Try.prog 2 = { known := true, zero := [Value.int IntKind.i64 (0)], d := TD.int } := by kernel_rfl
theorem ty3 : tyOf Go.Proofs.Try.prog 3 = { known := true, zero := [Value.int IntKind.i64 (0)], d := TD.int } := by kernel_rfl
theorem ty4 : tyOf Go.Proofs.Try.prog 4 = { known := true, bytes := 1, zero := [Value.bool false], d := TD.bool } := by kernel_rfl
theorem ty5 : tyOf Go.Proofs.Try.prog 5 = { known := true, bytes := 1, zero := [Value.int IntKind.u8 (0)], d := TD.int } := by kernel_rfl
theorem ty6 : tyOf Go.Proofs.Try.prog 6 = { known := true, bytes := 1, zero := [Value.int IntKind.u8 (0)], d := TD.int } := by kernel_rfl
theorem ty7 : tyOf Go.Proofs.Try.prog 7 = { known := true, agg := true, size := 4, bytes := 24, zero := [Value.int IntKind.i64 (0), Value.int IntKind.i64 (0), Value.bool false, Value.int IntKind.u8 (0)], d := TD.struct [(0, 2), (1, 3), (2, 4), (3, 6)], eqs := true, eqk := [PK.int IntKind.i64, PK.int IntKind.i64, PK.bool, PK.int IntKind.u8] } := by kernel_rfl
theorem ty8 : tyOf Go.Proofs.Try.prog 8 = { known := true, agg := true, size := 4, bytes := 24, zero := [Value.int IntKind.i64 (0), Value.int IntKind.i64 (0), Value.bool false, Value.int IntKind.u8 (0)], d := TD.struct [(0, 2), (1, 3), (2, 4), (3, 6)], eqs := true, eqk := [PK.int IntKind.i64, PK.int IntKind.i64, PK.bool, PK.int IntKind.u8] } := by kernel_rfl
theorem ty9 : tyOf Go.Proofs.Try.prog 9 = { known := true, bytes := 16, zero := [Value.string ⟨#[]⟩], d := TD.str } := by kernel_rfl
theorem ty10 : tyOf Go.Proofs.Try.prog 10 = { known := true, bytes := 16, zero := [Value.string ⟨#[]⟩], d := TD.str } := by kernel_rfl
theorem ty11 : tyOf Go.Proofs.Try.prog 11 = { known := true, bytes := 16, zero := [Value.string ⟨#[]⟩], d := TD.str } := by kernel_rfl
theorem ty12 : tyOf Go.Proofs.Try.prog 12 = { known := true, zero := [Value.int IntKind.u64 (0)], d := TD.int } := by kernel_rfl
theorem ty13 : tyOf Go.Proofs.Try.prog 13 = { known := true, agg := true, size := 2, bytes := 24, zero := [Value.string ⟨#[]⟩, Value.int IntKind.u64 (0)], d := TD.struct [(0, 9), (1, 12)] } := by kernel_rfl
theorem ty14 : tyOf Go.Proofs.Try.prog 14 = { known := true, agg := true, size := 2, bytes := 24, zero := [Value.string ⟨#[]⟩, Value.int IntKind.u64 (0)], d := TD.struct [(0, 9), (1, 12)] } := by kernel_rfl
theorem ty15 : tyOf Go.Proofs.Try.prog 15 = { known := true, zero := [Value.pointer none], d := TD.ptr } := by kernel_rfl
theorem ty16 : tyOf Go.Proofs.Try.prog 16 = { known := true, zero := [Value.pointer none], d := TD.ptr } := by kernel_rfl
theorem ty17 : tyOf Go.Proofs.Try.prog 17 = { known := true, zero := [Value.pointer none], d := TD.ptr } := by kernel_rfl
theorem ty18 : tyOf Go.Proofs.Try.prog 18 = { known := true, agg := true, zero := [Value.pointer none], d := TD.struct [(0, 17)] } := by kernel_rfl
theorem ty19 : tyOf Go.Proofs.Try.prog 19 = { known := true, agg := true, zero := [Value.pointer none], d := TD.struct [(0, 17)] } := by kernel_rfl
theorem ty20 : tyOf Go.Proofs.Try.prog 20 = { known := true, bytes := 16, zero := [Value.nilIface], d := TD.iface } := by kernel_rfl
theorem ty21 : tyOf Go.Proofs.Try.prog 21 = { known := true, bytes := 4, zero := [Value.int IntKind.i32 (0)], d := TD.int } := by kernel_rfl
theorem ty22 : tyOf Go.Proofs.Try.prog 22 = { known := true, bytes := 24, zero := [Value.slice none 0 0], d := TD.slice 48 } := by kernel_rfl
theorem ty23 : tyOf Go.Proofs.Try.prog 23 = { known := true, bytes := 24, zero := [Value.slice none 0 0], d := TD.slice 46 } := by kernel_rfl
theorem ty24 : tyOf Go.Proofs.Try.prog 24 = { known := true, bytes := 24, zero := [Value.slice none 0 0], d := TD.slice 51 } := by kernel_rfl
theorem ty25 : tyOf Go.Proofs.Try.prog 25 = { known := true, agg := true, size := 4, bytes := 80, zero := [Value.int IntKind.i64 (0), Value.slice none 0 0, Value.slice none 0 0, Value.slice none 0 0], d := TD.struct [(0, 3), (1, 22), (2, 23), (3, 24)] } := by kernel_rfl
theorem ty26 : tyOf Go.Proofs.Try.prog 26 = { known := true, agg := true, size := 4, bytes := 80, zero := [Value.int IntKind.i64 (0), Value.slice none 0 0, Value.slice none 0 0, Value.slice none 0 0], d := TD.struct [(0, 3), (1, 22), (2, 23), (3, 24)] } := by kernel_rfl
theorem ty27 : tyOf Go.Proofs.Try.prog 27 = { known := true, bytes := 4, zero := [Value.int IntKind.u32 (0)], d := TD.int } := by kernel_rfl
theorem ty28 : tyOf Go.Proofs.Try.prog 28 = { known := true, zero := [Value.int IntKind.u64 (0)], d := TD.int } := by kernel_rfl
theorem ty29 : tyOf Go.Proofs.Try.prog 29 = { known := true, agg := true, size := 9, bytes := 80, zero := [Value.int IntKind.i64 (0), Value.int IntKind.i64 (0), Value.int IntKind.i64 (0), Value.int IntKind.u32 (0), Value.string ⟨#[]⟩, Value.int IntKind.u64 (0), Value.int IntKind.u64 (0), Value.int IntKind.i64 (0), Value.int IntKind.i64 (0)], d := TD.struct [(0, 3), (1, 3), (2, 3), (3, 27), (4, 9), (5, 28), (6, 28), (7, 3), (8, 3)], eqs := true, eqk := [PK.int IntKind.i64, PK.int IntKind.i64, PK.int IntKind.i64, PK.int IntKind.u32, PK.str, PK.int IntKind.u64, PK.int IntKind.u64, PK.int IntKind.i64, PK.int IntKind.i64] } := by kernel_rfl
theorem ty30 : tyOf Go.Proofs.Try.prog 30 = { known := true, agg := true, size := 9, bytes := 80, zero := [Value.int IntKind.i64 (0), Value.int IntKind.i64 (0), Value.int IntKind.i64 (0), Value.int IntKind.u32 (0), Value.string ⟨#[]⟩, Value.int IntKind.u64 (0), Value.int IntKind.u64 (0), Value.int IntKind.i64 (0), Value.int IntKind.i64 (0)], d := TD.struct [(0, 3), (1, 3), (2, 3), (3, 27), (4, 9), (5, 28), (6, 28), (7, 3), (8, 3)], eqs := true, eqk := [PK.int IntKind.i64, PK.int IntKind.i64, PK.int IntKind.i64, PK.int IntKind.u32, PK.str, PK.int IntKind.u64, PK.int IntKind.u64, PK.int IntKind.i64, PK.int IntKind.i64] } := by kernel_rfl
theorem ty31 : tyOf Go.Proofs.Try.prog 31 = { known := true, zero := [Value.nilFunc], d := TD.func } := by kernel_rfl
theorem ty32 : tyOf Go.Proofs.Try.prog 32 = { known := true, zero := [Value.nilFunc], d := TD.func } := by kernel_rfl
theorem ty33 : tyOf Go.Proofs.Try.prog 33 = { known := true, zero := [Value.int IntKind.i64 (0)], d := TD.int } := by kernel_rfl
theorem ty34 : tyOf Go.Proofs.Try.prog 34 = { known := true, bytes := 0, zero := [Value.tuple ([Value.agg (List.toArray [Value.int IntKind.i64 (0), Value.slice none 0 0, Value.slice none 0 0, Value.slice none 0 0]), Value.int IntKind.i64 (0)]).toArray] } := by kernel_rfl
theorem ty35 : tyOf Go.Proofs.Try.prog 35 = { known := true, zero := [Value.nilFunc], d := TD.func } := by kernel_rfl
theorem ty36 : tyOf Go.Proofs.Try.prog 36 = { known := true, bytes := 0, zero := [Value.tuple ([Value.agg (List.toArray [Value.int IntKind.i64 (0), Value.slice none 0 0, Value.slice none 0 0, Value.slice none 0 0]), Value.int IntKind.i64 (0)]).toArray] } := by kernel_rfl
theorem ty37 : tyOf Go.Proofs.Try.prog 37 = { known := true, zero := [Value.nilFunc], d := TD.func } := by kernel_rfl
theorem ty38 : tyOf Go.Proofs.Try.prog 38 = { known := true, zero := [Value.nilFunc], d := TD.func } := by kernel_rfl
theorem ty39 : tyOf Go.Proofs.Try.prog 39 = { known := true, zero := [Value.nilFunc], d := TD.func } := by kernel_rfl
theorem ty40 : tyOf Go.Proofs.Try.prog 40 = { known := true, zero := [Value.nilFunc], d := TD.func } := by kernel_rfl
theorem ty41 : tyOf Go.Proofs.Try.prog 41 = { known := true, bytes := 24, zero := [Value.slice none 0 0], d := TD.slice 30 } := by kernel_rfl
theorem ty42 : tyOf Go.Proofs.Try.prog 42 = { known := true, zero := [Value.nilFunc], d := TD.func } := by kernel_rfl
theorem ty43 : tyOf Go.Proofs.Try.prog 43 = { known := true, bytes := 0, zero := [Value.tuple ([Value.int IntKind.u32 (0), Value.bool false]).toArray] } := by kernel_rfl
theorem ty44 : tyOf Go.Proofs.Try.prog 44 = { known := true, zero := [Value.nilFunc], d := TD.func } := by kernel_rfl
theorem ty45 : tyOf Go.Proofs.Try.prog 45 = { known := true, agg := true, size := 5, bytes := 40, zero := [Value.int IntKind.i64 (0), Value.int IntKind.i64 (0), Value.int IntKind.u64 (0), Value.int IntKind.u64 (0), Value.int IntKind.i64 (0)], d := TD.struct [(0, 3), (1, 3), (2, 28), (3, 28), (4, 3)], eqs := true, eqk := [PK.int IntKind.i64, PK.int IntKind.i64, PK.int IntKind.u64, PK.int IntKind.u64, PK.int IntKind.i64] } := by kernel_rfl
theorem ty46 : tyOf Go.Proofs.Try.prog 46 = { known := true, agg := true, size := 5, bytes := 40, zero := [Value.int IntKind.i64 (0), Value.int IntKind.i64 (0), Value.int IntKind.u64 (0), Value.int IntKind.u64 (0), Value.int IntKind.i64 (0)], d := TD.struct [(0, 3), (1, 3), (2, 28), (3, 28), (4, 3)], eqs := true, eqk := [PK.int IntKind.i64, PK.int IntKind.i64, PK.int IntKind.u64, PK.int IntKind.u64, PK.int IntKind.i64] } := by kernel_rfl
theorem ty47 : tyOf Go.Proofs.Try.prog 47 = { known := true, agg := true, size := 6, bytes := 56, zero := [Value.int IntKind.i64 (0), Value.int IntKind.i64 (0), Value.int IntKind.u32 (0), Value.string ⟨#[]⟩, Value.int IntKind.u64 (0), Value.int IntKind.u64 (0)], d := TD.struct [(0, 3), (1, 3), (2, 27), (3, 9), (4, 28), (5, 28)], eqs := true, eqk := [PK.int IntKind.i64, PK.int IntKind.i64, PK.int IntKind.u32, PK.str, PK.int IntKind.u64, PK.int IntKind.u64] } := by kernel_rfl
theorem ty48 : tyOf Go.Proofs.Try.prog 48 = { known := true, agg := true, size := 6, bytes := 56, zero := [Value.int IntKind.i64 (0), Value.int IntKind.i64 (0), Value.int IntKind.u32 (0), Value.string ⟨#[]⟩, Value.int IntKind.u64 (0), Value.int IntKind.u64 (0)], d := TD.struct [(0, 3), (1, 3), (2, 27), (3, 9), (4, 28), (5, 28)], eqs := true, eqk := [PK.int IntKind.i64, PK.int IntKind.i64, PK.int IntKind.u32, PK.str, PK.int IntKind.u64, PK.int IntKind.u64] } := by kernel_rfl
theorem ty49 : tyOf Go.Proofs.Try.prog 49 = { known := true, zero := [Value.nilFunc], d := TD.func } := by kernel_rfl
theorem ty50 : tyOf Go.Proofs.Try.prog 50 = { known := true, agg := true, size := 3, bytes := 32, zero := [Value.string ⟨#[]⟩, Value.int IntKind.i64 (0), Value.int IntKind.i64 (0)], d := TD.struct [(0, 9), (1, 3), (2, 3)], eqs := true, eqk := [PK.str, PK.int IntKind.i64, PK.int IntKind.i64] } := by kernel_rfl
theorem ty51 : tyOf Go.Proofs.Try.prog 51 = { known := true, agg := true, size := 3, bytes := 32, zero := [Value.string ⟨#[]⟩, Value.int IntKind.i64 (0), Value.int IntKind.i64 (0)], d := TD.struct [(0, 9), (1, 3), (2, 3)], eqs := true, eqk := [PK.str, PK.int IntKind.i64, PK.int IntKind.i64] } := by kernel_rfl
theorem ty52 : tyOf Go.Proofs.Try.prog 52 = { known := true, zero := [Value.nilFunc], d := TD.func } := by kernel_rfl
theorem ty53 : tyOf Go.Proofs.Try.prog 53 = { known := true, zero := [Value.nilFunc], d := TD.func } := by kernel_rfl
theorem ty54 : tyOf Go.Proofs.Try.prog 54 = { known := true, zero := [Value.nilFunc], d := TD.func } := by kernel_rfl
theorem ty55 : tyOf Go.Proofs.Try.prog 55 = { known := true, zero := [Value.nilFunc], d := TD.func } := by kernel_rfl
theorem ty56 : tyOf Go.Proofs.Try.prog 56 = { known := true, zero := [Value.nilFunc], d := TD.func } := by kernel_rfl
theorem ty57 : tyOf Go.Proofs.Try.prog 57 = { known := true, zero := [Value.pointer none], d := TD.ptr } := by kernel_rfl
theorem ty58 : tyOf Go.Proofs.Try.prog 58 = { known := true, agg := true, size := 4, bytes := 80, zero := [Value.int IntKind.i64 (0), Value.slice none 0 0, Value.slice none 0 0, Value.slice none 0 0], d := TD.struct [(0, 26)] } := by kernel_rfl
theorem ty59 : tyOf Go.Proofs.Try.prog 59 = { known := true, agg := true, size := 4, bytes := 80, zero := [Value.int IntKind.i64 (0), Value.slice none 0 0, Value.slice none 0 0, Value.slice none 0 0], d := TD.struct [(0, 26)] } := by kernel_rfl
theorem ty60 : tyOf Go.Proofs.Try.prog 60 = { known := true, zero := [Value.nilFunc], d := TD.func } := by kernel_rfl
theorem ty61 : tyOf Go.Proofs.Try.prog 61 = { known := true, zero := [Value.map none], d := TD.map 3 60 } := by kernel_rfl
theorem ty62 : tyOf Go.Proofs.Try.prog 62 = { known := true, zero := [Value.nilFunc], d := TD.func } := by kernel_rfl
theorem ty63 : tyOf Go.Proofs.Try.prog 63 = { known := true, zero := [Value.map none], d := TD.map 3 48 } := by kernel_rfl
theorem ty64 : tyOf Go.Proofs.Try.prog 64 = { known := true, bytes := 0, zero := [Value.tuple ([Value.map none, Value.bool false]).toArray] } := by kernel_rfl
theorem ty65 : tyOf Go.Proofs.Try.prog 65 = { known := true, zero := [Value.nilFunc], d := TD.func } := by kernel_rfl
theorem ty66 : tyOf Go.Proofs.Try.prog 66 = { known := true, zero := [Value.nilFunc], d := TD.func } := by kernel_rfl
theorem ty67 : tyOf Go.Proofs.Try.prog 67 = { known := true, zero := [Value.nilFunc], d := TD.func } := by kernel_rfl
theorem ty68 : tyOf Go.Proofs.Try.prog 68 = { known := true, zero := [Value.nilFunc], d := TD.func } := by kernel_rfl
theorem ty69 : tyOf Go.Proofs.Try.prog 69 = { known := true, zero := [Value.nilFunc], d := TD.func } := by kernel_rfl
theorem ty70 : tyOf Go.Proofs.Try.prog 70 = { known := true, zero := [Value.nilFunc], d := TD.func } := by kernel_rfl
theorem ty71 : tyOf Go.Proofs.Try.prog 71 = { known := true, zero := [Value.nilFunc], d := TD.func } := by kernel_rfl
theorem ty72 : tyOf Go.Proofs.Try.prog 72 = { known := true, zero := [Value.nilFunc], d := TD.func } := by kernel_rfl
theorem ty73 : tyOf Go.Proofs.Try.prog 73 = { known := true, zero := [Value.nilFunc], d := TD.func } := by kernel_rfl
theorem ty74 : tyOf Go.Proofs.Try.prog 74 = { known := true, zero := [Value.nilFunc], d := TD.func } := by kernel_rfl
theorem ty75 : tyOf Go.Proofs.Try.prog 75 = { known := true, zero := [Value.nilFunc], d := TD.func } := by kernel_rfl
theorem ty76 : tyOf Go.Proofs.Try.prog 76 = { known := true, zero := [Value.nilFunc], d := TD.func } := by kernel_rfl
theorem ty77 : tyOf Go.Proofs.Try.prog 77 = { known := true, bytes := 0, zero := [Value.tuple ([Value.int IntKind.i64 (0), Value.int IntKind.i64 (0)]).toArray] } := by kernel_rfl
theorem ty78 : tyOf Go.Proofs.Try.prog 78 = { known := true, zero := [Value.nilFunc], d := TD.func } := by kernel_rfl
theorem ty79 : tyOf Go.Proofs.Try.prog 79 = { known := true, zero := [Value.nilFunc], d := TD.func } := by kernel_rfl
theorem ty80 : tyOf Go.Proofs.Try.prog 80 = { known := true, zero := [Value.nilFunc], d := TD.func } := by kernel_rfl
theorem ty81 : tyOf Go.Proofs.Try.prog 81 = { known := true, zero := [Value.nilFunc], d := TD.func } := by kernel_rfl
theorem ty82 : tyOf Go.Proofs.Try.prog 82 = { known := true, zero := [Value.nilFunc], d := TD.func } := by kernel_rfl
theorem ty83 : tyOf Go.Proofs.Try.prog 83 = { known := true, zero := [Value.nilFunc], d := TD.func } := by kernel_rfl
theorem ty84 : tyOf Go.Proofs.Try.prog 84 = { known := true, zero := [Value.nilFunc], d := TD.func } := by kernel_rfl
theorem ty85 : tyOf Go.Proofs.Try.prog 85 = { known := true, zero := [Value.nilFunc], d := TD.func } := by kernel_rfl
theorem ty86 : tyOf Go.Proofs.Try.prog 86 = { known := true, zero := [Value.map none], d := TD.map 3 4 } := by kernel_rfl
theorem ty87 : tyOf Go.Proofs.Try.prog 87 = { known := true, zero := [Value.map none], d := TD.map 27 4 } := by kernel_rfl
theorem ty88 : tyOf Go.Proofs.Try.prog 88 = { known := true, zero := [Value.map none], d := TD.map 3 90 } := by kernel_rfl
theorem ty89 : tyOf Go.Proofs.Try.prog 89 = { known := true, zero := [Value.nilFunc], d := TD.func } := by kernel_rfl
theorem ty90 : tyOf Go.Proofs.Try.prog 90 = { known := true, zero := [Value.pointer none], d := TD.ptr } := by kernel_rfl
theorem ty91 : tyOf Go.Proofs.Try.prog 91 = { known := true, bytes := 0, zero := [Value.tuple { toList := [Value.agg ([Value.int IntKind.i64 (0), Value.int IntKind.i64 (0), Value.int IntKind.u32 (0), Value.string { data := (List.toArray []) }, Value.int IntKind.u64 (0), Value.int IntKind.u64 (0)]).toArray, Value.bool false] }] } := by kernel_rfl
theorem ty92 : tyOf Go.Proofs.Try.prog 92 = { known := true, zero := [Value.map none], d := TD.map 9 4 } := by kernel_rfl
theorem ty93 : tyOf Go.Proofs.Try.prog 93 = { known := true, zero := [Value.nilFunc], d := TD.func } := by kernel_rfl
theorem ty94 : tyOf Go.Proofs.Try.prog 94 = { known := true, zero := [Value.nilFunc], d := TD.func } := by kernel_rfl
theorem ty95 : tyOf Go.Proofs.Try.prog 95 = { known := true, zero := [Value.nilFunc], d := TD.func } := by kernel_rfl
theorem ty96 : tyOf Go.Proofs.Try.prog 96 = { known := true, zero := [Value.nilFunc], d := TD.func } := by kernel_rfl
theorem ty97 : tyOf Go.Proofs.Try.prog 97 = { known := true, zero := [Value.nilFunc], d := TD.func } := by kernel_rfl
theorem ty98 : tyOf Go.Proofs.Try.prog 98 = { known := true, agg := true, size := 4, bytes := 40, zero := [Value.pointer none, Value.pointer none, Value.pointer none, Value.string ⟨#[]⟩], d := TD.struct [(0, 17), (1, 17), (2, 17), (3, 9)] } := by kernel_rfl
theorem ty99 : tyOf Go.Proofs.Try.prog 99 = { known := true, agg := true, size := 4, bytes := 40, zero := [Value.pointer none, Value.pointer none, Value.pointer none, Value.string ⟨#[]⟩], d := TD.struct [(0, 17), (1, 17), (2, 17), (3, 9)] } := by kernel_rfl
theorem ty100 : tyOf Go.Proofs.Try.prog 100 = { known := true, agg := true, size := 0, bytes := 0, d := TD.array 0 16 } := by kernel_rfl
theorem ty101 : tyOf Go.Proofs.Try.prog 101 = { known := true, agg := true, size := 0, bytes := 0, d := TD.struct [(0, 100)] } := by kernel_rfl
theorem ty102 : tyOf Go.Proofs.Try.prog 102 = { known := true, agg := true, size := 0, bytes := 0, d := TD.struct [(0, 100)] } := by kernel_rfl
theorem ty103 : tyOf Go.Proofs.Try.prog 103 = { known := true, zero := [Value.nilFunc], d := TD.func } := by kernel_rfl
theorem ty104 : tyOf Go.Proofs.Try.prog 104 = { known := true, bytes := 1, zero := [Value.int IntKind.u8 (0)], d := TD.int } := by kernel_rfl
theorem ty105 : tyOf Go.Proofs.Try.prog 105 = { known := true, bytes := 1, zero := [Value.int IntKind.u8 (0)], d := TD.int } := by kernel_rfl
theorem ty106 : tyOf Go.Proofs.Try.prog 106 = { known := true, zero := [Value.nilFunc], d := TD.func } := by kernel_rfl
theorem ty107 : tyOf Go.Proofs.Try.prog 107 = { known := true, zero := [Value.pointer none], d := TD.ptr } := by kernel_rfl
theorem ty108 : tyOf Go.Proofs.Try.prog 108 = { known := true, bytes := 4, zero := [Value.int IntKind.i32 (0)], d := TD.int } := by kernel_rfl
theorem ty109 : tyOf Go.Proofs.Try.prog 109 = { known := true, bytes := 4, zero := [Value.int IntKind.i32 (0)], d := TD.int } := by kernel_rfl
theorem ty110 : tyOf Go.Proofs.Try.prog 110 = { known := true, agg := true, size := 11, bytes := 48, zero := [Value.int IntKind.u64 (0), Value.int IntKind.u64 (0), Value.int IntKind.u32 (0), Value.int IntKind.u8 (0), Value.int IntKind.u8 (0), Value.int IntKind.u8 (0), Value.int IntKind.u8 (0), Value.nilFunc, Value.pointer none, Value.int IntKind.i32 (0), Value.int IntKind.i32 (0)], d := TD.struct [(0, 12), (1, 12), (2, 27), (3, 104), (4, 5), (5, 5), (6, 105), (7, 106), (8, 107), (9, 108), (10, 109)] } := by kernel_rfl
theorem ty111 : tyOf Go.Proofs.Try.prog 111 = { known := true, agg := true, size := 11, bytes := 48, zero := [Value.int IntKind.u64 (0), Value.int IntKind.u64 (0), Value.int IntKind.u32 (0), Value.int IntKind.u8 (0), Value.int IntKind.u8 (0), Value.int IntKind.u8 (0), Value.int IntKind.u8 (0), Value.nilFunc, Value.pointer none, Value.int IntKind.i32 (0), Value.int IntKind.i32 (0)], d := TD.struct [(0, 12), (1, 12), (2, 27), (3, 104), (4, 5), (5, 5), (6, 105), (7, 106), (8, 107), (9, 108), (10, 109)] } := by kernel_rfl
theorem ty112 : tyOf Go.Proofs.Try.prog 112 = { known := true, zero := [Value.pointer none] } := by kernel_rfl
theorem rs3 : Go.Proofs.Try.f3.results.toList = [.tmp 4] := rfl
theorem rs4 : Go.Proofs.Try.f4.results.toList = [.tmp 4] := rfl
theorem rs5 : Go.Proofs.Try.f5.results.toList = [.tmp 2] := rfl
theorem rs6 : Go.Proofs.Try.f6.results.toList = [.tmp 4] := rfl
theorem rs7 : Go.Proofs.Try.f7.results.toList = [.tmp 4] := rfl
theorem rs8 : Go.Proofs.Try.f8.results.toList = [.tmp 2] := rfl
theorem rs9 : Go.Proofs.Try.f9.results.toList = [.tmp 0] := rfl
theorem rs10 : Go.Proofs.Try.f10.results.toList = [.tmp 2] := rfl
theorem rs11 : Go.Proofs.Try.f11.results.toList = [.cell 4  26, .tmp 5] := rfl
theorem rs12 : Go.Proofs.Try.f12.results.toList = [.cell 4  26, .tmp 5] := rfl
theorem rs13 : Go.Proofs.Try.f13.results.toList = [.tmp 4] := rfl
theorem rs14 : Go.Proofs.Try.f14.results.toList = [.cell 2  26] := rfl
theorem rs15 : Go.Proofs.Try.f15.results.toList = [.cell 2  26] := rfl
theorem rs16 : Go.Proofs.Try.f16.results.toList = [.tmp 2] := rfl
theorem rs17 : Go.Proofs.Try.f17.results.toList = [.tmp 2, .tmp 3] := rfl
theorem rs18 : Go.Proofs.Try.f18.results.toList = [.tmp 4] := rfl
theorem rs19 : Go.Proofs.Try.f19.results.toList = [.tmp 4] := rfl
theorem rs20 : Go.Proofs.Try.f20.results.toList = [.tmp 4] := rfl
theorem rs21 : Go.Proofs.Try.f21.results.toList = [.tmp 2] := rfl
theorem rs22 : Go.Proofs.Try.f22.results.toList = [.tmp 2] := rfl
theorem rs23 : Go.Proofs.Try.f23.results.toList = [.tmp 4] := rfl
theorem rs24 : Go.Proofs.Try.f24.results.toList = [.tmp 6] := rfl
theorem rs25 : Go.Proofs.Try.f25.results.toList = [.tmp 2] := rfl
theorem rs26 : Go.Proofs.Try.f26.results.toList = [.tmp 4] := rfl
theorem rs27 : Go.Proofs.Try.f27.results.toList = [.tmp 4] := rfl
theorem rs28 : Go.Proofs.Try.f28.results.toList = [.tmp 4] := rfl
theorem rs29 : Go.Proofs.Try.f29.results.toList = [.tmp 4] := rfl
theorem rs30 : Go.Proofs.Try.f30.results.toList = [.tmp 4] := rfl
theorem rs31 : Go.Proofs.Try.f31.results.toList = [.tmp 4] := rfl
theorem rs32 : Go.Proofs.Try.f32.results.toList = [.tmp 2] := rfl
theorem rs33 : Go.Proofs.Try.f33.results.toList = [.cell 4  26, .tmp 5] := rfl
theorem rs34 : Go.Proofs.Try.f34.results.toList = [.cell 4  26, .tmp 5] := rfl
theorem rs35 : Go.Proofs.Try.f35.results.toList = [.cell 4  26, .tmp 5] := rfl
theorem rs36 : Go.Proofs.Try.f36.results.toList = [.cell 4  26] := rfl
theorem rs37 : Go.Proofs.Try.f37.results.toList = [.tmp 2, .tmp 3] := rfl
theorem rs38 : Go.Proofs.Try.f38.results.toList = [.tmp 4] := rfl
theorem rs39 : Go.Proofs.Try.f39.results.toList = [.tmp 4] := rfl
theorem rs40 : Go.Proofs.Try.f40.results.toList = [.tmp 2] := rfl
theorem rs41 : Go.Proofs.Try.f41.results.toList = [.tmp 2] := rfl
theorem rs42 : Go.Proofs.Try.f42.results.toList = [.tmp 4] := rfl
theorem rs43 : Go.Proofs.Try.f43.results.toList = [.tmp 3] := rfl
theorem rs44 : Go.Proofs.Try.f44.results.toList = [.tmp 4] := rfl
theorem rs45 : Go.Proofs.Try.f45.results.toList = [.tmp 4] := rfl
theorem rs46 : Go.Proofs.Try.f46.results.toList = [.tmp 4] := rfl
theorem rs47 : Go.Proofs.Try.f47.results.toList = [.tmp 2] := rfl
theorem rs48 : Go.Proofs.Try.f48.results.toList = [.tmp 2] := rfl
theorem rs49 : Go.Proofs.Try.f49.results.toList = [.tmp 3] := rfl
theorem rs50 : Go.Proofs.Try.f50.results.toList = [.tmp 4] := rfl
theorem rs51 : Go.Proofs.Try.f51.results.toList = [.tmp 2] := rfl
theorem rs52 : Go.Proofs.Try.f52.results.toList = [] := rfl
theorem rs53 : Go.Proofs.Try.f53.results.toList = [.tmp 4, .tmp 5] := rfl
theorem rs54 : Go.Proofs.Try.f54.results.toList = [.tmp 2] := rfl
theorem rs55 : Go.Proofs.Try.f55.results.toList = [.tmp 6] := rfl
theorem rs56 : Go.Proofs.Try.f56.results.toList = [.tmp 4] := rfl
theorem rs57 : Go.Proofs.Try.f57.results.toList = [.tmp 2] := rfl
theorem rs58 : Go.Proofs.Try.f58.results.toList = [.tmp 2] := rfl
theorem rs59 : Go.Proofs.Try.f59.results.toList = [.tmp 6] := rfl
theorem rs60 : Go.Proofs.Try.f60.results.toList = [.tmp 3] := rfl
theorem rs61 : Go.Proofs.Try.f61.results.toList = [.tmp 3] := rfl
theorem rs62 : Go.Proofs.Try.f62.results.toList = [.tmp 4] := rfl
theorem rs63 : Go.Proofs.Try.f63.results.toList = [.tmp 2] := rfl
theorem rs64 : Go.Proofs.Try.f64.results.toList = [.tmp 4] := rfl
theorem rs65 : Go.Proofs.Try.f65.results.toList = [.tmp 4] := rfl
theorem rs66 : Go.Proofs.Try.f66.results.toList = [.tmp 2] := rfl
theorem rs67 : Go.Proofs.Try.f67.results.toList = [.tmp 3] := rfl
theorem rs68 : Go.Proofs.Try.f68.results.toList = [.tmp 4] := rfl
theorem rs69 : Go.Proofs.Try.f69.results.toList = [.tmp 3] := rfl
theorem rs70 : Go.Proofs.Try.f70.results.toList = [.tmp 4] := rfl
theorem rs71 : Go.Proofs.Try.f71.results.toList = [] := rfl
theorem rs72 : Go.Proofs.Try.f72.results.toList = [] := rfl
theorem rs73 : Go.Proofs.Try.f73.results.toList = [] := rfl
theorem rs74 : Go.Proofs.Try.f74.results.toList = [] := rfl
theorem rs75 : Go.Proofs.Try.f75.results.toList = [] := rfl
theorem rs76 : Go.Proofs.Try.f76.results.toList = [] := rfl
theorem rs77 : Go.Proofs.Try.f77.results.toList = [] := rfl
theorem rs78 : Go.Proofs.Try.f78.results.toList = [] := rfl
theorem rs79 : Go.Proofs.Try.f79.results.toList = [] := rfl
theorem rs80 : Go.Proofs.Try.f80.results.toList = [] := rfl
theorem rs81 : Go.Proofs.Try.f81.results.toList = [] := rfl
theorem rs82 : Go.Proofs.Try.f82.results.toList = [] := rfl
theorem rs83 : Go.Proofs.Try.f83.results.toList = [] := rfl
theorem rs84 : Go.Proofs.Try.f84.results.toList = [] := rfl
theorem rs85 : Go.Proofs.Try.f85.results.toList = [] := rfl
theorem rs86 : Go.Proofs.Try.f86.results.toList = [] := rfl

attribute [go_sem] ty0 ty1 ty2 ty3 ty4 ty5 ty6 ty7 ty8 ty9 ty10 ty11 ty12 ty13 ty14 ty15 ty16 ty17 ty18 ty19 ty20 ty21 ty22 ty23 ty24 ty25 ty26 ty27 ty28 ty29 ty30 ty31 ty32 ty33 ty34 ty35 ty36 ty37 ty38 ty39 ty40 ty41 ty42 ty43 ty44 ty45 ty46 ty47 ty48 ty49 ty50 ty51 ty52 ty53 ty54 ty55 ty56 ty57 ty58 ty59 ty60 ty61 ty62 ty63 ty64 ty65 ty66 ty67 ty68 ty69 ty70 ty71 ty72 ty73 ty74 ty75 ty76 ty77 ty78 ty79 ty80 ty81 ty82 ty83 ty84 ty85 ty86 ty87 ty88 ty89 ty90 ty91 ty92 ty93 ty94 ty95 ty96 ty97 ty98 ty99 ty100 ty101 ty102 ty103 ty104 ty105 ty106 ty107 ty108 ty109 ty110 ty111 ty112
attribute [go_sem] rs3 rs4 rs5 rs6 rs7 rs8 rs9 rs10 rs11 rs12 rs13 rs14 rs15 rs16 rs17 rs18 rs19 rs20 rs21 rs22 rs23 rs24 rs25 rs26 rs27 rs28 rs29 rs30 rs31 rs32 rs33 rs34 rs35 rs36 rs37 rs38 rs39 rs40 rs41 rs42 rs43 rs44 rs45 rs46 rs47 rs48 rs49 rs50 rs51 rs52 rs53 rs54 rs55 rs56 rs57 rs58 rs59 rs60 rs61 rs62 rs63 rs64 rs65 rs66 rs67 rs68 rs69 rs70 rs71 rs72 rs73 rs74 rs75 rs76 rs77 rs78 rs79 rs80 rs81 rs82 rs83 rs84 rs85 rs86

theorem mixed : Go.Proofs.Try.prog.follows .mixedOrders = true := by kernel_rfl

end Go.VL

/- Books as values: sessions, lines, locks, what is done. Conditions: none. -/
namespace Go.VL
open Go.Proofs

structure SV where
  id : Int
  link : Int
  addr : Int
  user : ByteArray
  inn : Int
  out : Int
  deriving DecidableEq
structure IV where
  kind : Int
  id : Int
  inn : Int
  out : Int
  cause : Int
  deriving DecidableEq
structure LV where
  user : ByteArray
  n : Int
  t : Int
  deriving DecidableEq
structure PV where
  kind : Int
  id : Int
  link : Int
  addr : Int
  user : ByteArray
  inn : Int
  out : Int
  cause : Int
  t : Int
/-- A book; which of its rows are nil. -/
structure BV where
  next : Int
  ol : List SV
  on : Bool
  il : List IV
  inl : Bool
  ll : List LV
  ln : Bool

def svC (s : SV) : List V := [.int .i64 s.id, .int .i64 s.link, .int .u32 s.addr, .str s.user, .int .u64 s.inn, .int .u64 s.out]
def ivC (s : IV) : List V := [.int .i64 s.kind, .int .i64 s.id, .int .u64 s.inn, .int .u64 s.out, .int .i64 s.cause]
def lvC (s : LV) : List V := [.str s.user, .int .i64 s.n, .int .i64 s.t]
def pvC (s : PV) : List V := [.int .i64 s.kind, .int .i64 s.id, .int .i64 s.link, .int .u32 s.addr, .str s.user, .int .u64 s.inn, .int .u64 s.out, .int .i64 s.cause, .int .i64 s.t]
def sv (s : SV) : V := .agg (svC s)
def iv (s : IV) : V := .agg (ivC s)
def lv (s : LV) : V := .agg (lvC s)
def pv (s : PV) : V := .agg (pvC s)
def svs (l : List SV) : List V := l.map sv
def ivs (l : List IV) : List V := l.map iv
def lvs (l : List LV) : List V := l.map lv
def bvC (b : BV) : List V := [.int .i64 b.next, .sl b.on false 6 (svs b.ol), .sl b.inl false 5 (ivs b.il), .sl b.ln false 3 (lvs b.ll)]
def bkv (b : BV) : V := .agg (bvC b)

theorem svs_length (l : List SV) : (svs l).length = l.length := by simp [svs]
theorem ivs_length (l : List IV) : (ivs l).length = l.length := by simp [ivs]
theorem lvs_length (l : List LV) : (lvs l).length = l.length := by simp [lvs]
theorem svs_getD {l : List SV} {i : Nat} (h : i < l.length) : (svs l).getD i .undef = .agg [.int .i64 l[i].id, .int .i64 l[i].link, .int .u32 l[i].addr, .str l[i].user, .int .u64 l[i].inn, .int .u64 l[i].out] := by simp [svs, h, sv, svC]
theorem ivs_getD {l : List IV} {i : Nat} (h : i < l.length) : (ivs l).getD i .undef = .agg [.int .i64 l[i].kind, .int .i64 l[i].id, .int .u64 l[i].inn, .int .u64 l[i].out, .int .i64 l[i].cause] := by simp [ivs, h, iv, ivC]
theorem lvs_getD {l : List LV} {i : Nat} (h : i < l.length) : (lvs l).getD i .undef = .agg [.str l[i].user, .int .i64 l[i].n, .int .i64 l[i].t] := by simp [lvs, h, lv, lvC]

theorem strEq_dec (a b : ByteArray) : strEq a b = decide (a = b) := by
  unfold strEq
  rw [Bool.eq_iff_iff, beq_iff_eq, decide_eq_true_eq]
  constructor
  · intro h
    rw [ByteArray.toList_eq, ByteArray.toList_eq] at h
    cases a; cases b
    simp at h
    rw [h]
  · exact fun h => by rw [h]

/-- Where the first one stands that is so. -/
def idxL {α : Type} (p : α → Bool) : List α → Int
  | [] => -1
  | o :: l => bif p o then 0 else (bif decide (idxL p l < 0) then -1 else idxL p l + 1)
def noneL {α : Type} (p : α → Bool) (l : List α) : Bool := l.all fun o => !p o
theorem idxL_none {α : Type} {p : α → Bool} : ∀ {l : List α}, noneL p l = true → idxL p l = -1
  | [], _ => rfl
  | o :: l, h => by
    simp only [noneL, List.all_cons, Bool.and_eq_true, Bool.not_eq_true'] at h
    have := idxL_none (l := l) h.2
    simp [idxL, h.1, this]
theorem idxL_at {α : Type} {p : α → Bool} : ∀ {l : List α} {i : Nat} (h : i < l.length), noneL p (l.take i) = true → p l[i] = true → idxL p l = i
  | o :: l, 0, _, _, hp => by simp only [List.getElem_cons_zero] at hp; simp [idxL, hp]
  | o :: l, i + 1, h, hn, hp => by
    simp only [noneL, List.take_succ_cons, List.all_cons, Bool.and_eq_true, Bool.not_eq_true'] at hn
    have := idxL_at (l := l) (i := i) (by simpa using h) hn.2 (by simpa using hp)
    have h0 : ¬ ((i : Int) < 0) := by omega
    simp [idxL, hn.1, this, h0]
theorem noneL_take {α : Type} {p : α → Bool} {l : List α} {i : Nat} (h : i < l.length) (hn : noneL p (l.take i) = true) (hp : p l[i] = false) : noneL p (l.take (i + 1)) = true := by
  unfold noneL at hn ⊢
  rw [List.take_succ_eq_append_getElem h, List.all_append, hn]
  simp [hp]
theorem idxL_cases {α : Type} (p : α → Bool) (l : List α) : noneL p l = true ∨ ∃ i, ∃ h : i < l.length, noneL p (l.take i) = true ∧ p l[i] = true := by
  induction l with
  | nil => exact .inl rfl
  | cons o l ih =>
    cases ho : p o with
    | true => exact .inr ⟨0, by simp, rfl, by simpa using ho⟩
    | false =>
      rcases ih with ih | ⟨i, h1, h2, h3⟩
      · exact .inl (by simpa [noneL, ho] using ih)
      · exact .inr ⟨i + 1, by simpa using h1, by simpa [noneL, ho] using h2, by simpa using h3⟩
theorem noneL_false {α : Type} {p : α → Bool} {l : List α} {i : Nat} (h : i < l.length) (hp : p l[i] = true) : noneL p l = false := by
  unfold noneL
  rw [List.all_eq_false]
  exact ⟨l[i], List.getElem_mem h, by simp [hp]⟩
theorem idxL_nonneg {α : Type} (p : α → Bool) (l : List α) : decide (0 ≤ idxL p l) = l.any p := by
  rcases idxL_cases p l with h | ⟨i, h1, h2, h3⟩
  · rw [idxL_none h]
    have : l.any p = false := by
      rw [List.any_eq_false]
      intro x hx
      have := List.all_eq_true.1 h x hx
      simpa using this
    rw [this]
    rfl
  · rw [idxL_at h1 h2 h3]
    have : l.any p = true := List.any_eq_true.2 ⟨_, List.getElem_mem h1, h3⟩
    rw [this]
    simp

def keepL {α : Type} (p : α → Bool) (l : List α) : List α := l.filter fun o => !p o
theorem keepL_take {α : Type} {p : α → Bool} {l : List α} {i : Nat} (h : i < l.length) : keepL p (l.take (i + 1)) = keepL p (l.take i) ++ (bif p l[i] then [] else [l[i]]) := by
  unfold keepL
  rw [List.take_succ_eq_append_getElem h, List.filter_append]
  cases hp : p l[i] <;> simp [hp]
theorem keepL_length {α : Type} (p : α → Bool) (l : List α) (i : Nat) : (keepL p (l.take i)).length ≤ i := Nat.le_trans (List.length_filter_le _ _) (by simp; omega)
theorem keepL_none {α : Type} {p : α → Bool} {l : List α} (h : noneL p l = true) : keepL p l = l := by
  unfold keepL
  exact List.filter_eq_self.2 fun o ho => List.all_eq_true.1 h o ho

theorem set_self {σ : St} {id : Nat} {o o' : VO} (h : σ[id]? = some o) : (σ.set id o')[id]? = some o' := by
  have := lt_of_some h
  simp [this]
theorem set_same {σ : St} {id : Nat} {o : VO} (h : σ[id]? = some o) : σ = σ.set id o := by
  obtain ⟨h1, h2⟩ := List.getElem?_eq_some_iff.1 h
  rw [← h2, List.set_getElem_self]

theorem vqg_q {C : Cfg} {fr : Fr} {σ : St} {op : Op} {K : V → Prop} (h : isCallV op = false) : vqg C fr σ none op K = vq C fr σ op K := vqp_q fr σ op K h
theorem vqg_g {C : Cfg} {fr : Fr} {σ : St} {op : Op} {K : V → Prop} {d : Nat} {want : Bool} (h : isCallV op = false) : vqg C fr σ (some (d, want)) op K = vgd (lk fr d) want (vq C fr σ op K) (K (.tup [])) := by
  unfold vqg
  simp only
  rw [vqp_q fr σ op K h]

/-- A call among the changes of a drawn region. -/
theorem ve_call {C : Cfg} {fr : Fr} {σ : St} {o : Oper} {K0 : Fr → St → Prop} {f : Operand} {args : Array Operand} {ats : Array TypeId} {g : FuncId} {first cap : List V} {K : V → St → Prop} (ho : o.op = .call { callee := .value f, args := args, argTypes := ats }) (hf : opv fr f = .fn (.func g) first cap)
    (ha : (args.toList.map (opv fr)).all V.isVal = true) (hc : VCalls C.P g (first ++ args.toList.map (opv fr) ++ cap) σ K) (hk : ∀ r σ', K r σ' → r.isVal = true ∧ K0 (putd fr o r) σ') : ve C fr σ o K0 := by
  unfold ve
  rw [ho]
  simp only
  rw [hf]
  exact ⟨ha, hc.mono hk⟩

end Go.VL

/- Contracts of the library's functions over rows. Conditions: none. -/
namespace Go.VL
open Go.Proofs

def zS : V := .agg [.int .i64 0, .int .i64 0, .int .u32 0, .str ⟨#[]⟩, .int .u64 0, .int .u64 0]

theorem c_indexS (nl c : Bool) (l : List SV) (p : SV → Bool) (g : FuncId) (xs ys : List V) (hl : l.length ≤ lim) (σ : St) (hg : ∀ o, VCalls Try.prog g (xs ++ [.agg (svC o)] ++ ys) σ fun r σ' => r = .bool (p o) ∧ σ' = σ) :
    VCalls Try.prog 65 [.sl nl c 6 (svs l), .fn (.func g) xs ys] σ fun r σ' => r = .int .i64 (idxL p l) ∧ σ' = σ := by
  refine vcalls_intro (C := cfg Try.prog [] [] []) (cfg_ok mixed) Try.func65 rfl rfl rfl rfl rfl ?_
  simp only [go_sem, svs_length]
  unfold lim at hl
  refine w_loop (fun i => i ≤ l.length ∧ noneL p (l.take i) = true) (fun i => [(8, .int .i64 i), (7, .int .i64 l.length), (0, .sl nl c 6 (svs l)), (1, .fn (.func g) xs ys)]) (fun _ => σ) (fun i => l.length - i) 0 ⟨Nat.zero_le _, rfl⟩ ?_ rfl ?_
  · simp only [go_sem]
    rfl
  rintro i ⟨hi, hn⟩
  rcases Nat.lt_or_ge i l.length with h | h
  · simp only [go_sem, svs_length, h, svs_getD h]
    refine vgo_call rfl rfl rfl rfl (hg l[i]) ?_
    have hw : IntKind.i64.wrap ((i : Int) + 1) = ((i + 1 : Nat) : Int) := wrap_ok (by omega) (by omega)
    cases hp : p l[i]
    · simp only [go_sem]
      refine l_next (i + 1) ⟨h, noneL_take h hn hp⟩ (by omega) ?_ rfl
      simp only [go_sem, hw]
    · simp only [go_sem]
      refine l_ret ?_
      simp only [go_sem, idxL_at h hn hp]
  · have hh : ¬ (i < l.length) := by omega
    simp only [go_sem, svs_length, hh]
    refine l_exit ?_
    rw [List.take_of_length_le h] at hn
    simp only [go_sem, idxL_none hn]

theorem c_containsS (nl c : Bool) (l : List SV) (p : SV → Bool) (g : FuncId) (xs ys : List V) (hl : l.length ≤ lim) (σ : St) (hg : ∀ o, VCalls Try.prog g (xs ++ [.agg (svC o)] ++ ys) σ fun r σ' => r = .bool (p o) ∧ σ' = σ) :
    VCalls Try.prog 42 [.sl nl c 6 (svs l), .fn (.func g) xs ys] σ fun r σ' => r = .bool (l.any p) ∧ σ' = σ := by
  refine vcalls_intro (C := cfg Try.prog [] [] []) (cfg_ok mixed) Try.func42 rfl rfl rfl rfl rfl ?_
  simp only [go_sem]
  refine vgo_call rfl rfl rfl rfl (c_indexS nl c l p g xs ys hl σ hg) ?_
  simp only [go_sem, idxL_nonneg]

theorem c_cloneS (nl c : Bool) (l : List SV) (hl : l.length ≤ lim) (σ : St) : VCalls Try.prog 54 [.sl nl c 6 (svs l)] σ fun r σ' => (nl = true ∧ r = .sl true false 0 [] ∧ σ' = σ) ∨ (nl = false ∧ r = .rsl σ.length 0 0 l.length ∧ σ' = σ ++ [.arr false 0 6 (svs l)]) := by
  refine vcalls_keep (C := cfg Try.prog [] [] []) (cfg_ok mixed) Try.func54 rfl rfl rfl rfl rfl ?_
  simp only [go_sem]
  cases nl
  · simp only [go_sem, vendK, svs_length]
    rw [Nat.zero_add]
    exact ⟨hl, rfl⟩
  · simp only [go_sem, vendK, svs_length]

theorem c_clipS (nl c : Bool) (l : List SV) (σ : St) : VCalls Try.prog 51 [.sl nl c 6 (svs l)] σ fun r σ' => r = .sl nl true 6 (svs l) ∧ σ' = σ := by
  refine vcalls_intro (C := cfg Try.prog [] [] []) (cfg_ok mixed) Try.func51 rfl rfl rfl rfl rfl ?_
  simp only [go_sem, svs_length]
  rw [← svs_length, List.take_length]
  exact ⟨Nat.le_refl _, rfl⟩

theorem c_deleteS (nl : Bool) (l : List SV) (i : Nat) (hi : i < l.length) (hl : l.length < lim) (σ : St) (id gen : Nat) (hσ : σ[id]? = some (.arr nl gen 6 (svs l))) : VCalls Try.prog 55 [.rsl id gen 0 l.length, .int .i64 i, .int .i64 ((i + 1 : Nat) : Int)] σ fun r σ' => r = .rsl id gen 0 (l.length - 1) ∧ σ' = σ.set id (.arr nl gen 6 (svs (l.eraseIdx i) ++ [zS])) := by
  refine vcalls_keep (C := cfg Try.prog [26] [] []) (cfg_ok mixed) Try.func55 rfl rfl rfl rfl rfl ?_
  simp only [go_sem, hσ, svs_length, Nat.sub_zero]
  unfold lim at hl
  have hne : (((i : Nat) : Int) == ((i + 1 : Nat) : Int)) = false := by simp; omega
  refine ⟨by omega, .inl hi, hi, Nat.le_refl _, ?_⟩
  simp only [go_sem, hne, hσ, svs_length, Nat.sub_zero]
  refine w_walk2 [6, 7] [0, 1, 2, 3, 4, 5, 6, 7] [20, 21, 22, 23, 24, 25] [0, 0, 3, 0, 0, 24, 63, 127] rfl rfl rfl rfl ?_
  simp only [go_sem, hσ, svs_length, Nat.sub_zero, hne]
  have e1 : List.drop (0 + (i + 1)) (List.take (0 + l.length) (svs l)) = svs (l.drop (i + 1)) := by
    rw [List.take_of_length_le (by rw [svs_length]; omega)]
    simp [svs, List.map_drop]
  have e2 : List.take (0 + i) (svs l) = svs (l.take i) := by simp [svs, List.map_take]
  have e3 : 0 + i + (List.drop (i + 1) l).length = l.length - 1 := by simp; omega
  have e4 : (svs (l.take i) ++ svs (l.drop (i + 1)) ++ List.drop (l.length - 1) (svs l)).length = l.length := by simp [svs]; omega
  have e5 : List.take (0 + (l.length - 1)) (svs (l.take i) ++ svs (l.drop (i + 1)) ++ List.drop (l.length - 1) (svs l)) = svs (l.eraseIdx i) := by
    rw [List.take_left' (by simp [svs]; omega), List.eraseIdx_eq_take_drop_succ]
    simp [svs]
  have e6 : List.drop (0 + l.length) (svs (l.take i) ++ svs (l.drop (i + 1)) ++ List.drop (l.length - 1) (svs l)) = [] := List.drop_eq_nil_of_le (by rw [e4]; omega)
  have e7 : 0 + l.length - (0 + (l.length - 1)) = 1 := by omega
  have o1 : (i ≤ l.length ∨ i ≤ l.length) = True := by simp; omega
  have o2 : (l.length - 1 ≤ l.length) = True := by simp
  have o3 : 0 < l.length := by omega
  have o4 : i + 1 ≤ l.length := hi
  simp only [e1, e2, e3, e4, e5, e6, e7, o1, o2, o3, o4, set_self hσ, Nat.sub_zero, List.set_set, vendK, svs_length, go_sem, Nat.le_refl, true_or, or_true, List.replicate_one, zS]

theorem eqsS (a b : SV) : cellsEq (svC a) (svC b) = decide (a = b) := by
  rw [Bool.eq_iff_iff, decide_eq_true_eq]
  constructor
  · intro h
    simp only [svC, cellsEq, cellEq, strEq_dec, Bool.and_eq_true, beq_self_eq_true, true_and, and_true, beq_iff_eq, decide_eq_true_eq] at h
    cases a; cases b
    simp_all
  · rintro rfl
    simp [svC, cellsEq, cellEq, strEq_dec]
theorem c_equalS (nl c nl' c' : Bool) (l l' : List SV) (hl : l.length ≤ lim) (σ : St) : VCalls Try.prog 44 [.sl nl c 6 (svs l), .sl nl' c' 6 (svs l')] σ fun r σ' => r = .bool (decide (l = l')) ∧ σ' = σ := by
  refine vcalls_intro (C := cfg Try.prog [] [] []) (cfg_ok mixed) Try.func44 rfl rfl rfl rfl rfl ?_
  simp only [go_sem, svs_length]
  unfold lim at hl
  rcases Decidable.em (l.length = l'.length) with he | he
  · simp only [go_sem, he, bne_self_eq_false, svs_length]
    refine w_loop (fun i => i ≤ l.length ∧ l.take i = l'.take i) (fun i => [(13, .int .i64 i), (12, .int .i64 l.length), (0, .sl nl c 6 (svs l)), (1, .sl nl' c' 6 (svs l'))]) (fun _ => σ) (fun i => l.length - i) 0 ⟨Nat.zero_le _, rfl⟩ ?_ rfl ?_
    · simp only [go_sem, he]
      rfl
    rintro i ⟨hi, hp⟩
    rcases Nat.lt_or_ge i l.length with h | h
    · have h' : i < l'.length := he ▸ h
      have hw : IntKind.i64.wrap ((i : Int) + 1) = ((i + 1 : Nat) : Int) := wrap_ok (by omega) (by omega)
      simp only [go_sem, svs_length, h]
      refine w_walk2 [] [0, 1, 2, 3, 4, 5, 6, 7, 8] [16, 17, 18, 19, 20, 21, 22, 23, 24] [0, 0, 3, 7, 0, 0, 48, 112, 255] rfl rfl rfl rfl ?_
      simp only [go_sem, svs_length, h, h', svs_getD h, svs_getD h']
      by_cases hx : l[i] = l'[i]
      · simp only [go_sem, mk, hx, strEq_dec]
        refine l_next (i + 1) ⟨h, ?_⟩ (by omega) ?_ rfl
        · rw [List.take_succ_eq_append_getElem h, List.take_succ_eq_append_getElem h', hp, hx]
        · simp only [go_sem, hw]
      · have hE : cellsEq (svC l[i]) (svC l'[i]) = false := by rw [eqsS, decide_eq_false hx]
        simp only [go_sem, mk, svC] at hE
        simp only [go_sem, mk, hE]
        refine l_ret ?_
        have : ¬ l = l' := fun e => hx (by simp only [e])
        simp only [go_sem, this]
    · have hn : ¬ (i < l.length) := by omega
      simp only [go_sem, hn]
      refine l_exit ?_
      have : l = l' := by rwa [List.take_of_length_le h, List.take_of_length_le (he ▸ h)] at hp
      simp only [go_sem, this]
  · have hb : ((l.length : Int) != (l'.length : Int)) = true := by simp; omega
    have : ¬ l = l' := fun e => he (by rw [e])
    simp only [go_sem, hb, this]

end Go.VL

/- Contracts of the library's functions over rows. Conditions: none. -/
namespace Go.VL
open Go.Proofs

def zI : V := .agg [.int .i64 0, .int .i64 0, .int .u64 0, .int .u64 0, .int .i64 0]

theorem c_indexI (nl c : Bool) (l : List IV) (p : IV → Bool) (g : FuncId) (xs ys : List V) (hl : l.length ≤ lim) (σ : St) (hg : ∀ o, VCalls Try.prog g (xs ++ [.agg (ivC o)] ++ ys) σ fun r σ' => r = .bool (p o) ∧ σ' = σ) :
    VCalls Try.prog 70 [.sl nl c 5 (ivs l), .fn (.func g) xs ys] σ fun r σ' => r = .int .i64 (idxL p l) ∧ σ' = σ := by
  refine vcalls_intro (C := cfg Try.prog [] [] []) (cfg_ok mixed) Try.func70 rfl rfl rfl rfl rfl ?_
  simp only [go_sem, ivs_length]
  unfold lim at hl
  refine w_loop (fun i => i ≤ l.length ∧ noneL p (l.take i) = true) (fun i => [(8, .int .i64 i), (7, .int .i64 l.length), (0, .sl nl c 5 (ivs l)), (1, .fn (.func g) xs ys)]) (fun _ => σ) (fun i => l.length - i) 0 ⟨Nat.zero_le _, rfl⟩ ?_ rfl ?_
  · simp only [go_sem]
    rfl
  rintro i ⟨hi, hn⟩
  rcases Nat.lt_or_ge i l.length with h | h
  · simp only [go_sem, ivs_length, h, ivs_getD h]
    refine vgo_call rfl rfl rfl rfl (hg l[i]) ?_
    have hw : IntKind.i64.wrap ((i : Int) + 1) = ((i + 1 : Nat) : Int) := wrap_ok (by omega) (by omega)
    cases hp : p l[i]
    · simp only [go_sem]
      refine l_next (i + 1) ⟨h, noneL_take h hn hp⟩ (by omega) ?_ rfl
      simp only [go_sem, hw]
    · simp only [go_sem]
      refine l_ret ?_
      simp only [go_sem, idxL_at h hn hp]
  · have hh : ¬ (i < l.length) := by omega
    simp only [go_sem, ivs_length, hh]
    refine l_exit ?_
    rw [List.take_of_length_le h] at hn
    simp only [go_sem, idxL_none hn]

theorem c_indexRI (nl : Bool) (l : List IV) (p : IV → Bool) (g : FuncId) (xs ys : List V) (hl : l.length ≤ lim) (σ : St) (id gen : Nat) (hσ : σ[id]? = some (.arr nl gen 5 (ivs l))) (hg : ∀ o, VCalls Try.prog g (xs ++ [.agg (ivC o)] ++ ys) σ fun r σ' => r = .bool (p o) ∧ σ' = σ) :
    VCalls Try.prog 70 [.rsl id gen 0 l.length, .fn (.func g) xs ys] σ fun r σ' => r = .int .i64 (idxL p l) ∧ σ' = σ := by
  refine vcalls_intro (C := cfg Try.prog [] [] []) (cfg_ok mixed) Try.func70 rfl rfl rfl rfl rfl ?_
  simp only [go_sem, ivs_length, hσ, Nat.sub_zero]
  unfold lim at hl
  refine w_loop (fun i => i ≤ l.length ∧ noneL p (l.take i) = true) (fun i => [(8, .int .i64 i), (7, .int .i64 l.length), (0, .rsl id gen 0 l.length), (1, .fn (.func g) xs ys)]) (fun _ => σ) (fun i => l.length - i) 0 ⟨Nat.zero_le _, rfl⟩ ?_ rfl ?_
  · simp only [go_sem]
    rfl
  rintro i ⟨hi, hn⟩
  rcases Nat.lt_or_ge i l.length with h | h
  · simp only [go_sem, ivs_length, h, hσ, Nat.sub_zero, Nat.zero_add, ivs_getD h]
    refine vgo_call rfl rfl rfl rfl (hg l[i]) ?_
    have hw : IntKind.i64.wrap ((i : Int) + 1) = ((i + 1 : Nat) : Int) := wrap_ok (by omega) (by omega)
    cases hp : p l[i]
    · simp only [go_sem]
      refine l_next (i + 1) ⟨h, noneL_take h hn hp⟩ (by omega) ?_ rfl
      simp only [go_sem, hw]
    · simp only [go_sem]
      refine l_ret ?_
      simp only [go_sem, idxL_at h hn hp]
  · have hh : ¬ (i < l.length) := by omega
    simp only [go_sem, ivs_length, hh]
    refine l_exit ?_
    rw [List.take_of_length_le h] at hn
    simp only [go_sem, idxL_none hn]

theorem c_cloneI (nl c : Bool) (l : List IV) (hl : l.length ≤ lim) (σ : St) : VCalls Try.prog 63 [.sl nl c 5 (ivs l)] σ fun r σ' => (nl = true ∧ r = .sl true false 0 [] ∧ σ' = σ) ∨ (nl = false ∧ r = .rsl σ.length 0 0 l.length ∧ σ' = σ ++ [.arr false 0 5 (ivs l)]) := by
  refine vcalls_keep (C := cfg Try.prog [] [] []) (cfg_ok mixed) Try.func63 rfl rfl rfl rfl rfl ?_
  simp only [go_sem]
  cases nl
  · simp only [go_sem, vendK, ivs_length]
    rw [Nat.zero_add]
    exact ⟨hl, rfl⟩
  · simp only [go_sem, vendK, ivs_length]

theorem c_clipI (nl c : Bool) (l : List IV) (σ : St) : VCalls Try.prog 66 [.sl nl c 5 (ivs l)] σ fun r σ' => r = .sl nl true 5 (ivs l) ∧ σ' = σ := by
  refine vcalls_intro (C := cfg Try.prog [] [] []) (cfg_ok mixed) Try.func66 rfl rfl rfl rfl rfl ?_
  simp only [go_sem, ivs_length]
  rw [← ivs_length, List.take_length]
  exact ⟨Nat.le_refl _, rfl⟩

theorem rowI_length {k l : List IV} (h : k.length ≤ l.length) : (ivs k ++ (ivs l).drop k.length).length = l.length := by
  simp [ivs]; omega
theorem rowI_getD {k l : List IV} {j : Nat} (h : k.length ≤ j) (hj : j < l.length) : (ivs k ++ (ivs l).drop k.length).getD j .undef = (ivs l).getD j .undef := by
  rw [List.getD_eq_getElem?_getD, List.getElem?_append_right (by simpa [ivs] using h), List.getElem?_drop, List.getD_eq_getElem?_getD]
  have : k.length + (j - (ivs k).length) = j := by simp [ivs]; omega
  rw [this]
theorem rowI_set {k l : List IV} {o : IV} (h : k.length < l.length) : (ivs k ++ (ivs l).drop k.length).set k.length (.agg (ivC o)) = ivs (k ++ [o]) ++ (ivs l).drop (k ++ [o]).length := by
  have e : (ivs k).length = k.length := ivs_length k
  rw [List.set_append_right _ _ (by rw [e]; exact Nat.le_refl _), e, Nat.sub_self]
  have hd : (ivs l).drop k.length = (ivs l)[k.length]'(by rw [ivs_length]; exact h) :: (ivs l).drop (k.length + 1) := List.drop_eq_getElem_cons _
  rw [hd, List.set_cons_zero]
  simp [ivs, iv]

theorem c_deleteFuncI (nl : Bool) (l : List IV) (p : IV → Bool) (g : FuncId) (xs ys : List V) (hl : l.length < lim) (σ : St) (id gen : Nat) (hσ : σ[id]? = some (.arr nl gen 5 (ivs l))) (hg : ∀ o (σ' : St), (∀ j, j ≠ id → σ'[j]? = σ[j]?) → VCalls Try.prog g (xs ++ [.agg (ivC o)] ++ ys) σ' fun r σ'' => r = .bool (p o) ∧ σ'' = σ') :
    VCalls Try.prog 62 [.rsl id gen 0 l.length, .fn (.func g) xs ys] σ fun r σ' => r = .rsl id gen 0 (keepL p l).length ∧ σ' = σ.set id (.arr nl gen 5 (ivs (keepL p l) ++ List.replicate (l.length - (keepL p l).length) zI)) := by
  refine vcalls_keep (C := cfg Try.prog [] [] []) (cfg_ok mixed) Try.func62 rfl rfl rfl rfl rfl ?_
  simp only [go_sem]
  refine vgo_call rfl rfl rfl rfl (c_indexRI nl l p g xs ys (Nat.le_of_lt hl) σ id gen hσ fun o => hg o σ fun _ _ => rfl) ?_
  simp only [go_sem]
  unfold lim at hl
  rcases idxL_cases p l with hno | ⟨i0, h0, hb, hp0⟩
  · have hn := keepL_none hno
    simp only [go_sem, idxL_none hno, vendK, hn, Nat.sub_self, List.replicate_zero, List.append_nil]
    exact set_same hσ
  · have hk0 : keepL p (l.take (i0 + 1)) = l.take i0 := by
      rw [keepL_take h0, hp0, keepL_none hb]
      simp
    have hne : ((i0 : Int) == -1) = false := by simp
    have hw0 : IntKind.i64.wrap ((i0 : Int) + 1) = ((i0 + 1 : Nat) : Int) := wrap_ok (by omega) (by omega)
    simp only [go_sem, idxL_at h0 hb hp0, hne, hw0]
    refine w_loop (fun j => j ≤ l.length ∧ i0 < j) (fun j => [(5, .int .i64 (keepL p (l.take j)).length), (6, .int .i64 j), (0, .rsl id gen 0 l.length), (1, .fn (.func g) xs ys)]) (fun j => σ.set id (.arr nl gen 5 (ivs (keepL p (l.take j)) ++ (ivs l).drop (keepL p (l.take j)).length))) (fun j => l.length - j) (i0 + 1) ⟨h0, by omega⟩ ?_ ?_ ?_
    · have : (l.take i0).length = i0 := by simp; omega
      simp only [go_sem, hk0, this]
    · have : (l.take i0).length = i0 := by simp; omega
      have hr : ivs (keepL p (l.take (i0 + 1))) ++ (ivs l).drop (keepL p (l.take (i0 + 1))).length = ivs l := by
        rw [hk0, this]
        simp [ivs, List.map_take]
      rw [hr]
      exact set_same hσ
    rintro j ⟨hj, hij⟩
    have hkl := keepL_length p l j
    have hfr : ∀ ob : VO, ∀ k, k ≠ id → (σ.set id ob)[k]? = σ[k]? := fun ob k hk => by rw [List.getElem?_set, if_neg (fun e => hk e.symm)]
    rcases Nat.lt_or_ge j l.length with h | h
    · have hw : IntKind.i64.wrap ((j : Int) + 1) = ((j + 1 : Nat) : Int) := wrap_ok (by omega) (by omega)
      have hkj : (keepL p (l.take j)).length < j := by
        have e : l.take j = l.take (i0 + 1) ++ (l.take j).drop (i0 + 1) := by
          conv => lhs; rw [← List.take_append_drop (i0 + 1) (l.take j)]
          rw [List.take_take, Nat.min_eq_left (by omega)]
        have h1 : keepL p (l.take j) = l.take i0 ++ keepL p ((l.take j).drop (i0 + 1)) := by
          rw [← hk0]
          conv => lhs; rw [e]
          unfold keepL
          rw [List.filter_append]
        rw [h1]
        have h2 : (keepL p ((l.take j).drop (i0 + 1))).length ≤ ((l.take j).drop (i0 + 1)).length := List.length_filter_le _ _
        simp at h2 ⊢
        omega
      have hi1 : (keepL p (l.take j)).length < l.length := by omega
      simp only [go_sem, h, set_self hσ, rowI_getD (Nat.le_of_lt hkj) h, ivs_getD h, Nat.sub_zero, Nat.zero_add]
      refine vgo_call rfl rfl rfl rfl (hg l[j] _ (hfr _)) ?_
      cases hp : p l[j]
      · have hwi : IntKind.i64.wrap (((keepL p (l.take j)).length : Int) + 1) = (((keepL p (l.take j)).length + 1 : Nat) : Int) := wrap_ok (by omega) (by omega)
        have hrl : (ivs (keepL p (l.take j)) ++ (ivs l).drop (keepL p (l.take j)).length).getD (keepL p (l.take j)).length .undef = _ := rowI_getD (Nat.le_refl _) hi1
        rw [ivs_getD hi1] at hrl
        simp only [go_sem, h, hi1, set_self hσ, hrl, Nat.sub_zero, Nat.zero_add, List.set_set]
        refine l_next (j + 1) ⟨h, by omega⟩ (by omega) ?_ ?_
        · simp only [go_sem, hw, hwi, keepL_take h, hp, List.length_append]
        · have hs := rowI_set (o := l[j]) hi1
          unfold ivC at hs
          rw [hs, keepL_take h, hp]
          rfl
      · simp only [go_sem]
        refine l_next (j + 1) ⟨h, by omega⟩ (by omega) ?_ ?_
        · simp only [go_sem, hw, keepL_take h, hp, List.append_nil]
        · rw [keepL_take h, hp]
          simp
    · have hn : ¬ (j < l.length) := by omega
      have hle : (keepL p l).length ≤ l.length := List.length_filter_le _ _
      have hle' : ((keepL p l).length : Int) ≤ (l.length : Int) := by omega
      simp only [go_sem, hn, set_self hσ, Nat.sub_zero]
      refine l_exit ?_
      rw [List.take_of_length_le h]
      simp only [go_sem, set_self hσ, vendK, Nat.sub_zero, Nat.zero_add, hle', hle, List.set_set]
      unfold zI ivs
      have hd : List.drop l.length (List.map iv (keepL p l) ++ List.drop (keepL p l).length (List.map iv l)) = [] := List.drop_eq_nil_of_le (by simp; omega)
      simp [hd]

theorem eqsI (a b : IV) : cellsEq (ivC a) (ivC b) = decide (a = b) := by
  rw [Bool.eq_iff_iff, decide_eq_true_eq]
  constructor
  · intro h
    simp only [ivC, cellsEq, cellEq, strEq_dec, Bool.and_eq_true, beq_self_eq_true, true_and, and_true, beq_iff_eq, decide_eq_true_eq] at h
    cases a; cases b
    simp_all
  · rintro rfl
    simp [ivC, cellsEq, cellEq, strEq_dec]
theorem c_equalI (nl c nl' c' : Bool) (l l' : List IV) (hl : l.length ≤ lim) (σ : St) : VCalls Try.prog 45 [.sl nl c 5 (ivs l), .sl nl' c' 5 (ivs l')] σ fun r σ' => r = .bool (decide (l = l')) ∧ σ' = σ := by
  refine vcalls_intro (C := cfg Try.prog [] [] []) (cfg_ok mixed) Try.func45 rfl rfl rfl rfl rfl ?_
  simp only [go_sem, ivs_length]
  unfold lim at hl
  rcases Decidable.em (l.length = l'.length) with he | he
  · simp only [go_sem, he, bne_self_eq_false, ivs_length]
    refine w_loop (fun i => i ≤ l.length ∧ l.take i = l'.take i) (fun i => [(13, .int .i64 i), (12, .int .i64 l.length), (0, .sl nl c 5 (ivs l)), (1, .sl nl' c' 5 (ivs l'))]) (fun _ => σ) (fun i => l.length - i) 0 ⟨Nat.zero_le _, rfl⟩ ?_ rfl ?_
    · simp only [go_sem, he]
      rfl
    rintro i ⟨hi, hp⟩
    rcases Nat.lt_or_ge i l.length with h | h
    · have h' : i < l'.length := he ▸ h
      have hw : IntKind.i64.wrap ((i : Int) + 1) = ((i + 1 : Nat) : Int) := wrap_ok (by omega) (by omega)
      simp only [go_sem, ivs_length, h]
      refine w_walk2 [] [0, 1, 2, 3, 4, 5, 6, 7, 8] [16, 17, 18, 19, 20, 21, 22, 23, 24] [0, 0, 3, 7, 0, 0, 48, 112, 255] rfl rfl rfl rfl ?_
      simp only [go_sem, ivs_length, h, h', ivs_getD h, ivs_getD h']
      by_cases hx : l[i] = l'[i]
      · simp only [go_sem, mk, hx, strEq_dec]
        refine l_next (i + 1) ⟨h, ?_⟩ (by omega) ?_ rfl
        · rw [List.take_succ_eq_append_getElem h, List.take_succ_eq_append_getElem h', hp, hx]
        · simp only [go_sem, hw]
      · have hE : cellsEq (ivC l[i]) (ivC l'[i]) = false := by rw [eqsI, decide_eq_false hx]
        simp only [go_sem, mk, ivC] at hE
        simp only [go_sem, mk, hE]
        refine l_ret ?_
        have : ¬ l = l' := fun e => hx (by simp only [e])
        simp only [go_sem, this]
    · have hn : ¬ (i < l.length) := by omega
      simp only [go_sem, hn]
      refine l_exit ?_
      have : l = l' := by rwa [List.take_of_length_le h, List.take_of_length_le (he ▸ h)] at hp
      simp only [go_sem, this]
  · have hb : ((l.length : Int) != (l'.length : Int)) = true := by simp; omega
    have : ¬ l = l' := fun e => he (by rw [e])
    simp only [go_sem, hb, this]

end Go.VL

/- Contracts of the library's functions over rows. Conditions: none. -/
namespace Go.VL
open Go.Proofs

def zL : V := .agg [.str ⟨#[]⟩, .int .i64 0, .int .i64 0]

theorem c_indexL (nl c : Bool) (l : List LV) (p : LV → Bool) (g : FuncId) (xs ys : List V) (hl : l.length ≤ lim) (σ : St) (hg : ∀ o, VCalls Try.prog g (xs ++ [.agg (lvC o)] ++ ys) σ fun r σ' => r = .bool (p o) ∧ σ' = σ) :
    VCalls Try.prog 68 [.sl nl c 3 (lvs l), .fn (.func g) xs ys] σ fun r σ' => r = .int .i64 (idxL p l) ∧ σ' = σ := by
  refine vcalls_intro (C := cfg Try.prog [] [] []) (cfg_ok mixed) Try.func68 rfl rfl rfl rfl rfl ?_
  simp only [go_sem, lvs_length]
  unfold lim at hl
  refine w_loop (fun i => i ≤ l.length ∧ noneL p (l.take i) = true) (fun i => [(8, .int .i64 i), (7, .int .i64 l.length), (0, .sl nl c 3 (lvs l)), (1, .fn (.func g) xs ys)]) (fun _ => σ) (fun i => l.length - i) 0 ⟨Nat.zero_le _, rfl⟩ ?_ rfl ?_
  · simp only [go_sem]
    rfl
  rintro i ⟨hi, hn⟩
  rcases Nat.lt_or_ge i l.length with h | h
  · simp only [go_sem, lvs_length, h, lvs_getD h]
    refine vgo_call rfl rfl rfl rfl (hg l[i]) ?_
    have hw : IntKind.i64.wrap ((i : Int) + 1) = ((i + 1 : Nat) : Int) := wrap_ok (by omega) (by omega)
    cases hp : p l[i]
    · simp only [go_sem]
      refine l_next (i + 1) ⟨h, noneL_take h hn hp⟩ (by omega) ?_ rfl
      simp only [go_sem, hw]
    · simp only [go_sem]
      refine l_ret ?_
      simp only [go_sem, idxL_at h hn hp]
  · have hh : ¬ (i < l.length) := by omega
    simp only [go_sem, lvs_length, hh]
    refine l_exit ?_
    rw [List.take_of_length_le h] at hn
    simp only [go_sem, idxL_none hn]

theorem c_cloneL (nl c : Bool) (l : List LV) (hl : l.length ≤ lim) (σ : St) : VCalls Try.prog 58 [.sl nl c 3 (lvs l)] σ fun r σ' => (nl = true ∧ r = .sl true false 0 [] ∧ σ' = σ) ∨ (nl = false ∧ r = .rsl σ.length 0 0 l.length ∧ σ' = σ ++ [.arr false 0 3 (lvs l)]) := by
  refine vcalls_keep (C := cfg Try.prog [] [] []) (cfg_ok mixed) Try.func58 rfl rfl rfl rfl rfl ?_
  simp only [go_sem]
  cases nl
  · simp only [go_sem, vendK, lvs_length]
    rw [Nat.zero_add]
    exact ⟨hl, rfl⟩
  · simp only [go_sem, vendK, lvs_length]

theorem c_clipL (nl c : Bool) (l : List LV) (σ : St) : VCalls Try.prog 57 [.sl nl c 3 (lvs l)] σ fun r σ' => r = .sl nl true 3 (lvs l) ∧ σ' = σ := by
  refine vcalls_intro (C := cfg Try.prog [] [] []) (cfg_ok mixed) Try.func57 rfl rfl rfl rfl rfl ?_
  simp only [go_sem, lvs_length]
  rw [← lvs_length, List.take_length]
  exact ⟨Nat.le_refl _, rfl⟩

theorem c_deleteL (nl : Bool) (l : List LV) (i : Nat) (hi : i < l.length) (hl : l.length < lim) (σ : St) (id gen : Nat) (hσ : σ[id]? = some (.arr nl gen 3 (lvs l))) : VCalls Try.prog 59 [.rsl id gen 0 l.length, .int .i64 i, .int .i64 ((i + 1 : Nat) : Int)] σ fun r σ' => r = .rsl id gen 0 (l.length - 1) ∧ σ' = σ.set id (.arr nl gen 3 (lvs (l.eraseIdx i) ++ [zL])) := by
  refine vcalls_keep (C := cfg Try.prog [26] [] []) (cfg_ok mixed) Try.func59 rfl rfl rfl rfl rfl ?_
  simp only [go_sem, hσ, lvs_length, Nat.sub_zero]
  unfold lim at hl
  have hne : (((i : Nat) : Int) == ((i + 1 : Nat) : Int)) = false := by simp; omega
  refine ⟨by omega, .inl hi, hi, Nat.le_refl _, ?_⟩
  simp only [go_sem, hne, hσ, lvs_length, Nat.sub_zero]
  refine w_walk2 [6, 7] [0, 1, 2, 3, 4, 5, 6, 7] [20, 21, 22, 23, 24, 25] [0, 0, 3, 0, 0, 24, 63, 127] rfl rfl rfl rfl ?_
  simp only [go_sem, hσ, lvs_length, Nat.sub_zero, hne]
  have e1 : List.drop (0 + (i + 1)) (List.take (0 + l.length) (lvs l)) = lvs (l.drop (i + 1)) := by
    rw [List.take_of_length_le (by rw [lvs_length]; omega)]
    simp [lvs, List.map_drop]
  have e2 : List.take (0 + i) (lvs l) = lvs (l.take i) := by simp [lvs, List.map_take]
  have e3 : 0 + i + (List.drop (i + 1) l).length = l.length - 1 := by simp; omega
  have e4 : (lvs (l.take i) ++ lvs (l.drop (i + 1)) ++ List.drop (l.length - 1) (lvs l)).length = l.length := by simp [lvs]; omega
  have e5 : List.take (0 + (l.length - 1)) (lvs (l.take i) ++ lvs (l.drop (i + 1)) ++ List.drop (l.length - 1) (lvs l)) = lvs (l.eraseIdx i) := by
    rw [List.take_left' (by simp [lvs]; omega), List.eraseIdx_eq_take_drop_succ]
    simp [lvs]
  have e6 : List.drop (0 + l.length) (lvs (l.take i) ++ lvs (l.drop (i + 1)) ++ List.drop (l.length - 1) (lvs l)) = [] := List.drop_eq_nil_of_le (by rw [e4]; omega)
  have e7 : 0 + l.length - (0 + (l.length - 1)) = 1 := by omega
  have o1 : (i ≤ l.length ∨ i ≤ l.length) = True := by simp; omega
  have o2 : (l.length - 1 ≤ l.length) = True := by simp
  have o3 : 0 < l.length := by omega
  have o4 : i + 1 ≤ l.length := hi
  simp only [e1, e2, e3, e4, e5, e6, e7, o1, o2, o3, o4, set_self hσ, Nat.sub_zero, List.set_set, vendK, lvs_length, go_sem, Nat.le_refl, true_or, or_true, List.replicate_one, zL]

theorem eqsL (a b : LV) : cellsEq (lvC a) (lvC b) = decide (a = b) := by
  rw [Bool.eq_iff_iff, decide_eq_true_eq]
  constructor
  · intro h
    simp only [lvC, cellsEq, cellEq, strEq_dec, Bool.and_eq_true, beq_self_eq_true, true_and, and_true, beq_iff_eq, decide_eq_true_eq] at h
    cases a; cases b
    simp_all
  · rintro rfl
    simp [lvC, cellsEq, cellEq, strEq_dec]
theorem c_equalL (nl c nl' c' : Bool) (l l' : List LV) (hl : l.length ≤ lim) (σ : St) : VCalls Try.prog 46 [.sl nl c 3 (lvs l), .sl nl' c' 3 (lvs l')] σ fun r σ' => r = .bool (decide (l = l')) ∧ σ' = σ := by
  refine vcalls_intro (C := cfg Try.prog [] [] []) (cfg_ok mixed) Try.func46 rfl rfl rfl rfl rfl ?_
  simp only [go_sem, lvs_length]
  unfold lim at hl
  rcases Decidable.em (l.length = l'.length) with he | he
  · simp only [go_sem, he, bne_self_eq_false, lvs_length]
    refine w_loop (fun i => i ≤ l.length ∧ l.take i = l'.take i) (fun i => [(13, .int .i64 i), (12, .int .i64 l.length), (0, .sl nl c 3 (lvs l)), (1, .sl nl' c' 3 (lvs l'))]) (fun _ => σ) (fun i => l.length - i) 0 ⟨Nat.zero_le _, rfl⟩ ?_ rfl ?_
    · simp only [go_sem, he]
      rfl
    rintro i ⟨hi, hp⟩
    rcases Nat.lt_or_ge i l.length with h | h
    · have h' : i < l'.length := he ▸ h
      have hw : IntKind.i64.wrap ((i : Int) + 1) = ((i + 1 : Nat) : Int) := wrap_ok (by omega) (by omega)
      simp only [go_sem, lvs_length, h]
      refine w_walk2 [] [0, 1, 2, 3, 4, 5, 6, 7, 8] [16, 17, 18, 19, 20, 21, 22, 23, 24] [0, 0, 3, 7, 0, 0, 48, 112, 255] rfl rfl rfl rfl ?_
      simp only [go_sem, lvs_length, h, h', lvs_getD h, lvs_getD h']
      by_cases hx : l[i] = l'[i]
      · simp only [go_sem, mk, hx, strEq_dec]
        refine l_next (i + 1) ⟨h, ?_⟩ (by omega) ?_ rfl
        · rw [List.take_succ_eq_append_getElem h, List.take_succ_eq_append_getElem h', hp, hx]
        · simp only [go_sem, hw]
      · have hE : cellsEq (lvC l[i]) (lvC l'[i]) = false := by rw [eqsL, decide_eq_false hx]
        simp only [go_sem, mk, lvC] at hE
        simp only [go_sem, mk, hE]
        refine l_ret ?_
        have : ¬ l = l' := fun e => hx (by simp only [e])
        simp only [go_sem, this]
    · have hn : ¬ (i < l.length) := by omega
      simp only [go_sem, hn]
      refine l_exit ?_
      have : l = l' := by rwa [List.take_of_length_le h, List.take_of_length_le (he ▸ h)] at hp
      simp only [go_sem, this]
  · have hb : ((l.length : Int) != (l'.length : Int)) = true := by simp; omega
    have : ¬ l = l' := fun e => he (by rw [e])
    simp only [go_sem, hb, this]

end Go.VL

/- Contracts of this program's functions: what may be. Conditions: none. -/
namespace Go.VL
open Go.Proofs

def userB (s : ByteArray) : Bool := decide (1 ≤ s.size) && decide (s.size ≤ 16)
def poolB (a : Int) : Bool := decide (167772161 ≤ a) && decide (a ≤ 167772166)
def btwB (n most : Int) : Bool := decide (0 ≤ n) && decide (n ≤ most)

theorem c_between (n m : Int) (σ : St) : VCalls Try.prog 38 [.int .i64 n, .int .i64 m] σ fun r σ' => r = .bool (btwB n m) ∧ σ' = σ := by
  refine vcalls_intro (C := cfg Try.prog [] [] []) (cfg_ok mixed) Try.func38 rfl rfl rfl rfl rfl ?_
  unfold btwB
  simp only [go_sem]
  cases h : decide (0 ≤ n) <;> simp only [go_sem, h]

theorem strNe (s : ByteArray) : (!strEq s ⟨#[]⟩) = decide (1 ≤ s.size) := by
  rw [strEq_dec, Bool.eq_iff_iff]
  simp only [Bool.not_eq_true', decide_eq_false_iff_not, decide_eq_true_eq]
  constructor
  · intro h
    rcases Nat.eq_zero_or_pos s.size with h0 | h0
    · exfalso
      apply h
      cases s with
      | mk d =>
        have : d.size = 0 := h0
        rw [Array.eq_empty_of_size_eq_zero this]
    · exact h0
  · rintro h rfl
    exact absurd h (by decide)

theorem c_isUser (s : ByteArray) (σ : St) : VCalls Try.prog 47 [.str s] σ fun r σ' => r = .bool (userB s) ∧ σ' = σ := by
  refine vcalls_intro (C := cfg Try.prog [] [] []) (cfg_ok mixed) Try.func47 rfl rfl rfl rfl rfl ?_
  unfold userB
  have e : ∀ n : Nat, decide ((n : Int) ≤ 16) = decide (n ≤ 16) := fun n => by rw [Bool.eq_iff_iff]; simp; omega
  simp only [go_sem, strNe]
  cases h : decide (1 ≤ s.size) <;> simp only [go_sem, h, e]

theorem c_name (s : ByteArray) (σ : St) : VCalls Try.prog 25 [.str s] σ fun r σ' => r = .bool (userB s) ∧ σ' = σ := by
  refine vcalls_intro (C := cfg Try.prog [] [] []) (cfg_ok mixed) Try.func25 rfl rfl rfl rfl rfl ?_
  unfold userB
  have e : ∀ n : Nat, decide ((n : Int) ≤ 16) = decide (n ≤ 16) := fun n => by rw [Bool.eq_iff_iff]; simp; omega
  have e' : ∀ n : Nat, decide (1 ≤ (n : Int)) = decide (1 ≤ n) := fun n => by rw [Bool.eq_iff_iff]; simp; omega
  simp only [go_sem, e']
  cases h : decide (1 ≤ s.size) <;> simp only [go_sem, h, e]

theorem c_pool (a : Int) (σ : St) : VCalls Try.prog 48 [.int .u32 a] σ fun r σ' => r = .bool (poolB a) ∧ σ' = σ := by
  refine vcalls_intro (C := cfg Try.prog [] [] []) (cfg_ok mixed) Try.func48 rfl rfl rfl rfl rfl ?_
  unfold poolB
  simp only [go_sem]
  cases h : decide (167772161 ≤ a) <;> simp only [go_sem, h]

theorem c_inPool (a : Int) (h1 : a < 4294967296) (σ : St) : VCalls Try.prog 41 [.int .u32 a] σ fun r σ' => r = .bool (poolB a) ∧ σ' = σ := by
  refine vcalls_intro (C := cfg Try.prog [] [] []) (cfg_ok mixed) Try.func41 rfl rfl rfl rfl rfl ?_
  unfold poolB
  simp only [go_sem]
  cases h : decide (167772161 ≤ a)
  · simp only [go_sem, h]
  · have hw : IntKind.u32.wrap (a - 167772161) = a - 167772161 := by
      have := of_decide_eq_true h
      unfold IntKind.wrap
      simp [IntKind.bits, IntKind.signed]
      omega
    have hd : decide (a - 167772161 < 6) = decide (a ≤ 167772166) := by rw [Bool.eq_iff_iff]; simp; omega
    simp only [go_sem, h, hw, hd]

def mayB (o : PV) : Bool := (decide (1 ≤ o.kind) && decide (o.kind ≤ 6)) && (btwB o.id 1000000000 && (btwB o.link 7 && (btwB o.t 1000000000 && (btwB o.cause 255 && userB o.user))))

theorem c_may (o : PV) (σ : St) : VCalls Try.prog 21 [pv o] σ fun r σ' => r = .bool (mayB o) ∧ σ' = σ := by
  refine vcalls_intro (C := cfg Try.prog [] [] []) (cfg_ok mixed) Try.func21 rfl rfl rfl rfl rfl ?_
  unfold mayB
  simp only [go_sem, pv, pvC]
  cases h1 : decide (1 ≤ o.kind)
  · simp only [go_sem, h1]
  simp only [go_sem, h1]
  cases h2 : decide (o.kind ≤ 6)
  · simp only [go_sem, h2]
  simp only [go_sem, h2]
  refine vgo_call rfl rfl rfl rfl (c_between _ _ σ) ?_
  cases h3 : btwB o.id 1000000000
  · simp only [go_sem]
  simp only [go_sem]
  refine vgo_call rfl rfl rfl rfl (c_between _ _ σ) ?_
  cases h4 : btwB o.link 7
  · simp only [go_sem]
  simp only [go_sem]
  refine vgo_call rfl rfl rfl rfl (c_between _ _ σ) ?_
  cases h5 : btwB o.t 1000000000
  · simp only [go_sem]
  simp only [go_sem]
  refine vgo_call rfl rfl rfl rfl (c_between _ _ σ) ?_
  cases h6 : btwB o.cause 255
  · simp only [go_sem]
  simp only [go_sem]
  refine vgo_call rfl rfl rfl rfl (c_isUser _ σ) ?_
  simp only [go_sem]

theorem c_rmay (o : PV) (σ : St) : VCalls Try.prog 32 [pv o] σ fun r σ' => r = .bool (mayB o) ∧ σ' = σ := by
  refine vcalls_intro (C := cfg Try.prog [] [] []) (cfg_ok mixed) Try.func32 rfl rfl rfl rfl rfl ?_
  simp only [go_sem, pv, pvC]
  refine vgo_call rfl rfl rfl rfl (c_name _ σ) ?_
  have n1 : ∀ a b : Int, decide (a < b) = !decide (b ≤ a) := fun a b => by rw [Bool.eq_iff_iff]; simp
  simp only [go_sem, n1]
  unfold mayB btwB
  cases h1 : decide (1 ≤ o.kind)
  · simp only [go_sem, n1, h1]
  simp only [go_sem, n1, h1]
  cases h2 : decide (o.kind ≤ 6)
  · simp only [go_sem, n1, h2]
  simp only [go_sem, n1, h2]
  cases h3 : decide (0 ≤ o.id)
  · simp only [go_sem, n1, h3]
  simp only [go_sem, n1, h3]
  cases h4 : decide (o.id ≤ 1000000000)
  · simp only [go_sem, n1, h4]
  simp only [go_sem, n1, h4]
  cases h5 : decide (0 ≤ o.link)
  · simp only [go_sem, n1, h5]
  simp only [go_sem, n1, h5]
  cases h6 : decide (o.link ≤ 7)
  · simp only [go_sem, n1, h6]
  simp only [go_sem, n1, h6]
  cases hu : userB o.user
  · simp only [go_sem, n1]
  simp only [go_sem, n1]
  cases h7 : decide (0 ≤ o.t)
  · simp only [go_sem, n1, h7]
  simp only [go_sem, n1, h7]
  cases h8 : decide (o.t ≤ 1000000000)
  · simp only [go_sem, n1, h8]
  simp only [go_sem, n1, h8]
  cases h9 : decide (0 ≤ o.cause)
  · simp only [go_sem, n1, h9]
  simp only [go_sem, n1, h9]

end Go.VL

/- Contracts of this program's functions: where something stands. Conditions: none. -/
namespace Go.VL
open Go.Proofs

def idS (id : Int) (s : SV) : Bool := s.id == id
def idI (id : Int) (s : IV) : Bool := s.id == id
def usL (u : ByteArray) (s : LV) : Bool := decide (s.user = u)

theorem c_rof (b : BV) (id : Int) (hl : b.ol.length ≤ lim) (σ : St) : VCalls Try.prog 19 [bkv b, .int .i64 id] σ fun r σ' => r = .int .i64 (idxL (idS id) b.ol) ∧ σ' = σ := by
  refine vcalls_intro (C := cfg Try.prog [] [] []) (cfg_ok mixed) Try.func19 rfl rfl rfl rfl rfl ?_
  simp only [go_sem, bkv, bvC]
  unfold lim at hl
  refine w_loop (fun i => i ≤ b.ol.length ∧ noneL (idS id) (b.ol.take i) = true) (fun i => [(5, .int .i64 i), (2, .ip (bvC b)), (1, .int .i64 id)]) (fun _ => σ) (fun i => b.ol.length - i) 0 ⟨Nat.zero_le _, rfl⟩ ?_ rfl ?_
  · simp only [go_sem, bvC]
    rfl
  rintro i ⟨hi, hn⟩
  rcases Nat.lt_or_ge i b.ol.length with h | h
  · simp only [go_sem, bvC, svs_length, h, svs_getD h]
    have hw : IntKind.i64.wrap ((i : Int) + 1) = ((i + 1 : Nat) : Int) := wrap_ok (by omega) (by omega)
    cases hp : b.ol[i].id == id
    · simp only [go_sem, hp]
      refine l_next (i + 1) ⟨h, noneL_take h hn hp⟩ (by omega) ?_ rfl
      simp only [go_sem, hw, bvC]
    · simp only [go_sem, hp]
      refine l_ret ?_
      simp only [go_sem, idxL_at (p := idS id) h hn hp]
  · have hh : ¬ (i < b.ol.length) := by omega
    simp only [go_sem, bvC, svs_length, hh]
    refine l_exit ?_
    rw [List.take_of_length_le h] at hn
    simp only [go_sem, idxL_none hn]

theorem c_rfailed (b : BV) (u : ByteArray) (hl : b.ll.length ≤ lim) (σ : St) : VCalls Try.prog 18 [bkv b, .str u] σ fun r σ' => r = .int .i64 (idxL (usL u) b.ll) ∧ σ' = σ := by
  refine vcalls_intro (C := cfg Try.prog [] [] []) (cfg_ok mixed) Try.func18 rfl rfl rfl rfl rfl ?_
  simp only [go_sem, bkv, bvC]
  unfold lim at hl
  refine w_loop (fun i => i ≤ b.ll.length ∧ noneL (usL u) (b.ll.take i) = true) (fun i => [(5, .int .i64 i), (2, .ip (bvC b)), (1, .str u)]) (fun _ => σ) (fun i => b.ll.length - i) 0 ⟨Nat.zero_le _, rfl⟩ ?_ rfl ?_
  · simp only [go_sem, bvC]
    rfl
  rintro i ⟨hi, hn⟩
  rcases Nat.lt_or_ge i b.ll.length with h | h
  · simp only [go_sem, bvC, lvs_length, h, lvs_getD h, strEq_dec]
    have hw : IntKind.i64.wrap ((i : Int) + 1) = ((i + 1 : Nat) : Int) := wrap_ok (by omega) (by omega)
    cases hp : decide (b.ll[i].user = u)
    · simp only [go_sem, hp]
      refine l_next (i + 1) ⟨h, noneL_take h hn hp⟩ (by omega) ?_ rfl
      simp only [go_sem, hw, bvC]
    · simp only [go_sem, hp]
      refine l_ret ?_
      simp only [go_sem, idxL_at (p := usL u) h hn hp]
  · have hh : ¬ (i < b.ll.length) := by omega
    simp only [go_sem, bvC, lvs_length, hh]
    refine l_exit ?_
    rw [List.take_of_length_le h] at hn
    simp only [go_sem, idxL_none hn]

/-- Where the last one stands that is so. -/
def lastG {α : Type} (p : α → Bool) : List α → Nat → Int → Int
  | [], _, acc => acc
  | x :: l, n, acc => lastG p l (n + 1) (bif p x then (n : Int) else acc)
def lastL {α : Type} (p : α → Bool) (l : List α) : Int := lastG p l 0 (-1)
theorem lastG_snoc {α : Type} (p : α → Bool) (x : α) : ∀ (l : List α) (n : Nat) (acc : Int), lastG p (l ++ [x]) n acc = (bif p x then ((n + l.length : Nat) : Int) else lastG p l n acc)
  | [], n, acc => by simp [lastG]
  | y :: l, n, acc => by
    rw [List.cons_append, lastG, lastG_snoc p x l, lastG]
    have : n + 1 + l.length = n + (y :: l).length := by simp; omega
    rw [this]
theorem lastL_take {α : Type} (p : α → Bool) {l : List α} {i : Nat} (h : i < l.length) : lastL p (l.take (i + 1)) = (bif p l[i] then (i : Int) else lastL p (l.take i)) := by
  unfold lastL
  rw [List.take_succ_eq_append_getElem h, lastG_snoc]
  have : (l.take i).length = i := by simp; omega
  rw [this, Nat.zero_add]
theorem lastL_spec {α : Type} (p : α → Bool) (l : List α) : ∀ n, n ≤ l.length → (lastL p (l.take n) = -1 ∧ noneL p (l.take n) = true) ∨ ∃ i, ∃ h : i < l.length, i < n ∧ lastL p (l.take n) = i ∧ p l[i] = true
  | 0, _ => .inl ⟨rfl, rfl⟩
  | n + 1, hn => by
    rw [lastL_take p hn]
    cases hp : p l[n] with
    | true => exact .inr ⟨n, hn, by omega, rfl, hp⟩
    | false =>
      rcases lastL_spec p l n (by omega) with ⟨h1, h2⟩ | ⟨i, h1, h2, h3, h4⟩
      · exact .inl ⟨h1, noneL_take hn h2 hp⟩
      · exact .inr ⟨i, h1, by omega, h3, h4⟩

theorem c_rlast (b : BV) (id : Int) (n : Nat) (hl : b.il.length ≤ lim) (hn : n ≤ b.il.length) (σ : St) : VCalls Try.prog 24 [bkv b, .int .i64 id, .int .i64 n] σ fun r σ' => r = .int .i64 (lastL (idI id) (b.il.take n)) ∧ σ' = σ := by
  refine vcalls_intro (C := cfg Try.prog [] [] []) (cfg_ok mixed) Try.func24 rfl rfl rfl rfl rfl ?_
  unfold lim at hl
  have hw : ∀ i : Nat, i ≤ b.il.length → IntKind.i64.wrap ((i : Int) - 1) = (i : Int) - 1 := fun i hi => by
    rw [IntKind.wrap_i64]
    omega
  simp only [go_sem, bkv, bvC, hw n hn]
  refine w_loop (fun i => i ≤ n ∧ lastL (idI id) (b.il.take n) = lastL (idI id) (b.il.take i)) (fun i => [(7, .int .i64 ((i : Int) - 1)), (3, .ip (bvC b)), (1, .int .i64 id)]) (fun _ => σ) (fun i => i) n ⟨Nat.le_refl _, rfl⟩ ?_ rfl ?_
  · simp only [go_sem, bvC]
  rintro i ⟨hi, he⟩
  rcases i with _ | i
  · have c0 : decide ((0 : Int) ≤ ((0 : Nat) : Int) - 1) = false := rfl
    simp only [go_sem, c0]
    refine l_exit ?_
    simp only [go_sem, he]
    rfl
  · have h : i < b.il.length := by omega
    have c0 : decide ((0 : Int) ≤ ((i + 1 : Nat) : Int) - 1) = true := by simp
    have e1 : (((i + 1 : Nat) : Int) - 1) = (i : Int) := by omega
    rw [lastL_take _ h] at he
    simp only [go_sem, e1, bvC, ivs_length, h, ivs_getD h, hw i (by omega)]
    cases hp : b.il[i].id == id
    · have hp' : idI id b.il[i] = false := hp
      rw [hp'] at he
      simp only [go_sem, hp]
      refine l_next i ⟨by omega, he⟩ (by omega) ?_ rfl
      simp only [go_sem, bvC, hw i (by omega)]
    · have hp' : idI id b.il[i] = true := hp
      rw [hp'] at he
      simp only [go_sem, hp]
      refine l_ret ?_
      simp only [go_sem, he]

end Go.VL

/- Contracts of this program's functions: which books are right, by the document: what is open. Conditions: none. -/
namespace Go.VL
open Go.Proofs

def okSB (next : Int) (s : SV) : Bool := decide (0 ≤ s.id) && decide (s.id < next) && (decide (0 ≤ s.link) && decide (s.link ≤ 7)) && userB s.user && poolB s.addr
def afterB (pre : List SV) (s : SV) : Bool := match pre.getLast? with
  | some q => decide (q.id < s.id)
  | none => true
def apartB (s q : SV) : Bool := !(q.link == s.link) && !(q.addr == s.addr)
/-- May all that is open be, behind what is? -/
def goO (next : Int) : List SV → List SV → Bool
  | _, [] => true
  | pre, s :: r => (okSB next s && afterB pre s && pre.all (apartB s)) && goO next (pre ++ [s]) r
def openB (next : Int) (l : List SV) : Bool := goO next [] l

theorem drop_step {α : Type} {l : List α} {i : Nat} (h : i < l.length) : l.drop i = l[i] :: l.drop (i + 1) := List.drop_eq_getElem_cons h
theorem goO_step (next : Int) {l : List SV} {i : Nat} (h : i < l.length) : goO next (l.take i) (l.drop i) = ((okSB next l[i] && afterB (l.take i) l[i] && (l.take i).all (apartB l[i])) && goO next (l.take (i + 1)) (l.drop (i + 1))) := by
  rw [drop_step h, goO, ← List.take_succ_eq_append_getElem h]
theorem all_drop {α : Type} (f : α → Bool) {l : List α} {i : Nat} (h : i < l.length) : (l.drop i).all f = (f l[i] && (l.drop (i + 1)).all f) := by
  rw [drop_step h, List.all_cons]
theorem afterB_zero (l : List SV) (s : SV) : afterB (l.take 0) s = true := rfl
theorem afterB_succ {l : List SV} {i : Nat} (h : i < l.length) (s : SV) : afterB (l.take (i + 1)) s = decide (l[i].id < s.id) := by
  unfold afterB
  rw [List.take_succ_eq_append_getElem h, List.getLast?_append]
  rfl

set_option maxHeartbeats 1000000 in
theorem c_ropen (b : BV) (hl : b.ol.length ≤ 1000) (σ : St) : VCalls Try.prog 22 [bkv b] σ fun r σ' => r = .bool (openB b.next b.ol) ∧ σ' = σ := by
  refine vcalls_intro (C := cfg Try.prog [] [] []) (cfg_ok mixed) Try.func22 rfl rfl rfl rfl rfl ?_
  simp only [go_sem, bkv, bvC]
  refine w_loop (fun i => i ≤ b.ol.length ∧ openB b.next b.ol = goO b.next (b.ol.take i) (b.ol.drop i)) (fun i => [(3, .int .i64 i), (1, .ip (bvC b))]) (fun _ => σ) (fun i => b.ol.length - i) 0 ⟨Nat.zero_le _, rfl⟩ ?_ rfl ?_
  · simp only [go_sem, bvC]
    rfl
  rintro i ⟨hi, he⟩
  rcases Nat.lt_or_ge i b.ol.length with h | h
  · have hw : IntKind.i64.wrap ((i : Int) + 1) = ((i + 1 : Nat) : Int) := wrap_ok (by omega) (by omega)
    rw [goO_step _ h] at he
    simp only [go_sem, bvC, svs_length, h, svs_getD h]
    refine vgo_call rfl rfl rfl rfl (c_name _ σ) ?_
    simp only [go_sem]
    refine vgo_call rfl rfl rfl rfl (c_pool _ σ) ?_
    simp only [go_sem]
    refine w_walk2 [] [0, 1, 2, 3, 4, 5, 6, 7, 8, 9, 10, 11, 12, 13, 14, 15, 16, 17, 18, 19, 20, 21, 22, 23, 24, 25, 26, 27, 28, 29, 30, 31, 32, 33, 34, 35, 36, 37, 38, 39, 40, 41, 42, 43] [26, 27, 28, 29, 30, 31, 32, 33, 34, 35, 36, 37, 38, 39, 40, 41, 42, 43, 44, 45, 46, 47, 48, 49, 50, 51, 52, 53, 54, 55, 56, 57, 58, 59, 60, 61, 62, 63, 64, 65, 66, 67, 68, 69] [0, 1, 3, 7, 15, 31, 15, 79, 255, 511, 1023, 2047, 4095, 8191, 16383, 32767, 16383, 81919, 262143, 524287, 1048575, 16383, 2113535, 8388607, 16777215, 33554431, 67108863, 134217727, 268435455, 536870911, 1073741823, 2147483647, 4294967295, 8589934591, 17179869183, 34359738367, 68719476735, 137438953471, 274877906943, 549755813887, 1099511627775, 2199023255551, 4398046511103, 8796093022207] rfl rfl rfl rfl ?_
    have n1 : ∀ a b : Int, decide (a < b) = !decide (b ≤ a) := fun a b => by rw [Bool.eq_iff_iff]; simp
    unfold okSB at he
    simp only [n1] at he
    simp only [go_sem, bvC, n1]
    cases h1 : decide (0 ≤ b.ol[i].id)
    · simp only [go_sem, h1]
      refine l_ret ?_
      rw [h1] at he
      simp only [go_sem, he]
    simp only [go_sem, bvC, h1, n1]
    cases h2 : decide (b.next ≤ b.ol[i].id)
    all_goals rw [h1, h2] at he
    rotate_left
    · simp only [go_sem, h2]
      refine l_ret ?_
      simp only [go_sem, he]
    rcases Nat.eq_zero_or_pos i with hi0 | hi0
    · have ha' : afterB (b.ol.take i) b.ol[i] = true := by subst hi0; rfl
      have hz0 : decide ((0 : Int) < (i : Int)) = false := by simp; omega
      rw [ha'] at he
      simp only [go_sem, bvC, h2, hz0, n1]
      cases h4 : decide (0 ≤ b.ol[i].link)
      all_goals rw [h4] at he
      · simp only [go_sem, h4]
        refine l_ret ?_
        simp only [go_sem, he]
      simp only [go_sem, bvC, h4, n1]
      cases h5 : decide (b.ol[i].link ≤ 7)
      all_goals rw [h5] at he
      · simp only [go_sem, h5]
        refine l_ret ?_
        simp only [go_sem, he]
      simp only [go_sem, bvC, h5]
      cases h6 : userB b.ol[i].user
      all_goals rw [h6] at he
      · simp only [go_sem]
        refine l_ret ?_
        simp only [go_sem, he]
      simp only [go_sem, bvC]
      cases h7 : poolB b.ol[i].addr
      all_goals rw [h7] at he
      · simp only [go_sem]
        refine l_ret ?_
        simp only [go_sem, he]
      simp only [go_sem, bvC]
      refine w_loop (fun j => j ≤ (i) ∧ (b.ol.take (i)).all (apartB b.ol[i]) = ((b.ol.take (i)).drop j).all (apartB b.ol[i])) (fun j => [(7, .int .i64 j), (3, .int .i64 ((i : Nat) : Int)), (1, .ip (bvC b)), (4, .cell (svC b.ol[i]))]) (fun _ => σ) (fun j => (i) - j) 0 ⟨Nat.zero_le _, rfl⟩ ?_ rfl ?_
      · simp only [go_sem, bvC, svC]
        rfl
      rintro j ⟨hj, hq⟩
      rcases Nat.lt_or_ge j (i) with g | g
      · have gl : j < b.ol.length := by omega
        have gw : IntKind.i64.wrap ((j : Int) + 1) = ((j + 1 : Nat) : Int) := wrap_ok (by omega) (by omega)
        have gt : j < (b.ol.take (i)).length := by simp; omega
        have ge : (b.ol.take (i))[j] = b.ol[j] := by simp
        rw [all_drop _ gt, ge] at hq
        unfold apartB at hq
        have gd : decide ((j : Int) < ((i : Nat) : Int)) = true := by simp; omega
        simp only [go_sem, g, gd]
        refine w_walk2 [] [0, 1, 2, 3, 4, 5, 6, 7, 8, 9, 10, 11, 12, 13, 14, 15, 16, 17, 18, 19] [75, 76, 77, 78, 79, 80, 81, 82, 83, 84, 85, 86, 87, 88, 89, 90, 91, 92, 93, 94] [0, 1, 0, 7, 15, 31, 0, 64, 255, 511, 1023, 2047, 1023, 8191, 16383, 32767, 1023, 66559, 262143, 524287] rfl rfl rfl rfl ?_
        simp only [go_sem, bvC, svC, svs_length, gl, svs_getD gl]
        cases g1 : b.ol[j].link == b.ol[i].link
        · simp only [go_sem, bvC, svC, svs_length, gl, svs_getD gl, g1]
          cases g2 : b.ol[j].addr == b.ol[i].addr
          · simp only [go_sem, g2]
            rw [g1, g2] at hq
            refine l_next (j + 1) ⟨g, hq⟩ (by omega) ?_ rfl
            simp only [go_sem, bvC, svC, gw]
          · simp only [go_sem, g2]
            rw [g1, g2] at hq
            unfold apartB at he
            rw [hq] at he
            refine l_ret ?_
            simp only [go_sem]
            refine l_ret ?_
            simp only [go_sem, he]
        · simp only [go_sem, g1]
          rw [g1] at hq
          unfold apartB at he
          rw [hq] at he
          refine l_ret ?_
          simp only [go_sem]
          refine l_ret ?_
          simp only [go_sem, he]
      · have gd : decide ((j : Int) < ((i : Nat) : Int)) = false := by simp; omega
        have gn : ¬ j < (i) := by omega
        rw [List.drop_eq_nil_of_le (by simp; omega)] at hq
        rw [hq] at he
        simp only [go_sem, gd, gn]
        refine l_exit ?_
        simp only [go_sem]
        refine l_next (i + 1) ⟨h, by simpa using he⟩ (by omega) ?_ rfl
        simp only [go_sem, bvC, hw]
    · have hz0 : decide ((0 : Int) < (i : Int)) = true := by simp; omega
      obtain ⟨k, rfl⟩ : ∃ k, i = k + 1 := ⟨i - 1, by omega⟩
      have hk : k < b.ol.length := by omega
      have e1 : IntKind.i64.wrap (((k + 1 : Nat) : Int) - 1) = (k : Int) := by
        rw [show (((k + 1 : Nat) : Int) - 1) = (k : Int) by omega]
        exact wrap_ok (by omega) (by omega)
      rw [afterB_succ hk, n1] at he
      simp only [go_sem, bvC, h2, hz0, e1, svs_length, hk, svs_getD hk]
      cases h3 : decide (b.ol[k + 1].id ≤ b.ol[k].id)
      all_goals rw [h3] at he
      rotate_left
      · simp only [go_sem, h3]
        refine l_ret ?_
        simp only [go_sem, he]
      simp only [go_sem, bvC, h3, n1]
      cases h4 : decide (0 ≤ b.ol[k + 1].link)
      all_goals rw [h4] at he
      · simp only [go_sem, h4]
        refine l_ret ?_
        simp only [go_sem, he]
      simp only [go_sem, bvC, h4, n1]
      cases h5 : decide (b.ol[k + 1].link ≤ 7)
      all_goals rw [h5] at he
      · simp only [go_sem, h5]
        refine l_ret ?_
        simp only [go_sem, he]
      simp only [go_sem, bvC, h5]
      cases h6 : userB b.ol[k + 1].user
      all_goals rw [h6] at he
      · simp only [go_sem]
        refine l_ret ?_
        simp only [go_sem, he]
      simp only [go_sem, bvC]
      cases h7 : poolB b.ol[k + 1].addr
      all_goals rw [h7] at he
      · simp only [go_sem]
        refine l_ret ?_
        simp only [go_sem, he]
      simp only [go_sem, bvC]
      refine w_loop (fun j => j ≤ (k + 1) ∧ (b.ol.take (k + 1)).all (apartB b.ol[k + 1]) = ((b.ol.take (k + 1)).drop j).all (apartB b.ol[k + 1])) (fun j => [(7, .int .i64 j), (3, .int .i64 ((k + 1 : Nat) : Int)), (1, .ip (bvC b)), (4, .cell (svC b.ol[k + 1]))]) (fun _ => σ) (fun j => (k + 1) - j) 0 ⟨Nat.zero_le _, rfl⟩ ?_ rfl ?_
      · simp only [go_sem, bvC, svC]
        rfl
      rintro j ⟨hj, hq⟩
      rcases Nat.lt_or_ge j (k + 1) with g | g
      · have gl : j < b.ol.length := by omega
        have gw : IntKind.i64.wrap ((j : Int) + 1) = ((j + 1 : Nat) : Int) := wrap_ok (by omega) (by omega)
        have gt : j < (b.ol.take (k + 1)).length := by simp; omega
        have ge : (b.ol.take (k + 1))[j] = b.ol[j] := by simp
        rw [all_drop _ gt, ge] at hq
        unfold apartB at hq
        have gd : decide ((j : Int) < ((k + 1 : Nat) : Int)) = true := by simp; omega
        simp only [go_sem, g, gd]
        refine w_walk2 [] [0, 1, 2, 3, 4, 5, 6, 7, 8, 9, 10, 11, 12, 13, 14, 15, 16, 17, 18, 19] [75, 76, 77, 78, 79, 80, 81, 82, 83, 84, 85, 86, 87, 88, 89, 90, 91, 92, 93, 94] [0, 1, 0, 7, 15, 31, 0, 64, 255, 511, 1023, 2047, 1023, 8191, 16383, 32767, 1023, 66559, 262143, 524287] rfl rfl rfl rfl ?_
        simp only [go_sem, bvC, svC, svs_length, gl, svs_getD gl]
        cases g1 : b.ol[j].link == b.ol[k + 1].link
        · simp only [go_sem, bvC, svC, svs_length, gl, svs_getD gl, g1]
          cases g2 : b.ol[j].addr == b.ol[k + 1].addr
          · simp only [go_sem, g2]
            rw [g1, g2] at hq
            refine l_next (j + 1) ⟨g, hq⟩ (by omega) ?_ rfl
            simp only [go_sem, bvC, svC, gw]
          · simp only [go_sem, g2]
            rw [g1, g2] at hq
            unfold apartB at he
            rw [hq] at he
            refine l_ret ?_
            simp only [go_sem]
            refine l_ret ?_
            simp only [go_sem, he]
        · simp only [go_sem, g1]
          rw [g1] at hq
          unfold apartB at he
          rw [hq] at he
          refine l_ret ?_
          simp only [go_sem]
          refine l_ret ?_
          simp only [go_sem, he]
      · have gd : decide ((j : Int) < ((k + 1 : Nat) : Int)) = false := by simp; omega
        have gn : ¬ j < (k + 1) := by omega
        rw [List.drop_eq_nil_of_le (by simp; omega)] at hq
        rw [hq] at he
        simp only [go_sem, gd, gn]
        refine l_exit ?_
        simp only [go_sem]
        refine l_next (k + 1 + 1) ⟨h, by simpa using he⟩ (by omega) ?_ rfl
        simp only [go_sem, bvC, hw]
  · have hh : ¬ (i < b.ol.length) := by omega
    simp only [go_sem, bvC, svs_length, hh]
    refine l_exit ?_
    rw [List.drop_eq_nil_of_le h] at he
    simp only [go_sem, he, goO]

end Go.VL

/- Contracts of this program's functions: which books are right, by the document: lines. Conditions: none. -/
namespace Go.VL
open Go.Proofs

/-- The last line of a session. -/
def prevOf (id : Int) (l : List IV) : Option IV := l.foldl (fun acc x => bif idI id x then some x else acc) none
theorem prevOf_take (id : Int) {l : List IV} {i : Nat} (h : i < l.length) : prevOf id (l.take (i + 1)) = bif idI id l[i] then some l[i] else prevOf id (l.take i) := by
  unfold prevOf
  rw [List.take_succ_eq_append_getElem h, List.foldl_append]
  rfl
theorem last_prev (id : Int) (l : List IV) : ∀ n, n ≤ l.length → (lastL (idI id) (l.take n) = -1 ∧ prevOf id (l.take n) = none) ∨ ∃ i, ∃ h : i < l.length, i < n ∧ lastL (idI id) (l.take n) = i ∧ prevOf id (l.take n) = some l[i] ∧ idI id l[i] = true
  | 0, _ => .inl ⟨rfl, rfl⟩
  | n + 1, hn => by
    rw [lastL_take _ hn, prevOf_take _ hn]
    cases hp : idI id l[n] with
    | true => exact .inr ⟨n, hn, by omega, rfl, rfl, hp⟩
    | false =>
      rcases last_prev id l n (by omega) with ⟨h1, h2⟩ | ⟨i, h1, h2, h3, h4, h5⟩
      · exact .inl ⟨h1, h2⟩
      · exact .inr ⟨i, h1, by omega, h3, h4, h5⟩

def startB (x : IV) : Bool := x.kind == 1 && x.inn == 0 && x.out == 0 && x.cause == 0
def onB (y x : IV) : Bool := !(y.kind == 3) && decide (y.inn ≤ x.inn) && decide (y.out ≤ x.out) && (bif x.kind == 2 && x.cause == 0 then true else x.kind == 3 && decide (0 ≤ x.cause) && decide (x.cause ≤ 255))
def lineB (next : Int) (pre : List IV) (x : IV) : Bool := decide (0 ≤ x.id) && decide (x.id < next) && (match prevOf x.id pre with
  | none => startB x
  | some y => onB y x)

set_option maxHeartbeats 1000000 in
theorem c_rline (b : BV) (i : Nat) (h : i < b.il.length) (hl : b.il.length ≤ 1000) (σ : St) : VCalls Try.prog 23 [bkv b, .int .i64 i] σ fun r σ' => r = .bool (lineB b.next (b.il.take i) b.il[i]) ∧ σ' = σ := by
  refine vcalls_intro (C := cfg Try.prog [] [] []) (cfg_ok mixed) Try.func23 rfl rfl rfl rfl rfl ?_
  have n1 : ∀ a b : Int, decide (a < b) = !decide (b ≤ a) := fun a b => by rw [Bool.eq_iff_iff]; simp
  simp only [go_sem, bkv, bvC, ivs_length, h, ivs_getD h]
  refine vgo_call rfl rfl rfl rfl (c_rlast b b.il[i].id i (by unfold lim; omega) (Nat.le_of_lt h) σ) ?_
  unfold lineB
  simp only [go_sem, n1]
  cases h1 : decide (0 ≤ b.il[i].id)
  · simp only [go_sem, h1]
  simp only [go_sem, h1, n1]
  cases h2 : decide (b.next ≤ b.il[i].id)
  rotate_left
  · simp only [go_sem, h2]
  simp only [go_sem, h2]
  rcases last_prev b.il[i].id b.il i (Nat.le_of_lt h) with ⟨hk, hp⟩ | ⟨k, hkl, hki, hk, hp, _⟩
  · rw [hk, hp]
    simp only [go_sem, startB]
    cases h3 : b.il[i].kind == 1
    · simp only [go_sem, h3]
    simp only [go_sem, h3]
    cases h4 : b.il[i].inn == 0
    · simp only [go_sem, h4]
    simp only [go_sem, h4]
    cases h5 : b.il[i].out == 0
    · simp only [go_sem, h5]
    simp only [go_sem, h5]
  · rw [hk, hp]
    have hk0 : decide ((k : Int) < 0) = false := by simp
    simp only [go_sem, hk0, ivs_length, hkl, ivs_getD hkl, onB]
    cases h3 : b.il[k].kind == 3
    rotate_left
    · simp only [go_sem, h3]
    simp only [go_sem, h3, n1]
    cases h4 : decide (b.il[k].inn ≤ b.il[i].inn)
    · simp only [go_sem, h4]
    simp only [go_sem, h4, n1]
    cases h5 : decide (b.il[k].out ≤ b.il[i].out)
    · simp only [go_sem, h5]
    simp only [go_sem, h5]
    cases h6 : b.il[i].kind == 2
    · simp only [go_sem, h6]
      cases h7 : b.il[i].kind == 3
      · simp only [go_sem, h7]
      simp only [go_sem, h7]
      cases h8 : decide (0 ≤ b.il[i].cause)
      · simp only [go_sem, h8]
      simp only [go_sem, h8]
    simp only [go_sem, h6]
    have h7 : (b.il[i].kind == 3) = false := by
      have := beq_iff_eq.1 h6
      rw [this]; rfl
    cases h8 : b.il[i].cause == 0
    · simp only [go_sem, h8, h7]
    simp only [go_sem, h8]

end Go.VL

/- Contracts of this program's functions: which books are right, by the document. Conditions: none. -/
namespace Go.VL
open Go.Proofs

def endB (b : BV) (n : Nat) (x : IV) : Bool := !((lastL (idI x.id) b.il == (n : Int)) && (decide (0 ≤ idxL (idS x.id) b.ol) == (x.kind == 3)))
def goIt (b : BV) : List IV → List IV → Bool
  | _, [] => true
  | pre, x :: r => (lineB b.next pre x && endB b pre.length x) && goIt b (pre ++ [x]) r
def matchB (b : BV) (s : SV) : Bool := match prevOf s.id b.il with
  | none => false
  | some y => y.inn == s.inn && y.out == s.out
def lockB (b : BV) (n : Nat) (x : LV) : Bool := userB x.user && decide (1 ≤ x.n) && decide (x.n ≤ 255) && decide (0 ≤ x.t) && decide (x.t ≤ 1000000000) && (idxL (usL x.user) b.ll == (n : Int))
def goLk (b : BV) : Nat → List LV → Bool
  | _, [] => true
  | n, x :: r => lockB b n x && goLk b (n + 1) r
def rightB (b : BV) : Bool := decide (0 ≤ b.next) && decide (b.next ≤ 1000000000) && decide (b.il.length + b.ol.length ≤ 60) && decide (b.ll.length ≤ 8) && openB b.next b.ol && goIt b [] b.il && b.ol.all (matchB b) && goLk b 0 b.ll

theorem goIt_step (b : BV) {l : List IV} {i : Nat} (h : i < l.length) : goIt b (l.take i) (l.drop i) = ((lineB b.next (l.take i) l[i] && endB b i l[i]) && goIt b (l.take (i + 1)) (l.drop (i + 1))) := by
  rw [drop_step h, goIt, ← List.take_succ_eq_append_getElem h]
  have : (l.take i).length = i := by simp; omega
  rw [this]
theorem goLk_step (b : BV) {l : List LV} {i : Nat} (h : i < l.length) : goLk b i (l.drop i) = (lockB b i l[i] && goLk b (i + 1) (l.drop (i + 1))) := by
  rw [drop_step h, goLk]

set_option maxHeartbeats 2000000 in
theorem c_rright (b : BV) (h1 : b.ol.length < 4611686018427387904) (h2 : b.il.length < 4611686018427387904) (σ : St) : VCalls Try.prog 10 [bkv b] σ fun r σ' => r = .bool (rightB b) ∧ σ' = σ := by
  refine vcalls_intro (C := cfg Try.prog [] [] []) (cfg_ok mixed) Try.func10 rfl rfl rfl rfl rfl ?_
  have n1 : ∀ a b : Int, decide (a < b) = !decide (b ≤ a) := fun a b => by rw [Bool.eq_iff_iff]; simp
  have hw : IntKind.i64.wrap ((b.il.length : Int) + (b.ol.length : Int)) = ((b.il.length + b.ol.length : Nat) : Int) := by rw [IntKind.wrap_i64]; omega
  have e60 : decide (((b.il.length + b.ol.length : Nat) : Int) ≤ 60) = decide (b.il.length + b.ol.length ≤ 60) := by rw [Bool.eq_iff_iff]; simp; omega
  have e8 : decide ((b.ll.length : Int) ≤ 8) = decide (b.ll.length ≤ 8) := by rw [Bool.eq_iff_iff]; simp; omega
  unfold rightB
  simp only [go_sem, bkv, bvC, n1]
  cases c1 : decide (0 ≤ b.next)
  · simp only [go_sem, c1]
  simp only [go_sem, c1, n1]
  cases c2 : decide (b.next ≤ 1000000000)
  · simp only [go_sem, c2]
  simp only [go_sem, c2, n1, svs_length, ivs_length, lvs_length, hw, e60]
  cases c3 : decide (b.il.length + b.ol.length ≤ 60)
  · simp only [go_sem, c3]
  simp only [go_sem, c3, n1, svs_length, ivs_length, lvs_length, e8]
  cases c4 : decide (b.ll.length ≤ 8)
  · simp only [go_sem, c4]
  have d3 : b.il.length + b.ol.length ≤ 60 := of_decide_eq_true c3
  have d4 : b.ll.length ≤ 8 := of_decide_eq_true c4
  simp only [go_sem, c4]
  refine vgo_call rfl rfl rfl rfl (c_ropen b (by omega) σ) ?_
  simp only [go_sem]
  cases c5 : openB b.next b.ol
  · simp only [go_sem]
  simp only [go_sem]
  have i1 : ∀ i : Nat, i ≤ 1000 → IntKind.i64.wrap ((i : Int) + 1) = ((i + 1 : Nat) : Int) := fun i hi => wrap_ok (by omega) (by omega)
  refine w_loop (fun i => i ≤ b.il.length ∧ goIt b [] b.il = goIt b (b.il.take i) (b.il.drop i)) (fun i => [(4, .int .i64 i), (1, .ip (bvC b))]) (fun _ => σ) (fun i => b.il.length - i) 0 ⟨Nat.zero_le _, rfl⟩ ?_ rfl ?_
  · simp only [go_sem, bvC]
    rfl
  rintro i ⟨hi, he⟩
  rcases Nat.lt_or_ge i b.il.length with h | h
  · rw [goIt_step b h] at he
    simp only [go_sem, bvC, ivs_length, h]
    refine vgo_call rfl rfl rfl rfl (c_rline b i h (by omega) σ) ?_
    simp only [go_sem]
    cases e1 : lineB b.next (b.il.take i) b.il[i]
    all_goals rw [e1] at he
    · simp only [go_sem]
      refine l_ret ?_
      simp only [go_sem, he]
    simp only [go_sem]
    refine w_walk2 [] [0, 1, 2, 3, 4, 5, 6, 7, 8, 9, 10, 11, 12, 13] [53, 54, 55, 56, 57, 58, 59, 60, 61, 62, 63, 64, 65, 6] [0, 0, 2, 0, 14, 30, 62, 0, 128, 384, 1023, 0, 4095, 8191] rfl rfl rfl rfl ?_
    simp only [go_sem, bvC, ivs_length, h, ivs_getD h]
    refine vdgo_call rfl rfl rfl rfl (c_rlast b b.il[i].id b.il.length (by unfold lim; omega) (Nat.le_refl _) σ) ?_
    rw [List.take_length]
    simp only [go_sem, bvC]
    refine w_walk2 [] [0, 1, 2, 3, 4, 5, 6, 7, 8, 9] [66, 67, 68, 69, 70, 71, 72, 73, 74, 7] [0, 0, 2, 0, 14, 30, 62, 127, 255, 511] rfl rfl rfl rfl ?_
    simp only [go_sem, bvC, ivs_length, h, ivs_getD h]
    refine vdgo_call rfl rfl rfl rfl (c_rof b b.il[i].id (by unfold lim; omega) σ) ?_
    simp only [go_sem, bvC]
    unfold endB at he
    cases e2 : lastL (idI b.il[i].id) b.il == (i : Int)
    · rw [e2] at he
      simp only [go_sem, e2]
      refine l_next (i + 1) ⟨h, by simpa using he⟩ (by omega) ?_ rfl
      simp only [go_sem, bvC, i1 i (by omega)]
    rw [e2] at he
    simp only [go_sem, bvC, ivs_length, h, ivs_getD h, e2]
    cases e3 : decide (0 ≤ idxL (idS b.il[i].id) b.ol) == (b.il[i].kind == 3)
    · rw [e3] at he
      simp only [go_sem, e3]
      refine l_next (i + 1) ⟨h, by simpa using he⟩ (by omega) ?_ rfl
      simp only [go_sem, bvC, i1 i (by omega)]
    · rw [e3] at he
      simp only [go_sem, e3]
      refine l_ret ?_
      simp only [go_sem, he]
  have hh : ¬ (i < b.il.length) := by omega
  rw [List.drop_eq_nil_of_le h, goIt] at he
  simp only [go_sem, bvC, ivs_length, hh]
  refine l_exit ?_
  simp only [go_sem, he]
  clear he hh h hi
  refine w_loop (fun i => i ≤ b.ol.length ∧ b.ol.all (matchB b) = (b.ol.drop i).all (matchB b)) (fun i => [(8, .int .i64 i), (1, .ip (bvC b))]) (fun _ => σ) (fun i => b.ol.length - i) 0 ⟨Nat.zero_le _, rfl⟩ ?_ rfl ?_
  · simp only [go_sem, bvC]
    rfl
  rintro i ⟨hi, he⟩
  rcases Nat.lt_or_ge i b.ol.length with h | h
  · rw [all_drop _ h] at he
    simp only [go_sem, bvC, svs_length, h]
    refine w_walk2 [] [0, 1, 2, 3, 4, 5, 6, 7, 8, 9, 10, 11] [94, 95, 96, 97, 98, 99, 100, 101, 102, 103, 104, 9] [0, 0, 2, 0, 14, 30, 62, 0, 128, 384, 1023, 2047] rfl rfl rfl rfl ?_
    simp only [go_sem, bvC, svs_length, ivs_length, h, svs_getD h]
    refine vdgo_call rfl rfl rfl rfl (c_rlast b b.ol[i].id b.il.length (by unfold lim; omega) (Nat.le_refl _) σ) ?_
    have hp := last_prev b.ol[i].id b.il b.il.length (Nat.le_refl _)
    rw [List.take_length] at hp ⊢
    simp only [go_sem, bvC]
    refine w_walk2 [] [0, 1, 2, 3, 4, 5, 6, 7, 8, 9, 10, 11, 12, 13, 14, 15, 16, 17, 18, 19, 20, 21, 22, 23, 24, 25, 26, 27, 28, 29, 30, 31] [105, 106, 107, 108, 109, 110, 111, 112, 113, 114, 115, 116, 117, 118, 119, 120, 121, 122, 123, 124, 125, 126, 127, 128, 129, 130, 131, 132, 133, 134, 135, 136] [0, 1, 3, 7, 15, 7, 63, 127, 255, 7, 519, 7, 3591, 7687, 15879, 32767, 65535, 131071, 262143, 524287, 262143, 2097151, 4194303, 8388607, 262143, 17039359, 262143, 117702655, 251920383, 520355839, 1073741823, 2147483647] rfl rfl rfl rfl ?_
    rcases hp with ⟨hk, hp⟩ | ⟨k, hkl, hki, hk, hp, _⟩
    · have hm : matchB b b.ol[i] = false := by unfold matchB; rw [hp]
      rw [hm] at he
      simp only [go_sem, hk]
      refine l_ret ?_
      simp only [go_sem, he]
    · have hm : matchB b b.ol[i] = (b.il[k].inn == b.ol[i].inn && b.il[k].out == b.ol[i].out) := by unfold matchB; rw [hp]
      rw [hm] at he
      have hk0 : decide ((k : Int) < 0) = false := by simp
      simp only [go_sem, bvC, hk, hk0, ivs_length, svs_length, h, svs_getD h, hkl, ivs_getD hkl]
      simp only [bne]
      cases e1 : b.il[k].inn == b.ol[i].inn
      · rw [e1] at he
        simp only [go_sem, e1]
        refine l_ret ?_
        simp only [go_sem, he]
      simp only [go_sem, bvC, ivs_length, svs_length, h, svs_getD h, hkl, ivs_getD hkl, e1, bne]
      cases e2 : b.il[k].out == b.ol[i].out
      · rw [e1, e2] at he
        simp only [go_sem, e2]
        refine l_ret ?_
        simp only [go_sem, he]
      · rw [e1, e2] at he
        simp only [go_sem, e2]
        refine l_next (i + 1) ⟨h, by simpa using he⟩ (by omega) ?_ rfl
        simp only [go_sem, bvC, i1 i (by omega)]
  have hh : ¬ (i < b.ol.length) := by omega
  rw [List.drop_eq_nil_of_le h, List.all_nil] at he
  simp only [go_sem, bvC, svs_length, hh]
  refine l_exit ?_
  simp only [go_sem, he]
  clear he hh h hi
  refine w_loop (fun i => i ≤ b.ll.length ∧ goLk b 0 b.ll = goLk b i (b.ll.drop i)) (fun i => [(10, .int .i64 i), (1, .ip (bvC b))]) (fun _ => σ) (fun i => b.ll.length - i) 0 ⟨Nat.zero_le _, rfl⟩ ?_ rfl ?_
  · simp only [go_sem, bvC]
    rfl
  rintro i ⟨hi, he⟩
  rcases Nat.lt_or_ge i b.ll.length with h | h
  · rw [goLk_step b h] at he
    simp only [go_sem, bvC, lvs_length, h, lvs_getD h]
    refine vgo_call rfl rfl rfl rfl (c_name _ σ) ?_
    unfold lockB at he
    simp only [go_sem, n1]
    cases e1 : userB b.ll[i].user
    · rw [e1] at he
      simp only [go_sem]
      refine l_ret ?_
      simp only [go_sem, he]
    rw [e1] at he
    simp only [go_sem, n1]
    cases e2 : decide (1 ≤ b.ll[i].n)
    · rw [e2] at he
      simp only [go_sem, e2]
      refine l_ret ?_
      simp only [go_sem, he]
    rw [e2] at he
    simp only [go_sem, e2, n1]
    cases e3 : decide (b.ll[i].n ≤ 255)
    · rw [e3] at he
      simp only [go_sem, e3]
      refine l_ret ?_
      simp only [go_sem, he]
    rw [e3] at he
    simp only [go_sem, e3, n1]
    cases e4 : decide (0 ≤ b.ll[i].t)
    · rw [e4] at he
      simp only [go_sem, e4]
      refine l_ret ?_
      simp only [go_sem, he]
    rw [e4] at he
    simp only [go_sem, e4, n1]
    cases e5 : decide (b.ll[i].t ≤ 1000000000)
    · rw [e5] at he
      simp only [go_sem, e5]
      refine l_ret ?_
      simp only [go_sem, he]
    rw [e5] at he
    simp only [go_sem, bvC, e5]
    refine vgo_call rfl rfl rfl rfl (c_rfailed b b.ll[i].user (by unfold lim; omega) σ) ?_
    simp only [go_sem, bne]
    cases e6 : idxL (usL b.ll[i].user) b.ll == (i : Int)
    · rw [e6] at he
      simp only [go_sem, e6]
      refine l_ret ?_
      simp only [go_sem, he]
    · rw [e6] at he
      simp only [go_sem, e6]
      refine l_next (i + 1) ⟨h, by simpa using he⟩ (by omega) ?_ rfl
      simp only [go_sem, bvC, i1 i (by omega)]
  have hh : ¬ (i < b.ll.length) := by omega
  rw [List.drop_eq_nil_of_le h, goLk] at he
  simp only [go_sem, bvC, lvs_length, hh]
  refine l_exit ?_
  simp only [go_sem, he]

end Go.VL

/- Contracts of this program's functions: books that are the same. Conditions: none. -/
namespace Go.VL
open Go.Proofs

def sameB (a b : BV) : Bool := (a.next == b.next) && decide (a.ol = b.ol) && decide (a.il = b.il) && decide (a.ll = b.ll)

set_option maxHeartbeats 1000000 in
theorem c_rsame (a b : BV) (h1 : a.ol.length ≤ lim) (h2 : a.il.length ≤ lim) (h3 : a.ll.length ≤ lim) (σ : St) : VCalls Try.prog 13 [bkv a, bkv b] σ fun r σ' => r = .bool (sameB a b) ∧ σ' = σ := by
  refine vcalls_intro (C := cfg Try.prog [] [] []) (cfg_ok mixed) Try.func13 rfl rfl rfl rfl rfl ?_
  unfold lim at h1 h2 h3
  have ln : ∀ m n : Nat, ((m : Int) != (n : Int)) = !decide (m = n) := fun m n => by rw [Bool.eq_iff_iff]; simp; omega
  unfold sameB
  simp only [go_sem, bkv, bvC, bne]
  cases c1 : a.next == b.next
  · simp only [go_sem, c1]
  simp only [go_sem, c1, svs_length, ln]
  cases c2 : decide (a.ol.length = b.ol.length)
  · have : ¬ a.ol = b.ol := fun e => by rw [e] at c2; simp at c2
    simp only [go_sem, c2, this]
  simp only [go_sem, c2, ivs_length, ln]
  cases c3 : decide (a.il.length = b.il.length)
  · have : ¬ a.il = b.il := fun e => by rw [e] at c3; simp at c3
    simp only [go_sem, c3, this]
  simp only [go_sem, c3, lvs_length, ln]
  cases c4 : decide (a.ll.length = b.ll.length)
  · have : ¬ a.ll = b.ll := fun e => by rw [e] at c4; simp at c4
    simp only [go_sem, c4, this]
  simp only [go_sem, c4]
  have qS : (a.ol.length = b.ol.length) := of_decide_eq_true c2
  refine w_loop (fun i => i ≤ a.ol.length ∧ a.ol.take i = b.ol.take i) (fun i => [(5, .int .i64 i), (2, .ip (bvC a)), (3, .ip (bvC b))]) (fun _ => σ) (fun i => a.ol.length - i) 0 ⟨Nat.zero_le _, rfl⟩ ?_ rfl ?_
  · simp only [go_sem, bvC]
    rfl
  rintro i ⟨hi, hp⟩
  rcases Nat.lt_or_ge i a.ol.length with h | h
  · have h' : i < b.ol.length := qS ▸ h
    have hw : IntKind.i64.wrap ((i : Int) + 1) = ((i + 1 : Nat) : Int) := wrap_ok (by omega) (by omega)
    simp only [go_sem, bvC, svs_length, h]
    refine w_walk2 [] [0, 1, 2, 3, 4, 5, 6, 7, 8, 9, 10] [47, 48, 49, 50, 51, 52, 53, 54, 55, 56, 57] [0, 1, 0, 7, 15, 0, 32, 0, 224, 480, 1023] rfl rfl rfl rfl ?_
    simp only [go_sem, bvC, svs_length, h, h', svs_getD h, svs_getD h']
    by_cases hx : a.ol[i] = b.ol[i]
    · simp only [go_sem, mk, hx, strEq_dec]
      refine l_next (i + 1) ⟨h, ?_⟩ (by omega) ?_ rfl
      · rw [List.take_succ_eq_append_getElem h, List.take_succ_eq_append_getElem h', hp, hx]
      · simp only [go_sem, bvC, hw]
    · have hE : cellsEq (svC a.ol[i]) (svC b.ol[i]) = false := by rw [eqsS, decide_eq_false hx]
      simp only [go_sem, mk, svC] at hE
      simp only [go_sem, mk, hE]
      refine l_ret ?_
      have : ¬ a.ol = b.ol := fun e => hx (by simp only [e])
      simp only [go_sem, this]
  have hn : ¬ (i < a.ol.length) := by omega
  have dS : a.ol = b.ol := by rwa [List.take_of_length_le h, List.take_of_length_le (qS ▸ h)] at hp
  simp only [go_sem, bvC, svs_length, hn]
  refine l_exit ?_
  have eS : decide (a.ol = b.ol) = true := decide_eq_true dS
  simp only [go_sem, eS]
  clear hn h hp hi
  have qI : (a.il.length = b.il.length) := of_decide_eq_true c3
  refine w_loop (fun i => i ≤ a.il.length ∧ a.il.take i = b.il.take i) (fun i => [(6, .int .i64 i), (2, .ip (bvC a)), (3, .ip (bvC b))]) (fun _ => σ) (fun i => a.il.length - i) 0 ⟨Nat.zero_le _, rfl⟩ ?_ rfl ?_
  · simp only [go_sem, bvC]
    rfl
  rintro i ⟨hi, hp⟩
  rcases Nat.lt_or_ge i a.il.length with h | h
  · have h' : i < b.il.length := qI ▸ h
    have hw : IntKind.i64.wrap ((i : Int) + 1) = ((i + 1 : Nat) : Int) := wrap_ok (by omega) (by omega)
    simp only [go_sem, bvC, ivs_length, h]
    refine w_walk2 [] [0, 1, 2, 3, 4, 5, 6, 7, 8, 9, 10] [65, 66, 67, 68, 69, 70, 71, 72, 73, 74, 75] [0, 1, 0, 7, 15, 0, 32, 0, 224, 480, 1023] rfl rfl rfl rfl ?_
    simp only [go_sem, bvC, ivs_length, h, h', ivs_getD h, ivs_getD h']
    by_cases hx : a.il[i] = b.il[i]
    · simp only [go_sem, mk, hx, strEq_dec]
      refine l_next (i + 1) ⟨h, ?_⟩ (by omega) ?_ rfl
      · rw [List.take_succ_eq_append_getElem h, List.take_succ_eq_append_getElem h', hp, hx]
      · simp only [go_sem, bvC, hw]
    · have hE : cellsEq (ivC a.il[i]) (ivC b.il[i]) = false := by rw [eqsI, decide_eq_false hx]
      simp only [go_sem, mk, ivC] at hE
      simp only [go_sem, mk, hE]
      refine l_ret ?_
      have : ¬ a.il = b.il := fun e => hx (by simp only [e])
      simp only [go_sem, this]
  have hn : ¬ (i < a.il.length) := by omega
  have dI : a.il = b.il := by rwa [List.take_of_length_le h, List.take_of_length_le (qI ▸ h)] at hp
  simp only [go_sem, bvC, ivs_length, hn]
  refine l_exit ?_
  have eI : decide (a.il = b.il) = true := decide_eq_true dI
  simp only [go_sem, eI]
  clear hn h hp hi
  have qL : (a.ll.length = b.ll.length) := of_decide_eq_true c4
  refine w_loop (fun i => i ≤ a.ll.length ∧ a.ll.take i = b.ll.take i) (fun i => [(7, .int .i64 i), (2, .ip (bvC a)), (3, .ip (bvC b))]) (fun _ => σ) (fun i => a.ll.length - i) 0 ⟨Nat.zero_le _, rfl⟩ ?_ rfl ?_
  · simp only [go_sem, bvC]
    rfl
  rintro i ⟨hi, hp⟩
  rcases Nat.lt_or_ge i a.ll.length with h | h
  · have h' : i < b.ll.length := qL ▸ h
    have hw : IntKind.i64.wrap ((i : Int) + 1) = ((i + 1 : Nat) : Int) := wrap_ok (by omega) (by omega)
    simp only [go_sem, bvC, lvs_length, h]
    refine w_walk2 [] [0, 1, 2, 3, 4, 5, 6, 7, 8, 9, 10] [83, 84, 85, 86, 87, 88, 89, 90, 91, 92, 93] [0, 1, 0, 7, 15, 0, 32, 0, 224, 480, 1023] rfl rfl rfl rfl ?_
    simp only [go_sem, bvC, lvs_length, h, h', lvs_getD h, lvs_getD h']
    by_cases hx : a.ll[i] = b.ll[i]
    · simp only [go_sem, mk, hx, strEq_dec]
      refine l_next (i + 1) ⟨h, ?_⟩ (by omega) ?_ rfl
      · rw [List.take_succ_eq_append_getElem h, List.take_succ_eq_append_getElem h', hp, hx]
      · simp only [go_sem, bvC, hw]
    · have hE : cellsEq (lvC a.ll[i]) (lvC b.ll[i]) = false := by rw [eqsL, decide_eq_false hx]
      simp only [go_sem, mk, lvC] at hE
      simp only [go_sem, mk, hE]
      refine l_ret ?_
      have : ¬ a.ll = b.ll := fun e => hx (by simp only [e])
      simp only [go_sem, this]
  have hn : ¬ (i < a.ll.length) := by omega
  have dL : a.ll = b.ll := by rwa [List.take_of_length_le h, List.take_of_length_le (qL ▸ h)] at hp
  simp only [go_sem, bvC, lvs_length, hn]
  refine l_exit ?_
  have eL : decide (a.ll = b.ll) = true := decide_eq_true dL
  simp only [go_sem, eL]

theorem c_bsame (a b : BV) (h1 : a.ol.length ≤ lim) (h2 : a.il.length ≤ lim) (h3 : a.ll.length ≤ lim) (σ : St) : VCalls Try.prog 20 [bkv a, bkv b] σ fun r σ' => r = .bool (sameB a b) ∧ σ' = σ := by
  refine vcalls_intro (C := cfg Try.prog [] [] []) (cfg_ok mixed) Try.func20 rfl rfl rfl rfl rfl ?_
  unfold sameB
  simp only [go_sem, bkv, bvC]
  cases c1 : a.next == b.next
  · simp only [go_sem, c1]
  simp only [go_sem, c1]
  refine vgo_call rfl rfl rfl rfl (c_equalS _ _ _ _ _ _ h1 σ) ?_
  cases c2 : decide (a.ol = b.ol)
  · simp only [go_sem]
  simp only [go_sem]
  refine vgo_call rfl rfl rfl rfl (c_equalI _ _ _ _ _ _ h2 σ) ?_
  cases c3 : decide (a.il = b.il)
  · simp only [go_sem]
  simp only [go_sem]
  refine vgo_call rfl rfl rfl rfl (c_equalL _ _ _ _ _ _ h3 σ) ?_
  simp only [go_sem]

end Go.VL
