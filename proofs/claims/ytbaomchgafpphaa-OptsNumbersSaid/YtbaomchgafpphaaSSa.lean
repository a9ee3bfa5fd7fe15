/- Contracts of this program's functions over values, joined texts. Conditions: none. -/
import Derived.Test.YtbaomchgafpphaaVVc
import Derived.Test.YtbaomchgafpphaaProg
set_option linter.unusedVariables false
set_option linter.unusedSimpArgs false
/- The types of this program, as the value-level words want them. Conditions: none (facts about the given program, by the kernel's own reckoning). -/
namespace Go.VL

theorem ty0 : tyOf Go.Proofs.Try.prog 0 = { known := true, bytes := 0, zero := [Value.tuple ([]).toArray] } := by kernel_rfl
theorem ty1 : tyOf Go.Proofs.Try.prog 1 = { known := true, zero := [Value.nilFunc], d := TD.func } := by kernel_rfl
theorem ty2 : tyOf Go.Proofs.Try.prog 2 = { known := true, zero := [Value.int IntKind.i64 (0)], d := TD.int } := by kernel_rfl
theorem ty3 : tyOf Go.Proofs.Try.prog 3 = { known := true, zero := [Value.int IntKind.i64 (0)], d := TD.int } := by kernel_rfl
theorem ty4 : tyOf Go.Proofs.Try.prog 4 = { known := true, bytes := 1, zero := [Value.bool false], d := TD.bool } := by kernel_rfl
theorem ty5 : tyOf Go.Proofs.Try.prog 5 = { known := true, bytes := 1, zero := [Value.int IntKind.u8 (0)], d := TD.int } := by kernel_rfl
theorem ty6 : tyOf Go.Proofs.Try.prog 6 = { known := true, bytes := 1, zero := [Value.int IntKind.u8 (0)], d := TD.int } := by kernel_rfl
theorem ty7 : tyOf Go.Proofs.Try.prog 7 = { known := true, agg := true, size := 4, bytes := 24, zero := [Value.int IntKind.i64 (0), Value.int IntKind.i64 (0), Value.bool false, Value.int IntKind.u8 (0)], d := TD.struct [(0, 2), (1, 3), (2, 4), (3, 6)], eqs := true, eqk := [PK.int IntKind.i64, PK.int IntKind.i64, PK.bool, PK.int IntKind.u8] } := by kernel_rfl
theorem ty8 : tyOf Go.Proofs.Try.prog 8 = { known := true, agg := true, size := 4, bytes := 24, zero := [Value.int IntKind.i64 (0), Value.int IntKind.i64 (0), Value.bool false, Value.int IntKind.u8 (0)], d := TD.struct [(0, 2), (1, 3), (2, 4), (3, 6)], eqs := true, eqk := [PK.int IntKind.i64, PK.int IntKind.i64, PK.bool, PK.int IntKind.u8] } := by kernel_rfl
theorem ty9 : tyOf Go.Proofs.Try.prog 9 = { known := true, bytes := 16, zero := [Value.string ⟨#[]⟩], d := TD.str } := by kernel_rfl
theorem ty10 : tyOf Go.Proofs.Try.prog 10 = { known := true, bytes := 16, zero := [Value.string ⟨#[]⟩], d := TD.str } := by kernel_rfl
theorem ty11 : tyOf Go.Proofs.Try.prog 11 = { known := true, bytes := 16, zero := [Value.string ⟨#[]⟩], d := TD.str } := by kernel_rfl
theorem ty12 : tyOf Go.Proofs.Try.prog 12 = { known := true, zero := [Value.int IntKind.u64 (0)], d := TD.int } := by kernel_rfl
theorem ty13 : tyOf Go.Proofs.Try.prog 13 = { known := true, agg := true, size := 2, bytes := 24, zero := [Value.string ⟨#[]⟩, Value.int IntKind.u64 (0)], d := TD.struct [(0, 9), (1, 12)] } := by kernel_rfl
theorem ty14 : tyOf Go.Proofs.Try.prog 14 = { known := true, agg := true, size := 2, bytes := 24, zero := [Value.string ⟨#[]⟩, Value.int IntKind.u64 (0)], d := TD.struct [(0, 9), (1, 12)] } := by kernel_rfl
theorem ty15 : tyOf Go.Proofs.Try.prog 15 = { known := true, zero := [Value.pointer none], d := TD.ptr } := by kernel_rfl
theorem ty16 : tyOf Go.Proofs.Try.prog 16 = { known := true, zero := [Value.pointer none], d := TD.ptr } := by kernel_rfl
theorem ty17 : tyOf Go.Proofs.Try.prog 17 = { known := true, zero := [Value.pointer none], d := TD.ptr } := by kernel_rfl
theorem ty18 : tyOf Go.Proofs.Try.prog 18 = { known := true, agg := true, zero := [Value.pointer none], d := TD.struct [(0, 17)] } := by kernel_rfl
theorem ty19 : tyOf Go.Proofs.Try.prog 19 = { known := true, agg := true, zero := [Value.pointer none], d := TD.struct [(0, 17)] } := by kernel_rfl
theorem ty20 : tyOf Go.Proofs.Try.prog 20 = { known := true, bytes := 16, zero := [Value.nilIface], d := TD.iface } := by kernel_rfl
theorem ty21 : tyOf Go.Proofs.Try.prog 21 = { known := true, bytes := 4, zero := [Value.int IntKind.i32 (0)], d := TD.int } := by kernel_rfl
theorem ty22 : tyOf Go.Proofs.Try.prog 22 = { known := true, bytes := 24, zero := [Value.slice none 0 0], d := TD.slice 38 } := by kernel_rfl
theorem ty23 : tyOf Go.Proofs.Try.prog 23 = { known := true, bytes := 24, zero := [Value.slice none 0 0], d := TD.slice 5 } := by kernel_rfl
theorem ty24 : tyOf Go.Proofs.Try.prog 24 = { known := true, bytes := 4, zero := [Value.int IntKind.u32 (0)], d := TD.int } := by kernel_rfl
theorem ty25 : tyOf Go.Proofs.Try.prog 25 = { known := true, zero := [Value.nilFunc], d := TD.func } := by kernel_rfl
theorem ty26 : tyOf Go.Proofs.Try.prog 26 = { known := true, zero := [Value.nilFunc], d := TD.func } := by kernel_rfl
theorem ty27 : tyOf Go.Proofs.Try.prog 27 = { known := true, zero := [Value.int IntKind.i64 (0)], d := TD.int } := by kernel_rfl
theorem ty28 : tyOf Go.Proofs.Try.prog 28 = { known := true, bytes := 0, zero := [Value.tuple ([Value.slice none 0 0, Value.int IntKind.i64 (0)]).toArray] } := by kernel_rfl
theorem ty29 : tyOf Go.Proofs.Try.prog 29 = { known := true, zero := [Value.nilFunc], d := TD.func } := by kernel_rfl
theorem ty30 : tyOf Go.Proofs.Try.prog 30 = { known := true, bytes := 0, zero := [Value.tuple ([Value.slice none 0 0, Value.int IntKind.i64 (0)]).toArray] } := by kernel_rfl
theorem ty31 : tyOf Go.Proofs.Try.prog 31 = { known := true, zero := [Value.nilFunc], d := TD.func } := by kernel_rfl
theorem ty32 : tyOf Go.Proofs.Try.prog 32 = { known := true, zero := [Value.nilFunc], d := TD.func } := by kernel_rfl
theorem ty33 : tyOf Go.Proofs.Try.prog 33 = { known := true, zero := [Value.nilFunc], d := TD.func } := by kernel_rfl
theorem ty34 : tyOf Go.Proofs.Try.prog 34 = { known := true, zero := [Value.nilFunc], d := TD.func } := by kernel_rfl
theorem ty35 : tyOf Go.Proofs.Try.prog 35 = { known := true, zero := [Value.nilFunc], d := TD.func } := by kernel_rfl
theorem ty36 : tyOf Go.Proofs.Try.prog 36 = { known := true, zero := [Value.nilFunc], d := TD.func } := by kernel_rfl
theorem ty37 : tyOf Go.Proofs.Try.prog 37 = { known := true, agg := true, size := 2, bytes := 32, zero := [Value.int IntKind.u8 (0), Value.slice none 0 0], d := TD.struct [(0, 5), (1, 23)] } := by kernel_rfl
theorem ty38 : tyOf Go.Proofs.Try.prog 38 = { known := true, agg := true, size := 2, bytes := 32, zero := [Value.int IntKind.u8 (0), Value.slice none 0 0], d := TD.struct [(0, 5), (1, 23)] } := by kernel_rfl
theorem ty39 : tyOf Go.Proofs.Try.prog 39 = { known := true, agg := true, size := 5, bytes := 64, zero := [Value.slice none 0 0, Value.int IntKind.u8 (0), Value.int IntKind.u8 (0), Value.int IntKind.u8 (0), Value.slice none 0 0], d := TD.struct [(0, 22), (1, 5), (2, 5), (3, 38)] } := by kernel_rfl
theorem ty40 : tyOf Go.Proofs.Try.prog 40 = { known := true, agg := true, size := 5, bytes := 64, zero := [Value.slice none 0 0, Value.int IntKind.u8 (0), Value.int IntKind.u8 (0), Value.int IntKind.u8 (0), Value.slice none 0 0], d := TD.struct [(0, 22), (1, 5), (2, 5), (3, 38)] } := by kernel_rfl
theorem ty41 : tyOf Go.Proofs.Try.prog 41 = { known := true, zero := [Value.nilFunc], d := TD.func } := by kernel_rfl
theorem ty42 : tyOf Go.Proofs.Try.prog 42 = { known := true, zero := [Value.nilFunc], d := TD.func } := by kernel_rfl
theorem ty43 : tyOf Go.Proofs.Try.prog 43 = { known := true, zero := [Value.nilFunc], d := TD.func } := by kernel_rfl
theorem ty44 : tyOf Go.Proofs.Try.prog 44 = { known := true, zero := [Value.nilFunc], d := TD.func } := by kernel_rfl
theorem ty45 : tyOf Go.Proofs.Try.prog 45 = { known := true, zero := [Value.nilFunc], d := TD.func } := by kernel_rfl
theorem ty46 : tyOf Go.Proofs.Try.prog 46 = { known := true, agg := true, size := 5, bytes := 20, zero := [Value.bool false, Value.int IntKind.u32 (0), Value.int IntKind.u32 (0), Value.int IntKind.u32 (0), Value.int IntKind.u32 (0)], d := TD.struct [(0, 4), (1, 24), (2, 24), (3, 24), (4, 24)], eqs := true, eqk := [PK.bool, PK.int IntKind.u32, PK.int IntKind.u32, PK.int IntKind.u32, PK.int IntKind.u32] } := by kernel_rfl
theorem ty47 : tyOf Go.Proofs.Try.prog 47 = { known := true, agg := true, size := 5, bytes := 20, zero := [Value.bool false, Value.int IntKind.u32 (0), Value.int IntKind.u32 (0), Value.int IntKind.u32 (0), Value.int IntKind.u32 (0)], d := TD.struct [(0, 4), (1, 24), (2, 24), (3, 24), (4, 24)], eqs := true, eqk := [PK.bool, PK.int IntKind.u32, PK.int IntKind.u32, PK.int IntKind.u32, PK.int IntKind.u32] } := by kernel_rfl
theorem ty48 : tyOf Go.Proofs.Try.prog 48 = { known := true, bytes := 0, zero := [Value.tuple ([Value.int IntKind.u8 (0), Value.slice none 0 0]).toArray] } := by kernel_rfl
theorem ty49 : tyOf Go.Proofs.Try.prog 49 = { known := true, zero := [Value.nilFunc], d := TD.func } := by kernel_rfl
theorem ty50 : tyOf Go.Proofs.Try.prog 50 = { known := true, bytes := 0, zero := [Value.tuple ([Value.int IntKind.u32 (0), Value.bool false]).toArray] } := by kernel_rfl
theorem ty51 : tyOf Go.Proofs.Try.prog 51 = { known := true, zero := [Value.nilFunc], d := TD.func } := by kernel_rfl
theorem ty52 : tyOf Go.Proofs.Try.prog 52 = { known := true, zero := [Value.nilFunc], d := TD.func } := by kernel_rfl
theorem ty53 : tyOf Go.Proofs.Try.prog 53 = { known := true, agg := true, size := 5, bytes := 24, zero := [Value.int IntKind.i64 (0), Value.int IntKind.u32 (0), Value.int IntKind.u32 (0), Value.bool false, Value.bool false], d := TD.struct [(0, 3), (1, 24), (2, 24), (3, 4), (4, 4)], eqs := true, eqk := [PK.int IntKind.i64, PK.int IntKind.u32, PK.int IntKind.u32, PK.bool, PK.bool] } := by kernel_rfl
theorem ty54 : tyOf Go.Proofs.Try.prog 54 = { known := true, agg := true, size := 5, bytes := 24, zero := [Value.int IntKind.i64 (0), Value.int IntKind.u32 (0), Value.int IntKind.u32 (0), Value.bool false, Value.bool false], d := TD.struct [(0, 3), (1, 24), (2, 24), (3, 4), (4, 4)], eqs := true, eqk := [PK.int IntKind.i64, PK.int IntKind.u32, PK.int IntKind.u32, PK.bool, PK.bool] } := by kernel_rfl
theorem ty55 : tyOf Go.Proofs.Try.prog 55 = { known := true, zero := [Value.nilFunc], d := TD.func } := by kernel_rfl
theorem ty56 : tyOf Go.Proofs.Try.prog 56 = { known := true, zero := [Value.nilFunc], d := TD.func } := by kernel_rfl
theorem ty57 : tyOf Go.Proofs.Try.prog 57 = { known := true, bytes := 0, zero := [Value.tuple ([Value.agg (List.toArray [Value.int IntKind.u8 (0), Value.slice none 0 0]), Value.bool false]).toArray] } := by kernel_rfl
theorem ty58 : tyOf Go.Proofs.Try.prog 58 = { known := true, zero := [Value.nilFunc], d := TD.func } := by kernel_rfl
theorem ty59 : tyOf Go.Proofs.Try.prog 59 = { known := true, zero := [Value.nilFunc], d := TD.func } := by kernel_rfl
theorem ty60 : tyOf Go.Proofs.Try.prog 60 = { known := true, zero := [Value.nilFunc], d := TD.func } := by kernel_rfl
theorem ty61 : tyOf Go.Proofs.Try.prog 61 = { known := true, bytes := 0, zero := [Value.tuple ([Value.slice none 0 0, Value.bool false]).toArray] } := by kernel_rfl
theorem ty62 : tyOf Go.Proofs.Try.prog 62 = { known := true, zero := [Value.nilFunc], d := TD.func } := by kernel_rfl
theorem ty63 : tyOf Go.Proofs.Try.prog 63 = { known := true, zero := [Value.nilFunc], d := TD.func } := by kernel_rfl
theorem ty64 : tyOf Go.Proofs.Try.prog 64 = { known := true, zero := [Value.nilFunc], d := TD.func } := by kernel_rfl
theorem ty65 : tyOf Go.Proofs.Try.prog 65 = { known := true, zero := [Value.nilFunc], d := TD.func } := by kernel_rfl
theorem ty66 : tyOf Go.Proofs.Try.prog 66 = { known := true, zero := [Value.nilFunc], d := TD.func } := by kernel_rfl
theorem ty67 : tyOf Go.Proofs.Try.prog 67 = { known := true, zero := [Value.int IntKind.u64 (0)], d := TD.int } := by kernel_rfl
theorem ty68 : tyOf Go.Proofs.Try.prog 68 = { known := true, zero := [Value.nilFunc], d := TD.func } := by kernel_rfl
theorem ty69 : tyOf Go.Proofs.Try.prog 69 = { known := true, zero := [Value.nilFunc], d := TD.func } := by kernel_rfl
theorem ty70 : tyOf Go.Proofs.Try.prog 70 = { known := true, zero := [Value.nilFunc], d := TD.func } := by kernel_rfl
theorem ty71 : tyOf Go.Proofs.Try.prog 71 = { known := true, zero := [Value.nilFunc], d := TD.func } := by kernel_rfl
theorem ty72 : tyOf Go.Proofs.Try.prog 72 = { known := true, bytes := 0, zero := [Value.tuple ([Value.agg (List.toArray [Value.int IntKind.u8 (0), Value.slice none 0 0]), Value.int IntKind.i64 (0)]).toArray] } := by kernel_rfl
theorem ty73 : tyOf Go.Proofs.Try.prog 73 = { known := true, zero := [Value.nilFunc], d := TD.func } := by kernel_rfl
theorem ty74 : tyOf Go.Proofs.Try.prog 74 = { known := true, zero := [Value.nilFunc], d := TD.func } := by kernel_rfl
theorem ty75 : tyOf Go.Proofs.Try.prog 75 = { known := true, agg := true, size := 3, bytes := 24, zero := [Value.int IntKind.i64 (0), Value.nilFunc, Value.int IntKind.u32 (0)], d := TD.struct [(0, 3), (1, 74), (2, 24)] } := by kernel_rfl
theorem ty76 : tyOf Go.Proofs.Try.prog 76 = { known := true, agg := true, size := 3, bytes := 24, zero := [Value.int IntKind.i64 (0), Value.nilFunc, Value.int IntKind.u32 (0)], d := TD.struct [(0, 3), (1, 74), (2, 24)] } := by kernel_rfl
theorem ty77 : tyOf Go.Proofs.Try.prog 77 = { known := true, bytes := 0, zero := [Value.tuple ([Value.agg (List.toArray [Value.int IntKind.i64 (0), Value.nilFunc, Value.int IntKind.u32 (0)]), Value.bool false]).toArray] } := by kernel_rfl
theorem ty78 : tyOf Go.Proofs.Try.prog 78 = { known := true, zero := [Value.nilFunc], d := TD.func } := by kernel_rfl
theorem ty79 : tyOf Go.Proofs.Try.prog 79 = { known := true, zero := [Value.nilFunc], d := TD.func } := by kernel_rfl
theorem ty80 : tyOf Go.Proofs.Try.prog 80 = { known := true, zero := [Value.nilFunc], d := TD.func } := by kernel_rfl
theorem ty81 : tyOf Go.Proofs.Try.prog 81 = { known := true, zero := [Value.nilFunc], d := TD.func } := by kernel_rfl
theorem ty82 : tyOf Go.Proofs.Try.prog 82 = { known := true, zero := [Value.nilFunc], d := TD.func } := by kernel_rfl
theorem ty83 : tyOf Go.Proofs.Try.prog 83 = { known := true, zero := [Value.nilFunc], d := TD.func } := by kernel_rfl
theorem ty84 : tyOf Go.Proofs.Try.prog 84 = { known := true, zero := [Value.nilFunc], d := TD.func } := by kernel_rfl
theorem ty85 : tyOf Go.Proofs.Try.prog 85 = { known := true, zero := [Value.map none], d := TD.map 5 76 } := by kernel_rfl
theorem ty86 : tyOf Go.Proofs.Try.prog 86 = { known := true, zero := [Value.nilFunc], d := TD.func } := by kernel_rfl
theorem ty87 : tyOf Go.Proofs.Try.prog 87 = { known := true, zero := [Value.nilFunc], d := TD.func } := by kernel_rfl
theorem ty88 : tyOf Go.Proofs.Try.prog 88 = { known := true, agg := true, size := 4, bytes := 40, zero := [Value.pointer none, Value.pointer none, Value.pointer none, Value.string ⟨#[]⟩], d := TD.struct [(0, 17), (1, 17), (2, 17), (3, 9)] } := by kernel_rfl
theorem ty89 : tyOf Go.Proofs.Try.prog 89 = { known := true, agg := true, size := 4, bytes := 40, zero := [Value.pointer none, Value.pointer none, Value.pointer none, Value.string ⟨#[]⟩], d := TD.struct [(0, 17), (1, 17), (2, 17), (3, 9)] } := by kernel_rfl
theorem ty90 : tyOf Go.Proofs.Try.prog 90 = { known := true, agg := true, size := 0, bytes := 0, d := TD.array 0 16 } := by kernel_rfl
theorem ty91 : tyOf Go.Proofs.Try.prog 91 = { known := true, agg := true, size := 0, bytes := 0, d := TD.struct [(0, 90)] } := by kernel_rfl
theorem ty92 : tyOf Go.Proofs.Try.prog 92 = { known := true, agg := true, size := 0, bytes := 0, d := TD.struct [(0, 90)] } := by kernel_rfl
theorem ty93 : tyOf Go.Proofs.Try.prog 93 = { known := true, zero := [Value.nilFunc], d := TD.func } := by kernel_rfl
theorem ty94 : tyOf Go.Proofs.Try.prog 94 = { known := true, bytes := 1, zero := [Value.int IntKind.u8 (0)], d := TD.int } := by kernel_rfl
theorem ty95 : tyOf Go.Proofs.Try.prog 95 = { known := true, bytes := 1, zero := [Value.int IntKind.u8 (0)], d := TD.int } := by kernel_rfl
theorem ty96 : tyOf Go.Proofs.Try.prog 96 = { known := true, zero := [Value.nilFunc], d := TD.func } := by kernel_rfl
theorem ty97 : tyOf Go.Proofs.Try.prog 97 = { known := true, zero := [Value.pointer none], d := TD.ptr } := by kernel_rfl
theorem ty98 : tyOf Go.Proofs.Try.prog 98 = { known := true, bytes := 4, zero := [Value.int IntKind.i32 (0)], d := TD.int } := by kernel_rfl
theorem ty99 : tyOf Go.Proofs.Try.prog 99 = { known := true, bytes := 4, zero := [Value.int IntKind.i32 (0)], d := TD.int } := by kernel_rfl
theorem ty100 : tyOf Go.Proofs.Try.prog 100 = { known := true, agg := true, size := 11, bytes := 48, zero := [Value.int IntKind.u64 (0), Value.int IntKind.u64 (0), Value.int IntKind.u32 (0), Value.int IntKind.u8 (0), Value.int IntKind.u8 (0), Value.int IntKind.u8 (0), Value.int IntKind.u8 (0), Value.nilFunc, Value.pointer none, Value.int IntKind.i32 (0), Value.int IntKind.i32 (0)], d := TD.struct [(0, 12), (1, 12), (2, 24), (3, 94), (4, 5), (5, 5), (6, 95), (7, 96), (8, 97), (9, 98), (10, 99)] } := by kernel_rfl
theorem ty101 : tyOf Go.Proofs.Try.prog 101 = { known := true, agg := true, size := 11, bytes := 48, zero := [Value.int IntKind.u64 (0), Value.int IntKind.u64 (0), Value.int IntKind.u32 (0), Value.int IntKind.u8 (0), Value.int IntKind.u8 (0), Value.int IntKind.u8 (0), Value.int IntKind.u8 (0), Value.nilFunc, Value.pointer none, Value.int IntKind.i32 (0), Value.int IntKind.i32 (0)], d := TD.struct [(0, 12), (1, 12), (2, 24), (3, 94), (4, 5), (5, 5), (6, 95), (7, 96), (8, 97), (9, 98), (10, 99)] } := by kernel_rfl
theorem ty102 : tyOf Go.Proofs.Try.prog 102 = { known := true, zero := [Value.pointer none] } := by kernel_rfl
theorem rs3 : Go.Proofs.Try.f3.results.toList = [.tmp 6] := rfl
theorem rs4 : Go.Proofs.Try.f4.results.toList = [.tmp 4] := rfl
theorem rs5 : Go.Proofs.Try.f5.results.toList = [.tmp 2] := rfl
theorem rs6 : Go.Proofs.Try.f6.results.toList = [.tmp 6] := rfl
theorem rs7 : Go.Proofs.Try.f7.results.toList = [.tmp 6] := rfl
theorem rs8 : Go.Proofs.Try.f8.results.toList = [.tmp 6] := rfl
theorem rs9 : Go.Proofs.Try.f9.results.toList = [.tmp 6] := rfl
theorem rs10 : Go.Proofs.Try.f10.results.toList = [.tmp 2] := rfl
theorem rs11 : Go.Proofs.Try.f11.results.toList = [.tmp 4] := rfl
theorem rs12 : Go.Proofs.Try.f12.results.toList = [.tmp 6] := rfl
theorem rs13 : Go.Proofs.Try.f13.results.toList = [.tmp 0] := rfl
theorem rs14 : Go.Proofs.Try.f14.results.toList = [.tmp 2] := rfl
theorem rs15 : Go.Proofs.Try.f15.results.toList = [.tmp 2, .tmp 3] := rfl
theorem rs16 : Go.Proofs.Try.f16.results.toList = [.cell 2  22, .cell 3  27] := rfl
theorem rs17 : Go.Proofs.Try.f17.results.toList = [.tmp 4] := rfl
theorem rs18 : Go.Proofs.Try.f18.results.toList = [.tmp 2] := rfl
theorem rs19 : Go.Proofs.Try.f19.results.toList = [.tmp 2] := rfl
theorem rs20 : Go.Proofs.Try.f20.results.toList = [.tmp 4] := rfl
theorem rs21 : Go.Proofs.Try.f21.results.toList = [.tmp 4] := rfl
theorem rs22 : Go.Proofs.Try.f22.results.toList = [.tmp 4] := rfl
theorem rs23 : Go.Proofs.Try.f23.results.toList = [.tmp 4] := rfl
theorem rs24 : Go.Proofs.Try.f24.results.toList = [.tmp 0] := rfl
theorem rs25 : Go.Proofs.Try.f25.results.toList = [.tmp 6, .tmp 7] := rfl
theorem rs26 : Go.Proofs.Try.f26.results.toList = [.tmp 6, .tmp 7] := rfl
theorem rs27 : Go.Proofs.Try.f27.results.toList = [.tmp 2, .tmp 3] := rfl
theorem rs28 : Go.Proofs.Try.f28.results.toList = [.tmp 2, .tmp 3] := rfl
theorem rs29 : Go.Proofs.Try.f29.results.toList = [.tmp 2] := rfl
theorem rs30 : Go.Proofs.Try.f30.results.toList = [.tmp 2] := rfl
theorem rs31 : Go.Proofs.Try.f31.results.toList = [.cell 2  54] := rfl
theorem rs32 : Go.Proofs.Try.f32.results.toList = [.cell 2  54] := rfl
theorem rs33 : Go.Proofs.Try.f33.results.toList = [.cell 4  38, .tmp 5] := rfl
theorem rs34 : Go.Proofs.Try.f34.results.toList = [.tmp 4] := rfl
theorem rs35 : Go.Proofs.Try.f35.results.toList = [.tmp 4] := rfl
theorem rs36 : Go.Proofs.Try.f36.results.toList = [.tmp 4] := rfl
theorem rs37 : Go.Proofs.Try.f37.results.toList = [.tmp 2] := rfl
theorem rs38 : Go.Proofs.Try.f38.results.toList = [.tmp 8, .tmp 9] := rfl
theorem rs39 : Go.Proofs.Try.f39.results.toList = [.cell 4  38, .tmp 5] := rfl
theorem rs40 : Go.Proofs.Try.f40.results.toList = [.tmp 4] := rfl
theorem rs41 : Go.Proofs.Try.f41.results.toList = [.tmp 2] := rfl
theorem rs42 : Go.Proofs.Try.f42.results.toList = [.tmp 4] := rfl
theorem rs43 : Go.Proofs.Try.f43.results.toList = [.tmp 2] := rfl
theorem rs44 : Go.Proofs.Try.f44.results.toList = [.tmp 2] := rfl
theorem rs45 : Go.Proofs.Try.f45.results.toList = [.cell 4  38, .tmp 5] := rfl
theorem rs46 : Go.Proofs.Try.f46.results.toList = [.cell 4  76, .tmp 5] := rfl
theorem rs47 : Go.Proofs.Try.f47.results.toList = [.cell 6  38] := rfl
theorem rs48 : Go.Proofs.Try.f48.results.toList = [.cell 4  38, .tmp 5] := rfl
theorem rs49 : Go.Proofs.Try.f49.results.toList = [.tmp 2] := rfl
theorem rs50 : Go.Proofs.Try.f50.results.toList = [.tmp 4] := rfl
theorem rs51 : Go.Proofs.Try.f51.results.toList = [.tmp 2] := rfl
theorem rs52 : Go.Proofs.Try.f52.results.toList = [.tmp 4, .tmp 5] := rfl
theorem rs53 : Go.Proofs.Try.f53.results.toList = [.tmp 4, .tmp 5] := rfl
theorem rs54 : Go.Proofs.Try.f54.results.toList = [.tmp 3] := rfl
theorem rs55 : Go.Proofs.Try.f55.results.toList = [.tmp 6] := rfl
theorem rs56 : Go.Proofs.Try.f56.results.toList = [.tmp 4] := rfl
theorem rs57 : Go.Proofs.Try.f57.results.toList = [.tmp 4] := rfl
theorem rs58 : Go.Proofs.Try.f58.results.toList = [] := rfl
theorem rs59 : Go.Proofs.Try.f59.results.toList = [.tmp 3] := rfl
theorem rs60 : Go.Proofs.Try.f60.results.toList = [.tmp 2] := rfl
theorem rs61 : Go.Proofs.Try.f61.results.toList = [.tmp 3] := rfl
theorem rs62 : Go.Proofs.Try.f62.results.toList = [.tmp 3] := rfl
theorem rs63 : Go.Proofs.Try.f63.results.toList = [.tmp 2] := rfl
theorem rs64 : Go.Proofs.Try.f64.results.toList = [.tmp 2] := rfl
theorem rs65 : Go.Proofs.Try.f65.results.toList = [.tmp 3] := rfl

attribute [go_sem] ty0 ty1 ty2 ty3 ty4 ty5 ty6 ty7 ty8 ty9 ty10 ty11 ty12 ty13 ty14 ty15 ty16 ty17 ty18 ty19 ty20 ty21 ty22 ty23 ty24 ty25 ty26 ty27 ty28 ty29 ty30 ty31 ty32 ty33 ty34 ty35 ty36 ty37 ty38 ty39 ty40 ty41 ty42 ty43 ty44 ty45 ty46 ty47 ty48 ty49 ty50 ty51 ty52 ty53 ty54 ty55 ty56 ty57 ty58 ty59 ty60 ty61 ty62 ty63 ty64 ty65 ty66 ty67 ty68 ty69 ty70 ty71 ty72 ty73 ty74 ty75 ty76 ty77 ty78 ty79 ty80 ty81 ty82 ty83 ty84 ty85 ty86 ty87 ty88 ty89 ty90 ty91 ty92 ty93 ty94 ty95 ty96 ty97 ty98 ty99 ty100 ty101 ty102
attribute [go_sem] rs3 rs4 rs5 rs6 rs7 rs8 rs9 rs10 rs11 rs12 rs13 rs14 rs15 rs16 rs17 rs18 rs19 rs20 rs21 rs22 rs23 rs24 rs25 rs26 rs27 rs28 rs29 rs30 rs31 rs32 rs33 rs34 rs35 rs36 rs37 rs38 rs39 rs40 rs41 rs42 rs43 rs44 rs45 rs46 rs47 rs48 rs49 rs50 rs51 rs52 rs53 rs54 rs55 rs56 rs57 rs58 rs59 rs60 rs61 rs62 rs63 rs64 rs65

theorem mixed : Go.Proofs.Try.prog.follows .mixedOrders = true := by kernel_rfl

end Go.VL

/- Contracts of this program's functions, first part. Conditions: none. -/
namespace Go.VL
open Go.Proofs

theorem c_four (n : Int) (σ : St) : VCalls Try.prog 19 [.int .u32 n] σ fun r σ' => r = .sl false true 1 [.int .u8 (IntKind.u8.wrap (n.fdiv (2 ^ 24))), .int .u8 (IntKind.u8.wrap (n.fdiv (2 ^ 16))), .int .u8 (IntKind.u8.wrap (n.fdiv (2 ^ 8))), .int .u8 (IntKind.u8.wrap n)] ∧ σ' = σ := by
  refine vcalls_intro (C := cfg Try.prog [] [] []) (cfg_ok mixed) Try.func19 rfl rfl rfl rfl rfl ?_
  simp only [go_sem]

/-- Bytes, as values. -/
def bv (l : List UInt8) : List V := l.map fun b => .int .u8 b.toNat
theorem bv_length (l : List UInt8) : (bv l).length = l.length := by simp [bv]

def numStep (acc : Int) (b : UInt8) : Int := ibits .or .u32 (IntKind.u32.wrap (acc * 2 ^ 8)) (IntKind.u32.wrap b.toNat)
def num (l : List UInt8) : Int := l.foldl numStep 0

theorem bv_getD {l : List UInt8} {i : Nat} (h : i < l.length) : (bv l).getD i .undef = .int .u8 (l[i]).toNat := by simp [bv, h]
theorem num_take {l : List UInt8} {i : Nat} (h : i < l.length) : num (l.take (i + 1)) = numStep (num (l.take i)) l[i] := by
  unfold num
  rw [List.take_succ_eq_append_getElem h, List.foldl_append]
  rfl

theorem c_number (nl c : Bool) (l : List UInt8) (hl : l.length ≤ lim) (σ : St) : VCalls Try.prog 18 [.sl nl c 1 (bv l)] σ fun r σ' => r = .int .u32 (num l) ∧ σ' = σ := by
  refine vcalls_intro (C := cfg Try.prog [] [] []) (cfg_ok mixed) Try.func18 rfl rfl rfl rfl rfl ?_
  simp only [go_sem]
  refine w_loop (fun i => i ≤ l.length) (fun i => [(8, .int .i64 i), (7, .int .i64 l.length), (6, .sl nl c 1 (bv l)), (3, .int .u32 (num (l.take i)))]) (fun _ => σ) (fun i => l.length - i) 0 (Nat.zero_le _) ?_ rfl ?_
  · simp only [go_sem, bv_length, num, List.foldl_nil]
    rfl
  intro i hi
  unfold lim at hl
  rcases Nat.lt_or_ge i l.length with h | h
  · simp only [go_sem, bv_length, bv_getD h, h]
    refine l_next (i + 1) h (by omega) ?_ rfl
    have hw : IntKind.i64.wrap ((i : Int) + 1) = ((i + 1 : Nat) : Int) := wrap_ok (by omega) (by omega)
    simp only [go_sem, hw, num_take h, numStep]
  · have hn : ¬ (i < l.length) := by omega
    simp only [go_sem, bv_length, hn]
    refine l_exit ?_
    simp only [go_sem, List.take_of_length_le h]

end Go.VL

/- Contracts of this program's functions. Conditions: none. -/
namespace Go.VL
open Go.Proofs

theorem bv_getD' {l : List UInt8} {i : Nat} (h : i < l.length) : (bv l).getD i .undef = .int .u8 (l.getD i 0).toNat := by simp [bv, h]

theorem toNat_beq (a b : UInt8) : ((a.toNat : Int) == (b.toNat : Int)) = (a == b) := by
  rw [Bool.eq_iff_iff]
  simp only [beq_iff_eq]
  exact ⟨fun h => UInt8.toNat_inj.1 (by omega), fun h => by rw [h]⟩
theorem toNat_bne (a b : UInt8) : ((a.toNat : Int) != (b.toNat : Int)) = (a != b) := by
  simp only [bne, toNat_beq]

theorem take_getD {l l' : List UInt8} {i : Nat} (h : i < l.length) (h' : i < l'.length) (hp : l.take i = l'.take i) (he : l.getD i 0 = l'.getD i 0) : l.take (i + 1) = l'.take (i + 1) := by
  rw [List.take_succ_eq_append_getElem h, List.take_succ_eq_append_getElem h', hp]
  simp [h, h'] at he
  rw [he]

theorem c_row (nl c nl' c' : Bool) (l l' : List UInt8) (hl : l.length ≤ lim) (σ : St) : VCalls Try.prog 20 [.sl nl c 1 (bv l), .sl nl' c' 1 (bv l')] σ fun r σ' => r = .bool (decide (l = l')) ∧ σ' = σ := by
  refine vcalls_intro (C := cfg Try.prog [] [] []) (cfg_ok mixed) Try.func20 rfl rfl rfl rfl rfl ?_
  simp only [go_sem, bv_length]
  unfold lim at hl
  rcases Decidable.em (l.length = l'.length) with he | he
  · simp only [go_sem, he, bne_self_eq_false]
    refine w_loop (fun i => i ≤ l.length ∧ l.take i = l'.take i) (fun i => [(5, .int .i64 i), (0, .sl nl c 1 (bv l)), (1, .sl nl' c' 1 (bv l'))]) (fun _ => σ) (fun i => l.length - i) 0 ⟨Nat.zero_le _, rfl⟩ ?_ rfl ?_
    · simp only [go_sem]
      rfl
    rintro i ⟨hi, hp⟩
    rcases Nat.lt_or_ge i l.length with h | h
    · have h' : i < l'.length := he ▸ h
      simp only [go_sem, bv_length, h]
      refine w_walk [] [0, 1, 2, 3, 4, 5, 6, 7, 8] _ rfl rfl rfl ?_
      simp only [go_sem, bv_length, h, h', bv_getD' h, bv_getD' h', toNat_bne]
      by_cases hx : l.getD i 0 = l'.getD i 0
      · simp only [go_sem, hx, bne_self_eq_false]
        have hw : IntKind.i64.wrap ((i : Int) + 1) = ((i + 1 : Nat) : Int) := wrap_ok (by omega) (by omega)
        refine l_next (i + 1) ⟨h, take_getD h h' hp hx⟩ (by omega) ?_ rfl
        simp only [go_sem, hw]
      · simp only [go_sem, bne_iff_ne.2 hx]
        refine l_ret ?_
        have : ¬ l = l' := fun e => hx (by rw [e])
        simp only [go_sem, this]
    · have hn : ¬ (i < l.length) := by omega
      simp only [go_sem, bv_length, hn]
      refine l_exit ?_
      have : l = l' := by rwa [List.take_of_length_le h, List.take_of_length_le (he ▸ h)] at hp
      simp only [go_sem, this]
  · have hb : ((l.length : Int) != (l'.length : Int)) = true := by simp; omega
    have : ¬ l = l' := fun e => he (by rw [e])
    simp only [go_sem, hb, this]

end Go.VL

/- Contracts of this program's functions: options. Conditions: none. -/
namespace Go.VL
open Go.Proofs

/-- An option: its type, and its data, which may be nil, or without room behind. -/
structure OV where
  t : UInt8
  nl : Bool
  c : Bool
  d : List UInt8

def ov (o : OV) : V := .agg [.int .u8 o.t.toNat, .sl o.nl o.c 1 (bv o.d)]
def osv (l : List OV) : List V := l.map ov
theorem osv_length (l : List OV) : (osv l).length = l.length := by simp [osv]
theorem osv_getD {l : List OV} {i : Nat} (h : i < l.length) : (osv l).getD i .undef = ov l[i] := by simp [osv, h]
theorem ov_cells (o : OV) : (ov o).cells = [.int .u8 o.t.toNat, .sl o.nl o.c 1 (bv o.d)] := rfl
def eqO (a b : OV) : Bool := decide (a.d = b.d) && (a.t == b.t)

theorem c_one (a b : OV) (ha : a.d.length ≤ lim) (σ : St) : VCalls Try.prog 23 [ov a, ov b] σ fun r σ' => r = .bool (eqO a b) ∧ σ' = σ := by
  refine vcalls_intro (C := cfg Try.prog [] [] []) (cfg_ok mixed) Try.func23 rfl rfl rfl rfl rfl ?_
  simp only [ov, go_sem]
  refine vgo_call rfl rfl rfl rfl (c_row _ _ _ _ _ _ ha σ) ?_
  unfold eqO
  cases hd : decide (a.d = b.d) <;> simp only [go_sem, hd, toNat_beq, Bool.false_and]

end Go.VL

/- Contracts of this program's functions: options, second part. Conditions: none. -/
namespace Go.VL
open Go.Proofs

def smallO (o : OV) : Bool := decide (o.d.length ≤ 253)
def few (l : List OV) : Bool := decide (l.length ≤ 30) && l.all smallO

theorem ov_getD {l : List OV} {i : Nat} (h : i < l.length) : (osv l).getD i .undef = .agg [.int .u8 (l[i]).t.toNat, .sl (l[i]).nl (l[i]).c 1 (bv (l[i]).d)] := osv_getD h

theorem c_few (nl c : Bool) (l : List OV) (σ : St) : VCalls Try.prog 14 [.sl nl c 2 (osv l)] σ fun r σ' => r = .bool (few l) ∧ σ' = σ := by
  refine vcalls_intro (C := cfg Try.prog [] [] []) (cfg_ok mixed) Try.func14 rfl rfl rfl rfl rfl ?_
  simp only [go_sem]
  refine w_loop (fun i => i ≤ l.length ∧ i ≤ 30 ∧ (l.take i).all smallO = true) (fun i => [(3, .int .i64 i), (0, .sl nl c 2 (osv l))]) (fun _ => σ) (fun i => l.length - i) 0 ⟨Nat.zero_le _, Nat.zero_le _, rfl⟩ ?_ rfl ?_
  · simp only [go_sem]
    rfl
  rintro i ⟨hi, h30, hp⟩
  rcases Nat.lt_or_ge i l.length with h | h
  · simp only [go_sem, osv_length, h]
    rcases Nat.lt_or_ge i 30 with h3 | h3
    · have e3 : ¬ ((30 : Int) ≤ (i : Int)) := by omega
      simp only [go_sem, osv_length, h, e3, ov_getD h, bv_length]
      by_cases hx : (253 : Int) < ((l[i]).d.length : Int)
      · simp only [go_sem, hx]
        refine l_ret ?_
        have hf : few l = false := by
          unfold few
          have : smallO l[i] = false := by simp [smallO]; omega
          have h2 : l.all smallO = false := by
            rw [List.all_eq_false]
            exact ⟨_, List.getElem_mem h, by simp [this]⟩
          rw [h2, Bool.and_false]
        simp only [go_sem, hf]
      · simp only [go_sem, hx]
        have hw : IntKind.i64.wrap ((i : Int) + 1) = ((i + 1 : Nat) : Int) := wrap_ok (by omega) (by omega)
        refine l_next (i + 1) ⟨h, h3, ?_⟩ (by omega) ?_ rfl
        · rw [List.take_succ_eq_append_getElem h, List.all_append, hp]
          simp [smallO]; omega
        · simp only [go_sem, hw]
    · have e3 : ((30 : Int) ≤ (i : Int)) := by omega
      simp only [go_sem, osv_length, h, e3]
      refine l_ret ?_
      have hf : few l = false := by
        unfold few
        have : ¬ l.length ≤ 30 := by omega
        simp [this]
      simp only [go_sem, hf]
  · have hn : ¬ (i < l.length) := by omega
    simp only [go_sem, osv_length, hn]
    refine l_exit ?_
    have hf : few l = true := by
      unfold few
      rw [List.take_of_length_le h] at hp
      have : l.length ≤ 30 := by omega
      simp [this, hp]
    simp only [go_sem, hf]

end Go.VL

/- Contracts of this program's functions: options, third part. Conditions: none. -/
namespace Go.VL
open Go.Proofs

def same : List OV → List OV → Bool
  | [], [] => true
  | a :: l, b :: l' => eqO a b && same l l'
  | _, _ => false

theorem same_length : ∀ {l l' : List OV}, same l l' = true → l.length = l'.length
  | [], [], _ => rfl
  | a :: l, b :: l', h => by simp only [same, Bool.and_eq_true] at h; simp [same_length h.2]
theorem same_take : ∀ {l l' : List OV} {i : Nat} (h : i < l.length) (h' : i < l'.length), same (l.take (i + 1)) (l'.take (i + 1)) = (same (l.take i) (l'.take i) && eqO l[i] l'[i])
  | a :: l, b :: l', 0, _, _ => by simp [same]
  | a :: l, b :: l', i + 1, h, h' => by
    have := same_take (l := l) (l' := l') (i := i) (by simpa using h) (by simpa using h')
    simp only [List.take_succ_cons, same, this, List.getElem_cons_succ, Bool.and_assoc]
theorem same_false : ∀ {l l' : List OV} {i : Nat} (h : i < l.length) (h' : i < l'.length), eqO l[i] l'[i] = false → same l l' = false
  | a :: l, b :: l', 0, _, _, e => by simp only [List.getElem_cons_zero] at e; simp [same, e]
  | a :: l, b :: l', i + 1, h, h', e => by
    have := same_false (l := l) (l' := l') (i := i) (by simpa using h) (by simpa using h') (by simpa using e)
    simp [same, this]

theorem c_same (nl c nl' c' : Bool) (l l' : List OV) (hl : l.length ≤ lim) (hd : ∀ o ∈ l, o.d.length ≤ lim) (σ : St) : VCalls Try.prog 17 [.sl nl c 2 (osv l), .sl nl' c' 2 (osv l')] σ fun r σ' => r = .bool (same l l') ∧ σ' = σ := by
  refine vcalls_intro (C := cfg Try.prog [] [] []) (cfg_ok mixed) Try.func17 rfl rfl rfl rfl rfl ?_
  simp only [go_sem, osv_length]
  unfold lim at hl
  rcases Decidable.em (l.length = l'.length) with he | he
  · simp only [go_sem, he, bne_self_eq_false]
    refine w_loop (fun i => i ≤ l.length ∧ same (l.take i) (l'.take i) = true) (fun i => [(5, .int .i64 i), (0, .sl nl c 2 (osv l)), (1, .sl nl' c' 2 (osv l'))]) (fun _ => σ) (fun i => l.length - i) 0 ⟨Nat.zero_le _, rfl⟩ ?_ rfl ?_
    · simp only [go_sem]
      rfl
    rintro i ⟨hi, hp⟩
    rcases Nat.lt_or_ge i l.length with h | h
    · have h' : i < l'.length := he ▸ h
      simp only [go_sem, osv_length, h]
      refine w_walk [] [0, 1, 2, 3, 4, 5, 6, 7, 8, 9] _ rfl rfl rfl ?_
      simp only [go_sem, osv_length, h, h', ov_getD h, ov_getD h']
      refine vdgo_call rfl rfl rfl rfl (c_one l[i] l'[i] (hd _ (List.getElem_mem h)) σ) ?_
      cases hx : eqO l[i] l'[i]
      · simp only [go_sem]
        refine l_ret ?_
        simp only [go_sem, same_false h h' hx]
      · simp only [go_sem]
        have hw : IntKind.i64.wrap ((i : Int) + 1) = ((i + 1 : Nat) : Int) := wrap_ok (by omega) (by omega)
        refine l_next (i + 1) ⟨h, ?_⟩ (by omega) ?_ rfl
        · rw [same_take h h', hp, hx]; rfl
        · simp only [go_sem, hw]
    · have hn : ¬ (i < l.length) := by omega
      simp only [go_sem, osv_length, hn]
      refine l_exit ?_
      rw [List.take_of_length_le h, List.take_of_length_le (he ▸ h)] at hp
      simp only [go_sem, hp]
  · have hb : ((l.length : Int) != (l'.length : Int)) = true := by simp; omega
    have hf : same l l' = false := by
      cases h : same l l' with
      | false => rfl
      | true => exact absurd (same_length h) he
    simp only [go_sem, hb, hf]

end Go.VL

/- Contracts of this program's functions: options, fourth part. Conditions: none. -/
namespace Go.VL
open Go.Proofs

theorem c_rfour (n : Int) (σ : St) : VCalls Try.prog 49 [.int .u32 n] σ fun r σ' => r = .sl false true 1 [.int .u8 (IntKind.u8.wrap (IntKind.u32.wrap (n.tdiv 16777216))), .int .u8 (IntKind.u8.wrap ((IntKind.u32.wrap (n.tdiv 65536)).tmod 256)),
    .int .u8 (IntKind.u8.wrap ((IntKind.u32.wrap (n.tdiv 256)).tmod 256)), .int .u8 (IntKind.u8.wrap (n.tmod 256))] ∧ σ' = σ := by
  refine vcalls_intro (C := cfg Try.prog [] [] []) (cfg_ok mixed) Try.func49 rfl rfl rfl rfl rfl ?_
  simp only [go_sem]

def findO : List OV → UInt8 → Option OV
  | [], _ => none
  | o :: l, t => bif o.t == t then some o else findO l t
def zeroO : V := .agg [.int .u8 0, .sl true false 0 []]
def resO : Option OV → V
  | some o => .tup [ov o, .bool true]
  | none => .tup [zeroO, .bool false]

theorem findO_none {t : UInt8} : ∀ {l : List OV} {i : Nat} (h : i < l.length), findO (l.take i) t = none → (l[i].t == t) = true → findO l t = some l[i]
  | o :: l, 0, _, _, e => by simp only [List.getElem_cons_zero] at e; simp [findO, e]
  | o :: l, i + 1, h, hn, e => by
    simp only [List.take_succ_cons, findO] at hn
    cases hb : o.t == t with
    | true => rw [hb] at hn; cases hn
    | false =>
      rw [hb] at hn
      have := findO_none (l := l) (i := i) (by simpa using h) hn (by simpa using e)
      simp [findO, hb, this]
theorem findO_step {t : UInt8} : ∀ {l : List OV} {i : Nat} (h : i < l.length), findO (l.take i) t = none → (l[i].t == t) = false → findO (l.take (i + 1)) t = none
  | o :: l, 0, _, _, e => by simp only [List.getElem_cons_zero] at e; simp [findO, e]
  | o :: l, i + 1, h, hn, e => by
    simp only [List.take_succ_cons, findO] at hn ⊢
    cases hb : o.t == t with
    | true => rw [hb] at hn; cases hn
    | false =>
      rw [hb] at hn
      exact findO_step (l := l) (i := i) (by simpa using h) hn (by simpa using e)

theorem c_rfind (nl c : Bool) (l : List OV) (t : UInt8) (hl : l.length ≤ lim) (σ : St) : VCalls Try.prog 33 [.sl nl c 2 (osv l), .int .u8 t.toNat] σ fun r σ' => r = resO (findO l t) ∧ σ' = σ := by
  refine vcalls_intro (C := cfg Try.prog [] [] []) (cfg_ok mixed) Try.func33 rfl rfl rfl rfl rfl ?_
  simp only [go_sem]
  unfold lim at hl
  refine w_loop (fun i => i ≤ l.length ∧ findO (l.take i) t = none) (fun i => [(6, .int .i64 i), (0, .sl nl c 2 (osv l)), (1, .int .u8 t.toNat), (4, .cell [.int .u8 0, .sl true false 0 []])]) (fun _ => σ) (fun i => l.length - i) 0 ⟨Nat.zero_le _, rfl⟩ ?_ rfl ?_
  · simp only [go_sem]
    rfl
  rintro i ⟨hi, hp⟩
  rcases Nat.lt_or_ge i l.length with h | h
  · simp only [go_sem, osv_length, h, ov_getD h, toNat_beq]
    cases hx : (l[i]).t == t
    · simp only [go_sem]
      have hw : IntKind.i64.wrap ((i : Int) + 1) = ((i + 1 : Nat) : Int) := wrap_ok (by omega) (by omega)
      refine l_next (i + 1) ⟨h, findO_step h hp hx⟩ (by omega) ?_ rfl
      simp only [go_sem, hw]
    · simp only [go_sem, osv_length, h, ov_getD h]
      refine l_ret ?_
      simp only [go_sem, findO_none h hp hx, resO, ov]
  · have hn : ¬ (i < l.length) := by omega
    simp only [go_sem, osv_length, hn]
    refine l_exit ?_
    rw [List.take_of_length_le h] at hp
    simp only [go_sem, hp, resO, zeroO]

end Go.VL

/- Contracts of this program's functions: options, fifth part. Conditions: none. -/
namespace Go.VL
open Go.Proofs

def dropO (l : List OV) (t : UInt8) : List OV := l.filter fun o => o.t != t
def rowO (l : List OV) : V := .sl l.isEmpty false 2 (osv l)

theorem dropO_take {l : List OV} {i : Nat} {t : UInt8} (h : i < l.length) : dropO (l.take (i + 1)) t = dropO (l.take i) t ++ (if (l[i].t != t) = true then [l[i]] else []) := by
  unfold dropO
  rw [List.take_succ_eq_append_getElem h, List.filter_append]
  congr 1
  simp [List.filter_cons]
theorem dropO_length (l : List OV) (t : UInt8) (i : Nat) : (dropO (l.take i) t).length ≤ i := Nat.le_trans (List.length_filter_le _ _) (by simp; omega)

theorem c_rdrop (nl c : Bool) (l : List OV) (t : UInt8) (hl : l.length < lim) (σ : St) : VCalls Try.prog 35 [.sl nl c 2 (osv l), .int .u8 t.toNat] σ fun r σ' => r = rowO (dropO l t) ∧ σ' = σ := by
  refine vcalls_intro (C := cfg Try.prog [] [] []) (cfg_ok mixed) Try.func35 rfl rfl rfl rfl rfl ?_
  simp only [go_sem]
  unfold lim at hl
  refine w_loop' (fun i => i ≤ l.length) (fun i => [(6, .int .i64 i), (0, .sl nl c 2 (osv l)), (1, .int .u8 t.toNat), (5, .rsl σ.length (dropO (l.take i) t).length 0 (dropO (l.take i) t).length)]) (fun i => σ ++ [.arr (dropO (l.take i) t).isEmpty (dropO (l.take i) t).length 2 (osv (dropO (l.take i) t))]) (fun i => l.length - i) 0 (Nat.zero_le _) _ (.adopt _ _ 5 2 false 0 rfl) ?_ ?_
  · simp only [go_sem, dropO, List.filter_nil]
    rfl
  intro i hi
  rcases Nat.lt_or_ge i l.length with h | h
  · have hw : IntKind.i64.wrap ((i : Int) + 1) = ((i + 1 : Nat) : Int) := wrap_ok (by omega) (by omega)
    simp only [go_sem, osv_length, h, ov_getD h, toNat_bne]
    have hd := dropO_length l t i
    cases hx : (l[i]).t != t
    · simp only [go_sem]
      refine l_next (i + 1) h (by omega) ?_ ?_
      · simp only [go_sem, hw, dropO_take h, hx]
      · simp only [dropO_take h, hx, go_sem]
    · simp only [go_sem, osv_length, h, ov_getD h]
      refine ⟨by unfold lim; omega, l_next (i + 1) h (by omega) ?_ ?_⟩
      · simp only [go_sem, hw, dropO_take h, hx, List.length_append]
      · simp [dropO_take h, hx, osv, ov]
  · have hn : ¬ (i < l.length) := by omega
    simp only [go_sem, osv_length, hn]
    refine l_exit ?_
    rw [List.take_of_length_le h]
    simp only [go_sem, rowO]
    rw [List.take_of_length_le (by rw [osv_length]; exact Nat.le_refl _)]

end Go.VL

/- Contracts of this program's functions: options, sixth part. Conditions: none. -/
namespace Go.VL
open Go.Proofs

def rnumStep (acc : Int) (b : UInt8) : Int := IntKind.u32.wrap (IntKind.u32.wrap (acc * 256) + IntKind.u32.wrap b.toNat)
def rnum (l : List UInt8) : Int := (l.drop (l.length - 4)).foldl rnumStep 0

theorem drop_take_succ {l : List UInt8} {k i : Nat} (hk : k ≤ i) (h : i < l.length) : ((l.take (i + 1)).drop k).foldl rnumStep 0 = rnumStep (((l.take i).drop k).foldl rnumStep 0) l[i] := by
  rw [List.take_succ_eq_append_getElem h, List.drop_append_of_le_length (by simp; omega), List.foldl_append]
  rfl

theorem c_rnumber (nl c : Bool) (l : List UInt8) (hl : l.length ≤ lim) (σ : St) : VCalls Try.prog 37 [.sl nl c 1 (bv l)] σ fun r σ' => r = .int .u32 (rnum l) ∧ σ' = σ := by
  refine vcalls_intro (C := cfg Try.prog [] [] []) (cfg_ok mixed) Try.func37 rfl rfl rfl rfl rfl ?_
  unfold lim at hl
  have hw4 : IntKind.i64.wrap ((l.length : Int) - 4) = (l.length : Int) - 4 := IntWalk.i64_in _ (by omega)
  have hm : (if (l.length : Int) - 4 > 0 then (l.length : Int) - 4 else 0) = ((l.length - 4 : Nat) : Int) := by split <;> omega
  have hm' : (if (0 : Int) < (l.length : Int) - 4 then (l.length : Int) - 4 else 0) = ((l.length - 4 : Nat) : Int) := hm
  simp only [go_sem, bv_length, hw4, hm']
  refine w_loop (fun i => l.length - 4 ≤ i ∧ i ≤ l.length) (fun i => [(4, .int .i64 i), (0, .sl nl c 1 (bv l)), (3, .int .u32 (((l.take i).drop (l.length - 4)).foldl rnumStep 0))]) (fun _ => σ) (fun i => l.length - i) (l.length - 4) ⟨Nat.le_refl _, Nat.sub_le _ _⟩ ?_ rfl ?_
  · have : (l.take (l.length - 4)).drop (l.length - 4) = [] := List.drop_eq_nil_of_le (by simp)
    simp only [go_sem, this, List.foldl_nil]
  rintro i ⟨hk, hi⟩
  rcases Nat.lt_or_ge i l.length with h | h
  · simp only [go_sem, bv_length, bv_getD h, h]
    have hw : IntKind.i64.wrap ((i : Int) + 1) = ((i + 1 : Nat) : Int) := wrap_ok (by omega) (by omega)
    refine l_next (i + 1) ⟨by omega, h⟩ (by omega) ?_ rfl
    simp only [go_sem, hw, drop_take_succ hk h, rnumStep]
  · have hn : ¬ (i < l.length) := by omega
    simp only [go_sem, bv_length, hn]
    refine l_exit ?_
    simp only [go_sem, List.take_of_length_le h, rnum]

end Go.VL

/- Contracts of this program's functions: options, seventh part. Conditions: none. -/
namespace Go.VL
open Go.Proofs

def putStep (o : OV) (s : List OV × Bool) (x : OV) : List OV × Bool := bif !s.2 && (x.t == o.t) then (s.1 ++ [o], true) else (s.1 ++ [x], s.2)
def putGo (l : List OV) (o : OV) : List OV × Bool := l.foldl (putStep o) ([], false)
def putO (l : List OV) (o : OV) : List OV := bif (putGo l o).2 then (putGo l o).1 else (putGo l o).1 ++ [o]

theorem putGo_take {l : List OV} {o : OV} {i : Nat} (h : i < l.length) : putGo (l.take (i + 1)) o = putStep o (putGo (l.take i) o) l[i] := by
  unfold putGo
  rw [List.take_succ_eq_append_getElem h, List.foldl_append]
  rfl
theorem putGo_length (l : List OV) (o : OV) : ∀ i, i ≤ l.length → (putGo (l.take i) o).1.length = i
  | 0, _ => rfl
  | i + 1, h => by
    rw [putGo_take h]
    unfold putStep
    have := putGo_length l o i (by omega)
    cases (!(putGo (l.take i) o).2 && (l[i].t == o.t)) <;> simp [this]

theorem c_rput (nl c : Bool) (l : List OV) (o : OV) (hl : l.length < lim) (σ : St) : VCalls Try.prog 34 [.sl nl c 2 (osv l), ov o] σ fun r σ' => r = .sl false false 2 (osv (putO l o)) ∧ σ' = σ := by
  refine vcalls_intro (C := cfg Try.prog [] [] []) (cfg_ok mixed) Try.func34 rfl rfl rfl rfl rfl ?_
  simp only [go_sem, ov]
  unfold lim at hl
  refine w_loop' (fun i => i ≤ l.length) (fun i => [(7, .int .i64 i), (6, .bool (putGo (l.take i) o).2), (0, .sl nl c 2 (osv l)), (3, .ip [.int .u8 o.t.toNat, .sl o.nl o.c 1 (bv o.d)]), (5, .rsl σ.length i 0 i)]) (fun i => σ ++ [.arr (decide (i = 0)) i 2 (osv (putGo (l.take i) o).1)]) (fun i => l.length - i) 0 (Nat.zero_le _) _ (.adopt _ _ 5 2 false 0 rfl) ?_ ?_
  · simp only [go_sem]
    exact ⟨rfl, rfl⟩
  intro i hi
  have hgl := putGo_length l o i hi
  rcases Nat.lt_or_ge i l.length with h | h
  · have hw : IntKind.i64.wrap ((i : Int) + 1) = ((i + 1 : Nat) : Int) := wrap_ok (by omega) (by omega)
    simp only [go_sem, osv_length, h]
    refine w_walk [] [0, 1, 2, 3, 4, 5, 6, 7, 8, 9, 10, 11] _ rfl rfl rfl ?_
    cases hp : (putGo (l.take i) o).2
    · simp only [go_sem, osv_length, h, ov_getD h, toNat_beq]
      cases hx : (l[i]).t == o.t
      · simp only [go_sem, osv_length, h, ov_getD h, hgl]
        refine ⟨by unfold lim; omega, l_next (i + 1) h (by omega) ?_ ?_⟩
        · simp only [go_sem, hw, putGo_take h, putStep, hp, hx]
        · simp [putGo_take h, putStep, hp, hx, osv, ov]
      · simp only [go_sem, osv_length, h, ov_getD h, hgl]
        refine ⟨by unfold lim; omega, l_next (i + 1) h (by omega) ?_ ?_⟩
        · simp only [go_sem, hw, putGo_take h, putStep, hp, hx]
        · simp [putGo_take h, putStep, hp, hx, osv, ov]
    · simp only [go_sem, osv_length, h, ov_getD h, hgl]
      refine ⟨by unfold lim; omega, l_next (i + 1) h (by omega) ?_ ?_⟩
      · simp only [go_sem, hw, putGo_take h, putStep, hp, Bool.false_and]
      · simp [putGo_take h, putStep, hp, osv, ov]
  · have hn : ¬ (i < l.length) := by omega
    simp only [go_sem, osv_length, hn]
    refine l_exit ?_
    rw [List.take_of_length_le h] at hgl ⊢
    unfold putO
    cases hp : (putGo l o).2
    · simp only [go_sem, osv_length, hgl]
      refine ⟨by unfold lim; omega, ?_⟩
      rw [List.take_of_length_le (by simp [osv, hgl])]
      simp [osv, ov]
    · simp only [go_sem, osv_length, hgl]
      have h0 : ¬ i = 0 := by
        rintro rfl
        have : l = [] := List.eq_nil_of_length_eq_zero (by omega)
        subst this
        cases hp
      rw [List.take_of_length_le (by simp [osv, hgl])]
      simp [h0]

end Go.VL

/- Contracts of this program's functions: the library's rows. Conditions: none. -/
namespace Go.VL
open Go.Proofs

/-- opts.of: a function that asks for a type. -/
theorem c_of (t : UInt8) (σ : St) : VCalls Try.prog 44 [.int .u8 t.toNat] σ fun r σ' => r = .fn (.func 59) [] [.ip [.int .u8 t.toNat]] ∧ σ' = σ := by
  refine vcalls_intro (C := cfg Try.prog [] [] []) (cfg_ok mixed) Try.func44 rfl rfl rfl rfl rfl ?_
  simp only [go_sem, List.append_nil]

theorem c_of1 (o : OV) (t : UInt8) (σ : St) : VCalls Try.prog 59 [ov o, .ip [.int .u8 t.toNat]] σ fun r σ' => r = .bool (o.t == t) ∧ σ' = σ := by
  refine vcalls_intro (C := cfg Try.prog [] [] []) (cfg_ok mixed) Try.func59 rfl rfl rfl rfl rfl ?_
  simp only [go_sem, ov, toNat_beq]

end Go.VL

/- Contracts of this program's functions: the library's rows, second part. Conditions: none. -/
namespace Go.VL
open Go.Proofs

def idxO (p : OV → Bool) : List OV → Int
  | [] => -1
  | o :: l => bif p o then 0 else (bif decide (idxO p l < 0) then -1 else idxO p l + 1)
def noneO (p : OV → Bool) (l : List OV) : Bool := l.all fun o => !p o

theorem idxO_none {p : OV → Bool} : ∀ {l : List OV}, noneO p l = true → idxO p l = -1
  | [], _ => rfl
  | o :: l, h => by
    simp only [noneO, List.all_cons, Bool.and_eq_true, Bool.not_eq_true'] at h
    have := idxO_none (l := l) h.2
    simp [idxO, h.1, this]
theorem idxO_at {p : OV → Bool} : ∀ {l : List OV} {i : Nat} (h : i < l.length), noneO p (l.take i) = true → p l[i] = true → idxO p l = i
  | o :: l, 0, _, _, hp => by simp only [List.getElem_cons_zero] at hp; simp [idxO, hp]
  | o :: l, i + 1, h, hn, hp => by
    simp only [noneO, List.take_succ_cons, List.all_cons, Bool.and_eq_true, Bool.not_eq_true'] at hn
    have := idxO_at (l := l) (i := i) (by simpa using h) hn.2 (by simpa using hp)
    have h0 : ¬ ((i : Int) < 0) := by omega
    simp [idxO, hn.1, this, h0]
theorem noneO_take {p : OV → Bool} {l : List OV} {i : Nat} (h : i < l.length) (hn : noneO p (l.take i) = true) (hp : p l[i] = false) : noneO p (l.take (i + 1)) = true := by
  unfold noneO at hn ⊢
  rw [List.take_succ_eq_append_getElem h, List.all_append, hn]
  simp [hp]

theorem c_index (nl c : Bool) (l : List OV) (p : OV → Bool) (g : FuncId) (xs ys : List V) (hl : l.length ≤ lim) (σ : St) (hg : ∀ o, VCalls Try.prog g (xs ++ [ov o] ++ ys) σ fun r σ' => r = .bool (p o) ∧ σ' = σ) :
    VCalls Try.prog 50 [.sl nl c 2 (osv l), .fn (.func g) xs ys] σ fun r σ' => r = .int .i64 (idxO p l) ∧ σ' = σ := by
  refine vcalls_intro (C := cfg Try.prog [] [] []) (cfg_ok mixed) Try.func50 rfl rfl rfl rfl rfl ?_
  simp only [go_sem, osv_length]
  unfold lim at hl
  refine w_loop (fun i => i ≤ l.length ∧ noneO p (l.take i) = true) (fun i => [(8, .int .i64 i), (7, .int .i64 l.length), (0, .sl nl c 2 (osv l)), (1, .fn (.func g) xs ys)]) (fun _ => σ) (fun i => l.length - i) 0 ⟨Nat.zero_le _, rfl⟩ ?_ rfl ?_
  · simp only [go_sem]
    rfl
  rintro i ⟨hi, hn⟩
  rcases Nat.lt_or_ge i l.length with h | h
  · simp only [go_sem, osv_length, h, ov_getD h]
    refine vgo_call rfl rfl rfl rfl (hg l[i]) ?_
    have hw : IntKind.i64.wrap ((i : Int) + 1) = ((i + 1 : Nat) : Int) := wrap_ok (by omega) (by omega)
    cases hp : p l[i]
    · simp only [go_sem]
      refine l_next (i + 1) ⟨h, noneO_take h hn hp⟩ (by omega) ?_ rfl
      simp only [go_sem, hw]
    · simp only [go_sem]
      refine l_ret ?_
      simp only [go_sem, idxO_at h hn hp]
  · have hh : ¬ (i < l.length) := by omega
    simp only [go_sem, osv_length, hh]
    refine l_exit ?_
    rw [List.take_of_length_le h] at hn
    simp only [go_sem, idxO_none hn]

end Go.VL

/- Contracts of this program's functions: the library's rows, third part. Conditions: none. -/
namespace Go.VL
open Go.Proofs

theorem bv_inj {l l' : List UInt8} : bv l = bv l' ↔ l = l' := by
  constructor
  · intro h
    induction l generalizing l' with
    | nil => cases l' with
      | nil => rfl
      | cons b l' => simp [bv] at h
    | cons a l ih => cases l' with
      | nil => simp [bv] at h
      | cons b l' =>
        simp only [bv, List.map_cons, List.cons.injEq, V.int.injEq, true_and] at h
        have h1 : a = b := UInt8.toNat_inj.1 (by omega)
        rw [h1, ih (l' := l') h.2]
  · intro h; rw [h]
theorem bv_ex (l : List UInt8) (K : V → Prop) : (∃ bs : List UInt8, bv l = bs.map (fun b => V.int .u8 b.toNat) ∧ K (.str ⟨bs.toArray⟩)) = K (.str ⟨l.toArray⟩) := by
  apply propext
  constructor
  · rintro ⟨bs, h, hk⟩
    rw [bv_inj.1 (show bv l = bv bs from h)]
    exact hk
  · exact fun h => ⟨l, rfl, h⟩

theorem strEq_bytes (l l' : List UInt8) : strEq ⟨l.toArray⟩ ⟨l'.toArray⟩ = decide (l = l') := by
  unfold strEq
  rw [Bool.eq_iff_iff]
  simp [ByteArray.toList_eq]

theorem c_bytesEqual (nl c nl' c' : Bool) (l l' : List UInt8) (σ : St) : VCalls Try.prog 57 [.sl nl c 1 (bv l), .sl nl' c' 1 (bv l')] σ fun r σ' => r = .bool (decide (l = l')) ∧ σ' = σ := by
  refine vcalls_intro (C := cfg Try.prog [] [] []) (cfg_ok mixed) Try.func57 rfl rfl rfl rfl rfl ?_
  simp only [go_sem, strEq_bytes]
  exact ⟨l, rfl, l', rfl, rfl⟩

end Go.VL

/- Contracts of this program's functions: opts.Same. Conditions: none. -/
namespace Go.VL
open Go.Proofs

theorem c_same1 (a b : OV) (σ : St) : VCalls Try.prog 56 [ov a, ov b] σ fun r σ' => r = .bool (eqO a b) ∧ σ' = σ := by
  refine vcalls_intro (C := cfg Try.prog [] [] []) (cfg_ok mixed) Try.func56 rfl rfl rfl rfl rfl ?_
  simp only [go_sem, ov, toNat_beq]
  unfold eqO
  cases hx : a.t == b.t
  · simp only [go_sem, Bool.and_false]
  · simp only [go_sem]
    refine vgo_call rfl rfl rfl rfl (c_bytesEqual _ _ _ _ _ _ σ) ?_
    simp only [go_sem]

end Go.VL

/- Contracts of this program's functions: opts.Same, second part. Conditions: none. -/
namespace Go.VL
open Go.Proofs

theorem c_equalFunc (nl c nl' c' : Bool) (l l' : List OV) (g : FuncId) (hl : l.length ≤ lim) (σ : St) (hg : ∀ a b, VCalls Try.prog g [ov a, ov b] σ fun r σ' => r = .bool (eqO a b) ∧ σ' = σ) :
    VCalls Try.prog 55 [.sl nl c 2 (osv l), .sl nl' c' 2 (osv l'), .fn (.func g) [] []] σ fun r σ' => r = .bool (same l l') ∧ σ' = σ := by
  refine vcalls_intro (C := cfg Try.prog [] [] []) (cfg_ok mixed) Try.func55 rfl rfl rfl rfl rfl ?_
  simp only [go_sem, osv_length]
  unfold lim at hl
  rcases Decidable.em (l.length = l'.length) with he | he
  · simp only [go_sem, he, bne_self_eq_false]
    refine w_loop (fun i => i ≤ l.length ∧ same (l.take i) (l'.take i) = true) (fun i => [(17, .int .i64 i), (16, .int .i64 l.length), (15, .sl nl c 2 (osv l)), (1, .sl nl' c' 2 (osv l')), (2, .fn (.func g) [] [])]) (fun _ => σ) (fun i => l.length - i) 0 ⟨Nat.zero_le _, rfl⟩ ?_ rfl ?_
    · simp only [go_sem, osv_length, he]
      rfl
    rintro i ⟨hi, hp⟩
    rcases Nat.lt_or_ge i l.length with h | h
    · have h' : i < l'.length := he ▸ h
      simp only [go_sem, osv_length, h, h', ov_getD h, ov_getD h']
      refine vgo_call rfl rfl rfl rfl (hg l[i] l'[i]) ?_
      cases hx : eqO l[i] l'[i]
      · simp only [go_sem]
        refine l_ret ?_
        simp only [go_sem, same_false h h' hx]
      · simp only [go_sem]
        have hw : IntKind.i64.wrap ((i : Int) + 1) = ((i + 1 : Nat) : Int) := wrap_ok (by omega) (by omega)
        refine l_next (i + 1) ⟨h, ?_⟩ (by omega) ?_ rfl
        · rw [same_take h h', hp, hx]; rfl
        · simp only [go_sem, hw]
    · have hn : ¬ (i < l.length) := by omega
      simp only [go_sem, osv_length, hn]
      refine l_exit ?_
      rw [List.take_of_length_le h, List.take_of_length_le (he ▸ h)] at hp
      simp only [go_sem, hp]
  · have hb : ((l.length : Int) != (l'.length : Int)) = true := by simp; omega
    have hf : same l l' = false := by
      cases h : same l l' with
      | false => rfl
      | true => exact absurd (same_length h) he
    simp only [go_sem, hb, hf]

theorem c_optsSame (nl c nl' c' : Bool) (l l' : List OV) (hl : l.length ≤ lim) (σ : St) : VCalls Try.prog 40 [.sl nl c 2 (osv l), .sl nl' c' 2 (osv l')] σ fun r σ' => r = .bool (same l l') ∧ σ' = σ := by
  refine vcalls_intro (C := cfg Try.prog [] [] []) (cfg_ok mixed) Try.func40 rfl rfl rfl rfl rfl ?_
  simp only [go_sem]
  refine vgo_call rfl rfl rfl rfl (c_equalFunc nl c nl' c' l l' _ hl σ fun a b => c_same1 a b σ) ?_
  simp only [go_sem]

end Go.VL

/- Contracts of this program's functions: slices.Clone. Conditions: none. -/
namespace Go.VL
open Go.Proofs

theorem c_clone (nl c : Bool) (l : List OV) (hl : l.length ≤ lim) (σ : St) : VCalls Try.prog 43 [.sl nl c 2 (osv l)] σ fun r σ' => (nl = true ∧ r = .sl true false 0 [] ∧ σ' = σ) ∨ (nl = false ∧ r = .rsl σ.length 0 0 l.length ∧ σ' = σ ++ [.arr false 0 2 (osv l)]) := by
  refine vcalls_keep (C := cfg Try.prog [] [] []) (cfg_ok mixed) Try.func43 rfl rfl rfl rfl rfl ?_
  simp only [go_sem]
  cases nl
  · simp only [go_sem, vendK, osv_length]
    rw [Nat.zero_add]
    exact ⟨hl, rfl⟩
  · simp only [go_sem, vendK, osv_length]

end Go.VL

/- Contracts of this program's functions: slices.IndexFunc over a row that is the caller's own. Conditions: none. -/
namespace Go.VL
open Go.Proofs

theorem c_indexR (nl : Bool) (l : List OV) (p : OV → Bool) (g : FuncId) (xs ys : List V) (hl : l.length ≤ lim) (σ : St) (id gen : Nat) (hσ : σ[id]? = some (.arr nl gen 2 (osv l))) (hg : ∀ o, VCalls Try.prog g (xs ++ [ov o] ++ ys) σ fun r σ' => r = .bool (p o) ∧ σ' = σ) :
    VCalls Try.prog 50 [.rsl id gen 0 l.length, .fn (.func g) xs ys] σ fun r σ' => r = .int .i64 (idxO p l) ∧ σ' = σ := by
  refine vcalls_intro (C := cfg Try.prog [] [] []) (cfg_ok mixed) Try.func50 rfl rfl rfl rfl rfl ?_
  simp only [go_sem, osv_length, hσ, Nat.sub_zero]
  unfold lim at hl
  refine w_loop (fun i => i ≤ l.length ∧ noneO p (l.take i) = true) (fun i => [(8, .int .i64 i), (7, .int .i64 l.length), (0, .rsl id gen 0 l.length), (1, .fn (.func g) xs ys)]) (fun _ => σ) (fun i => l.length - i) 0 ⟨Nat.zero_le _, rfl⟩ ?_ rfl ?_
  · simp only [go_sem]
    rfl
  rintro i ⟨hi, hn⟩
  rcases Nat.lt_or_ge i l.length with h | h
  · simp only [go_sem, osv_length, h, hσ, Nat.sub_zero, Nat.zero_add, ov_getD h]
    refine vgo_call rfl rfl rfl rfl (hg l[i]) ?_
    have hw : IntKind.i64.wrap ((i : Int) + 1) = ((i + 1 : Nat) : Int) := wrap_ok (by omega) (by omega)
    cases hp : p l[i]
    · simp only [go_sem]
      refine l_next (i + 1) ⟨h, noneO_take h hn hp⟩ (by omega) ?_ rfl
      simp only [go_sem, hw]
    · simp only [go_sem]
      refine l_ret ?_
      simp only [go_sem, idxO_at h hn hp]
  · have hh : ¬ (i < l.length) := by omega
    simp only [go_sem, osv_length, hh]
    refine l_exit ?_
    rw [List.take_of_length_le h] at hn
    simp only [go_sem, idxO_none hn]

end Go.VL

/- Contracts of this program's functions: slices.DeleteFunc. Conditions: none. -/
namespace Go.VL
open Go.Proofs

def zv : V := .agg [.int .u8 0, .sl true false 0 []]
def keepO (p : OV → Bool) (l : List OV) : List OV := l.filter fun o => !p o

theorem set_self {σ : St} {id : Nat} {o o' : VO} (h : σ[id]? = some o) : (σ.set id o')[id]? = some o' := by
  have := lt_of_some h
  simp [this]
theorem set_same {σ : St} {id : Nat} {o : VO} (h : σ[id]? = some o) : σ = σ.set id o := by
  obtain ⟨h1, h2⟩ := List.getElem?_eq_some_iff.1 h
  rw [← h2, List.set_getElem_self]

theorem keepO_take {p : OV → Bool} {l : List OV} {i : Nat} (h : i < l.length) : keepO p (l.take (i + 1)) = keepO p (l.take i) ++ (bif p l[i] then [] else [l[i]]) := by
  unfold keepO
  rw [List.take_succ_eq_append_getElem h, List.filter_append]
  cases hp : p l[i] <;> simp [hp]
theorem keepO_length (p : OV → Bool) (l : List OV) (i : Nat) : (keepO p (l.take i)).length ≤ i := Nat.le_trans (List.length_filter_le _ _) (by simp; omega)
theorem keepO_none {p : OV → Bool} {l : List OV} (h : noneO p l = true) : keepO p l = l := by
  unfold keepO
  exact List.filter_eq_self.2 fun o ho => List.all_eq_true.1 h o ho

/-- A row, some of it laid anew. -/
def rowAt (k l : List OV) : List V := osv k ++ (osv l).drop k.length
theorem rowAt_length {k l : List OV} (h : k.length ≤ l.length) : (rowAt k l).length = l.length := by
  simp [rowAt, osv]; omega
theorem rowAt_getD {k l : List OV} {j : Nat} (h : k.length ≤ j) (hj : j < l.length) : (rowAt k l).getD j .undef = ov l[j] := by
  unfold rowAt
  rw [List.getD_eq_getElem?_getD, List.getElem?_append_right (by simpa [osv] using h), List.getElem?_drop]
  have : k.length + (j - (osv k).length) = j := by simp [osv]; omega
  rw [this]
  simp [osv, hj]
theorem rowAt_set {k l : List OV} {o : OV} (h : k.length < l.length) : (rowAt k l).set k.length (ov o) = rowAt (k ++ [o]) l := by
  unfold rowAt
  have e : (osv k).length = k.length := osv_length k
  rw [List.set_append_right _ _ (by rw [e]; exact Nat.le_refl _), e, Nat.sub_self]
  have hd : (osv l).drop k.length = ov l[k.length] :: (osv l).drop (k.length + 1) := by
    rw [List.drop_eq_getElem_cons (by simpa [osv] using h)]
    simp [osv]
  rw [hd, List.set_cons_zero]
  simp [osv]

theorem c_delete (nl : Bool) (l : List OV) (p : OV → Bool) (g : FuncId) (xs ys : List V) (hl : l.length < lim) (σ : St) (id gen : Nat) (hσ : σ[id]? = some (.arr nl gen 2 (osv l))) (hg : ∀ o (σ' : St), VCalls Try.prog g (xs ++ [ov o] ++ ys) σ' fun r σ'' => r = .bool (p o) ∧ σ'' = σ') :
    VCalls Try.prog 42 [.rsl id gen 0 l.length, .fn (.func g) xs ys] σ fun r σ' => r = .rsl id gen 0 (keepO p l).length ∧ σ' = σ.set id (.arr nl gen 2 (osv (keepO p l) ++ List.replicate (l.length - (keepO p l).length) zv)) := by
  refine vcalls_keep (C := cfg Try.prog [] [] []) (cfg_ok mixed) Try.func42 rfl rfl rfl rfl rfl ?_
  simp only [go_sem]
  refine vgo_call rfl rfl rfl rfl (c_indexR nl l p g xs ys (Nat.le_of_lt hl) σ id gen hσ fun o => hg o σ) ?_
  simp only [go_sem]
  unfold lim at hl
  by_cases hno : noneO p l = true
  · have hn := keepO_none hno
    simp only [go_sem, idxO_none hno, vendK, hn, Nat.sub_self, List.replicate_zero, List.append_nil]
    exact set_same hσ
  · obtain ⟨i0, h0, hb, hp0⟩ : ∃ i, ∃ h : i < l.length, noneO p (l.take i) = true ∧ p l[i] = true := by
      clear hσ hl
      induction l with
      | nil => exact absurd rfl hno
      | cons o l ih =>
        cases ho : p o with
        | true => exact ⟨0, by simp, rfl, by simpa using ho⟩
        | false =>
          have hno' : ¬ noneO p l = true := by
            intro h
            apply hno
            simp only [noneO, List.all_cons, ho, Bool.not_false, Bool.true_and]
            exact h
          obtain ⟨i, h1, h2, h3⟩ := ih hno'
          exact ⟨i + 1, by simpa using h1, by simpa [noneO, ho] using h2, by simpa using h3⟩
    have hk0 : keepO p (l.take (i0 + 1)) = l.take i0 := by
      rw [keepO_take h0, hp0, keepO_none hb]
      simp
    have hne : ((i0 : Int) == -1) = false := by simp
    have hw0 : IntKind.i64.wrap ((i0 : Int) + 1) = ((i0 + 1 : Nat) : Int) := wrap_ok (by omega) (by omega)
    simp only [go_sem, idxO_at h0 hb hp0, hne, hw0]
    refine w_loop (fun j => j ≤ l.length ∧ i0 < j) (fun j => [(5, .int .i64 (keepO p (l.take j)).length), (6, .int .i64 j), (0, .rsl id gen 0 l.length), (1, .fn (.func g) xs ys)]) (fun j => σ.set id (.arr nl gen 2 (rowAt (keepO p (l.take j)) l))) (fun j => l.length - j) (i0 + 1) ⟨h0, by omega⟩ ?_ ?_ ?_
    · have : (l.take i0).length = i0 := by simp; omega
      simp only [go_sem, hk0, this]
    · have : (l.take i0).length = i0 := by simp; omega
      have hr : rowAt (keepO p (l.take (i0 + 1))) l = osv l := by
        rw [hk0]
        unfold rowAt
        rw [this]
        simp [osv, List.map_take]
      rw [hr]
      exact set_same hσ
    rintro j ⟨hj, hij⟩
    have hkl := keepO_length p l j
    rcases Nat.lt_or_ge j l.length with h | h
    · have hw : IntKind.i64.wrap ((j : Int) + 1) = ((j + 1 : Nat) : Int) := wrap_ok (by omega) (by omega)
      have hkj : (keepO p (l.take j)).length < j := by
        have e : l.take j = l.take (i0 + 1) ++ (l.take j).drop (i0 + 1) := by
          conv => lhs; rw [← List.take_append_drop (i0 + 1) (l.take j)]
          rw [List.take_take, Nat.min_eq_left (by omega)]
        have h1 : keepO p (l.take j) = l.take i0 ++ keepO p ((l.take j).drop (i0 + 1)) := by
          rw [← hk0]
          conv => lhs; rw [e]
          unfold keepO
          rw [List.filter_append]
        rw [h1]
        have h2 : (keepO p ((l.take j).drop (i0 + 1))).length ≤ ((l.take j).drop (i0 + 1)).length := List.length_filter_le _ _
        simp at h2 ⊢
        omega
      have hi1 : (keepO p (l.take j)).length < l.length := by omega
      simp only [go_sem, h, set_self hσ, rowAt_getD (Nat.le_of_lt hkj) h, ov, Nat.sub_zero, Nat.zero_add]
      refine vgo_call rfl rfl rfl rfl (hg l[j] _) ?_
      cases hp : p l[j]
      · have hwi : IntKind.i64.wrap (((keepO p (l.take j)).length : Int) + 1) = (((keepO p (l.take j)).length + 1 : Nat) : Int) := wrap_ok (by omega) (by omega)
        have hrl : (rowAt (keepO p (l.take j)) l).getD (keepO p (l.take j)).length .undef = ov l[(keepO p (l.take j)).length] := rowAt_getD (Nat.le_refl _) hi1
        simp only [go_sem, h, hi1, set_self hσ, hrl, ov, Nat.sub_zero, Nat.zero_add, List.set_set]
        refine l_next (j + 1) ⟨h, by omega⟩ (by omega) ?_ ?_
        · simp only [go_sem, hw, hwi, keepO_take h, hp, List.length_append]
        · have hs := rowAt_set (o := l[j]) hi1
          simp only [ov] at hs
          rw [hs, keepO_take h, hp]
          rfl
      · simp only [go_sem]
        refine l_next (j + 1) ⟨h, by omega⟩ (by omega) ?_ ?_
        · simp only [go_sem, hw, keepO_take h, hp, List.append_nil]
        · rw [keepO_take h, hp]
          simp
    · have hn : ¬ (j < l.length) := by omega
      have hle : (keepO p l).length ≤ l.length := List.length_filter_le _ _
      have hle' : ((keepO p l).length : Int) ≤ (l.length : Int) := by omega
      simp only [go_sem, hn, set_self hσ, Nat.sub_zero]
      refine l_exit ?_
      rw [List.take_of_length_le h]
      simp only [go_sem, set_self hσ, vendK, Nat.sub_zero, Nat.zero_add, hle', hle, List.set_set]
      unfold rowAt zv osv
      have hd : List.drop l.length (List.map ov (keepO p l) ++ List.drop (keepO p l).length (List.map ov l)) = [] := List.drop_eq_nil_of_le (by simp; omega)
      simp [hd]

end Go.VL

/- Contracts of this program's functions: what is found, dropped and put. Conditions: none. -/
namespace Go.VL
open Go.Proofs

theorem idx_cases (p : OV → Bool) (l : List OV) : noneO p l = true ∨ ∃ i, ∃ h : i < l.length, noneO p (l.take i) = true ∧ p l[i] = true := by
  induction l with
  | nil => exact .inl rfl
  | cons o l ih =>
    cases ho : p o with
    | true => exact .inr ⟨0, by simp, rfl, by simpa using ho⟩
    | false =>
      rcases ih with ih | ⟨i, h1, h2, h3⟩
      · exact .inl (by simpa [noneO, ho] using ih)
      · exact .inr ⟨i + 1, by simpa using h1, by simpa [noneO, ho] using h2, by simpa using h3⟩

/-- What opts.first tells. -/
def firstO (p : OV → Bool) (l : List OV) : V := match l.find? p with
  | some o => .tup [ov o, .int .i64 (idxO p l)]
  | none => .tup [zeroO, .int .i64 (-1)]
theorem find_none {p : OV → Bool} {l : List OV} (h : noneO p l = true) : l.find? p = none := by
  rw [List.find?_eq_none]
  intro o ho
  have := List.all_eq_true.1 h o ho
  simpa using this
theorem find_at {p : OV → Bool} : ∀ {l : List OV} {i : Nat} (h : i < l.length), noneO p (l.take i) = true → p l[i] = true → l.find? p = some l[i]
  | o :: l, 0, _, _, hp => by simp only [List.getElem_cons_zero] at hp; simp [hp]
  | o :: l, i + 1, h, hn, hp => by
    simp only [noneO, List.take_succ_cons, List.all_cons, Bool.and_eq_true, Bool.not_eq_true'] at hn
    have := find_at (l := l) (i := i) (by simpa using h) hn.2 (by simpa using hp)
    simpa [List.find?_cons, hn.1] using this

theorem c_first (nl c : Bool) (l : List OV) (p : OV → Bool) (g : FuncId) (xs ys : List V) (hl : l.length ≤ lim) (σ : St) (hg : ∀ o, VCalls Try.prog g (xs ++ [ov o] ++ ys) σ fun r σ' => r = .bool (p o) ∧ σ' = σ) :
    VCalls Try.prog 45 [.sl nl c 2 (osv l), .fn (.func g) xs ys] σ fun r σ' => r = firstO p l ∧ σ' = σ := by
  refine vcalls_intro (C := cfg Try.prog [] [] []) (cfg_ok mixed) Try.func45 rfl rfl rfl rfl rfl ?_
  simp only [go_sem]
  refine vgo_call rfl rfl rfl rfl (c_index nl c l p g xs ys hl σ hg) ?_
  simp only [go_sem]
  unfold firstO
  rcases idx_cases p l with h | ⟨i, h1, h2, h3⟩
  · simp only [go_sem, idxO_none h, find_none h, zeroO]
  · have hn : ¬ ((i : Int) < 0) := by omega
    simp only [go_sem, idxO_at h1 h2 h3, find_at h1 h2 h3, hn, osv_length, h1, ov_getD h1, ov]

theorem findO_eq (t : UInt8) : ∀ l : List OV, findO l t = l.find? fun o => o.t == t
  | [] => rfl
  | o :: l => by
    simp only [findO, List.find?_cons, findO_eq t l]
    cases o.t == t <;> rfl

theorem c_find (nl c : Bool) (l : List OV) (t : UInt8) (hl : l.length ≤ lim) (σ : St) : VCalls Try.prog 39 [.sl nl c 2 (osv l), .int .u8 t.toNat] σ fun r σ' => r = resO (findO l t) ∧ σ' = σ := by
  refine vcalls_intro (C := cfg Try.prog [] [] []) (cfg_ok mixed) Try.func39 rfl rfl rfl rfl rfl ?_
  simp only [go_sem]
  refine vgo_call rfl rfl rfl rfl (c_of t σ) ?_
  simp only [go_sem]
  refine vgo_call rfl rfl rfl ?_ (c_first nl c l (fun o => o.t == t) _ [] _ hl σ fun o => c_of1 o t σ) ?_
  · unfold firstO
    split <;> rfl
  unfold firstO
  rw [findO_eq]
  cases hf : l.find? (fun o => o.t == t) with
  | none => simp only [go_sem, zeroO, resO]
  | some o =>
    have hi : (0 : Int) ≤ idxO (fun o => o.t == t) l := by
      rcases idx_cases (fun o => o.t == t) l with h | ⟨i, h1, h2, h3⟩
      · rw [find_none h] at hf; cases hf
      · rw [idxO_at h1 h2 h3]; omega
    simp only [go_sem, ov, resO, hi]

theorem c_index_nil (c : Bool) (sz : Nat) (g : FuncId) (xs ys : List V) (σ : St) :
    VCalls Try.prog 50 [.sl true c sz [], .fn (.func g) xs ys] σ fun r σ' => r = .int .i64 (-1) ∧ σ' = σ := by
  refine vcalls_intro (C := cfg Try.prog [] [] []) (cfg_ok mixed) Try.func50 rfl rfl rfl rfl rfl ?_
  simp only [go_sem]
  refine w_loop (fun (_ : Unit) => True) (fun _ => [(8, .int .i64 0), (7, .int .i64 0)]) (fun _ => σ) (fun _ => 0) () trivial ?_ rfl ?_
  · simp only [go_sem]
    rfl
  rintro _ _
  simp only [go_sem, Int.lt_irrefl]
  refine l_exit ?_
  simp only [go_sem]

theorem c_delete_nil (c : Bool) (sz : Nat) (g : FuncId) (xs ys : List V) (σ : St) :
    VCalls Try.prog 42 [.sl true c sz [], .fn (.func g) xs ys] σ fun r σ' => r = .sl true c sz [] ∧ σ' = σ := by
  refine vcalls_intro (C := cfg Try.prog [] [] []) (cfg_ok mixed) Try.func42 rfl rfl rfl rfl rfl ?_
  simp only [go_sem]
  refine vgo_call rfl rfl rfl rfl (c_index_nil c sz g xs ys σ) ?_
  simp only [go_sem]

/-- A copy's row, cut. -/
def copyV (nl : Bool) (l : List OV) : V := bif nl then .sl true false 2 [] else .sl false false 2 (osv l)

end Go.VL

/- Contracts of this program's functions: opts.Drop, opts.Put, rules.number. Conditions: none. -/
namespace Go.VL
open Go.Proofs

theorem take_osv (k : List OV) (r : List V) : (osv k ++ r).take k.length = osv k := by
  rw [← osv_length k, List.take_left]
theorem osv_take (k : List OV) : (osv k).take k.length = osv k := by rw [← osv_length k, List.take_length]

theorem c_drop (nl c : Bool) (l : List OV) (t : UInt8) (hl : l.length < lim) (σ : St) : VCalls Try.prog 21 [.sl nl c 2 (osv l), .int .u8 t.toNat] σ fun r σ' => r = copyV nl (dropO l t) ∧ σ' = σ := by
  refine VCalls.res ?_
  refine vcalls_intro (C := cfg Try.prog [] [] []) (cfg_ok mixed) Try.func21 rfl rfl rfl rfl rfl ?_
  simp only [go_sem]
  refine vgo_call' rfl rfl rfl (c_clone nl c l (Nat.le_of_lt hl) σ) ?_
  rintro r σ' (⟨rfl, rfl, rfl⟩ | ⟨rfl, rfl, rfl⟩)
  · refine ⟨rfl, ?_⟩
    simp only [go_sem]
    refine vgo_call rfl rfl rfl rfl (c_of t _) ?_
    simp only [go_sem]
    refine vgo_call rfl rfl rfl rfl (c_delete_nil _ _ _ [] _ _) ?_
    simp only [go_sem, copyV]
    exact .nil _ _ _ _
  · refine ⟨rfl, ?_⟩
    simp only [go_sem]
    refine vgo_call rfl rfl rfl rfl (c_of t _) ?_
    simp only [go_sem]
    refine vgo_call' rfl rfl rfl (c_delete false l (fun o => o.t == t) _ [] _ hl _ σ.length 0 (get_at _ _) fun o σ' => c_of1 o t σ') ?_
    rintro r σ'' ⟨rfl, rfl⟩
    refine ⟨rfl, ?_⟩
    simp only [go_sem, copyV, take_osv]
    exact .refl _

theorem putFold_true (o : OV) : ∀ (l acc : List OV), l.foldl (putStep o) (acc, true) = (acc ++ l, true)
  | [], acc => by simp
  | x :: l, acc => by
    rw [List.foldl_cons]
    have : putStep o (acc, true) x = (acc ++ [x], true) := by simp [putStep]
    rw [this, putFold_true o l]
    simp
theorem putFold_false (o : OV) : ∀ (l acc : List OV), noneO (fun x => x.t == o.t) l = true → l.foldl (putStep o) (acc, false) = (acc ++ l, false)
  | [], acc, _ => by simp
  | x :: l, acc, h => by
    simp only [noneO, List.all_cons, Bool.and_eq_true, Bool.not_eq_true'] at h
    rw [List.foldl_cons]
    have : putStep o (acc, false) x = (acc ++ [x], false) := by simp [putStep, h.1]
    rw [this, putFold_false o l _ h.2]
    simp
theorem putO_none {l : List OV} {o : OV} (h : noneO (fun x => x.t == o.t) l = true) : putO l o = l ++ [o] := by
  unfold putO putGo
  rw [putFold_false o l [] h]
  simp
theorem putO_at {l : List OV} {o : OV} {i : Nat} (h : i < l.length) (hn : noneO (fun x => x.t == o.t) (l.take i) = true) (hp : (l[i].t == o.t) = true) : putO l o = l.set i o := by
  have e : putGo l o = (l.take i ++ [o] ++ l.drop (i + 1), true) := by
    unfold putGo
    conv => lhs; rw [← List.take_append_drop i l, List.drop_eq_getElem_cons h]
    rw [List.foldl_append, putFold_false o _ [] hn, List.foldl_cons]
    have : putStep o ([] ++ l.take i, false) l[i] = (l.take i ++ [o], true) := by simp [putStep, hp]
    rw [this, putFold_true]
  unfold putO
  rw [e, List.set_eq_take_append_cons_drop, if_pos h]
  simp

theorem c_put (nl c : Bool) (l : List OV) (o : OV) (hl : l.length < lim) (σ : St) : VCalls Try.prog 22 [.sl nl c 2 (osv l), ov o] σ fun r σ' => r = .sl false false 2 (osv (putO l o)) ∧ σ' = σ := by
  refine VCalls.assume (φ := nl = true → osv l = []) (fun _ _ _ _ h => sl_nil0 h) ⟨_, Try.func22, rfl, rfl⟩ fun hn => ?_
  refine vcalls_intro (C := cfg Try.prog [] [] []) (cfg_ok mixed) Try.func22 rfl rfl rfl rfl rfl ?_
  simp only [go_sem, ov]
  unfold lim at hl
  refine vgo_call' rfl rfl rfl (c_clone nl c l (by unfold lim; omega) σ) ?_
  rintro r σ' (⟨rfl, rfl, rfl⟩ | ⟨rfl, rfl, rfl⟩)
  · refine ⟨rfl, ?_⟩
    have hl0 : l = [] := by have := hn rfl; simpa [osv] using this
    subst hl0
    simp only [go_sem]
    refine vgo_call rfl rfl rfl rfl (c_of o.t _) ?_
    simp only [go_sem]
    refine vgo_call rfl rfl rfl rfl (c_first true c [] (fun x => x.t == o.t) _ [] _ (Nat.zero_le _) _ fun x => c_of1 x o.t _) ?_
    have e : firstO (fun x => x.t == o.t) [] = .tup [zeroO, .int .i64 (-1)] := rfl
    simp only [go_sem, e, zeroO, osv, putO_none (l := []) (o := o) rfl, ov]
    simp [lim]
  · refine ⟨rfl, ?_⟩
    simp only [go_sem]
    refine vgo_call rfl rfl rfl rfl (c_of o.t _) ?_
    simp only [go_sem]
    refine vgo_call rfl rfl rfl ?_ (c_first false c l (fun x => x.t == o.t) _ [] _ (by unfold lim; omega) _ fun x => c_of1 x o.t _) ?_
    · unfold firstO
      split <;> rfl
    unfold firstO
    rcases idx_cases (fun x => x.t == o.t) l with h | ⟨i, h1, h2, h3⟩
    · simp only [go_sem, idxO_none h, find_none h, zeroO, putO_none h, osv_length]
      refine ⟨by unfold lim; omega, ?_⟩
      rw [List.take_of_length_le (by simp [osv])]
      simp [osv, ov]
    · have hlt : ¬ ((i : Int) < 0) := by omega
      have hge := ov_getD h1
      simp only [go_sem, idxO_at h1 h2 h3, find_at h1 h2 h3, hlt, ov, osv_length, h1, Nat.sub_zero, Nat.zero_add, hge]
      rw [putO_at h1 h2 h3, List.take_of_length_le (by simp [osv])]
      simp [osv, List.map_set, ov]

end Go.VL

/- Numbers of four bytes, and bytes as numbers: contracts told over words. Conditions: none. -/
namespace Go.VL
open Go.Proofs

def valN (l : List UInt8) : Nat := l.foldl (fun acc b => acc * 256 + b.toNat) 0
def numU (l : List UInt8) : UInt32 := UInt32.ofNat (valN l)
def fourB (n : UInt32) : List UInt8 := [UInt8.ofNat (n.toNat / 16777216), UInt8.ofNat (n.toNat / 65536), UInt8.ofNat (n.toNat / 256), UInt8.ofNat n.toNat]

theorem valN_snoc (l : List UInt8) (b : UInt8) : valN (l ++ [b]) = valN l * 256 + b.toNat := by simp [valN]
theorem numU_toNat (l : List UInt8) : (numU l).toNat = valN l % 4294967296 := by simp [numU]

theorem wrap_u8 (n : Int) : IntKind.u8.wrap n = n % 256 := by simp [IntKind.wrap, IntKind.signed, IntKind.bits]
theorem wrap_u32 (n : Int) : IntKind.u32.wrap n = n % 4294967296 := by simp [IntKind.wrap, IntKind.signed, IntKind.bits]

theorem or_low (a b : Nat) (hb : b < 256) : (a * 256) ||| b = a * 256 + b := by
  have h := Nat.two_pow_add_eq_or_of_lt (i := 8) (b := b) (by simpa using hb) a
  have e : 2 ^ 8 * a = a * 256 := by rw [Nat.mul_comm]
  rw [e] at h
  exact h.symm

theorem ibits_or_u32 (a b : Nat) (ha : a < 4294967296) (hb : b < 4294967296) : ibits .or .u32 a b = ((a ||| b : Nat) : Int) := by
  show IntKind.u32.wrap (((BitVec.ofInt 32 (a : Int)) ||| (BitVec.ofInt 32 (b : Int))).toNat : Int) = _
  have h1 : (BitVec.ofInt 32 (a : Int)) = BitVec.ofNat 32 a := by simp
  have h2 : (BitVec.ofInt 32 (b : Int)) = BitVec.ofNat 32 b := by simp
  rw [h1, h2, wrap_u32]
  have h3 : (BitVec.ofNat 32 a ||| BitVec.ofNat 32 b).toNat = a ||| b := by
    rw [BitVec.toNat_or, BitVec.toNat_ofNat, BitVec.toNat_ofNat, Nat.mod_eq_of_lt (by simpa using ha), Nat.mod_eq_of_lt (by simpa using hb)]
  rw [h3]
  have h4 : a ||| b < 2 ^ 32 := Nat.or_lt_two_pow (by simpa using ha) (by simpa using hb)
  have h5 : a ||| b < 4294967296 := by simpa using h4
  omega

theorem numStep_nat (a : Nat) (b : UInt8) : numStep (a : Int) b = ((a * 256 + b.toNat) % 4294967296 : Nat) := by
  unfold numStep
  have hb := b.toNat_lt
  rw [wrap_u32, wrap_u32]
  have e1 : ((a : Int) * 2 ^ 8) % 4294967296 = ((a % 16777216 * 256 : Nat) : Int) := by
    have : (2 : Int) ^ 8 = 256 := by decide
    rw [this]
    omega
  have e2 : (b.toNat : Int) % 4294967296 = ((b.toNat : Nat) : Int) := by omega
  rw [e1, e2, ibits_or_u32 _ _ (by omega) (by omega), or_low _ _ (by simpa using hb)]
  congr 1
  omega

theorem num_val (l : List UInt8) : num l = ((numU l).toNat : Int) := by
  rw [numU_toNat]
  unfold num valN
  have key : ∀ (l : List UInt8) (a c : Nat), a % 4294967296 = c % 4294967296 → l.foldl numStep (a % 4294967296 : Nat) = ((l.foldl (fun acc b => acc * 256 + b.toNat) c) % 4294967296 : Nat) := by
    intro l
    induction l with
    | nil => intro a c h; simp only [List.foldl_nil]; omega
    | cons b l ih =>
      intro a c h
      rw [List.foldl_cons, List.foldl_cons, numStep_nat]
      refine ih _ _ ?_
      omega
  have := key l 0 0 rfl
  simpa using this

theorem rnumStep_nat (a : Nat) (b : UInt8) : rnumStep (a : Int) b = ((a * 256 + b.toNat) % 4294967296 : Nat) := by
  unfold rnumStep
  have hb := b.toNat_lt
  rw [wrap_u32, wrap_u32, wrap_u32]
  omega
theorem rnumFold (l : List UInt8) : ∀ (a c : Nat), a % 4294967296 = c % 4294967296 → l.foldl rnumStep (a % 4294967296 : Nat) = ((l.foldl (fun acc b => acc * 256 + b.toNat) c) % 4294967296 : Nat) := by
  induction l with
  | nil => intro a c h; simp only [List.foldl_nil]; omega
  | cons b l ih =>
    intro a c h
    rw [List.foldl_cons, List.foldl_cons, rnumStep_nat]
    refine ih _ _ ?_
    omega
theorem valFold_mod (l : List UInt8) (h : 4 ≤ l.length) : ∀ (a c : Nat), (l.foldl (fun acc b => acc * 256 + b.toNat) a) % 4294967296 = (l.foldl (fun acc b => acc * 256 + b.toNat) c) % 4294967296 := by
  intro a c
  obtain ⟨l1, l2, rfl, h2⟩ : ∃ l1 l2, l = l1 ++ l2 ∧ l2.length = 4 := ⟨l.take (l.length - 4), l.drop (l.length - 4), by simp, by simp; omega⟩
  rw [List.foldl_append, List.foldl_append]
  match l2, h2 with
  | [x, y, z, t], _ =>
    simp only [List.foldl_cons, List.foldl_nil]
    omega
theorem rnum_val (l : List UInt8) : rnum l = ((numU l).toNat : Int) := by
  rw [numU_toNat]
  unfold rnum valN
  have h1 := rnumFold (l.drop (l.length - 4)) 0 0 rfl
  have h0 : ((0 % 4294967296 : Nat) : Int) = 0 := rfl
  rw [h0] at h1
  rw [h1]
  congr 1
  rcases Nat.lt_or_ge l.length 4 with h | h
  · rw [show l.length - 4 = 0 by omega, List.drop_zero]
  · conv => rhs; rw [← List.take_append_drop (l.length - 4) l, List.foldl_append]
    exact valFold_mod _ (by simp; omega) _ _

theorem u8_ofNat (n : Nat) : ((UInt8.ofNat n).toNat : Int) = (n : Int) % 256 := by simp
theorem fdiv_nat (n k : Nat) (hk : 0 < k) : (n : Int).fdiv (k : Int) = ((n / k : Nat) : Int) := by
  rw [Int.fdiv_eq_ediv_of_nonneg _ (by omega)]; omega

theorem c_number' (nl c : Bool) (l : List UInt8) (hl : l.length ≤ lim) (σ : St) : VCalls Try.prog 18 [.sl nl c 1 (bv l)] σ fun r σ' => r = .int .u32 (numU l).toNat ∧ σ' = σ := by
  rw [← num_val]
  exact c_number nl c l hl σ
theorem c_rnumber' (nl c : Bool) (l : List UInt8) (hl : l.length ≤ lim) (σ : St) : VCalls Try.prog 37 [.sl nl c 1 (bv l)] σ fun r σ' => r = .int .u32 (numU l).toNat ∧ σ' = σ := by
  rw [← rnum_val]
  exact c_rnumber nl c l hl σ
theorem c_four' (n : UInt32) (σ : St) : VCalls Try.prog 19 [.int .u32 n.toNat] σ fun r σ' => r = .sl false true 1 (bv (fourB n)) ∧ σ' = σ := by
  refine (c_four n.toNat σ).mono fun r σ' h => ⟨h.1.trans ?_, h.2⟩
  have e1 : (2 : Int) ^ 24 = ((16777216 : Nat) : Int) := by decide
  have e2 : (2 : Int) ^ 16 = ((65536 : Nat) : Int) := by decide
  have e3 : (2 : Int) ^ 8 = ((256 : Nat) : Int) := by decide
  simp only [bv, fourB, List.map_cons, List.map_nil, wrap_u8, e1, e2, e3, fdiv_nat _ _ (by decide : 0 < 16777216), fdiv_nat _ _ (by decide : 0 < 65536), fdiv_nat _ _ (by decide : 0 < 256), u8_ofNat]
theorem c_rfour' (n : UInt32) (σ : St) : VCalls Try.prog 49 [.int .u32 n.toNat] σ fun r σ' => r = .sl false true 1 (bv (fourB n)) ∧ σ' = σ := by
  refine (c_rfour n.toNat σ).mono fun r σ' h => ⟨h.1.trans ?_, h.2⟩
  have hn : (n.toNat : Int) < 4294967296 := by have := n.toNat_lt; omega
  have t1 : ∀ k : Nat, 0 < k → (n.toNat : Int).tdiv (k : Int) = ((n.toNat / k : Nat) : Int) := fun k hk => by rw [Int.tdiv_eq_ediv_of_nonneg (by omega)]; omega
  have e1 : (16777216 : Int) = ((16777216 : Nat) : Int) := rfl
  have e2 : (65536 : Int) = ((65536 : Nat) : Int) := rfl
  have e3 : (256 : Int) = ((256 : Nat) : Int) := rfl
  simp only [bv, fourB, List.map_cons, List.map_nil, u8_ofNat]
  rw [e1, e2, e3, t1 _ (by decide), t1 _ (by decide), t1 _ (by decide), ← e3]
  simp only [wrap_u8, wrap_u32]
  have m1 : ∀ x : Nat, ((x : Int) % 4294967296).tmod 256 = ((x : Int) % 4294967296) % 256 := fun x => Int.tmod_eq_emod_of_nonneg (by omega)
  have m2 : (n.toNat : Int).tmod 256 = (n.toNat : Int) % 256 := Int.tmod_eq_emod_of_nonneg (by omega)
  rw [m1, m1, m2]
  congr 1
  congr 1
  · congr 1; omega
  congr 1
  · congr 1; omega
  congr 1
  · congr 1; omega
  congr 1
  congr 1
  omega

theorem numU_fourB (n : UInt32) : numU (fourB n) = n := by
  apply UInt32.toNat_inj.1
  rw [numU_toNat]
  have := n.toNat_lt
  simp only [fourB, valN, List.foldl_cons, List.foldl_nil, UInt8.toNat_ofNat']
  omega

end Go.VL
