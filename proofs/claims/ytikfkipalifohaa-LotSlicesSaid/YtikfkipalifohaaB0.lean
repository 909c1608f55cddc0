/- The types of the program: size, zero value, fields. Printed by a program of this session (mkti.py). -/
import Derived.Test.YtikfkipalifohaaA19
import Derived.Test.YtikfkipalifohaaProg
namespace Go.Proofs.Ytikfkipalifohaa
open Go Go.Proofs.Ytikfkipalifohaa.A
theorem mix : Go.Proofs.Try.prog.follows .mixedOrders = true := by kernel_rfl
@[simp] theorem ti_2 : ti Go.Proofs.Try.prog 2 = ⟨true, 1, 8, [SV.d (PV.int IntKind.i64 0)], (TK.int IntKind.i64)⟩ := by kernel_rfl
@[simp] theorem co_2 : Go.Proofs.Try.prog.cellsOf 2 = 1 := by kernel_rfl
@[simp] theorem ti_3 : ti Go.Proofs.Try.prog 3 = ⟨true, 1, 8, [SV.d (PV.int IntKind.i64 0)], (TK.int IntKind.i64)⟩ := by kernel_rfl
@[simp] theorem co_3 : Go.Proofs.Try.prog.cellsOf 3 = 1 := by kernel_rfl
@[simp] theorem ti_4 : ti Go.Proofs.Try.prog 4 = ⟨true, 1, 1, [SV.d (PV.bool false)], TK.plain⟩ := by kernel_rfl
@[simp] theorem co_4 : Go.Proofs.Try.prog.cellsOf 4 = 1 := by kernel_rfl
@[simp] theorem ti_5 : ti Go.Proofs.Try.prog 5 = ⟨true, 1, 1, [SV.d (PV.int IntKind.u8 0)], (TK.int IntKind.u8)⟩ := by kernel_rfl
@[simp] theorem co_5 : Go.Proofs.Try.prog.cellsOf 5 = 1 := by kernel_rfl
@[simp] theorem ti_6 : ti Go.Proofs.Try.prog 6 = ⟨true, 1, 1, [SV.d (PV.int IntKind.u8 0)], (TK.int IntKind.u8)⟩ := by kernel_rfl
@[simp] theorem co_6 : Go.Proofs.Try.prog.cellsOf 6 = 1 := by kernel_rfl
@[simp] theorem ti_7 : ti Go.Proofs.Try.prog 7 = ⟨true, 4, 24, [SV.d (PV.int IntKind.i64 0), SV.d (PV.int IntKind.i64 0), SV.d (PV.bool false), SV.d (PV.int IntKind.u8 0)], (TK.struct [(0, 1), (1, 1), (2, 1), (3, 1)])⟩ := by kernel_rfl
@[simp] theorem co_7 : Go.Proofs.Try.prog.cellsOf 7 = 4 := by kernel_rfl
@[simp] theorem ti_8 : ti Go.Proofs.Try.prog 8 = ⟨true, 4, 24, [SV.d (PV.int IntKind.i64 0), SV.d (PV.int IntKind.i64 0), SV.d (PV.bool false), SV.d (PV.int IntKind.u8 0)], (TK.struct [(0, 1), (1, 1), (2, 1), (3, 1)])⟩ := by kernel_rfl
@[simp] theorem co_8 : Go.Proofs.Try.prog.cellsOf 8 = 4 := by kernel_rfl
@[simp] theorem ti_9 : ti Go.Proofs.Try.prog 9 = ⟨true, 1, 16, [SV.d (PV.str (ByteArray.mk (Array.mk [])))], TK.str⟩ := by kernel_rfl
@[simp] theorem co_9 : Go.Proofs.Try.prog.cellsOf 9 = 1 := by kernel_rfl
@[simp] theorem ti_10 : ti Go.Proofs.Try.prog 10 = ⟨true, 1, 16, [SV.d (PV.str (ByteArray.mk (Array.mk [])))], TK.str⟩ := by kernel_rfl
@[simp] theorem co_10 : Go.Proofs.Try.prog.cellsOf 10 = 1 := by kernel_rfl
@[simp] theorem ti_11 : ti Go.Proofs.Try.prog 11 = ⟨true, 1, 16, [SV.d (PV.str (ByteArray.mk (Array.mk [])))], TK.str⟩ := by kernel_rfl
@[simp] theorem co_11 : Go.Proofs.Try.prog.cellsOf 11 = 1 := by kernel_rfl
@[simp] theorem ti_12 : ti Go.Proofs.Try.prog 12 = ⟨true, 1, 8, [SV.d (PV.int IntKind.u64 0)], (TK.int IntKind.u64)⟩ := by kernel_rfl
@[simp] theorem co_12 : Go.Proofs.Try.prog.cellsOf 12 = 1 := by kernel_rfl
@[simp] theorem ti_13 : ti Go.Proofs.Try.prog 13 = ⟨true, 2, 24, [SV.d (PV.str (ByteArray.mk (Array.mk []))), SV.d (PV.int IntKind.u64 0)], (TK.struct [(0, 1), (1, 1)])⟩ := by kernel_rfl
@[simp] theorem co_13 : Go.Proofs.Try.prog.cellsOf 13 = 2 := by kernel_rfl
@[simp] theorem ti_14 : ti Go.Proofs.Try.prog 14 = ⟨true, 2, 24, [SV.d (PV.str (ByteArray.mk (Array.mk []))), SV.d (PV.int IntKind.u64 0)], (TK.struct [(0, 1), (1, 1)])⟩ := by kernel_rfl
@[simp] theorem co_14 : Go.Proofs.Try.prog.cellsOf 14 = 2 := by kernel_rfl
@[simp] theorem ti_15 : ti Go.Proofs.Try.prog 15 = ⟨true, 1, 8, [SV.junk], TK.plain⟩ := by kernel_rfl
@[simp] theorem co_15 : Go.Proofs.Try.prog.cellsOf 15 = 1 := by kernel_rfl
@[simp] theorem ti_16 : ti Go.Proofs.Try.prog 16 = ⟨true, 1, 8, [SV.junk], TK.plain⟩ := by kernel_rfl
@[simp] theorem co_16 : Go.Proofs.Try.prog.cellsOf 16 = 1 := by kernel_rfl
@[simp] theorem ti_17 : ti Go.Proofs.Try.prog 17 = ⟨true, 1, 8, [SV.junk], TK.plain⟩ := by kernel_rfl
@[simp] theorem co_17 : Go.Proofs.Try.prog.cellsOf 17 = 1 := by kernel_rfl
@[simp] theorem ti_18 : ti Go.Proofs.Try.prog 18 = ⟨true, 1, 8, [SV.junk], (TK.struct [(0, 1)])⟩ := by kernel_rfl
@[simp] theorem co_18 : Go.Proofs.Try.prog.cellsOf 18 = 1 := by kernel_rfl
@[simp] theorem ti_19 : ti Go.Proofs.Try.prog 19 = ⟨true, 1, 8, [SV.junk], (TK.struct [(0, 1)])⟩ := by kernel_rfl
@[simp] theorem co_19 : Go.Proofs.Try.prog.cellsOf 19 = 1 := by kernel_rfl
@[simp] theorem ti_21 : ti Go.Proofs.Try.prog 21 = ⟨true, 1, 4, [SV.d (PV.int IntKind.i32 0)], (TK.int IntKind.i32)⟩ := by kernel_rfl
@[simp] theorem co_21 : Go.Proofs.Try.prog.cellsOf 21 = 1 := by kernel_rfl
@[simp] theorem ti_22 : ti Go.Proofs.Try.prog 22 = ⟨true, 1, 8, [SV.d (PV.int IntKind.u64 0)], (TK.int IntKind.u64)⟩ := by kernel_rfl
@[simp] theorem co_22 : Go.Proofs.Try.prog.cellsOf 22 = 1 := by kernel_rfl
@[simp] theorem ti_23 : ti Go.Proofs.Try.prog 23 = ⟨true, 2, 16, [SV.d (PV.int IntKind.i64 0), SV.d (PV.int IntKind.u64 0)], (TK.struct [(0, 1), (1, 1)])⟩ := by kernel_rfl
@[simp] theorem co_23 : Go.Proofs.Try.prog.cellsOf 23 = 2 := by kernel_rfl
@[simp] theorem ti_24 : ti Go.Proofs.Try.prog 24 = ⟨true, 2, 16, [SV.d (PV.int IntKind.i64 0), SV.d (PV.int IntKind.u64 0)], (TK.struct [(0, 1), (1, 1)])⟩ := by kernel_rfl
@[simp] theorem co_24 : Go.Proofs.Try.prog.cellsOf 24 = 2 := by kernel_rfl
@[simp] theorem ti_25 : ti Go.Proofs.Try.prog 25 = ⟨true, 1, 2, [SV.d (PV.int IntKind.u16 0)], (TK.int IntKind.u16)⟩ := by kernel_rfl
@[simp] theorem co_25 : Go.Proofs.Try.prog.cellsOf 25 = 1 := by kernel_rfl
@[simp] theorem ti_29 : ti Go.Proofs.Try.prog 29 = ⟨true, 1, 24, [SV.nils], (TK.slice 22)⟩ := by kernel_rfl
@[simp] theorem co_29 : Go.Proofs.Try.prog.cellsOf 29 = 1 := by kernel_rfl
@[simp] theorem ti_30 : ti Go.Proofs.Try.prog 30 = ⟨true, 2, 32, [SV.d (PV.bool false), SV.nils], (TK.struct [(0, 1), (1, 1)])⟩ := by kernel_rfl
@[simp] theorem co_30 : Go.Proofs.Try.prog.cellsOf 30 = 2 := by kernel_rfl
@[simp] theorem ti_31 : ti Go.Proofs.Try.prog 31 = ⟨true, 2, 32, [SV.d (PV.bool false), SV.nils], (TK.struct [(0, 1), (1, 1)])⟩ := by kernel_rfl
@[simp] theorem co_31 : Go.Proofs.Try.prog.cellsOf 31 = 2 := by kernel_rfl
@[simp] theorem ti_36 : ti Go.Proofs.Try.prog 36 = ⟨true, 1, 24, [SV.nils], (TK.slice 72)⟩ := by kernel_rfl
@[simp] theorem co_36 : Go.Proofs.Try.prog.cellsOf 36 = 1 := by kernel_rfl
@[simp] theorem ti_37 : ti Go.Proofs.Try.prog 37 = ⟨true, 7, 72, [SV.nils, SV.d (PV.int IntKind.i64 0), SV.d (PV.int IntKind.i64 0), SV.d (PV.int IntKind.i64 0), SV.d (PV.int IntKind.i64 0), SV.d (PV.int IntKind.i64 0), SV.d (PV.int IntKind.i64 0)], (TK.struct [(0, 1), (1, 1), (2, 1), (3, 1), (4, 1), (5, 1), (6, 1)])⟩ := by kernel_rfl
@[simp] theorem co_37 : Go.Proofs.Try.prog.cellsOf 37 = 7 := by kernel_rfl
@[simp] theorem ti_38 : ti Go.Proofs.Try.prog 38 = ⟨true, 7, 72, [SV.nils, SV.d (PV.int IntKind.i64 0), SV.d (PV.int IntKind.i64 0), SV.d (PV.int IntKind.i64 0), SV.d (PV.int IntKind.i64 0), SV.d (PV.int IntKind.i64 0), SV.d (PV.int IntKind.i64 0)], (TK.struct [(0, 1), (1, 1), (2, 1), (3, 1), (4, 1), (5, 1), (6, 1)])⟩ := by kernel_rfl
@[simp] theorem co_38 : Go.Proofs.Try.prog.cellsOf 38 = 7 := by kernel_rfl
@[simp] theorem ti_39 : ti Go.Proofs.Try.prog 39 = ⟨true, 1, 24, [SV.nils], (TK.slice 74)⟩ := by kernel_rfl
@[simp] theorem co_39 : Go.Proofs.Try.prog.cellsOf 39 = 1 := by kernel_rfl
@[simp] theorem ti_40 : ti Go.Proofs.Try.prog 40 = ⟨true, 1, 24, [SV.nils], (TK.slice 76)⟩ := by kernel_rfl
@[simp] theorem co_40 : Go.Proofs.Try.prog.cellsOf 40 = 1 := by kernel_rfl
@[simp] theorem ti_41 : ti Go.Proofs.Try.prog 41 = ⟨true, 1, 24, [SV.nils], (TK.slice 107)⟩ := by kernel_rfl
@[simp] theorem co_41 : Go.Proofs.Try.prog.cellsOf 41 = 1 := by kernel_rfl
@[simp] theorem ti_42 : ti Go.Proofs.Try.prog 42 = ⟨true, 1, 24, [SV.nils], (TK.slice 78)⟩ := by kernel_rfl
@[simp] theorem co_42 : Go.Proofs.Try.prog.cellsOf 42 = 1 := by kernel_rfl
@[simp] theorem ti_43 : ti Go.Proofs.Try.prog 43 = ⟨true, 1, 24, [SV.nils], (TK.slice 2)⟩ := by kernel_rfl
@[simp] theorem co_43 : Go.Proofs.Try.prog.cellsOf 43 = 1 := by kernel_rfl
@[simp] theorem ti_44 : ti Go.Proofs.Try.prog 44 = ⟨true, 1, 24, [SV.nils], (TK.slice 111)⟩ := by kernel_rfl
@[simp] theorem co_44 : Go.Proofs.Try.prog.cellsOf 44 = 1 := by kernel_rfl
@[simp] theorem ti_45 : ti Go.Proofs.Try.prog 45 = ⟨true, 6, 144, [SV.nils, SV.nils, SV.nils, SV.nils, SV.nils, SV.nils], (TK.struct [(0, 1), (1, 1), (2, 1), (3, 1), (4, 1), (5, 1)])⟩ := by kernel_rfl
@[simp] theorem co_45 : Go.Proofs.Try.prog.cellsOf 45 = 6 := by kernel_rfl
@[simp] theorem ti_46 : ti Go.Proofs.Try.prog 46 = ⟨true, 6, 144, [SV.nils, SV.nils, SV.nils, SV.nils, SV.nils, SV.nils], (TK.struct [(0, 1), (1, 1), (2, 1), (3, 1), (4, 1), (5, 1)])⟩ := by kernel_rfl
@[simp] theorem co_46 : Go.Proofs.Try.prog.cellsOf 46 = 6 := by kernel_rfl
@[simp] theorem ti_49 : ti Go.Proofs.Try.prog 49 = ⟨true, 1, 24, [SV.nils], (TK.slice 55)⟩ := by kernel_rfl
@[simp] theorem co_49 : Go.Proofs.Try.prog.cellsOf 49 = 1 := by kernel_rfl
@[simp] theorem ti_50 : ti Go.Proofs.Try.prog 50 = ⟨true, 1, 8, [SV.d (PV.int IntKind.i64 0)], (TK.int IntKind.i64)⟩ := by kernel_rfl
@[simp] theorem co_50 : Go.Proofs.Try.prog.cellsOf 50 = 1 := by kernel_rfl
@[simp] theorem ti_53 : ti Go.Proofs.Try.prog 53 = ⟨true, 1, 24, [SV.nils], (TK.slice 60)⟩ := by kernel_rfl
@[simp] theorem co_53 : Go.Proofs.Try.prog.cellsOf 53 = 1 := by kernel_rfl
@[simp] theorem ti_54 : ti Go.Proofs.Try.prog 54 = ⟨true, 6, 64, [SV.d (PV.int IntKind.i64 0), SV.nils, SV.d (PV.int IntKind.i64 0), SV.d (PV.int IntKind.i64 0), SV.d (PV.int IntKind.i64 0), SV.d (PV.int IntKind.i64 0)], (TK.struct [(0, 1), (1, 1), (2, 1), (3, 1), (4, 1), (5, 1)])⟩ := by kernel_rfl
@[simp] theorem co_54 : Go.Proofs.Try.prog.cellsOf 54 = 6 := by kernel_rfl
@[simp] theorem ti_55 : ti Go.Proofs.Try.prog 55 = ⟨true, 6, 64, [SV.d (PV.int IntKind.i64 0), SV.nils, SV.d (PV.int IntKind.i64 0), SV.d (PV.int IntKind.i64 0), SV.d (PV.int IntKind.i64 0), SV.d (PV.int IntKind.i64 0)], (TK.struct [(0, 1), (1, 1), (2, 1), (3, 1), (4, 1), (5, 1)])⟩ := by kernel_rfl
@[simp] theorem co_55 : Go.Proofs.Try.prog.cellsOf 55 = 6 := by kernel_rfl
@[simp] theorem ti_59 : ti Go.Proofs.Try.prog 59 = ⟨true, 2, 16, [SV.d (PV.int IntKind.i64 0), SV.d (PV.int IntKind.i64 0)], (TK.struct [(0, 1), (1, 1)])⟩ := by kernel_rfl
@[simp] theorem co_59 : Go.Proofs.Try.prog.cellsOf 59 = 2 := by kernel_rfl
@[simp] theorem ti_60 : ti Go.Proofs.Try.prog 60 = ⟨true, 2, 16, [SV.d (PV.int IntKind.i64 0), SV.d (PV.int IntKind.i64 0)], (TK.struct [(0, 1), (1, 1)])⟩ := by kernel_rfl
@[simp] theorem co_60 : Go.Proofs.Try.prog.cellsOf 60 = 2 := by kernel_rfl
@[simp] theorem ti_70 : ti Go.Proofs.Try.prog 70 = ⟨true, 1, 8, [SV.d (PV.int IntKind.u64 0)], (TK.int IntKind.u64)⟩ := by kernel_rfl
@[simp] theorem co_70 : Go.Proofs.Try.prog.cellsOf 70 = 1 := by kernel_rfl
@[simp] theorem ti_71 : ti Go.Proofs.Try.prog 71 = ⟨true, 4, 32, [SV.d (PV.int IntKind.i64 0), SV.d (PV.int IntKind.i64 0), SV.d (PV.int IntKind.i64 0), SV.d (PV.int IntKind.i64 0)], (TK.struct [(0, 1), (1, 1), (2, 1), (3, 1)])⟩ := by kernel_rfl
@[simp] theorem co_71 : Go.Proofs.Try.prog.cellsOf 71 = 4 := by kernel_rfl
@[simp] theorem ti_72 : ti Go.Proofs.Try.prog 72 = ⟨true, 4, 32, [SV.d (PV.int IntKind.i64 0), SV.d (PV.int IntKind.i64 0), SV.d (PV.int IntKind.i64 0), SV.d (PV.int IntKind.i64 0)], (TK.struct [(0, 1), (1, 1), (2, 1), (3, 1)])⟩ := by kernel_rfl
@[simp] theorem co_72 : Go.Proofs.Try.prog.cellsOf 72 = 4 := by kernel_rfl
@[simp] theorem ti_73 : ti Go.Proofs.Try.prog 73 = ⟨true, 2, 16, [SV.d (PV.int IntKind.i64 0), SV.d (PV.int IntKind.i64 0)], (TK.struct [(0, 1), (1, 1)])⟩ := by kernel_rfl
@[simp] theorem co_73 : Go.Proofs.Try.prog.cellsOf 73 = 2 := by kernel_rfl
@[simp] theorem ti_74 : ti Go.Proofs.Try.prog 74 = ⟨true, 2, 16, [SV.d (PV.int IntKind.i64 0), SV.d (PV.int IntKind.i64 0)], (TK.struct [(0, 1), (1, 1)])⟩ := by kernel_rfl
@[simp] theorem co_74 : Go.Proofs.Try.prog.cellsOf 74 = 2 := by kernel_rfl
@[simp] theorem ti_75 : ti Go.Proofs.Try.prog 75 = ⟨true, 4, 32, [SV.d (PV.int IntKind.i64 0), SV.d (PV.int IntKind.i64 0), SV.d (PV.int IntKind.i64 0), SV.d (PV.int IntKind.i64 0)], (TK.struct [(0, 1), (1, 1), (2, 1), (3, 1)])⟩ := by kernel_rfl
@[simp] theorem co_75 : Go.Proofs.Try.prog.cellsOf 75 = 4 := by kernel_rfl
@[simp] theorem ti_76 : ti Go.Proofs.Try.prog 76 = ⟨true, 4, 32, [SV.d (PV.int IntKind.i64 0), SV.d (PV.int IntKind.i64 0), SV.d (PV.int IntKind.i64 0), SV.d (PV.int IntKind.i64 0)], (TK.struct [(0, 1), (1, 1), (2, 1), (3, 1)])⟩ := by kernel_rfl
@[simp] theorem co_76 : Go.Proofs.Try.prog.cellsOf 76 = 4 := by kernel_rfl
@[simp] theorem ti_77 : ti Go.Proofs.Try.prog 77 = ⟨true, 3, 24, [SV.d (PV.int IntKind.i64 0), SV.d (PV.int IntKind.i64 0), SV.d (PV.int IntKind.i64 0)], (TK.struct [(0, 1), (1, 1), (2, 1)])⟩ := by kernel_rfl
@[simp] theorem co_77 : Go.Proofs.Try.prog.cellsOf 77 = 3 := by kernel_rfl
@[simp] theorem ti_78 : ti Go.Proofs.Try.prog 78 = ⟨true, 3, 24, [SV.d (PV.int IntKind.i64 0), SV.d (PV.int IntKind.i64 0), SV.d (PV.int IntKind.i64 0)], (TK.struct [(0, 1), (1, 1), (2, 1)])⟩ := by kernel_rfl
@[simp] theorem co_78 : Go.Proofs.Try.prog.cellsOf 78 = 3 := by kernel_rfl
@[simp] theorem ti_84 : ti Go.Proofs.Try.prog 84 = ⟨true, 1, 24, [SV.nils], (TK.slice 53)⟩ := by kernel_rfl
@[simp] theorem co_84 : Go.Proofs.Try.prog.cellsOf 84 = 1 := by kernel_rfl
@[simp] theorem ti_106 : ti Go.Proofs.Try.prog 106 = ⟨true, 3, 24, [SV.d (PV.int IntKind.i64 0), SV.d (PV.int IntKind.i64 0), SV.d (PV.int IntKind.i64 0)], (TK.struct [(0, 1), (1, 1), (2, 1)])⟩ := by kernel_rfl
@[simp] theorem co_106 : Go.Proofs.Try.prog.cellsOf 106 = 3 := by kernel_rfl
@[simp] theorem ti_107 : ti Go.Proofs.Try.prog 107 = ⟨true, 3, 24, [SV.d (PV.int IntKind.i64 0), SV.d (PV.int IntKind.i64 0), SV.d (PV.int IntKind.i64 0)], (TK.struct [(0, 1), (1, 1), (2, 1)])⟩ := by kernel_rfl
@[simp] theorem co_107 : Go.Proofs.Try.prog.cellsOf 107 = 3 := by kernel_rfl
@[simp] theorem ti_110 : ti Go.Proofs.Try.prog 110 = ⟨true, 6, 48, [SV.d (PV.int IntKind.i64 0), SV.d (PV.int IntKind.i64 0), SV.d (PV.int IntKind.i64 0), SV.d (PV.int IntKind.i64 0), SV.d (PV.int IntKind.i64 0), SV.d (PV.int IntKind.i64 0)], (TK.struct [(0, 1), (1, 1), (2, 1), (3, 1), (4, 1), (5, 1)])⟩ := by kernel_rfl
@[simp] theorem co_110 : Go.Proofs.Try.prog.cellsOf 110 = 6 := by kernel_rfl
@[simp] theorem ti_111 : ti Go.Proofs.Try.prog 111 = ⟨true, 6, 48, [SV.d (PV.int IntKind.i64 0), SV.d (PV.int IntKind.i64 0), SV.d (PV.int IntKind.i64 0), SV.d (PV.int IntKind.i64 0), SV.d (PV.int IntKind.i64 0), SV.d (PV.int IntKind.i64 0)], (TK.struct [(0, 1), (1, 1), (2, 1), (3, 1), (4, 1), (5, 1)])⟩ := by kernel_rfl
@[simp] theorem co_111 : Go.Proofs.Try.prog.cellsOf 111 = 6 := by kernel_rfl
@[simp] theorem ti_125 : ti Go.Proofs.Try.prog 125 = ⟨true, 1, 24, [SV.nils], (TK.slice 24)⟩ := by kernel_rfl
@[simp] theorem co_125 : Go.Proofs.Try.prog.cellsOf 125 = 1 := by kernel_rfl
@[simp] theorem ti_137 : ti Go.Proofs.Try.prog 137 = ⟨true, 1, 24, [SV.nils], (TK.slice 3)⟩ := by kernel_rfl
@[simp] theorem co_137 : Go.Proofs.Try.prog.cellsOf 137 = 1 := by kernel_rfl
@[simp] theorem ti_141 : ti Go.Proofs.Try.prog 141 = ⟨true, 13, 13, [SV.d (PV.bool false), SV.d (PV.bool false), SV.d (PV.bool false), SV.d (PV.bool false), SV.d (PV.bool false), SV.d (PV.bool false), SV.d (PV.bool false), SV.d (PV.bool false), SV.d (PV.bool false), SV.d (PV.bool false), SV.d (PV.bool false), SV.d (PV.bool false), SV.d (PV.bool false)], (TK.arr 13 4)⟩ := by kernel_rfl
@[simp] theorem co_141 : Go.Proofs.Try.prog.cellsOf 141 = 13 := by kernel_rfl
@[simp] theorem ti_145 : ti Go.Proofs.Try.prog 145 = ⟨true, 1, 4, [SV.d (PV.int IntKind.u32 0)], (TK.int IntKind.u32)⟩ := by kernel_rfl
@[simp] theorem co_145 : Go.Proofs.Try.prog.cellsOf 145 = 1 := by kernel_rfl
@[simp] theorem ti_154 : ti Go.Proofs.Try.prog 154 = ⟨true, 1, 8, [SV.junk], TK.plain⟩ := by kernel_rfl
@[simp] theorem co_154 : Go.Proofs.Try.prog.cellsOf 154 = 1 := by kernel_rfl
@[simp] theorem ti_156 : ti Go.Proofs.Try.prog 156 = ⟨true, 4, 40, [SV.junk, SV.junk, SV.junk, SV.d (PV.str (ByteArray.mk (Array.mk [])))], (TK.struct [(0, 1), (1, 1), (2, 1), (3, 1)])⟩ := by kernel_rfl
@[simp] theorem co_156 : Go.Proofs.Try.prog.cellsOf 156 = 4 := by kernel_rfl
@[simp] theorem ti_157 : ti Go.Proofs.Try.prog 157 = ⟨true, 4, 40, [SV.junk, SV.junk, SV.junk, SV.d (PV.str (ByteArray.mk (Array.mk [])))], (TK.struct [(0, 1), (1, 1), (2, 1), (3, 1)])⟩ := by kernel_rfl
@[simp] theorem co_157 : Go.Proofs.Try.prog.cellsOf 157 = 4 := by kernel_rfl
@[simp] theorem ti_158 : ti Go.Proofs.Try.prog 158 = ⟨true, 0, 0, [], (TK.arr 0 16)⟩ := by kernel_rfl
@[simp] theorem co_158 : Go.Proofs.Try.prog.cellsOf 158 = 0 := by kernel_rfl
@[simp] theorem ti_159 : ti Go.Proofs.Try.prog 159 = ⟨true, 0, 0, [], (TK.struct [(0, 0)])⟩ := by kernel_rfl
@[simp] theorem co_159 : Go.Proofs.Try.prog.cellsOf 159 = 0 := by kernel_rfl
@[simp] theorem ti_160 : ti Go.Proofs.Try.prog 160 = ⟨true, 0, 0, [], (TK.struct [(0, 0)])⟩ := by kernel_rfl
@[simp] theorem co_160 : Go.Proofs.Try.prog.cellsOf 160 = 0 := by kernel_rfl
@[simp] theorem ti_162 : ti Go.Proofs.Try.prog 162 = ⟨true, 1, 1, [SV.d (PV.int IntKind.u8 0)], (TK.int IntKind.u8)⟩ := by kernel_rfl
@[simp] theorem co_162 : Go.Proofs.Try.prog.cellsOf 162 = 1 := by kernel_rfl
@[simp] theorem ti_163 : ti Go.Proofs.Try.prog 163 = ⟨true, 1, 1, [SV.d (PV.int IntKind.u8 0)], (TK.int IntKind.u8)⟩ := by kernel_rfl
@[simp] theorem co_163 : Go.Proofs.Try.prog.cellsOf 163 = 1 := by kernel_rfl
@[simp] theorem ti_165 : ti Go.Proofs.Try.prog 165 = ⟨true, 1, 8, [SV.junk], TK.plain⟩ := by kernel_rfl
@[simp] theorem co_165 : Go.Proofs.Try.prog.cellsOf 165 = 1 := by kernel_rfl
@[simp] theorem ti_166 : ti Go.Proofs.Try.prog 166 = ⟨true, 1, 4, [SV.d (PV.int IntKind.i32 0)], (TK.int IntKind.i32)⟩ := by kernel_rfl
@[simp] theorem co_166 : Go.Proofs.Try.prog.cellsOf 166 = 1 := by kernel_rfl
@[simp] theorem ti_167 : ti Go.Proofs.Try.prog 167 = ⟨true, 1, 4, [SV.d (PV.int IntKind.i32 0)], (TK.int IntKind.i32)⟩ := by kernel_rfl
@[simp] theorem co_167 : Go.Proofs.Try.prog.cellsOf 167 = 1 := by kernel_rfl
@[simp] theorem ti_168 : ti Go.Proofs.Try.prog 168 = ⟨true, 11, 48, [SV.d (PV.int IntKind.u64 0), SV.d (PV.int IntKind.u64 0), SV.d (PV.int IntKind.u32 0), SV.d (PV.int IntKind.u8 0), SV.d (PV.int IntKind.u8 0), SV.d (PV.int IntKind.u8 0), SV.d (PV.int IntKind.u8 0), SV.junk, SV.junk, SV.d (PV.int IntKind.i32 0), SV.d (PV.int IntKind.i32 0)], (TK.struct [(0, 1), (1, 1), (2, 1), (3, 1), (4, 1), (5, 1), (6, 1), (7, 1), (8, 1), (9, 1), (10, 1)])⟩ := by kernel_rfl
@[simp] theorem co_168 : Go.Proofs.Try.prog.cellsOf 168 = 11 := by kernel_rfl
@[simp] theorem ti_169 : ti Go.Proofs.Try.prog 169 = ⟨true, 11, 48, [SV.d (PV.int IntKind.u64 0), SV.d (PV.int IntKind.u64 0), SV.d (PV.int IntKind.u32 0), SV.d (PV.int IntKind.u8 0), SV.d (PV.int IntKind.u8 0), SV.d (PV.int IntKind.u8 0), SV.d (PV.int IntKind.u8 0), SV.junk, SV.junk, SV.d (PV.int IntKind.i32 0), SV.d (PV.int IntKind.i32 0)], (TK.struct [(0, 1), (1, 1), (2, 1), (3, 1), (4, 1), (5, 1), (6, 1), (7, 1), (8, 1), (9, 1), (10, 1)])⟩ := by kernel_rfl
@[simp] theorem co_169 : Go.Proofs.Try.prog.cellsOf 169 = 11 := by kernel_rfl
@[simp] theorem ti_170 : ti Go.Proofs.Try.prog 170 = ⟨true, 1, 16, [SV.d (PV.str (ByteArray.mk (Array.mk [])))], (TK.struct [(0, 1)])⟩ := by kernel_rfl
@[simp] theorem co_170 : Go.Proofs.Try.prog.cellsOf 170 = 1 := by kernel_rfl
@[simp] theorem ti_171 : ti Go.Proofs.Try.prog 171 = ⟨true, 1, 16, [SV.d (PV.str (ByteArray.mk (Array.mk [])))], (TK.struct [(0, 1)])⟩ := by kernel_rfl
@[simp] theorem co_171 : Go.Proofs.Try.prog.cellsOf 171 = 1 := by kernel_rfl
end Go.Proofs.Ytikfkipalifohaa
