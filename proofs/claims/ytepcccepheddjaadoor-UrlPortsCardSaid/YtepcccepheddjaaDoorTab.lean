/-
  The table of the program's types, as the evaluator reads it. No claim by itself. (Printed by mktab.py.)
-/
import Derived.Test.YtepcccepheddjaaDoorSlM4
import Derived.Test.YtepcccepheddjaaDoorProg
set_option maxRecDepth 100000
namespace Go.Proofs
open Go Go.Proofs.SL
@[go_sem] theorem Tryd.td0 : tdOf Tryd.prog 0 = some { k := TK.other, size := 1, agg := false, bytes := 0, zero := PV.any } := by kernel_rfl
@[go_sem] theorem Tryd.td1 : tdOf Tryd.prog 1 = some { k := TK.func, size := 1, agg := false, bytes := 8, zero := PV.nilf } := by kernel_rfl
@[go_sem] theorem Tryd.td2 : tdOf Tryd.prog 2 = some { k := TK.int IntKind.i64, size := 1, agg := false, bytes := 8, zero := PV.int IntKind.i64 0, tags := some [Tag.i IntKind.i64] } := by kernel_rfl
@[go_sem] theorem Tryd.td3 : tdOf Tryd.prog 3 = some { k := TK.int IntKind.i64, size := 1, agg := false, bytes := 8, zero := PV.int IntKind.i64 0, tags := some [Tag.i IntKind.i64] } := by kernel_rfl
@[go_sem] theorem Tryd.td4 : tdOf Tryd.prog 4 = some { k := TK.bool, size := 1, agg := false, bytes := 1, zero := PV.bool false, tags := some [Tag.b] } := by kernel_rfl
@[go_sem] theorem Tryd.td5 : tdOf Tryd.prog 5 = some { k := TK.int IntKind.u8, size := 1, agg := false, bytes := 1, zero := PV.int IntKind.u8 0, tags := some [Tag.i IntKind.u8] } := by kernel_rfl
@[go_sem] theorem Tryd.td6 : tdOf Tryd.prog 6 = some { k := TK.int IntKind.u8, size := 1, agg := false, bytes := 1, zero := PV.int IntKind.u8 0, tags := some [Tag.i IntKind.u8] } := by kernel_rfl
@[go_sem] theorem Tryd.td7 : tdOf Tryd.prog 7 = some { k := TK.struct [(0, 2), (1, 3), (2, 4), (3, 6)], size := 4, agg := true, bytes := 24, zero := PV.agg [PV.int IntKind.i64 0, PV.int IntKind.i64 0, PV.bool false, PV.int IntKind.u8 0], tags := some [Tag.i IntKind.i64, Tag.i IntKind.i64, Tag.b, Tag.i IntKind.u8] } := by kernel_rfl
@[go_sem] theorem Tryd.td8 : tdOf Tryd.prog 8 = some { k := TK.struct [(0, 2), (1, 3), (2, 4), (3, 6)], size := 4, agg := true, bytes := 24, zero := PV.agg [PV.int IntKind.i64 0, PV.int IntKind.i64 0, PV.bool false, PV.int IntKind.u8 0], tags := some [Tag.i IntKind.i64, Tag.i IntKind.i64, Tag.b, Tag.i IntKind.u8] } := by kernel_rfl
@[go_sem] theorem Tryd.td9 : tdOf Tryd.prog 9 = some { k := TK.str, size := 1, agg := false, bytes := 16, zero := PV.str (ByteArray.mk #[]), tags := some [Tag.s] } := by kernel_rfl
@[go_sem] theorem Tryd.td10 : tdOf Tryd.prog 10 = some { k := TK.str, size := 1, agg := false, bytes := 16, zero := PV.str (ByteArray.mk #[]), tags := some [Tag.s] } := by kernel_rfl
@[go_sem] theorem Tryd.td11 : tdOf Tryd.prog 11 = some { k := TK.str, size := 1, agg := false, bytes := 16, zero := PV.str (ByteArray.mk #[]), tags := some [Tag.s] } := by kernel_rfl
@[go_sem] theorem Tryd.td12 : tdOf Tryd.prog 12 = some { k := TK.int IntKind.u64, size := 1, agg := false, bytes := 8, zero := PV.int IntKind.u64 0, tags := some [Tag.i IntKind.u64] } := by kernel_rfl
@[go_sem] theorem Tryd.td13 : tdOf Tryd.prog 13 = some { k := TK.struct [(0, 9), (1, 12)], size := 2, agg := true, bytes := 24, zero := PV.agg [PV.str (ByteArray.mk #[]), PV.int IntKind.u64 0] } := by kernel_rfl
@[go_sem] theorem Tryd.td14 : tdOf Tryd.prog 14 = some { k := TK.struct [(0, 9), (1, 12)], size := 2, agg := true, bytes := 24, zero := PV.agg [PV.str (ByteArray.mk #[]), PV.int IntKind.u64 0] } := by kernel_rfl
@[go_sem] theorem Tryd.td15 : tdOf Tryd.prog 15 = some { k := TK.ptr 127, size := 1, agg := false, bytes := 8, zero := PV.nilp } := by kernel_rfl
@[go_sem] theorem Tryd.td16 : tdOf Tryd.prog 16 = some { k := TK.ptr 130, size := 1, agg := false, bytes := 8, zero := PV.nilp } := by kernel_rfl
@[go_sem] theorem Tryd.td17 : tdOf Tryd.prog 17 = some { k := TK.ptr 138, size := 1, agg := false, bytes := 8, zero := PV.nilp } := by kernel_rfl
@[go_sem] theorem Tryd.td18 : tdOf Tryd.prog 18 = some { k := TK.struct [(0, 17)], size := 1, agg := true, bytes := 8, zero := PV.agg [PV.nilp] } := by kernel_rfl
@[go_sem] theorem Tryd.td19 : tdOf Tryd.prog 19 = some { k := TK.struct [(0, 17)], size := 1, agg := true, bytes := 8, zero := PV.agg [PV.nilp] } := by kernel_rfl
@[go_sem] theorem Tryd.td20 : tdOf Tryd.prog 20 = some { k := TK.iface, size := 1, agg := false, bytes := 16, zero := PV.nili } := by kernel_rfl
@[go_sem] theorem Tryd.td21 : tdOf Tryd.prog 21 = some { k := TK.int IntKind.i32, size := 1, agg := false, bytes := 4, zero := PV.int IntKind.i32 0, tags := some [Tag.i IntKind.i32] } := by kernel_rfl
@[go_sem] theorem Tryd.td22 : tdOf Tryd.prog 22 = some { k := TK.func, size := 1, agg := false, bytes := 8, zero := PV.nilf } := by kernel_rfl
@[go_sem] theorem Tryd.td23 : tdOf Tryd.prog 23 = some { k := TK.struct [(0, 9), (1, 9), (2, 3), (3, 9), (4, 9)], size := 5, agg := true, bytes := 72, zero := PV.agg [PV.str (ByteArray.mk #[]), PV.str (ByteArray.mk #[]), PV.int IntKind.i64 0, PV.str (ByteArray.mk #[]), PV.str (ByteArray.mk #[])], tags := some [Tag.s, Tag.s, Tag.i IntKind.i64, Tag.s, Tag.s] } := by kernel_rfl
@[go_sem] theorem Tryd.td24 : tdOf Tryd.prog 24 = some { k := TK.struct [(0, 9), (1, 9), (2, 3), (3, 9), (4, 9)], size := 5, agg := true, bytes := 72, zero := PV.agg [PV.str (ByteArray.mk #[]), PV.str (ByteArray.mk #[]), PV.int IntKind.i64 0, PV.str (ByteArray.mk #[]), PV.str (ByteArray.mk #[])], tags := some [Tag.s, Tag.s, Tag.i IntKind.i64, Tag.s, Tag.s] } := by kernel_rfl
@[go_sem] theorem Tryd.td25 : tdOf Tryd.prog 25 = some { k := TK.int IntKind.i64, size := 1, agg := false, bytes := 8, zero := PV.int IntKind.i64 0, tags := some [Tag.i IntKind.i64] } := by kernel_rfl
@[go_sem] theorem Tryd.td26 : tdOf Tryd.prog 26 = some { k := TK.other, size := 1, agg := false, bytes := 0, zero := PV.any } := by kernel_rfl
@[go_sem] theorem Tryd.td27 : tdOf Tryd.prog 27 = some { k := TK.func, size := 1, agg := false, bytes := 8, zero := PV.nilf } := by kernel_rfl
@[go_sem] theorem Tryd.td28 : tdOf Tryd.prog 28 = some { k := TK.func, size := 1, agg := false, bytes := 8, zero := PV.nilf } := by kernel_rfl
@[go_sem] theorem Tryd.td29 : tdOf Tryd.prog 29 = some { k := TK.func, size := 1, agg := false, bytes := 8, zero := PV.nilf } := by kernel_rfl
@[go_sem] theorem Tryd.td30 : tdOf Tryd.prog 30 = some { k := TK.func, size := 1, agg := false, bytes := 8, zero := PV.nilf } := by kernel_rfl
@[go_sem] theorem Tryd.td31 : tdOf Tryd.prog 31 = some { k := TK.func, size := 1, agg := false, bytes := 8, zero := PV.nilf } := by kernel_rfl
@[go_sem] theorem Tryd.td32 : tdOf Tryd.prog 32 = some { k := TK.other, size := 1, agg := false, bytes := 0, zero := PV.any } := by kernel_rfl
@[go_sem] theorem Tryd.td33 : tdOf Tryd.prog 33 = some { k := TK.func, size := 1, agg := false, bytes := 8, zero := PV.nilf } := by kernel_rfl
@[go_sem] theorem Tryd.td34 : tdOf Tryd.prog 34 = some { k := TK.func, size := 1, agg := false, bytes := 8, zero := PV.nilf } := by kernel_rfl
@[go_sem] theorem Tryd.td35 : tdOf Tryd.prog 35 = some { k := TK.func, size := 1, agg := false, bytes := 8, zero := PV.nilf } := by kernel_rfl
@[go_sem] theorem Tryd.td36 : tdOf Tryd.prog 36 = some { k := TK.func, size := 1, agg := false, bytes := 8, zero := PV.nilf } := by kernel_rfl
@[go_sem] theorem Tryd.td37 : tdOf Tryd.prog 37 = some { k := TK.other, size := 1, agg := false, bytes := 0, zero := PV.any } := by kernel_rfl
@[go_sem] theorem Tryd.td38 : tdOf Tryd.prog 38 = some { k := TK.func, size := 1, agg := false, bytes := 8, zero := PV.nilf } := by kernel_rfl
@[go_sem] theorem Tryd.td39 : tdOf Tryd.prog 39 = some { k := TK.other, size := 1, agg := false, bytes := 0, zero := PV.any } := by kernel_rfl
@[go_sem] theorem Tryd.td40 : tdOf Tryd.prog 40 = some { k := TK.func, size := 1, agg := false, bytes := 8, zero := PV.nilf } := by kernel_rfl
@[go_sem] theorem Tryd.td41 : tdOf Tryd.prog 41 = some { k := TK.other, size := 1, agg := false, bytes := 0, zero := PV.any } := by kernel_rfl
@[go_sem] theorem Tryd.td42 : tdOf Tryd.prog 42 = some { k := TK.func, size := 1, agg := false, bytes := 8, zero := PV.nilf } := by kernel_rfl
@[go_sem] theorem Tryd.td43 : tdOf Tryd.prog 43 = some { k := TK.slice 5, size := 1, agg := false, bytes := 24, zero := PV.nils } := by kernel_rfl
@[go_sem] theorem Tryd.td44 : tdOf Tryd.prog 44 = some { k := TK.func, size := 1, agg := false, bytes := 8, zero := PV.nilf } := by kernel_rfl
@[go_sem] theorem Tryd.td45 : tdOf Tryd.prog 45 = some { k := TK.struct [(0, 9), (1, 9), (2, 3)], size := 3, agg := true, bytes := 40, zero := PV.agg [PV.str (ByteArray.mk #[]), PV.str (ByteArray.mk #[]), PV.int IntKind.i64 0], tags := some [Tag.s, Tag.s, Tag.i IntKind.i64] } := by kernel_rfl
@[go_sem] theorem Tryd.td46 : tdOf Tryd.prog 46 = some { k := TK.struct [(0, 9), (1, 9), (2, 3)], size := 3, agg := true, bytes := 40, zero := PV.agg [PV.str (ByteArray.mk #[]), PV.str (ByteArray.mk #[]), PV.int IntKind.i64 0], tags := some [Tag.s, Tag.s, Tag.i IntKind.i64] } := by kernel_rfl
@[go_sem] theorem Tryd.td47 : tdOf Tryd.prog 47 = some { k := TK.func, size := 1, agg := false, bytes := 8, zero := PV.nilf } := by kernel_rfl
@[go_sem] theorem Tryd.td48 : tdOf Tryd.prog 48 = some { k := TK.func, size := 1, agg := false, bytes := 8, zero := PV.nilf } := by kernel_rfl
@[go_sem] theorem Tryd.td49 : tdOf Tryd.prog 49 = some { k := TK.func, size := 1, agg := false, bytes := 8, zero := PV.nilf } := by kernel_rfl
@[go_sem] theorem Tryd.td50 : tdOf Tryd.prog 50 = some { k := TK.func, size := 1, agg := false, bytes := 8, zero := PV.nilf } := by kernel_rfl
@[go_sem] theorem Tryd.td51 : tdOf Tryd.prog 51 = some { k := TK.func, size := 1, agg := false, bytes := 8, zero := PV.nilf } := by kernel_rfl
@[go_sem] theorem Tryd.td52 : tdOf Tryd.prog 52 = some { k := TK.func, size := 1, agg := false, bytes := 8, zero := PV.nilf } := by kernel_rfl
@[go_sem] theorem Tryd.td53 : tdOf Tryd.prog 53 = some { k := TK.other, size := 1, agg := false, bytes := 0, zero := PV.any } := by kernel_rfl
@[go_sem] theorem Tryd.td54 : tdOf Tryd.prog 54 = some { k := TK.func, size := 1, agg := false, bytes := 8, zero := PV.nilf } := by kernel_rfl
@[go_sem] theorem Tryd.td55 : tdOf Tryd.prog 55 = some { k := TK.func, size := 1, agg := false, bytes := 8, zero := PV.nilf } := by kernel_rfl
@[go_sem] theorem Tryd.td56 : tdOf Tryd.prog 56 = some { k := TK.int IntKind.u16, size := 1, agg := false, bytes := 2, zero := PV.int IntKind.u16 0, tags := some [Tag.i IntKind.u16] } := by kernel_rfl
@[go_sem] theorem Tryd.td57 : tdOf Tryd.prog 57 = some { k := TK.arr 8 56, size := 8, agg := true, bytes := 16, zero := PV.agg [PV.int IntKind.u16 0, PV.int IntKind.u16 0, PV.int IntKind.u16 0, PV.int IntKind.u16 0, PV.int IntKind.u16 0, PV.int IntKind.u16 0, PV.int IntKind.u16 0, PV.int IntKind.u16 0], tags := some [Tag.i IntKind.u16, Tag.i IntKind.u16, Tag.i IntKind.u16, Tag.i IntKind.u16, Tag.i IntKind.u16, Tag.i IntKind.u16, Tag.i IntKind.u16, Tag.i IntKind.u16] } := by kernel_rfl
@[go_sem] theorem Tryd.td58 : tdOf Tryd.prog 58 = some { k := TK.other, size := 1, agg := false, bytes := 0, zero := PV.any } := by kernel_rfl
@[go_sem] theorem Tryd.td59 : tdOf Tryd.prog 59 = some { k := TK.func, size := 1, agg := false, bytes := 8, zero := PV.nilf } := by kernel_rfl
@[go_sem] theorem Tryd.td60 : tdOf Tryd.prog 60 = some { k := TK.func, size := 1, agg := false, bytes := 8, zero := PV.nilf } := by kernel_rfl
@[go_sem] theorem Tryd.td61 : tdOf Tryd.prog 61 = some { k := TK.int IntKind.u32, size := 1, agg := false, bytes := 4, zero := PV.int IntKind.u32 0, tags := some [Tag.i IntKind.u32] } := by kernel_rfl
@[go_sem] theorem Tryd.td62 : tdOf Tryd.prog 62 = some { k := TK.other, size := 1, agg := false, bytes := 0, zero := PV.any } := by kernel_rfl
@[go_sem] theorem Tryd.td63 : tdOf Tryd.prog 63 = some { k := TK.func, size := 1, agg := false, bytes := 8, zero := PV.nilf } := by kernel_rfl
@[go_sem] theorem Tryd.td64 : tdOf Tryd.prog 64 = some { k := TK.func, size := 1, agg := false, bytes := 8, zero := PV.nilf } := by kernel_rfl
@[go_sem] theorem Tryd.td65 : tdOf Tryd.prog 65 = some { k := TK.func, size := 1, agg := false, bytes := 8, zero := PV.nilf } := by kernel_rfl
@[go_sem] theorem Tryd.td66 : tdOf Tryd.prog 66 = some { k := TK.func, size := 1, agg := false, bytes := 8, zero := PV.nilf } := by kernel_rfl
@[go_sem] theorem Tryd.td69 : tdOf Tryd.prog 69 = some { k := TK.other, size := 1, agg := false, bytes := 0, zero := PV.any } := by kernel_rfl
@[go_sem] theorem Tryd.td70 : tdOf Tryd.prog 70 = some { k := TK.func, size := 1, agg := false, bytes := 8, zero := PV.nilf } := by kernel_rfl
@[go_sem] theorem Tryd.td71 : tdOf Tryd.prog 71 = some { k := TK.func, size := 1, agg := false, bytes := 8, zero := PV.nilf } := by kernel_rfl
@[go_sem] theorem Tryd.td72 : tdOf Tryd.prog 72 = some { k := TK.func, size := 1, agg := false, bytes := 8, zero := PV.nilf } := by kernel_rfl
@[go_sem] theorem Tryd.td73 : tdOf Tryd.prog 73 = some { k := TK.slice 56, size := 1, agg := false, bytes := 24, zero := PV.nils } := by kernel_rfl
@[go_sem] theorem Tryd.td74 : tdOf Tryd.prog 74 = some { k := TK.other, size := 1, agg := false, bytes := 0, zero := PV.any } := by kernel_rfl
@[go_sem] theorem Tryd.td75 : tdOf Tryd.prog 75 = some { k := TK.func, size := 1, agg := false, bytes := 8, zero := PV.nilf } := by kernel_rfl
@[go_sem] theorem Tryd.td76 : tdOf Tryd.prog 76 = some { k := TK.other, size := 1, agg := false, bytes := 0, zero := PV.any } := by kernel_rfl
@[go_sem] theorem Tryd.td77 : tdOf Tryd.prog 77 = some { k := TK.func, size := 1, agg := false, bytes := 8, zero := PV.nilf } := by kernel_rfl
@[go_sem] theorem Tryd.td78 : tdOf Tryd.prog 78 = some { k := TK.int IntKind.u64, size := 1, agg := false, bytes := 8, zero := PV.int IntKind.u64 0, tags := some [Tag.i IntKind.u64] } := by kernel_rfl
@[go_sem] theorem Tryd.td79 : tdOf Tryd.prog 79 = some { k := TK.func, size := 1, agg := false, bytes := 8, zero := PV.nilf } := by kernel_rfl
@[go_sem] theorem Tryd.td80 : tdOf Tryd.prog 80 = some { k := TK.slice 9, size := 1, agg := false, bytes := 24, zero := PV.nils } := by kernel_rfl
@[go_sem] theorem Tryd.td81 : tdOf Tryd.prog 81 = some { k := TK.func, size := 1, agg := false, bytes := 8, zero := PV.nilf } := by kernel_rfl
@[go_sem] theorem Tryd.td82 : tdOf Tryd.prog 82 = some { k := TK.func, size := 1, agg := false, bytes := 8, zero := PV.nilf } := by kernel_rfl
@[go_sem] theorem Tryd.td83 : tdOf Tryd.prog 83 = some { k := TK.func, size := 1, agg := false, bytes := 8, zero := PV.nilf } := by kernel_rfl
@[go_sem] theorem Tryd.td84 : tdOf Tryd.prog 84 = some { k := TK.arr 4 5, size := 4, agg := true, bytes := 4, zero := PV.agg [PV.int IntKind.u8 0, PV.int IntKind.u8 0, PV.int IntKind.u8 0, PV.int IntKind.u8 0], tags := some [Tag.i IntKind.u8, Tag.i IntKind.u8, Tag.i IntKind.u8, Tag.i IntKind.u8] } := by kernel_rfl
@[go_sem] theorem Tryd.td85 : tdOf Tryd.prog 85 = some { k := TK.func, size := 1, agg := false, bytes := 8, zero := PV.nilf } := by kernel_rfl
@[go_sem] theorem Tryd.td86 : tdOf Tryd.prog 86 = some { k := TK.func, size := 1, agg := false, bytes := 8, zero := PV.nilf } := by kernel_rfl
@[go_sem] theorem Tryd.td87 : tdOf Tryd.prog 87 = some { k := TK.func, size := 1, agg := false, bytes := 8, zero := PV.nilf } := by kernel_rfl
@[go_sem] theorem Tryd.td88 : tdOf Tryd.prog 88 = some { k := TK.func, size := 1, agg := false, bytes := 8, zero := PV.nilf } := by kernel_rfl
@[go_sem] theorem Tryd.td89 : tdOf Tryd.prog 89 = some { k := TK.ptr 68, size := 1, agg := false, bytes := 8, zero := PV.nilp } := by kernel_rfl
@[go_sem] theorem Tryd.td90 : tdOf Tryd.prog 90 = some { k := TK.func, size := 1, agg := false, bytes := 8, zero := PV.nilf } := by kernel_rfl
@[go_sem] theorem Tryd.td91 : tdOf Tryd.prog 91 = some { k := TK.func, size := 1, agg := false, bytes := 8, zero := PV.nilf } := by kernel_rfl
@[go_sem] theorem Tryd.td92 : tdOf Tryd.prog 92 = some { k := TK.func, size := 1, agg := false, bytes := 8, zero := PV.nilf } := by kernel_rfl
@[go_sem] theorem Tryd.td93 : tdOf Tryd.prog 93 = some { k := TK.func, size := 1, agg := false, bytes := 8, zero := PV.nilf } := by kernel_rfl
@[go_sem] theorem Tryd.td94 : tdOf Tryd.prog 94 = some { k := TK.ptr 96, size := 1, agg := false, bytes := 8, zero := PV.nilp } := by kernel_rfl
@[go_sem] theorem Tryd.td95 : tdOf Tryd.prog 95 = some { k := TK.struct [(0, 94), (1, 43)], size := 2, agg := true, bytes := 32, zero := PV.agg [PV.nilp, PV.nils] } := by kernel_rfl
@[go_sem] theorem Tryd.td96 : tdOf Tryd.prog 96 = some { k := TK.struct [(0, 94), (1, 43)], size := 2, agg := true, bytes := 32, zero := PV.agg [PV.nilp, PV.nils] } := by kernel_rfl
@[go_sem] theorem Tryd.td97 : tdOf Tryd.prog 97 = some { k := TK.func, size := 1, agg := false, bytes := 8, zero := PV.nilf } := by kernel_rfl
@[go_sem] theorem Tryd.td98 : tdOf Tryd.prog 98 = some { k := TK.iface, size := 1, agg := false, bytes := 16, zero := PV.nili } := by kernel_rfl
@[go_sem] theorem Tryd.td99 : tdOf Tryd.prog 99 = some { k := TK.iface, size := 1, agg := false, bytes := 16, zero := PV.nili } := by kernel_rfl
@[go_sem] theorem Tryd.td100 : tdOf Tryd.prog 100 = some { k := TK.other, size := 1, agg := false, bytes := 0, zero := PV.any } := by kernel_rfl
@[go_sem] theorem Tryd.td101 : tdOf Tryd.prog 101 = some { k := TK.func, size := 1, agg := false, bytes := 8, zero := PV.nilf } := by kernel_rfl
@[go_sem] theorem Tryd.td102 : tdOf Tryd.prog 102 = some { k := TK.func, size := 1, agg := false, bytes := 8, zero := PV.nilf } := by kernel_rfl
@[go_sem] theorem Tryd.td103 : tdOf Tryd.prog 103 = some { k := TK.func, size := 1, agg := false, bytes := 8, zero := PV.nilf } := by kernel_rfl
@[go_sem] theorem Tryd.td104 : tdOf Tryd.prog 104 = some { k := TK.other, size := 1, agg := false, bytes := 0, zero := PV.any } := by kernel_rfl
@[go_sem] theorem Tryd.td105 : tdOf Tryd.prog 105 = some { k := TK.func, size := 1, agg := false, bytes := 8, zero := PV.nilf } := by kernel_rfl
@[go_sem] theorem Tryd.td106 : tdOf Tryd.prog 106 = some { k := TK.other, size := 1, agg := false, bytes := 0, zero := PV.any } := by kernel_rfl
@[go_sem] theorem Tryd.td107 : tdOf Tryd.prog 107 = some { k := TK.func, size := 1, agg := false, bytes := 8, zero := PV.nilf } := by kernel_rfl
@[go_sem] theorem Tryd.td108 : tdOf Tryd.prog 108 = some { k := TK.ptr 5, size := 1, agg := false, bytes := 8, zero := PV.nilp } := by kernel_rfl
@[go_sem] theorem Tryd.td109 : tdOf Tryd.prog 109 = some { k := TK.func, size := 1, agg := false, bytes := 8, zero := PV.nilf } := by kernel_rfl
@[go_sem] theorem Tryd.td110 : tdOf Tryd.prog 110 = some { k := TK.arr 24 5, size := 24, agg := true, bytes := 24, zero := PV.agg [PV.int IntKind.u8 0, PV.int IntKind.u8 0, PV.int IntKind.u8 0, PV.int IntKind.u8 0, PV.int IntKind.u8 0, PV.int IntKind.u8 0, PV.int IntKind.u8 0, PV.int IntKind.u8 0, PV.int IntKind.u8 0, PV.int IntKind.u8 0, PV.int IntKind.u8 0, PV.int IntKind.u8 0, PV.int IntKind.u8 0, PV.int IntKind.u8 0, PV.int IntKind.u8 0, PV.int IntKind.u8 0, PV.int IntKind.u8 0, PV.int IntKind.u8 0, PV.int IntKind.u8 0, PV.int IntKind.u8 0, PV.int IntKind.u8 0, PV.int IntKind.u8 0, PV.int IntKind.u8 0, PV.int IntKind.u8 0], tags := some [Tag.i IntKind.u8, Tag.i IntKind.u8, Tag.i IntKind.u8, Tag.i IntKind.u8, Tag.i IntKind.u8, Tag.i IntKind.u8, Tag.i IntKind.u8, Tag.i IntKind.u8, Tag.i IntKind.u8, Tag.i IntKind.u8, Tag.i IntKind.u8, Tag.i IntKind.u8, Tag.i IntKind.u8, Tag.i IntKind.u8, Tag.i IntKind.u8, Tag.i IntKind.u8, Tag.i IntKind.u8, Tag.i IntKind.u8, Tag.i IntKind.u8, Tag.i IntKind.u8, Tag.i IntKind.u8, Tag.i IntKind.u8, Tag.i IntKind.u8, Tag.i IntKind.u8] } := by kernel_rfl
@[go_sem] theorem Tryd.td111 : tdOf Tryd.prog 111 = some { k := TK.int IntKind.u64, size := 1, agg := false, bytes := 8, zero := PV.int IntKind.u64 0, tags := some [Tag.i IntKind.u64] } := by kernel_rfl
@[go_sem] theorem Tryd.td112 : tdOf Tryd.prog 112 = some { k := TK.func, size := 1, agg := false, bytes := 8, zero := PV.nilf } := by kernel_rfl
@[go_sem] theorem Tryd.td113 : tdOf Tryd.prog 113 = some { k := TK.func, size := 1, agg := false, bytes := 8, zero := PV.nilf } := by kernel_rfl
@[go_sem] theorem Tryd.td114 : tdOf Tryd.prog 114 = some { k := TK.other, size := 1, agg := false, bytes := 0, zero := PV.any } := by kernel_rfl
@[go_sem] theorem Tryd.td115 : tdOf Tryd.prog 115 = some { k := TK.func, size := 1, agg := false, bytes := 8, zero := PV.nilf } := by kernel_rfl
@[go_sem] theorem Tryd.td116 : tdOf Tryd.prog 116 = some { k := TK.other, size := 1, agg := false, bytes := 8, zero := PV.nilp } := by kernel_rfl
@[go_sem] theorem Tryd.td117 : tdOf Tryd.prog 117 = some { k := TK.func, size := 1, agg := false, bytes := 8, zero := PV.nilf } := by kernel_rfl
@[go_sem] theorem Tryd.td118 : tdOf Tryd.prog 118 = some { k := TK.func, size := 1, agg := false, bytes := 8, zero := PV.nilf } := by kernel_rfl
@[go_sem] theorem Tryd.td119 : tdOf Tryd.prog 119 = some { k := TK.func, size := 1, agg := false, bytes := 8, zero := PV.nilf } := by kernel_rfl
@[go_sem] theorem Tryd.td120 : tdOf Tryd.prog 120 = some { k := TK.arr 20 111, size := 20, agg := true, bytes := 160, zero := PV.agg [PV.int IntKind.u64 0, PV.int IntKind.u64 0, PV.int IntKind.u64 0, PV.int IntKind.u64 0, PV.int IntKind.u64 0, PV.int IntKind.u64 0, PV.int IntKind.u64 0, PV.int IntKind.u64 0, PV.int IntKind.u64 0, PV.int IntKind.u64 0, PV.int IntKind.u64 0, PV.int IntKind.u64 0, PV.int IntKind.u64 0, PV.int IntKind.u64 0, PV.int IntKind.u64 0, PV.int IntKind.u64 0, PV.int IntKind.u64 0, PV.int IntKind.u64 0, PV.int IntKind.u64 0, PV.int IntKind.u64 0], tags := some [Tag.i IntKind.u64, Tag.i IntKind.u64, Tag.i IntKind.u64, Tag.i IntKind.u64, Tag.i IntKind.u64, Tag.i IntKind.u64, Tag.i IntKind.u64, Tag.i IntKind.u64, Tag.i IntKind.u64, Tag.i IntKind.u64, Tag.i IntKind.u64, Tag.i IntKind.u64, Tag.i IntKind.u64, Tag.i IntKind.u64, Tag.i IntKind.u64, Tag.i IntKind.u64, Tag.i IntKind.u64, Tag.i IntKind.u64, Tag.i IntKind.u64, Tag.i IntKind.u64] } := by kernel_rfl
@[go_sem] theorem Tryd.td122 : tdOf Tryd.prog 122 = some { k := TK.func, size := 1, agg := false, bytes := 8, zero := PV.nilf } := by kernel_rfl
@[go_sem] theorem Tryd.td123 : tdOf Tryd.prog 123 = some { k := TK.func, size := 1, agg := false, bytes := 8, zero := PV.nilf } := by kernel_rfl
@[go_sem] theorem Tryd.td124 : tdOf Tryd.prog 124 = some { k := TK.arr 32 5, size := 32, agg := true, bytes := 32, zero := PV.agg [PV.int IntKind.u8 0, PV.int IntKind.u8 0, PV.int IntKind.u8 0, PV.int IntKind.u8 0, PV.int IntKind.u8 0, PV.int IntKind.u8 0, PV.int IntKind.u8 0, PV.int IntKind.u8 0, PV.int IntKind.u8 0, PV.int IntKind.u8 0, PV.int IntKind.u8 0, PV.int IntKind.u8 0, PV.int IntKind.u8 0, PV.int IntKind.u8 0, PV.int IntKind.u8 0, PV.int IntKind.u8 0, PV.int IntKind.u8 0, PV.int IntKind.u8 0, PV.int IntKind.u8 0, PV.int IntKind.u8 0, PV.int IntKind.u8 0, PV.int IntKind.u8 0, PV.int IntKind.u8 0, PV.int IntKind.u8 0, PV.int IntKind.u8 0, PV.int IntKind.u8 0, PV.int IntKind.u8 0, PV.int IntKind.u8 0, PV.int IntKind.u8 0, PV.int IntKind.u8 0, PV.int IntKind.u8 0, PV.int IntKind.u8 0], tags := some [Tag.i IntKind.u8, Tag.i IntKind.u8, Tag.i IntKind.u8, Tag.i IntKind.u8, Tag.i IntKind.u8, Tag.i IntKind.u8, Tag.i IntKind.u8, Tag.i IntKind.u8, Tag.i IntKind.u8, Tag.i IntKind.u8, Tag.i IntKind.u8, Tag.i IntKind.u8, Tag.i IntKind.u8, Tag.i IntKind.u8, Tag.i IntKind.u8, Tag.i IntKind.u8, Tag.i IntKind.u8, Tag.i IntKind.u8, Tag.i IntKind.u8, Tag.i IntKind.u8, Tag.i IntKind.u8, Tag.i IntKind.u8, Tag.i IntKind.u8, Tag.i IntKind.u8, Tag.i IntKind.u8, Tag.i IntKind.u8, Tag.i IntKind.u8, Tag.i IntKind.u8, Tag.i IntKind.u8, Tag.i IntKind.u8, Tag.i IntKind.u8, Tag.i IntKind.u8] } := by kernel_rfl
@[go_sem] theorem Tryd.td126 : tdOf Tryd.prog 126 = some { k := TK.struct [(0, 17), (1, 17), (2, 17), (3, 9)], size := 4, agg := true, bytes := 40, zero := PV.agg [PV.nilp, PV.nilp, PV.nilp, PV.str (ByteArray.mk #[])] } := by kernel_rfl
@[go_sem] theorem Tryd.td127 : tdOf Tryd.prog 127 = some { k := TK.struct [(0, 17), (1, 17), (2, 17), (3, 9)], size := 4, agg := true, bytes := 40, zero := PV.agg [PV.nilp, PV.nilp, PV.nilp, PV.str (ByteArray.mk #[])] } := by kernel_rfl
@[go_sem] theorem Tryd.td128 : tdOf Tryd.prog 128 = some { k := TK.arr 0 16, size := 0, agg := true, bytes := 0, zero := PV.agg [] } := by kernel_rfl
@[go_sem] theorem Tryd.td129 : tdOf Tryd.prog 129 = some { k := TK.struct [(0, 128)], size := 0, agg := true, bytes := 0, zero := PV.agg [] } := by kernel_rfl
@[go_sem] theorem Tryd.td130 : tdOf Tryd.prog 130 = some { k := TK.struct [(0, 128)], size := 0, agg := true, bytes := 0, zero := PV.agg [] } := by kernel_rfl
@[go_sem] theorem Tryd.td131 : tdOf Tryd.prog 131 = some { k := TK.func, size := 1, agg := false, bytes := 8, zero := PV.nilf } := by kernel_rfl
@[go_sem] theorem Tryd.td132 : tdOf Tryd.prog 132 = some { k := TK.int IntKind.u8, size := 1, agg := false, bytes := 1, zero := PV.int IntKind.u8 0, tags := some [Tag.i IntKind.u8] } := by kernel_rfl
@[go_sem] theorem Tryd.td133 : tdOf Tryd.prog 133 = some { k := TK.int IntKind.u8, size := 1, agg := false, bytes := 1, zero := PV.int IntKind.u8 0, tags := some [Tag.i IntKind.u8] } := by kernel_rfl
@[go_sem] theorem Tryd.td134 : tdOf Tryd.prog 134 = some { k := TK.func, size := 1, agg := false, bytes := 8, zero := PV.nilf } := by kernel_rfl
@[go_sem] theorem Tryd.td135 : tdOf Tryd.prog 135 = some { k := TK.int IntKind.i32, size := 1, agg := false, bytes := 4, zero := PV.int IntKind.i32 0, tags := some [Tag.i IntKind.i32] } := by kernel_rfl
@[go_sem] theorem Tryd.td136 : tdOf Tryd.prog 136 = some { k := TK.int IntKind.i32, size := 1, agg := false, bytes := 4, zero := PV.int IntKind.i32 0, tags := some [Tag.i IntKind.i32] } := by kernel_rfl
@[go_sem] theorem Tryd.td137 : tdOf Tryd.prog 137 = some { k := TK.struct [(0, 12), (1, 12), (2, 61), (3, 132), (4, 5), (5, 5), (6, 133), (7, 134), (8, 108), (9, 135), (10, 136)], size := 11, agg := true, bytes := 48, zero := PV.agg [PV.int IntKind.u64 0, PV.int IntKind.u64 0, PV.int IntKind.u32 0, PV.int IntKind.u8 0, PV.int IntKind.u8 0, PV.int IntKind.u8 0, PV.int IntKind.u8 0, PV.nilf, PV.nilp, PV.int IntKind.i32 0, PV.int IntKind.i32 0] } := by kernel_rfl
@[go_sem] theorem Tryd.td138 : tdOf Tryd.prog 138 = some { k := TK.struct [(0, 12), (1, 12), (2, 61), (3, 132), (4, 5), (5, 5), (6, 133), (7, 134), (8, 108), (9, 135), (10, 136)], size := 11, agg := true, bytes := 48, zero := PV.agg [PV.int IntKind.u64 0, PV.int IntKind.u64 0, PV.int IntKind.u32 0, PV.int IntKind.u8 0, PV.int IntKind.u8 0, PV.int IntKind.u8 0, PV.int IntKind.u8 0, PV.nilf, PV.nilp, PV.int IntKind.i32 0, PV.int IntKind.i32 0] } := by kernel_rfl
end Go.Proofs
