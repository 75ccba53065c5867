/-
  The table of the program's types, as the evaluator reads it. No claim by itself. (Printed by mktab.py.)
-/
import Derived.Test.YtepcccepheddjaaGreatDoorSlM4
import Derived.Test.YtepcccepheddjaaGreatDoorProg
set_option maxRecDepth 100000
namespace Go.Proofs
open Go Go.Proofs.SL
@[go_sem] theorem Tryz.td0 : tdOf Tryz.prog 0 = some { k := TK.other, size := 1, agg := false, bytes := 0, zero := PV.any } := by kernel_rfl
@[go_sem] theorem Tryz.td1 : tdOf Tryz.prog 1 = some { k := TK.func, size := 1, agg := false, bytes := 8, zero := PV.nilf } := by kernel_rfl
@[go_sem] theorem Tryz.td2 : tdOf Tryz.prog 2 = some { k := TK.int IntKind.i64, size := 1, agg := false, bytes := 8, zero := PV.int IntKind.i64 0, tags := some [Tag.i IntKind.i64] } := by kernel_rfl
@[go_sem] theorem Tryz.td3 : tdOf Tryz.prog 3 = some { k := TK.int IntKind.i64, size := 1, agg := false, bytes := 8, zero := PV.int IntKind.i64 0, tags := some [Tag.i IntKind.i64] } := by kernel_rfl
@[go_sem] theorem Tryz.td4 : tdOf Tryz.prog 4 = some { k := TK.bool, size := 1, agg := false, bytes := 1, zero := PV.bool false, tags := some [Tag.b] } := by kernel_rfl
@[go_sem] theorem Tryz.td5 : tdOf Tryz.prog 5 = some { k := TK.int IntKind.u8, size := 1, agg := false, bytes := 1, zero := PV.int IntKind.u8 0, tags := some [Tag.i IntKind.u8] } := by kernel_rfl
@[go_sem] theorem Tryz.td6 : tdOf Tryz.prog 6 = some { k := TK.int IntKind.u8, size := 1, agg := false, bytes := 1, zero := PV.int IntKind.u8 0, tags := some [Tag.i IntKind.u8] } := by kernel_rfl
@[go_sem] theorem Tryz.td7 : tdOf Tryz.prog 7 = some { k := TK.struct [(0, 2), (1, 3), (2, 4), (3, 6)], size := 4, agg := true, bytes := 24, zero := PV.agg [PV.int IntKind.i64 0, PV.int IntKind.i64 0, PV.bool false, PV.int IntKind.u8 0], tags := some [Tag.i IntKind.i64, Tag.i IntKind.i64, Tag.b, Tag.i IntKind.u8] } := by kernel_rfl
@[go_sem] theorem Tryz.td8 : tdOf Tryz.prog 8 = some { k := TK.struct [(0, 2), (1, 3), (2, 4), (3, 6)], size := 4, agg := true, bytes := 24, zero := PV.agg [PV.int IntKind.i64 0, PV.int IntKind.i64 0, PV.bool false, PV.int IntKind.u8 0], tags := some [Tag.i IntKind.i64, Tag.i IntKind.i64, Tag.b, Tag.i IntKind.u8] } := by kernel_rfl
@[go_sem] theorem Tryz.td9 : tdOf Tryz.prog 9 = some { k := TK.str, size := 1, agg := false, bytes := 16, zero := PV.str (ByteArray.mk #[]), tags := some [Tag.s] } := by kernel_rfl
@[go_sem] theorem Tryz.td10 : tdOf Tryz.prog 10 = some { k := TK.str, size := 1, agg := false, bytes := 16, zero := PV.str (ByteArray.mk #[]), tags := some [Tag.s] } := by kernel_rfl
@[go_sem] theorem Tryz.td11 : tdOf Tryz.prog 11 = some { k := TK.str, size := 1, agg := false, bytes := 16, zero := PV.str (ByteArray.mk #[]), tags := some [Tag.s] } := by kernel_rfl
@[go_sem] theorem Tryz.td12 : tdOf Tryz.prog 12 = some { k := TK.int IntKind.u64, size := 1, agg := false, bytes := 8, zero := PV.int IntKind.u64 0, tags := some [Tag.i IntKind.u64] } := by kernel_rfl
@[go_sem] theorem Tryz.td13 : tdOf Tryz.prog 13 = some { k := TK.struct [(0, 9), (1, 12)], size := 2, agg := true, bytes := 24, zero := PV.agg [PV.str (ByteArray.mk #[]), PV.int IntKind.u64 0] } := by kernel_rfl
@[go_sem] theorem Tryz.td14 : tdOf Tryz.prog 14 = some { k := TK.struct [(0, 9), (1, 12)], size := 2, agg := true, bytes := 24, zero := PV.agg [PV.str (ByteArray.mk #[]), PV.int IntKind.u64 0] } := by kernel_rfl
@[go_sem] theorem Tryz.td15 : tdOf Tryz.prog 15 = some { k := TK.ptr 140, size := 1, agg := false, bytes := 8, zero := PV.nilp } := by kernel_rfl
@[go_sem] theorem Tryz.td16 : tdOf Tryz.prog 16 = some { k := TK.ptr 143, size := 1, agg := false, bytes := 8, zero := PV.nilp } := by kernel_rfl
@[go_sem] theorem Tryz.td17 : tdOf Tryz.prog 17 = some { k := TK.ptr 151, size := 1, agg := false, bytes := 8, zero := PV.nilp } := by kernel_rfl
@[go_sem] theorem Tryz.td18 : tdOf Tryz.prog 18 = some { k := TK.struct [(0, 17)], size := 1, agg := true, bytes := 8, zero := PV.agg [PV.nilp] } := by kernel_rfl
@[go_sem] theorem Tryz.td19 : tdOf Tryz.prog 19 = some { k := TK.struct [(0, 17)], size := 1, agg := true, bytes := 8, zero := PV.agg [PV.nilp] } := by kernel_rfl
@[go_sem] theorem Tryz.td20 : tdOf Tryz.prog 20 = some { k := TK.iface, size := 1, agg := false, bytes := 16, zero := PV.nili } := by kernel_rfl
@[go_sem] theorem Tryz.td21 : tdOf Tryz.prog 21 = some { k := TK.int IntKind.i32, size := 1, agg := false, bytes := 4, zero := PV.int IntKind.i32 0, tags := some [Tag.i IntKind.i32] } := by kernel_rfl
@[go_sem] theorem Tryz.td22 : tdOf Tryz.prog 22 = some { k := TK.func, size := 1, agg := false, bytes := 8, zero := PV.nilf } := by kernel_rfl
@[go_sem] theorem Tryz.td23 : tdOf Tryz.prog 23 = some { k := TK.struct [(0, 9), (1, 9), (2, 3), (3, 9), (4, 9)], size := 5, agg := true, bytes := 72, zero := PV.agg [PV.str (ByteArray.mk #[]), PV.str (ByteArray.mk #[]), PV.int IntKind.i64 0, PV.str (ByteArray.mk #[]), PV.str (ByteArray.mk #[])], tags := some [Tag.s, Tag.s, Tag.i IntKind.i64, Tag.s, Tag.s] } := by kernel_rfl
@[go_sem] theorem Tryz.td24 : tdOf Tryz.prog 24 = some { k := TK.struct [(0, 9), (1, 9), (2, 3), (3, 9), (4, 9)], size := 5, agg := true, bytes := 72, zero := PV.agg [PV.str (ByteArray.mk #[]), PV.str (ByteArray.mk #[]), PV.int IntKind.i64 0, PV.str (ByteArray.mk #[]), PV.str (ByteArray.mk #[])], tags := some [Tag.s, Tag.s, Tag.i IntKind.i64, Tag.s, Tag.s] } := by kernel_rfl
@[go_sem] theorem Tryz.td25 : tdOf Tryz.prog 25 = some { k := TK.int IntKind.i64, size := 1, agg := false, bytes := 8, zero := PV.int IntKind.i64 0, tags := some [Tag.i IntKind.i64] } := by kernel_rfl
@[go_sem] theorem Tryz.td26 : tdOf Tryz.prog 26 = some { k := TK.other, size := 1, agg := false, bytes := 0, zero := PV.any } := by kernel_rfl
@[go_sem] theorem Tryz.td27 : tdOf Tryz.prog 27 = some { k := TK.func, size := 1, agg := false, bytes := 8, zero := PV.nilf } := by kernel_rfl
@[go_sem] theorem Tryz.td28 : tdOf Tryz.prog 28 = some { k := TK.func, size := 1, agg := false, bytes := 8, zero := PV.nilf } := by kernel_rfl
@[go_sem] theorem Tryz.td29 : tdOf Tryz.prog 29 = some { k := TK.func, size := 1, agg := false, bytes := 8, zero := PV.nilf } := by kernel_rfl
@[go_sem] theorem Tryz.td30 : tdOf Tryz.prog 30 = some { k := TK.func, size := 1, agg := false, bytes := 8, zero := PV.nilf } := by kernel_rfl
@[go_sem] theorem Tryz.td31 : tdOf Tryz.prog 31 = some { k := TK.func, size := 1, agg := false, bytes := 8, zero := PV.nilf } := by kernel_rfl
@[go_sem] theorem Tryz.td32 : tdOf Tryz.prog 32 = some { k := TK.struct [(0, 9), (1, 9), (2, 3)], size := 3, agg := true, bytes := 40, zero := PV.agg [PV.str (ByteArray.mk #[]), PV.str (ByteArray.mk #[]), PV.int IntKind.i64 0], tags := some [Tag.s, Tag.s, Tag.i IntKind.i64] } := by kernel_rfl
@[go_sem] theorem Tryz.td33 : tdOf Tryz.prog 33 = some { k := TK.struct [(0, 9), (1, 9), (2, 3)], size := 3, agg := true, bytes := 40, zero := PV.agg [PV.str (ByteArray.mk #[]), PV.str (ByteArray.mk #[]), PV.int IntKind.i64 0], tags := some [Tag.s, Tag.s, Tag.i IntKind.i64] } := by kernel_rfl
@[go_sem] theorem Tryz.td34 : tdOf Tryz.prog 34 = some { k := TK.func, size := 1, agg := false, bytes := 8, zero := PV.nilf } := by kernel_rfl
@[go_sem] theorem Tryz.td35 : tdOf Tryz.prog 35 = some { k := TK.func, size := 1, agg := false, bytes := 8, zero := PV.nilf } := by kernel_rfl
@[go_sem] theorem Tryz.td36 : tdOf Tryz.prog 36 = some { k := TK.func, size := 1, agg := false, bytes := 8, zero := PV.nilf } := by kernel_rfl
@[go_sem] theorem Tryz.td37 : tdOf Tryz.prog 37 = some { k := TK.func, size := 1, agg := false, bytes := 8, zero := PV.nilf } := by kernel_rfl
@[go_sem] theorem Tryz.td38 : tdOf Tryz.prog 38 = some { k := TK.slice 5, size := 1, agg := false, bytes := 24, zero := PV.nils } := by kernel_rfl
@[go_sem] theorem Tryz.td39 : tdOf Tryz.prog 39 = some { k := TK.func, size := 1, agg := false, bytes := 8, zero := PV.nilf } := by kernel_rfl
@[go_sem] theorem Tryz.td40 : tdOf Tryz.prog 40 = some { k := TK.other, size := 1, agg := false, bytes := 0, zero := PV.any } := by kernel_rfl
@[go_sem] theorem Tryz.td41 : tdOf Tryz.prog 41 = some { k := TK.func, size := 1, agg := false, bytes := 8, zero := PV.nilf } := by kernel_rfl
@[go_sem] theorem Tryz.td42 : tdOf Tryz.prog 42 = some { k := TK.func, size := 1, agg := false, bytes := 8, zero := PV.nilf } := by kernel_rfl
@[go_sem] theorem Tryz.td43 : tdOf Tryz.prog 43 = some { k := TK.other, size := 1, agg := false, bytes := 0, zero := PV.any } := by kernel_rfl
@[go_sem] theorem Tryz.td44 : tdOf Tryz.prog 44 = some { k := TK.func, size := 1, agg := false, bytes := 8, zero := PV.nilf } := by kernel_rfl
@[go_sem] theorem Tryz.td45 : tdOf Tryz.prog 45 = some { k := TK.other, size := 1, agg := false, bytes := 0, zero := PV.any } := by kernel_rfl
@[go_sem] theorem Tryz.td46 : tdOf Tryz.prog 46 = some { k := TK.func, size := 1, agg := false, bytes := 8, zero := PV.nilf } := by kernel_rfl
@[go_sem] theorem Tryz.td47 : tdOf Tryz.prog 47 = some { k := TK.other, size := 1, agg := false, bytes := 0, zero := PV.any } := by kernel_rfl
@[go_sem] theorem Tryz.td48 : tdOf Tryz.prog 48 = some { k := TK.func, size := 1, agg := false, bytes := 8, zero := PV.nilf } := by kernel_rfl
@[go_sem] theorem Tryz.td49 : tdOf Tryz.prog 49 = some { k := TK.other, size := 1, agg := false, bytes := 0, zero := PV.any } := by kernel_rfl
@[go_sem] theorem Tryz.td50 : tdOf Tryz.prog 50 = some { k := TK.func, size := 1, agg := false, bytes := 8, zero := PV.nilf } := by kernel_rfl
@[go_sem] theorem Tryz.td51 : tdOf Tryz.prog 51 = some { k := TK.func, size := 1, agg := false, bytes := 8, zero := PV.nilf } := by kernel_rfl
@[go_sem] theorem Tryz.td52 : tdOf Tryz.prog 52 = some { k := TK.other, size := 1, agg := false, bytes := 0, zero := PV.any } := by kernel_rfl
@[go_sem] theorem Tryz.td53 : tdOf Tryz.prog 53 = some { k := TK.func, size := 1, agg := false, bytes := 8, zero := PV.nilf } := by kernel_rfl
@[go_sem] theorem Tryz.td54 : tdOf Tryz.prog 54 = some { k := TK.func, size := 1, agg := false, bytes := 8, zero := PV.nilf } := by kernel_rfl
@[go_sem] theorem Tryz.td55 : tdOf Tryz.prog 55 = some { k := TK.func, size := 1, agg := false, bytes := 8, zero := PV.nilf } := by kernel_rfl
@[go_sem] theorem Tryz.td56 : tdOf Tryz.prog 56 = some { k := TK.func, size := 1, agg := false, bytes := 8, zero := PV.nilf } := by kernel_rfl
@[go_sem] theorem Tryz.td57 : tdOf Tryz.prog 57 = some { k := TK.func, size := 1, agg := false, bytes := 8, zero := PV.nilf } := by kernel_rfl
@[go_sem] theorem Tryz.td58 : tdOf Tryz.prog 58 = some { k := TK.func, size := 1, agg := false, bytes := 8, zero := PV.nilf } := by kernel_rfl
@[go_sem] theorem Tryz.td59 : tdOf Tryz.prog 59 = some { k := TK.func, size := 1, agg := false, bytes := 8, zero := PV.nilf } := by kernel_rfl
@[go_sem] theorem Tryz.td60 : tdOf Tryz.prog 60 = some { k := TK.int IntKind.u16, size := 1, agg := false, bytes := 2, zero := PV.int IntKind.u16 0, tags := some [Tag.i IntKind.u16] } := by kernel_rfl
@[go_sem] theorem Tryz.td61 : tdOf Tryz.prog 61 = some { k := TK.arr 8 60, size := 8, agg := true, bytes := 16, zero := PV.agg [PV.int IntKind.u16 0, PV.int IntKind.u16 0, PV.int IntKind.u16 0, PV.int IntKind.u16 0, PV.int IntKind.u16 0, PV.int IntKind.u16 0, PV.int IntKind.u16 0, PV.int IntKind.u16 0], tags := some [Tag.i IntKind.u16, Tag.i IntKind.u16, Tag.i IntKind.u16, Tag.i IntKind.u16, Tag.i IntKind.u16, Tag.i IntKind.u16, Tag.i IntKind.u16, Tag.i IntKind.u16] } := by kernel_rfl
@[go_sem] theorem Tryz.td62 : tdOf Tryz.prog 62 = some { k := TK.other, size := 1, agg := false, bytes := 0, zero := PV.any } := by kernel_rfl
@[go_sem] theorem Tryz.td63 : tdOf Tryz.prog 63 = some { k := TK.func, size := 1, agg := false, bytes := 8, zero := PV.nilf } := by kernel_rfl
@[go_sem] theorem Tryz.td64 : tdOf Tryz.prog 64 = some { k := TK.func, size := 1, agg := false, bytes := 8, zero := PV.nilf } := by kernel_rfl
@[go_sem] theorem Tryz.td65 : tdOf Tryz.prog 65 = some { k := TK.int IntKind.u32, size := 1, agg := false, bytes := 4, zero := PV.int IntKind.u32 0, tags := some [Tag.i IntKind.u32] } := by kernel_rfl
@[go_sem] theorem Tryz.td66 : tdOf Tryz.prog 66 = some { k := TK.other, size := 1, agg := false, bytes := 0, zero := PV.any } := by kernel_rfl
@[go_sem] theorem Tryz.td67 : tdOf Tryz.prog 67 = some { k := TK.func, size := 1, agg := false, bytes := 8, zero := PV.nilf } := by kernel_rfl
@[go_sem] theorem Tryz.td68 : tdOf Tryz.prog 68 = some { k := TK.func, size := 1, agg := false, bytes := 8, zero := PV.nilf } := by kernel_rfl
@[go_sem] theorem Tryz.td69 : tdOf Tryz.prog 69 = some { k := TK.func, size := 1, agg := false, bytes := 8, zero := PV.nilf } := by kernel_rfl
@[go_sem] theorem Tryz.td70 : tdOf Tryz.prog 70 = some { k := TK.func, size := 1, agg := false, bytes := 8, zero := PV.nilf } := by kernel_rfl
@[go_sem] theorem Tryz.td71 : tdOf Tryz.prog 71 = some { k := TK.func, size := 1, agg := false, bytes := 8, zero := PV.nilf } := by kernel_rfl
@[go_sem] theorem Tryz.td72 : tdOf Tryz.prog 72 = some { k := TK.func, size := 1, agg := false, bytes := 8, zero := PV.nilf } := by kernel_rfl
@[go_sem] theorem Tryz.td75 : tdOf Tryz.prog 75 = some { k := TK.other, size := 1, agg := false, bytes := 0, zero := PV.any } := by kernel_rfl
@[go_sem] theorem Tryz.td76 : tdOf Tryz.prog 76 = some { k := TK.func, size := 1, agg := false, bytes := 8, zero := PV.nilf } := by kernel_rfl
@[go_sem] theorem Tryz.td77 : tdOf Tryz.prog 77 = some { k := TK.func, size := 1, agg := false, bytes := 8, zero := PV.nilf } := by kernel_rfl
@[go_sem] theorem Tryz.td78 : tdOf Tryz.prog 78 = some { k := TK.func, size := 1, agg := false, bytes := 8, zero := PV.nilf } := by kernel_rfl
@[go_sem] theorem Tryz.td79 : tdOf Tryz.prog 79 = some { k := TK.slice 60, size := 1, agg := false, bytes := 24, zero := PV.nils } := by kernel_rfl
@[go_sem] theorem Tryz.td80 : tdOf Tryz.prog 80 = some { k := TK.other, size := 1, agg := false, bytes := 0, zero := PV.any } := by kernel_rfl
@[go_sem] theorem Tryz.td81 : tdOf Tryz.prog 81 = some { k := TK.func, size := 1, agg := false, bytes := 8, zero := PV.nilf } := by kernel_rfl
@[go_sem] theorem Tryz.td82 : tdOf Tryz.prog 82 = some { k := TK.other, size := 1, agg := false, bytes := 0, zero := PV.any } := by kernel_rfl
@[go_sem] theorem Tryz.td83 : tdOf Tryz.prog 83 = some { k := TK.func, size := 1, agg := false, bytes := 8, zero := PV.nilf } := by kernel_rfl
@[go_sem] theorem Tryz.td84 : tdOf Tryz.prog 84 = some { k := TK.int IntKind.u64, size := 1, agg := false, bytes := 8, zero := PV.int IntKind.u64 0, tags := some [Tag.i IntKind.u64] } := by kernel_rfl
@[go_sem] theorem Tryz.td85 : tdOf Tryz.prog 85 = some { k := TK.func, size := 1, agg := false, bytes := 8, zero := PV.nilf } := by kernel_rfl
@[go_sem] theorem Tryz.td86 : tdOf Tryz.prog 86 = some { k := TK.slice 9, size := 1, agg := false, bytes := 24, zero := PV.nils } := by kernel_rfl
@[go_sem] theorem Tryz.td87 : tdOf Tryz.prog 87 = some { k := TK.func, size := 1, agg := false, bytes := 8, zero := PV.nilf } := by kernel_rfl
@[go_sem] theorem Tryz.td88 : tdOf Tryz.prog 88 = some { k := TK.func, size := 1, agg := false, bytes := 8, zero := PV.nilf } := by kernel_rfl
@[go_sem] theorem Tryz.td89 : tdOf Tryz.prog 89 = some { k := TK.func, size := 1, agg := false, bytes := 8, zero := PV.nilf } := by kernel_rfl
@[go_sem] theorem Tryz.td90 : tdOf Tryz.prog 90 = some { k := TK.arr 4 5, size := 4, agg := true, bytes := 4, zero := PV.agg [PV.int IntKind.u8 0, PV.int IntKind.u8 0, PV.int IntKind.u8 0, PV.int IntKind.u8 0], tags := some [Tag.i IntKind.u8, Tag.i IntKind.u8, Tag.i IntKind.u8, Tag.i IntKind.u8] } := by kernel_rfl
@[go_sem] theorem Tryz.td91 : tdOf Tryz.prog 91 = some { k := TK.func, size := 1, agg := false, bytes := 8, zero := PV.nilf } := by kernel_rfl
@[go_sem] theorem Tryz.td92 : tdOf Tryz.prog 92 = some { k := TK.func, size := 1, agg := false, bytes := 8, zero := PV.nilf } := by kernel_rfl
@[go_sem] theorem Tryz.td93 : tdOf Tryz.prog 93 = some { k := TK.func, size := 1, agg := false, bytes := 8, zero := PV.nilf } := by kernel_rfl
@[go_sem] theorem Tryz.td94 : tdOf Tryz.prog 94 = some { k := TK.func, size := 1, agg := false, bytes := 8, zero := PV.nilf } := by kernel_rfl
@[go_sem] theorem Tryz.td95 : tdOf Tryz.prog 95 = some { k := TK.func, size := 1, agg := false, bytes := 8, zero := PV.nilf } := by kernel_rfl
@[go_sem] theorem Tryz.td96 : tdOf Tryz.prog 96 = some { k := TK.func, size := 1, agg := false, bytes := 8, zero := PV.nilf } := by kernel_rfl
@[go_sem] theorem Tryz.td97 : tdOf Tryz.prog 97 = some { k := TK.func, size := 1, agg := false, bytes := 8, zero := PV.nilf } := by kernel_rfl
@[go_sem] theorem Tryz.td98 : tdOf Tryz.prog 98 = some { k := TK.func, size := 1, agg := false, bytes := 8, zero := PV.nilf } := by kernel_rfl
@[go_sem] theorem Tryz.td99 : tdOf Tryz.prog 99 = some { k := TK.ptr 74, size := 1, agg := false, bytes := 8, zero := PV.nilp } := by kernel_rfl
@[go_sem] theorem Tryz.td100 : tdOf Tryz.prog 100 = some { k := TK.func, size := 1, agg := false, bytes := 8, zero := PV.nilf } := by kernel_rfl
@[go_sem] theorem Tryz.td101 : tdOf Tryz.prog 101 = some { k := TK.func, size := 1, agg := false, bytes := 8, zero := PV.nilf } := by kernel_rfl
@[go_sem] theorem Tryz.td102 : tdOf Tryz.prog 102 = some { k := TK.func, size := 1, agg := false, bytes := 8, zero := PV.nilf } := by kernel_rfl
@[go_sem] theorem Tryz.td103 : tdOf Tryz.prog 103 = some { k := TK.ptr 105, size := 1, agg := false, bytes := 8, zero := PV.nilp } := by kernel_rfl
@[go_sem] theorem Tryz.td104 : tdOf Tryz.prog 104 = some { k := TK.struct [(0, 103), (1, 38)], size := 2, agg := true, bytes := 32, zero := PV.agg [PV.nilp, PV.nils] } := by kernel_rfl
@[go_sem] theorem Tryz.td105 : tdOf Tryz.prog 105 = some { k := TK.struct [(0, 103), (1, 38)], size := 2, agg := true, bytes := 32, zero := PV.agg [PV.nilp, PV.nils] } := by kernel_rfl
@[go_sem] theorem Tryz.td106 : tdOf Tryz.prog 106 = some { k := TK.func, size := 1, agg := false, bytes := 8, zero := PV.nilf } := by kernel_rfl
@[go_sem] theorem Tryz.td107 : tdOf Tryz.prog 107 = some { k := TK.iface, size := 1, agg := false, bytes := 16, zero := PV.nili } := by kernel_rfl
@[go_sem] theorem Tryz.td108 : tdOf Tryz.prog 108 = some { k := TK.iface, size := 1, agg := false, bytes := 16, zero := PV.nili } := by kernel_rfl
@[go_sem] theorem Tryz.td109 : tdOf Tryz.prog 109 = some { k := TK.other, size := 1, agg := false, bytes := 0, zero := PV.any } := by kernel_rfl
@[go_sem] theorem Tryz.td110 : tdOf Tryz.prog 110 = some { k := TK.func, size := 1, agg := false, bytes := 8, zero := PV.nilf } := by kernel_rfl
@[go_sem] theorem Tryz.td111 : tdOf Tryz.prog 111 = some { k := TK.func, size := 1, agg := false, bytes := 8, zero := PV.nilf } := by kernel_rfl
@[go_sem] theorem Tryz.td112 : tdOf Tryz.prog 112 = some { k := TK.func, size := 1, agg := false, bytes := 8, zero := PV.nilf } := by kernel_rfl
@[go_sem] theorem Tryz.td113 : tdOf Tryz.prog 113 = some { k := TK.slice 3, size := 1, agg := false, bytes := 24, zero := PV.nils } := by kernel_rfl
@[go_sem] theorem Tryz.td114 : tdOf Tryz.prog 114 = some { k := TK.other, size := 1, agg := false, bytes := 0, zero := PV.any } := by kernel_rfl
@[go_sem] theorem Tryz.td115 : tdOf Tryz.prog 115 = some { k := TK.func, size := 1, agg := false, bytes := 8, zero := PV.nilf } := by kernel_rfl
@[go_sem] theorem Tryz.td116 : tdOf Tryz.prog 116 = some { k := TK.func, size := 1, agg := false, bytes := 8, zero := PV.nilf } := by kernel_rfl
@[go_sem] theorem Tryz.td117 : tdOf Tryz.prog 117 = some { k := TK.other, size := 1, agg := false, bytes := 0, zero := PV.any } := by kernel_rfl
@[go_sem] theorem Tryz.td118 : tdOf Tryz.prog 118 = some { k := TK.func, size := 1, agg := false, bytes := 8, zero := PV.nilf } := by kernel_rfl
@[go_sem] theorem Tryz.td119 : tdOf Tryz.prog 119 = some { k := TK.other, size := 1, agg := false, bytes := 0, zero := PV.any } := by kernel_rfl
@[go_sem] theorem Tryz.td120 : tdOf Tryz.prog 120 = some { k := TK.func, size := 1, agg := false, bytes := 8, zero := PV.nilf } := by kernel_rfl
@[go_sem] theorem Tryz.td121 : tdOf Tryz.prog 121 = some { k := TK.ptr 5, size := 1, agg := false, bytes := 8, zero := PV.nilp } := by kernel_rfl
@[go_sem] theorem Tryz.td122 : tdOf Tryz.prog 122 = some { k := TK.arr 24 5, size := 24, agg := true, bytes := 24, zero := PV.agg [PV.int IntKind.u8 0, PV.int IntKind.u8 0, PV.int IntKind.u8 0, PV.int IntKind.u8 0, PV.int IntKind.u8 0, PV.int IntKind.u8 0, PV.int IntKind.u8 0, PV.int IntKind.u8 0, PV.int IntKind.u8 0, PV.int IntKind.u8 0, PV.int IntKind.u8 0, PV.int IntKind.u8 0, PV.int IntKind.u8 0, PV.int IntKind.u8 0, PV.int IntKind.u8 0, PV.int IntKind.u8 0, PV.int IntKind.u8 0, PV.int IntKind.u8 0, PV.int IntKind.u8 0, PV.int IntKind.u8 0, PV.int IntKind.u8 0, PV.int IntKind.u8 0, PV.int IntKind.u8 0, PV.int IntKind.u8 0], tags := some [Tag.i IntKind.u8, Tag.i IntKind.u8, Tag.i IntKind.u8, Tag.i IntKind.u8, Tag.i IntKind.u8, Tag.i IntKind.u8, Tag.i IntKind.u8, Tag.i IntKind.u8, Tag.i IntKind.u8, Tag.i IntKind.u8, Tag.i IntKind.u8, Tag.i IntKind.u8, Tag.i IntKind.u8, Tag.i IntKind.u8, Tag.i IntKind.u8, Tag.i IntKind.u8, Tag.i IntKind.u8, Tag.i IntKind.u8, Tag.i IntKind.u8, Tag.i IntKind.u8, Tag.i IntKind.u8, Tag.i IntKind.u8, Tag.i IntKind.u8, Tag.i IntKind.u8] } := by kernel_rfl
@[go_sem] theorem Tryz.td123 : tdOf Tryz.prog 123 = some { k := TK.int IntKind.u64, size := 1, agg := false, bytes := 8, zero := PV.int IntKind.u64 0, tags := some [Tag.i IntKind.u64] } := by kernel_rfl
@[go_sem] theorem Tryz.td124 : tdOf Tryz.prog 124 = some { k := TK.func, size := 1, agg := false, bytes := 8, zero := PV.nilf } := by kernel_rfl
@[go_sem] theorem Tryz.td125 : tdOf Tryz.prog 125 = some { k := TK.func, size := 1, agg := false, bytes := 8, zero := PV.nilf } := by kernel_rfl
@[go_sem] theorem Tryz.td126 : tdOf Tryz.prog 126 = some { k := TK.other, size := 1, agg := false, bytes := 0, zero := PV.any } := by kernel_rfl
@[go_sem] theorem Tryz.td127 : tdOf Tryz.prog 127 = some { k := TK.func, size := 1, agg := false, bytes := 8, zero := PV.nilf } := by kernel_rfl
@[go_sem] theorem Tryz.td128 : tdOf Tryz.prog 128 = some { k := TK.func, size := 1, agg := false, bytes := 8, zero := PV.nilf } := by kernel_rfl
@[go_sem] theorem Tryz.td129 : tdOf Tryz.prog 129 = some { k := TK.other, size := 1, agg := false, bytes := 8, zero := PV.nilp } := by kernel_rfl
@[go_sem] theorem Tryz.td130 : tdOf Tryz.prog 130 = some { k := TK.func, size := 1, agg := false, bytes := 8, zero := PV.nilf } := by kernel_rfl
@[go_sem] theorem Tryz.td131 : tdOf Tryz.prog 131 = some { k := TK.func, size := 1, agg := false, bytes := 8, zero := PV.nilf } := by kernel_rfl
@[go_sem] theorem Tryz.td132 : tdOf Tryz.prog 132 = some { k := TK.func, size := 1, agg := false, bytes := 8, zero := PV.nilf } := by kernel_rfl
@[go_sem] theorem Tryz.td133 : tdOf Tryz.prog 133 = some { k := TK.arr 20 123, size := 20, agg := true, bytes := 160, zero := PV.agg [PV.int IntKind.u64 0, PV.int IntKind.u64 0, PV.int IntKind.u64 0, PV.int IntKind.u64 0, PV.int IntKind.u64 0, PV.int IntKind.u64 0, PV.int IntKind.u64 0, PV.int IntKind.u64 0, PV.int IntKind.u64 0, PV.int IntKind.u64 0, PV.int IntKind.u64 0, PV.int IntKind.u64 0, PV.int IntKind.u64 0, PV.int IntKind.u64 0, PV.int IntKind.u64 0, PV.int IntKind.u64 0, PV.int IntKind.u64 0, PV.int IntKind.u64 0, PV.int IntKind.u64 0, PV.int IntKind.u64 0], tags := some [Tag.i IntKind.u64, Tag.i IntKind.u64, Tag.i IntKind.u64, Tag.i IntKind.u64, Tag.i IntKind.u64, Tag.i IntKind.u64, Tag.i IntKind.u64, Tag.i IntKind.u64, Tag.i IntKind.u64, Tag.i IntKind.u64, Tag.i IntKind.u64, Tag.i IntKind.u64, Tag.i IntKind.u64, Tag.i IntKind.u64, Tag.i IntKind.u64, Tag.i IntKind.u64, Tag.i IntKind.u64, Tag.i IntKind.u64, Tag.i IntKind.u64, Tag.i IntKind.u64] } := by kernel_rfl
@[go_sem] theorem Tryz.td135 : tdOf Tryz.prog 135 = some { k := TK.func, size := 1, agg := false, bytes := 8, zero := PV.nilf } := by kernel_rfl
@[go_sem] theorem Tryz.td136 : tdOf Tryz.prog 136 = some { k := TK.func, size := 1, agg := false, bytes := 8, zero := PV.nilf } := by kernel_rfl
@[go_sem] theorem Tryz.td137 : tdOf Tryz.prog 137 = some { k := TK.arr 32 5, size := 32, agg := true, bytes := 32, zero := PV.agg [PV.int IntKind.u8 0, PV.int IntKind.u8 0, PV.int IntKind.u8 0, PV.int IntKind.u8 0, PV.int IntKind.u8 0, PV.int IntKind.u8 0, PV.int IntKind.u8 0, PV.int IntKind.u8 0, PV.int IntKind.u8 0, PV.int IntKind.u8 0, PV.int IntKind.u8 0, PV.int IntKind.u8 0, PV.int IntKind.u8 0, PV.int IntKind.u8 0, PV.int IntKind.u8 0, PV.int IntKind.u8 0, PV.int IntKind.u8 0, PV.int IntKind.u8 0, PV.int IntKind.u8 0, PV.int IntKind.u8 0, PV.int IntKind.u8 0, PV.int IntKind.u8 0, PV.int IntKind.u8 0, PV.int IntKind.u8 0, PV.int IntKind.u8 0, PV.int IntKind.u8 0, PV.int IntKind.u8 0, PV.int IntKind.u8 0, PV.int IntKind.u8 0, PV.int IntKind.u8 0, PV.int IntKind.u8 0, PV.int IntKind.u8 0], tags := some [Tag.i IntKind.u8, Tag.i IntKind.u8, Tag.i IntKind.u8, Tag.i IntKind.u8, Tag.i IntKind.u8, Tag.i IntKind.u8, Tag.i IntKind.u8, Tag.i IntKind.u8, Tag.i IntKind.u8, Tag.i IntKind.u8, Tag.i IntKind.u8, Tag.i IntKind.u8, Tag.i IntKind.u8, Tag.i IntKind.u8, Tag.i IntKind.u8, Tag.i IntKind.u8, Tag.i IntKind.u8, Tag.i IntKind.u8, Tag.i IntKind.u8, Tag.i IntKind.u8, Tag.i IntKind.u8, Tag.i IntKind.u8, Tag.i IntKind.u8, Tag.i IntKind.u8, Tag.i IntKind.u8, Tag.i IntKind.u8, Tag.i IntKind.u8, Tag.i IntKind.u8, Tag.i IntKind.u8, Tag.i IntKind.u8, Tag.i IntKind.u8, Tag.i IntKind.u8] } := by kernel_rfl
@[go_sem] theorem Tryz.td139 : tdOf Tryz.prog 139 = some { k := TK.struct [(0, 17), (1, 17), (2, 17), (3, 9)], size := 4, agg := true, bytes := 40, zero := PV.agg [PV.nilp, PV.nilp, PV.nilp, PV.str (ByteArray.mk #[])] } := by kernel_rfl
@[go_sem] theorem Tryz.td140 : tdOf Tryz.prog 140 = some { k := TK.struct [(0, 17), (1, 17), (2, 17), (3, 9)], size := 4, agg := true, bytes := 40, zero := PV.agg [PV.nilp, PV.nilp, PV.nilp, PV.str (ByteArray.mk #[])] } := by kernel_rfl
@[go_sem] theorem Tryz.td141 : tdOf Tryz.prog 141 = some { k := TK.arr 0 16, size := 0, agg := true, bytes := 0, zero := PV.agg [] } := by kernel_rfl
@[go_sem] theorem Tryz.td142 : tdOf Tryz.prog 142 = some { k := TK.struct [(0, 141)], size := 0, agg := true, bytes := 0, zero := PV.agg [] } := by kernel_rfl
@[go_sem] theorem Tryz.td143 : tdOf Tryz.prog 143 = some { k := TK.struct [(0, 141)], size := 0, agg := true, bytes := 0, zero := PV.agg [] } := by kernel_rfl
@[go_sem] theorem Tryz.td144 : tdOf Tryz.prog 144 = some { k := TK.func, size := 1, agg := false, bytes := 8, zero := PV.nilf } := by kernel_rfl
@[go_sem] theorem Tryz.td145 : tdOf Tryz.prog 145 = some { k := TK.int IntKind.u8, size := 1, agg := false, bytes := 1, zero := PV.int IntKind.u8 0, tags := some [Tag.i IntKind.u8] } := by kernel_rfl
@[go_sem] theorem Tryz.td146 : tdOf Tryz.prog 146 = some { k := TK.int IntKind.u8, size := 1, agg := false, bytes := 1, zero := PV.int IntKind.u8 0, tags := some [Tag.i IntKind.u8] } := by kernel_rfl
@[go_sem] theorem Tryz.td147 : tdOf Tryz.prog 147 = some { k := TK.func, size := 1, agg := false, bytes := 8, zero := PV.nilf } := by kernel_rfl
@[go_sem] theorem Tryz.td148 : tdOf Tryz.prog 148 = some { k := TK.int IntKind.i32, size := 1, agg := false, bytes := 4, zero := PV.int IntKind.i32 0, tags := some [Tag.i IntKind.i32] } := by kernel_rfl
@[go_sem] theorem Tryz.td149 : tdOf Tryz.prog 149 = some { k := TK.int IntKind.i32, size := 1, agg := false, bytes := 4, zero := PV.int IntKind.i32 0, tags := some [Tag.i IntKind.i32] } := by kernel_rfl
@[go_sem] theorem Tryz.td150 : tdOf Tryz.prog 150 = some { k := TK.struct [(0, 12), (1, 12), (2, 65), (3, 145), (4, 5), (5, 5), (6, 146), (7, 147), (8, 121), (9, 148), (10, 149)], size := 11, agg := true, bytes := 48, zero := PV.agg [PV.int IntKind.u64 0, PV.int IntKind.u64 0, PV.int IntKind.u32 0, PV.int IntKind.u8 0, PV.int IntKind.u8 0, PV.int IntKind.u8 0, PV.int IntKind.u8 0, PV.nilf, PV.nilp, PV.int IntKind.i32 0, PV.int IntKind.i32 0] } := by kernel_rfl
@[go_sem] theorem Tryz.td151 : tdOf Tryz.prog 151 = some { k := TK.struct [(0, 12), (1, 12), (2, 65), (3, 145), (4, 5), (5, 5), (6, 146), (7, 147), (8, 121), (9, 148), (10, 149)], size := 11, agg := true, bytes := 48, zero := PV.agg [PV.int IntKind.u64 0, PV.int IntKind.u64 0, PV.int IntKind.u32 0, PV.int IntKind.u8 0, PV.int IntKind.u8 0, PV.int IntKind.u8 0, PV.int IntKind.u8 0, PV.nilf, PV.nilp, PV.int IntKind.i32 0, PV.int IntKind.i32 0] } := by kernel_rfl
end Go.Proofs
