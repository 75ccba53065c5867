/-
  The table of the program's types, as the evaluator reads it. No claim by itself. (Printed by mktab.py.)
-/
import Derived.Test.YtmgemdgbffmnjaaSlM4
import Derived.Test.YtmgemdgbffmnjaaProg
set_option maxRecDepth 100000
namespace Go.Proofs
open Go Go.Proofs.SL
@[go_sem] theorem Try.td0 : tdOf Try.prog 0 = some { k := TK.other, size := 1, agg := false, bytes := 0, zero := PV.any } := by kernel_rfl
@[go_sem] theorem Try.td1 : tdOf Try.prog 1 = some { k := TK.func, size := 1, agg := false, bytes := 8, zero := PV.nilf } := by kernel_rfl
@[go_sem] theorem Try.td2 : tdOf Try.prog 2 = some { k := TK.int IntKind.i64, size := 1, agg := false, bytes := 8, zero := PV.int IntKind.i64 0, tags := some [Tag.i IntKind.i64] } := by kernel_rfl
@[go_sem] theorem Try.td3 : tdOf Try.prog 3 = some { k := TK.int IntKind.i64, size := 1, agg := false, bytes := 8, zero := PV.int IntKind.i64 0, tags := some [Tag.i IntKind.i64] } := by kernel_rfl
@[go_sem] theorem Try.td4 : tdOf Try.prog 4 = some { k := TK.bool, size := 1, agg := false, bytes := 1, zero := PV.bool false, tags := some [Tag.b] } := by kernel_rfl
@[go_sem] theorem Try.td5 : tdOf Try.prog 5 = some { k := TK.int IntKind.u8, size := 1, agg := false, bytes := 1, zero := PV.int IntKind.u8 0, tags := some [Tag.i IntKind.u8] } := by kernel_rfl
@[go_sem] theorem Try.td6 : tdOf Try.prog 6 = some { k := TK.int IntKind.u8, size := 1, agg := false, bytes := 1, zero := PV.int IntKind.u8 0, tags := some [Tag.i IntKind.u8] } := by kernel_rfl
@[go_sem] theorem Try.td7 : tdOf Try.prog 7 = some { k := TK.struct [(0, 2), (1, 3), (2, 4), (3, 6)], size := 4, agg := true, bytes := 24, zero := PV.agg [PV.int IntKind.i64 0, PV.int IntKind.i64 0, PV.bool false, PV.int IntKind.u8 0], tags := some [Tag.i IntKind.i64, Tag.i IntKind.i64, Tag.b, Tag.i IntKind.u8] } := by kernel_rfl
@[go_sem] theorem Try.td8 : tdOf Try.prog 8 = some { k := TK.struct [(0, 2), (1, 3), (2, 4), (3, 6)], size := 4, agg := true, bytes := 24, zero := PV.agg [PV.int IntKind.i64 0, PV.int IntKind.i64 0, PV.bool false, PV.int IntKind.u8 0], tags := some [Tag.i IntKind.i64, Tag.i IntKind.i64, Tag.b, Tag.i IntKind.u8] } := by kernel_rfl
@[go_sem] theorem Try.td9 : tdOf Try.prog 9 = some { k := TK.str, size := 1, agg := false, bytes := 16, zero := PV.str (ByteArray.mk #[]), tags := some [Tag.s] } := by kernel_rfl
@[go_sem] theorem Try.td10 : tdOf Try.prog 10 = some { k := TK.str, size := 1, agg := false, bytes := 16, zero := PV.str (ByteArray.mk #[]), tags := some [Tag.s] } := by kernel_rfl
@[go_sem] theorem Try.td11 : tdOf Try.prog 11 = some { k := TK.str, size := 1, agg := false, bytes := 16, zero := PV.str (ByteArray.mk #[]), tags := some [Tag.s] } := by kernel_rfl
@[go_sem] theorem Try.td12 : tdOf Try.prog 12 = some { k := TK.int IntKind.u64, size := 1, agg := false, bytes := 8, zero := PV.int IntKind.u64 0, tags := some [Tag.i IntKind.u64] } := by kernel_rfl
@[go_sem] theorem Try.td13 : tdOf Try.prog 13 = some { k := TK.struct [(0, 9), (1, 12)], size := 2, agg := true, bytes := 24, zero := PV.agg [PV.str (ByteArray.mk #[]), PV.int IntKind.u64 0] } := by kernel_rfl
@[go_sem] theorem Try.td14 : tdOf Try.prog 14 = some { k := TK.struct [(0, 9), (1, 12)], size := 2, agg := true, bytes := 24, zero := PV.agg [PV.str (ByteArray.mk #[]), PV.int IntKind.u64 0] } := by kernel_rfl
@[go_sem] theorem Try.td15 : tdOf Try.prog 15 = some { k := TK.ptr 151, size := 1, agg := false, bytes := 8, zero := PV.nilp } := by kernel_rfl
@[go_sem] theorem Try.td16 : tdOf Try.prog 16 = some { k := TK.ptr 154, size := 1, agg := false, bytes := 8, zero := PV.nilp } := by kernel_rfl
@[go_sem] theorem Try.td17 : tdOf Try.prog 17 = some { k := TK.ptr 161, size := 1, agg := false, bytes := 8, zero := PV.nilp } := by kernel_rfl
@[go_sem] theorem Try.td18 : tdOf Try.prog 18 = some { k := TK.struct [(0, 17)], size := 1, agg := true, bytes := 8, zero := PV.agg [PV.nilp] } := by kernel_rfl
@[go_sem] theorem Try.td19 : tdOf Try.prog 19 = some { k := TK.struct [(0, 17)], size := 1, agg := true, bytes := 8, zero := PV.agg [PV.nilp] } := by kernel_rfl
@[go_sem] theorem Try.td20 : tdOf Try.prog 20 = some { k := TK.iface, size := 1, agg := false, bytes := 16, zero := PV.nili } := by kernel_rfl
@[go_sem] theorem Try.td21 : tdOf Try.prog 21 = some { k := TK.int IntKind.i32, size := 1, agg := false, bytes := 4, zero := PV.int IntKind.i32 0, tags := some [Tag.i IntKind.i32] } := by kernel_rfl
@[go_sem] theorem Try.td22 : tdOf Try.prog 22 = some { k := TK.slice 48, size := 1, agg := false, bytes := 24, zero := PV.nils } := by kernel_rfl
@[go_sem] theorem Try.td23 : tdOf Try.prog 23 = some { k := TK.slice 32, size := 1, agg := false, bytes := 24, zero := PV.nils } := by kernel_rfl
@[go_sem] theorem Try.td24 : tdOf Try.prog 24 = some { k := TK.struct [(0, 3), (1, 3), (2, 22), (3, 23), (4, 23), (5, 23)], size := 6, agg := true, bytes := 112, zero := PV.agg [PV.int IntKind.i64 0, PV.int IntKind.i64 0, PV.nils, PV.nils, PV.nils, PV.nils] } := by kernel_rfl
@[go_sem] theorem Try.td25 : tdOf Try.prog 25 = some { k := TK.struct [(0, 3), (1, 3), (2, 22), (3, 23), (4, 23), (5, 23)], size := 6, agg := true, bytes := 112, zero := PV.agg [PV.int IntKind.i64 0, PV.int IntKind.i64 0, PV.nils, PV.nils, PV.nils, PV.nils] } := by kernel_rfl
@[go_sem] theorem Try.td26 : tdOf Try.prog 26 = some { k := TK.func, size := 1, agg := false, bytes := 8, zero := PV.nilf } := by kernel_rfl
@[go_sem] theorem Try.td27 : tdOf Try.prog 27 = some { k := TK.func, size := 1, agg := false, bytes := 8, zero := PV.nilf } := by kernel_rfl
@[go_sem] theorem Try.td28 : tdOf Try.prog 28 = some { k := TK.arr 16 5, size := 16, agg := true, bytes := 16, zero := PV.agg [PV.int IntKind.u8 0, PV.int IntKind.u8 0, PV.int IntKind.u8 0, PV.int IntKind.u8 0, PV.int IntKind.u8 0, PV.int IntKind.u8 0, PV.int IntKind.u8 0, PV.int IntKind.u8 0, PV.int IntKind.u8 0, PV.int IntKind.u8 0, PV.int IntKind.u8 0, PV.int IntKind.u8 0, PV.int IntKind.u8 0, PV.int IntKind.u8 0, PV.int IntKind.u8 0, PV.int IntKind.u8 0], tags := some [Tag.i IntKind.u8, Tag.i IntKind.u8, Tag.i IntKind.u8, Tag.i IntKind.u8, Tag.i IntKind.u8, Tag.i IntKind.u8, Tag.i IntKind.u8, Tag.i IntKind.u8, Tag.i IntKind.u8, Tag.i IntKind.u8, Tag.i IntKind.u8, Tag.i IntKind.u8, Tag.i IntKind.u8, Tag.i IntKind.u8, Tag.i IntKind.u8, Tag.i IntKind.u8] } := by kernel_rfl
@[go_sem] theorem Try.td29 : tdOf Try.prog 29 = some { k := TK.struct [(0, 3), (1, 28)], size := 17, agg := true, bytes := 24, zero := PV.agg [PV.int IntKind.i64 0, PV.int IntKind.u8 0, PV.int IntKind.u8 0, PV.int IntKind.u8 0, PV.int IntKind.u8 0, PV.int IntKind.u8 0, PV.int IntKind.u8 0, PV.int IntKind.u8 0, PV.int IntKind.u8 0, PV.int IntKind.u8 0, PV.int IntKind.u8 0, PV.int IntKind.u8 0, PV.int IntKind.u8 0, PV.int IntKind.u8 0, PV.int IntKind.u8 0, PV.int IntKind.u8 0, PV.int IntKind.u8 0], tags := some [Tag.i IntKind.i64, Tag.i IntKind.u8, Tag.i IntKind.u8, Tag.i IntKind.u8, Tag.i IntKind.u8, Tag.i IntKind.u8, Tag.i IntKind.u8, Tag.i IntKind.u8, Tag.i IntKind.u8, Tag.i IntKind.u8, Tag.i IntKind.u8, Tag.i IntKind.u8, Tag.i IntKind.u8, Tag.i IntKind.u8, Tag.i IntKind.u8, Tag.i IntKind.u8, Tag.i IntKind.u8] } := by kernel_rfl
@[go_sem] theorem Try.td30 : tdOf Try.prog 30 = some { k := TK.struct [(0, 3), (1, 28)], size := 17, agg := true, bytes := 24, zero := PV.agg [PV.int IntKind.i64 0, PV.int IntKind.u8 0, PV.int IntKind.u8 0, PV.int IntKind.u8 0, PV.int IntKind.u8 0, PV.int IntKind.u8 0, PV.int IntKind.u8 0, PV.int IntKind.u8 0, PV.int IntKind.u8 0, PV.int IntKind.u8 0, PV.int IntKind.u8 0, PV.int IntKind.u8 0, PV.int IntKind.u8 0, PV.int IntKind.u8 0, PV.int IntKind.u8 0, PV.int IntKind.u8 0, PV.int IntKind.u8 0], tags := some [Tag.i IntKind.i64, Tag.i IntKind.u8, Tag.i IntKind.u8, Tag.i IntKind.u8, Tag.i IntKind.u8, Tag.i IntKind.u8, Tag.i IntKind.u8, Tag.i IntKind.u8, Tag.i IntKind.u8, Tag.i IntKind.u8, Tag.i IntKind.u8, Tag.i IntKind.u8, Tag.i IntKind.u8, Tag.i IntKind.u8, Tag.i IntKind.u8, Tag.i IntKind.u8, Tag.i IntKind.u8] } := by kernel_rfl
@[go_sem] theorem Try.td31 : tdOf Try.prog 31 = some { k := TK.struct [(0, 9), (1, 3), (2, 3), (3, 3), (4, 30), (21, 9), (22, 9)], size := 23, agg := true, bytes := 96, zero := PV.agg [PV.str (ByteArray.mk #[]), PV.int IntKind.i64 0, PV.int IntKind.i64 0, PV.int IntKind.i64 0, PV.int IntKind.i64 0, PV.int IntKind.u8 0, PV.int IntKind.u8 0, PV.int IntKind.u8 0, PV.int IntKind.u8 0, PV.int IntKind.u8 0, PV.int IntKind.u8 0, PV.int IntKind.u8 0, PV.int IntKind.u8 0, PV.int IntKind.u8 0, PV.int IntKind.u8 0, PV.int IntKind.u8 0, PV.int IntKind.u8 0, PV.int IntKind.u8 0, PV.int IntKind.u8 0, PV.int IntKind.u8 0, PV.int IntKind.u8 0, PV.str (ByteArray.mk #[]), PV.str (ByteArray.mk #[])], tags := some [Tag.s, Tag.i IntKind.i64, Tag.i IntKind.i64, Tag.i IntKind.i64, Tag.i IntKind.i64, Tag.i IntKind.u8, Tag.i IntKind.u8, Tag.i IntKind.u8, Tag.i IntKind.u8, Tag.i IntKind.u8, Tag.i IntKind.u8, Tag.i IntKind.u8, Tag.i IntKind.u8, Tag.i IntKind.u8, Tag.i IntKind.u8, Tag.i IntKind.u8, Tag.i IntKind.u8, Tag.i IntKind.u8, Tag.i IntKind.u8, Tag.i IntKind.u8, Tag.i IntKind.u8, Tag.s, Tag.s] } := by kernel_rfl
@[go_sem] theorem Try.td32 : tdOf Try.prog 32 = some { k := TK.struct [(0, 9), (1, 3), (2, 3), (3, 3), (4, 30), (21, 9), (22, 9)], size := 23, agg := true, bytes := 96, zero := PV.agg [PV.str (ByteArray.mk #[]), PV.int IntKind.i64 0, PV.int IntKind.i64 0, PV.int IntKind.i64 0, PV.int IntKind.i64 0, PV.int IntKind.u8 0, PV.int IntKind.u8 0, PV.int IntKind.u8 0, PV.int IntKind.u8 0, PV.int IntKind.u8 0, PV.int IntKind.u8 0, PV.int IntKind.u8 0, PV.int IntKind.u8 0, PV.int IntKind.u8 0, PV.int IntKind.u8 0, PV.int IntKind.u8 0, PV.int IntKind.u8 0, PV.int IntKind.u8 0, PV.int IntKind.u8 0, PV.int IntKind.u8 0, PV.int IntKind.u8 0, PV.str (ByteArray.mk #[]), PV.str (ByteArray.mk #[])], tags := some [Tag.s, Tag.i IntKind.i64, Tag.i IntKind.i64, Tag.i IntKind.i64, Tag.i IntKind.i64, Tag.i IntKind.u8, Tag.i IntKind.u8, Tag.i IntKind.u8, Tag.i IntKind.u8, Tag.i IntKind.u8, Tag.i IntKind.u8, Tag.i IntKind.u8, Tag.i IntKind.u8, Tag.i IntKind.u8, Tag.i IntKind.u8, Tag.i IntKind.u8, Tag.i IntKind.u8, Tag.i IntKind.u8, Tag.i IntKind.u8, Tag.i IntKind.u8, Tag.i IntKind.u8, Tag.s, Tag.s] } := by kernel_rfl
@[go_sem] theorem Try.td33 : tdOf Try.prog 33 = some { k := TK.slice 25, size := 1, agg := false, bytes := 24, zero := PV.nils } := by kernel_rfl
@[go_sem] theorem Try.td34 : tdOf Try.prog 34 = some { k := TK.func, size := 1, agg := false, bytes := 8, zero := PV.nilf } := by kernel_rfl
@[go_sem] theorem Try.td35 : tdOf Try.prog 35 = some { k := TK.slice 5, size := 1, agg := false, bytes := 24, zero := PV.nils } := by kernel_rfl
@[go_sem] theorem Try.td36 : tdOf Try.prog 36 = some { k := TK.int IntKind.i64, size := 1, agg := false, bytes := 8, zero := PV.int IntKind.i64 0, tags := some [Tag.i IntKind.i64] } := by kernel_rfl
@[go_sem] theorem Try.td37 : tdOf Try.prog 37 = some { k := TK.other, size := 1, agg := false, bytes := 0, zero := PV.any } := by kernel_rfl
@[go_sem] theorem Try.td38 : tdOf Try.prog 38 = some { k := TK.func, size := 1, agg := false, bytes := 8, zero := PV.nilf } := by kernel_rfl
@[go_sem] theorem Try.td39 : tdOf Try.prog 39 = some { k := TK.func, size := 1, agg := false, bytes := 8, zero := PV.nilf } := by kernel_rfl
@[go_sem] theorem Try.td40 : tdOf Try.prog 40 = some { k := TK.slice 3, size := 1, agg := false, bytes := 24, zero := PV.nils } := by kernel_rfl
@[go_sem] theorem Try.td41 : tdOf Try.prog 41 = some { k := TK.func, size := 1, agg := false, bytes := 8, zero := PV.nilf } := by kernel_rfl
@[go_sem] theorem Try.td42 : tdOf Try.prog 42 = some { k := TK.func, size := 1, agg := false, bytes := 8, zero := PV.nilf } := by kernel_rfl
@[go_sem] theorem Try.td43 : tdOf Try.prog 43 = some { k := TK.func, size := 1, agg := false, bytes := 8, zero := PV.nilf } := by kernel_rfl
@[go_sem] theorem Try.td44 : tdOf Try.prog 44 = some { k := TK.func, size := 1, agg := false, bytes := 8, zero := PV.nilf } := by kernel_rfl
@[go_sem] theorem Try.td45 : tdOf Try.prog 45 = some { k := TK.func, size := 1, agg := false, bytes := 8, zero := PV.nilf } := by kernel_rfl
@[go_sem] theorem Try.td46 : tdOf Try.prog 46 = some { k := TK.func, size := 1, agg := false, bytes := 8, zero := PV.nilf } := by kernel_rfl
@[go_sem] theorem Try.td47 : tdOf Try.prog 47 = some { k := TK.struct [(0, 9), (1, 3), (2, 3)], size := 3, agg := true, bytes := 32, zero := PV.agg [PV.str (ByteArray.mk #[]), PV.int IntKind.i64 0, PV.int IntKind.i64 0], tags := some [Tag.s, Tag.i IntKind.i64, Tag.i IntKind.i64] } := by kernel_rfl
@[go_sem] theorem Try.td48 : tdOf Try.prog 48 = some { k := TK.struct [(0, 9), (1, 3), (2, 3)], size := 3, agg := true, bytes := 32, zero := PV.agg [PV.str (ByteArray.mk #[]), PV.int IntKind.i64 0, PV.int IntKind.i64 0], tags := some [Tag.s, Tag.i IntKind.i64, Tag.i IntKind.i64] } := by kernel_rfl
@[go_sem] theorem Try.td49 : tdOf Try.prog 49 = some { k := TK.func, size := 1, agg := false, bytes := 8, zero := PV.nilf } := by kernel_rfl
@[go_sem] theorem Try.td50 : tdOf Try.prog 50 = some { k := TK.func, size := 1, agg := false, bytes := 8, zero := PV.nilf } := by kernel_rfl
@[go_sem] theorem Try.td51 : tdOf Try.prog 51 = some { k := TK.slice 35, size := 1, agg := false, bytes := 24, zero := PV.nils } := by kernel_rfl
@[go_sem] theorem Try.td52 : tdOf Try.prog 52 = some { k := TK.other, size := 1, agg := false, bytes := 0, zero := PV.any } := by kernel_rfl
@[go_sem] theorem Try.td53 : tdOf Try.prog 53 = some { k := TK.func, size := 1, agg := false, bytes := 8, zero := PV.nilf } := by kernel_rfl
@[go_sem] theorem Try.td54 : tdOf Try.prog 54 = some { k := TK.func, size := 1, agg := false, bytes := 8, zero := PV.nilf } := by kernel_rfl
@[go_sem] theorem Try.td55 : tdOf Try.prog 55 = some { k := TK.func, size := 1, agg := false, bytes := 8, zero := PV.nilf } := by kernel_rfl
@[go_sem] theorem Try.td56 : tdOf Try.prog 56 = some { k := TK.func, size := 1, agg := false, bytes := 8, zero := PV.nilf } := by kernel_rfl
@[go_sem] theorem Try.td57 : tdOf Try.prog 57 = some { k := TK.func, size := 1, agg := false, bytes := 8, zero := PV.nilf } := by kernel_rfl
@[go_sem] theorem Try.td58 : tdOf Try.prog 58 = some { k := TK.func, size := 1, agg := false, bytes := 8, zero := PV.nilf } := by kernel_rfl
@[go_sem] theorem Try.td59 : tdOf Try.prog 59 = some { k := TK.func, size := 1, agg := false, bytes := 8, zero := PV.nilf } := by kernel_rfl
@[go_sem] theorem Try.td60 : tdOf Try.prog 60 = some { k := TK.map 9 3, size := 1, agg := false, bytes := 8, zero := PV.nilm } := by kernel_rfl
@[go_sem] theorem Try.td61 : tdOf Try.prog 61 = some { k := TK.struct [(0, 35), (1, 60)], size := 2, agg := true, bytes := 32, zero := PV.agg [PV.nils, PV.nilm] } := by kernel_rfl
@[go_sem] theorem Try.td62 : tdOf Try.prog 62 = some { k := TK.struct [(0, 35), (1, 60)], size := 2, agg := true, bytes := 32, zero := PV.agg [PV.nils, PV.nilm] } := by kernel_rfl
@[go_sem] theorem Try.td63 : tdOf Try.prog 63 = some { k := TK.map 3 3, size := 1, agg := false, bytes := 8, zero := PV.nilm } := by kernel_rfl
@[go_sem] theorem Try.td64 : tdOf Try.prog 64 = some { k := TK.func, size := 1, agg := false, bytes := 8, zero := PV.nilf } := by kernel_rfl
@[go_sem] theorem Try.td65 : tdOf Try.prog 65 = some { k := TK.ptr 62, size := 1, agg := false, bytes := 8, zero := PV.nilp } := by kernel_rfl
@[go_sem] theorem Try.td66 : tdOf Try.prog 66 = some { k := TK.slice 69, size := 1, agg := false, bytes := 24, zero := PV.nils } := by kernel_rfl
@[go_sem] theorem Try.td67 : tdOf Try.prog 67 = some { k := TK.func, size := 1, agg := false, bytes := 8, zero := PV.nilf } := by kernel_rfl
@[go_sem] theorem Try.td68 : tdOf Try.prog 68 = some { k := TK.ptr 25, size := 1, agg := false, bytes := 8, zero := PV.nilp } := by kernel_rfl
@[go_sem] theorem Try.td69 : tdOf Try.prog 69 = some { k := TK.ptr 23, size := 1, agg := false, bytes := 8, zero := PV.nilp } := by kernel_rfl
@[go_sem] theorem Try.td70 : tdOf Try.prog 70 = some { k := TK.func, size := 1, agg := false, bytes := 8, zero := PV.nilf } := by kernel_rfl
@[go_sem] theorem Try.td71 : tdOf Try.prog 71 = some { k := TK.int IntKind.u64, size := 1, agg := false, bytes := 8, zero := PV.int IntKind.u64 0, tags := some [Tag.i IntKind.u64] } := by kernel_rfl
@[go_sem] theorem Try.td72 : tdOf Try.prog 72 = some { k := TK.func, size := 1, agg := false, bytes := 8, zero := PV.nilf } := by kernel_rfl
@[go_sem] theorem Try.td73 : tdOf Try.prog 73 = some { k := TK.func, size := 1, agg := false, bytes := 8, zero := PV.nilf } := by kernel_rfl
@[go_sem] theorem Try.td74 : tdOf Try.prog 74 = some { k := TK.func, size := 1, agg := false, bytes := 8, zero := PV.nilf } := by kernel_rfl
@[go_sem] theorem Try.td75 : tdOf Try.prog 75 = some { k := TK.func, size := 1, agg := false, bytes := 8, zero := PV.nilf } := by kernel_rfl
@[go_sem] theorem Try.td76 : tdOf Try.prog 76 = some { k := TK.func, size := 1, agg := false, bytes := 8, zero := PV.nilf } := by kernel_rfl
@[go_sem] theorem Try.td77 : tdOf Try.prog 77 = some { k := TK.func, size := 1, agg := false, bytes := 8, zero := PV.nilf } := by kernel_rfl
@[go_sem] theorem Try.td78 : tdOf Try.prog 78 = some { k := TK.func, size := 1, agg := false, bytes := 8, zero := PV.nilf } := by kernel_rfl
@[go_sem] theorem Try.td79 : tdOf Try.prog 79 = some { k := TK.slice 9, size := 1, agg := false, bytes := 24, zero := PV.nils } := by kernel_rfl
@[go_sem] theorem Try.td80 : tdOf Try.prog 80 = some { k := TK.struct [(0, 35), (1, 79), (2, 40)], size := 3, agg := true, bytes := 72, zero := PV.agg [PV.nils, PV.nils, PV.nils] } := by kernel_rfl
@[go_sem] theorem Try.td81 : tdOf Try.prog 81 = some { k := TK.struct [(0, 35), (1, 79), (2, 40)], size := 3, agg := true, bytes := 72, zero := PV.agg [PV.nils, PV.nils, PV.nils] } := by kernel_rfl
@[go_sem] theorem Try.td82 : tdOf Try.prog 82 = some { k := TK.func, size := 1, agg := false, bytes := 8, zero := PV.nilf } := by kernel_rfl
@[go_sem] theorem Try.td83 : tdOf Try.prog 83 = some { k := TK.func, size := 1, agg := false, bytes := 8, zero := PV.nilf } := by kernel_rfl
@[go_sem] theorem Try.td84 : tdOf Try.prog 84 = some { k := TK.other, size := 1, agg := false, bytes := 0, zero := PV.any } := by kernel_rfl
@[go_sem] theorem Try.td85 : tdOf Try.prog 85 = some { k := TK.func, size := 1, agg := false, bytes := 8, zero := PV.nilf } := by kernel_rfl
@[go_sem] theorem Try.td86 : tdOf Try.prog 86 = some { k := TK.slice 23, size := 1, agg := false, bytes := 24, zero := PV.nils } := by kernel_rfl
@[go_sem] theorem Try.td87 : tdOf Try.prog 87 = some { k := TK.func, size := 1, agg := false, bytes := 8, zero := PV.nilf } := by kernel_rfl
@[go_sem] theorem Try.td88 : tdOf Try.prog 88 = some { k := TK.func, size := 1, agg := false, bytes := 8, zero := PV.nilf } := by kernel_rfl
@[go_sem] theorem Try.td89 : tdOf Try.prog 89 = some { k := TK.func, size := 1, agg := false, bytes := 8, zero := PV.nilf } := by kernel_rfl
@[go_sem] theorem Try.td90 : tdOf Try.prog 90 = some { k := TK.func, size := 1, agg := false, bytes := 8, zero := PV.nilf } := by kernel_rfl
@[go_sem] theorem Try.td91 : tdOf Try.prog 91 = some { k := TK.func, size := 1, agg := false, bytes := 8, zero := PV.nilf } := by kernel_rfl
@[go_sem] theorem Try.td92 : tdOf Try.prog 92 = some { k := TK.func, size := 1, agg := false, bytes := 8, zero := PV.nilf } := by kernel_rfl
@[go_sem] theorem Try.td93 : tdOf Try.prog 93 = some { k := TK.func, size := 1, agg := false, bytes := 8, zero := PV.nilf } := by kernel_rfl
@[go_sem] theorem Try.td94 : tdOf Try.prog 94 = some { k := TK.func, size := 1, agg := false, bytes := 8, zero := PV.nilf } := by kernel_rfl
@[go_sem] theorem Try.td95 : tdOf Try.prog 95 = some { k := TK.func, size := 1, agg := false, bytes := 8, zero := PV.nilf } := by kernel_rfl
@[go_sem] theorem Try.td96 : tdOf Try.prog 96 = some { k := TK.ptr 98, size := 1, agg := false, bytes := 8, zero := PV.nilp } := by kernel_rfl
@[go_sem] theorem Try.td97 : tdOf Try.prog 97 = some { k := TK.struct [(0, 35), (1, 3), (2, 36)], size := 3, agg := true, bytes := 40, zero := PV.agg [PV.nils, PV.int IntKind.i64 0, PV.int IntKind.i64 0] } := by kernel_rfl
@[go_sem] theorem Try.td98 : tdOf Try.prog 98 = some { k := TK.struct [(0, 35), (1, 3), (2, 36)], size := 3, agg := true, bytes := 40, zero := PV.agg [PV.nils, PV.int IntKind.i64 0, PV.int IntKind.i64 0] } := by kernel_rfl
@[go_sem] theorem Try.td99 : tdOf Try.prog 99 = some { k := TK.func, size := 1, agg := false, bytes := 8, zero := PV.nilf } := by kernel_rfl
@[go_sem] theorem Try.td100 : tdOf Try.prog 100 = some { k := TK.arr 3 3, size := 3, agg := true, bytes := 24, zero := PV.agg [PV.int IntKind.i64 0, PV.int IntKind.i64 0, PV.int IntKind.i64 0], tags := some [Tag.i IntKind.i64, Tag.i IntKind.i64, Tag.i IntKind.i64] } := by kernel_rfl
@[go_sem] theorem Try.td101 : tdOf Try.prog 101 = some { k := TK.func, size := 1, agg := false, bytes := 8, zero := PV.nilf } := by kernel_rfl
@[go_sem] theorem Try.td102 : tdOf Try.prog 102 = some { k := TK.func, size := 1, agg := false, bytes := 8, zero := PV.nilf } := by kernel_rfl
@[go_sem] theorem Try.td103 : tdOf Try.prog 103 = some { k := TK.func, size := 1, agg := false, bytes := 8, zero := PV.nilf } := by kernel_rfl
@[go_sem] theorem Try.td104 : tdOf Try.prog 104 = some { k := TK.func, size := 1, agg := false, bytes := 8, zero := PV.nilf } := by kernel_rfl
@[go_sem] theorem Try.td105 : tdOf Try.prog 105 = some { k := TK.func, size := 1, agg := false, bytes := 8, zero := PV.nilf } := by kernel_rfl
@[go_sem] theorem Try.td106 : tdOf Try.prog 106 = some { k := TK.func, size := 1, agg := false, bytes := 8, zero := PV.nilf } := by kernel_rfl
@[go_sem] theorem Try.td107 : tdOf Try.prog 107 = some { k := TK.other, size := 1, agg := false, bytes := 0, zero := PV.any } := by kernel_rfl
@[go_sem] theorem Try.td108 : tdOf Try.prog 108 = some { k := TK.func, size := 1, agg := false, bytes := 8, zero := PV.nilf } := by kernel_rfl
@[go_sem] theorem Try.td109 : tdOf Try.prog 109 = some { k := TK.func, size := 1, agg := false, bytes := 8, zero := PV.nilf } := by kernel_rfl
@[go_sem] theorem Try.td110 : tdOf Try.prog 110 = some { k := TK.func, size := 1, agg := false, bytes := 8, zero := PV.nilf } := by kernel_rfl
@[go_sem] theorem Try.td111 : tdOf Try.prog 111 = some { k := TK.func, size := 1, agg := false, bytes := 8, zero := PV.nilf } := by kernel_rfl
@[go_sem] theorem Try.td112 : tdOf Try.prog 112 = some { k := TK.func, size := 1, agg := false, bytes := 8, zero := PV.nilf } := by kernel_rfl
@[go_sem] theorem Try.td113 : tdOf Try.prog 113 = some { k := TK.func, size := 1, agg := false, bytes := 8, zero := PV.nilf } := by kernel_rfl
@[go_sem] theorem Try.td114 : tdOf Try.prog 114 = some { k := TK.func, size := 1, agg := false, bytes := 8, zero := PV.nilf } := by kernel_rfl
@[go_sem] theorem Try.td115 : tdOf Try.prog 115 = some { k := TK.func, size := 1, agg := false, bytes := 8, zero := PV.nilf } := by kernel_rfl
@[go_sem] theorem Try.td116 : tdOf Try.prog 116 = some { k := TK.other, size := 1, agg := false, bytes := 0, zero := PV.any } := by kernel_rfl
@[go_sem] theorem Try.td117 : tdOf Try.prog 117 = some { k := TK.func, size := 1, agg := false, bytes := 8, zero := PV.nilf } := by kernel_rfl
@[go_sem] theorem Try.td118 : tdOf Try.prog 118 = some { k := TK.func, size := 1, agg := false, bytes := 8, zero := PV.nilf } := by kernel_rfl
@[go_sem] theorem Try.td119 : tdOf Try.prog 119 = some { k := TK.map 3 1, size := 1, agg := false, bytes := 8, zero := PV.nilm } := by kernel_rfl
@[go_sem] theorem Try.td120 : tdOf Try.prog 120 = some { k := TK.func, size := 1, agg := false, bytes := 8, zero := PV.nilf } := by kernel_rfl
@[go_sem] theorem Try.td121 : tdOf Try.prog 121 = some { k := TK.func, size := 1, agg := false, bytes := 8, zero := PV.nilf } := by kernel_rfl
@[go_sem] theorem Try.td122 : tdOf Try.prog 122 = some { k := TK.int IntKind.u32, size := 1, agg := false, bytes := 4, zero := PV.int IntKind.u32 0, tags := some [Tag.i IntKind.u32] } := by kernel_rfl
@[go_sem] theorem Try.td123 : tdOf Try.prog 123 = some { k := TK.func, size := 1, agg := false, bytes := 8, zero := PV.nilf } := by kernel_rfl
@[go_sem] theorem Try.td124 : tdOf Try.prog 124 = some { k := TK.other, size := 1, agg := false, bytes := 0, zero := PV.any } := by kernel_rfl
@[go_sem] theorem Try.td125 : tdOf Try.prog 125 = some { k := TK.func, size := 1, agg := false, bytes := 8, zero := PV.nilf } := by kernel_rfl
@[go_sem] theorem Try.td126 : tdOf Try.prog 126 = some { k := TK.func, size := 1, agg := false, bytes := 8, zero := PV.nilf } := by kernel_rfl
@[go_sem] theorem Try.td127 : tdOf Try.prog 127 = some { k := TK.func, size := 1, agg := false, bytes := 8, zero := PV.nilf } := by kernel_rfl
@[go_sem] theorem Try.td128 : tdOf Try.prog 128 = some { k := TK.func, size := 1, agg := false, bytes := 8, zero := PV.nilf } := by kernel_rfl
@[go_sem] theorem Try.td129 : tdOf Try.prog 129 = some { k := TK.func, size := 1, agg := false, bytes := 8, zero := PV.nilf } := by kernel_rfl
@[go_sem] theorem Try.td130 : tdOf Try.prog 130 = some { k := TK.int IntKind.u16, size := 1, agg := false, bytes := 2, zero := PV.int IntKind.u16 0, tags := some [Tag.i IntKind.u16] } := by kernel_rfl
@[go_sem] theorem Try.td131 : tdOf Try.prog 131 = some { k := TK.arr 8 130, size := 8, agg := true, bytes := 16, zero := PV.agg [PV.int IntKind.u16 0, PV.int IntKind.u16 0, PV.int IntKind.u16 0, PV.int IntKind.u16 0, PV.int IntKind.u16 0, PV.int IntKind.u16 0, PV.int IntKind.u16 0, PV.int IntKind.u16 0], tags := some [Tag.i IntKind.u16, Tag.i IntKind.u16, Tag.i IntKind.u16, Tag.i IntKind.u16, Tag.i IntKind.u16, Tag.i IntKind.u16, Tag.i IntKind.u16, Tag.i IntKind.u16] } := by kernel_rfl
@[go_sem] theorem Try.td132 : tdOf Try.prog 132 = some { k := TK.arr 4 5, size := 4, agg := true, bytes := 4, zero := PV.agg [PV.int IntKind.u8 0, PV.int IntKind.u8 0, PV.int IntKind.u8 0, PV.int IntKind.u8 0], tags := some [Tag.i IntKind.u8, Tag.i IntKind.u8, Tag.i IntKind.u8, Tag.i IntKind.u8] } := by kernel_rfl
@[go_sem] theorem Try.td133 : tdOf Try.prog 133 = some { k := TK.func, size := 1, agg := false, bytes := 8, zero := PV.nilf } := by kernel_rfl
@[go_sem] theorem Try.td134 : tdOf Try.prog 134 = some { k := TK.func, size := 1, agg := false, bytes := 8, zero := PV.nilf } := by kernel_rfl
@[go_sem] theorem Try.td135 : tdOf Try.prog 135 = some { k := TK.func, size := 1, agg := false, bytes := 8, zero := PV.nilf } := by kernel_rfl
@[go_sem] theorem Try.td136 : tdOf Try.prog 136 = some { k := TK.ptr 138, size := 1, agg := false, bytes := 8, zero := PV.nilp } := by kernel_rfl
@[go_sem] theorem Try.td137 : tdOf Try.prog 137 = some { k := TK.struct [(0, 136), (1, 35)], size := 2, agg := true, bytes := 32, zero := PV.agg [PV.nilp, PV.nils] } := by kernel_rfl
@[go_sem] theorem Try.td138 : tdOf Try.prog 138 = some { k := TK.struct [(0, 136), (1, 35)], size := 2, agg := true, bytes := 32, zero := PV.agg [PV.nilp, PV.nils] } := by kernel_rfl
@[go_sem] theorem Try.td139 : tdOf Try.prog 139 = some { k := TK.func, size := 1, agg := false, bytes := 8, zero := PV.nilf } := by kernel_rfl
@[go_sem] theorem Try.td140 : tdOf Try.prog 140 = some { k := TK.iface, size := 1, agg := false, bytes := 16, zero := PV.nili } := by kernel_rfl
@[go_sem] theorem Try.td141 : tdOf Try.prog 141 = some { k := TK.iface, size := 1, agg := false, bytes := 16, zero := PV.nili } := by kernel_rfl
@[go_sem] theorem Try.td142 : tdOf Try.prog 142 = some { k := TK.other, size := 1, agg := false, bytes := 0, zero := PV.any } := by kernel_rfl
@[go_sem] theorem Try.td143 : tdOf Try.prog 143 = some { k := TK.func, size := 1, agg := false, bytes := 8, zero := PV.nilf } := by kernel_rfl
@[go_sem] theorem Try.td144 : tdOf Try.prog 144 = some { k := TK.ptr 5, size := 1, agg := false, bytes := 8, zero := PV.nilp } := by kernel_rfl
@[go_sem] theorem Try.td145 : tdOf Try.prog 145 = some { k := TK.func, size := 1, agg := false, bytes := 8, zero := PV.nilf } := by kernel_rfl
@[go_sem] theorem Try.td146 : tdOf Try.prog 146 = some { k := TK.other, size := 1, agg := false, bytes := 8, zero := PV.nilp } := by kernel_rfl
@[go_sem] theorem Try.td147 : tdOf Try.prog 147 = some { k := TK.func, size := 1, agg := false, bytes := 8, zero := PV.nilf } := by kernel_rfl
@[go_sem] theorem Try.td148 : tdOf Try.prog 148 = some { k := TK.other, size := 1, agg := false, bytes := 0, zero := PV.any } := by kernel_rfl
@[go_sem] theorem Try.td149 : tdOf Try.prog 149 = some { k := TK.func, size := 1, agg := false, bytes := 8, zero := PV.nilf } := by kernel_rfl
@[go_sem] theorem Try.td150 : tdOf Try.prog 150 = some { k := TK.struct [(0, 17), (1, 17), (2, 17), (3, 9)], size := 4, agg := true, bytes := 40, zero := PV.agg [PV.nilp, PV.nilp, PV.nilp, PV.str (ByteArray.mk #[])] } := by kernel_rfl
@[go_sem] theorem Try.td151 : tdOf Try.prog 151 = some { k := TK.struct [(0, 17), (1, 17), (2, 17), (3, 9)], size := 4, agg := true, bytes := 40, zero := PV.agg [PV.nilp, PV.nilp, PV.nilp, PV.str (ByteArray.mk #[])] } := by kernel_rfl
@[go_sem] theorem Try.td152 : tdOf Try.prog 152 = some { k := TK.arr 0 16, size := 0, agg := true, bytes := 0, zero := PV.agg [] } := by kernel_rfl
@[go_sem] theorem Try.td153 : tdOf Try.prog 153 = some { k := TK.struct [(0, 152)], size := 0, agg := true, bytes := 0, zero := PV.agg [] } := by kernel_rfl
@[go_sem] theorem Try.td154 : tdOf Try.prog 154 = some { k := TK.struct [(0, 152)], size := 0, agg := true, bytes := 0, zero := PV.agg [] } := by kernel_rfl
@[go_sem] theorem Try.td155 : tdOf Try.prog 155 = some { k := TK.int IntKind.u8, size := 1, agg := false, bytes := 1, zero := PV.int IntKind.u8 0, tags := some [Tag.i IntKind.u8] } := by kernel_rfl
@[go_sem] theorem Try.td156 : tdOf Try.prog 156 = some { k := TK.int IntKind.u8, size := 1, agg := false, bytes := 1, zero := PV.int IntKind.u8 0, tags := some [Tag.i IntKind.u8] } := by kernel_rfl
@[go_sem] theorem Try.td157 : tdOf Try.prog 157 = some { k := TK.func, size := 1, agg := false, bytes := 8, zero := PV.nilf } := by kernel_rfl
@[go_sem] theorem Try.td158 : tdOf Try.prog 158 = some { k := TK.int IntKind.i32, size := 1, agg := false, bytes := 4, zero := PV.int IntKind.i32 0, tags := some [Tag.i IntKind.i32] } := by kernel_rfl
@[go_sem] theorem Try.td159 : tdOf Try.prog 159 = some { k := TK.int IntKind.i32, size := 1, agg := false, bytes := 4, zero := PV.int IntKind.i32 0, tags := some [Tag.i IntKind.i32] } := by kernel_rfl
@[go_sem] theorem Try.td160 : tdOf Try.prog 160 = some { k := TK.struct [(0, 12), (1, 12), (2, 122), (3, 155), (4, 5), (5, 5), (6, 156), (7, 157), (8, 144), (9, 158), (10, 159)], size := 11, agg := true, bytes := 48, zero := PV.agg [PV.int IntKind.u64 0, PV.int IntKind.u64 0, PV.int IntKind.u32 0, PV.int IntKind.u8 0, PV.int IntKind.u8 0, PV.int IntKind.u8 0, PV.int IntKind.u8 0, PV.nilf, PV.nilp, PV.int IntKind.i32 0, PV.int IntKind.i32 0] } := by kernel_rfl
@[go_sem] theorem Try.td161 : tdOf Try.prog 161 = some { k := TK.struct [(0, 12), (1, 12), (2, 122), (3, 155), (4, 5), (5, 5), (6, 156), (7, 157), (8, 144), (9, 158), (10, 159)], size := 11, agg := true, bytes := 48, zero := PV.agg [PV.int IntKind.u64 0, PV.int IntKind.u64 0, PV.int IntKind.u32 0, PV.int IntKind.u8 0, PV.int IntKind.u8 0, PV.int IntKind.u8 0, PV.int IntKind.u8 0, PV.nilf, PV.nilp, PV.int IntKind.i32 0, PV.int IntKind.i32 0] } := by kernel_rfl
end Go.Proofs
