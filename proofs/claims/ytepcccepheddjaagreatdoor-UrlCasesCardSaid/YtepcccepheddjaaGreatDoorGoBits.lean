/-
  The number of noughts behind a number's last one bit: the library's table, at this program. No claim by itself.
-/
import Derived.Test.YtepcccepheddjaaGreatDoorGoStd
import Derived.Shelf.Spec.TrailingZeros
namespace Go.Proofs.GoC
open Go Go.Proofs.SL Go.RowKit Go.Shelf
set_option linter.unusedSimpArgs false
set_option linter.unusedVariables false
set_option maxRecDepth 100000

noncomputable def bitsRen : Ren := ⟨fun | 27 => 135 | 28 => 136 | 29 => 137 | n => n,
  fun | 0 => 0 | 3 => 3 | 4 => 4 | 5 => 5 | 22 => 123 | 25 => 84 | 27 => 65 | 53 => 137 | 54 => 138 | n => n,
  fun | 0 => 2 | 1 => 3 | n => n⟩
theorem bitsLays : Lays7.n27 Tryz.prog bitsRen := {
  mixed := by kernel_rfl
  f27 := by kernel_rfl
  f28 := by kernel_rfl
  f29 := by kernel_rfl
  t0 := by kernel_rfl
  a0 := fun w => by kernel_rfl
  z0 := fun w => by kernel_rfl
  v0 := fun w => by kernel_rfl
  i0 := by kernel_rfl
  t3 := by kernel_rfl
  a3 := fun w => by kernel_rfl
  z3 := fun w => by kernel_rfl
  v3 := fun w => by kernel_rfl
  i3 := by kernel_rfl
  t4 := by kernel_rfl
  a4 := fun w => by kernel_rfl
  z4 := fun w => by kernel_rfl
  v4 := fun w => by kernel_rfl
  i4 := by kernel_rfl
  t5 := by kernel_rfl
  a5 := fun w => by kernel_rfl
  z5 := fun w => by kernel_rfl
  v5 := fun w => by kernel_rfl
  i5 := by kernel_rfl
  t22 := by kernel_rfl
  a22 := fun w => by kernel_rfl
  z22 := fun w => by kernel_rfl
  v22 := fun w => by kernel_rfl
  i22 := by kernel_rfl
  t25 := by kernel_rfl
  a25 := fun w => by kernel_rfl
  z25 := fun w => by kernel_rfl
  v25 := fun w => by kernel_rfl
  i25 := by kernel_rfl
  t27 := by kernel_rfl
  a27 := fun w => by kernel_rfl
  z27 := fun w => by kernel_rfl
  v27 := fun w => by kernel_rfl
  i27 := by kernel_rfl
  t53 := by kernel_rfl
  a53 := fun w => by kernel_rfl
  z53 := fun w => by kernel_rfl
  v53 := fun w => by kernel_rfl
  i53 := by kernel_rfl
  t54 := by kernel_rfl
  a54 := fun w => by kernel_rfl
  z54 := fun w => by kernel_rfl
  g0 := by kernel_rfl
  g1 := by kernel_rfl }

theorem deb_named : Tryz.prog.globalNamed "math/bits.deBruijn64tab" = some (bitsRen.g 1) := by kernel_rfl

theorem GTab.debAt {H : Heap} (h : GTab H) {β : Nat → Option Nat} {w : World} (hI : SL.Inv β H w) : TabAt (bitsRen.g 1) Lib.deBruijn64tab w := by
  obtain ⟨cs, t, fz, rfl, h2⟩ := h.deb _ deb_named
  intro j hj
  have e : debCells[j]? = some (.int .u8 (Lib.deBruijn64tab.getD j 0)) := by
    simp only [debCells, debTab, List.getElem?_toArray, List.getElem?_map]
    rw [List.getElem?_eq_getElem hj]
    simp [List.getD_eq_getElem?_getD, hj]
  simp [World.cell?, h2.block hI, e]

theorem c_math_bits_TrailingZeros (x : Nat) (hx : x < 18446744073709551616) : GCall 135 [.int .u64 x] (.int .i64 (Lib.ctz 64 x : Nat)) := by
  intro H hG
  refine scall_lift Tryz.func135 rfl (by kernel_rfl) fun β w vs hI hs hv => ?_
  obtain ⟨v, rfl, hx'⟩ := vals1 hs hv
  rw [hx'.int_inv]
  refine (Any7.bits_TrailingZeros bitsLays x hx w (fun _ => hG.debAt hI)).mono fun e w' ⟨he, hw⟩ => ⟨_, he, hw ▸ Below.same, fun β' w2 => .int _ _⟩
end Go.Proofs.GoC
