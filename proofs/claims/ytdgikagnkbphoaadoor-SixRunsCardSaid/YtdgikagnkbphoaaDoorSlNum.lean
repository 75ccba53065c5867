/-
  SL: rules on numbers for the evaluator, of which some ask for a bound: for 'simp only (disch := omega)'. No claim by itself.
-/
import Derived.Test.YtdgikagnkbphoaaDoorSlStr
namespace Go.Proofs.SL
open Go
set_option linter.unusedSimpArgs false
set_option linter.unusedVariables false

section
variable {a b n : Nat} {x y : Int}
/-! A number that its kind holds. -/
@[go_sem] theorem nw_i64 (h1 : -9223372036854775808 ≤ x) (h2 : x ≤ 9223372036854775807) : IntKind.i64.wrap x = x := IntWalk.i64_in x ⟨h1, h2⟩
@[go_sem] theorem nw_i32 (h1 : -2147483648 ≤ x) (h2 : x ≤ 2147483647) : IntKind.i32.wrap x = x := IntWalk.i32_in x ⟨h1, h2⟩
@[go_sem] theorem nw_u8 (h1 : 0 ≤ x) (h2 : x ≤ 255) : IntKind.u8.wrap x = x := IntWalk.u8_in x ⟨h1, h2⟩
@[go_sem] theorem nw_u16 (h1 : 0 ≤ x) (h2 : x ≤ 65535) : IntKind.u16.wrap x = x := IntWalk.u16_in x ⟨h1, h2⟩
@[go_sem] theorem nw_u32 (h1 : 0 ≤ x) (h2 : x ≤ 4294967295) : IntKind.u32.wrap x = x := IntWalk.u32_in x ⟨h1, h2⟩
@[go_sem] theorem nw_u64 (h1 : 0 ≤ x) (h2 : x ≤ 18446744073709551615) : IntKind.u64.wrap x = x := IntWalk.u64_in x ⟨h1, h2⟩
theorem mw_u8 : IntKind.u8.wrap (a : Int) = ((a % 256 : Nat) : Int) := by rw [IntKind.wrap_u8]; omega
theorem mw_u16 : IntKind.u16.wrap (a : Int) = ((a % 65536 : Nat) : Int) := by simp [IntKind.wrap, IntKind.bits, IntKind.signed]
theorem mw_u32 : IntKind.u32.wrap (a : Int) = ((a % 4294967296 : Nat) : Int) := by rw [IntKind.wrap_u32]; omega

/-! Casts go outwards. -/
@[go_sem] theorem up_add : (a : Int) + (b : Int) = ((a + b : Nat) : Int) := rfl
@[go_sem] theorem up_add1 : (a : Int) + no_index (OfNat.ofNat n) = ((a + OfNat.ofNat n : Nat) : Int) := rfl
@[go_sem] theorem up_add2 : no_index (OfNat.ofNat n) + (a : Int) = ((OfNat.ofNat n + a : Nat) : Int) := rfl
@[go_sem] theorem up_mul : (a : Int) * (b : Int) = ((a * b : Nat) : Int) := rfl
@[go_sem] theorem up_mul1 : (a : Int) * no_index (OfNat.ofNat n) = ((a * OfNat.ofNat n : Nat) : Int) := rfl
@[go_sem] theorem up_mul2 : no_index (OfNat.ofNat n) * (a : Int) = ((OfNat.ofNat n * a : Nat) : Int) := rfl
@[go_sem] theorem up_sub (h : b ≤ a) : (a : Int) - (b : Int) = ((a - b : Nat) : Int) := by omega
@[go_sem] theorem up_sub1 (h : OfNat.ofNat n ≤ a) : (a : Int) - no_index (OfNat.ofNat n) = ((a - OfNat.ofNat n : Nat) : Int) := by
  have : (no_index (OfNat.ofNat n) : Int) = ((OfNat.ofNat n : Nat) : Int) := rfl
  rw [this]; exact up_sub h
@[go_sem] theorem up_sub2 (h : a ≤ OfNat.ofNat n) : no_index (OfNat.ofNat n) - (a : Int) = ((OfNat.ofNat n - a : Nat) : Int) := by
  have : (no_index (OfNat.ofNat n) : Int) = ((OfNat.ofNat n : Nat) : Int) := rfl
  rw [this]; exact up_sub h
@[go_sem] theorem up_tmod : (a : Int).tmod (b : Int) = ((a % b : Nat) : Int) := rfl
@[go_sem] theorem up_tmod1 : (a : Int).tmod (no_index (OfNat.ofNat n)) = ((a % OfNat.ofNat n : Nat) : Int) := rfl
@[go_sem] theorem up_tdiv : (a : Int).tdiv (b : Int) = ((a / b : Nat) : Int) := rfl
@[go_sem] theorem up_tdiv1 : (a : Int).tdiv (no_index (OfNat.ofNat n)) = ((a / OfNat.ofNat n : Nat) : Int) := rfl
@[go_sem] theorem up_fdiv1 : (a : Int).fdiv (no_index (OfNat.ofNat n)) = ((a / OfNat.ofNat n : Nat) : Int) := by
  have : (no_index (OfNat.ofNat n) : Int) = ((OfNat.ofNat n : Nat) : Int) := rfl
  rw [this, Int.fdiv_eq_ediv_of_nonneg _ (Int.natCast_nonneg _)]; rfl

/-! Comparisons of casts. -/
@[go_sem] theorem up_lt1 : ((a : Int) < no_index (OfNat.ofNat n)) ↔ a < OfNat.ofNat n := Int.ofNat_lt
@[go_sem] theorem up_lt2 : (no_index (OfNat.ofNat n) < (a : Int)) ↔ OfNat.ofNat n < a := Int.ofNat_lt
@[go_sem] theorem up_le1 : ((a : Int) ≤ no_index (OfNat.ofNat n)) ↔ a ≤ OfNat.ofNat n := Int.ofNat_le
@[go_sem] theorem up_le2 : (no_index (OfNat.ofNat n) ≤ (a : Int)) ↔ OfNat.ofNat n ≤ a := Int.ofNat_le
@[go_sem] theorem up_eq : ((a : Int) = (b : Int)) ↔ a = b := Int.ofNat_inj
@[go_sem] theorem up_eq1 : ((a : Int) = no_index (OfNat.ofNat n)) ↔ a = OfNat.ofNat n := Int.ofNat_inj
@[go_sem] theorem up_eq2 : (no_index (OfNat.ofNat n) = (a : Int)) ↔ OfNat.ofNat n = a := Int.ofNat_inj
@[go_sem] theorem up_neg : ((a : Int) < 0) ↔ False := ⟨fun h => by omega, False.elim⟩
@[go_sem] theorem up_neg1 : ((a : Int) = -1) ↔ False := ⟨fun h => by omega, False.elim⟩
@[go_sem] theorem min_64 (h : a ≤ 64) : min a 64 = a := Nat.min_eq_left h
@[go_sem] theorem min_32 (h : a ≤ 32) : min a 32 = a := Nat.min_eq_left h
@[go_sem] theorem min_16 (h : a ≤ 16) : min a 16 = a := Nat.min_eq_left h
@[go_sem] theorem min_8 (h : a ≤ 8) : min a 8 = a := Nat.min_eq_left h
@[go_sem] theorem cast_lit : ((no_index (OfNat.ofNat n) : Nat) : Int) = no_index (OfNat.ofNat n) := rfl
theorem sub_lit (h : OfNat.ofNat n ≤ a) : a - OfNat.ofNat n + OfNat.ofNat n = a := Nat.sub_add_cancel h
attribute [go_sem] Nat.add_sub_cancel Nat.zero_le Nat.not_lt_zero Nat.zero_add Nat.add_zero Nat.mul_one Nat.one_mul
end

end Go.Proofs.SL
