/-
  What the functions compute: a group's digits, of the base 16. No claim by itself.
-/
import Derived.Test.YtdgikagnkbphoaaDoorGoBits
import Derived.Test.YtdgikagnkbphoaaDoorSlUnroll
namespace Go.Proofs.GoC
open Go Go.Proofs.SL
set_option linter.unusedSimpArgs false
set_option linter.unusedVariables false
set_option maxRecDepth 10000
set_option maxHeartbeats 2000000

def z65 : List PV := List.replicate 65 (PV.int IntKind.u8 0)
@[go_sem] theorem z65_len : z65.length = 65 := by kernel_rfl

@[go_sem] theorem td65 : tdOf Tryd.prog 98 = some { k := TK.arr 65 5, size := 65, agg := true, bytes := 65, zero := PV.agg z65, tags := some (List.replicate 65 (Tag.i IntKind.u8)) } := by kernel_rfl

@[go_sem] theorem one65 : z65.all PV.one = true := by kernel_rfl

theorem c_internal_strconv_isPowerOfTwo : PCall Tryd.prog 76 [.int .i64 16] (.bool true) := by
  intro H
  refine scall_of (ord := fun _ => []) (rs := [2]) Tryd.func76 rfl (by kernel_rfl) (by kernel_rfl) (by kernel_rfl) Tryd.ntmps76 fun hb hargs => go 200 (fun _ => false) mixed ?_
  simp (disch := omega) only [↓reduceIte, go_sem] <;> repeat with_reducible refine And.intro (by first | omega | decide) ?_
  exact fin (by kernel_rfl) rfl

@[go_sem] theorem ctz16 : Lib.ctz 64 16 = 4 := by kernel_rfl
@[go_sem] theorem up_and15 {a : Nat} (h : a ≤ 18446744073709551615) : bitOp .and .u64 (a : Int) 15 = ((a % 16 : Nat) : Int) := by
  have := Go.bits_and_u64_nat a 15 (by omega) (by omega)
  rw [show ((15 : Nat) : Int) = 15 from rfl] at this
  rw [show bitOp .and .u64 (a : Int) 15 = bits .and .u64 (a : Int) 15 from rfl, this, show (15 : Nat) = 2 ^ 4 - 1 from rfl, Nat.and_two_pow_sub_one_eq_mod]

theorem z1 (a : PV) : List.take 1 (List.drop 64 (z65.set 64 a)) = [a] := by kernel_rfl
theorem z2 (a b : PV) : List.take 2 (List.drop 63 ((z65.set 64 a).set 63 b)) = [b, a] := by kernel_rfl
theorem z3 (a b c : PV) : List.take 3 (List.drop 62 (((z65.set 64 a).set 63 b).set 62 c)) = [c, b, a] := by kernel_rfl
theorem z4 (a b c d : PV) : List.take 4 (List.drop 61 ((((z65.set 64 a).set 63 b).set 62 c).set 61 d)) = [d, c, b, a] := by kernel_rfl

/-- A digit of the base 16. -/
def hexd (k : Nat) : UInt8 := [48, 49, 50, 51, 52, 53, 54, 55, 56, 57, 97, 98, 99, 100, 101, 102, 103, 104, 105, 106, 107, 108, 109, 110, 111, 112, 113, 114, 115, 116, 117, 118, 119, 120, 121, 122].getD k 0

theorem hexd_of (k : Nat) : ([48, 49, 50, 51, 52, 53, 54, 55, 56, 57, 97, 98, 99, 100, 101, 102, 103, 104, 105, 106, 107, 108, 109, 110, 111, 112, 113, 114, 115, 116, 117, 118, 119, 120, 121, 122] : List UInt8).getD k 0 = hexd k := rfl

/-- A group's digits. -/
def hexF (n : Nat) : List UInt8 := if n < 16 then [hexd n] else hexF (n / 16) ++ [hexd (n % 16)]
decreasing_by omega

theorem hexF1 (n : Nat) (h : n < 16) : hexF n = [hexd n] := by rw [hexF.eq_1, if_pos h]
theorem hexF2 (n : Nat) (h : 16 ≤ n) (h2 : n < 256) : hexF n = [hexd (n / 16), hexd (n % 16)] := by rw [hexF.eq_1, if_neg (by omega), hexF1 _ (by omega)]; rfl
theorem hexF3 (n : Nat) (h : 256 ≤ n) (h2 : n < 4096) : hexF n = [hexd (n / 256), hexd (n / 16 % 16), hexd (n % 16)] := by
  rw [hexF.eq_1, if_neg (by omega), hexF2 _ (by omega) (by omega), show n / 16 / 16 = n / 256 by omega]; rfl
theorem hexF4 (n : Nat) (h : 4096 ≤ n) (h2 : n < 65536) : hexF n = [hexd (n / 4096), hexd (n / 256 % 16), hexd (n / 16 % 16), hexd (n % 16)] := by
  rw [hexF.eq_1, if_neg (by omega), hexF3 _ (by omega) (by omega), show n / 16 / 256 = n / 4096 by omega, show n / 16 / 16 = n / 256 by omega]; rfl

theorem c_internal_strconv_formatBits (n : Nat) (h : n ≤ 65535) : GCall 67 [.nils, .int .u64 n, .int .i64 16, .bool false, .bool false] (.tup [.nils, .str (bs (hexF n))]) := by
  intro H hG
  refine scall_of (ord := fun _ => []) (rs := [10, 11]) Tryd.func67 rfl (by kernel_rfl) (by kernel_rfl) (by kernel_rfl) Tryd.ntmps67 fun hb hargs => go 200 (fun _ => false) mixed ?_
  simp (disch := omega) only [↓reduceIte, go_sem] <;> repeat with_reducible refine And.intro (by first | omega | decide) ?_
  refine c_internal_strconv_isPowerOfTwo.on (go 200 (fun _ => false) mixed ?_)
  simp (disch := omega) only [↓reduceIte, go_sem] <;> repeat with_reducible refine And.intro (by first | omega | decide) ?_
  refine (c_math_bits_TrailingZeros 16 (by omega)).on hG.app (go 200 (fun _ => false) mixed ?_)
  simp (disch := omega) only [↓reduceIte, go_sem] <;> repeat with_reducible refine And.intro (by first | omega | decide) ?_
  have hd1 : n / 16 / 16 = n / 256 := by omega
  have hd2 : n / 256 / 16 = n / 4096 := by omega
  have hd3 : n / 4096 / 16 = n / 65536 := by omega
  by_cases h1 : n < 16
  · have e1 : ¬ 16 ≤ n := by omega
    refine runs_rounds 1 (by rfl) (ru_go [true, true, true, true, true, false, false, false, false, false, true, true, true, true, true, true, true] (go 200 (fun _ => false) mixed ?_))
    simp (disch := omega) only [↓reduceIte, go_sem, e1, List.length_set, hexd_of] <;> repeat with_reducible refine And.intro (by first | omega | decide) ?_
    refine go 200 (fun _ => false) mixed ?_
    simp (disch := omega) only [↓reduceIte, go_sem, List.length_set, hexd_of, z1] <;> repeat with_reducible refine And.intro (by first | omega | decide) ?_
    refine ⟨by simp [isU8, byte_lt], ?_⟩
    refine fin_drop (.inr rfl) hb ?_ (by simp)
    simp [retV, hexF1 n (by omega)]
  have e1 : 16 ≤ n := by omega
  by_cases h2 : n < 256
  · have e2 : ¬ 16 ≤ n / 16 := by omega
    refine runs_rounds 2 (by rfl) (ru_go [true, true, true, true, true, false, false, false, false, false, true, true, true, true, true, true, true] (go 200 (fun _ => false) mixed ?_))
    simp (disch := omega) only [↓reduceIte, go_sem, e1, e2, List.length_set, hexd_of] <;> repeat with_reducible refine And.intro (by first | omega | decide) ?_
    refine ru_go [true, true, true, true, true, false, false, false, false, false, true, true, true, true, true, true, true] (go 200 (fun _ => false) mixed ?_)
    simp (disch := omega) only [↓reduceIte, go_sem, e1, e2, List.length_set, hexd_of, hd1] <;> repeat with_reducible refine And.intro (by first | omega | decide) ?_
    refine go 200 (fun _ => false) mixed ?_
    simp (disch := omega) only [↓reduceIte, go_sem, List.length_set, hexd_of, z2] <;> repeat with_reducible refine And.intro (by first | omega | decide) ?_
    refine ⟨by simp [isU8, byte_lt], ?_⟩
    refine fin_drop (.inr rfl) hb ?_ (by simp)
    simp [retV, hexF2 n (by omega) (by omega)]
  have e2 : 16 ≤ n / 16 := by omega
  by_cases h3 : n < 4096
  · have e3 : ¬ 16 ≤ n / 256 := by omega
    refine runs_rounds 3 (by rfl) (ru_go [true, true, true, true, true, false, false, false, false, false, true, true, true, true, true, true, true] (go 200 (fun _ => false) mixed ?_))
    simp (disch := omega) only [↓reduceIte, go_sem, e1, e2, e3, List.length_set, hexd_of] <;> repeat with_reducible refine And.intro (by first | omega | decide) ?_
    refine ru_go [true, true, true, true, true, false, false, false, false, false, true, true, true, true, true, true, true] (go 200 (fun _ => false) mixed ?_)
    simp (disch := omega) only [↓reduceIte, go_sem, e1, e2, e3, List.length_set, hexd_of, hd1] <;> repeat with_reducible refine And.intro (by first | omega | decide) ?_
    refine ru_go [true, true, true, true, true, false, false, false, false, false, true, true, true, true, true, true, true] (go 200 (fun _ => false) mixed ?_)
    simp (disch := omega) only [↓reduceIte, go_sem, e1, e2, e3, List.length_set, hexd_of, hd2] <;> repeat with_reducible refine And.intro (by first | omega | decide) ?_
    refine go 200 (fun _ => false) mixed ?_
    simp (disch := omega) only [↓reduceIte, go_sem, List.length_set, hexd_of, z3] <;> repeat with_reducible refine And.intro (by first | omega | decide) ?_
    refine ⟨by simp [isU8, byte_lt], ?_⟩
    refine fin_drop (.inr rfl) hb ?_ (by simp)
    simp [retV, hexF3 n (by omega) (by omega)]
  · have e3 : 16 ≤ n / 256 := by omega
    have e4 : ¬ 16 ≤ n / 4096 := by omega
    refine runs_rounds 4 (by rfl) (ru_go [true, true, true, true, true, false, false, false, false, false, true, true, true, true, true, true, true] (go 200 (fun _ => false) mixed ?_))
    simp (disch := omega) only [↓reduceIte, go_sem, e1, e2, e3, e4, List.length_set, hexd_of] <;> repeat with_reducible refine And.intro (by first | omega | decide) ?_
    refine ru_go [true, true, true, true, true, false, false, false, false, false, true, true, true, true, true, true, true] (go 200 (fun _ => false) mixed ?_)
    simp (disch := omega) only [↓reduceIte, go_sem, e1, e2, e3, e4, List.length_set, hexd_of, hd1] <;> repeat with_reducible refine And.intro (by first | omega | decide) ?_
    refine ru_go [true, true, true, true, true, false, false, false, false, false, true, true, true, true, true, true, true] (go 200 (fun _ => false) mixed ?_)
    simp (disch := omega) only [↓reduceIte, go_sem, e1, e2, e3, e4, List.length_set, hexd_of, hd2] <;> repeat with_reducible refine And.intro (by first | omega | decide) ?_
    refine ru_go [true, true, true, true, true, false, false, false, false, false, true, true, true, true, true, true, true] (go 200 (fun _ => false) mixed ?_)
    simp (disch := omega) only [↓reduceIte, go_sem, e1, e2, e3, e4, List.length_set, hexd_of, hd3] <;> repeat with_reducible refine And.intro (by first | omega | decide) ?_
    refine go 200 (fun _ => false) mixed ?_
    simp (disch := omega) only [↓reduceIte, go_sem, List.length_set, hexd_of, z4] <;> repeat with_reducible refine And.intro (by first | omega | decide) ?_
    refine ⟨by simp [isU8, byte_lt], ?_⟩
    refine fin_drop (.inr rfl) hb ?_ (by simp)
    simp [retV, hexF4 n (by omega) (by omega)]

theorem c_internal_strconv_FormatInt (n : Nat) (h : n ≤ 65535) : GCall 52 [.int .i64 n, .int .i64 16] (.str (bs (hexF n))) := by
  intro H hG
  refine scall_of (ord := fun _ => []) (rs := [4]) Tryd.func52 rfl (by kernel_rfl) (by kernel_rfl) (by kernel_rfl) Tryd.ntmps52 fun hb hargs => go 200 (fun _ => false) mixed ?_
  simp (disch := omega) only [↓reduceIte, go_sem] <;> repeat with_reducible refine And.intro (by first | omega | decide) ?_
  refine (c_internal_strconv_formatBits n h).on hG (go 200 (fun _ => false) mixed ?_)
  simp (disch := omega) only [↓reduceIte, go_sem] <;> repeat with_reducible refine And.intro (by first | omega | decide) ?_
  exact fin rfl rfl

theorem c_strconv_FormatInt (n : Nat) (h : n ≤ 65535) : GCall 41 [.int .i64 n, .int .i64 16] (.str (bs (hexF n))) := by
  intro H hG
  refine scall_of (ord := fun _ => []) (rs := [4]) Tryd.func41 rfl (by kernel_rfl) (by kernel_rfl) (by kernel_rfl) Tryd.ntmps41 fun hb hargs => go 200 (fun _ => false) mixed ?_
  simp (disch := omega) only [↓reduceIte, go_sem] <;> repeat with_reducible refine And.intro (by first | omega | decide) ?_
  refine (c_internal_strconv_FormatInt n h).on hG (go 200 (fun _ => false) mixed ?_)
  simp (disch := omega) only [↓reduceIte, go_sem] <;> repeat with_reducible refine And.intro (by first | omega | decide) ?_
  exact fin rfl rfl
end Go.Proofs.GoC
