/-
  What the functions compute: a group's digits, of the base 16. No claim by itself.
-/
import Derived.Test.YtepcccepheddjaaGreatDoorGoBits
import Derived.Test.YtepcccepheddjaaGreatDoorSlM5
import Derived.Test.YtepcccepheddjaaGreatDoorGoStd
namespace Go.Proofs.GoC
open Go Go.Proofs.SL
set_option linter.unusedSimpArgs false
set_option linter.unusedVariables false
set_option maxRecDepth 10000
set_option maxHeartbeats 2000000

def z65 : List PV := List.replicate 65 (PV.int IntKind.u8 0)
@[go_sem] theorem z65_len : z65.length = 65 := by kernel_rfl

@[go_sem] theorem td65 : tdOf Tryz.prog 134 = some { k := TK.arr 65 5, size := 65, agg := true, bytes := 65, zero := PV.agg z65, tags := some (List.replicate 65 (Tag.i IntKind.u8)) } := by kernel_rfl

@[go_sem] theorem one65 : z65.all PV.one = true := by kernel_rfl

theorem c_internal_strconv_isPowerOfTwo : PCall Tryz.prog 134 [.int .i64 16] (.bool true) := by
  intro H
  refine scall_of (ord := fun _ => []) (rs := [2]) Tryz.func134 rfl (by kernel_rfl) (by kernel_rfl) (by kernel_rfl) Tryz.ntmps134 fun hb hargs => go 200 (fun _ => false) mixed ?_
  simp (disch := omega) only [↓reduceIte, go_sem] <;> repeat with_reducible refine And.intro (by first | omega | decide) ?_
  exact fin (by kernel_rfl) rfl

@[go_sem] theorem ctz16 : Lib.ctz 64 16 = 4 := by kernel_rfl
@[go_sem] theorem up_and15 {a : Nat} (h : a ≤ 18446744073709551615) : bitOp .and .u64 (a : Int) 15 = ((a % 16 : Nat) : Int) := by
  have := Go.bits_and_u64_nat a 15 (by omega) (by omega)
  rw [show ((15 : Nat) : Int) = 15 from rfl] at this
  rw [show bitOp .and .u64 (a : Int) 15 = bits .and .u64 (a : Int) 15 from rfl, this, show (15 : Nat) = 2 ^ 4 - 1 from rfl, Nat.and_two_pow_sub_one_eq_mod]

theorem z1 (a : PV) : List.take 1 (List.drop 64 (z65.set 64 a)) = [a] := by kernel_rfl
theorem z2 (a b : PV) : List.take 2 (List.drop 63 ((z65.set 64 a).set 63 b)) = [b, a] := by kernel_rfl
theorem z3 (a b c : PV) : List.take 3 (List.drop 62 (((z65.set 64 a).set 63 b).set 62 c)) = [c, b, a] := by kernel_rfl
theorem z4 (a b c d : PV) : List.take 4 (List.drop 61 ((((z65.set 64 a).set 63 b).set 62 c).set 61 d)) = [d, c, b, a] := by kernel_rfl

/-- A digit of the base 16. -/
def hexd (k : Nat) : UInt8 := [48, 49, 50, 51, 52, 53, 54, 55, 56, 57, 97, 98, 99, 100, 101, 102, 103, 104, 105, 106, 107, 108, 109, 110, 111, 112, 113, 114, 115, 116, 117, 118, 119, 120, 121, 122].getD k 0

theorem hexd_of (k : Nat) : ([48, 49, 50, 51, 52, 53, 54, 55, 56, 57, 97, 98, 99, 100, 101, 102, 103, 104, 105, 106, 107, 108, 109, 110, 111, 112, 113, 114, 115, 116, 117, 118, 119, 120, 121, 122] : List UInt8).getD k 0 = hexd k := rfl

/-- A group's digits. -/
def hexF (n : Nat) : List UInt8 := if n < 16 then [hexd n] else hexF (n / 16) ++ [hexd (n % 16)]
decreasing_by omega

theorem hexF1 (n : Nat) (h : n < 16) : hexF n = [hexd n] := by rw [hexF.eq_1, if_pos h]
theorem hexF2 (n : Nat) (h : 16 ≤ n) (h2 : n < 256) : hexF n = [hexd (n / 16), hexd (n % 16)] := by rw [hexF.eq_1, if_neg (by omega), hexF1 _ (by omega)]; rfl
theorem hexF3 (n : Nat) (h : 256 ≤ n) (h2 : n < 4096) : hexF n = [hexd (n / 256), hexd (n / 16 % 16), hexd (n % 16)] := by
  rw [hexF.eq_1, if_neg (by omega), hexF2 _ (by omega) (by omega), show n / 16 / 16 = n / 256 by omega]; rfl
theorem hexF4 (n : Nat) (h : 4096 ≤ n) (h2 : n < 65536) : hexF n = [hexd (n / 4096), hexd (n / 256 % 16), hexd (n / 16 % 16), hexd (n % 16)] := by
  rw [hexF.eq_1, if_neg (by omega), hexF3 _ (by omega) (by omega), show n / 16 / 256 = n / 4096 by omega, show n / 16 / 16 = n / 256 by omega]; rfl

theorem c_internal_strconv_formatBits (n : Nat) (h : n ≤ 65535) : GCall 126 [.nils, .int .u64 n, .int .i64 16, .bool false, .bool false] (.tup [.nils, .str (bs (hexF n))]) := by
  intro H hG
  refine scall_of (ord := fun _ => []) (rs := [10, 11]) Tryz.func126 rfl (by kernel_rfl) (by kernel_rfl) (by kernel_rfl) Tryz.ntmps126 fun hb hargs => go 200 (fun _ => false) mixed ?_
  simp (disch := omega) only [↓reduceIte, go_sem] <;> repeat with_reducible refine And.intro (by first | omega | decide) ?_
  refine c_internal_strconv_isPowerOfTwo.on (go 200 (fun _ => false) mixed ?_)
  simp (disch := omega) only [↓reduceIte, go_sem] <;> repeat with_reducible refine And.intro (by first | omega | decide) ?_
  refine (c_math_bits_TrailingZeros 16 (by omega)).on hG.app (go 200 (fun _ => false) mixed ?_)
  simp (disch := omega) only [↓reduceIte, go_sem] <;> repeat with_reducible refine And.intro (by first | omega | decide) ?_
  have hd1 : n / 16 / 16 = n / 256 := by omega
  have hd2 : n / 256 / 16 = n / 4096 := by omega
  have hd3 : n / 4096 / 16 = n / 65536 := by omega
  by_cases h1 : n < 16
  · have e1 : ¬ 16 ≤ n := by omega
    refine runs_rounds 1 (by rfl) (ru_go [true, true, true, true, true, false, false, false, false, false, true, true, true, true, true, true, true] (go 200 (fun _ => false) mixed ?_))
    simp (disch := omega) only [↓reduceIte, go_sem, e1, List.length_set, hexd_of] <;> repeat with_reducible refine And.intro (by first | omega | decide) ?_
    refine go 200 (fun _ => false) mixed ?_
    simp (disch := omega) only [↓reduceIte, go_sem, List.length_set, hexd_of, z1] <;> repeat with_reducible refine And.intro (by first | omega | decide) ?_
    refine ⟨by simp [isU8, byte_lt], ?_⟩
    refine fin_drop (.inr rfl) hb ?_ (by simp)
    simp [retV, hexF1 n (by omega)]
  have e1 : 16 ≤ n := by omega
  by_cases h2 : n < 256
  · have e2 : ¬ 16 ≤ n / 16 := by omega
    refine runs_rounds 2 (by rfl) (ru_go [true, true, true, true, true, false, false, false, false, false, true, true, true, true, true, true, true] (go 200 (fun _ => false) mixed ?_))
    simp (disch := omega) only [↓reduceIte, go_sem, e1, e2, List.length_set, hexd_of] <;> repeat with_reducible refine And.intro (by first | omega | decide) ?_
    refine ru_go [true, true, true, true, true, false, false, false, false, false, true, true, true, true, true, true, true] (go 200 (fun _ => false) mixed ?_)
    simp (disch := omega) only [↓reduceIte, go_sem, e1, e2, List.length_set, hexd_of, hd1] <;> repeat with_reducible refine And.intro (by first | omega | decide) ?_
    refine go 200 (fun _ => false) mixed ?_
    simp (disch := omega) only [↓reduceIte, go_sem, List.length_set, hexd_of, z2] <;> repeat with_reducible refine And.intro (by first | omega | decide) ?_
    refine ⟨by simp [isU8, byte_lt], ?_⟩
    refine fin_drop (.inr rfl) hb ?_ (by simp)
    simp [retV, hexF2 n (by omega) (by omega)]
  have e2 : 16 ≤ n / 16 := by omega
  by_cases h3 : n < 4096
  · have e3 : ¬ 16 ≤ n / 256 := by omega
    refine runs_rounds 3 (by rfl) (ru_go [true, true, true, true, true, false, false, false, false, false, true, true, true, true, true, true, true] (go 200 (fun _ => false) mixed ?_))
    simp (disch := omega) only [↓reduceIte, go_sem, e1, e2, e3, List.length_set, hexd_of] <;> repeat with_reducible refine And.intro (by first | omega | decide) ?_
    refine ru_go [true, true, true, true, true, false, false, false, false, false, true, true, true, true, true, true, true] (go 200 (fun _ => false) mixed ?_)
    simp (disch := omega) only [↓reduceIte, go_sem, e1, e2, e3, List.length_set, hexd_of, hd1] <;> repeat with_reducible refine And.intro (by first | omega | decide) ?_
    refine ru_go [true, true, true, true, true, false, false, false, false, false, true, true, true, true, true, true, true] (go 200 (fun _ => false) mixed ?_)
    simp (disch := omega) only [↓reduceIte, go_sem, e1, e2, e3, List.length_set, hexd_of, hd2] <;> repeat with_reducible refine And.intro (by first | omega | decide) ?_
    refine go 200 (fun _ => false) mixed ?_
    simp (disch := omega) only [↓reduceIte, go_sem, List.length_set, hexd_of, z3] <;> repeat with_reducible refine And.intro (by first | omega | decide) ?_
    refine ⟨by simp [isU8, byte_lt], ?_⟩
    refine fin_drop (.inr rfl) hb ?_ (by simp)
    simp [retV, hexF3 n (by omega) (by omega)]
  · have e3 : 16 ≤ n / 256 := by omega
    have e4 : ¬ 16 ≤ n / 4096 := by omega
    refine runs_rounds 4 (by rfl) (ru_go [true, true, true, true, true, false, false, false, false, false, true, true, true, true, true, true, true] (go 200 (fun _ => false) mixed ?_))
    simp (disch := omega) only [↓reduceIte, go_sem, e1, e2, e3, e4, List.length_set, hexd_of] <;> repeat with_reducible refine And.intro (by first | omega | decide) ?_
    refine ru_go [true, true, true, true, true, false, false, false, false, false, true, true, true, true, true, true, true] (go 200 (fun _ => false) mixed ?_)
    simp (disch := omega) only [↓reduceIte, go_sem, e1, e2, e3, e4, List.length_set, hexd_of, hd1] <;> repeat with_reducible refine And.intro (by first | omega | decide) ?_
    refine ru_go [true, true, true, true, true, false, false, false, false, false, true, true, true, true, true, true, true] (go 200 (fun _ => false) mixed ?_)
    simp (disch := omega) only [↓reduceIte, go_sem, e1, e2, e3, e4, List.length_set, hexd_of, hd2] <;> repeat with_reducible refine And.intro (by first | omega | decide) ?_
    refine ru_go [true, true, true, true, true, false, false, false, false, false, true, true, true, true, true, true, true] (go 200 (fun _ => false) mixed ?_)
    simp (disch := omega) only [↓reduceIte, go_sem, e1, e2, e3, e4, List.length_set, hexd_of, hd3] <;> repeat with_reducible refine And.intro (by first | omega | decide) ?_
    refine go 200 (fun _ => false) mixed ?_
    simp (disch := omega) only [↓reduceIte, go_sem, List.length_set, hexd_of, z4] <;> repeat with_reducible refine And.intro (by first | omega | decide) ?_
    refine ⟨by simp [isU8, byte_lt], ?_⟩
    refine fin_drop (.inr rfl) hb ?_ (by simp)
    simp [retV, hexF4 n (by omega) (by omega)]

theorem c_internal_strconv_FormatInt (n : Nat) (h : n ≤ 65535) : GCall 114 [.int .i64 n, .int .i64 16] (.str (bs (hexF n))) := by
  intro H hG
  refine scall_of (ord := fun _ => []) (rs := [4]) Tryz.func114 rfl (by kernel_rfl) (by kernel_rfl) (by kernel_rfl) Tryz.ntmps114 fun hb hargs => go 200 (fun _ => false) mixed ?_
  simp (disch := omega) only [↓reduceIte, go_sem] <;> repeat with_reducible refine And.intro (by first | omega | decide) ?_
  refine (c_internal_strconv_formatBits n h).on hG (go 200 (fun _ => false) mixed ?_)
  simp (disch := omega) only [↓reduceIte, go_sem] <;> repeat with_reducible refine And.intro (by first | omega | decide) ?_
  exact fin rfl rfl

theorem c_strconv_FormatInt (n : Nat) (h : n ≤ 65535) : GCall 103 [.int .i64 n, .int .i64 16] (.str (bs (hexF n))) := by
  intro H hG
  refine scall_of (ord := fun _ => []) (rs := [4]) Tryz.func103 rfl (by kernel_rfl) (by kernel_rfl) (by kernel_rfl) Tryz.ntmps103 fun hb hargs => go 200 (fun _ => false) mixed ?_
  simp (disch := omega) only [↓reduceIte, go_sem] <;> repeat with_reducible refine And.intro (by first | omega | decide) ?_
  refine (c_internal_strconv_FormatInt n h).on hG (go 200 (fun _ => false) mixed ?_)
  simp (disch := omega) only [↓reduceIte, go_sem] <;> repeat with_reducible refine And.intro (by first | omega | decide) ?_
  exact fin rfl rfl
end Go.Proofs.GoC

/-
  What the functions compute: an address's row of zeros. No claim by itself.
-/
namespace Go.Proofs.GoC
open Go Go.Proofs.SL
set_option linter.unusedSimpArgs false
set_option linter.unusedVariables false
set_option maxRecDepth 10000
set_option maxHeartbeats 2000000

def u16s (ns : List Nat) : List PV := ns.map fun n => .int .u16 (n : Nat)
@[go_sem] theorem u16s_len {ns : List Nat} : (u16s ns).length = ns.length := List.length_map ..
theorem u16s_get {ns : List Nat} {k : Nat} (h : k < ns.length) : (u16s ns).getD k .any = .int .u16 (ns.getD k 0 : Nat) := by
  simp [u16s, List.getD_eq_getElem?_getD, h]

/-- The row of zeros, group by group: from place i on, so many zeros just ahead, and the longest row so far. -/
def runGo : List Bool → Nat → Nat → Nat → Nat → Nat × Nat
  | [], _, _, at', most => (at', most)
  | z :: zs, i, n, at', most =>
    let n := if z then n + 1 else 0
    if most < n then runGo zs (i + 1) n (i + 1 - n) n else runGo zs (i + 1) n at' most

/-- Where the row of zeros stands that is two colons, and how many groups it has. -/
def runF (zs : List Bool) : Nat × Nat :=
  let r := runGo zs 0 0 0 1
  if r.2 < 2 then (0, 0) else r

def zeros (gs : List Nat) : List Bool := gs.map (· == 0)

theorem runGo_in : ∀ (zs : List Bool) (i n at' most : Nat), n ≤ i → at' + most ≤ i + 1 → (runGo zs i n at' most).1 + (runGo zs i n at' most).2 ≤ i + zs.length + 1
  | [], i, n, at', most, _, h => by simp only [runGo, List.length_nil]; omega
  | z :: zs, i, n, at', most, hn, h => by
    have h1 : (if z then n + 1 else 0) ≤ i + 1 := by split <;> omega
    simp only [runGo, List.length_cons]
    generalize (if z then n + 1 else 0) = m at *
    split
    · have := runGo_in zs (i + 1) m (i + 1 - m) m h1 (by omega)
      omega
    · have := runGo_in zs (i + 1) m at' most h1 (by omega)
      omega

@[go_sem] theorem u16s_one {gs : List Nat} : (u16s gs).all PV.one = true := by simp [u16s, PV.one]

theorem c_six_Run (gs : List Nat) (hl : gs.length = 8) : PCall Tryz.prog 74 [.agg (u16s gs)] (.tup [.int .i64 (runF (zeros gs)).1, .int .i64 (runF (zeros gs)).2]) := by
  intro H
  refine scall_of (ord := fun _ => []) (rs := [2, 3]) Tryz.func74 rfl (by kernel_rfl) (by kernel_rfl) (by kernel_rfl) Tryz.ntmps74 fun hb hargs => go 200 (fun _ => false) mixed ?_
  simp (disch := omega) only [↓reduceIte, go_sem] <;> repeat with_reducible refine And.intro (by first | omega | decide) ?_
  obtain ⟨R, hR⟩ : ∃ R, R = runGo (zeros gs) 0 0 0 1 := ⟨_, rfl⟩
  have hR8 : R.1 ≤ 9 ∧ R.2 ≤ 9 := by have := runGo_in (zeros gs) 0 0 0 1 (by omega) (by omega); rw [← hR] at this; simp only [zeros, List.length_map, hl] at this; omega
  unfold runF
  rw [← hR]
  refine runs_loopA (fun x : Nat × Nat × Nat × Nat => x.1 ≤ 8 ∧ x.2.1 ≤ x.1 ∧ x.2.2.1 + x.2.2.2 ≤ x.1 + 1 ∧ runGo ((zeros gs).drop x.1) x.1 x.2.1 x.2.2.1 x.2.2.2 = R) (fun x => 8 - x.1)
    [true, true, true, true, true, true, true, false, true]
    (fun x => slots 30 [.agg (u16s gs), .ptr H.length 0 0, .int .i64 0, .int .i64 0, .int .i64 x.2.2.1, .int .i64 x.2.2.2, .int .i64 x.2.1, .any, .int .i64 x.1])
    (fun x => H ++ [some (.cells 0 (u16s gs))]) (by rfl) (0, 0, 0, 1) ⟨by decide, by decide, by decide, hR.symm⟩ rfl rfl ?_
  rintro ⟨k, n, at', most⟩ ⟨hk, hn, hm, hgo⟩
  dsimp only at hk hn hm hgo
  refine go 200 (fun _ => false) mixed ?_
  by_cases hlt : k < 8
  · have g := u16s_get (ns := gs) (k := k) (by omega)
    have hkz : k < (zeros gs).length := by simp [zeros]; omega
    have hz : (zeros gs)[k] = (gs.getD k 0 == 0) := by simp [zeros, List.getD_eq_getElem?_getD, show k < gs.length by omega]
    rw [List.drop_eq_getElem_cons hkz, hz] at hgo
    unfold runGo at hgo
    have hn0 : ¬ most < 0 := by omega
    by_cases h0 : gs.getD k 0 = 0
    · rw [h0] at hgo
      simp only [beq_self_eq_true, if_true] at hgo
      by_cases hmo : most < n + 1
      · rw [if_pos hmo] at hgo
        simp (disch := omega) only [↓reduceIte, go_sem, hlt, hl, g, h0, hmo] <;> repeat with_reducible refine And.intro (by first | omega | decide) ?_
        exact rnd_next (k + 1, n + 1, k + 1 - (n + 1), n + 1) ⟨by show k + 1 ≤ 8; omega, by show n + 1 ≤ k + 1; omega, by show k + 1 - (n + 1) + (n + 1) ≤ k + 1 + 1; omega, hgo⟩ (by show 8 - (k + 1) < 8 - k; omega) rfl rfl
      · rw [if_neg hmo] at hgo
        simp (disch := omega) only [↓reduceIte, go_sem, hlt, hl, g, h0, hmo] <;> repeat with_reducible refine And.intro (by first | omega | decide) ?_
        exact rnd_next (k + 1, n + 1, at', most) ⟨by show k + 1 ≤ 8; omega, by show n + 1 ≤ k + 1; omega, by show at' + most ≤ k + 1 + 1; omega, hgo⟩ (by show 8 - (k + 1) < 8 - k; omega) rfl rfl
    · have h0' : (gs.getD k 0 == 0) = false := by simpa using h0
      rw [h0'] at hgo
      simp only [Bool.false_eq_true, if_false] at hgo
      rw [if_neg hn0] at hgo
      simp (disch := omega) only [↓reduceIte, go_sem, hlt, hl, g, h0, hn0] <;> repeat with_reducible refine And.intro (by first | omega | decide) ?_
      exact rnd_next (k + 1, 0, at', most) ⟨by show k + 1 ≤ 8; omega, by show 0 ≤ k + 1; omega, by show at' + most ≤ k + 1 + 1; omega, hgo⟩ (by show 8 - (k + 1) < 8 - k; omega) rfl rfl
  · simp (disch := omega) only [↓reduceIte, go_sem, hlt] <;> repeat with_reducible refine And.intro (by first | omega | decide) ?_
    have hk8 : k = 8 := by omega
    rw [List.drop_eq_nil_of_le (by simp [zeros]; omega)] at hgo
    unfold runGo at hgo
    subst hgo
    refine go 200 (fun _ => false) mixed ?_
    by_cases h2 : most < 2
    · simp (disch := omega) only [↓reduceIte, go_sem, h2] <;> repeat with_reducible refine And.intro (by first | omega | decide) ?_
      exact fin_drop (.inr rfl) hb rfl (by simp)
    · simp (disch := omega) only [↓reduceIte, go_sem, h2] <;> repeat with_reducible refine And.intro (by first | omega | decide) ?_
      exact fin_drop (.inr rfl) hb rfl (by simp)
end Go.Proofs.GoC

/-
  What the functions compute: the document's row of zeros. No claim by itself.
-/
namespace Go.Proofs.GoC
open Go Go.Proofs.SL
set_option linter.unusedSimpArgs false
set_option linter.unusedVariables false
set_option maxRecDepth 10000
set_option maxHeartbeats 2000000

def lead : List Bool → Nat
  | true :: zs => lead zs + 1
  | _ => 0

def refRunGo : List Bool → Nat → Nat → Nat → Nat × Nat
  | [], _, at', most => (at', most)
  | z :: zs, i, at', most => if 2 ≤ lead (z :: zs) ∧ most < lead (z :: zs) then refRunGo zs (i + 1) i (lead (z :: zs)) else refRunGo zs (i + 1) at' most

theorem len8 {α : Type} {l : List α} (h : l.length = 8) : ∃ a b c d e f g i, l = [a, b, c, d, e, f, g, i] := by
  match l, h with
  | [a, b, c, d, e, f, g, i], _ => exact ⟨a, b, c, d, e, f, g, i, rfl⟩

theorem run_eq8 : ∀ a b c d e f g h : Bool, refRunGo [a, b, c, d, e, f, g, h] 0 0 0 = runF [a, b, c, d, e, f, g, h] := by decide +kernel

theorem run_eq (zs : List Bool) (hl : zs.length = 8) : refRunGo zs 0 0 0 = runF zs := by
  obtain ⟨a, b, c, d, e, f, g, h, rfl⟩ := len8 hl
  exact run_eq8 a b c d e f g h

theorem lead_step {zs : List Bool} {k : Nat} (hk : k < zs.length) : lead (zs.drop k) = if zs.getD k false then lead (zs.drop (k + 1)) + 1 else 0 := by
  rw [List.drop_eq_getElem_cons hk]
  have : zs.getD k false = zs[k] := by simp [List.getD_eq_getElem?_getD, hk]
  rw [this]
  cases zs[k] <;> rfl

theorem lead_le : ∀ zs : List Bool, lead zs ≤ zs.length
  | [] => by simp [lead]
  | true :: zs => by have := lead_le zs; simp only [lead, List.length_cons]; omega
  | false :: zs => by simp [lead]

theorem zeros_get {gs : List Nat} {k : Nat} (h : k < gs.length) : (zeros gs).getD k false = (gs.getD k 0 == 0) := by
  simp [zeros, List.getD_eq_getElem?_getD, h]
theorem zeros_len {gs : List Nat} : (zeros gs).length = gs.length := List.length_map ..

theorem c_abatisref03_Run (gs : List Nat) (hl : gs.length = 8) : PCall Tryz.prog 86 [.agg (u16s gs)] (.tup [.int .i64 (runF (zeros gs)).1, .int .i64 (runF (zeros gs)).2]) := by
  intro H
  refine scall_of (ord := fun _ => []) (rs := [2, 3]) Tryz.func86 rfl (by kernel_rfl) (by kernel_rfl) (by kernel_rfl) Tryz.ntmps86 fun hb hargs => go 200 (fun _ => false) mixed ?_
  simp (disch := omega) only [↓reduceIte, go_sem] <;> repeat with_reducible refine And.intro (by first | omega | decide) ?_
  rw [← run_eq _ (zeros_len.trans hl)]
  obtain ⟨R, hR⟩ : ∃ R, R = refRunGo (zeros gs) 0 0 0 := ⟨_, rfl⟩
  rw [← hR]
  refine runs_loopA (fun x : Nat × Nat × Nat => x.1 ≤ 8 ∧ x.2.1 ≤ 8 ∧ x.2.2 ≤ 8 ∧ refRunGo ((zeros gs).drop x.1) x.1 x.2.1 x.2.2 = R) (fun x => 8 - x.1)
    [true, true, true, true, true, true, true]
    (fun x => slots 37 [.agg (u16s gs), .ptr H.length 0 0, .int .i64 0, .int .i64 0, .int .i64 x.2.1, .int .i64 x.2.2, .int .i64 x.1])
    (fun x => H ++ [some (.cells 0 (u16s gs))]) (by rfl) (0, 0, 0) ⟨by decide, by decide, by decide, hR.symm⟩ rfl rfl ?_
  rintro ⟨i, at', most⟩ ⟨hi, ha, hm, hgo⟩
  dsimp only at hi ha hm hgo
  refine go 200 (fun _ => false) mixed ?_
  by_cases hlt : i < 8
  · simp (disch := omega) only [↓reduceIte, go_sem, hlt] <;> repeat with_reducible refine And.intro (by first | omega | decide) ?_
    obtain ⟨n, hn⟩ : ∃ n, n = lead ((zeros gs).drop i) := ⟨_, rfl⟩
    have hn8 : n ≤ 8 - i := by have := lead_le ((zeros gs).drop i); rw [List.length_drop, zeros_len, hl] at this; omega
    have hstep : refRunGo ((zeros gs).drop i) i at' most = if 2 ≤ n ∧ most < n then refRunGo ((zeros gs).drop (i + 1)) (i + 1) i n else refRunGo ((zeros gs).drop (i + 1)) (i + 1) at' most := by
      rw [hn, List.drop_eq_getElem_cons (show i < (zeros gs).length by rw [zeros_len]; omega)]; rfl
    rw [hstep] at hgo
    refine runs_loopA (fun k : Nat => i + k ≤ 8 ∧ n = k + lead ((zeros gs).drop (i + k))) (fun k => 8 - (i + k))
      [true, true, true, true, true, true, true, true]
      (fun k => slots 37 [.agg (u16s gs), .ptr H.length 0 0, .int .i64 0, .int .i64 0, .int .i64 at', .int .i64 most, .int .i64 i, .int .i64 k])
      (fun _ => H ++ [some (.cells 0 (u16s gs))]) (by rfl) 0 ⟨by omega, by simp [hn]⟩ rfl rfl ?_
    rintro k ⟨hk, hnk⟩
    refine go 200 (fun _ => false) mixed ?_
    have fin1 : lead ((zeros gs).drop (i + k)) = 0 → n = k := fun h => by omega
    by_cases hik : i + k < 8
    · have g := u16s_get (ns := gs) (k := i + k) (by omega)
      have hst := lead_step (zs := zeros gs) (k := i + k) (by rw [zeros_len]; omega)
      rw [zeros_get (by omega)] at hst
      by_cases h0 : gs.getD (i + k) 0 = 0
      · rw [h0] at hst
        simp only [beq_self_eq_true, if_true] at hst
        simp (disch := omega) only [↓reduceIte, go_sem, hik, hl, g, h0] <;> repeat with_reducible refine And.intro (by first | omega | decide) ?_
        exact rnd_next (k + 1) ⟨by omega, by rw [hnk, hst, show i + (k + 1) = i + k + 1 by omega]; omega⟩ (by show 8 - (i + (k + 1)) < 8 - (i + k); omega) rfl rfl
      · have h0' : (gs.getD (i + k) 0 == 0) = false := by simpa using h0
        rw [h0'] at hst
        simp only [Bool.false_eq_true, if_false] at hst
        obtain rfl := fin1 hst
        simp (disch := omega) only [↓reduceIte, go_sem, hik, hl, g, h0] <;> repeat with_reducible refine And.intro (by first | omega | decide) ?_
        refine go 200 (fun _ => false) mixed ?_
        by_cases h2 : 2 ≤ n
        · by_cases hmo : most < n
          · rw [if_pos ⟨h2, hmo⟩] at hgo
            simp (disch := omega) only [↓reduceIte, go_sem, h2, hmo] <;> repeat with_reducible refine And.intro (by first | omega | decide) ?_
            exact rnd_next (i + 1, i, n) ⟨by show i + 1 ≤ 8; omega, hi, by show n ≤ 8; omega, hgo⟩ (by show 8 - (i + 1) < 8 - i; omega) rfl rfl
          · rw [if_neg (fun h => hmo h.2)] at hgo
            simp (disch := omega) only [↓reduceIte, go_sem, h2, hmo] <;> repeat with_reducible refine And.intro (by first | omega | decide) ?_
            exact rnd_next (i + 1, at', most) ⟨by show i + 1 ≤ 8; omega, ha, hm, hgo⟩ (by show 8 - (i + 1) < 8 - i; omega) rfl rfl
        · rw [if_neg (fun h => h2 h.1)] at hgo
          simp (disch := omega) only [↓reduceIte, go_sem, h2] <;> repeat with_reducible refine And.intro (by first | omega | decide) ?_
          exact rnd_next (i + 1, at', most) ⟨by show i + 1 ≤ 8; omega, ha, hm, hgo⟩ (by show 8 - (i + 1) < 8 - i; omega) rfl rfl
    · have hst : lead ((zeros gs).drop (i + k)) = 0 := by rw [List.drop_eq_nil_of_le (by rw [zeros_len]; omega)]; rfl
      obtain rfl := fin1 hst
      simp (disch := omega) only [↓reduceIte, go_sem, hik] <;> repeat with_reducible refine And.intro (by first | omega | decide) ?_
      refine go 200 (fun _ => false) mixed ?_
      by_cases h2 : 2 ≤ n
      · by_cases hmo : most < n
        · rw [if_pos ⟨h2, hmo⟩] at hgo
          simp (disch := omega) only [↓reduceIte, go_sem, h2, hmo] <;> repeat with_reducible refine And.intro (by first | omega | decide) ?_
          exact rnd_next (i + 1, i, n) ⟨by show i + 1 ≤ 8; omega, hi, by show n ≤ 8; omega, hgo⟩ (by show 8 - (i + 1) < 8 - i; omega) rfl rfl
        · rw [if_neg (fun h => hmo h.2)] at hgo
          simp (disch := omega) only [↓reduceIte, go_sem, h2, hmo] <;> repeat with_reducible refine And.intro (by first | omega | decide) ?_
          exact rnd_next (i + 1, at', most) ⟨by show i + 1 ≤ 8; omega, ha, hm, hgo⟩ (by show 8 - (i + 1) < 8 - i; omega) rfl rfl
      · rw [if_neg (fun h => h2 h.1)] at hgo
        simp (disch := omega) only [↓reduceIte, go_sem, h2] <;> repeat with_reducible refine And.intro (by first | omega | decide) ?_
        exact rnd_next (i + 1, at', most) ⟨by show i + 1 ≤ 8; omega, ha, hm, hgo⟩ (by show 8 - (i + 1) < 8 - i; omega) rfl rfl
  · simp (disch := omega) only [↓reduceIte, go_sem, hlt] <;> repeat with_reducible refine And.intro (by first | omega | decide) ?_
    have hk8 : i = 8 := by omega
    rw [List.drop_eq_nil_of_le (by rw [zeros_len]; omega)] at hgo
    unfold refRunGo at hgo
    subst hgo
    refine go 200 (fun _ => false) mixed ?_
    simp (disch := omega) only [↓reduceIte, go_sem] <;> repeat with_reducible refine And.intro (by first | omega | decide) ?_
    exact fin_drop (.inr rfl) hb rfl (by simp)
end Go.Proofs.GoC

/-
  What the functions compute: addresses of 32 bits, their bytes and texts. No claim by itself.
-/
namespace Go.Proofs.GoC
open Go Go.Proofs.SL
set_option linter.unusedSimpArgs false
set_option linter.unusedVariables false
set_option maxRecDepth 10000
set_option maxHeartbeats 1000000

theorem or_addk {k : IntKind} {a b s : Nat} (hb : b < 2 ^ s) (hs : k.signed = false) (h : a * 2 ^ s + b < 2 ^ k.bits) : bitOp .or k ((a * 2 ^ s : Nat) : Int) (b : Int) = ((a * 2 ^ s + b : Nat) : Int) := by
  unfold bitOp
  simp only
  have e : (BitVec.ofInt k.bits ((a * 2 ^ s : Nat) : Int) ||| BitVec.ofInt k.bits (b : Int)).toNat = a * 2 ^ s + b := by
    rw [BitVec.toNat_or, BitVec.ofInt_natCast, BitVec.ofInt_natCast, BitVec.toNat_ofNat, BitVec.toNat_ofNat, Nat.mod_eq_of_lt (by omega), Nat.mod_eq_of_lt (by omega), Nat.mul_comm a, Nat.two_pow_add_eq_or_of_lt hb]
  rw [e]
  generalize a * 2 ^ s + b = n at *
  cases k <;> simp [IntKind.signed] at hs
  · have h : n < 256 := h; exact nw_u8 (by omega) (by omega)
  · have h : n < 65536 := h; exact nw_u16 (by omega) (by omega)
  · have h : n < 4294967296 := h; exact nw_u32 (by omega) (by omega)
  · have h : n < 18446744073709551616 := h; exact nw_u64 (by omega) (by omega)

@[go_sem] theorem or_u32 {a b : Nat} (hb : b < 256) (h : a * 256 + b < 4294967296) : bitOp .or .u32 ((a * 256 : Nat) : Int) (b : Int) = ((a * 256 + b : Nat) : Int) := or_addk (k := .u32) (s := 8) hb rfl h
@[go_sem] theorem or_u32' {b : Nat} (hb : b < 256) : bitOp .or .u32 0 (b : Int) = (b : Int) := by
  have := or_addk (k := .u32) (a := 0) (s := 8) hb rfl (by show 0 * 2 ^ 8 + b < 2 ^ 32; omega)
  simpa using this

def of4 (a b c d : Nat) : Nat := ((a * 256 + b) * 256 + c) * 256 + d

theorem c_four_Of (a b c d : Nat) (ha : a ≤ 255) (hb' : b ≤ 255) (hc : c ≤ 255) (hd : d ≤ 255) : PCall Tryz.prog 128 [.agg [.int .u8 a, .int .u8 b, .int .u8 c, .int .u8 d]] (.int .u32 (of4 a b c d : Nat)) := by
  intro H
  refine scall_of (ord := fun _ => []) (rs := [2]) Tryz.func128 rfl (by kernel_rfl) (by kernel_rfl) (by kernel_rfl) Tryz.ntmps128 fun hb hargs => go 200 (fun _ => false) mixed ?_
  simp (disch := omega) only [↓reduceIte, go_sem] <;> repeat with_reducible refine And.intro (by first | omega | decide) ?_
  refine runs_rounds 5 (by rfl) (ru_go [false, false, false, true, false, false, true, true] (go 200 (fun _ => false) mixed ?_))
  simp (disch := omega) only [↓reduceIte, go_sem] <;> repeat with_reducible refine And.intro (by first | omega | decide) ?_
  refine ru_go [false, false, false, true, false, false, true, true] (go 200 (fun _ => false) mixed ?_)
  simp (disch := omega) only [↓reduceIte, go_sem] <;> repeat with_reducible refine And.intro (by first | omega | decide) ?_
  refine ru_go [false, false, false, true, false, false, true, true] (go 200 (fun _ => false) mixed ?_)
  simp (disch := omega) only [↓reduceIte, go_sem] <;> repeat with_reducible refine And.intro (by first | omega | decide) ?_
  refine ru_go [false, false, false, true, false, false, true, true] (go 200 (fun _ => false) mixed ?_)
  simp (disch := omega) only [↓reduceIte, go_sem] <;> repeat with_reducible refine And.intro (by first | omega | decide) ?_
  refine ru_go [false, false, false, true, false, false, true, true] (go 200 (fun _ => false) mixed ?_)
  simp (disch := omega) only [↓reduceIte, go_sem] <;> repeat with_reducible refine And.intro (by first | omega | decide) ?_
  refine go 200 (fun _ => false) mixed ?_
  simp (disch := omega) only [↓reduceIte, go_sem] <;> repeat with_reducible refine And.intro (by first | omega | decide) ?_
  exact fin_drop (.inr rfl) hb rfl (by simp)
/-- An address's bytes. -/
def by3 (n : Nat) : Nat := n / 16777216
def by2 (n : Nat) : Nat := n / 65536 % 256
def by1 (n : Nat) : Nat := n / 256 % 256
def by0 (n : Nat) : Nat := n % 256
def bytesV (n : Nat) : PV := .agg [.int .u8 (by3 n : Nat), .int .u8 (by2 n : Nat), .int .u8 (by1 n : Nat), .int .u8 (by0 n : Nat)]

theorem by_in (n : Nat) (h : n ≤ 4294967295) : by3 n ≤ 255 ∧ by2 n ≤ 255 ∧ by1 n ≤ 255 ∧ by0 n ≤ 255 := by
  unfold by3 by2 by1 by0; omega
theorem by_of (n : Nat) (h : n ≤ 4294967295) : of4 (by3 n) (by2 n) (by1 n) (by0 n) = n := by
  unfold of4 by3 by2 by1 by0; omega
theorem of_by (a b c d : Nat) (ha : a ≤ 255) (hb : b ≤ 255) (hc : c ≤ 255) (hd : d ≤ 255) : by3 (of4 a b c d) = a ∧ by2 (of4 a b c d) = b ∧ by1 (of4 a b c d) = c ∧ by0 (of4 a b c d) = d := by
  unfold of4 by3 by2 by1 by0; omega

theorem c_four_Bytes (n : Nat) (h : n ≤ 4294967295) : PCall Tryz.prog 79 [.int .u32 n] (bytesV n) := by
  intro H
  have u3 : IntKind.u8.wrap ((n / 16777216 : Nat) : Int) = ((by3 n : Nat) : Int) := nw_u8 (by omega) (by omega)
  have u2 : IntKind.u8.wrap ((n / 65536 : Nat) : Int) = ((by2 n : Nat) : Int) := mw_u8
  have u1 : IntKind.u8.wrap ((n / 256 : Nat) : Int) = ((by1 n : Nat) : Int) := mw_u8
  have u0 : IntKind.u8.wrap ((n : Nat) : Int) = ((by0 n : Nat) : Int) := mw_u8
  have f0 : (n : Int).fdiv 1 = n := by rw [Int.fdiv_eq_ediv_of_nonneg _ (by omega)]; omega
  refine scall_ofc (ord := fun _ => []) (tdOf_ok _) (rs := [.cell 2 90]) Tryz.func79 rfl (by kernel_rfl) (by kernel_rfl) (by kernel_rfl) Tryz.ntmps79 fun hb hargs => go 200 (fun _ => false) mixed ?_
  simp (disch := omega) only [↓reduceIte, go_sem] <;> repeat with_reducible refine And.intro (by first | omega | decide) ?_
  refine runs_rounds 5 (by rfl) (ru_go [true, false, true, true, false, true] (go 200 (fun _ => false) mixed ?_))
  simp (disch := omega) only [↓reduceIte, go_sem, u3] <;> repeat with_reducible refine And.intro (by first | omega | decide) ?_
  refine ru_go [true, false, true, true, false, true] (go 200 (fun _ => false) mixed ?_)
  simp (disch := omega) only [↓reduceIte, go_sem, u2] <;> repeat with_reducible refine And.intro (by first | omega | decide) ?_
  refine ru_go [true, false, true, true, false, true] (go 200 (fun _ => false) mixed ?_)
  simp (disch := omega) only [↓reduceIte, go_sem, u1] <;> repeat with_reducible refine And.intro (by first | omega | decide) ?_
  refine ru_go [true, false, true, true, false, true] (go 200 (fun _ => false) mixed ?_)
  simp (disch := omega) only [↓reduceIte, go_sem, u0, f0] <;> repeat with_reducible refine And.intro (by first | omega | decide) ?_
  refine ru_go [true, false, true, true, false, true] (go 200 (fun _ => false) mixed ?_)
  simp (disch := omega) only [↓reduceIte, go_sem] <;> repeat with_reducible refine And.intro (by first | omega | decide) ?_
  refine go 200 (fun _ => false) mixed ?_
  simp (disch := omega) only [↓reduceIte, go_sem] <;> repeat with_reducible refine And.intro (by first | omega | decide) ?_
  refine fin_c (.inr rfl) hb ?_ (by simp [bytesV])
  simp (disch := omega) only [↓reduceIte, go_sem] <;> repeat with_reducible refine And.intro (by first | omega | decide) ?_
  trivial

def dot4 (a b c d : Nat) : List UInt8 := decF a ++ [46] ++ decF b ++ [46] ++ decF c ++ [46] ++ decF d
def printF (n : Nat) : List UInt8 := dot4 (by3 n) (by2 n) (by1 n) (by0 n)

theorem join4 (a b c d : List UInt8) : joinL [46] [a, b, c, d] = a ++ [46] ++ b ++ [46] ++ c ++ [46] ++ d := by
  simp [joinL, List.intercalate, List.intersperse]

theorem dec3 (n : Nat) (h : n ≤ 255) : (decF n).length ≤ 3 := decF_len n 2 (by omega)

theorem dot4_len (a b c d : Nat) (ha : a ≤ 255) (hb : b ≤ 255) (hc : c ≤ 255) (hd : d ≤ 255) : (dot4 a b c d).length ≤ 15 := by
  have := dec3 a ha; have := dec3 b hb; have := dec3 c hc; have := dec3 d hd
  simp only [dot4, List.length_append, List.length_cons, List.length_nil]; omega
theorem printF_len (n : Nat) (h : n ≤ 4294967295) : (printF n).length ≤ 15 := by
  obtain ⟨h3, h2, h1, h0⟩ := by_in n h
  exact dot4_len _ _ _ _ h3 h2 h1 h0

theorem c_four_Print (n : Nat) (h : n ≤ 4294967295) : GCall 51 [.int .u32 n] (.str (bs (printF n))) := by
  intro H hG
  obtain ⟨h3, h2, h1, h0⟩ := by_in n h
  refine scall_of (ord := fun _ => []) (rs := [2]) Tryz.func51 rfl (by kernel_rfl) (by kernel_rfl) (by kernel_rfl) Tryz.ntmps51 fun hb hargs => go 200 (fun _ => false) mixed ?_
  simp (disch := omega) only [↓reduceIte, go_sem] <;> repeat with_reducible refine And.intro (by first | omega | decide) ?_
  refine (c_four_Bytes n h).on (go 200 (fun _ => false) mixed ?_)
  unfold bytesV
  simp (disch := omega) only [↓reduceIte, go_sem] <;> repeat with_reducible refine And.intro (by first | omega | decide) ?_
  refine Runs.ghost (by rfl) (Ghost.grow (t := 3) (m := 1) rfl) ?_
  refine runs_rounds 5 (by rfl) (ru_go [true, false, false, true, false, false, false, true, true] (go 200 (fun _ => false) mixed ?_))
  simp (disch := omega) only [↓reduceIte, go_sem] <;> repeat with_reducible refine And.intro (by first | omega | decide) ?_
  refine (c_text_Decimal (by3 n) (by omega)).on hG.app (go 200 (fun t => t == 16) mixed ?_)
  simp (disch := omega) only [↓reduceIte, go_sem] <;> repeat with_reducible refine And.intro (by first | omega | decide) ?_
  refine ru_go [true, false, false, true, false, false, false, true, true] (go 200 (fun _ => false) mixed ?_)
  simp (disch := omega) only [↓reduceIte, go_sem] <;> repeat with_reducible refine And.intro (by first | omega | decide) ?_
  refine (c_text_Decimal (by2 n) (by omega)).on hG.app (go 200 (fun t => t == 16) mixed ?_)
  simp (disch := omega) only [↓reduceIte, go_sem] <;> repeat with_reducible refine And.intro (by first | omega | decide) ?_
  refine ru_go [true, false, false, true, false, false, false, true, true] (go 200 (fun _ => false) mixed ?_)
  simp (disch := omega) only [↓reduceIte, go_sem] <;> repeat with_reducible refine And.intro (by first | omega | decide) ?_
  refine (c_text_Decimal (by1 n) (by omega)).on hG.app (go 200 (fun t => t == 16) mixed ?_)
  simp (disch := omega) only [↓reduceIte, go_sem] <;> repeat with_reducible refine And.intro (by first | omega | decide) ?_
  refine ru_go [true, false, false, true, false, false, false, true, true] (go 200 (fun _ => false) mixed ?_)
  simp (disch := omega) only [↓reduceIte, go_sem] <;> repeat with_reducible refine And.intro (by first | omega | decide) ?_
  refine (c_text_Decimal (by0 n) (by omega)).on hG.app (go 200 (fun t => t == 16) mixed ?_)
  simp (disch := omega) only [↓reduceIte, go_sem] <;> repeat with_reducible refine And.intro (by first | omega | decide) ?_
  refine ru_go [true, false, false, true, false, false, false, true, true] (go 200 (fun _ => false) mixed ?_)
  simp (disch := omega) only [↓reduceIte, go_sem] <;> repeat with_reducible refine And.intro (by first | omega | decide) ?_
  refine go 200 (fun _ => false) mixed ?_
  simp (disch := omega) only [↓reduceIte, go_sem] <;> repeat with_reducible refine And.intro (by first | omega | decide) ?_
  have hl := printF_len n h
  have e : joinL [46] [decF (by3 n), decF (by2 n), decF (by1 n), decF (by0 n)] = printF n := join4 _ _ _ _
  refine (c_strings_Join [decF (by3 n), decF (by2 n), decF (by1 n), decF (by0 n)] [46] _ (.inr (.inr ⟨H.length, _, true, rfl, by rw [get_tail0]; rfl⟩)) (by simp) (by rw [e]; omega)).mono ?_
  rintro r' H' ⟨rfl, rfl⟩
  rw [e]
  refine go 200 (fun _ => false) mixed ?_
  simp (disch := omega) only [↓reduceIte, go_sem] <;> repeat with_reducible refine And.intro (by first | omega | decide) ?_
  exact fin_drop (.inr rfl) hb rfl (by simp)

theorem c_abatisref02_Print (n : Nat) (h : n ≤ 4294967295) : PCall Tryz.prog 59 [.int .u32 n] (.str (bs (printF n))) := by
  intro H
  obtain ⟨h3, h2, h1, h0⟩ := by_in n h
  have l3 := dec3 _ h3
  have l2 := dec3 _ h2
  have l1 := dec3 _ h1
  have l0 := dec3 _ h0
  have m0 : n % 256 = by0 n := rfl
  have m1 : n / 256 % 256 = by1 n := rfl
  have m2 : n / 256 / 256 % 256 = by2 n := by unfold by2; omega
  have m3 : n / 256 / 256 / 256 % 256 = by3 n := by unfold by3; omega
  refine scall_of (ord := fun _ => []) (rs := [2]) Tryz.func59 rfl (by kernel_rfl) (by kernel_rfl) (by kernel_rfl) Tryz.ntmps59 fun hb hargs => go 200 (fun _ => false) mixed ?_
  simp (disch := omega) only [↓reduceIte, go_sem] <;> repeat with_reducible refine And.intro (by first | omega | decide) ?_
  refine runs_rounds 5 (by rfl) (ru_go [true, false, false, true, true] (go 200 (fun _ => false) mixed ?_))
  simp (disch := omega) only [↓reduceIte, go_sem, m0] <;> repeat with_reducible refine And.intro (by first | omega | decide) ?_
  refine (c_abatisref01_Decimal (by0 n) (by omega)).on (go 200 (fun _ => false) mixed ?_)
  simp (disch := omega) only [↓reduceIte, go_sem] <;> repeat with_reducible refine And.intro (by first | omega | decide) ?_
  refine ru_go [true, false, false, true, true] (go 200 (fun _ => false) mixed ?_)
  simp (disch := omega) only [↓reduceIte, go_sem, m1, List.length_append] <;> repeat with_reducible refine And.intro (by first | omega | decide) ?_
  refine (c_abatisref01_Decimal (by1 n) (by omega)).on (go 200 (fun _ => false) mixed ?_)
  simp (disch := omega) only [↓reduceIte, go_sem, List.length_append] <;> repeat with_reducible refine And.intro (by first | omega | decide) ?_
  refine ru_go [true, false, false, true, true] (go 200 (fun _ => false) mixed ?_)
  simp (disch := omega) only [↓reduceIte, go_sem, m2, List.length_append] <;> repeat with_reducible refine And.intro (by first | omega | decide) ?_
  refine (c_abatisref01_Decimal (by2 n) (by omega)).on (go 200 (fun _ => false) mixed ?_)
  simp (disch := omega) only [↓reduceIte, go_sem, List.length_append] <;> repeat with_reducible refine And.intro (by first | omega | decide) ?_
  refine ru_go [true, false, false, true, true] (go 200 (fun _ => false) mixed ?_)
  simp (disch := omega) only [↓reduceIte, go_sem, m3, List.length_append] <;> repeat with_reducible refine And.intro (by first | omega | decide) ?_
  refine (c_abatisref01_Decimal (by3 n) (by omega)).on (go 200 (fun _ => false) mixed ?_)
  simp (disch := omega) only [↓reduceIte, go_sem, List.length_append] <;> repeat with_reducible refine And.intro (by first | omega | decide) ?_
  refine ru_go [true, false, false, true, true] (go 200 (fun _ => false) mixed ?_)
  simp (disch := omega) only [↓reduceIte, go_sem] <;> repeat with_reducible refine And.intro (by first | omega | decide) ?_
  refine go 200 (fun _ => false) mixed ?_
  simp (disch := omega) only [↓reduceIte, go_sem] <;> repeat with_reducible refine And.intro (by first | omega | decide) ?_
  exact fin (by simp [retV, printF, dot4]) rfl
end Go.Proofs.GoC

/-
  What the functions compute: rows of groups, as texts. No claim by itself.
-/
namespace Go.Proofs.GoC
open Go Go.Proofs.SL
set_option linter.unusedSimpArgs false
set_option linter.unusedVariables false
set_option maxRecDepth 10000
set_option maxHeartbeats 2000000

/-- A row of groups, as a text. -/
def rowF (gs : List Nat) : List UInt8 := joinL [58] (gs.map hexF)

/-- A slice of groups of an array. -/
structure Grp (H : Heap) (i off : Nat) (gs : List Nat) : Prop where
  cs : ∃ cs, H[i]? = some (some (.cells 0 cs)) ∧ off + gs.length ≤ cs.length ∧ ∀ k, k < gs.length → cs.getD (off + k) .any = .int .u16 (gs.getD k 0 : Nat)
  le : ∀ k, k < gs.length → gs.getD k 0 ≤ 65535
  short : gs.length ≤ 8

theorem hexF_len (n : Nat) (h : n ≤ 65535) : (hexF n).length ≤ 4 := by
  by_cases h1 : n < 16
  · rw [hexF1 n h1]; simp
  by_cases h2 : n < 256
  · rw [hexF2 n (by omega) h2]; simp
  by_cases h3 : n < 4096
  · rw [hexF3 n (by omega) h3]; simp
  · rw [hexF4 n (by omega) (by omega)]; simp

theorem joinL_cons (sep a : List UInt8) (l : List (List UInt8)) (h : l ≠ []) : joinL sep (a :: l) = a ++ sep ++ joinL sep l := by
  cases l with
  | nil => exact absurd rfl h
  | cons b l => simp [joinL, List.intercalate, List.intersperse]

theorem joinL_len (sep : List UInt8) (m : Nat) : ∀ l : List (List UInt8), (∀ p ∈ l, p.length ≤ m) → (joinL sep l).length ≤ l.length * (m + sep.length)
  | [], _ => by simp [joinL]
  | [a], h => by have := h a (by simp); simp [joinL]; omega
  | a :: b :: l, h => by
    have h1 := h a (by simp)
    have h2 := joinL_len sep m (b :: l) (fun p hp => h p (List.mem_cons_of_mem _ hp))
    rw [joinL_cons _ _ _ (by simp)]
    simp only [List.length_append, List.length_cons] at *
    rw [Nat.add_mul _ 1]; omega

theorem take_snoc {α : Type} {l : List α} {k : Nat} {d : α} (h : k < l.length) : l.take (k + 1) = l.take k ++ [l.getD k d] := by
  rw [List.take_add_one, List.getElem?_eq_getElem h]; simp [List.getD_eq_getElem?_getD, h]

theorem c_six_hex {H : Heap} (hG : GTab H) {i off : Nat} {gs : List Nat} (hg : Grp H i off gs) : SCall Tryz.prog 75 [.buf i 0 off gs.length 1 false] H fun r' H' => r' = .str (bs (rowF gs)) ∧ H' = H := by
  obtain ⟨⟨cs, hi, hoff, hget⟩, hle, hsh⟩ := hg
  have hiL : ∀ L : Heap, obj (H ++ L) i 0 = some cs := fun L => by
    have : (H ++ L)[i]? = some (some (.cells 0 cs)) := (List.getElem?_append_left (Alive.lt ⟨_, hi⟩)).trans hi
    simp [obj, this]
  refine scall_of (ord := fun _ => []) (rs := [2]) Tryz.func75 rfl (by kernel_rfl) (by kernel_rfl) (by kernel_rfl) Tryz.ntmps75 fun hb hargs => go 200 (fun _ => false) mixed ?_
  simp (disch := omega) only [↓reduceIte, go_sem] <;> repeat with_reducible refine And.intro (by first | omega | decide) ?_
  refine Runs.ghost (by rfl) (Ghost.grow (t := 3) (m := 1) rfl) ?_
  refine runs_loopA (fun x : Nat × Nat => x.1 ≤ gs.length) (fun x => gs.length - x.1) [true, false, false, true, false, false, true, true, true]
    (fun x => slots 21 [.buf i 0 off gs.length 1 false, .any, .any, .buf H.length x.2 0 x.1 1 true, .any, .any, .buf i 0 off gs.length 1 false, .int .i64 gs.length, .int .i64 x.1])
    (fun x => H ++ [some (.cells x.2 (strs ((gs.take x.1).map hexF)))]) (by rfl) (0, 0) (Nat.zero_le _) rfl rfl ?_
  rintro ⟨k, ver⟩ hk
  dsimp only at hk
  refine go 200 (fun _ => false) mixed ?_
  by_cases hlt : k < gs.length
  · have g := hget k hlt
    have gl := hle k hlt
    have gb : off + k < cs.length := by omega
    simp (disch := omega) only [↓reduceIte, go_sem, hlt, hiL, g, gb] <;> repeat with_reducible refine And.intro (by first | omega | decide) ?_
    refine (c_strconv_FormatInt (gs.getD k 0) gl).on hG.app (go 200 (fun _ => false) mixed ?_)
    simp (disch := omega) only [↓reduceIte, go_sem, strs_len, List.length_map, List.length_take, Nat.min_eq_left] <;> repeat with_reducible refine And.intro (by first | omega | decide) ?_
    refine ⟨by unfold most; omega, ?_⟩
    refine rnd_next (k + 1, ver + 1) (by show k + 1 ≤ gs.length; omega) (by show gs.length - (k + 1) < gs.length - k; omega) rfl ?_
    show _ = H ++ [some (.cells (ver + 1) (strs ((gs.take (k + 1)).map hexF)))]
    rw [take_snoc (d := 0) hlt]; simp [strs]
  · simp (disch := omega) only [↓reduceIte, go_sem, hlt] <;> repeat with_reducible refine And.intro (by first | omega | decide) ?_
    have hk2 : k = gs.length := by omega
    subst hk2
    refine go 200 (fun _ => false) mixed ?_
    simp (disch := omega) only [↓reduceIte, go_sem] <;> repeat with_reducible refine And.intro (by first | omega | decide) ?_
    rw [List.take_length]
    have hlen : (joinL [58] (gs.map hexF)).length ≤ 140737488355328 := by
      have := joinL_len [58] 4 (gs.map hexF) (fun p hp => by
        obtain ⟨n, hn, rfl⟩ := List.mem_map.mp hp
        obtain ⟨j, hj, rfl⟩ := List.getElem_of_mem hn
        have := hle j hj
        simp only [List.getD_eq_getElem?_getD, hj, List.getElem?_eq_getElem, Option.getD_some] at this
        exact hexF_len _ this)
      simp only [List.length_map, List.length_singleton] at this; omega
    refine (c_strings_Join (gs.map hexF) [58] _ (.inr (.inr ⟨H.length, ver, true, by rw [List.length_map], by rw [get_tail0]; rfl⟩)) (by rw [List.length_map]; omega) hlen).mono ?_
    rintro r' H' ⟨rfl, rfl⟩
    refine go 200 (fun _ => false) mixed ?_
    simp (disch := omega) only [↓reduceIte, go_sem] <;> repeat with_reducible refine And.intro (by first | omega | decide) ?_
    exact fin_drop (.inr rfl) hb rfl (by simp)

theorem hexd_str (n : Nat) (h : n < 16) : List.drop n (48 :: List.take n ([49, 50, 51, 52, 53, 54, 55, 56, 57, 97, 98, 99, 100, 101, 102] : List UInt8)) = [hexd n] := by
  have : ∀ n : Fin 16, List.drop n.val (48 :: List.take n.val ([49, 50, 51, 52, 53, 54, 55, 56, 57, 97, 98, 99, 100, 101, 102] : List UInt8)) = [hexd n.val] := by decide +kernel
  exact this ⟨n, h⟩

theorem c_abatisref03_group : ∀ (n : Nat), n ≤ 65535 → PCall Tryz.prog 112 [.int .u16 n] (.str (bs (hexF n))) := by
  intro n
  induction n using Nat.strongRecOn with
  | _ n ih =>
    intro h H
    have hs := hexd_str (n % 16) (by omega)
    refine scall_of (ord := fun _ => []) (rs := [2]) Tryz.func112 rfl (by kernel_rfl) (by kernel_rfl) (by kernel_rfl) Tryz.ntmps112 fun hb hargs => go 200 (fun _ => false) mixed ?_
    by_cases h1 : n < 16
    · simp (disch := omega) only [↓reduceIte, go_sem, h1, hs] <;> repeat with_reducible refine And.intro (by first | omega | decide) ?_
      exact fin (by simp [retV, hexF1 n h1, Nat.mod_eq_of_lt h1]) rfl
    · simp (disch := omega) only [↓reduceIte, go_sem, h1, hs] <;> repeat with_reducible refine And.intro (by first | omega | decide) ?_
      refine (ih (n / 16) (by omega) (by omega)).on (go 200 (fun _ => false) mixed ?_)
      have := hexF_len (n / 16) (by omega)
      simp (disch := omega) only [↓reduceIte, go_sem, hs, List.length_cons, List.length_nil] <;> repeat with_reducible refine And.intro (by first | omega | decide) ?_
      refine fin ?_ rfl
      rw [hexF.eq_1 n, if_neg h1]; rfl

theorem joinL_app (sep : List UInt8) : ∀ (a b : List (List UInt8)), a ≠ [] → b ≠ [] → joinL sep (a ++ b) = joinL sep a ++ sep ++ joinL sep b
  | [], _, h, _ => absurd rfl h
  | [x], b, _, hb => by rw [List.singleton_append, joinL_cons _ _ _ hb]; simp [joinL]
  | x :: y :: a, b, _, hb => by
    rw [List.cons_append, joinL_cons _ _ _ (by simp), joinL_app sep (y :: a) b (by simp) hb, joinL_cons _ _ (y :: a) (by simp)]
    simp

theorem joinL_take (sep : List UInt8) (l : List (List UInt8)) (k : Nat) : (joinL sep (l.take k)).length ≤ (joinL sep l).length := by
  by_cases h1 : l.take k = []
  · rw [h1]; simp [joinL]
  by_cases h2 : l.drop k = []
  · rw [List.take_of_length_le (List.drop_eq_nil_iff.mp h2)]; exact Nat.le_refl _
  · have := joinL_app sep (l.take k) (l.drop k) h1 h2
    rw [List.take_append_drop] at this
    rw [this]; simp only [List.length_append]; omega

theorem joinL_snoc (sep : List UInt8) (l : List (List UInt8)) (k : Nat) (hk : k < l.length) (h0 : 0 < k) : joinL sep (l.take (k + 1)) = joinL sep (l.take k) ++ sep ++ l.getD k [] := by
  rw [take_snoc (d := []) hk, joinL_app _ _ _ (by
    intro h
    have := congrArg List.length h
    simp only [List.length_take, List.length_nil] at this; omega) (by simp)]
  simp [joinL]
theorem joinL_one (sep : List UInt8) (l : List (List UInt8)) (h : 0 < l.length) : joinL sep (l.take (0 + 1)) = l.getD 0 [] := by
  rw [take_snoc (d := []) h]; simp [joinL]

/-- Join, of a slice that was grown. -/
theorem c_abatisref01_Join {H : Heap} (l : List (List UInt8)) (sep : List UInt8) (i ver : Nat) (tip : Bool) (cs : List (List UInt8)) (hi : H[i]? = some (some (.cells ver (strs cs)))) (hl : l.length ≤ cs.length) (hcs : ∀ k, k < l.length → cs.getD k [] = l.getD k [])
    (hlen : (joinL sep l).length ≤ 140737488355328) (hsh : l.length ≤ 1000000000) :
    SCall Tryz.prog 113 [.buf i ver 0 l.length 1 tip, .str (bs sep)] H fun r' H' => r' = .str (bs (joinL sep l)) ∧ H' = H := by
  have ho : obj H i ver = some (strs cs) := by simp [obj, hi]
  refine scall_of (ord := fun _ => []) (rs := [4]) Tryz.func113 rfl (by kernel_rfl) (by kernel_rfl) (by kernel_rfl) Tryz.ntmps113 fun hb hargs => go 200 (fun _ => false) mixed ?_
  simp (disch := omega) only [↓reduceIte, go_sem] <;> repeat with_reducible refine And.intro (by first | omega | decide) ?_
  refine runs_loopA (fun k : Nat => k ≤ l.length) (fun k => l.length - k) [true, true, false, false, false, true, true]
    (fun k => slots 25 [.buf i ver 0 l.length 1 tip, .str (bs sep), .any, .any, .any, .str (bs (joinL sep (l.take k))), .int .i64 k])
    (fun _ => H) (by rfl) 0 (Nat.zero_le _) rfl rfl ?_
  intro k hk
  refine go 200 (fun _ => false) mixed ?_
  by_cases hlt : k < l.length
  · have g : (strs cs).getD k .any = .str (bs (l.getD k [])) := by
      rw [strs_getD (by omega), hcs k hlt]
    have gb : k < (strs cs).length := by rw [strs_len]; omega
    have hkl : k < cs.length := by omega
    have t1 := joinL_take sep l k
    have t2 := joinL_take sep l (k + 1)
    rcases Nat.eq_zero_or_pos k with h0 | h0
    · subst h0
      have e := joinL_one sep l hlt
      rw [e] at t2
      have e0 : joinL sep [] = [] := by simp [joinL]
      have e1 : joinL sep (l.take 1) = l.getD 0 [] := e
      simp (disch := omega) only [↓reduceIte, go_sem, hlt, ho, g, gb, hkl, e0, List.length_nil, List.nil_append, strs_len] <;> repeat with_reducible refine And.intro (by first | omega | decide) ?_
      refine rnd_next 1 (by show 1 ≤ l.length; omega) (by show l.length - 1 < l.length - 0; omega) (by rw [e1]; rfl) rfl
    · have e := joinL_snoc sep l k hlt h0
      rw [e] at t2
      simp only [List.length_append] at t2
      simp (disch := omega) only [↓reduceIte, go_sem, hlt, ho, g, gb, h0, hkl, List.length_append, strs_len] <;> repeat with_reducible refine And.intro (by first | omega | decide) ?_
      exact rnd_next (k + 1) (by show k + 1 ≤ l.length; omega) (by show l.length - (k + 1) < l.length - k; omega) (by rw [e]; rfl) rfl
  · simp (disch := omega) only [↓reduceIte, go_sem, hlt] <;> repeat with_reducible refine And.intro (by first | omega | decide) ?_
    have hk2 : k = l.length := by omega
    subst hk2
    refine go 200 (fun _ => false) mixed ?_
    simp (disch := omega) only [↓reduceIte, go_sem] <;> repeat with_reducible refine And.intro (by first | omega | decide) ?_
    exact fin (by simp [retV]) rfl

theorem c_abatisref03_row {H : Heap} {i off : Nat} {gs : List Nat} (hg : Grp H i off gs) : SCall Tryz.prog 87 [.buf i 0 off gs.length 1 false] H fun r' H' => r' = .str (bs (rowF gs)) ∧ H' = H := by
  obtain ⟨⟨cs, hi, hoff, hget⟩, hle, hsh⟩ := hg
  have hiL : ∀ L : Heap, obj (H ++ L) i 0 = some cs := fun L => by
    have : (H ++ L)[i]? = some (some (.cells 0 cs)) := (List.getElem?_append_left (Alive.lt ⟨_, hi⟩)).trans hi
    simp [obj, this]
  refine scall_of (ord := fun _ => []) (rs := [2]) Tryz.func87 rfl (by kernel_rfl) (by kernel_rfl) (by kernel_rfl) Tryz.ntmps87 fun hb hargs => go 200 (fun _ => false) mixed ?_
  simp (disch := omega) only [↓reduceIte, go_sem] <;> repeat with_reducible refine And.intro (by first | omega | decide) ?_
  refine Runs.ghost (by rfl) (Ghost.grow (t := 3) (m := 1) rfl) ?_
  refine runs_loopA (fun x : Nat × Nat => x.1 ≤ gs.length) (fun x => gs.length - x.1) [true, false, false, true, true]
    (fun x => slots 21 [.buf i 0 off gs.length 1 false, .any, .any, .buf H.length x.2 0 x.1 1 true, .int .i64 x.1])
    (fun x => H ++ [some (.cells x.2 (strs ((gs.take x.1).map hexF)))]) (by rfl) (0, 0) (Nat.zero_le _) rfl rfl ?_
  rintro ⟨k, ver⟩ hk
  dsimp only at hk
  refine go 200 (fun _ => false) mixed ?_
  by_cases hlt : k < gs.length
  · have g := hget k hlt
    have gl := hle k hlt
    have gb : off + k < cs.length := by omega
    simp (disch := omega) only [↓reduceIte, go_sem, hlt, hiL, g, gb] <;> repeat with_reducible refine And.intro (by first | omega | decide) ?_
    refine (c_abatisref03_group (gs.getD k 0) gl).on (go 200 (fun _ => false) mixed ?_)
    simp (disch := omega) only [↓reduceIte, go_sem, strs_len, List.length_map, List.length_take, Nat.min_eq_left] <;> repeat with_reducible refine And.intro (by first | omega | decide) ?_
    refine ⟨by unfold most; omega, ?_⟩
    refine rnd_next (k + 1, ver + 1) (by show k + 1 ≤ gs.length; omega) (by show gs.length - (k + 1) < gs.length - k; omega) rfl ?_
    show _ = H ++ [some (.cells (ver + 1) (strs ((gs.take (k + 1)).map hexF)))]
    rw [take_snoc (d := 0) hlt]; simp [strs]
  · simp (disch := omega) only [↓reduceIte, go_sem, hlt] <;> repeat with_reducible refine And.intro (by first | omega | decide) ?_
    have hk2 : k = gs.length := by omega
    subst hk2
    refine go 200 (fun _ => false) mixed ?_
    simp (disch := omega) only [↓reduceIte, go_sem] <;> repeat with_reducible refine And.intro (by first | omega | decide) ?_
    rw [List.take_length]
    have hlen : (joinL [58] (gs.map hexF)).length ≤ 140737488355328 := by
      have := joinL_len [58] 4 (gs.map hexF) (fun p hp => by
        obtain ⟨n, hn, rfl⟩ := List.mem_map.mp hp
        obtain ⟨j, hj, rfl⟩ := List.getElem_of_mem hn
        have := hle j hj
        simp only [List.getD_eq_getElem?_getD, hj, List.getElem?_eq_getElem, Option.getD_some] at this
        exact hexF_len _ this)
      simp only [List.length_map, List.length_singleton] at this; omega
    have hj := c_abatisref01_Join (H := H ++ [some (.cells ver (strs (gs.map hexF)))]) (gs.map hexF) [58] H.length ver true (gs.map hexF) (by rw [get_tail0]; rfl) (Nat.le_refl _) (fun k _ => rfl) hlen (by rw [List.length_map]; omega)
    rw [List.length_map] at hj
    refine hj.mono ?_
    rintro r' H' ⟨rfl, rfl⟩
    refine go 200 (fun _ => false) mixed ?_
    simp (disch := omega) only [↓reduceIte, go_sem] <;> repeat with_reducible refine And.intro (by first | omega | decide) ?_
    exact fin_drop (.inr rfl) hb rfl (by simp)
end Go.Proofs.GoC

/-
  What the functions compute: texts of addresses of 128 bits. No claim by itself.
-/
namespace Go.Proofs.GoC
open Go Go.Proofs.SL
set_option linter.unusedSimpArgs false
set_option linter.unusedVariables false
set_option maxRecDepth 10000
set_option maxHeartbeats 2000000

@[go_sem] theorem or_u32_16 {a b : Nat} (hb : b < 65536) (h : a * 65536 + b < 4294967296) : bitOp .or .u32 ((a * 65536 : Nat) : Int) (b : Int) = ((a * 65536 + b : Nat) : Int) := or_addk (k := .u32) (s := 16) hb rfl h

theorem run_in8 : ∀ a b c d e f g h : Bool, (runF [a, b, c, d, e, f, g, h]).1 + (runF [a, b, c, d, e, f, g, h]).2 ≤ 8 := by decide +kernel
theorem run_in (zs : List Bool) (hl : zs.length = 8) : (runF zs).1 + (runF zs).2 ≤ 8 := by
  obtain ⟨a, b, c, d, e, f, g, h, rfl⟩ := len8 hl
  exact run_in8 a b c d e f g h

def mapd (gs : List Nat) : Bool := gs.take 6 == [0, 0, 0, 0, 0, 65535]

/-- An address's text. -/
def print6 (gs : List Nat) : List UInt8 :=
  if mapd gs then [58, 58, 102, 102, 102, 102, 58] ++ printF (gs.getD 6 0 * 65536 + gs.getD 7 0)
  else if (runF (zeros gs)).2 = 0 then rowF gs
  else rowF (gs.take (runF (zeros gs)).1) ++ [58, 58] ++ rowF (gs.drop ((runF (zeros gs)).1 + (runF (zeros gs)).2))

theorem grp_all {H : Heap} {gs : List Nat} (hl : gs.length = 8) (hle : ∀ g ∈ gs, g ≤ 65535) : Grp (H ++ [some (.cells 0 (u16s gs))]) H.length 0 gs :=
  ⟨⟨u16s gs, by rw [get_tail0]; rfl, by rw [u16s_len]; omega, fun k hk => by rw [Nat.zero_add]; exact u16s_get hk⟩, fun k hk => by
    have := hle gs[k] (List.getElem_mem hk)
    simpa [List.getD_eq_getElem?_getD, hk] using this, by omega⟩
theorem grp_take {H : Heap} {gs : List Nat} (hl : gs.length = 8) (hle : ∀ g ∈ gs, g ≤ 65535) (n : Nat) : Grp (H ++ [some (.cells 0 (u16s gs))]) H.length 0 (gs.take n) :=
  ⟨⟨u16s gs, by rw [get_tail0]; rfl, by rw [u16s_len, List.length_take]; omega, fun k hk => by
    rw [List.length_take] at hk
    rw [Nat.zero_add, u16s_get (by omega)]
    simp [List.getD_eq_getElem?_getD, List.getElem?_take, show k < n by omega]⟩, fun k hk => by
    have hm : (gs.take n)[k] ∈ gs := List.mem_of_mem_take (List.getElem_mem hk)
    have := hle _ hm
    rwa [List.getD_eq_getElem?_getD, List.getElem?_eq_getElem hk, Option.getD_some], by rw [List.length_take]; omega⟩
theorem grp_drop {H : Heap} {gs : List Nat} (hl : gs.length = 8) (hle : ∀ g ∈ gs, g ≤ 65535) (n : Nat) (hn : n ≤ 8) : Grp (H ++ [some (.cells 0 (u16s gs))]) H.length n (gs.drop n) :=
  ⟨⟨u16s gs, by rw [get_tail0]; rfl, by rw [u16s_len, List.length_drop]; omega, fun k hk => by
    rw [List.length_drop] at hk
    rw [u16s_get (by omega)]
    simp [List.getD_eq_getElem?_getD, List.getElem?_drop]⟩, fun k hk => by
    have hm : (gs.drop n)[k] ∈ gs := List.mem_of_mem_drop (List.getElem_mem hk)
    have := hle _ hm
    rwa [List.getD_eq_getElem?_getD, List.getElem?_eq_getElem hk, Option.getD_some], by rw [List.length_drop]; omega⟩

theorem u16s_tag {gs : List Nat} (hl : gs.length = 8) : List.map tagP (u16s gs) = [some (Tag.i IntKind.u16), some (Tag.i IntKind.u16), some (Tag.i IntKind.u16), some (Tag.i IntKind.u16), some (Tag.i IntKind.u16), some (Tag.i IntKind.u16), some (Tag.i IntKind.u16), some (Tag.i IntKind.u16)] := by
  obtain ⟨a, b, c, d, e, f, g, h, rfl⟩ := len8 hl
  rfl
theorem u16s_inj {a b : List Nat} : u16s a = u16s b ↔ a = b := by
  constructor
  · intro h
    have : ∀ c d : List Nat, u16s c = u16s d → c = d := by
      intro c
      induction c with
      | nil => intro d hd; cases d with
        | nil => rfl
        | cons y d => simp [u16s] at hd
      | cons x c ih => intro d hd; cases d with
        | nil => simp [u16s] at hd
        | cons y d =>
          simp only [u16s, List.map_cons, List.cons.injEq, PV.int.injEq, true_and] at hd
          have h1 : x = y := Int.ofNat_inj.mp hd.1
          rw [h1, ih d hd.2]
    exact this a b h
  · intro h; rw [h]
theorem mapd_iff {gs : List Nat} (hl : gs.length = 8) : (u16s gs = [PV.int IntKind.u16 0, PV.int IntKind.u16 0, PV.int IntKind.u16 0, PV.int IntKind.u16 0, PV.int IntKind.u16 0, PV.int IntKind.u16 65535, PV.int IntKind.u16 (gs.getD 6 0 : Nat), PV.int IntKind.u16 (gs.getD 7 0 : Nat)]) ↔ mapd gs = true := by
  rw [show [PV.int IntKind.u16 0, PV.int IntKind.u16 0, PV.int IntKind.u16 0, PV.int IntKind.u16 0, PV.int IntKind.u16 0, PV.int IntKind.u16 65535, PV.int IntKind.u16 (gs.getD 6 0 : Nat), PV.int IntKind.u16 (gs.getD 7 0 : Nat)] = u16s [0, 0, 0, 0, 0, 65535, gs.getD 6 0, gs.getD 7 0] from rfl, u16s_inj]
  obtain ⟨a, b, c, d, e, f, g, h, rfl⟩ := len8 hl
  simp [mapd]

theorem mem_get {gs : List Nat} (hle : ∀ g ∈ gs, g ≤ 65535) (k : Nat) : gs.getD k 0 ≤ 65535 := by
  rw [List.getD_eq_getElem?_getD]
  rcases Nat.lt_or_ge k gs.length with h | h
  · rw [List.getElem?_eq_getElem h]; exact hle _ (List.getElem_mem h)
  · rw [List.getElem?_eq_none h]; exact Nat.zero_le _

theorem rowF_len (gs : List Nat) (hle : ∀ g ∈ gs, g ≤ 65535) : (rowF gs).length ≤ gs.length * 5 := by
  have := joinL_len [58] 4 (gs.map hexF) (fun p hp => by
    obtain ⟨n, hn, rfl⟩ := List.mem_map.mp hp
    exact hexF_len _ (hle n hn))
  simpa [rowF] using this

theorem c_six_Print (gs : List Nat) (hl : gs.length = 8) (hle : ∀ g ∈ gs, g ≤ 65535) : GCall 48 [.agg (u16s gs)] (.str (bs (print6 gs))) := by
  intro H hG
  have g6 := u16s_get (ns := gs) (k := 6) (by omega)
  have g7 := u16s_get (ns := gs) (k := 7) (by omega)
  refine scall_of (ord := fun _ => []) (rs := [2]) Tryz.func48 rfl (by kernel_rfl) (by kernel_rfl) (by kernel_rfl) Tryz.ntmps48 fun hb hargs => go 200 (fun _ => false) mixed ?_
  have t8 : List.take 8 (u16s gs) = u16s gs := List.take_of_length_le (by rw [u16s_len]; omega)
  simp (disch := omega) only [↓reduceIte, go_sem, hl, t8] <;> repeat with_reducible refine And.intro (by first | omega | decide) ?_
  refine (c_six_Run gs hl).on (go 200 (fun _ => false) mixed ?_)
  have hr8 := run_in _ (zeros_len.trans hl)
  unfold print6
  have tg := u16s_tag hl
  have hmi := mapd_iff hl
  have l6 := mem_get hle 6
  have l7 := mem_get hle 7
  generalize gs.getD 6 0 = x6 at *
  generalize gs.getD 7 0 = x7 at *
  obtain ⟨r, hr⟩ : ∃ r, r = runF (zeros gs) := ⟨_, rfl⟩
  rw [← hr] at hr8 ⊢
  cases hm : mapd gs with
  | true =>
    rw [hm] at hmi
    simp (disch := omega) only [↓reduceIte, go_sem, hl, g6, g7, t8, tg, hmi] <;> repeat with_reducible refine And.intro (by first | omega | decide) ?_
    refine (c_four_Print (x6 * 65536 + x7) (by omega)).on hG.app (go 200 (fun _ => false) mixed ?_)
    have := printF_len (x6 * 65536 + x7) (by omega)
    simp (disch := omega) only [↓reduceIte, go_sem, List.length_cons, List.length_nil] <;> repeat with_reducible refine And.intro (by first | omega | decide) ?_
    exact fin_drop (.inr rfl) hb (by simp [retV]) (by simp)
  | false =>
    rw [hm] at hmi
    simp only [Bool.false_eq_true, if_false]
    by_cases h0 : r.2 = 0
    · rw [if_pos h0]
      simp (disch := omega) only [↓reduceIte, go_sem, hl, g6, g7, t8, tg, hmi, h0] <;> repeat with_reducible refine And.intro (by first | omega | decide) ?_
      have hx := c_six_hex (H := H ++ [some (.cells 0 (u16s gs))]) hG.app (grp_all hl hle)
      rw [hl] at hx
      refine hx.mono ?_
      rintro r' H' ⟨rfl, rfl⟩
      refine go 200 (fun _ => false) mixed ?_
      simp (disch := omega) only [↓reduceIte, go_sem] <;> repeat with_reducible refine And.intro (by first | omega | decide) ?_
      exact fin_drop (.inr rfl) hb rfl (by simp)
    · rw [if_neg h0]
      have hx := c_six_hex (H := H ++ [some (.cells 0 (u16s gs))]) hG.app (grp_take hl hle r.1)
      rw [List.length_take, hl, Nat.min_eq_left (by omega)] at hx
      have hy := c_six_hex (H := H ++ [some (.cells 0 (u16s gs))]) hG.app (grp_drop hl hle (r.1 + r.2) hr8)
      rw [List.length_drop, hl] at hy
      have l1 := rowF_len (gs.take r.1) (fun g hg => hle g (List.mem_of_mem_take hg))
      have l2 := rowF_len (gs.drop (r.1 + r.2)) (fun g hg => hle g (List.mem_of_mem_drop hg))
      rw [List.length_take, hl] at l1
      rw [List.length_drop, hl] at l2
      simp (disch := omega) only [↓reduceIte, go_sem, hl, g6, g7, t8, tg, hmi, h0, Nat.sub_zero] <;> repeat with_reducible refine And.intro (by first | omega | decide) ?_
      refine ⟨_, hx, go 200 (fun _ => false) mixed ?_⟩
      simp (disch := omega) only [↓reduceIte, go_sem, List.length_append, List.length_cons, List.length_nil] <;> repeat with_reducible refine And.intro (by first | omega | decide) ?_
      refine ⟨_, hy, go 200 (fun _ => false) mixed ?_⟩
      simp (disch := omega) only [↓reduceIte, go_sem, List.length_append, List.length_cons, List.length_nil] <;> repeat with_reducible refine And.intro (by first | omega | decide) ?_
      exact fin_drop (.inr rfl) hb rfl (by simp)
end Go.Proofs.GoC
