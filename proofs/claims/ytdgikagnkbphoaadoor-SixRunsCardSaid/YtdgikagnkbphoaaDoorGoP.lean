/-
  What the functions compute: addresses of 32 bits, their bytes and texts. No claim by itself.
-/
import Derived.Test.YtdgikagnkbphoaaDoorGoStd
import Derived.Test.YtdgikagnkbphoaaDoorSlUnroll
namespace Go.Proofs.GoC
open Go Go.Proofs.SL
set_option linter.unusedSimpArgs false
set_option linter.unusedVariables false
set_option maxRecDepth 10000
set_option maxHeartbeats 1000000

theorem or_addk {k : IntKind} {a b s : Nat} (hb : b < 2 ^ s) (hs : k.signed = false) (h : a * 2 ^ s + b < 2 ^ k.bits) : bitOp .or k ((a * 2 ^ s : Nat) : Int) (b : Int) = ((a * 2 ^ s + b : Nat) : Int) := by
  unfold bitOp
  simp only
  have e : (BitVec.ofInt k.bits ((a * 2 ^ s : Nat) : Int) ||| BitVec.ofInt k.bits (b : Int)).toNat = a * 2 ^ s + b := by
    rw [BitVec.toNat_or, BitVec.ofInt_natCast, BitVec.ofInt_natCast, BitVec.toNat_ofNat, BitVec.toNat_ofNat, Nat.mod_eq_of_lt (by omega), Nat.mod_eq_of_lt (by omega), Nat.mul_comm a, Nat.two_pow_add_eq_or_of_lt hb]
  rw [e]
  generalize a * 2 ^ s + b = n at *
  cases k <;> simp [IntKind.signed] at hs
  · have h : n < 256 := h; exact nw_u8 (by omega) (by omega)
  · have h : n < 65536 := h; exact nw_u16 (by omega) (by omega)
  · have h : n < 4294967296 := h; exact nw_u32 (by omega) (by omega)
  · have h : n < 18446744073709551616 := h; exact nw_u64 (by omega) (by omega)

@[go_sem] theorem or_u32 {a b : Nat} (hb : b < 256) (h : a * 256 + b < 4294967296) : bitOp .or .u32 ((a * 256 : Nat) : Int) (b : Int) = ((a * 256 + b : Nat) : Int) := or_addk (k := .u32) (s := 8) hb rfl h
@[go_sem] theorem or_u32' {b : Nat} (hb : b < 256) : bitOp .or .u32 0 (b : Int) = (b : Int) := by
  have := or_addk (k := .u32) (a := 0) (s := 8) hb rfl (by show 0 * 2 ^ 8 + b < 2 ^ 32; omega)
  simpa using this

def of4 (a b c d : Nat) : Nat := ((a * 256 + b) * 256 + c) * 256 + d

theorem c_four_Of (a b c d : Nat) (ha : a ≤ 255) (hb' : b ≤ 255) (hc : c ≤ 255) (hd : d ≤ 255) : PCall Tryd.prog 58 [.agg [.int .u8 a, .int .u8 b, .int .u8 c, .int .u8 d]] (.int .u32 (of4 a b c d : Nat)) := by
  intro H
  refine scall_of (ord := fun _ => []) (rs := [2]) Tryd.func58 rfl (by kernel_rfl) (by kernel_rfl) (by kernel_rfl) Tryd.ntmps58 fun hb hargs => go 200 (fun _ => false) mixed ?_
  simp (disch := omega) only [↓reduceIte, go_sem] <;> repeat with_reducible refine And.intro (by first | omega | decide) ?_
  refine runs_rounds 5 (by rfl) (ru_go [false, false, false, true, false, false, true, true] (go 200 (fun _ => false) mixed ?_))
  simp (disch := omega) only [↓reduceIte, go_sem] <;> repeat with_reducible refine And.intro (by first | omega | decide) ?_
  refine ru_go [false, false, false, true, false, false, true, true] (go 200 (fun _ => false) mixed ?_)
  simp (disch := omega) only [↓reduceIte, go_sem] <;> repeat with_reducible refine And.intro (by first | omega | decide) ?_
  refine ru_go [false, false, false, true, false, false, true, true] (go 200 (fun _ => false) mixed ?_)
  simp (disch := omega) only [↓reduceIte, go_sem] <;> repeat with_reducible refine And.intro (by first | omega | decide) ?_
  refine ru_go [false, false, false, true, false, false, true, true] (go 200 (fun _ => false) mixed ?_)
  simp (disch := omega) only [↓reduceIte, go_sem] <;> repeat with_reducible refine And.intro (by first | omega | decide) ?_
  refine ru_go [false, false, false, true, false, false, true, true] (go 200 (fun _ => false) mixed ?_)
  simp (disch := omega) only [↓reduceIte, go_sem] <;> repeat with_reducible refine And.intro (by first | omega | decide) ?_
  refine go 200 (fun _ => false) mixed ?_
  simp (disch := omega) only [↓reduceIte, go_sem] <;> repeat with_reducible refine And.intro (by first | omega | decide) ?_
  exact fin_drop (.inr rfl) hb rfl (by simp)
/-- An address's bytes. -/
def by3 (n : Nat) : Nat := n / 16777216
def by2 (n : Nat) : Nat := n / 65536 % 256
def by1 (n : Nat) : Nat := n / 256 % 256
def by0 (n : Nat) : Nat := n % 256
def bytesV (n : Nat) : PV := .agg [.int .u8 (by3 n : Nat), .int .u8 (by2 n : Nat), .int .u8 (by1 n : Nat), .int .u8 (by0 n : Nat)]

theorem by_in (n : Nat) (h : n ≤ 4294967295) : by3 n ≤ 255 ∧ by2 n ≤ 255 ∧ by1 n ≤ 255 ∧ by0 n ≤ 255 := by
  unfold by3 by2 by1 by0; omega
theorem by_of (n : Nat) (h : n ≤ 4294967295) : of4 (by3 n) (by2 n) (by1 n) (by0 n) = n := by
  unfold of4 by3 by2 by1 by0; omega
theorem of_by (a b c d : Nat) (ha : a ≤ 255) (hb : b ≤ 255) (hc : c ≤ 255) (hd : d ≤ 255) : by3 (of4 a b c d) = a ∧ by2 (of4 a b c d) = b ∧ by1 (of4 a b c d) = c ∧ by0 (of4 a b c d) = d := by
  unfold of4 by3 by2 by1 by0; omega

theorem c_four_Bytes (n : Nat) (h : n ≤ 4294967295) : PCall Tryd.prog 38 [.int .u32 n] (bytesV n) := by
  intro H
  have u3 : IntKind.u8.wrap ((n / 16777216 : Nat) : Int) = ((by3 n : Nat) : Int) := nw_u8 (by omega) (by omega)
  have u2 : IntKind.u8.wrap ((n / 65536 : Nat) : Int) = ((by2 n : Nat) : Int) := mw_u8
  have u1 : IntKind.u8.wrap ((n / 256 : Nat) : Int) = ((by1 n : Nat) : Int) := mw_u8
  have u0 : IntKind.u8.wrap ((n : Nat) : Int) = ((by0 n : Nat) : Int) := mw_u8
  have f0 : (n : Int).fdiv 1 = n := by rw [Int.fdiv_eq_ediv_of_nonneg _ (by omega)]; omega
  refine scall_ofc (ord := fun _ => []) (tdOf_ok _) (rs := [.cell 2 61]) Tryd.func38 rfl (by kernel_rfl) (by kernel_rfl) (by kernel_rfl) Tryd.ntmps38 fun hb hargs => go 200 (fun _ => false) mixed ?_
  simp (disch := omega) only [↓reduceIte, go_sem] <;> repeat with_reducible refine And.intro (by first | omega | decide) ?_
  refine runs_rounds 5 (by rfl) (ru_go [true, false, true, true, false, true] (go 200 (fun _ => false) mixed ?_))
  simp (disch := omega) only [↓reduceIte, go_sem, u3] <;> repeat with_reducible refine And.intro (by first | omega | decide) ?_
  refine ru_go [true, false, true, true, false, true] (go 200 (fun _ => false) mixed ?_)
  simp (disch := omega) only [↓reduceIte, go_sem, u2] <;> repeat with_reducible refine And.intro (by first | omega | decide) ?_
  refine ru_go [true, false, true, true, false, true] (go 200 (fun _ => false) mixed ?_)
  simp (disch := omega) only [↓reduceIte, go_sem, u1] <;> repeat with_reducible refine And.intro (by first | omega | decide) ?_
  refine ru_go [true, false, true, true, false, true] (go 200 (fun _ => false) mixed ?_)
  simp (disch := omega) only [↓reduceIte, go_sem, u0, f0] <;> repeat with_reducible refine And.intro (by first | omega | decide) ?_
  refine ru_go [true, false, true, true, false, true] (go 200 (fun _ => false) mixed ?_)
  simp (disch := omega) only [↓reduceIte, go_sem] <;> repeat with_reducible refine And.intro (by first | omega | decide) ?_
  refine go 200 (fun _ => false) mixed ?_
  simp (disch := omega) only [↓reduceIte, go_sem] <;> repeat with_reducible refine And.intro (by first | omega | decide) ?_
  refine fin_c (.inr rfl) hb ?_ (by simp [bytesV])
  simp (disch := omega) only [↓reduceIte, go_sem] <;> repeat with_reducible refine And.intro (by first | omega | decide) ?_
  trivial

def dot4 (a b c d : Nat) : List UInt8 := decF a ++ [46] ++ decF b ++ [46] ++ decF c ++ [46] ++ decF d
def printF (n : Nat) : List UInt8 := dot4 (by3 n) (by2 n) (by1 n) (by0 n)

theorem join4 (a b c d : List UInt8) : joinL [46] [a, b, c, d] = a ++ [46] ++ b ++ [46] ++ c ++ [46] ++ d := by
  simp [joinL, List.intercalate, List.intersperse]

theorem dec3 (n : Nat) (h : n ≤ 255) : (decF n).length ≤ 3 := decF_len n 2 (by omega)

theorem dot4_len (a b c d : Nat) (ha : a ≤ 255) (hb : b ≤ 255) (hc : c ≤ 255) (hd : d ≤ 255) : (dot4 a b c d).length ≤ 15 := by
  have := dec3 a ha; have := dec3 b hb; have := dec3 c hc; have := dec3 d hd
  simp only [dot4, List.length_append, List.length_cons, List.length_nil]; omega
theorem printF_len (n : Nat) (h : n ≤ 4294967295) : (printF n).length ≤ 15 := by
  obtain ⟨h3, h2, h1, h0⟩ := by_in n h
  exact dot4_len _ _ _ _ h3 h2 h1 h0

theorem c_four_Print (n : Nat) (h : n ≤ 4294967295) : GCall 27 [.int .u32 n] (.str (bs (printF n))) := by
  intro H hG
  obtain ⟨h3, h2, h1, h0⟩ := by_in n h
  refine scall_of (ord := fun _ => []) (rs := [2]) Tryd.func27 rfl (by kernel_rfl) (by kernel_rfl) (by kernel_rfl) Tryd.ntmps27 fun hb hargs => go 200 (fun _ => false) mixed ?_
  simp (disch := omega) only [↓reduceIte, go_sem] <;> repeat with_reducible refine And.intro (by first | omega | decide) ?_
  refine (c_four_Bytes n h).on (go 200 (fun _ => false) mixed ?_)
  unfold bytesV
  simp (disch := omega) only [↓reduceIte, go_sem] <;> repeat with_reducible refine And.intro (by first | omega | decide) ?_
  refine Runs.ghost (by rfl) (Ghost.grow (t := 3) (m := 1) rfl) ?_
  refine runs_rounds 5 (by rfl) (ru_go [true, false, false, true, false, false, false, true, true] (go 200 (fun _ => false) mixed ?_))
  simp (disch := omega) only [↓reduceIte, go_sem] <;> repeat with_reducible refine And.intro (by first | omega | decide) ?_
  refine (c_text_Decimal (by3 n) (by omega)).on hG.app (go 200 (fun t => t == 16) mixed ?_)
  simp (disch := omega) only [↓reduceIte, go_sem] <;> repeat with_reducible refine And.intro (by first | omega | decide) ?_
  refine ru_go [true, false, false, true, false, false, false, true, true] (go 200 (fun _ => false) mixed ?_)
  simp (disch := omega) only [↓reduceIte, go_sem] <;> repeat with_reducible refine And.intro (by first | omega | decide) ?_
  refine (c_text_Decimal (by2 n) (by omega)).on hG.app (go 200 (fun t => t == 16) mixed ?_)
  simp (disch := omega) only [↓reduceIte, go_sem] <;> repeat with_reducible refine And.intro (by first | omega | decide) ?_
  refine ru_go [true, false, false, true, false, false, false, true, true] (go 200 (fun _ => false) mixed ?_)
  simp (disch := omega) only [↓reduceIte, go_sem] <;> repeat with_reducible refine And.intro (by first | omega | decide) ?_
  refine (c_text_Decimal (by1 n) (by omega)).on hG.app (go 200 (fun t => t == 16) mixed ?_)
  simp (disch := omega) only [↓reduceIte, go_sem] <;> repeat with_reducible refine And.intro (by first | omega | decide) ?_
  refine ru_go [true, false, false, true, false, false, false, true, true] (go 200 (fun _ => false) mixed ?_)
  simp (disch := omega) only [↓reduceIte, go_sem] <;> repeat with_reducible refine And.intro (by first | omega | decide) ?_
  refine (c_text_Decimal (by0 n) (by omega)).on hG.app (go 200 (fun t => t == 16) mixed ?_)
  simp (disch := omega) only [↓reduceIte, go_sem] <;> repeat with_reducible refine And.intro (by first | omega | decide) ?_
  refine ru_go [true, false, false, true, false, false, false, true, true] (go 200 (fun _ => false) mixed ?_)
  simp (disch := omega) only [↓reduceIte, go_sem] <;> repeat with_reducible refine And.intro (by first | omega | decide) ?_
  refine go 200 (fun _ => false) mixed ?_
  simp (disch := omega) only [↓reduceIte, go_sem] <;> repeat with_reducible refine And.intro (by first | omega | decide) ?_
  have hl := printF_len n h
  have e : joinL [46] [decF (by3 n), decF (by2 n), decF (by1 n), decF (by0 n)] = printF n := join4 _ _ _ _
  refine (c_strings_Join [decF (by3 n), decF (by2 n), decF (by1 n), decF (by0 n)] [46] _ (.inr (.inr ⟨H.length, _, true, rfl, by rw [get_tail0]; rfl⟩)) (by simp) (by rw [e]; omega)).mono ?_
  rintro r' H' ⟨rfl, rfl⟩
  rw [e]
  refine go 200 (fun _ => false) mixed ?_
  simp (disch := omega) only [↓reduceIte, go_sem] <;> repeat with_reducible refine And.intro (by first | omega | decide) ?_
  exact fin_drop (.inr rfl) hb rfl (by simp)

theorem c_abatisref02_Print (n : Nat) (h : n ≤ 4294967295) : PCall Tryd.prog 30 [.int .u32 n] (.str (bs (printF n))) := by
  intro H
  obtain ⟨h3, h2, h1, h0⟩ := by_in n h
  have l3 := dec3 _ h3
  have l2 := dec3 _ h2
  have l1 := dec3 _ h1
  have l0 := dec3 _ h0
  have m0 : n % 256 = by0 n := rfl
  have m1 : n / 256 % 256 = by1 n := rfl
  have m2 : n / 256 / 256 % 256 = by2 n := by unfold by2; omega
  have m3 : n / 256 / 256 / 256 % 256 = by3 n := by unfold by3; omega
  refine scall_of (ord := fun _ => []) (rs := [2]) Tryd.func30 rfl (by kernel_rfl) (by kernel_rfl) (by kernel_rfl) Tryd.ntmps30 fun hb hargs => go 200 (fun _ => false) mixed ?_
  simp (disch := omega) only [↓reduceIte, go_sem] <;> repeat with_reducible refine And.intro (by first | omega | decide) ?_
  refine runs_rounds 5 (by rfl) (ru_go [true, false, false, true, true] (go 200 (fun _ => false) mixed ?_))
  simp (disch := omega) only [↓reduceIte, go_sem, m0] <;> repeat with_reducible refine And.intro (by first | omega | decide) ?_
  refine (c_abatisref01_Decimal (by0 n) (by omega)).on (go 200 (fun _ => false) mixed ?_)
  simp (disch := omega) only [↓reduceIte, go_sem] <;> repeat with_reducible refine And.intro (by first | omega | decide) ?_
  refine ru_go [true, false, false, true, true] (go 200 (fun _ => false) mixed ?_)
  simp (disch := omega) only [↓reduceIte, go_sem, m1, List.length_append] <;> repeat with_reducible refine And.intro (by first | omega | decide) ?_
  refine (c_abatisref01_Decimal (by1 n) (by omega)).on (go 200 (fun _ => false) mixed ?_)
  simp (disch := omega) only [↓reduceIte, go_sem, List.length_append] <;> repeat with_reducible refine And.intro (by first | omega | decide) ?_
  refine ru_go [true, false, false, true, true] (go 200 (fun _ => false) mixed ?_)
  simp (disch := omega) only [↓reduceIte, go_sem, m2, List.length_append] <;> repeat with_reducible refine And.intro (by first | omega | decide) ?_
  refine (c_abatisref01_Decimal (by2 n) (by omega)).on (go 200 (fun _ => false) mixed ?_)
  simp (disch := omega) only [↓reduceIte, go_sem, List.length_append] <;> repeat with_reducible refine And.intro (by first | omega | decide) ?_
  refine ru_go [true, false, false, true, true] (go 200 (fun _ => false) mixed ?_)
  simp (disch := omega) only [↓reduceIte, go_sem, m3, List.length_append] <;> repeat with_reducible refine And.intro (by first | omega | decide) ?_
  refine (c_abatisref01_Decimal (by3 n) (by omega)).on (go 200 (fun _ => false) mixed ?_)
  simp (disch := omega) only [↓reduceIte, go_sem, List.length_append] <;> repeat with_reducible refine And.intro (by first | omega | decide) ?_
  refine ru_go [true, false, false, true, true] (go 200 (fun _ => false) mixed ?_)
  simp (disch := omega) only [↓reduceIte, go_sem] <;> repeat with_reducible refine And.intro (by first | omega | decide) ?_
  refine go 200 (fun _ => false) mixed ?_
  simp (disch := omega) only [↓reduceIte, go_sem] <;> repeat with_reducible refine And.intro (by first | omega | decide) ?_
  exact fin (by simp [retV, printF, dot4]) rfl
end Go.Proofs.GoC
