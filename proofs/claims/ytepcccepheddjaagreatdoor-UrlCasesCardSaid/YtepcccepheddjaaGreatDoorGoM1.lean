/-
  What the functions compute, part one. No claim by itself.
-/
import Derived.Test.YtepcccepheddjaaGreatDoorTab
import Derived.Test.YtepcccepheddjaaGreatDoorSlM4
namespace Go.Proofs.GoC
open Go Go.Proofs.SL
set_option linter.unusedSimpArgs false
set_option linter.unusedVariables false
set_option maxRecDepth 10000

theorem mixed : Tryz.prog.follows .mixedOrders = true := by kernel_rfl

/-- A digit's number; -1: it is none. -/
def digitV (b : Int) : Int :=
  if 48 ≤ b ∧ b ≤ 57 then b - 48 else if 97 ≤ b ∧ b ≤ 102 then b - 87 else if 65 ≤ b ∧ b ≤ 70 then b - 55 else -1

theorem c_abatisref01_digit (b : Int) (h : 0 ≤ b ∧ b < 256) : PCall Tryz.prog 55 [.int .u8 b] (.int .i64 (digitV b)) := by
  intro H
  refine scall_of (ord := fun _ => []) (rs := [2]) Tryz.func55 rfl (by kernel_rfl) (by kernel_rfl) (by kernel_rfl) Tryz.ntmps55 fun hb _ => go 100 (fun _ => false) mixed ?_
  simp only [↓reduceIte, go_sem]
  repeat' (first | intro _ | with_reducible apply And.intro)
  all_goals (refine fin ?_ rfl; simp only [↓reduceIte, go_sem, PV.int.injEq, true_and, digitV, IntKind.wrap_i64]; repeat' split) <;> omega

/-- The number of digits from here on, n before; none: there is none. -/
def numF (base : Int) : List UInt8 → Int → Option Int
  | [], n => some n
  | b :: l, n => if digitV b.toNat < 0 ∨ base ≤ digitV b.toNat then none else if 1099511627776 < n * base + digitV b.toNat then none else numF base l (n * base + digitV b.toNat)

def numV (base : Int) (l : List UInt8) : PV :=
  match numF base l 0 with
  | some n => .tup [.int .i64 n, .bool (decide (0 < l.length))]
  | none => .tup [.int .i64 0, .bool false]

theorem digitV_le (b : Int) : -1 ≤ digitV b ∧ digitV b ≤ 15 := by unfold digitV; (repeat' split) <;> omega

theorem c_abatisref01_Number (l : List UInt8) (base : Int) (h1 : 0 ≤ base) (h2 : base ≤ 16) (hl : l.length < 1000000) : PCall Tryz.prog 32 [.str (bs l), .int .i64 base] (numV base l) := by
  intro H
  refine scall_of (ord := fun _ => []) (rs := [4, 5]) Tryz.func32 rfl (by kernel_rfl) (by kernel_rfl) (by kernel_rfl) Tryz.ntmps32 fun hb _ => go 100 (fun _ => false) mixed ?_
  simp only [↓reduceIte, go_sem]
  refine runs_loopA (fun x : Nat × Int => x.1 ≤ l.length ∧ 0 ≤ x.2 ∧ x.2 ≤ 1099511627776 ∧ numF base (l.drop x.1) x.2 = numF base l 0) (fun x => l.length - x.1) [true, true, false, false, true, true, true, true]
    (fun x => slots 37 [.str (bs l), .int .i64 base, .any, .any, .int .i64 0, .bool false, .int .i64 x.2, .int .i64 x.1]) (fun _ => H) (by rfl) (0, 0) ⟨Nat.zero_le _, by omega, by omega, rfl⟩ rfl rfl ?_
  rintro ⟨k, n⟩ ⟨hk, hn0, hn1, hnum⟩
  refine go 100 (fun _ => false) mixed ?_
  simp only [↓reduceIte, go_sem]
  have hk : k ≤ l.length := hk
  have hn0 : 0 ≤ n := hn0
  have hn1 : n ≤ 1099511627776 := hn1
  have hnum : numF base (l.drop k) n = numF base l 0 := hnum
  obtain ⟨R, hR⟩ : ∃ R, R = numF base l 0 := ⟨_, rfl⟩
  rw [← hR] at hnum
  refine ⟨fun hlt => ?_, fun hge => ?_⟩
  · have hkl : k < l.length := by omega
    refine ⟨hlt, (c_abatisref01_digit _ (byte_in _)).on (go 100 (fun _ => false) mixed ?_)⟩
    have hd := digitV_le (l.getD k 0).toNat
    rw [List.drop_eq_getElem_cons hkl] at hnum
    have hgk : l[k] = l.getD k 0 := by simp [List.getD_eq_getElem?_getD, hkl]
    rw [hgk] at hnum
    generalize (l.getD k 0) = b at *
    unfold numF at hnum
    generalize digitV b.toNat = v at *
    have hm0 : 0 ≤ n * base := Int.mul_nonneg hn0 h1
    have hm1 : n * base ≤ 1099511627776 * 16 := Int.mul_le_mul hn1 h2 h1 (by omega)
    have e1 : IntKind.i64.wrap (n * base) = n * base := w64 (by omega) (by omega)
    have e2 : IntKind.i64.wrap (n * base + v) = n * base + v := w64 (by omega) (by omega)
    have e3 : IntKind.i64.wrap ((k : Int) + 1) = ((k + 1 : Nat) : Int) := by rw [w64 (by omega) (by omega)]; omega
    simp only [↓reduceIte, go_sem, e1, e2, e3]
    refine ⟨fun h => ⟨fun h' => ?_, fun h' => ⟨fun h'' => ?_, fun h'' => ?_⟩⟩, fun h => ?_⟩
    · refine fin ?_ rfl
      rw [if_pos (Or.inr h')] at hnum
      simp only [↓reduceIte, go_sem, numV, ← hR, ← hnum]
    · refine fin ?_ rfl
      rw [if_neg (by omega), if_pos h''] at hnum
      simp only [↓reduceIte, go_sem, numV, ← hR, ← hnum]
    · rw [if_neg (by omega), if_neg h''] at hnum
      exact rnd_next (k + 1, n * base + v) ⟨by omega, by omega, by omega, hnum.trans hR⟩ (by simp only; omega) rfl rfl
    · refine fin ?_ rfl
      rw [if_pos (Or.inl (by omega))] at hnum
      simp only [↓reduceIte, go_sem, numV, ← hR, ← hnum]
  · have hkl : l.length ≤ k := by omega
    rw [List.drop_eq_nil_of_le hkl] at hnum
    unfold numF at hnum
    refine go 100 (fun _ => false) mixed ?_
    simp only [↓reduceIte, go_sem]
    refine fin ?_ rfl
    simp only [↓reduceIte, go_sem, numV, ← hR, ← hnum]
    have : decide ((0 : Int) < (l.length : Int)) = decide (0 < l.length) := by rw [decide_eq_decide]; omega
    rw [this]
end Go.Proofs.GoC


/-
  What the functions compute, part two. No claim by itself.
-/
namespace Go.Proofs.GoC
open Go Go.Proofs.SL
set_option linter.unusedSimpArgs false
set_option linter.unusedVariables false
set_option maxRecDepth 10000

theorem c_internal_stringslite_HasPrefix (a p : List UInt8) (ha : a.length < 1000000) (hp : p.length < 1000000) : PCall Tryz.prog 62 [.str (bs a), .str (bs p)] (.bool (decide (a.take p.length = p))) := by
  intro H
  refine scall_of (ord := fun _ => []) (rs := [4]) Tryz.func62 rfl (by kernel_rfl) (by kernel_rfl) (by kernel_rfl) Tryz.ntmps62 fun hb _ => go 100 (fun _ => false) mixed ?_
  simp only [↓reduceIte, go_sem]
  refine ⟨fun h => ⟨h, fin rfl rfl⟩, fun h => fin ?_ rfl⟩
  have : ¬ a.take p.length = p := fun e => h (by have := congrArg List.length e; simp at this; omega)
  simp only [↓reduceIte, go_sem, this]

theorem c_internal_stringslite_CutPrefix (a p : List UInt8) (ha : a.length < 1000000) (hp : p.length < 1000000) : PCall Tryz.prog 71 [.str (bs a), .str (bs p)] (if a.take p.length = p then .tup [.str (bs (a.drop p.length)), .bool true] else .tup [.str (bs a), .bool false]) := by
  intro H
  refine scall_of (ord := fun _ => []) (rs := [4, 5]) Tryz.func71 rfl (by kernel_rfl) (by kernel_rfl) (by kernel_rfl) Tryz.ntmps71 fun hb _ => go 100 (fun _ => false) mixed ?_
  simp only [↓reduceIte, go_sem]
  refine (c_internal_stringslite_HasPrefix a p ha hp).on (go 100 (fun _ => false) mixed ?_)
  simp only [↓reduceIte, go_sem]
  refine ⟨fun h => fin ?_ rfl, fun h => ⟨?_, fin ?_ rfl⟩⟩
  · simp only [↓reduceIte, go_sem, h]
  · have := congrArg List.length h
    simp at this
    omega
  · simp only [↓reduceIte, go_sem, h, List.take_length]

theorem c_strings_CutPrefix (a p : List UInt8) (ha : a.length < 1000000) (hp : p.length < 1000000) : PCall Tryz.prog 45 [.str (bs a), .str (bs p)] (if a.take p.length = p then .tup [.str (bs (a.drop p.length)), .bool true] else .tup [.str (bs a), .bool false]) := by
  intro H
  refine scall_of (ord := fun _ => []) (rs := [4, 5]) Tryz.func45 rfl (by kernel_rfl) (by kernel_rfl) (by kernel_rfl) Tryz.ntmps45 fun hb _ => go 100 (fun _ => false) mixed ?_
  simp only [↓reduceIte, go_sem]
  refine (c_internal_stringslite_CutPrefix a p ha hp).on (go 100 (fun _ => false) mixed ?_)
  by_cases h : a.take p.length = p
  · rw [if_pos h]
    simp only [↓reduceIte, go_sem]
    exact fin rfl rfl
  · rw [if_neg h]
    simp only [↓reduceIte, go_sem]
    exact fin rfl rfl

theorem c_text_digit (b : Int) : PCall Tryz.prog 100 [.int .i32 b] (.bool (decide (48 ≤ b ∧ b ≤ 57))) := by
  intro H
  refine scall_of (ord := fun _ => []) (rs := [2]) Tryz.func100 rfl (by kernel_rfl) (by kernel_rfl) (by kernel_rfl) Tryz.ntmps100 fun hb _ => go 100 (fun _ => false) mixed ?_
  simp only [↓reduceIte, go_sem]
  refine ⟨fun h => fin ?_ rfl, fun h => fin ?_ rfl⟩ <;> simp only [↓reduceIte, go_sem, h]

theorem c_text_value (c : Int) (h : 0 ≤ c ∧ c ≤ 2147483647) : PCall Tryz.prog 70 [.int .i32 c] (.int .i64 (digitV c)) := by
  intro H
  refine scall_of (ord := fun _ => []) (rs := [2]) Tryz.func70 rfl (by kernel_rfl) (by kernel_rfl) (by kernel_rfl) Tryz.ntmps70 fun hb _ => go 100 (fun _ => false) mixed ?_
  simp only [↓reduceIte, go_sem]
  refine (c_text_digit c).on (go 100 (fun _ => false) mixed ?_)
  simp only [↓reduceIte, go_sem]
  repeat' (first | intro _ | with_reducible apply And.intro)
  all_goals (refine fin ?_ rfl; simp only [↓reduceIte, go_sem, PV.int.injEq, true_and, digitV, IntKind.wrap_i64, IntKind.wrap_i32]; repeat' split) <;> omega

theorem c_text_Number (l : List UInt8) (base : Int) (h1 : 0 ≤ base) (h2 : base ≤ 16) (hl : l.length < 1000000) : PCall Tryz.prog 44 [.str (bs l), .int .i64 base] (numV base l) := by
  intro H
  refine scall_of (ord := fun _ => []) (rs := [4, 5]) Tryz.func44 rfl (by kernel_rfl) (by kernel_rfl) (by kernel_rfl) Tryz.ntmps44 fun hb _ => go 100 (fun _ => false) mixed ?_
  simp only [↓reduceIte, go_sem]
  obtain ⟨R, hR⟩ : ∃ R, R = numF base l 0 := ⟨_, rfl⟩
  refine runs_loopA (fun x : Nat × Int => x.1 ≤ l.length ∧ 0 ≤ x.2 ∧ x.2 ≤ 1099511627776 ∧ numF base (l.drop x.1) x.2 = R) (fun x => l.length - x.1) [true, true, false, false, true, true, true, false, false, false, false, true]
    (fun x => slots 34 [.str (bs l), .int .i64 base, .any, .any, .int .i64 0, .bool false, .int .i64 x.2, .any, .any, .any, .any, .ptr H.length 0 0]) (fun x => H ++ [some (.striter (bs l) x.1)]) (by rfl) (0, 0) ⟨Nat.zero_le _, by omega, by omega, hR.symm⟩ rfl rfl ?_
  rintro ⟨k, n⟩ ⟨hk, hn0, hn1, hnum⟩
  have hk : k ≤ l.length := hk
  have hn0 : 0 ≤ n := hn0
  have hn1 : n ≤ 1099511627776 := hn1
  have hnum : numF base (l.drop k) n = R := hnum
  refine go 100 (fun _ => false) mixed ?_
  simp only [↓reduceIte, go_sem]
  refine ⟨fun hlt => ?_, fun hge => ?_⟩
  · have hle := dec_le l k
    refine (c_text_value _ ⟨by omega, by omega⟩).on (go 100 (fun _ => false) mixed ?_)
    rw [List.drop_eq_getElem_cons hlt] at hnum
    have hgk : l[k] = l.getD k 0 := (getD_of hlt).symm
    rw [hgk] at hnum
    unfold numF at hnum
    have key : digitV (Utf8.decode (bs l) k).1 = digitV (l.getD k 0).toNat ∧ (0 ≤ digitV (l.getD k 0).toNat → (Utf8.decode (bs l) k).2 = 1) := by
      by_cases hlow : (l.getD k 0).toNat < 128
      · rw [dec_low hlt hlow]; exact ⟨rfl, fun _ => rfl⟩
      · have h1 := (dec_high hlt (by omega)).1
        have : ∀ c : Int, 128 ≤ c → digitV c = -1 := fun c hc => by unfold digitV; (repeat' split) <;> omega
        rw [this _ (by omega), this _ (by omega)]
        exact ⟨rfl, fun h => by omega⟩
    obtain ⟨k1, k2⟩ := key
    rw [k1]
    have hd := digitV_le (l.getD k 0).toNat
    generalize (l.getD k 0) = b at *
    generalize digitV b.toNat = v at *
    have hm0 : 0 ≤ n * base := Int.mul_nonneg hn0 h1
    have hm1 : n * base ≤ 1099511627776 * 16 := Int.mul_le_mul hn1 h2 h1 (by omega)
    have e1 : IntKind.i64.wrap (n * base) = n * base := w64 (by omega) (by omega)
    have e2 : IntKind.i64.wrap (n * base + v) = n * base + v := w64 (by omega) (by omega)
    simp only [↓reduceIte, go_sem, e1, e2]
    refine ⟨fun h => ⟨fun h' => ?_, fun h' => ⟨fun h'' => ?_, fun h'' => ?_⟩⟩, fun h => ?_⟩
    · rw [if_pos (Or.inr h')] at hnum
      refine fin_drop (.inr rfl) hb ?_ ?_ <;> simp [go_sem, numV, ← hR, ← hnum]
    · rw [if_neg (by omega), if_pos h''] at hnum
      refine fin_drop (.inr rfl) hb ?_ ?_ <;> simp [go_sem, numV, ← hR, ← hnum]
    · rw [if_neg (by omega), if_neg h''] at hnum
      rw [k2 (by omega)]
      exact rnd_next (k + 1, n * base + v) ⟨by show k + 1 ≤ _; omega, by show 0 ≤ n * base + v; omega, by show n * base + v ≤ _; omega, hnum⟩ (by simp only; omega) rfl rfl
    · rw [if_pos (Or.inl (by omega))] at hnum
      refine fin_drop (.inr rfl) hb ?_ ?_ <;> simp [go_sem, numV, ← hR, ← hnum]
  · have hkl : l.length ≤ k := by omega
    rw [List.drop_eq_nil_of_le hkl] at hnum
    unfold numF at hnum
    refine go 100 (fun _ => false) mixed ?_
    simp only [↓reduceIte, go_sem]
    have : (!decide (l = [])) = decide (0 < l.length) := by cases l <;> simp
    refine fin_drop (.inr rfl) hb ?_ ?_ <;> simp [go_sem, numV, ← hR, ← hnum, this]
end Go.Proofs.GoC

/-
  What the functions compute, part three: a part's number. No claim by itself.
-/
namespace Go.Proofs.GoC
open Go Go.Proofs.SL
set_option linter.unusedSimpArgs false
set_option linter.unusedVariables false
set_option maxRecDepth 10000

/-- The number of digits, 2^32 at most; none: there is one that is none. -/
def digF (base : Int) : List UInt8 → Int → Option Int
  | [], n => some n
  | b :: l, n => if digitV b.toNat < 0 ∨ base ≤ digitV b.toNat then none else digF base l (if 4294967296 < n * base + digitV b.toNat then 4294967296 else n * base + digitV b.toNat)

theorem numV_one (base : Int) (b : UInt8) : numV base [b] = if digitV b.toNat < 0 ∨ base ≤ digitV b.toNat then .tup [.int .i64 0, .bool false] else .tup [.int .i64 (digitV b.toNat), .bool true] := by
  have hd := digitV_le b.toNat
  by_cases h : digitV b.toNat < 0 ∨ base ≤ digitV b.toNat
  · rw [if_pos h]; simp [numV, numF, h]
  · rw [if_neg h]
    have : ¬ 1099511627776 < digitV b.toNat := by omega
    simp [numV, numF, h, this]

/-- A number, or none. -/
def resV : Option Int → PV
  | some n => .tup [.int .i64 n, .bool true]
  | none => .tup [.int .i64 0, .bool false]

theorem c_four_digits (l : List UInt8) (base : Int) (h1 : 0 ≤ base) (h2 : base ≤ 16) (hl : l.length < 1000000) : PCall Tryz.prog 104 [.str (bs l), .int .i64 base] (resV (digF base l 0)) := by
  intro H
  refine scall_of (ord := fun _ => []) (rs := [4, 5]) Tryz.func104 rfl (by kernel_rfl) (by kernel_rfl) (by kernel_rfl) Tryz.ntmps104 fun hb _ => go 100 (fun _ => false) mixed ?_
  simp only [↓reduceIte, go_sem]
  obtain ⟨R, hR⟩ : ∃ R, R = digF base l 0 := ⟨_, rfl⟩
  rw [← hR]
  refine runs_loopA (fun x : Nat × Int => x.1 ≤ l.length ∧ 0 ≤ x.2 ∧ x.2 ≤ 4294967296 ∧ digF base (l.drop x.1) x.2 = R) (fun x => l.length - x.1) [true, true, false, false, false, false, true, false, false, false, false, true, true]
    (fun x => slots 35 [.str (bs l), .int .i64 base, .any, .any, .any, .any, .int .i64 x.2, .any, .any, .any, .any, .int .i64 l.length, .int .i64 x.1]) (fun _ => H) (by rfl) (0, 0) ⟨Nat.zero_le _, by omega, by omega, hR.symm⟩ rfl rfl ?_
  rintro ⟨k, n⟩ ⟨hk, hn0, hn1, hnum⟩
  have hk : k ≤ l.length := hk
  have hn0 : 0 ≤ n := hn0
  have hn1 : n ≤ 4294967296 := hn1
  have hnum : digF base (l.drop k) n = R := hnum
  have e3 : IntKind.i64.wrap ((k : Int) + 1) = ((k + 1 : Nat) : Int) := by rw [w64 (by omega) (by omega)]; omega
  refine go 100 (fun _ => false) mixed ?_
  simp only [↓reduceIte, go_sem, e3]
  refine ⟨fun hlt => ⟨by omega, ?_⟩, fun hge => ?_⟩
  · rw [one_at hlt]
    refine (c_text_Number [l.getD k 0] base h1 h2 (by simp)).on ?_
    rw [List.drop_eq_getElem_cons hlt, ← getD_of hlt] at hnum
    unfold digF at hnum
    rw [numV_one]
    have hd := digitV_le (l.getD k 0).toNat
    generalize (l.getD k 0) = b at *
    generalize digitV b.toNat = v at *
    have hm0 : 0 ≤ n * base := Int.mul_nonneg hn0 h1
    have hm1 : n * base ≤ 4294967296 * 16 := Int.mul_le_mul hn1 h2 h1 (by omega)
    have e1 : IntKind.i64.wrap (n * base) = n * base := w64 (by omega) (by omega)
    by_cases hv : v < 0 ∨ base ≤ v
    · rw [if_pos hv] at hnum ⊢
      refine go 100 (fun _ => false) mixed ?_
      simp only [↓reduceIte, go_sem]
      refine fin ?_ rfl
      simp only [↓reduceIte, go_sem, resV, ← hnum]
    · rw [if_neg hv] at hnum ⊢
      have e2 : IntKind.i64.wrap (n * base + v) = n * base + v := w64 (by omega) (by omega)
      refine go 100 (fun _ => false) mixed ?_
      simp only [↓reduceIte, go_sem, e1, e2, e3]
      exact rnd_next (k + 1, if 4294967296 < n * base + v then 4294967296 else n * base + v) ⟨by show k + 1 ≤ _; omega, by dsimp only; split <;> omega, by dsimp only; split <;> omega, hnum⟩ (by simp only; omega) rfl rfl
  · have hkl : l.length ≤ k := by omega
    rw [List.drop_eq_nil_of_le hkl] at hnum
    unfold digF at hnum
    refine go 100 (fun _ => false) mixed ?_
    simp only [↓reduceIte, go_sem]
    refine fin ?_ rfl
    simp only [↓reduceIte, go_sem, resV, ← hnum]

theorem c_abatisref02_digits (l : List UInt8) (base : Int) (h1 : 0 ≤ base) (h2 : base ≤ 16) (hl : l.length < 1000000) : PCall Tryz.prog 90 [.str (bs l), .int .i64 base] (.int .i64 ((digF base l 0).getD (-1))) := by
  intro H
  refine scall_of (ord := fun _ => []) (rs := [4]) Tryz.func90 rfl (by kernel_rfl) (by kernel_rfl) (by kernel_rfl) Tryz.ntmps90 fun hb _ => go 100 (fun _ => false) mixed ?_
  simp only [↓reduceIte, go_sem]
  obtain ⟨R, hR⟩ : ∃ R, R = digF base l 0 := ⟨_, rfl⟩
  rw [← hR]
  refine runs_loopA (fun x : Nat × Int => x.1 ≤ l.length ∧ 0 ≤ x.2 ∧ x.2 ≤ 4294967296 ∧ digF base (l.drop x.1) x.2 = R) (fun x => l.length - x.1) [true, true, false, false, false, true, true]
    (fun x => slots 34 [.str (bs l), .int .i64 base, .any, .any, .any, .int .i64 x.2, .int .i64 x.1]) (fun _ => H) (by rfl) (0, 0) ⟨Nat.zero_le _, by omega, by omega, hR.symm⟩ rfl rfl ?_
  rintro ⟨k, n⟩ ⟨hk, hn0, hn1, hnum⟩
  have hk : k ≤ l.length := hk
  have hn0 : 0 ≤ n := hn0
  have hn1 : n ≤ 4294967296 := hn1
  have hnum : digF base (l.drop k) n = R := hnum
  have e3 : IntKind.i64.wrap ((k : Int) + 1) = ((k + 1 : Nat) : Int) := by rw [w64 (by omega) (by omega)]; omega
  refine go 100 (fun _ => false) mixed ?_
  simp only [↓reduceIte, go_sem, e3]
  refine ⟨fun hlt => ⟨by omega, ?_⟩, fun hge => ?_⟩
  · rw [one_at hlt]
    refine (c_abatisref01_Number [l.getD k 0] base h1 h2 (by simp)).on ?_
    rw [List.drop_eq_getElem_cons hlt, ← getD_of hlt] at hnum
    unfold digF at hnum
    rw [numV_one]
    have hd := digitV_le (l.getD k 0).toNat
    generalize (l.getD k 0) = b at *
    generalize digitV b.toNat = v at *
    have hm0 : 0 ≤ n * base := Int.mul_nonneg hn0 h1
    have hm1 : n * base ≤ 4294967296 * 16 := Int.mul_le_mul hn1 h2 h1 (by omega)
    have e1 : IntKind.i64.wrap (n * base) = n * base := w64 (by omega) (by omega)
    by_cases hv : v < 0 ∨ base ≤ v
    · rw [if_pos hv] at hnum ⊢
      refine go 100 (fun _ => false) mixed ?_
      simp only [↓reduceIte, go_sem]
      refine fin ?_ rfl
      simp only [↓reduceIte, go_sem, ← hnum]
    · rw [if_neg hv] at hnum ⊢
      have e2 : IntKind.i64.wrap (n * base + v) = n * base + v := w64 (by omega) (by omega)
      refine go 100 (fun _ => false) mixed ?_
      simp only [↓reduceIte, go_sem, e1, e2, e3]
      exact rnd_next (k + 1, if 4294967296 < n * base + v then 4294967296 else n * base + v) ⟨by show k + 1 ≤ _; omega, by dsimp only; split <;> omega, by dsimp only; split <;> omega, hnum⟩ (by simp only; omega) rfl rfl
  · have hkl : l.length ≤ k := by omega
    rw [List.drop_eq_nil_of_le hkl] at hnum
    unfold digF at hnum
    refine go 100 (fun _ => false) mixed ?_
    simp only [↓reduceIte, go_sem]
    refine fin ?_ rfl
    simp only [↓reduceIte, go_sem, ← hnum]

/-- What stands behind the first of these heads that a part has. -/
def behindF (p : List UInt8) : List (List UInt8) → PV
  | [] => .tup [.str (bs []), .bool false]
  | h :: hs => if p.take h.length = h ∧ 1 < p.length then .tup [.str (bs (p.drop h.length)), .bool true] else behindF p hs

theorem c_four_number_1 (p : List UInt8) (hs : List (List UInt8)) (hp : p.length < 1000000) (hh : ∀ h ∈ hs, h.length < 1000000) (hn : hs.length < 1000000) (H : Heap) :
    SCall Tryz.prog 105 [.sl 1 (hs.map fun h => .str (bs h)), .ptr H.length 0 0] (H ++ [some (.cells 0 [.str (bs p)])]) fun r H' => r = behindF p hs ∧ H' = H ++ [some (.cells 0 [.str (bs p)])] := by
  refine scall_of (ord := fun _ => []) (rs := [3, 4]) Tryz.func105 rfl (by kernel_rfl) (by kernel_rfl) (by kernel_rfl) Tryz.ntmps105 fun hb _ => go 100 (fun _ => false) mixed ?_
  simp only [↓reduceIte, go_sem, List.length_map]
  obtain ⟨R, hR⟩ : ∃ R, R = behindF p hs := ⟨_, rfl⟩
  rw [← hR]
  refine runs_loopA (fun x : Nat => x ≤ hs.length ∧ behindF p (hs.drop x) = R) (fun x => hs.length - x) [true, true, false, false, false, false, false, false, false, true, true, true]
    (fun x => slots 29 [.sl 1 (hs.map fun h => .str (bs h)), .ptr H.length 0 0, .any, .any, .any, .any, .any, .any, .any, .sl 1 (hs.map fun h => .str (bs h)), .int .i64 hs.length, .int .i64 x]) (fun _ => H ++ [some (.cells 0 [.str (bs p)])]) (by rfl) 0 ⟨Nat.zero_le _, hR.symm⟩ rfl rfl ?_
  rintro k ⟨hk, hnum⟩
  have e3 : IntKind.i64.wrap ((k : Int) + 1) = ((k + 1 : Nat) : Int) := by rw [w64 (by omega) (by omega)]; omega
  refine go 100 (fun _ => false) mixed ?_
  by_cases hlt : k < hs.length
  · have hget : (hs.map fun h => PV.str (bs h)).getD k .any = .str (bs hs[k]) := by simp [List.getD_eq_getElem?_getD, hlt]
    simp only [↓reduceIte, go_sem, e3, List.length_map, hget, hlt]
    have hhk := hh hs[k] (List.getElem_mem hlt)
    refine (c_strings_CutPrefix p hs[k] hp hhk).on ?_
    rw [List.drop_eq_getElem_cons hlt] at hnum
    unfold behindF at hnum
    by_cases h1 : p.take hs[k].length = hs[k]
    · rw [if_pos h1]
      refine go 100 (fun _ => false) mixed ?_
      simp only [↓reduceIte, go_sem, e3]
      refine ⟨fun h2 => ?_, fun h2 => ?_⟩
      · rw [if_pos ⟨h1, by omega⟩] at hnum
        exact fin hnum rfl
      · rw [if_neg (fun h => h2 (by omega))] at hnum
        exact rnd_next (k + 1) ⟨by omega, hnum⟩ (by omega) rfl rfl
    · rw [if_neg h1]
      refine go 100 (fun _ => false) mixed ?_
      simp only [↓reduceIte, go_sem, e3]
      rw [if_neg (fun h => h1 h.1)] at hnum
      exact rnd_next (k + 1) ⟨by omega, hnum⟩ (by omega) rfl rfl
  · simp only [↓reduceIte, go_sem, e3, List.length_map, hlt]
    rw [List.drop_eq_nil_of_le (by omega)] at hnum
    unfold behindF at hnum
    refine go 100 (fun _ => false) mixed ?_
    simp only [↓reduceIte, go_sem]
    exact fin hnum rfl
end Go.Proofs.GoC

/-
  What the functions compute, part four: a part's number, in the code and in the reference. No claim by itself.
-/
namespace Go.Proofs.GoC
open Go Go.Proofs.SL
set_option linter.unusedSimpArgs false
set_option linter.unusedVariables false
set_option maxRecDepth 10000

/-- A part's number; none: there is none. -/
def partF : List UInt8 → Option Int
  | [] => none
  | [a] => digF 10 [a] 0
  | a :: b :: t => if a = 48 then (if b = 120 ∨ b = 88 then digF 16 t 0 else digF 8 (b :: t) 0) else digF 10 (a :: b :: t) 0

theorem behind2 (p : List UInt8) : behindF p [[48, 120], [48, 88]] = if (p.take 2 = [48, 120] ∨ p.take 2 = [48, 88]) ∧ 1 < p.length then .tup [.str (bs (p.drop 2)), .bool true] else .tup [.str (bs []), .bool false] := by
  simp only [behindF, List.length_cons, List.length_nil]
  by_cases h1 : p.take 2 = [48, 120] <;> by_cases h2 : p.take 2 = [48, 88] <;> by_cases h3 : 1 < p.length <;> simp [h1, h2, h3]

theorem behind1 (p : List UInt8) : behindF p [[48]] = if p.take 1 = [48] ∧ 1 < p.length then .tup [.str (bs (p.drop 1)), .bool true] else .tup [.str (bs []), .bool false] := by
  simp only [behindF, List.length_cons, List.length_nil]

theorem partF_2 (p : List UInt8) (h : (p.take 2 = [48, 120] ∨ p.take 2 = [48, 88]) ∧ 1 < p.length) : partF p = digF 16 (p.drop 2) 0 := by
  rcases p with _ | ⟨a, _ | ⟨b, t⟩⟩
  · simp at h
  · simp at h
  · simp only [List.take_succ_cons, List.take_zero, List.cons.injEq, and_true] at h
    rcases h.1 with ⟨rfl, rfl⟩ | ⟨rfl, rfl⟩ <;> simp [partF]

theorem partF_1 (p : List UInt8) (h2 : ¬ ((p.take 2 = [48, 120] ∨ p.take 2 = [48, 88]) ∧ 1 < p.length)) (h : p.take 1 = [48] ∧ 1 < p.length) : partF p = digF 8 (p.drop 1) 0 := by
  rcases p with _ | ⟨a, _ | ⟨b, t⟩⟩
  · simp at h
  · simp at h
  · simp only [List.take_succ_cons, List.take_zero, List.cons.injEq, and_true, List.length_cons] at h h2
    have ha := h.1
    subst ha
    have hb : ¬ (b = 120 ∨ b = 88) := fun hb => h2 ⟨by rcases hb with rfl | rfl <;> simp, by omega⟩
    simp [partF, hb]

theorem partF_0 (p : List UInt8) (h0 : p ≠ []) (h2 : ¬ ((p.take 2 = [48, 120] ∨ p.take 2 = [48, 88]) ∧ 1 < p.length)) (h : ¬ (p.take 1 = [48] ∧ 1 < p.length)) : partF p = digF 10 p 0 := by
  rcases p with _ | ⟨a, _ | ⟨b, t⟩⟩
  · exact absurd rfl h0
  · rfl
  · simp only [List.take_succ_cons, List.take_zero, List.cons.injEq, and_true, List.length_cons] at h h2
    have ha : ¬ a = 48 := fun ha => h ⟨ha, by omega⟩
    simp [partF, ha]

theorem bdd_resV (n : Nat) (o : Option Int) : Bdd n (resV o) := by cases o <;> simp [resV]

theorem c_four_number (p : List UInt8) (hp : p.length < 1000000) : PCall Tryz.prog 78 [.str (bs p)] (resV (partF p)) := by
  intro H
  refine scall_of (ord := fun _ => []) (rs := [2, 3]) Tryz.func78 rfl (by kernel_rfl) (by kernel_rfl) (by kernel_rfl) Tryz.ntmps78 fun hb _ => go 100 (fun _ => false) mixed ?_
  by_cases h0 : p = []
  · subst h0
    simp only [↓reduceIte, go_sem]
    exact fin_drop (.inr rfl) hb rfl (bdd_resV _ _)
  simp only [↓reduceIte, go_sem, h0]
  refine (c_four_number_1 p [[48, 120], [48, 88]] hp (by simp) (by simp) H).mono ?_
  rintro _ _ ⟨rfl, rfl⟩
  rw [behind2]
  by_cases h2 : (p.take 2 = [48, 120] ∨ p.take 2 = [48, 88]) ∧ 1 < p.length
  · rw [if_pos h2, partF_2 p h2]
    refine go 100 (fun _ => false) mixed ?_
    simp only [↓reduceIte, go_sem]
    refine (c_four_digits (p.drop 2) 16 (by omega) (by omega) (by simp; omega)).on (go 100 (fun _ => false) mixed ?_)
    cases digF 16 (p.drop 2) 0 <;> simp only [↓reduceIte, go_sem, resV] <;> exact fin_drop (.inr rfl) hb rfl (by simp [retV])
  · rw [if_neg h2]
    refine go 100 (fun _ => false) mixed ?_
    simp only [↓reduceIte, go_sem]
    refine (c_four_number_1 p [[48]] hp (by simp) (by simp) H).mono ?_
    rintro _ _ ⟨rfl, rfl⟩
    rw [behind1]
    by_cases h1 : p.take 1 = [48] ∧ 1 < p.length
    · rw [if_pos h1, partF_1 p h2 h1]
      refine go 100 (fun _ => false) mixed ?_
      simp only [↓reduceIte, go_sem]
      refine (c_four_digits (p.drop 1) 8 (by omega) (by omega) (by simp; omega)).on (go 100 (fun _ => false) mixed ?_)
      cases digF 8 (p.drop 1) 0 <;> simp only [↓reduceIte, go_sem, resV] <;> exact fin_drop (.inr rfl) hb rfl (by simp [retV])
    · rw [if_neg h1, partF_0 p h0 h2 h1]
      refine go 100 (fun _ => false) mixed ?_
      simp only [↓reduceIte, go_sem]
      refine (c_four_digits p 10 (by omega) (by omega) hp).on (go 100 (fun _ => false) mixed ?_)
      cases digF 10 p 0 <;> simp only [↓reduceIte, go_sem, resV] <;> exact fin_drop (.inr rfl) hb rfl (by simp [retV])

theorem c_abatisref02_Part (p : List UInt8) (hp : p.length < 1000000) : PCall Tryz.prog 89 [.str (bs p)] (.int .i64 ((partF p).getD (-1))) := by
  intro H
  refine scall_of (ord := fun _ => []) (rs := [2]) Tryz.func89 rfl (by kernel_rfl) (by kernel_rfl) (by kernel_rfl) Tryz.ntmps89 fun hb _ => go 100 (fun _ => false) mixed ?_
  rcases p with _ | ⟨a, _ | ⟨b, t⟩⟩
  · simp only [↓reduceIte, go_sem]
    exact fin rfl rfl
  · simp only [↓reduceIte, go_sem]
    refine (c_abatisref02_digits [a] 10 (by omega) (by omega) hp).on (go 100 (fun _ => false) mixed ?_)
    simp only [↓reduceIte, go_sem]
    exact fin rfl rfl
  · have e1 : ((a.toNat : Nat) : Int) = 48 ↔ a = 48 := u8_eq a 48 (by omega)
    have e2 : ((b.toNat : Nat) : Int) = 120 ↔ b = 120 := u8_eq b 120 (by omega)
    have e3 : ((b.toNat : Nat) : Int) = 88 ↔ b = 88 := u8_eq b 88 (by omega)
    simp only [List.length_cons] at hp
    have ht : (b :: t).length < 1000000 := by simp only [List.length_cons]; omega
    have hp' : (a :: b :: t).length < 1000000 := by simp only [List.length_cons]; omega
    have tk : (a :: b :: t).take (t.length + 1 + 1) = a :: b :: t := by simp
    have tk1 : (b :: t).take (t.length + 1) = b :: t := by simp
    have tk2 : t.take t.length = t := List.take_length
    by_cases h1 : a = 48
    · subst h1
      by_cases h2 : b = 120
      · subst h2
        simp only [↓reduceIte, go_sem, e1, e2, e3, tk2]
        refine (c_abatisref02_digits t 16 (by omega) (by omega) (by omega)).on (go 100 (fun _ => false) mixed ?_)
        simp only [↓reduceIte, go_sem]
        exact fin (by simp [retV, partF]) rfl
      · by_cases h3 : b = 88
        · subst h3
          simp only [↓reduceIte, go_sem, e1, e2, e3, h2, tk2]
          refine (c_abatisref02_digits t 16 (by omega) (by omega) (by omega)).on (go 100 (fun _ => false) mixed ?_)
          simp only [↓reduceIte, go_sem]
          exact fin (by simp [retV, partF]) rfl
        · simp only [↓reduceIte, go_sem, e1, e2, e3, h2, h3, tk1, tk2]
          refine (c_abatisref02_digits (b :: t) 8 (by omega) (by omega) ht).on (go 100 (fun _ => false) mixed ?_)
          simp only [↓reduceIte, go_sem]
          exact fin (by simp [retV, partF, h2, h3]) rfl
    · simp only [↓reduceIte, go_sem, e1, e2, e3, h1]
      refine (c_abatisref02_digits (a :: b :: t) 10 (by omega) (by omega) hp').on (go 100 (fun _ => false) mixed ?_)
      simp only [↓reduceIte, go_sem]
      exact fin (by simp [retV, partF, h1]) rfl
end Go.Proofs.GoC

/-
  What the functions compute, part five: the pieces of a text. No claim by itself.
-/
namespace Go.Proofs.GoC
open Go Go.Proofs.SL
set_option linter.unusedSimpArgs false
set_option linter.unusedVariables false
set_option maxRecDepth 10000

/-- The pieces of a text, from here on: those before, and what there is of the one at hand. -/
def splitA (sep : UInt8) : List UInt8 → List (List UInt8) → List UInt8 → List (List UInt8)
  | [], acc, cur => acc ++ [cur]
  | b :: l, acc, cur => if b = sep then splitA sep l (acc ++ [cur]) [] else splitA sep l acc (cur ++ [b])

def ord17 : Nat → List Nat
  | 7 => [0, 1, 2, 3, 4, 5, 6, 7, 8, 9, 10, 11, 12, 13]
  | _ => []

theorem ord17_7 : ord17 7 = [0, 1, 2, 3, 4, 5, 6, 7, 8, 9, 10, 11, 12, 13] := rfl

theorem c_text_Split (l : List UInt8) (sep : UInt8) (hl : l.length < 1000000) : PCall Tryz.prog 101 [.str (bs l), .int .u8 sep.toNat] (.sl 1 (strs (splitA sep l [] []))) := by
  intro H
  refine scall_of (ord := ord17) (rs := [4]) Tryz.func101 rfl (by kernel_rfl) (by kernel_rfl) (by kernel_rfl) Tryz.ntmps101 fun hb _ => go 100 (fun t => t == 7) mixed ?_
  simp only [↓reduceIte, go_sem]
  obtain ⟨R, hR⟩ : ∃ R, R = splitA sep l [] [] := ⟨_, rfl⟩
  rw [← hR]
  refine runs_loopA (fun x : Nat × List (List UInt8) × List UInt8 × Nat => x.1 ≤ l.length ∧ x.2.1.length ≤ x.1 ∧ x.2.2.1.length ≤ x.1 ∧ splitA sep (l.drop x.1) x.2.1 x.2.2.1 = R) (fun x => l.length - x.1) [true, true, false, false, false, true, false, false, false, true, true]
    (fun x => slots 36 [.str (bs l), .int .u8 sep.toNat, .any, .any, .any, .buf H.length x.2.2.2 0 (x.2.1.length + 1) 1 true, .any, .any, .any, .int .i64 l.length, .int .i64 x.1])
    (fun x => H ++ [some (.cells x.2.2.2 (strs (x.2.1 ++ [x.2.2.1])))]) (by rfl) (0, [], [], 0) ⟨Nat.zero_le _, Nat.le_refl _, Nat.le_refl _, hR.symm⟩ rfl rfl ?_
  rintro ⟨k, acc, cur, ver⟩ ⟨hk, hacc, hcur, hnum⟩
  have hk : k ≤ l.length := hk
  have hacc : acc.length ≤ k := hacc
  have hcur : cur.length ≤ k := hcur
  have hnum : splitA sep (l.drop k) acc cur = R := hnum
  have e3 : IntKind.i64.wrap ((k : Int) + 1) = ((k + 1 : Nat) : Int) := by rw [w64 (by omega) (by omega)]; omega
  have e4 : IntKind.i64.wrap (((acc.length + 1 : Nat) : Int) - 1) = ((acc.length : Nat) : Int) := by rw [w64 (by omega) (by omega)]; omega
  refine go 100 (fun t => t == 7) mixed ?_
  by_cases hlt : k < l.length
  · have u : ((l.getD k 0).toNat : Int) = (sep.toNat : Int) ↔ l.getD k 0 = sep := by
      constructor
      · intro h; exact UInt8.toNat_inj.mp (by omega)
      · intro h; rw [h]
    rw [List.drop_eq_getElem_cons hlt, ← getD_of hlt] at hnum
    unfold splitA at hnum
    by_cases hs : l.getD k 0 = sep
    · rw [if_pos hs] at hnum
      simp only [↓reduceIte, go_sem, e3, e4, hlt, u, hs]
      refine ⟨⟨by simp, by unfold most; omega, by unfold most; omega⟩, ?_⟩
      refine rnd_next (k + 1, acc ++ [cur], [], ver + 1) ⟨by show k + 1 ≤ _; omega, by simp; omega, by simp, hnum⟩ (by show l.length - (k + 1) < _; omega) ?_ ?_
      · simp only [↓reduceIte, go_sem, List.length_append]
      · simp only [strs, List.map_append, List.map_cons, List.map_nil]
    · rw [if_neg hs] at hnum
      have g1 : (strs (acc ++ [cur])).getD (0 + acc.length * 1) .any = .str (bs cur) := by rw [Nat.zero_add, Nat.mul_one]; exact strs_get_last
      have g2 : ∀ d, (strs (acc ++ [cur])).set (0 + acc.length * 1) (.str (bs d)) = strs (acc ++ [d]) := fun d => by rw [Nat.zero_add, Nat.mul_one]; exact strs_set_last
      have g3 : acc.length < acc.length + 1 := by omega
      simp only [↓reduceIte, go_sem, e3, e4, hlt, u, hs, ord17_7, g1, g2, g3, one_at hlt, List.length_append]
      refine ⟨by omega, ⟨by omega, by omega⟩, by omega, by omega, ?_⟩
      exact rnd_next (k + 1, acc, cur ++ [l.getD k 0], ver) ⟨by show k + 1 ≤ _; omega, by show acc.length ≤ _; omega, by show (cur ++ [l.getD k 0]).length ≤ _; rw [List.length_append]; simp; omega, hnum⟩ (by show l.length - (k + 1) < _; omega) rfl rfl
  · simp only [↓reduceIte, go_sem, e3, e4, hlt]
    refine go 100 (fun _ => false) mixed ?_
    simp only [↓reduceIte, go_sem]
    rw [List.drop_eq_nil_of_le (by omega)] at hnum
    unfold splitA at hnum
    refine fin_freeze (i := H.length) (cs := strs (acc ++ [cur])) (xs := strs (acc ++ [cur])) (.inr rfl) hb rfl (Nat.le_refl _) (by rw [get_tail0]; rfl) ?_ (by simp [strs]) strs_cells strs_bdd ⟨by rw [hnum], rfl⟩
    rw [flat_strs]
    have : (strs (acc ++ [cur])).length = (acc.length + 1) * 1 := by simp [strs]
    rw [← this]; simp [subCells]

theorem c_abatisref01_Split (l : List UInt8) (sep : UInt8) (hl : l.length < 1000000) : PCall Tryz.prog 88 [.str (bs l), .int .u8 sep.toNat] (.sl 1 (strs (splitA sep l [] []))) := by
  intro H
  refine scall_of (ord := fun _ => []) (rs := [4]) Tryz.func88 rfl (by kernel_rfl) (by kernel_rfl) (by kernel_rfl) Tryz.ntmps88 fun hb _ => go 100 (fun t => false) mixed ?_
  simp only [↓reduceIte, go_sem]
  obtain ⟨R, hR⟩ : ∃ R, R = splitA sep l [] [] := ⟨_, rfl⟩
  rw [← hR]
  refine Runs.ghost (by rfl) (Ghost.grow (t := 5) (m := 1) rfl) ?_
  refine runs_loopA (fun x : Nat × List (List UInt8) × Nat × Nat => x.1 ≤ l.length ∧ x.2.1.length ≤ x.1 ∧ x.2.2.1 ≤ x.1 ∧ splitA sep (l.drop x.1) x.2.1 ((l.take x.1).drop x.2.2.1) = R) (fun x => l.length - x.1) [true, true, false, false, false, true, true, true]
    (fun x => slots 34 [.str (bs l), .int .u8 sep.toNat, .any, .any, .any, .buf H.length x.2.2.2 0 x.2.1.length 1 true, .int .i64 x.2.2.1, .int .i64 x.1])
    (fun x => H ++ [some (.cells x.2.2.2 (strs x.2.1))]) (by rfl) (0, [], 0, 0) ⟨Nat.zero_le _, Nat.le_refl _, Nat.le_refl _, hR.symm⟩ rfl rfl ?_
  rintro ⟨k, acc, at', ver⟩ ⟨hk, hacc, hcur, hnum⟩
  have hk : k ≤ l.length := hk
  have hacc : acc.length ≤ k := hacc
  have hcur : at' ≤ k := hcur
  have hnum : splitA sep (l.drop k) acc ((l.take k).drop at') = R := hnum
  have e3 : IntKind.i64.wrap ((k : Int) + 1) = ((k + 1 : Nat) : Int) := by rw [w64 (by omega) (by omega)]; omega
  refine go 100 (fun t => false) mixed ?_
  by_cases hlt : k < l.length
  · have u : ((l.getD k 0).toNat : Int) = (sep.toNat : Int) ↔ l.getD k 0 = sep := by
      constructor
      · intro h; exact UInt8.toNat_inj.mp (by omega)
      · intro h; rw [h]
    rw [List.drop_eq_getElem_cons hlt, ← getD_of hlt] at hnum
    unfold splitA at hnum
    by_cases hs : l.getD k 0 = sep
    · rw [if_pos hs] at hnum
      simp only [↓reduceIte, go_sem, e3, hlt, u, hs]
      refine ⟨⟨hcur, hk⟩, ⟨by omega, by unfold most; omega, by unfold most; omega⟩, ?_⟩
      refine rnd_next (k + 1, acc ++ [(l.take k).drop at'], k + 1, ver + 1) ⟨by show k + 1 ≤ _; omega, by show (acc ++ [(l.take k).drop at']).length ≤ _; rw [List.length_append]; simp; omega, Nat.le_refl _, ?_⟩ (by show l.length - (k + 1) < _; omega) ?_ ?_
      · show splitA sep (l.drop (k + 1)) _ ((l.take (k + 1)).drop (k + 1)) = R
        have h0 : (l.take (k + 1)).drop (k + 1) = [] := List.drop_eq_nil_of_le (by rw [List.length_take]; omega)
        rw [h0]; exact hnum
      · simp only [↓reduceIte, go_sem, List.length_append]
      · simp only [strs, List.map_append, List.map_cons, List.map_nil]
    · rw [if_neg hs] at hnum
      simp only [↓reduceIte, go_sem, e3, hlt, u, hs]
      have hext : (l.take (k + 1)).drop at' = (l.take k).drop at' ++ [l.getD k 0] := by
        rw [List.take_add_one, List.drop_append_of_le_length (by simp; omega), getD_of hlt]
        simp [hlt]
      exact rnd_next (k + 1, acc, at', ver) ⟨by show k + 1 ≤ _; omega, by show acc.length ≤ _; omega, by show at' ≤ _; omega, by rw [hext]; exact hnum⟩ (by show l.length - (k + 1) < _; omega) rfl rfl
  · simp only [↓reduceIte, go_sem, e3, hlt]
    refine go 100 (fun _ => false) mixed ?_
    simp only [↓reduceIte, go_sem]
    have hk2 : k = l.length := by omega
    subst hk2
    rw [List.drop_length] at hnum
    unfold splitA at hnum
    refine ⟨hcur, ⟨by omega, by unfold most; omega, by unfold most; omega⟩, ?_⟩
    have hcells : strs acc ++ [PV.str (bs (List.drop at' (List.take l.length l)))] = strs R := by rw [← hnum]; simp [strs]
    have hlen : acc.length + 1 = R.length := by rw [← hnum]; simp
    rw [hcells, hlen]
    refine fin_freeze (i := H.length) (cs := strs R) (xs := strs R) (.inr rfl) hb rfl (Nat.le_refl _) (by rw [get_tail0]; rfl) ?_ (by simp [strs]) strs_cells strs_bdd ⟨rfl, rfl⟩
    rw [flat_strs]
    have : (strs R).length = R.length * 1 := by simp [strs]
    rw [← this]; simp [subCells]
end Go.Proofs.GoC

/-
  What the functions compute, part six: a loose text's parts, and whether they end in a number. No claim by itself.
-/
namespace Go.Proofs.GoC
open Go Go.Proofs.SL
set_option linter.unusedSimpArgs false
set_option linter.unusedVariables false
set_option maxRecDepth 10000

theorem splitA_len (sep : UInt8) : ∀ (l : List UInt8) (acc : List (List UInt8)) (cur : List UInt8), acc.length + 1 ≤ (splitA sep l acc cur).length ∧ (splitA sep l acc cur).length ≤ acc.length + 1 + l.length
  | [], acc, cur => by simp [splitA]
  | b :: l, acc, cur => by
    unfold splitA
    split
    · have := splitA_len sep l (acc ++ [cur]) []
      simp only [List.length_append, List.length_cons, List.length_nil] at this ⊢
      omega
    · have := splitA_len sep l acc (cur ++ [b])
      simp only [List.length_cons] at this ⊢
      omega

/-- Every piece is no longer than the text. -/
theorem splitA_short (sep : UInt8) (N : Nat) : ∀ (l : List UInt8) (acc : List (List UInt8)) (cur : List UInt8), (∀ p ∈ acc, p.length ≤ N) → cur.length + l.length ≤ N → ∀ p ∈ splitA sep l acc cur, p.length ≤ N
  | [], acc, cur, h1, h2, p, hp => by
    simp only [splitA, List.mem_append, List.mem_singleton] at hp
    rcases hp with hp | rfl
    · exact h1 p hp
    · simpa using h2
  | b :: l, acc, cur, h1, h2, p, hp => by
    unfold splitA at hp
    simp only [List.length_cons] at h2
    split at hp
    · refine splitA_short sep N l _ _ (fun q hq => ?_) (by simp; omega) p hp
      simp only [List.mem_append, List.mem_singleton] at hq
      rcases hq with hq | rfl
      · exact h1 q hq
      · omega
    · exact splitA_short sep N l _ _ h1 (by simp; omega) p hp

def lastF (ps : List (List UInt8)) : List UInt8 := ps.getD (ps.length - 1) []

/-- The parts, without an empty last one (if there is another one). -/
def piecesF (l : List UInt8) : List (List UInt8) :=
  if 1 < (splitA 46 l [] []).length ∧ lastF (splitA 46 l [] []) = [] then (splitA 46 l [] []).take ((splitA 46 l [] []).length - 1) else splitA 46 l [] []

theorem piecesF_len (l : List UInt8) : 1 ≤ (piecesF l).length ∧ (piecesF l).length ≤ l.length + 1 := by
  have := splitA_len 46 l [] []
  simp only [List.length_nil] at this
  unfold piecesF
  split
  · simp; omega
  · omega

theorem piecesF_short (l : List UInt8) : ∀ p ∈ piecesF l, p.length ≤ l.length := by
  have h := splitA_short 46 l.length l [] [] (by simp) (by simp)
  unfold piecesF
  split
  · exact fun p hp => h p (List.mem_of_mem_take hp)
  · exact h

theorem c_four_pieces (l : List UInt8) (hl : l.length < 1000000) : PCall Tryz.prog 76 [.str (bs l)] (.sl 1 (strs (piecesF l))) := by
  intro H
  refine scall_of (ord := fun _ => []) (rs := [2]) Tryz.func76 rfl (by kernel_rfl) (by kernel_rfl) (by kernel_rfl) Tryz.ntmps76 fun hb _ => go 100 (fun t => false) mixed ?_
  simp only [↓reduceIte, go_sem]
  refine (c_text_Split l 46 hl).on (go 100 (fun _ => false) mixed ?_)
  have hlen := splitA_len 46 l [] []
  unfold piecesF lastF
  generalize splitA 46 l [] [] = ps at *
  simp only [List.length_nil] at hlen
  have e1 : IntKind.i64.wrap ((ps.length : Int) - 1) = ((ps.length - 1 : Nat) : Int) := by rw [w64 (by omega) (by omega)]; omega
  have e2 : ((0 : Int) < ((ps.length - 1 : Nat) : Int)) ↔ 1 < ps.length := by omega
  by_cases h1 : 1 < ps.length
  · have g := strs_getD (l := ps) (k := ps.length - 1) (by omega)
    have g2 : ps.length - 1 < ps.length := by omega
    by_cases h2 : ps.getD (ps.length - 1) [] = []
    · rw [if_pos ⟨h1, h2⟩]
      simp only [↓reduceIte, go_sem, e1, e2, h1, g, g2, h2]
      refine ⟨by omega, fin ?_ rfl⟩
      simp only [↓reduceIte, go_sem, strs_take]
    · rw [if_neg (fun h => h2 h.2)]
      simp only [↓reduceIte, go_sem, e1, e2, h1, g, g2, h2]
      exact fin rfl rfl
  · rw [if_neg (fun h => h1 h.1)]
    simp only [↓reduceIte, go_sem, e1, e2, h1]
    exact fin rfl rfl

theorem digF_in (base : Int) (hb : 0 ≤ base) : ∀ (l : List UInt8) (n m : Int), 0 ≤ n → n ≤ 4294967296 → digF base l n = some m → 0 ≤ m ∧ m ≤ 4294967296
  | [], n, m, h0, h1, h => by simp only [digF, Option.some.injEq] at h; omega
  | b :: l, n, m, h0, h1, h => by
    unfold digF at h
    split at h
    · cases h
    · rename_i hv
      have hm : 0 ≤ n * base := Int.mul_nonneg h0 hb
      refine digF_in base hb l _ m ?_ ?_ h <;> split <;> omega

theorem partF_in (p : List UInt8) (m : Int) (h : partF p = some m) : 0 ≤ m ∧ m ≤ 4294967296 := by
  unfold partF at h
  split at h
  · cases h
  · exact digF_in 10 (by omega) _ _ _ (by omega) (by omega) h
  · split at h
    · split at h
      · exact digF_in 16 (by omega) _ _ _ (by omega) (by omega) h
      · exact digF_in 8 (by omega) _ _ _ (by omega) (by omega) h
    · exact digF_in 10 (by omega) _ _ _ (by omega) (by omega) h

/-- Whether parts end in a number. -/
def endsF (ps : List (List UInt8)) : Bool := (partF (lastF ps)).isSome || ((digF 10 (lastF ps) 0).isSome && !decide (lastF ps = []))

theorem c_four_ends (ps : List (List UInt8)) (h1 : 1 ≤ ps.length) (h2 : ps.length < 1000000) (h3 : ∀ p ∈ ps, p.length < 1000000) : PCall Tryz.prog 77 [.sl 1 (strs ps)] (.bool (endsF ps)) := by
  intro H
  refine scall_of (ord := fun _ => []) (rs := [2]) Tryz.func77 rfl (by kernel_rfl) (by kernel_rfl) (by kernel_rfl) Tryz.ntmps77 fun hb _ => go 100 (fun t => false) mixed ?_
  have e1 : IntKind.i64.wrap ((ps.length : Int) - 1) = ((ps.length - 1 : Nat) : Int) := by rw [w64 (by omega) (by omega)]; omega
  have g := strs_getD (l := ps) (k := ps.length - 1) (by omega)
  have g2 : ps.length - 1 < ps.length := by omega
  have hl : (lastF ps).length < 1000000 := by
    unfold lastF
    rw [List.getD_eq_getElem?_getD, List.getElem?_eq_getElem g2, Option.getD_some]
    exact h3 _ (List.getElem_mem g2)
  simp only [↓reduceIte, go_sem, e1, g, g2]
  show SCall Tryz.prog 78 [PV.str (bs (lastF ps))] _ _
  refine (c_four_number (lastF ps) hl).on (go 100 (fun _ => false) mixed ?_)
  unfold endsF
  have el : ps.getD (ps.length - 1) [] = lastF ps := rfl
  rw [el]
  generalize lastF ps = q at *
  cases hp : partF q with
  | some n =>
    simp only [↓reduceIte, go_sem, resV]
    exact fin rfl rfl
  | none =>
    simp only [↓reduceIte, go_sem, resV]
    refine (c_four_digits q 10 (by omega) (by omega) hl).on (go 100 (fun _ => false) mixed ?_)
    cases hd : digF 10 q 0 with
    | none =>
      simp only [↓reduceIte, go_sem, resV]
      exact fin rfl rfl
    | some n =>
      simp only [↓reduceIte, go_sem, resV]
      exact fin rfl rfl
end Go.Proofs.GoC

/-
  What the functions compute, part seven: a loose text's address. No claim by itself.
-/
namespace Go.Proofs.GoC
open Go Go.Proofs.SL
set_option linter.unusedSimpArgs false
set_option linter.unusedVariables false
set_option maxRecDepth 10000

def room : Nat → Nat
  | 0 => 4294967296
  | 1 => 16777216
  | 2 => 65536
  | 3 => 256
  | _ => 1

/-- The number of the parts from the i-th on. -/
def looseGo : List (List UInt8) → Nat → Nat → Option Nat
  | [], acc, _ => some acc
  | [p], acc, i => match partF p with
    | some n => if (room i : Int) ≤ n then none else some (acc * room i + n.toNat)
    | none => none
  | p :: q :: t, acc, i => match partF p with
    | some n => if 255 < n then none else looseGo (q :: t) (acc * 256 + n.toNat) (i + 1)
    | none => none

def looseV (ps : List (List UInt8)) : PV :=
  if endsF ps = true then
    if 4 < ps.length then .tup [.int .u32 0, .int .i64 1] else match looseGo ps 0 0 with
      | some n => .tup [.int .u32 (IntKind.u32.wrap n), .int .i64 2]
      | none => .tup [.int .u32 0, .int .i64 1]
  else .tup [.int .u32 0, .int .i64 0]

theorem room_pow (k : Nat) (hk : k ≤ 4) : room k = 2 ^ (8 * (4 - k)) := by
  have : k = 0 ∨ k = 1 ∨ k = 2 ∨ k = 3 ∨ k = 4 := by omega
  rcases this with rfl | rfl | rfl | rfl | rfl <;> rfl

theorem room_in (k : Nat) : 1 ≤ room k ∧ room k ≤ 4294967296 := by unfold room; split <;> omega

theorem or_room {k acc n : Nat} (hk : k ≤ 4) (h : acc * room k < 4294967296) (hn : n < room k) : bitOp .or .i64 ((acc * room k : Nat) : Int) (n : Int) = ((acc * room k + n : Nat) : Int) := by
  rw [room_pow k hk] at *
  have h2 : 2 ^ (8 * (4 - k)) ≤ 4294967296 := by rw [← room_pow k hk]; exact (room_in k).2
  exact or_add hn (by omega)

theorem shl_room (k : Nat) (hk : k < 4) (n : Int) (h0 : 0 ≤ n) (h1 : n ≤ 255) : IntKind.i64.wrap (n * 2 ^ (min (8 * (3 - k)) 64)) = n * room (k + 1) := by
  have : k = 0 ∨ k = 1 ∨ k = 2 ∨ k = 3 := by omega
  rcases this with rfl | rfl | rfl | rfl <;> simp only [room] <;> rw [w64] <;> simp <;> omega

theorem shl_one (k : Nat) (hk : k < 4) : IntKind.i64.wrap (1 * 2 ^ (min (8 * (4 - k)) 64)) = room k := by
  have : k = 0 ∨ k = 1 ∨ k = 2 ∨ k = 3 := by omega
  rcases this with rfl | rfl | rfl | rfl <;> rfl

theorem c_four_Loose (l : List UInt8) (hl : l.length < 900000) : PCall Tryz.prog 49 [.str (bs l)] (looseV (piecesF l)) := by
  intro H
  refine scall_of (ord := fun _ => []) (rs := [2, 3]) Tryz.func49 rfl (by kernel_rfl) (by kernel_rfl) (by kernel_rfl) Tryz.ntmps49 fun hb _ => go 100 (fun t => false) mixed ?_
  simp only [↓reduceIte, go_sem]
  refine (c_four_pieces l (by omega)).on (go 100 (fun _ => false) mixed ?_)
  simp only [↓reduceIte, go_sem]
  have hlen := piecesF_len l
  have hshort := piecesF_short l
  generalize piecesF l = ps at *
  refine (c_four_ends ps hlen.1 (by omega) (fun p hp => by have := hshort p hp; omega)).on (go 100 (fun _ => false) mixed ?_)
  obtain ⟨R, hR⟩ : ∃ R, R = looseV ps := ⟨_, rfl⟩
  rw [← hR]
  unfold looseV at hR
  by_cases he' : endsF ps = false
  · rw [if_neg (by simp [he'])] at hR
    simp only [↓reduceIte, go_sem, he', hR]
    exact fin rfl rfl
  have he : endsF ps = true := by simpa using he'
  rw [if_pos he] at hR
  by_cases h4 : 4 < ps.length
  · rw [if_pos h4] at hR
    have h4' : (4 : Int) < (ps.length : Int) := by omega
    simp only [↓reduceIte, go_sem, he, h4', hR]
    exact fin rfl rfl
  rw [if_neg h4] at hR
  have h4' : ¬ (4 : Int) < (ps.length : Int) := by omega
  have e1 : IntKind.i64.wrap ((ps.length : Int) - 1) = ((ps.length - 1 : Nat) : Int) := by rw [w64 (by omega) (by omega)]; omega
  simp only [↓reduceIte, go_sem, he, h4', e1]
  obtain ⟨G, hG⟩ : ∃ G, G = looseGo ps 0 0 := ⟨_, rfl⟩
  rw [← hG] at hR
  refine runs_loopA (fun x : Nat × Nat × Nat => x.1 ≤ ps.length ∧ x.2.1 < 4294967296 ∧ ((x.1 < ps.length ∧ x.2.2 * room x.1 = x.2.1 ∧ looseGo (ps.drop x.1) x.2.2 x.1 = G) ∨ (x.1 = ps.length ∧ some x.2.1 = G))) (fun x => ps.length - x.1)
    [true, false, false, false, true, true, true, false, false, false, false, false, false, false, false, false, false, false, false, false, false, false, false, true, true, true]
    (fun x => slots 64 [.str (bs l), .any, .any, .any, .sl 1 (strs ps), .int .i64 x.2.1, .int .i64 (ps.length - 1 : Nat), .any, .any, .any, .any, .any, .any, .any, .any, .any, .any, .any, .any, .any, .any, .any, .any, .sl 1 (strs ps), .int .i64 ps.length, .int .i64 x.1])
    (fun x => H) (by rfl) (0, 0, 0) ⟨Nat.zero_le _, by show 0 < _; omega, .inl ⟨hlen.1, rfl, hG.symm⟩⟩ rfl rfl ?_
  rintro ⟨k, out, acc⟩ ⟨hk, hout, hinv⟩
  have hk : k ≤ ps.length := hk
  have hout : out < 4294967296 := hout
  have e3 : IntKind.i64.wrap ((k : Int) + 1) = ((k + 1 : Nat) : Int) := by rw [w64 (by omega) (by omega)]; omega
  refine go 100 (fun t => false) mixed ?_
  by_cases hlt : k < ps.length
  · have g := strs_getD (l := ps) (k := k) hlt
    simp only [↓reduceIte, go_sem, e3, hlt, g]
    refine (c_four_number (ps.getD k []) ?_).on (go 100 (fun _ => false) mixed ?_)
    · rw [getDL_of hlt]; have := hshort _ (List.getElem_mem hlt); omega
    have hinv : acc * room k = out ∧ looseGo (ps.drop k) acc k = G := by
      rcases hinv with ⟨_, h⟩ | ⟨h, _⟩
      · exact h
      · exact absurd h (by show ¬ k = ps.length; omega)
    obtain ⟨hacc, hgo⟩ := hinv
    rw [List.drop_eq_getElem_cons hlt, ← getDL_of hlt] at hgo
    have f1 : IntKind.i64.wrap (4 - (k : Int)) = ((4 - k : Nat) : Int) := by rw [w64 (by omega) (by omega)]; omega
    have f2 : IntKind.i64.wrap (8 * ((4 - k : Nat) : Int)) = ((8 * (4 - k) : Nat) : Int) := by rw [w64 (by omega) (by omega)]; omega
    have f3 := shl_one k (by omega)
    have f4 : IntKind.i64.wrap ((room k : Int) - 1) = (room k : Int) - 1 := by have := room_in k; rw [w64 (by omega) (by omega)]
    cases hp : partF (ps.getD k []) with
    | none =>
      have hG0 : G = none := by
        rw [← hgo]
        cases hd : ps.drop (k + 1) with
        | nil => simp only [looseGo, hp]
        | cons q t => simp only [looseGo, hp]
      rw [hG0] at hR
      simp only [resV]
      by_cases hq : ps.length - 1 = k
      · simp only [↓reduceIte, go_sem, hq, hR, f1, f2, f3, f4]
        exact fin rfl rfl
      · have hlast : ¬ (k : Int) = ((ps.length - 1 : Nat) : Int) := by omega
        simp only [↓reduceIte, go_sem, hlast, hR]
        exact fin rfl rfl
    | some n =>
      have hn := partF_in _ _ hp
      simp only [resV]
      by_cases hq : ps.length - 1 = k
      · have hd : ps.drop (k + 1) = [] := List.drop_eq_nil_of_le (by omega)
        rw [hd] at hgo
        simp only [looseGo, hp] at hgo
        have hkk : ¬ k < k := by omega
        by_cases hr : (room k : Int) ≤ n
        · rw [if_pos hr] at hgo
          rw [← hgo] at hR
          have hr' : (room k : Int) - 1 < n := by omega
          simp only [↓reduceIte, go_sem, hq, hR, f1, f2, f3, f4, hr']
          exact fin rfl rfl
        · rw [if_neg hr] at hgo
          have hr' : ¬ (room k : Int) - 1 < n := by omega
          have hor : bitOp .or .i64 (out : Int) n = ((acc * room k + n.toNat : Nat) : Int) := by
            have := or_room (k := k) (acc := acc) (n := n.toNat) (by omega) (by omega) (by omega)
            rw [hacc] at this
            rw [Int.toNat_of_nonneg hn.1] at this
            rw [hacc]
            exact this
          simp only [↓reduceIte, go_sem, hq, f1, f2, f3, f4, hr', hkk, hor, e3]
          refine rnd_next (k + 1, acc * room k + n.toNat, 0) ⟨by show k + 1 ≤ _; omega, ?_, .inr ⟨by show k + 1 = _; omega, hgo⟩⟩ (by show ps.length - (k + 1) < _; omega) ?_ rfl
          · show acc * room k + n.toNat < _
            have hk4 : k = 0 ∨ k = 1 ∨ k = 2 ∨ k = 3 := by omega
            rcases hk4 with rfl | rfl | rfl | rfl <;> simp only [room] at hacc hr ⊢ <;> omega
          · simp only [↓reduceIte, go_sem, hq]
      · have hlast : ¬ (k : Int) = ((ps.length - 1 : Nat) : Int) := by omega
        have hkk : k < ps.length - 1 := by omega
        have hlt2 : k + 1 < ps.length := by omega
        rw [List.drop_eq_getElem_cons hlt2] at hgo
        simp only [looseGo, hp] at hgo
        by_cases hr : 255 < n
        · rw [if_pos hr] at hgo
          rw [← hgo] at hR
          simp only [↓reduceIte, go_sem, hlast, hR, hr]
          exact fin rfl rfl
        · rw [if_neg hr] at hgo
          have f5 : IntKind.i64.wrap (3 - (k : Int)) = ((3 - k : Nat) : Int) := by rw [w64 (by omega) (by omega)]; omega
          have f6 : IntKind.i64.wrap (8 * ((3 - k : Nat) : Int)) = ((8 * (3 - k) : Nat) : Int) := by rw [w64 (by omega) (by omega)]; omega
          have f7 := shl_room k (by omega) n hn.1 (by omega)
          have hrr : room k = 256 * room (k + 1) := by
            have hk4 : k = 0 ∨ k = 1 ∨ k = 2 := by omega
            rcases hk4 with rfl | rfl | rfl <;> rfl
          have hnn : n = ((n.toNat : Nat) : Int) := by omega
          have hb : n.toNat * room (k + 1) < room k := by
            rw [hrr]
            have := (room_in (k + 1)).1
            exact Nat.mul_lt_mul_of_pos_right (by omega) (by omega)
          have hsum : acc * room k + n.toNat * room (k + 1) = (acc * 256 + n.toNat) * room (k + 1) := by rw [hrr, Nat.add_mul, Nat.mul_assoc]
          have hor : bitOp .or .i64 (out : Int) (n * room (k + 1)) = (((acc * 256 + n.toNat) * room (k + 1) : Nat) : Int) := by
            have := or_room (k := k) (acc := acc) (n := n.toNat * room (k + 1)) (by omega) (by omega) hb
            rw [hacc] at this
            rw [← hsum, hacc, ← this]
            congr 1
            rw [hnn]
            simp
          simp only [↓reduceIte, go_sem, hlast, hr, hkk, f5, f6, f7, hor, e3]
          refine rnd_next (k + 1, (acc * 256 + n.toNat) * room (k + 1), acc * 256 + n.toNat) ⟨by show k + 1 ≤ _; omega, ?_, .inl ⟨by show k + 1 < _; omega, rfl, ?_⟩⟩ (by show ps.length - (k + 1) < _; omega) ?_ rfl
          · show (acc * 256 + n.toNat) * room (k + 1) < _
            rw [← hsum]
            have hk4 : k = 0 ∨ k = 1 ∨ k = 2 := by omega
            rcases hk4 with rfl | rfl | rfl <;> simp only [room] at hacc hnn ⊢ <;> omega
          · show looseGo (ps.drop (k + 1)) _ _ = G
            rw [List.drop_eq_getElem_cons hlt2]
            exact hgo
          · simp only [↓reduceIte, go_sem]
  · simp only [↓reduceIte, go_sem, e3, hlt]
    refine go 100 (fun _ => false) mixed ?_
    simp only [↓reduceIte, go_sem]
    rcases hinv with ⟨h, _⟩ | ⟨_, hgo⟩
    · exact absurd h hlt
    · have hgo : some out = G := hgo
      rw [← hgo] at hR
      simp only [hR]
      exact fin rfl rfl
end Go.Proofs.GoC

/-
  What the functions compute, part eight: a loose text's address in the reference. No claim by itself.
-/
namespace Go.Proofs.GoC
open Go Go.Proofs.SL
set_option linter.unusedSimpArgs false
set_option linter.unusedVariables false
set_option maxRecDepth 10000
set_option maxHeartbeats 1000000

theorem room_step (k : Nat) (hk : k < 4) : room k = 256 * room (k + 1) := by
  have hk4 : k = 0 ∨ k = 1 ∨ k = 2 ∨ k = 3 := by omega
  rcases hk4 with rfl | rfl | rfl | rfl <;> rfl

theorem room_top (k : Nat) (hk : k ≤ 4) : 256 ^ k * room k = 4294967296 := by
  have hk4 : k = 0 ∨ k = 1 ∨ k = 2 ∨ k = 3 ∨ k = 4 := by omega
  rcases hk4 with rfl | rfl | rfl | rfl | rfl <;> rfl

theorem room_next {k acc n : Nat} (hk : k < 4) (h : acc * room k < 4294967296) (hn : n ≤ 255) : (acc * 256 + n) * room (k + 1) < 4294967296 := by
  rw [← room_top k (by omega)] at h
  rw [← room_top (k + 1) (by omega)]
  have h1 : acc < 256 ^ k := Nat.lt_of_mul_lt_mul_right h
  have h2 : acc * 256 + n < 256 ^ (k + 1) := by
    rw [Nat.pow_succ]
    generalize 256 ^ k = X at *
    omega
  exact Nat.mul_lt_mul_of_pos_right h2 (by have := (room_in (k + 1)).1; omega)

theorem last_drop (ps : List (List UInt8)) (k : Nat) (h : k + 1 = ps.length) : ps.drop k = [lastF ps] := by
  have hk : k < ps.length := by omega
  rw [List.drop_eq_getElem_cons hk, List.drop_eq_nil_of_le (by omega), ← getDL_of hk]
  unfold lastF
  rw [show ps.length - 1 = k by omega]

theorem c_abatisref02_Loose (l : List UInt8) (hl : l.length < 900000) : PCall Tryz.prog 58 [.str (bs l)] (looseV (piecesF l)) := by
  intro H
  refine scall_of (ord := fun _ => []) (rs := [2, 3]) Tryz.func58 rfl (by kernel_rfl) (by kernel_rfl) (by kernel_rfl) Tryz.ntmps58 fun hb hargs => go 200 (fun t => false) mixed ?_
  simp only [↓reduceIte, go_sem]
  refine (c_abatisref01_Split l 46 (by omega)).on (go 4 (fun _ => false) mixed ?_)
  have hlen := piecesF_len l
  have hshort := piecesF_short l
  have hlen0 := splitA_len 46 l [] []
  obtain ⟨ps, hps⟩ : ∃ ps, ps = piecesF l := ⟨_, rfl⟩
  rw [← hps] at hlen hshort ⊢
  unfold piecesF at hps
  generalize splitA 46 l [] [] = qs at *
  simp only [List.length_nil] at hlen0
  simp only [↓reduceIte, go_sem]
  refine runs_cut [true, false, true, true, true] (fun σ H' => σ = slots 97 [.str (bs l), .any, .int .u32 0, .int .i64 0, .sl 1 (strs ps)] ∧ H = H') (by rfl) ?_ ?_
  · have e1' : IntKind.i64.wrap ((qs.length : Int) - 1) = ((qs.length - 1 : Nat) : Int) := by rw [w64 (by omega) (by omega)]; omega
    have g' := strs_getD (l := qs) (k := qs.length - 1) (by omega)
    have el' : qs.getD (qs.length - 1) [] = lastF qs := rfl
    rw [el'] at g'
    have g2' : qs.length - 1 < qs.length := by omega
    have g3' : qs.length - 1 ≤ qs.length := by omega
    refine go 200 (fun _ => false) mixed ?_
    by_cases h1 : (1 : Int) < (qs.length : Int)
    · by_cases h2 : lastF qs = []
      · rw [if_pos ⟨by omega, h2⟩] at hps
        simp only [↓reduceIte, go_sem, e1', g', g2', g3', h1, h2, strs_take, ← hps]
        exact mid_to ⟨rfl, rfl⟩
      · rw [if_neg (fun h => h2 h.2)] at hps
        subst hps
        simp only [↓reduceIte, go_sem, e1', g', g2', h1, h2]
        exact mid_to ⟨rfl, rfl⟩
    · rw [if_neg (fun h => h1 (by omega))] at hps
      subst hps
      simp only [↓reduceIte, go_sem, e1', g', g2', h1]
      exact mid_to ⟨rfl, rfl⟩
  rintro _ _ ⟨rfl, rfl⟩
  clear hps hlen0
  have e1 : IntKind.i64.wrap ((ps.length : Int) - 1) = ((ps.length - 1 : Nat) : Int) := by rw [w64 (by omega) (by omega)]; omega
  have g := strs_getD (l := ps) (k := ps.length - 1) (by omega)
  have el : ps.getD (ps.length - 1) [] = lastF ps := rfl
  rw [el] at g
  have g2 : ps.length - 1 < ps.length := by omega
  have hlast : (lastF ps).length < 1000000 := by
    unfold lastF
    rw [getDL_of g2]
    have := hshort _ (List.getElem_mem g2); omega
  obtain ⟨R, hR⟩ : ∃ R, R = looseV ps := ⟨_, rfl⟩
  rw [← hR]
  unfold looseV at hR
  refine go 18 (fun _ => false) mixed ?_
  simp only [↓reduceIte, go_sem, e1, g, g2]
  refine runs_cut [true, false, true, true, true, true] (fun σ H' => σ = slots 97 [.str (bs l), .any, .int .u32 0, .int .i64 0, .sl 1 (strs ps), .str (bs (lastF ps))] ∧ H = H' ∧ endsF ps = true) (by rfl) ?_ ?_
  · refine go 200 (fun _ => false) mixed ?_
    simp only [↓reduceIte, go_sem]
    refine (c_abatisref02_Part (lastF ps) hlast).on (go 200 (fun _ => false) mixed ?_)
    cases hp : partF (lastF ps) with
    | some n =>
      have hn : ¬ n < 0 := by have := partF_in _ _ hp; omega
      simp only [↓reduceIte, go_sem, hn]
      exact mid_to ⟨rfl, rfl, by unfold endsF; rw [hp]; rfl⟩
    | none =>
      by_cases hnil : lastF ps = []
      · have he : ¬ endsF ps = true := by unfold endsF; rw [hp, hnil]; simp
        rw [if_neg he] at hR
        simp only [↓reduceIte, go_sem, hnil, hR]
        exact fin rfl rfl
      · simp only [↓reduceIte, go_sem, hnil]
        refine (c_abatisref02_digits (lastF ps) 10 (by omega) (by omega) hlast).on (go 200 (fun _ => false) mixed ?_)
        cases hd : digF 10 (lastF ps) 0 with
        | some n =>
          have hn : ¬ n < 0 := by have := digF_in 10 (by omega) _ _ _ (by omega) (by omega) hd; omega
          simp only [↓reduceIte, go_sem, hn]
          exact mid_to ⟨rfl, rfl, by unfold endsF; rw [hp, hd]; simp [hnil]⟩
        | none =>
          have he : ¬ endsF ps = true := by unfold endsF; rw [hp, hd]; simp
          rw [if_neg he] at hR
          simp only [↓reduceIte, go_sem, hR]
          exact fin rfl rfl
  rintro _ _ ⟨rfl, rfl, he⟩
  rw [if_pos he] at hR
  refine go 200 (fun _ => false) mixed ?_
  by_cases h4 : 4 < ps.length
  · rw [if_pos h4] at hR
    have h4' : (4 : Int) < (ps.length : Int) := by omega
    simp only [↓reduceIte, go_sem, h4', hR]
    exact fin rfl rfl
  rw [if_neg h4] at hR
  have h4' : ¬ (4 : Int) < (ps.length : Int) := by omega
  simp only [↓reduceIte, go_sem, h4']
  obtain ⟨G, hG⟩ : ∃ G, G = looseGo ps 0 0 := ⟨_, rfl⟩
  rw [← hG] at hR
  refine runs_loopA (fun x : Nat × Nat => x.1 < ps.length ∧ x.2 * room x.1 < 4294967296 ∧ looseGo (ps.drop x.1) x.2 x.1 = G) (fun x => ps.length - x.1)
    [true, false, true, true, true, true, true, true]
    (fun x => slots 97 [.str (bs l), .any, .int .u32 0, .int .i64 0, .sl 1 (strs ps), .str (bs (lastF ps)), .int .i64 x.2, .int .i64 x.1])
    (fun x => H) (by rfl) (0, 0) ⟨hlen.1, by show 0 * _ < _; omega, hG.symm⟩ rfl rfl ?_
  rintro ⟨k, acc⟩ ⟨hk, hacc, hgo⟩
  have hk : k < ps.length := hk
  have hacc : acc * room k < 4294967296 := hacc
  have hgo : looseGo (ps.drop k) acc k = G := hgo
  have e3 : IntKind.i64.wrap ((k : Int) + 1) = ((k + 1 : Nat) : Int) := by rw [w64 (by omega) (by omega)]; omega
  have gk := strs_getD (l := ps) (k := k) hk
  refine go 200 (fun _ => false) mixed ?_
  by_cases hlt : k + 1 < ps.length
  · simp only [↓reduceIte, go_sem, e3, hlt, gk, hk]
    refine (c_abatisref02_Part (ps.getD k []) (by rw [getDL_of hk]; have := hshort _ (List.getElem_mem hk); omega)).on (go 200 (fun _ => false) mixed ?_)
    rw [List.drop_eq_getElem_cons hk, List.drop_eq_getElem_cons hlt, ← getDL_of hk] at hgo
    simp only [looseGo] at hgo
    cases hp : partF (ps.getD k []) with
    | none =>
      rw [hp] at hgo
      simp only at hgo
      rw [← hgo] at hR
      simp only [↓reduceIte, go_sem, hR]
      exact fin rfl rfl
    | some n =>
      rw [hp] at hgo
      simp only at hgo
      have hn := partF_in _ _ hp
      have hn0 : ¬ n < 0 := by omega
      by_cases hr : 255 < n
      · rw [if_pos hr] at hgo
        rw [← hgo] at hR
        simp only [↓reduceIte, go_sem, hR, hn0, hr]
        exact fin rfl rfl
      · rw [if_neg hr] at hgo
        have hb := room_in k
        have ha : acc < 4294967296 := Nat.lt_of_le_of_lt (Nat.le_mul_of_pos_right acc (by omega)) hacc
        have f1 : IntKind.i64.wrap ((acc : Int) * 256) = (acc : Int) * 256 := w64 (by omega) (by omega)
        have f2 : IntKind.i64.wrap ((acc : Int) * 256 + n) = ((acc * 256 + n.toNat : Nat) : Int) := by rw [w64 (by omega) (by omega)]; omega
        simp only [↓reduceIte, go_sem, hn0, hr, f1, f2, e3]
        refine rnd_next (k + 1, acc * 256 + n.toNat) ⟨hlt, room_next (by omega) hacc (by omega), ?_⟩ (by show ps.length - (k + 1) < _; omega) rfl rfl
        show looseGo (ps.drop (k + 1)) _ _ = G
        rw [List.drop_eq_getElem_cons hlt]
        exact hgo
  · simp only [↓reduceIte, go_sem, e3, hlt]
    have hkl : k + 1 = ps.length := by omega
    rw [last_drop ps k hkl] at hgo
    refine go 200 (fun _ => false) mixed ?_
    simp only [↓reduceIte, go_sem]
    refine runs_loopA (fun x : Nat => k + 1 ≤ x ∧ x ≤ 5) (fun x => 5 - x)
      [true, false, true, true, true, true, true, false, false, true, true]
      (fun x => slots 97 [.str (bs l), .any, .int .u32 0, .int .i64 0, .sl 1 (strs ps), .str (bs (lastF ps)), .int .i64 acc, .any, .any, .int .i64 (room (k + 5 - x)), .int .i64 x])
      (fun x => H) (by rfl) ps.length ⟨by omega, by omega⟩ ?_ rfl ?_
    · rw [show k + 5 - ps.length = 4 by omega]; rfl
    rintro x ⟨hx1, hx2⟩
    refine go 200 (fun _ => false) mixed ?_
    by_cases hx : (x : Int) ≤ 4
    · have hs := room_step (k + 5 - (x + 1)) (by omega)
      rw [show k + 5 - (x + 1) + 1 = k + 5 - x by omega] at hs
      have hb := room_in (k + 5 - (x + 1))
      have f1 : IntKind.i64.wrap ((room (k + 5 - x) : Int) * 256) = (room (k + 5 - (x + 1)) : Int) := by rw [w64 (by omega) (by omega)]; omega
      have f2 : IntKind.i64.wrap ((x : Int) + 1) = ((x + 1 : Nat) : Int) := by rw [w64 (by omega) (by omega)]; omega
      simp only [↓reduceIte, go_sem, hx, f1, f2]
      exact rnd_next (x + 1) ⟨by omega, by omega⟩ (by show 5 - (x + 1) < 5 - x; omega) rfl rfl
    · have hx5 : x = 5 := by omega
      subst hx5
      rw [show k + 5 - 5 = k by omega]
      simp only [↓reduceIte, go_sem, hx]
      refine go 200 (fun _ => false) mixed ?_
      simp only [↓reduceIte, go_sem]
      refine (c_abatisref02_Part (lastF ps) hlast).on (go 200 (fun _ => false) mixed ?_)
      simp only [looseGo] at hgo
      cases hp : partF (lastF ps) with
      | none =>
        rw [hp] at hgo
        simp only at hgo
        rw [← hgo] at hR
        simp only [↓reduceIte, go_sem, hR]
        exact fin rfl rfl
      | some n =>
        rw [hp] at hgo
        simp only at hgo
        have hn := partF_in _ _ hp
        have hn0 : ¬ n < 0 := by omega
        by_cases hr : (room k : Int) ≤ n
        · rw [if_pos hr] at hgo
          rw [← hgo] at hR
          simp only [↓reduceIte, go_sem, hR, hn0, hr]
          exact fin rfl rfl
        · rw [if_neg hr] at hgo
          rw [← hgo] at hR
          have hb := room_in k
          have f1 : IntKind.i64.wrap ((acc : Int) * (room k : Int)) = ((acc * room k : Nat) : Int) := by rw [← Int.natCast_mul, w64 (by omega) (by omega)]
          have f2 : IntKind.i64.wrap (((acc * room k : Nat) : Int) + n) = ((acc * room k + n.toNat : Nat) : Int) := by rw [w64 (by omega) (by omega)]; omega
          simp only [↓reduceIte, go_sem, hn0, hr, f1, f2, hR]
          exact fin rfl rfl
end Go.Proofs.GoC

/-
  What the law FourLoose computes: true, for every text. No claim by itself.
-/
namespace Go.Proofs.GoC
open Go Go.Proofs.SL
set_option linter.unusedSimpArgs false
set_option linter.unusedVariables false
set_option maxRecDepth 10000

theorem c_abatisref01_Few (l : List UInt8) (m : Nat) : PCall Tryz.prog 8 [.str (bs l), .int .i64 m] (.str (bs (l.take m))) := by
  intro H
  refine scall_of (ord := fun _ => []) (rs := [4]) Tryz.func8 rfl (by kernel_rfl) (by kernel_rfl) (by kernel_rfl) Tryz.ntmps8 fun hb _ => go 100 (fun t => false) mixed ?_
  by_cases h : m < l.length
  · have h' : m ≤ l.length := by omega
    simp only [↓reduceIte, go_sem, h, h']
    exact fin rfl rfl
  · simp only [↓reduceIte, go_sem, h]
    exact fin (by simp only [retV, List.getD_cons_succ, List.getD_cons_zero]; rw [List.take_of_length_le (by omega)]) rfl

theorem looseV_two (ps : List (List UInt8)) : ∃ a b, looseV ps = .tup [.int .u32 a, .int .i64 b] := by
  unfold looseV
  split
  · split
    · exact ⟨_, _, rfl⟩
    · split
      · exact ⟨_, _, rfl⟩
      · exact ⟨_, _, rfl⟩
  · exact ⟨_, _, rfl⟩

theorem live_is : looseV (piecesF [48, 120, 55, 102, 46, 49]) = .tup [.int .u32 2130706433, .int .i64 2] := by kernel_rfl

end Go.Proofs.GoC

/-
  What the reference's Decimal computes: a number's digits; and how digits read. No claim by itself.
-/
namespace Go.Proofs.GoC
open Go Go.Proofs.SL
set_option linter.unusedSimpArgs false
set_option linter.unusedVariables false
set_option maxRecDepth 10000

/-- A number's digits. -/
def decF (n : Nat) : List UInt8 :=
  if n < 10 then [UInt8.ofNat (48 + n % 10)] else decF (n / 10) ++ [UInt8.ofNat (48 + n % 10)]
termination_by n

theorem decF_len (n : Nat) : ∀ k, n < 10 ^ (k + 1) → (decF n).length ≤ k + 1 := by
  induction n using Nat.strongRecOn with
  | _ n ih =>
    intro k hk
    unfold decF
    split
    · simp
    · rename_i h
      cases k with
      | zero => simp at hk; omega
      | succ k =>
        have := ih (n / 10) (by omega) k (by rw [Nat.pow_succ] at hk; omega)
        simp; omega

theorem c_abatisref01_Decimal : ∀ n : Nat, n < 1000000000000000000 → PCall Tryz.prog 35 [.int .i64 n] (.str (bs (decF n))) := by
  intro n
  induction n using Nat.strongRecOn with
  | _ n ih =>
    intro hn H
    refine scall_of (ord := fun _ => []) (rs := [2]) Tryz.func35 rfl (by kernel_rfl) (by kernel_rfl) (by kernel_rfl) Tryz.ntmps35 fun hb _ => go 100 (fun t => false) mixed ?_
    have g1 : ¬ (n : Int) < -9223372036854775807 := by omega
    have g2 : ((n : Int)).tmod 10 = ((n % 10 : Nat) : Int) := rfl
    have g3 : ((n : Int)).tdiv 10 = ((n / 10 : Nat) : Int) := rfl
    have g4 : IntKind.i64.wrap (48 + ((n % 10 : Nat) : Int)) = ((48 + n % 10 : Nat) : Int) := by rw [w64 (by omega) (by omega)]; omega
    have g5 : IntKind.u8.wrap ((48 + n % 10 : Nat) : Int) = ((48 + n % 10 : Nat) : Int) := IntWalk.u8_in _ (by omega)
    have g6 : ((48 + n % 10 : Nat) : Int) < 256 := by omega
    have g7 : IntKind.i64.wrap ((n / 10 : Nat) : Int) = ((n / 10 : Nat) : Int) := w64 (by omega) (by omega)
    have e := decF.eq_1 n
    by_cases h : n < 10
    · rw [if_pos h] at e
      have h' : (n : Int) < 10 := by omega
      simp only [↓reduceIte, go_sem, g1, g2, g3, g4, g5, g6, g7, h']
      exact fin (by simp only [↓reduceIte, go_sem, e]) rfl
    · rw [if_neg h] at e
      have h' : ¬ (n : Int) < 10 := by omega
      simp only [↓reduceIte, go_sem, g1, g2, g3, g4, g5, g6, g7, h']
      refine (ih (n / 10) (by omega) (by omega)).on (go 100 (fun t => false) mixed ?_)
      have hl := decF_len (n / 10) 17 (by omega)
      simp only [↓reduceIte, go_sem]
      exact ⟨by omega, fin (by simp only [↓reduceIte, go_sem, e]) rfl⟩
end Go.Proofs.GoC

/-
  How the digits of a number are read as a part. No claim by itself.
-/
namespace Go.Proofs.GoC
open Go Go.Proofs.SL
set_option linter.unusedSimpArgs false
set_option linter.unusedVariables false
set_option maxRecDepth 10000

def sat (n : Nat) : Nat := if 4294967296 < n then 4294967296 else n

theorem digF_app (base : Int) : ∀ (l m : List UInt8) (n : Int), digF base (l ++ m) n = match digF base l n with
    | some k => digF base m k
    | none => none
  | [], m, n => rfl
  | b :: l, m, n => by
    simp only [List.cons_append, digF]
    split
    · rfl
    · exact digF_app base l m _

theorem dig_val (r : Nat) (h : r < 10) : digitV (UInt8.ofNat (48 + r)).toNat = (r : Int) := by
  have : (UInt8.ofNat (48 + r)).toNat = 48 + r := by rw [UInt8.toNat_ofNat']; omega
  rw [this]
  unfold digitV
  rw [if_pos (by omega)]
  omega

theorem digF_one (base : Int) (b : UInt8) (n : Int) (v : Nat) (hv : digitV b.toNat = v) (h : (v : Int) < base) (k : Nat) (hn : n = sat k) (b' : Nat) (hb : base = b') (hb1 : 1 ≤ b') : digF base [b] n = some ((sat (k * b' + v) : Nat) : Int) := by
  subst hn hb
  simp only [digF, hv]
  rw [if_neg (by omega)]
  have hk : 4294967296 * 1 ≤ 4294967296 * b' := Nat.mul_le_mul_left _ hb1
  by_cases h1 : 4294967296 < k
  · have h2 : 4294967297 * b' ≤ k * b' := Nat.mul_le_mul_right _ (by omega)
    have e0 : sat k = 4294967296 := if_pos h1
    have e1 : sat (k * b' + v) = 4294967296 := if_pos (by omega)
    rw [e0, e1]
    congr 1
    split
    · rfl
    · rename_i h3
      omega
  · have e0 : sat k = k := if_neg h1
    rw [e0]
    congr 1
    have : ((k * b' + v : Nat) : Int) = (k : Int) * (b' : Int) + v := by rw [Int.natCast_add, Int.natCast_mul]
    rw [← this]
    unfold sat
    split <;> split <;> omega

theorem dig_dec (n : Nat) : digF 10 (decF n) 0 = some ((sat n : Nat) : Int) := by
  induction n using Nat.strongRecOn with
  | _ n ih =>
    rw [decF.eq_1]
    split
    · rename_i h
      have := digF_one 10 (UInt8.ofNat (48 + n % 10)) 0 (n % 10) (dig_val _ (by omega)) (by omega) 0 rfl 10 rfl (by omega)
      rw [this]
      congr 2
      unfold sat
      split <;> split <;> omega
    · rename_i h
      rw [digF_app, ih (n / 10) (by omega)]
      have := digF_one 10 (UInt8.ofNat (48 + n % 10)) (sat (n / 10) : Nat) (n % 10) (dig_val _ (by omega)) (by omega) (n / 10) rfl 10 rfl (by omega)
      simp only [this]
      congr 3
      omega

theorem decF_digits (n : Nat) : ∀ b ∈ decF n, 48 ≤ b.toNat ∧ b.toNat ≤ 57 := by
  have one : ∀ r, r < 10 → 48 ≤ (UInt8.ofNat (48 + r)).toNat ∧ (UInt8.ofNat (48 + r)).toNat ≤ 57 := fun r hr => by rw [UInt8.toNat_ofNat']; omega
  induction n using Nat.strongRecOn with
  | _ n ih =>
    rw [decF.eq_1]
    split
    · intro b hb; simp only [List.mem_singleton] at hb; subst hb; exact one _ (by omega)
    · intro b hb
      simp only [List.mem_append, List.mem_singleton] at hb
      rcases hb with hb | rfl
      · exact ih (n / 10) (by omega) b hb
      · exact one _ (by omega)

theorem decF_head (n : Nat) (h : 0 < n) : ∃ a t, decF n = a :: t ∧ a ≠ 48 := by
  induction n using Nat.strongRecOn with
  | _ n ih =>
    rw [decF.eq_1]
    split
    · rename_i h10
      refine ⟨_, [], rfl, fun e => ?_⟩
      have := congrArg UInt8.toNat e
      rw [UInt8.toNat_ofNat'] at this
      have h48 : (48 : UInt8).toNat = 48 := rfl
      omega
    · obtain ⟨a, t, e, ha⟩ := ih (n / 10) (by omega) (by omega)
      rw [e]
      exact ⟨a, _, rfl, ha⟩

theorem decF_ne (n : Nat) : decF n ≠ [] := by
  rw [decF.eq_1]; split <;> simp

theorem part_dec (n : Nat) : partF (decF n) = some ((sat n : Nat) : Int) := by
  rw [← dig_dec]
  rcases Nat.eq_zero_or_pos n with rfl | h
  · rw [decF.eq_1]; rfl
  · obtain ⟨a, t, e, ha⟩ := decF_head n h
    rw [e]
    cases t with
    | nil => rfl
    | cons b t => simp [partF, ha]

theorem split_run (sep : UInt8) : ∀ (l m : List UInt8) (acc : List (List UInt8)) (cur : List UInt8), (∀ b ∈ l, b ≠ sep) → splitA sep (l ++ m) acc cur = splitA sep m acc (cur ++ l)
  | [], m, acc, cur, h => by simp
  | b :: l, m, acc, cur, h => by
    simp only [List.cons_append, splitA]
    rw [if_neg (h b (by simp)), split_run sep l m acc _ (fun c hc => h c (List.mem_cons_of_mem _ hc))]
    simp

theorem dec_no (n : Nat) : ∀ b ∈ decF n, b ≠ 46 := fun b hb e => by
  have := decF_digits n b hb
  subst e
  have h : (46 : UInt8).toNat = 46 := rfl
  omega

/-- The parts of two numbers with a dot between. -/
theorem split_2 (x : Nat) (l : List UInt8) : splitA 46 (decF x ++ 46 :: l) [] [] = splitA 46 l [decF x] [] := by
  rw [split_run 46 _ _ _ _ (dec_no x)]
  simp [splitA]
theorem split_3 (x y : Nat) (l : List UInt8) : splitA 46 (decF x ++ 46 :: (decF y ++ 46 :: l)) [] [] = splitA 46 l [decF x, decF y] [] := by
  rw [split_2, split_run 46 _ _ _ _ (dec_no y)]
  simp [splitA]
theorem split_end (acc : List (List UInt8)) (l : List UInt8) (h : ∀ b ∈ l, b ≠ 46) : splitA 46 l acc [] = acc ++ [l] := by
  have := split_run 46 l [] acc [] h
  rw [List.append_nil] at this
  rw [this]
  simp [splitA]

end Go.Proofs.GoC
