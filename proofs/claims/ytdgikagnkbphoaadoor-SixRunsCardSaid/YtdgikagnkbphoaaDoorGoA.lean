/-
  What the functions compute, part one. No claim by itself.
-/
import Derived.Test.YtdgikagnkbphoaaDoorTab
import Derived.Test.YtdgikagnkbphoaaDoorSlStr
namespace Go.Proofs.GoC
open Go Go.Proofs.SL
set_option linter.unusedSimpArgs false
set_option linter.unusedVariables false
set_option maxRecDepth 10000

theorem mixed : Tryd.prog.follows .mixedOrders = true := by kernel_rfl

/-- A digit's number; -1: it is none. -/
def digitV (b : Int) : Int :=
  if 48 ≤ b ∧ b ≤ 57 then b - 48 else if 97 ≤ b ∧ b ≤ 102 then b - 87 else if 65 ≤ b ∧ b ≤ 70 then b - 55 else -1

theorem c_abatisref01_digit (b : Int) (h : 0 ≤ b ∧ b < 256) : PCall Tryd.prog 60 [.int .u8 b] (.int .i64 (digitV b)) := by
  intro H
  refine scall_of (ord := fun _ => []) (rs := [2]) Tryd.func60 rfl (by kernel_rfl) (by kernel_rfl) (by kernel_rfl) Tryd.ntmps60 fun hb _ => go 100 (fun _ => false) mixed ?_
  simp only [↓reduceIte, go_sem]
  repeat' (first | intro _ | with_reducible apply And.intro)
  all_goals (refine fin ?_ rfl; simp only [↓reduceIte, go_sem, PV.int.injEq, true_and, digitV, IntKind.wrap_i64]; repeat' split) <;> omega

/-- The number of digits from here on, n before; none: there is none. -/
def numF (base : Int) : List UInt8 → Int → Option Int
  | [], n => some n
  | b :: l, n => if digitV b.toNat < 0 ∨ base ≤ digitV b.toNat then none else if 1099511627776 < n * base + digitV b.toNat then none else numF base l (n * base + digitV b.toNat)

def numV (base : Int) (l : List UInt8) : PV :=
  match numF base l 0 with
  | some n => .tup [.int .i64 n, .bool (decide (0 < l.length))]
  | none => .tup [.int .i64 0, .bool false]

theorem digitV_le (b : Int) : -1 ≤ digitV b ∧ digitV b ≤ 15 := by unfold digitV; (repeat' split) <;> omega

theorem c_abatisref01_Number (l : List UInt8) (base : Int) (h1 : 0 ≤ base) (h2 : base ≤ 16) (hl : l.length < 1000000) : PCall Tryd.prog 47 [.str (bs l), .int .i64 base] (numV base l) := by
  intro H
  refine scall_of (ord := fun _ => []) (rs := [4, 5]) Tryd.func47 rfl (by kernel_rfl) (by kernel_rfl) (by kernel_rfl) Tryd.ntmps47 fun hb _ => go 100 (fun _ => false) mixed ?_
  simp only [↓reduceIte, go_sem]
  refine runs_loopA (fun x : Nat × Int => x.1 ≤ l.length ∧ 0 ≤ x.2 ∧ x.2 ≤ 1099511627776 ∧ numF base (l.drop x.1) x.2 = numF base l 0) (fun x => l.length - x.1) [true, true, false, false, true, true, true, true]
    (fun x => slots 37 [.str (bs l), .int .i64 base, .any, .any, .int .i64 0, .bool false, .int .i64 x.2, .int .i64 x.1]) (fun _ => H) (by rfl) (0, 0) ⟨Nat.zero_le _, by omega, by omega, rfl⟩ rfl rfl ?_
  rintro ⟨k, n⟩ ⟨hk, hn0, hn1, hnum⟩
  refine go 100 (fun _ => false) mixed ?_
  simp only [↓reduceIte, go_sem]
  have hk : k ≤ l.length := hk
  have hn0 : 0 ≤ n := hn0
  have hn1 : n ≤ 1099511627776 := hn1
  have hnum : numF base (l.drop k) n = numF base l 0 := hnum
  obtain ⟨R, hR⟩ : ∃ R, R = numF base l 0 := ⟨_, rfl⟩
  rw [← hR] at hnum
  refine ⟨fun hlt => ?_, fun hge => ?_⟩
  · have hkl : k < l.length := by omega
    refine ⟨hlt, (c_abatisref01_digit _ (byte_in _)).on (go 100 (fun _ => false) mixed ?_)⟩
    have hd := digitV_le (l.getD k 0).toNat
    rw [List.drop_eq_getElem_cons hkl] at hnum
    have hgk : l[k] = l.getD k 0 := by simp [List.getD_eq_getElem?_getD, hkl]
    rw [hgk] at hnum
    generalize (l.getD k 0) = b at *
    unfold numF at hnum
    generalize digitV b.toNat = v at *
    have hm0 : 0 ≤ n * base := Int.mul_nonneg hn0 h1
    have hm1 : n * base ≤ 1099511627776 * 16 := Int.mul_le_mul hn1 h2 h1 (by omega)
    have e1 : IntKind.i64.wrap (n * base) = n * base := w64 (by omega) (by omega)
    have e2 : IntKind.i64.wrap (n * base + v) = n * base + v := w64 (by omega) (by omega)
    have e3 : IntKind.i64.wrap ((k : Int) + 1) = ((k + 1 : Nat) : Int) := by rw [w64 (by omega) (by omega)]; omega
    simp only [↓reduceIte, go_sem, e1, e2, e3]
    refine ⟨fun h => ⟨fun h' => ?_, fun h' => ⟨fun h'' => ?_, fun h'' => ?_⟩⟩, fun h => ?_⟩
    · refine fin ?_ rfl
      rw [if_pos (Or.inr h')] at hnum
      simp only [↓reduceIte, go_sem, numV, ← hR, ← hnum]
    · refine fin ?_ rfl
      rw [if_neg (by omega), if_pos h''] at hnum
      simp only [↓reduceIte, go_sem, numV, ← hR, ← hnum]
    · rw [if_neg (by omega), if_neg h''] at hnum
      exact rnd_next (k + 1, n * base + v) ⟨by omega, by omega, by omega, hnum.trans hR⟩ (by simp only; omega) rfl rfl
    · refine fin ?_ rfl
      rw [if_pos (Or.inl (by omega))] at hnum
      simp only [↓reduceIte, go_sem, numV, ← hR, ← hnum]
  · have hkl : l.length ≤ k := by omega
    rw [List.drop_eq_nil_of_le hkl] at hnum
    unfold numF at hnum
    refine go 100 (fun _ => false) mixed ?_
    simp only [↓reduceIte, go_sem]
    refine fin ?_ rfl
    simp only [↓reduceIte, go_sem, numV, ← hR, ← hnum]
    have : decide ((0 : Int) < (l.length : Int)) = decide (0 < l.length) := by rw [decide_eq_decide]; omega
    rw [this]
end Go.Proofs.GoC

