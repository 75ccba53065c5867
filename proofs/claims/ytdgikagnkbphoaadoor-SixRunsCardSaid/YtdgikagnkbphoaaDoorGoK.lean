/-
  What the reference's Decimal computes: a number's digits; and how digits read. No claim by itself.
-/
import Derived.Test.YtdgikagnkbphoaaDoorGoJ
namespace Go.Proofs.GoC
open Go Go.Proofs.SL
set_option linter.unusedSimpArgs false
set_option linter.unusedVariables false
set_option maxRecDepth 10000

/-- A number's digits. -/
def decF (n : Nat) : List UInt8 :=
  if n < 10 then [UInt8.ofNat (48 + n % 10)] else decF (n / 10) ++ [UInt8.ofNat (48 + n % 10)]
termination_by n

theorem decF_len (n : Nat) : ∀ k, n < 10 ^ (k + 1) → (decF n).length ≤ k + 1 := by
  induction n using Nat.strongRecOn with
  | _ n ih =>
    intro k hk
    unfold decF
    split
    · simp
    · rename_i h
      cases k with
      | zero => simp at hk; omega
      | succ k =>
        have := ih (n / 10) (by omega) k (by rw [Nat.pow_succ] at hk; omega)
        simp; omega

theorem c_abatisref01_Decimal : ∀ n : Nat, n < 1000000000000000000 → PCall Tryd.prog 22 [.int .i64 n] (.str (bs (decF n))) := by
  intro n
  induction n using Nat.strongRecOn with
  | _ n ih =>
    intro hn H
    refine scall_of (ord := fun _ => []) (rs := [2]) Tryd.func22 rfl (by kernel_rfl) (by kernel_rfl) (by kernel_rfl) Tryd.ntmps22 fun hb _ => go 100 (fun t => false) mixed ?_
    have g1 : ¬ (n : Int) < -9223372036854775807 := by omega
    have g2 : ((n : Int)).tmod 10 = ((n % 10 : Nat) : Int) := rfl
    have g3 : ((n : Int)).tdiv 10 = ((n / 10 : Nat) : Int) := rfl
    have g4 : IntKind.i64.wrap (48 + ((n % 10 : Nat) : Int)) = ((48 + n % 10 : Nat) : Int) := by rw [w64 (by omega) (by omega)]; omega
    have g5 : IntKind.u8.wrap ((48 + n % 10 : Nat) : Int) = ((48 + n % 10 : Nat) : Int) := IntWalk.u8_in _ (by omega)
    have g6 : ((48 + n % 10 : Nat) : Int) < 256 := by omega
    have g7 : IntKind.i64.wrap ((n / 10 : Nat) : Int) = ((n / 10 : Nat) : Int) := w64 (by omega) (by omega)
    have e := decF.eq_1 n
    by_cases h : n < 10
    · rw [if_pos h] at e
      have h' : (n : Int) < 10 := by omega
      simp only [↓reduceIte, go_sem, g1, g2, g3, g4, g5, g6, g7, h']
      exact fin (by simp only [↓reduceIte, go_sem, e]) rfl
    · rw [if_neg h] at e
      have h' : ¬ (n : Int) < 10 := by omega
      simp only [↓reduceIte, go_sem, g1, g2, g3, g4, g5, g6, g7, h']
      refine (ih (n / 10) (by omega) (by omega)).on (go 100 (fun t => false) mixed ?_)
      have hl := decF_len (n / 10) 17 (by omega)
      simp only [↓reduceIte, go_sem]
      exact ⟨by omega, fin (by simp only [↓reduceIte, go_sem, e]) rfl⟩
end Go.Proofs.GoC
