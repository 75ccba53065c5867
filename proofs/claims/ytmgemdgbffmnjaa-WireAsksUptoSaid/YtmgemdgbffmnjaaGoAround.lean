/-
  What the functions compute: a number made one below another. No claim by itself.
-/
import Derived.Test.YtmgemdgbffmnjaaGoStd
namespace Go.Proofs.GoC
open Go Go.Proofs.SL
set_option linter.unusedSimpArgs false
set_option linter.unusedVariables false
set_option maxRecDepth 10000
set_option maxHeartbeats 4000000

def aroundF (n : Int) (m : Nat) : Nat := (if n < 0 then (-(n + 1)).toNat else n.toNat) % m
theorem aroundF_lt (n : Int) {m : Nat} (h : 0 < m) : aroundF n m < m := Nat.mod_lt _ h
theorem c_abatisref01_Around (n : Int) (h1 : -9223372036854775808 ≤ n) (h2 : n ≤ 9223372036854775807) (m : Nat) (hm : 0 < m) : PCall Try.prog 17 [.int .i64 n, .int .i64 m] (.int .i64 (aroundF n m : Nat)) := by
  intro H
  refine scall_of (ord := fun _ => []) (rs := [4]) Try.func17 rfl (by kernel_rfl) (by kernel_rfl) (by kernel_rfl) Try.ntmps17 fun hb hargs => go 200 (fun _ => false) mixed ?_
  have hm0 : ¬ (m : Int) = 0 := by omega
  by_cases h0 : n < 0
  · obtain ⟨k, hk⟩ : ∃ k : Nat, -(n + 1) = k := ⟨(-(n + 1)).toNat, by omega⟩
    have e0 : (0 : Int) - (n + 1) = k := by omega
    have e1 : aroundF n m = k % m := by unfold aroundF; rw [if_pos h0, hk]; rfl
    rw [e1]
    simp (disch := omega) only [↓reduceIte, go_sem, h0, e0, hm0] <;> repeat with_reducible refine And.intro (by first | omega | decide) ?_
    exact fin rfl rfl
  · obtain ⟨k, rfl⟩ : ∃ k : Nat, n = k := ⟨n.toNat, by omega⟩
    have e1 : aroundF k m = k % m := by unfold aroundF; rw [if_neg (by omega)]; rfl
    rw [e1]
    simp (disch := omega) only [↓reduceIte, go_sem, hm0] <;> repeat with_reducible refine And.intro (by first | omega | decide) ?_
    exact fin rfl rfl
end Go.Proofs.GoC
