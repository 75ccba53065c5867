/-
  What the functions compute, part two. No claim by itself.
-/
import Derived.Test.YtdgikagnkbphoaaDoorGoA
namespace Go.Proofs.GoC
open Go Go.Proofs.SL
set_option linter.unusedSimpArgs false
set_option linter.unusedVariables false
set_option maxRecDepth 10000

theorem c_text_digit (b : Int) : PCall Tryd.prog 70 [.int .i32 b] (.bool (decide (48 ≤ b ∧ b ≤ 57))) := by
  intro H
  refine scall_of (ord := fun _ => []) (rs := [2]) Tryd.func70 rfl (by kernel_rfl) (by kernel_rfl) (by kernel_rfl) Tryd.ntmps70 fun hb _ => go 100 (fun _ => false) mixed ?_
  simp only [↓reduceIte, go_sem]
  refine ⟨fun h => fin ?_ rfl, fun h => fin ?_ rfl⟩ <;> simp only [↓reduceIte, go_sem, h]

theorem c_text_value (c : Int) (h : 0 ≤ c ∧ c ≤ 2147483647) : PCall Tryd.prog 59 [.int .i32 c] (.int .i64 (digitV c)) := by
  intro H
  refine scall_of (ord := fun _ => []) (rs := [2]) Tryd.func59 rfl (by kernel_rfl) (by kernel_rfl) (by kernel_rfl) Tryd.ntmps59 fun hb _ => go 100 (fun _ => false) mixed ?_
  simp only [↓reduceIte, go_sem]
  refine (c_text_digit c).on (go 100 (fun _ => false) mixed ?_)
  simp only [↓reduceIte, go_sem]
  repeat' (first | intro _ | with_reducible apply And.intro)
  all_goals (refine fin ?_ rfl; simp only [↓reduceIte, go_sem, PV.int.injEq, true_and, digitV, IntKind.wrap_i64, IntKind.wrap_i32]; repeat' split) <;> omega

theorem c_text_Number (l : List UInt8) (base : Int) (h1 : 0 ≤ base) (h2 : base ≤ 16) (hl : l.length < 1000000) : PCall Tryd.prog 46 [.str (bs l), .int .i64 base] (numV base l) := by
  intro H
  refine scall_of (ord := fun _ => []) (rs := [4, 5]) Tryd.func46 rfl (by kernel_rfl) (by kernel_rfl) (by kernel_rfl) Tryd.ntmps46 fun hb _ => go 100 (fun _ => false) mixed ?_
  simp only [↓reduceIte, go_sem]
  obtain ⟨R, hR⟩ : ∃ R, R = numF base l 0 := ⟨_, rfl⟩
  refine runs_loopA (fun x : Nat × Int => x.1 ≤ l.length ∧ 0 ≤ x.2 ∧ x.2 ≤ 1099511627776 ∧ numF base (l.drop x.1) x.2 = R) (fun x => l.length - x.1) [true, true, false, false, true, true, true, false, false, false, false, true]
    (fun x => slots 34 [.str (bs l), .int .i64 base, .any, .any, .int .i64 0, .bool false, .int .i64 x.2, .any, .any, .any, .any, .ptr H.length 0 0]) (fun x => H ++ [some (.striter (bs l) x.1)]) (by rfl) (0, 0) ⟨Nat.zero_le _, by omega, by omega, hR.symm⟩ rfl rfl ?_
  rintro ⟨k, n⟩ ⟨hk, hn0, hn1, hnum⟩
  have hk : k ≤ l.length := hk
  have hn0 : 0 ≤ n := hn0
  have hn1 : n ≤ 1099511627776 := hn1
  have hnum : numF base (l.drop k) n = R := hnum
  refine go 100 (fun _ => false) mixed ?_
  simp only [↓reduceIte, go_sem]
  refine ⟨fun hlt => ?_, fun hge => ?_⟩
  · have hle := dec_le l k
    refine (c_text_value _ ⟨by omega, by omega⟩).on (go 100 (fun _ => false) mixed ?_)
    rw [List.drop_eq_getElem_cons hlt] at hnum
    have hgk : l[k] = l.getD k 0 := (getD_of hlt).symm
    rw [hgk] at hnum
    unfold numF at hnum
    have key : digitV (Utf8.decode (bs l) k).1 = digitV (l.getD k 0).toNat ∧ (0 ≤ digitV (l.getD k 0).toNat → (Utf8.decode (bs l) k).2 = 1) := by
      by_cases hlow : (l.getD k 0).toNat < 128
      · rw [dec_low hlt hlow]; exact ⟨rfl, fun _ => rfl⟩
      · have h1 := (dec_high hlt (by omega)).1
        have : ∀ c : Int, 128 ≤ c → digitV c = -1 := fun c hc => by unfold digitV; (repeat' split) <;> omega
        rw [this _ (by omega), this _ (by omega)]
        exact ⟨rfl, fun h => by omega⟩
    obtain ⟨k1, k2⟩ := key
    rw [k1]
    have hd := digitV_le (l.getD k 0).toNat
    generalize (l.getD k 0) = b at *
    generalize digitV b.toNat = v at *
    have hm0 : 0 ≤ n * base := Int.mul_nonneg hn0 h1
    have hm1 : n * base ≤ 1099511627776 * 16 := Int.mul_le_mul hn1 h2 h1 (by omega)
    have e1 : IntKind.i64.wrap (n * base) = n * base := w64 (by omega) (by omega)
    have e2 : IntKind.i64.wrap (n * base + v) = n * base + v := w64 (by omega) (by omega)
    simp only [↓reduceIte, go_sem, e1, e2]
    refine ⟨fun h => ⟨fun h' => ?_, fun h' => ⟨fun h'' => ?_, fun h'' => ?_⟩⟩, fun h => ?_⟩
    · rw [if_pos (Or.inr h')] at hnum
      refine fin_drop (.inr rfl) hb ?_ ?_ <;> simp [go_sem, numV, ← hR, ← hnum]
    · rw [if_neg (by omega), if_pos h''] at hnum
      refine fin_drop (.inr rfl) hb ?_ ?_ <;> simp [go_sem, numV, ← hR, ← hnum]
    · rw [if_neg (by omega), if_neg h''] at hnum
      rw [k2 (by omega)]
      exact rnd_next (k + 1, n * base + v) ⟨by show k + 1 ≤ _; omega, by show 0 ≤ n * base + v; omega, by show n * base + v ≤ _; omega, hnum⟩ (by simp only; omega) rfl rfl
    · rw [if_pos (Or.inl (by omega))] at hnum
      refine fin_drop (.inr rfl) hb ?_ ?_ <;> simp [go_sem, numV, ← hR, ← hnum]
  · have hkl : l.length ≤ k := by omega
    rw [List.drop_eq_nil_of_le hkl] at hnum
    unfold numF at hnum
    refine go 100 (fun _ => false) mixed ?_
    simp only [↓reduceIte, go_sem]
    have : (!decide (l = [])) = decide (0 < l.length) := by cases l <;> simp
    refine fin_drop (.inr rfl) hb ?_ ?_ <;> simp [go_sem, numV, ← hR, ← hnum, this]
end Go.Proofs.GoC
