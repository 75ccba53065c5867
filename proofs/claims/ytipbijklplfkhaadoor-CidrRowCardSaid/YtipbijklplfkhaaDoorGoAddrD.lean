/-
  The laws AddrRound, AddrMaps, AddrBits, AddrRow, AddrTexts. No claim by itself.
-/
import Derived.Test.YtipbijklplfkhaaDoorGoAddrC
namespace Go.Proofs.GoC
open Go Go.Proofs.SL
set_option linter.unusedSimpArgs false
set_option linter.unusedVariables false
set_option maxRecDepth 10000
set_option maxHeartbeats 8000000

theorem unmap_unmap {a : Int × List Nat} (h : GoodA a) : unmapP (unmapP a.1 a.2).1 (unmapP a.1 a.2).2 = unmapP a.1 a.2 := by
  by_cases hc : a.1 = 6 ∧ a.2.take 12 = pre12
  · have e : unmapP a.1 a.2 = (4, a.2.drop 12 ++ z12) := if_pos hc
    rw [e]; rfl
  · have e : unmapP a.1 a.2 = (a.1, a.2) := if_neg hc
    rw [e]; exact e
theorem unmap_map {a : Int × List Nat} (h : GoodA a) : unmapP (mapP a.1 a.2).1 (mapP a.1 a.2).2 = unmapP a.1 a.2 := by
  obtain ⟨f, l⟩ := a
  obtain ⟨hl, hle, hk⟩ := h
  dsimp only at hl hk ⊢
  rcases hk with ⟨rfl, hz⟩ | rfl
  · obtain ⟨a0, a1, a2, a3, a4, a5, a6, a7, a8, a9, b0, b1, b2, b3, b4, b5, rfl⟩ := len16 hl
    simp only [z12, List.take_succ_cons, List.take_zero, List.cons_append, List.nil_append, List.cons.injEq, true_and, and_true] at hz
    obtain ⟨rfl, rfl, rfl, rfl, rfl, rfl, rfl, rfl, rfl, rfl, rfl, rfl⟩ := hz
    rfl
  · rfl
theorem unmap_four {a : Int × List Nat} (h4 : a.1 = 4) : (mapP a.1 a.2).1 = 6 ∧ unmapP a.1 a.2 = a := by
  obtain ⟨f, l⟩ := a
  dsimp only at h4
  subst h4
  exact ⟨rfl, rfl⟩

/-! The row of addresses. -/
theorem cmpI_neg (a b : Int) : cmpI b a = - cmpI a b := by unfold cmpI; split <;> split <;> (try split) <;> omega
theorem cmpI_zero (a b : Int) : cmpI a b = 0 ↔ a = b := by unfold cmpI; constructor <;> intro h <;> (split at * <;> (try split at *) <;> omega)
theorem cmpB_neg : ∀ a b : List Nat, cmpB b a = - cmpB a b
  | [], [] => rfl
  | [], _ :: _ => rfl
  | _ :: _, [] => rfl
  | x :: a, y :: b => by
    have := cmpB_neg a b
    simp only [cmpB]
    by_cases h1 : x < y
    · rw [if_pos h1, if_neg (by omega), if_pos h1]; rfl
    · by_cases h2 : y < x
      · rw [if_pos h2, if_neg h1, if_pos h2]
      · rw [if_neg h2, if_neg h1, if_neg h1, if_neg h2, this]
theorem cmpB_zero : ∀ a b : List Nat, cmpB a b = 0 ↔ a = b
  | [], [] => by simp [cmpB]
  | [], _ :: _ => by simp [cmpB]
  | _ :: _, [] => by simp [cmpB]
  | x :: a, y :: b => by
    have := cmpB_zero a b
    simp only [cmpB, List.cons.injEq]
    by_cases h1 : x < y
    · rw [if_pos h1]; constructor
      · intro h; omega
      · rintro ⟨h, _⟩; omega
    · by_cases h2 : y < x
      · rw [if_neg h1, if_pos h2]; constructor
        · intro h; omega
        · rintro ⟨h, _⟩; omega
      · rw [if_neg h1, if_neg h2, this]
        exact ⟨fun h => ⟨by omega, h⟩, fun h => h.2⟩
theorem cmpB_trans : ∀ a b c : List Nat, cmpB a b ≤ 0 → cmpB b c ≤ 0 → cmpB a c ≤ 0
  | [], _, [], _, _ => by simp [cmpB]
  | [], _, _ :: _, _, _ => by simp [cmpB]
  | _ :: _, [], _, h, _ => by simp [cmpB] at h
  | _ :: _, _ :: _, [], _, h => by simp [cmpB] at h
  | x :: a, y :: b, z :: c, h1, h2 => by
    have ih := cmpB_trans a b c
    simp only [cmpB] at *
    split at h1
    · split at h2
      · rw [if_pos (by omega)]; omega
      · split at h2
        · omega
        · rw [if_pos (by omega)]; omega
    · split at h1
      · omega
      · split at h2
        · rw [if_pos (by omega)]; omega
        · split at h2
          · omega
          · rw [if_neg (by omega), if_neg (by omega)]; exact ih h1 h2
theorem cmpA_neg (f : Int) (l : List Nat) (g : Int) (m : List Nat) : cmpA g m f l = - cmpA f l g m := by
  unfold cmpA
  rw [cmpI_neg f g, cmpB_neg l m]
  split <;> split <;> omega
theorem cmpA_zero (f : Int) (l : List Nat) (g : Int) (m : List Nat) : cmpA f l g m = 0 ↔ f = g ∧ l = m := by
  have h1 := cmpI_zero f g
  have h2 := cmpB_zero l m
  unfold cmpA
  split
  · rw [h2]; exact ⟨fun h => ⟨h1.mp ‹_›, h⟩, fun h => h.2⟩
  · exact ⟨fun h => absurd h ‹_›, fun h => absurd (h1.mpr h.1) ‹_›⟩
theorem cmpA_trans (f : Int) (l : List Nat) (g : Int) (m : List Nat) (h : Int) (n : List Nat) (h1 : cmpA f l g m ≤ 0) (h2 : cmpA g m h n ≤ 0) : cmpA f l h n ≤ 0 := by
  have hB := cmpB_trans l m n
  unfold cmpA cmpI at *
  by_cases c1 : f < g
  · simp only [c1, if_true] at h1
    by_cases c2 : g < h
    · simp [show f < h by omega]
    · by_cases c3 : h < g
      · simp [c2, c3] at h2
      · simp [show f < h by omega]
  · by_cases c1' : g < f
    · simp [c1, c1'] at h1
    · by_cases c2 : g < h
      · simp [show f < h by omega]
      · by_cases c3 : h < g
        · simp [c2, c3] at h2
        · simp [c1, c1'] at h1
          simp [c2, c3] at h2
          simp [show ¬ f < h by omega, show ¬ h < f by omega]
          exact hB h1 h2
theorem cmpA_in (f : Int) (l : List Nat) (g : Int) (m : List Nat) : cmpA f l g m = -1 ∨ cmpA f l g m = 0 ∨ cmpA f l g m = 1 := by
  have hb : ∀ a b : List Nat, cmpB a b = -1 ∨ cmpB a b = 0 ∨ cmpB a b = 1 := by
    intro a
    induction a with
    | nil => intro b; cases b <;> simp [cmpB]
    | cons x a ih =>
      intro b
      cases b with
      | nil => simp [cmpB]
      | cons y b =>
        simp only [cmpB]
        split
        · omega
        · split
          · omega
          · exact ih b
  have := hb l m
  have hi : cmpI f g = -1 ∨ cmpI f g = 0 ∨ cmpI f g = 1 := by unfold cmpI; split <;> (try split) <;> omega
  unfold cmpA
  split
  · exact this
  · exact hi

theorem good_text {a b : Int × List Nat} (ha : GoodA a) (hb : GoodA b) : printA a.1 a.2 = printA b.1 b.2 ↔ a = b := by
  constructor
  · intro h
    have h1 := parse_printA ha
    have h2 := parse_printA hb
    rw [h, h2] at h1
    exact (Option.some.inj h1).symm
  · intro h; rw [h]

end Go.Proofs.GoC
