/-
  Orders: of numbers, of rows of bytes, of addresses, of texts. No program in sight. No claim by itself.
-/
import Derived.Test.YtcmbnoloimdlaaaGoCmp
namespace Go.Proofs.GoC
open Go Go.Proofs.SL
set_option linter.unusedSimpArgs false
set_option linter.unusedVariables false

theorem cmpI_neg (a b : Int) : cmpI b a = - cmpI a b := by unfold cmpI; split <;> split <;> (try split) <;> omega
theorem cmpI_zero (a b : Int) : cmpI a b = 0 ↔ a = b := by unfold cmpI; constructor <;> intro h <;> (split at * <;> (try split at *) <;> omega)
theorem cmpB_neg : ∀ a b : List Nat, cmpB b a = - cmpB a b
  | [], [] => rfl
  | [], _ :: _ => rfl
  | _ :: _, [] => rfl
  | x :: a, y :: b => by
    have := cmpB_neg a b
    simp only [cmpB]
    by_cases h1 : x < y
    · rw [if_pos h1, if_neg (by omega), if_pos h1]; rfl
    · by_cases h2 : y < x
      · rw [if_pos h2, if_neg h1, if_pos h2]
      · rw [if_neg h2, if_neg h1, if_neg h1, if_neg h2, this]
theorem cmpB_zero : ∀ a b : List Nat, cmpB a b = 0 ↔ a = b
  | [], [] => by simp [cmpB]
  | [], _ :: _ => by simp [cmpB]
  | _ :: _, [] => by simp [cmpB]
  | x :: a, y :: b => by
    have := cmpB_zero a b
    simp only [cmpB, List.cons.injEq]
    by_cases h1 : x < y
    · rw [if_pos h1]; constructor
      · intro h; omega
      · rintro ⟨h, _⟩; omega
    · by_cases h2 : y < x
      · rw [if_neg h1, if_pos h2]; constructor
        · intro h; omega
        · rintro ⟨h, _⟩; omega
      · rw [if_neg h1, if_neg h2, this]
        exact ⟨fun h => ⟨by omega, h⟩, fun h => h.2⟩
theorem cmpB_trans : ∀ a b c : List Nat, cmpB a b ≤ 0 → cmpB b c ≤ 0 → cmpB a c ≤ 0
  | [], _, [], _, _ => by simp [cmpB]
  | [], _, _ :: _, _, _ => by simp [cmpB]
  | _ :: _, [], _, h, _ => by simp [cmpB] at h
  | _ :: _, _ :: _, [], _, h => by simp [cmpB] at h
  | x :: a, y :: b, z :: c, h1, h2 => by
    have ih := cmpB_trans a b c
    simp only [cmpB] at *
    split at h1
    · split at h2
      · rw [if_pos (by omega)]; omega
      · split at h2
        · omega
        · rw [if_pos (by omega)]; omega
    · split at h1
      · omega
      · split at h2
        · rw [if_pos (by omega)]; omega
        · split at h2
          · omega
          · rw [if_neg (by omega), if_neg (by omega)]; exact ih h1 h2
theorem cmpA_neg (f : Int) (l : List Nat) (g : Int) (m : List Nat) : cmpA g m f l = - cmpA f l g m := by
  unfold cmpA
  rw [cmpI_neg f g, cmpB_neg l m]
  split <;> split <;> omega
theorem cmpA_zero (f : Int) (l : List Nat) (g : Int) (m : List Nat) : cmpA f l g m = 0 ↔ f = g ∧ l = m := by
  have h1 := cmpI_zero f g
  have h2 := cmpB_zero l m
  unfold cmpA
  split
  · rw [h2]; exact ⟨fun h => ⟨h1.mp ‹_›, h⟩, fun h => h.2⟩
  · exact ⟨fun h => absurd h ‹_›, fun h => absurd (h1.mpr h.1) ‹_›⟩
theorem cmpA_trans (f : Int) (l : List Nat) (g : Int) (m : List Nat) (h : Int) (n : List Nat) (h1 : cmpA f l g m ≤ 0) (h2 : cmpA g m h n ≤ 0) : cmpA f l h n ≤ 0 := by
  have hB := cmpB_trans l m n
  unfold cmpA cmpI at *
  by_cases c1 : f < g
  · simp only [c1, if_true] at h1
    by_cases c2 : g < h
    · simp [show f < h by omega]
    · by_cases c3 : h < g
      · simp [c2, c3] at h2
      · simp [show f < h by omega]
  · by_cases c1' : g < f
    · simp [c1, c1'] at h1
    · by_cases c2 : g < h
      · simp [show f < h by omega]
      · by_cases c3 : h < g
        · simp [c2, c3] at h2
        · simp [c1, c1'] at h1
          simp [c2, c3] at h2
          simp [show ¬ f < h by omega, show ¬ h < f by omega]
          exact hB h1 h2
theorem cmpA_in (f : Int) (l : List Nat) (g : Int) (m : List Nat) : cmpA f l g m = -1 ∨ cmpA f l g m = 0 ∨ cmpA f l g m = 1 := by
  have hb : ∀ a b : List Nat, cmpB a b = -1 ∨ cmpB a b = 0 ∨ cmpB a b = 1 := by
    intro a
    induction a with
    | nil => intro b; cases b <;> simp [cmpB]
    | cons x a ih =>
      intro b
      cases b with
      | nil => simp [cmpB]
      | cons y b =>
        simp only [cmpB]
        split
        · omega
        · split
          · omega
          · exact ih b
  have := hb l m
  have hi : cmpI f g = -1 ∨ cmpI f g = 0 ∨ cmpI f g = 1 := by unfold cmpI; split <;> (try split) <;> omega
  unfold cmpA
  split
  · exact this
  · exact hi

/-- What comes first, of two: an order. -/
structure Ord3 {α : Type} (f : α → α → Int) : Prop where
  neg : ∀ a b, f b a = - f a b
  zero : ∀ a b, f a b = 0 ↔ a = b
  trans : ∀ a b c, f a b ≤ 0 → f b c ≤ 0 → f a c ≤ 0
  one : ∀ a b, f a b = -1 ∨ f a b = 0 ∨ f a b = 1

theorem cmpI_ord : Ord3 cmpI where
  neg := cmpI_neg
  zero := cmpI_zero
  trans := fun a b c => by unfold cmpI; intro h1 h2; split at h1 <;> split at h2 <;> (try split at h1) <;> (try split at h2) <;> split <;> (try split) <;> omega
  one := fun a b => by unfold cmpI; split <;> (try split) <;> omega
theorem cmpB_one : ∀ a b : List Nat, cmpB a b = -1 ∨ cmpB a b = 0 ∨ cmpB a b = 1 := fun a b => by
  have := cmpA_in 0 a 0 b
  simpa [cmpA, cmpI] using this
theorem cmpB_ord : Ord3 cmpB := ⟨cmpB_neg, cmpB_zero, cmpB_trans, cmpB_one⟩

theorem Ord3.comap {α γ : Type} {f : α → α → Int} (h : Ord3 f) (g : γ → α) (hg : ∀ a b, g a = g b → a = b) : Ord3 (fun a b => f (g a) (g b)) where
  neg := fun a b => h.neg _ _
  zero := fun a b => (h.zero _ _).trans ⟨hg a b, fun e => by rw [e]⟩
  trans := fun a b c => h.trans _ _ _
  one := fun a b => h.one _ _

theorem Ord3.lex {α γ : Type} {f : α → α → Int} {g : γ → γ → Int} (hf : Ord3 f) (hg : Ord3 g) : Ord3 (fun (a b : α × γ) => if f a.1 b.1 = 0 then g a.2 b.2 else f a.1 b.1) where
  neg := fun a b => by
    have h1 := hf.neg a.1 b.1
    have h2 := hg.neg a.2 b.2
    split <;> split <;> omega
  zero := fun a b => by
    have h1 := hf.zero a.1 b.1
    have h2 := hg.zero a.2 b.2
    split
    · rw [h2]; exact ⟨fun h => Prod.ext (h1.mp ‹_›) h, fun h => by rw [h]⟩
    · exact ⟨fun h => absurd h ‹_›, fun h => absurd (h1.mpr (by rw [h])) ‹_›⟩
  trans := fun a b c h1 h2 => by
    have t1 := hf.trans a.1 b.1 c.1
    have t2 := hg.trans a.2 b.2 c.2
    have n1 := hf.neg a.1 b.1
    have n2 := hf.neg b.1 c.1
    have n3 := hf.neg a.1 c.1
    have t3 := hf.trans c.1 a.1 b.1
    have t4 := hf.trans b.1 c.1 a.1
    have z1 := hf.zero a.1 b.1
    have z2 := hf.zero b.1 c.1
    have z3 := hf.zero a.1 c.1
    split at h1 <;> split at h2 <;> split
    · exact t2 h1 h2
    · rename_i e1 e2 e3; exact absurd (z3.mpr ((z1.mp e1).trans (z2.mp e2))) e3
    · rename_i e1 e2 e3
      have hab := z1.mp e1
      have hac := z3.mp e3
      exact absurd (z2.mpr (hab.symm.trans hac)) e2
    · exact t1 (by omega) (by omega)
    · rename_i e1 e2 e3
      exact absurd (z1.mpr ((z3.mp e3).trans (z2.mp e2).symm)) e1
    · exact t1 (by omega) (by omega)
    · rename_i e1 e2 e3
      have : f c.1 a.1 = 0 := by omega
      have h5 := t3 (by omega) (by omega)
      have h6 := t4 (by omega) (by omega)
      omega
    · exact t1 (by omega) (by omega)
  one := fun a b => by
    split
    · exact hg.one _ _
    · exact hf.one _ _

/-! Texts. -/
def cmpL (a b : List UInt8) : Int := cmpB (a.map UInt8.toNat) (b.map UInt8.toNat)
theorem toNat_inj : ∀ a b : List UInt8, a.map UInt8.toNat = b.map UInt8.toNat → a = b
  | [], [], _ => rfl
  | [], _ :: _, h => by simp at h
  | _ :: _, [], h => by simp at h
  | x :: a, y :: b, h => by
    simp only [List.map_cons, List.cons.injEq] at h
    rw [UInt8.toNat_inj.mp h.1, toNat_inj a b h.2]
theorem cmpL_ord : Ord3 cmpL := cmpB_ord.comap _ toNat_inj
theorem less_cmp : ∀ a b : List UInt8, Op.bytesLess a b = decide (cmpL a b = -1)
  | [], [] => by simp [Op.bytesLess, cmpL, cmpB]
  | [], _ :: _ => by simp [Op.bytesLess, cmpL, cmpB]
  | _ :: _, [] => by simp [Op.bytesLess, cmpL, cmpB]
  | x :: a, y :: b => by
    have ih := less_cmp a b
    unfold cmpL at ih ⊢
    simp only [Op.bytesLess, List.map_cons, cmpB, ← UInt8.lt_iff_toNat_lt]
    by_cases h1 : x < y
    · simp [h1]
    · by_cases h2 : y < x
      · have h3 : ¬ x = y := fun h => by subst h; exact h1 h2
        simp [h1, h2, h3]
      · have h3 : x = y := by
          rw [UInt8.lt_iff_toNat_lt] at h1 h2
          exact UInt8.toNat_inj.mp (by omega)
        subst h3
        simp [h1, ih]
theorem slt_cmp (a b : List UInt8) : slt (bs a) (bs b) = decide (cmpL a b = -1) := by
  unfold slt
  rw [← less_cmp]
  congr 1 <;> simp [bs, toList_data]
end Go.Proofs.GoC
