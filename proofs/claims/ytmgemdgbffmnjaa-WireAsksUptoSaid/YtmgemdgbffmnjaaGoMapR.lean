/-
  What is left of a map in a range that takes entries out as it goes. No claim by itself.
-/
import Derived.Test.YtmgemdgbffmnjaaGoMaps
import Derived.Test.YtmgemdgbffmnjaaSlMapG
namespace Go.Proofs.GoC
open Go Go.Proofs.SL
set_option linter.unusedSimpArgs false
set_option linter.unusedVariables false
set_option linter.unusedSectionVars false
section
variable {K X : Type} [DecidableEq K]
theorem same_of_nodup {α γ : Type} {f : α → γ} : ∀ {l : List α}, (l.map f).Nodup → ∀ {x y : α}, x ∈ l → y ∈ l → f x = f y → x = y
  | [], _, _, _, h, _, _ => by cases h
  | a :: l, hn, x, y, hx, hy, h => by
    rw [List.map_cons, List.nodup_cons] at hn
    rcases List.mem_cons.mp hx with h1 | h1 <;> rcases List.mem_cons.mp hy with h2 | h2
    · rw [h1, h2]
    · rw [h1] at h; exact absurd (h ▸ List.mem_map_of_mem h2) hn.1
    · rw [h2] at h; exact absurd (h ▸ List.mem_map_of_mem h1) hn.1
    · exact same_of_nodup hn.2 h1 h2 h

/-- What is left of a map in a range that takes entries out as it goes. -/
def curL (p : K → X → Bool) (seen : List Nat) (L : List (Nat × (K × X))) : List (Nat × (K × X)) := L.filter fun e => !(decide (e.1 ∈ seen) && p e.2.1 e.2.2)
theorem cur_nil (p : K → X → Bool) (L : List (Nat × (K × X))) : curL p [] L = L := List.filter_eq_self.mpr fun e _ => by simp
theorem cur_keep {p : K → X → Bool} {seen : List Nat} {L : List (Nat × (K × X))} (hn : (L.map (·.1)).Nodup) {b : Nat} {k : K} {x : X} (hb : (b, k, x) ∈ L) (hp : p k x = false) : curL p (seen ++ [b]) L = curL p seen L :=
  List.filter_congr fun e he => by
    by_cases h : e.1 = b
    · have := same_of_nodup hn he hb h
      subst this
      simp [hp]
    · simp [h]
theorem cur_del {p : K → X → Bool} {seen : List Nat} {L : List (Nat × (K × X))} (hn : (L.map (·.1)).Nodup) (hk : (L.map (·.2.1)).Nodup) {b : Nat} {k : K} {x : X} (hb : (b, k, x) ∈ L) (hp : p k x = true) :
    curL p (seen ++ [b]) L = (curL p seen L).filter fun e => !decide (e.2.1 = k) := by
  unfold curL
  rw [List.filter_filter]
  refine List.filter_congr fun e he => ?_
  by_cases h : e.1 = b
  · have := same_of_nodup hn he hb h
    subst this
    simp [hp]
  · have h2 : ¬ e.2.1 = k := fun h2 => h (by rw [same_of_nodup hk he hb h2])
    simp [h, h2]
theorem cur_end {p : K → X → Bool} {seen : List Nat} {L : List (Nat × (K × X))} (h : ∀ b ∈ (curL p seen L).map (·.1), b ∈ seen) : curL p seen L = L.filter fun e => !p e.2.1 e.2.2 :=
  List.filter_congr fun e he => by
    by_cases hs : e.1 ∈ seen
    · simp [hs]
    · exact absurd (h e.1 (List.mem_map_of_mem (List.mem_filter.mpr ⟨he, by simp [hs]⟩))) hs
def leftN (seen : List Nat) (L : List (Nat × (K × X))) : Nat := (L.filter fun e => !decide (e.1 ∈ seen)).length
theorem left_lt {seen : List Nat} {b : Nat} (hs : b ∉ seen) : ∀ {L : List (Nat × (K × X))}, b ∈ L.map (·.1) → leftN (seen ++ [b]) L < leftN seen L
  | [], h => by cases h
  | e :: L, h => by
    have hle : ∀ M : List (Nat × (K × X)), leftN (seen ++ [b]) M ≤ leftN seen M := fun M => by
      unfold leftN
      induction M with
      | nil => exact Nat.le_refl _
      | cons f M ih =>
        simp only [List.filter_cons]
        by_cases h1 : f.1 ∈ seen
        · simp [h1]; simpa using ih
        · by_cases h2 : f.1 = b
          · simp [h1, h2, hs]; have := ih; simp at this; omega
          · simp [h1, h2]; simpa using ih
    have hle := hle L
    unfold leftN at hle ⊢
    simp only [List.filter_cons]
    by_cases h1 : e.1 = b
    · have : e.1 ∉ seen := h1 ▸ hs
      simp [h1, hs]
      have := hle
      simp at this
      omega
    · have hb : b ∈ L.map (·.1) := by
        rcases List.mem_cons.mp h with h | h
        · exact absurd h.symm h1
        · exact h
      have ih := left_lt hs hb
      unfold leftN at ih
      by_cases h2 : e.1 ∈ seen
      · simp [h2]; simpa using ih
      · simp [h2, h1]; simpa using ih

end
end Go.Proofs.GoC
