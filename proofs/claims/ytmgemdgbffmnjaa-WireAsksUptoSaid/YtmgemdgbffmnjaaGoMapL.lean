/-
  Entries of a map as lists: found, put, taken out. No claim by itself.
-/
import Derived.Test.YtmgemdgbffmnjaaGoMaps
namespace Go.Proofs.GoC
open Go Go.Proofs.SL
set_option linter.unusedSimpArgs false
set_option linter.unusedVariables false
set_option linter.unusedSectionVars false

section
variable {K X : Type} [DecidableEq K]
theorem find_mem {k : K} {x : X} : ∀ {l : List (K × X)}, (l.map (·.1)).Nodup → (findA k l = some x ↔ (k, x) ∈ l)
  | [], _ => by simp [findA]
  | e :: l, hn => by
    rw [List.map_cons, List.nodup_cons] at hn
    rw [findA]
    by_cases h : k = e.1
    · rw [if_pos h]
      constructor
      · intro hx; cases hx; rw [h]; exact List.mem_cons_self
      · intro hm
        rcases List.mem_cons.mp hm with rfl | hm
        · rfl
        · exact absurd (h ▸ List.mem_map_of_mem (f := fun e : K × X => e.1) hm) hn.1
    · rw [if_neg h, find_mem hn.2]
      constructor
      · exact List.mem_cons_of_mem _
      · intro hm
        rcases List.mem_cons.mp hm with rfl | hm
        · exact absurd rfl h
        · exact hm
theorem find_none {k : K} : ∀ {l : List (K × X)}, findA k l = none ↔ k ∉ l.map (·.1)
  | [] => by simp [findA]
  | e :: l => by
    rw [findA, List.map_cons, List.mem_cons, not_or]
    by_cases h : k = e.1
    · simp [h]
    · rw [if_neg h, find_none]; simp [h]
theorem find_filter {p : K → X → Bool} {k : K} : ∀ {l : List (K × X)}, (l.map (·.1)).Nodup → findA k (l.filter fun e => p e.1 e.2) = match findA k l with
    | some x => if p k x = true then some x else none
    | none => none
  | [], _ => rfl
  | e :: l, hn => by
    rw [List.map_cons, List.nodup_cons] at hn
    have ih := find_filter (p := p) (k := k) hn.2
    by_cases h : k = e.1
    · have hnone : findA k l = none := find_none.mpr (h ▸ hn.1)
      rw [hnone] at ih
      rw [findA, if_pos h, List.filter_cons]
      by_cases hp : p e.1 e.2 = true
      · rw [if_pos hp, findA, if_pos h]; simp [h, hp]
      · rw [if_neg hp, ih]; simp [h, hp]
    · rw [findA, if_neg h, List.filter_cons]
      split
      · rw [findA, if_neg h, ih]
      · exact ih

/-- Entries without a key's. -/
def noK (k : K) (l : List (K × X)) : List (K × X) := l.filter fun e => !decide (e.1 = k)
theorem noK_self {k : K} {l : List (K × X)} (h : k ∉ l.map (·.1)) : noK k l = l := List.filter_eq_self.mpr fun e he => by
  have : e.1 ≠ k := fun h2 => h (h2 ▸ List.mem_map_of_mem he)
  simpa using this
theorem put_perm {k : K} {x : X} : ∀ {l : List (K × X)}, (l.map (·.1)).Nodup → (putA k x l).Perm ((k, x) :: noK k l)
  | [], _ => by simp [putA, noK]
  | e :: l, hn => by
    rw [List.map_cons, List.nodup_cons] at hn
    rw [putA]
    by_cases h : k = e.1
    · rw [if_pos h]
      have : noK k (e :: l) = l := by
        unfold noK
        rw [List.filter_cons, if_neg (by simp [h])]
        exact noK_self (k := k) (h ▸ hn.1)
      rw [this]
    · rw [if_neg h]
      have h2 : noK k (e :: l) = e :: noK k l := by
        unfold noK
        rw [List.filter_cons, if_pos (by simpa using fun h2 => h h2.symm)]
      rw [h2]
      exact ((put_perm hn.2).cons e).trans (List.Perm.swap ..)
theorem noK_nodup {k : K} {l : List (K × X)} (h : (l.map (·.1)).Nodup) : ((noK k l).map (·.1)).Nodup := h.sublist ((List.filter_sublist).map _)
theorem noK_not {k : K} {l : List (K × X)} : k ∉ (noK k l).map (·.1) := fun h => by
  obtain ⟨e, he, h2⟩ := List.mem_map.mp h
  have := (List.mem_filter.mp he).2
  simp at this
  exact this h2
theorem put_nodup {k : K} {x : X} {l : List (K × X)} (h : (l.map (·.1)).Nodup) : ((putA k x l).map (·.1)).Nodup := by
  rw [((put_perm h).map (·.1)).nodup_iff, List.map_cons, List.nodup_cons]
  exact ⟨noK_not, noK_nodup h⟩
theorem put_find {k j : K} {x : X} : ∀ {l : List (K × X)}, findA j (putA k x l) = if j = k then some x else findA j l
  | [] => by simp [putA, findA]
  | e :: l => by
    rw [putA]
    by_cases h : k = e.1
    · rw [if_pos h, findA, findA]
      by_cases h2 : j = k
      · rw [if_pos h2, if_pos h2]
      · rw [if_neg h2, if_neg h2, if_neg (fun h3 => h2 (by rw [h3, h]))]
    · rw [if_neg h, findA, findA]
      by_cases h3 : j = e.1
      · rw [if_pos h3, if_pos h3, if_neg (fun h4 => h (by rw [← h4, h3]))]
      · rw [if_neg h3, if_neg h3, put_find]
theorem put_len {k : K} {x : X} : ∀ {l : List (K × X)}, (putA k x l).length ≤ l.length + 1
  | [] => by simp [putA]
  | e :: l => by
    rw [putA]
    split
    · simp
    · simp only [List.length_cons]; have := put_len (k := k) (x := x) (l := l); omega
theorem noK_len {k : K} {l : List (K × X)} : (noK k l).length ≤ l.length := List.length_filter_le _ _
end
end Go.Proofs.GoC
