/-
  Grants as lists: the book's and the document's are the same, in another order. No claim by itself.
-/
import Derived.Test.YtjjkidldccebjaaGoGrantF
namespace Go.Proofs.GoC
open Go Go.Proofs.SL
set_option linter.unusedSimpArgs false
set_option linter.unusedVariables false

section
variable {K X : Type} [DecidableEq K]
theorem find_mem {k : K} {x : X} : ∀ {l : List (K × X)}, (l.map (·.1)).Nodup → (findA k l = some x ↔ (k, x) ∈ l)
  | [], _ => by simp [findA]
  | e :: l, hn => by
    rw [List.map_cons, List.nodup_cons] at hn
    rw [findA]
    by_cases h : k = e.1
    · rw [if_pos h]
      constructor
      · intro hx; cases hx; rw [h]; exact List.mem_cons_self
      · intro hm
        rcases List.mem_cons.mp hm with rfl | hm
        · rfl
        · exact absurd (h ▸ List.mem_map_of_mem (f := fun e : K × X => e.1) hm) hn.1
    · rw [if_neg h, find_mem hn.2]
      constructor
      · exact List.mem_cons_of_mem _
      · intro hm
        rcases List.mem_cons.mp hm with rfl | hm
        · exact absurd rfl h
        · exact hm
theorem find_none {k : K} : ∀ {l : List (K × X)}, findA k l = none ↔ k ∉ l.map (·.1)
  | [] => by simp [findA]
  | e :: l => by
    rw [findA, List.map_cons, List.mem_cons, not_or]
    by_cases h : k = e.1
    · simp [h]
    · rw [if_neg h, find_none]; simp [h]
theorem find_filter {p : K → X → Bool} {k : K} : ∀ {l : List (K × X)}, (l.map (·.1)).Nodup → findA k (l.filter fun e => p e.1 e.2) = match findA k l with
    | some x => if p k x = true then some x else none
    | none => none
  | [], _ => rfl
  | e :: l, hn => by
    rw [List.map_cons, List.nodup_cons] at hn
    have ih := find_filter (p := p) (k := k) hn.2
    by_cases h : k = e.1
    · have hnone : findA k l = none := find_none.mpr (h ▸ hn.1)
      rw [hnone] at ih
      rw [findA, if_pos h, List.filter_cons]
      by_cases hp : p e.1 e.2 = true
      · rw [if_pos hp, findA, if_pos h]; simp [h, hp]
      · rw [if_neg hp, ih]; simp [h, hp]
    · rw [findA, if_neg h, List.filter_cons]
      split
      · rw [findA, if_neg h, ih]
      · exact ih

/-- Entries without a key's. -/
def noK (k : K) (l : List (K × X)) : List (K × X) := l.filter fun e => !decide (e.1 = k)
theorem noK_self {k : K} {l : List (K × X)} (h : k ∉ l.map (·.1)) : noK k l = l := List.filter_eq_self.mpr fun e he => by
  have : e.1 ≠ k := fun h2 => h (h2 ▸ List.mem_map_of_mem he)
  simpa using this
theorem put_perm {k : K} {x : X} : ∀ {l : List (K × X)}, (l.map (·.1)).Nodup → (putA k x l).Perm ((k, x) :: noK k l)
  | [], _ => by simp [putA, noK]
  | e :: l, hn => by
    rw [List.map_cons, List.nodup_cons] at hn
    rw [putA]
    by_cases h : k = e.1
    · rw [if_pos h]
      have : noK k (e :: l) = l := by
        unfold noK
        rw [List.filter_cons, if_neg (by simp [h])]
        exact noK_self (k := k) (h ▸ hn.1)
      rw [this]
    · rw [if_neg h]
      have h2 : noK k (e :: l) = e :: noK k l := by
        unfold noK
        rw [List.filter_cons, if_pos (by simpa using fun h2 => h h2.symm)]
      rw [h2]
      exact ((put_perm hn.2).cons e).trans (List.Perm.swap ..)
theorem noK_nodup {k : K} {l : List (K × X)} (h : (l.map (·.1)).Nodup) : ((noK k l).map (·.1)).Nodup := h.sublist ((List.filter_sublist).map _)
theorem noK_not {k : K} {l : List (K × X)} : k ∉ (noK k l).map (·.1) := fun h => by
  obtain ⟨e, he, h2⟩ := List.mem_map.mp h
  have := (List.mem_filter.mp he).2
  simp at this
  exact this h2
theorem put_nodup {k : K} {x : X} {l : List (K × X)} (h : (l.map (·.1)).Nodup) : ((putA k x l).map (·.1)).Nodup := by
  rw [((put_perm h).map (·.1)).nodup_iff, List.map_cons, List.nodup_cons]
  exact ⟨noK_not, noK_nodup h⟩
theorem put_find {k j : K} {x : X} : ∀ {l : List (K × X)}, findA j (putA k x l) = if j = k then some x else findA j l
  | [] => by simp [putA, findA]
  | e :: l => by
    rw [putA]
    by_cases h : k = e.1
    · rw [if_pos h, findA, findA]
      by_cases h2 : j = k
      · rw [if_pos h2, if_pos h2]
      · rw [if_neg h2, if_neg h2, if_neg (fun h3 => h2 (by rw [h3, h]))]
    · rw [if_neg h, findA, findA]
      by_cases h3 : j = e.1
      · rw [if_pos h3, if_pos h3, if_neg (fun h4 => h (by rw [← h4, h3]))]
      · rw [if_neg h3, if_neg h3, put_find]
theorem put_len {k : K} {x : X} : ∀ {l : List (K × X)}, (putA k x l).length ≤ l.length + 1
  | [] => by simp [putA]
  | e :: l => by
    rw [putA]
    split
    · simp
    · simp only [List.length_cons]; have := put_len (k := k) (x := x) (l := l); omega
theorem noK_len {k : K} {l : List (K × X)} : (noK k l).length ≤ l.length := List.length_filter_le _ _
end

theorem ins_perm {k : GKey} {u : Int} {gl : Grants} : ∀ {n : Nat}, (insG k u gl n).Perm ((k, u) :: gl)
  | 0 => List.Perm.refl _
  | n + 1 => by
    unfold insG
    split
    · exact ins_perm
    · refine List.perm_middle.trans (List.Perm.cons _ ?_)
      rw [List.take_append_drop]
theorem idx_none {k : GKey} : ∀ {gs : Grants} {i : Nat}, k ∉ gs.map (·.1) → idxA k gs i = -1
  | [], _, _ => rfl
  | e :: gs, i, h => by
    rw [List.map_cons, List.mem_cons, not_or] at h
    rw [idxA, if_neg (fun h2 => h.1 h2.symm)]
    exact idx_none h.2
theorem idx_cut {k : GKey} : ∀ {gs : Grants} {i : Nat}, (gs.map (·.1)).Nodup → k ∈ gs.map (·.1) → ∃ j : Nat, idxA k gs i = ((i + j : Nat) : Int) ∧ gs.take j ++ gs.drop (j + 1) = noK k gs
  | [], _, _, h => by cases h
  | e :: gs, i, hn, h => by
    rw [List.map_cons, List.nodup_cons] at hn
    by_cases he : e.1 = k
    · refine ⟨0, by rw [idxA, if_pos he]; rfl, ?_⟩
      have : noK k (e :: gs) = gs := by
        unfold noK
        rw [List.filter_cons, if_neg (by simp [he])]
        exact noK_self (k := k) (he ▸ hn.1)
      rw [this]; rfl
    · have hm : k ∈ gs.map (·.1) := by
        rcases List.mem_cons.mp h with h | h
        · exact absurd h.symm he
        · exact h
      obtain ⟨j, h1, h2⟩ := idx_cut (i := i + 1) hn.2 hm
      refine ⟨j + 1, by rw [idxA, if_neg he, h1]; congr 1; omega, ?_⟩
      have : noK k (e :: gs) = e :: noK k gs := by
        unfold noK
        rw [List.filter_cons, if_pos (by simpa using he)]
      rw [this, ← h2]; rfl
/-- What the document puts where there is room. -/
theorem putR_room {room : Int} {gs : Grants} {k : GKey} {u now : Int} (hn : (gs.map (·.1)).Nodup) (hu : now < u) (hr : k ∈ gs.map (·.1) ∨ (gs.length : Int) ≠ room) : (putR room gs k u now).1.Perm ((k, u) :: noK k gs) ∧ (putR room gs k u now).2 = (key0, false) := by
  unfold putR
  rw [if_neg (by omega)]
  by_cases hk : k ∈ gs.map (·.1)
  · obtain ⟨j, h1, h2⟩ := idx_cut (i := 0) hn hk
    have hm : midR room gs k now = (noK k gs, key0, false) := by
      unfold midR
      rw [if_pos (by rw [h1]; omega), h1]
      simp only [Nat.zero_add, Int.toNat_natCast]
      rw [cutI, h2]
    rw [hm]
    exact ⟨ins_perm, rfl⟩
  · have hm : midR room gs k now = (noK k gs, key0, false) := by
      unfold midR
      rw [idx_none hk, if_neg (by decide), if_neg (hr.resolve_left hk), noK_self hk]
    rw [hm]
    exact ⟨ins_perm, rfl⟩

/-- The book's grants and the document's. -/
structure Same2 (es gs : Grants) : Prop where
  perm : es.Perm gs
  nodup : (es.map (·.1)).Nodup
  ok : KeysOk es
theorem Same2.nodup2 {es gs : Grants} (h : Same2 es gs) : (gs.map (·.1)).Nodup := (h.perm.map _).nodup_iff.mp h.nodup
theorem Same2.ok2 {es gs : Grants} (h : Same2 es gs) : KeysOk gs := fun e he => h.ok e (h.perm.mem_iff.mpr he)
theorem noK_perm {k : GKey} {es gs : Grants} (h : es.Perm gs) : (noK k es).Perm (noK k gs) := h.filter _
theorem Same2.put {es gs : Grants} (h : Same2 es gs) {k : GKey} (hk : KeyOk k) {room u now : Int} (hu : now < u) (hr : k ∈ gs.map (·.1) ∨ (gs.length : Int) ≠ room) : Same2 (putA k u es) (putR room gs k u now).1 :=
  ⟨(put_perm h.nodup).trans ((((noK_perm h.perm).cons _)).trans (putR_room h.nodup2 hu hr).1.symm), put_nodup h.nodup, put_ok hk h.ok⟩
theorem Same2.nil : Same2 [] [] := ⟨List.Perm.refl _, List.nodup_nil, by intro e he; cases he⟩
theorem Same2.len {es gs : Grants} (h : Same2 es gs) : es.length = gs.length := h.perm.length_eq
end Go.Proofs.GoC
