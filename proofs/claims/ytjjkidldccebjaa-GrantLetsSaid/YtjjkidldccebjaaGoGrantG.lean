/-
  Grants as lists: the book's and the document's are the same, in another order. No claim by itself.
-/
import Derived.Test.YtjjkidldccebjaaGoGrantF
import Derived.Test.YtjjkidldccebjaaGoMapL
namespace Go.Proofs.GoC
open Go Go.Proofs.SL
set_option linter.unusedSimpArgs false
set_option linter.unusedVariables false

theorem ins_perm {k : GKey} {u : Int} {gl : Grants} : ∀ {n : Nat}, (insG k u gl n).Perm ((k, u) :: gl)
  | 0 => List.Perm.refl _
  | n + 1 => by
    unfold insG
    split
    · exact ins_perm
    · refine List.perm_middle.trans (List.Perm.cons _ ?_)
      rw [List.take_append_drop]
theorem idx_none {k : GKey} : ∀ {gs : Grants} {i : Nat}, k ∉ gs.map (·.1) → idxA k gs i = -1
  | [], _, _ => rfl
  | e :: gs, i, h => by
    rw [List.map_cons, List.mem_cons, not_or] at h
    rw [idxA, if_neg (fun h2 => h.1 h2.symm)]
    exact idx_none h.2
theorem idx_cut {k : GKey} : ∀ {gs : Grants} {i : Nat}, (gs.map (·.1)).Nodup → k ∈ gs.map (·.1) → ∃ j : Nat, idxA k gs i = ((i + j : Nat) : Int) ∧ gs.take j ++ gs.drop (j + 1) = noK k gs
  | [], _, _, h => by cases h
  | e :: gs, i, hn, h => by
    rw [List.map_cons, List.nodup_cons] at hn
    by_cases he : e.1 = k
    · refine ⟨0, by rw [idxA, if_pos he]; rfl, ?_⟩
      have : noK k (e :: gs) = gs := by
        unfold noK
        rw [List.filter_cons, if_neg (by simp [he])]
        exact noK_self (k := k) (he ▸ hn.1)
      rw [this]; rfl
    · have hm : k ∈ gs.map (·.1) := by
        rcases List.mem_cons.mp h with h | h
        · exact absurd h.symm he
        · exact h
      obtain ⟨j, h1, h2⟩ := idx_cut (i := i + 1) hn.2 hm
      refine ⟨j + 1, by rw [idxA, if_neg he, h1]; congr 1; omega, ?_⟩
      have : noK k (e :: gs) = e :: noK k gs := by
        unfold noK
        rw [List.filter_cons, if_pos (by simpa using he)]
      rw [this, ← h2]; rfl
/-- What the document puts where there is room. -/
theorem putR_room {room : Int} {gs : Grants} {k : GKey} {u now : Int} (hn : (gs.map (·.1)).Nodup) (hu : now < u) (hr : k ∈ gs.map (·.1) ∨ (gs.length : Int) ≠ room) : (putR room gs k u now).1.Perm ((k, u) :: noK k gs) ∧ (putR room gs k u now).2 = (key0, false) := by
  unfold putR
  rw [if_neg (by omega)]
  by_cases hk : k ∈ gs.map (·.1)
  · obtain ⟨j, h1, h2⟩ := idx_cut (i := 0) hn hk
    have hm : midR room gs k now = (noK k gs, key0, false) := by
      unfold midR
      rw [if_pos (by rw [h1]; omega), h1]
      simp only [Nat.zero_add, Int.toNat_natCast]
      rw [cutI, h2]
    rw [hm]
    exact ⟨ins_perm, rfl⟩
  · have hm : midR room gs k now = (noK k gs, key0, false) := by
      unfold midR
      rw [idx_none hk, if_neg (by decide), if_neg (hr.resolve_left hk), noK_self hk]
    rw [hm]
    exact ⟨ins_perm, rfl⟩

/-- The book's grants and the document's. -/
structure Same2 (es gs : Grants) : Prop where
  perm : es.Perm gs
  nodup : (es.map (·.1)).Nodup
  ok : KeysOk es
theorem Same2.nodup2 {es gs : Grants} (h : Same2 es gs) : (gs.map (·.1)).Nodup := (h.perm.map _).nodup_iff.mp h.nodup
theorem Same2.ok2 {es gs : Grants} (h : Same2 es gs) : KeysOk gs := fun e he => h.ok e (h.perm.mem_iff.mpr he)
theorem noK_perm {k : GKey} {es gs : Grants} (h : es.Perm gs) : (noK k es).Perm (noK k gs) := h.filter _
theorem Same2.put {es gs : Grants} (h : Same2 es gs) {k : GKey} (hk : KeyOk k) {room u now : Int} (hu : now < u) (hr : k ∈ gs.map (·.1) ∨ (gs.length : Int) ≠ room) : Same2 (putA k u es) (putR room gs k u now).1 :=
  ⟨(put_perm h.nodup).trans ((((noK_perm h.perm).cons _)).trans (putR_room h.nodup2 hu hr).1.symm), put_nodup h.nodup, put_ok hk h.ok⟩
theorem Same2.nil : Same2 [] [] := ⟨List.Perm.refl _, List.nodup_nil, by intro e he; cases he⟩
theorem Same2.len {es gs : Grants} (h : Same2 es gs) : es.length = gs.length := h.perm.length_eq
end Go.Proofs.GoC
