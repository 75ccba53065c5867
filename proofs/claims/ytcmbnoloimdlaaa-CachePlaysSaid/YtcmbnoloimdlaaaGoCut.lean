/-
  The library's Cut and Contains at this program, as contracts of SL; the end of a function that gives a slice that it grew, and something else. No claim by itself.
-/
import Derived.Test.YtcmbnoloimdlaaaGoM1
import Derived.Test.YtcmbnoloimdlaaaGoStd
namespace Go.Proofs.GoC
open Go Go.Proofs.SL
set_option linter.unusedSimpArgs false
set_option linter.unusedVariables false
set_option maxRecDepth 10000
set_option maxHeartbeats 2000000

def cutV (x : List UInt8 × List UInt8 × Bool) : PV := .tup [.str (bs x.1), .str (bs x.2.1), .bool x.2.2]

/-- The end of a function that gives a slice that it grew, and something else. -/
theorem fin_freeze2 {H0 L : Heap} {Q : PV → Heap → Prop} {σ : Env} {x : AEx} {t u i ver off len m : Nat} {tip : Bool} {cs xs : List PV} {q : PV} (hx : x = .normal ∨ x = .ret) (hb : HB H0.length H0) (ht : σ[t]? = some (.buf i ver off len m tip))
    (hu : σ[u]? = some q) (htu : t ≠ u) (hq : Bdd H0.length q)
    (hi : H0.length ≤ i) (ho : (H0 ++ L)[i]? = some (some (.cells ver cs))) (hfx : flat xs = subCells cs off (len * m)) (hl : xs.length = len) (hm : ∀ x ∈ xs, x.cells.length = m) (hbd : ∀ x ∈ xs, Bdd H0.length x) (h : Q (.tup [.sl m xs, q]) H0) :
    SL.Ends H0 [t, u] Q x σ (H0 ++ L) := by
  have hlt : t < σ.length := by
    rcases Nat.lt_or_ge t σ.length with h | h
    · exact h
    · rw [List.getElem?_eq_none h] at ht; cases ht
  have g := Ghost.freeze (H0 := H0) ht ho hfx hl hm
  have e : (H0 ++ L).set i none = H0 ++ L.set (i - H0.length) none := List.set_append_right _ _ hi
  rw [e] at g
  have hg : (σ.set t (.sl m xs)).getD t .any = .sl m xs := by simp [List.getD_eq_getElem?_getD, hlt]
  have hg2 : (σ.set t (.sl m xs)).getD u .any = q := by simp [List.getD_eq_getElem?_getD, List.getElem?_set_ne htu, hu]
  have hd := SL.Ends.drop (Q := Q) (rs := [t, u]) (σ := σ.set t (.sl m xs)) (L := L.set (i - H0.length) none) hx hb (by
    intro t' ht'
    simp only [List.mem_cons, List.not_mem_nil, or_false] at ht'
    rcases ht' with rfl | rfl
    · rw [hg]; exact bdd_sl.mpr hbd
    · rw [hg2]; exact hq) (by simp only [retV, List.map_cons, List.map_nil]; rw [hg, hg2]; exact h)
  obtain ⟨h1, σ', H', g', hq⟩ := hd
  exact ⟨h1, σ', H', g.trans g', hq⟩

theorem joinL_cons (sep a : List UInt8) (l : List (List UInt8)) (h : l ≠ []) : joinL sep (a :: l) = a ++ sep ++ joinL sep l := by
  cases l with
  | nil => exact absurd rfl h
  | cons b l => simp [joinL, List.intercalate, List.intersperse]

theorem joinL_len (sep : List UInt8) (m : Nat) : ∀ l : List (List UInt8), (∀ p ∈ l, p.length ≤ m) → (joinL sep l).length ≤ l.length * (m + sep.length)
  | [], _ => by simp [joinL]
  | [a], h => by have := h a (by simp); simp [joinL]; omega
  | a :: b :: l, h => by
    have h1 := h a (by simp)
    have h2 := joinL_len sep m (b :: l) (fun p hp => h p (List.mem_cons_of_mem _ hp))
    rw [joinL_cons _ _ _ (by simp)]
    simp only [List.length_append, List.length_cons] at *
    rw [Nat.add_mul _ 1]; omega

theorem take_snoc {α : Type} {l : List α} {k : Nat} {d : α} (h : k < l.length) : l.take (k + 1) = l.take k ++ [l.getD k d] := by
  rw [List.take_add_one, List.getElem?_eq_getElem h]; simp [List.getD_eq_getElem?_getD, h]

theorem joinL_app (sep : List UInt8) : ∀ (a b : List (List UInt8)), a ≠ [] → b ≠ [] → joinL sep (a ++ b) = joinL sep a ++ sep ++ joinL sep b
  | [], _, h, _ => absurd rfl h
  | [x], b, _, hb => by rw [List.singleton_append, joinL_cons _ _ _ hb]; simp [joinL]
  | x :: y :: a, b, _, hb => by
    rw [List.cons_append, joinL_cons _ _ _ (by simp), joinL_app sep (y :: a) b (by simp) hb, joinL_cons _ _ (y :: a) (by simp)]
    simp

theorem joinL_take (sep : List UInt8) (l : List (List UInt8)) (k : Nat) : (joinL sep (l.take k)).length ≤ (joinL sep l).length := by
  by_cases h1 : l.take k = []
  · rw [h1]; simp [joinL]
  by_cases h2 : l.drop k = []
  · rw [List.take_of_length_le (List.drop_eq_nil_iff.mp h2)]; exact Nat.le_refl _
  · have := joinL_app sep (l.take k) (l.drop k) h1 h2
    rw [List.take_append_drop] at this
    rw [this]; simp only [List.length_append]; omega

theorem joinL_snoc (sep : List UInt8) (l : List (List UInt8)) (k : Nat) (hk : k < l.length) (h0 : 0 < k) : joinL sep (l.take (k + 1)) = joinL sep (l.take k) ++ sep ++ l.getD k [] := by
  rw [take_snoc (d := []) hk, joinL_app _ _ _ (by
    intro h
    have := congrArg List.length h
    simp only [List.length_take, List.length_nil] at this; omega) (by simp)]
  simp [joinL]
theorem joinL_one (sep : List UInt8) (l : List (List UInt8)) (h : 0 < l.length) : joinL sep (l.take (0 + 1)) = l.getD 0 [] := by
  rw [take_snoc (d := []) h]; simp [joinL]

theorem splitA_no (sep : UInt8) : ∀ (l : List UInt8) (acc : List (List UInt8)) (cur : List UInt8), sep ∉ l → splitA sep l acc cur = acc ++ [cur ++ l]
  | [], acc, cur, _ => by simp [splitA]
  | b :: l, acc, cur, h => by
    simp only [List.mem_cons, not_or] at h
    simp only [splitA]
    rw [if_neg (fun e => h.1 e.symm), splitA_no sep l acc _ h.2]
    simp

theorem split_pc (sep : UInt8) : ∀ (p rest : List UInt8) (acc : List (List UInt8)) (cur : List UInt8), sep ∉ p → splitA sep (p ++ sep :: rest) acc cur = splitA sep rest (acc ++ [cur ++ p]) []
  | [], rest, acc, cur, _ => by simp [splitA]
  | b :: p, rest, acc, cur, h => by
    simp only [List.mem_cons, not_or] at h
    simp only [List.cons_append, splitA]
    rw [if_neg (fun e => h.1 e.symm), split_pc sep p rest acc _ h.2]
    simp

end Go.Proofs.GoC
