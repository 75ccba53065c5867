/-
  Plain laws: texts up to the first of some signs, schemes. No claim by itself.
-/
import Derived.Test.YtepcccepheddjaaGreatDoorGoUrl4
namespace Go.Proofs.GoC
open Go Go.Proofs.SL
set_option linter.unusedSimpArgs false
set_option linter.unusedVariables false
set_option maxRecDepth 10000
set_option maxHeartbeats 4000000

theorem tw_cons (c : List UInt8) (b : UInt8) (l : List UInt8) : tw c (b :: l) = if c.contains b = true then [] else b :: tw c l := by
  unfold tw
  by_cases h : c.contains b = true
  · rw [if_pos h, List.takeWhile_cons_of_neg (by rw [h]; decide)]
  · rw [if_neg h, List.takeWhile_cons_of_pos (by rw [Bool.eq_false_iff.mpr h]; decide)]
theorem dw_cons (c : List UInt8) (b : UInt8) (l : List UInt8) : dw c (b :: l) = if c.contains b = true then b :: l else dw c l := by
  unfold dw
  by_cases h : c.contains b = true
  · rw [if_pos h, List.dropWhile_cons_of_neg (by rw [h]; decide)]
  · rw [if_neg h, List.dropWhile_cons_of_pos (by rw [Bool.eq_false_iff.mpr h]; decide)]
theorem contains_app (a c : List UInt8) (b : UInt8) : (a ++ c).contains b = true ↔ a.contains b = true ∨ c.contains b = true := by
  simp [List.contains_iff_mem]
theorem tw_tw (a c : List UInt8) : ∀ l, tw a (tw c l) = tw (a ++ c) l
  | [] => rfl
  | b :: l => by
    rw [tw_cons, tw_cons]
    by_cases hc : c.contains b = true
    · rw [if_pos hc, if_pos ((contains_app _ _ _).mpr (.inr hc))]; rfl
    · rw [if_neg hc, tw_cons, tw_tw a c l]
      by_cases ha : a.contains b = true
      · rw [if_pos ha, if_pos ((contains_app _ _ _).mpr (.inl ha))]
      · rw [if_neg ha, if_neg (fun h => ((contains_app _ _ _).mp h).elim ha hc)]
theorem dw_tw (a c : List UInt8) : ∀ l, dw a (tw c l) = tw c (dw (a ++ c) l)
  | [] => rfl
  | b :: l => by
    rw [tw_cons, dw_cons (a ++ c)]
    by_cases hc : c.contains b = true
    · rw [if_pos hc, if_pos ((contains_app _ _ _).mpr (.inr hc)), tw_cons, if_pos hc]; rfl
    · rw [if_neg hc, dw_cons, dw_tw a c l]
      by_cases ha : a.contains b = true
      · rw [if_pos ha, if_pos ((contains_app _ _ _).mpr (.inl ha)), tw_cons, if_neg hc]
      · rw [if_neg ha, if_neg (fun h => ((contains_app _ _ _).mp h).elim ha hc)]
theorem tw_of_take (c : List UInt8) : ∀ (l : List UInt8) (m : Nat), tw c (l.take m) = l.take (min (tw c l).length m)
  | [], m => by simp [tw]
  | b :: l, 0 => by simp [tw]
  | b :: l, m + 1 => by
    rw [List.take_succ_cons, tw_cons, tw_cons, tw_of_take c l m]
    by_cases h : c.contains b = true
    · rw [if_pos h, if_pos h]; simp
    · rw [if_neg h, if_neg h, List.length_cons, Nat.succ_min_succ, List.take_succ_cons]

/-! Schemes. -/
theorem cut_cases (s : List UInt8) : (Lib.cut s sep3 = (s, [], false) ∧ ∀ a b, s ≠ a ++ (sep3 ++ b)) ∨
    ∃ a b, s = a ++ (sep3 ++ b) ∧ Lib.cut s sep3 = (a, b, true) ∧ ∀ a' b', s = a' ++ (sep3 ++ b') → a.length ≤ a'.length := by
  have hocc : ∀ a b : List UInt8, s = a ++ (sep3 ++ b) → Lib.occAt s sep3 a.length = true ∧ a.length ≤ s.length := fun a b h => by
    subst h
    refine ⟨?_, by simp⟩
    unfold Lib.occAt
    rw [drop_app]
    exact List.isPrefixOf_iff_prefix.mpr (List.prefix_append _ _)
  rcases Lib.index_spec s sep3 with ⟨h1, h2⟩ | ⟨i, h1, h2, h3, h4⟩
  · left
    refine ⟨by unfold Lib.cut; rw [h1, if_neg (by decide)], fun a b h => ?_⟩
    obtain ⟨o1, o2⟩ := hocc a b h
    rw [h2 _ o2] at o1
    exact nomatch o1
  · right
    obtain ⟨b, hb⟩ := List.isPrefixOf_iff_prefix.mp h3
    have hl : (s.take i).length = i := by rw [List.length_take]; omega
    have hs : s = s.take i ++ (sep3 ++ b) := by rw [hb, List.take_append_drop]
    refine ⟨s.take i, b, hs, ?_, fun a' b' h => ?_⟩
    · unfold Lib.cut
      rw [h1, if_pos (by omega)]
      have : s.drop (i + 3) = b := by
        have h5 : s.drop (i + 3) = (s.drop i).drop 3 := by rw [List.drop_drop]
        rw [h5, ← hb]; rfl
      rw [Int.toNat_natCast, show sep3.length = 3 from rfl, this]
    · obtain ⟨o1, o2⟩ := hocc a' b' h
      rw [hl]
      rcases Nat.lt_or_ge a'.length i with h5 | h5
      · have := h4 _ h5
        rw [this] at o1
        exact nomatch o1
      · exact h5

theorem low58 {l : List UInt8} (h : (58 : UInt8) ∈ l) : (58 : UInt8) ∈ lowF l := List.mem_map.mpr ⟨58, h, by decide⟩
theorem portI_pos {x : List UInt8} : 0 < portI x ↔ x = httpT ∨ x = httpsT := by
  unfold portI
  by_cases h1 : x = httpT
  · rw [if_pos h1]; exact ⟨fun _ => .inl h1, fun _ => by decide⟩
  · rw [if_neg h1]
    by_cases h2 : x = httpsT
    · rw [if_pos h2]; exact ⟨fun _ => .inr h2, fun _ => by decide⟩
    · rw [if_neg h2]; exact ⟨fun h => by omega, fun h => (h.elim h1 h2).elim⟩
theorem port_len {x : List UInt8} (h : 0 < portI (lowF x)) : (x.length = 4 ∨ x.length = 5) ∧ (58 : UInt8) ∉ x := by
  have hl := lowF_len x
  rcases portI_pos.mp h with h | h
  · rw [h] at hl
    exact ⟨.inl hl.symm, fun hm => by have := low58 hm; rw [h] at this; revert this; decide⟩
  · rw [h] at hl
    exact ⟨.inr hl.symm, fun hm => by have := low58 hm; rw [h] at this; revert this; decide⟩
theorem sch_iff (s : List UInt8) (k : Nat) : (k + 3 ≤ s.length ∧ 0 < portI (lowF (s.take k)) ∧ (s.take (k + 3)).drop k = sep3) ↔ ∃ a b, s = a ++ (sep3 ++ b) ∧ a.length = k ∧ 0 < portI (lowF a) := by
  constructor
  · rintro ⟨h1, h2, h3⟩
    refine ⟨s.take k, s.drop (k + 3), ?_, by rw [List.length_take]; omega, h2⟩
    rw [← h3, ← List.append_assoc]
    have h4 : s.take k ++ (s.take (k + 3)).drop k = s.take (k + 3) := by
      have h5 : s.take k = (s.take (k + 3)).take k := by rw [List.take_take]; congr 1; omega
      rw [h5, List.take_append_drop]
    rw [h4, List.take_append_drop]
  · rintro ⟨a, b, rfl, rfl, h⟩
    refine ⟨by simp [sep3], by rw [take_app]; exact h, ?_⟩
    have h4 : (a ++ (sep3 ++ b)).take (a.length + 3) = a ++ sep3 := by
      have h5 : a.length + 3 = (a ++ sep3).length := by simp [sep3]
      rw [h5, ← List.append_assoc, take_app]
    rw [h4, drop_app]
theorem first58 {a b a' b' : List UInt8} (h : a ++ (sep3 ++ b) = a' ++ (sep3 ++ b')) (ha : (58 : UInt8) ∉ a) : a.length ≤ a'.length := by
  rcases Nat.lt_or_ge a'.length a.length with hlt | hge
  · exfalso
    have h1 : (a ++ (sep3 ++ b)).getD a'.length 0 = 58 := by rw [h]; simp [List.getD_eq_getElem?_getD, sep3]
    have h2 : (a ++ (sep3 ++ b)).getD a'.length 0 = a.getD a'.length 0 := by
      rw [List.getD_eq_getElem?_getD, List.getElem?_append_left hlt, ← List.getD_eq_getElem?_getD]
    rw [h2, getD_of hlt] at h1
    exact ha (h1 ▸ List.getElem_mem _)
  · exact hge
theorem app_inj {a b a' b' : List UInt8} (h : a ++ b = a' ++ b') (hl : a.length = a'.length) : a = a' ∧ b = b' := List.append_inj h hl

theorem scheme_cut (s : List UInt8) : (((Lib.cut s sep3).2.2 = false ∨ portI (lowF (Lib.cut s sep3).1) = 0) ∧ schemeF s = ([], 0)) ∨
    ∃ a b, s = a ++ (sep3 ++ b) ∧ Lib.cut s sep3 = (a, b, true) ∧ 0 < portI (lowF a) ∧ (a.length = 4 ∨ a.length = 5) ∧ schemeF s = (lowF a, a.length + 3) := by
  have i1 : sch1 s ↔ _ := sch_iff s 4
  have i2 : sch2 s ↔ _ := sch_iff s 5
  rcases cut_cases s with ⟨hc, hno⟩ | ⟨a, b, hs, hc, hmin⟩
  · left
    rw [hc]
    refine ⟨.inl rfl, ?_⟩
    unfold schemeF
    rw [if_neg (fun h => by obtain ⟨a, b, e, _⟩ := i1.mp h; exact hno a b e), if_neg (fun h => by obtain ⟨a, b, e, _⟩ := i2.mp h; exact hno a b e)]
  · have huniq : ∀ a' b', s = a' ++ (sep3 ++ b') → 0 < portI (lowF a') → a' = a := fun a' b' e hp => by
      have h1 := hmin a' b' e
      have h2 := first58 (e ▸ hs : a' ++ (sep3 ++ b') = a ++ (sep3 ++ b)) (port_len hp).2
      exact (app_inj (e ▸ hs : a' ++ (sep3 ++ b') = a ++ (sep3 ++ b)) (by omega)).1
    by_cases hp : 0 < portI (lowF a)
    · right
      have hl := (port_len hp).1
      refine ⟨a, b, hs, hc, hp, hl, ?_⟩
      unfold schemeF
      have ht : s.take a.length = a := by rw [hs, take_app]
      rcases hl with hl | hl
      · rw [if_pos (i1.mpr ⟨a, b, hs, hl, hp⟩), ← hl, ht, hl]
      · rw [if_neg (fun h => by
          obtain ⟨a', b', e, e4, hp'⟩ := i1.mp h
          rw [huniq a' b' e hp'] at e4
          omega), if_pos (i2.mpr ⟨a, b, hs, hl, hp⟩), ← hl, ht, hl]
    · left
      rw [hc]
      refine ⟨.inr (by rcases portI_in (lowF a) with h | h | h <;> simp only at h ⊢ <;> omega), ?_⟩
      unfold schemeF
      rw [if_neg (fun h => by obtain ⟨a', b', e, _, hp'⟩ := i1.mp h; rw [huniq a' b' e hp'] at hp'; exact hp hp'),
        if_neg (fun h => by obtain ⟨a', b', e, _, hp'⟩ := i2.mp h; rw [huniq a' b' e hp'] at hp'; exact hp hp')]
end Go.Proofs.GoC
