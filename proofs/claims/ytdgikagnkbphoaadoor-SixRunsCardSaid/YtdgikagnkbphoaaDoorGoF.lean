/-
  What the functions compute, part five: the pieces of a text. No claim by itself.
-/
import Derived.Test.YtdgikagnkbphoaaDoorGoE
namespace Go.Proofs.GoC
open Go Go.Proofs.SL
set_option linter.unusedSimpArgs false
set_option linter.unusedVariables false
set_option maxRecDepth 10000

/-- The pieces of a text, from here on: those before, and what there is of the one at hand. -/
def splitA (sep : UInt8) : List UInt8 → List (List UInt8) → List UInt8 → List (List UInt8)
  | [], acc, cur => acc ++ [cur]
  | b :: l, acc, cur => if b = sep then splitA sep l (acc ++ [cur]) [] else splitA sep l acc (cur ++ [b])

def ord17 : Nat → List Nat
  | 7 => [0, 1, 2, 3, 4, 5, 6, 7, 8, 9, 10, 11, 12, 13]
  | _ => []

theorem ord17_7 : ord17 7 = [0, 1, 2, 3, 4, 5, 6, 7, 8, 9, 10, 11, 12, 13] := rfl

theorem c_text_Split (l : List UInt8) (sep : UInt8) (hl : l.length < 1000000) : PCall Tryd.prog 33 [.str (bs l), .int .u8 sep.toNat] (.sl 1 (strs (splitA sep l [] []))) := by
  intro H
  refine scall_of (ord := ord17) (rs := [4]) Tryd.func33 rfl (by kernel_rfl) (by kernel_rfl) (by kernel_rfl) Tryd.ntmps33 fun hb _ => go 100 (fun t => t == 7) mixed ?_
  simp only [↓reduceIte, go_sem]
  obtain ⟨R, hR⟩ : ∃ R, R = splitA sep l [] [] := ⟨_, rfl⟩
  rw [← hR]
  refine runs_loopA (fun x : Nat × List (List UInt8) × List UInt8 × Nat => x.1 ≤ l.length ∧ x.2.1.length ≤ x.1 ∧ x.2.2.1.length ≤ x.1 ∧ splitA sep (l.drop x.1) x.2.1 x.2.2.1 = R) (fun x => l.length - x.1) [true, true, false, false, false, true, false, false, false, true, true]
    (fun x => slots 36 [.str (bs l), .int .u8 sep.toNat, .any, .any, .any, .buf H.length x.2.2.2 0 (x.2.1.length + 1) 1 true, .any, .any, .any, .int .i64 l.length, .int .i64 x.1])
    (fun x => H ++ [some (.cells x.2.2.2 (strs (x.2.1 ++ [x.2.2.1])))]) (by rfl) (0, [], [], 0) ⟨Nat.zero_le _, Nat.le_refl _, Nat.le_refl _, hR.symm⟩ rfl rfl ?_
  rintro ⟨k, acc, cur, ver⟩ ⟨hk, hacc, hcur, hnum⟩
  have hk : k ≤ l.length := hk
  have hacc : acc.length ≤ k := hacc
  have hcur : cur.length ≤ k := hcur
  have hnum : splitA sep (l.drop k) acc cur = R := hnum
  have e3 : IntKind.i64.wrap ((k : Int) + 1) = ((k + 1 : Nat) : Int) := by rw [w64 (by omega) (by omega)]; omega
  have e4 : IntKind.i64.wrap (((acc.length + 1 : Nat) : Int) - 1) = ((acc.length : Nat) : Int) := by rw [w64 (by omega) (by omega)]; omega
  refine go 100 (fun t => t == 7) mixed ?_
  by_cases hlt : k < l.length
  · have u : ((l.getD k 0).toNat : Int) = (sep.toNat : Int) ↔ l.getD k 0 = sep := by
      constructor
      · intro h; exact UInt8.toNat_inj.mp (by omega)
      · intro h; rw [h]
    rw [List.drop_eq_getElem_cons hlt, ← getD_of hlt] at hnum
    unfold splitA at hnum
    by_cases hs : l.getD k 0 = sep
    · rw [if_pos hs] at hnum
      simp only [↓reduceIte, go_sem, e3, e4, hlt, u, hs]
      refine ⟨⟨by simp, by unfold most; omega, by unfold most; omega⟩, ?_⟩
      refine rnd_next (k + 1, acc ++ [cur], [], ver + 1) ⟨by show k + 1 ≤ _; omega, by simp; omega, by simp, hnum⟩ (by show l.length - (k + 1) < _; omega) ?_ ?_
      · simp only [↓reduceIte, go_sem, List.length_append]
      · simp only [strs, List.map_append, List.map_cons, List.map_nil]
    · rw [if_neg hs] at hnum
      have g1 : (strs (acc ++ [cur])).getD (0 + acc.length * 1) .any = .str (bs cur) := by rw [Nat.zero_add, Nat.mul_one]; exact strs_get_last
      have g2 : ∀ d, (strs (acc ++ [cur])).set (0 + acc.length * 1) (.str (bs d)) = strs (acc ++ [d]) := fun d => by rw [Nat.zero_add, Nat.mul_one]; exact strs_set_last
      have g3 : acc.length < acc.length + 1 := by omega
      simp only [↓reduceIte, go_sem, e3, e4, hlt, u, hs, ord17_7, g1, g2, g3, one_at hlt, List.length_append]
      refine ⟨by omega, ⟨by omega, by omega⟩, by omega, by omega, ?_⟩
      exact rnd_next (k + 1, acc, cur ++ [l.getD k 0], ver) ⟨by show k + 1 ≤ _; omega, by show acc.length ≤ _; omega, by show (cur ++ [l.getD k 0]).length ≤ _; rw [List.length_append]; simp; omega, hnum⟩ (by show l.length - (k + 1) < _; omega) rfl rfl
  · simp only [↓reduceIte, go_sem, e3, e4, hlt]
    refine go 100 (fun _ => false) mixed ?_
    simp only [↓reduceIte, go_sem]
    rw [List.drop_eq_nil_of_le (by omega)] at hnum
    unfold splitA at hnum
    refine fin_freeze (i := H.length) (cs := strs (acc ++ [cur])) (xs := strs (acc ++ [cur])) (.inr rfl) hb rfl (Nat.le_refl _) (by rw [get_tail0]; rfl) ?_ (by simp [strs]) strs_cells strs_bdd ⟨by rw [hnum], rfl⟩
    rw [flat_strs]
    have : (strs (acc ++ [cur])).length = (acc.length + 1) * 1 := by simp [strs]
    rw [← this]; simp [subCells]

theorem c_abatisref01_Split (l : List UInt8) (sep : UInt8) (hl : l.length < 1000000) : PCall Tryd.prog 35 [.str (bs l), .int .u8 sep.toNat] (.sl 1 (strs (splitA sep l [] []))) := by
  intro H
  refine scall_of (ord := fun _ => []) (rs := [4]) Tryd.func35 rfl (by kernel_rfl) (by kernel_rfl) (by kernel_rfl) Tryd.ntmps35 fun hb _ => go 100 (fun t => false) mixed ?_
  simp only [↓reduceIte, go_sem]
  obtain ⟨R, hR⟩ : ∃ R, R = splitA sep l [] [] := ⟨_, rfl⟩
  rw [← hR]
  refine Runs.ghost (by rfl) (Ghost.grow (t := 5) (m := 1) rfl) ?_
  refine runs_loopA (fun x : Nat × List (List UInt8) × Nat × Nat => x.1 ≤ l.length ∧ x.2.1.length ≤ x.1 ∧ x.2.2.1 ≤ x.1 ∧ splitA sep (l.drop x.1) x.2.1 ((l.take x.1).drop x.2.2.1) = R) (fun x => l.length - x.1) [true, true, false, false, false, true, true, true]
    (fun x => slots 34 [.str (bs l), .int .u8 sep.toNat, .any, .any, .any, .buf H.length x.2.2.2 0 x.2.1.length 1 true, .int .i64 x.2.2.1, .int .i64 x.1])
    (fun x => H ++ [some (.cells x.2.2.2 (strs x.2.1))]) (by rfl) (0, [], 0, 0) ⟨Nat.zero_le _, Nat.le_refl _, Nat.le_refl _, hR.symm⟩ rfl rfl ?_
  rintro ⟨k, acc, at', ver⟩ ⟨hk, hacc, hcur, hnum⟩
  have hk : k ≤ l.length := hk
  have hacc : acc.length ≤ k := hacc
  have hcur : at' ≤ k := hcur
  have hnum : splitA sep (l.drop k) acc ((l.take k).drop at') = R := hnum
  have e3 : IntKind.i64.wrap ((k : Int) + 1) = ((k + 1 : Nat) : Int) := by rw [w64 (by omega) (by omega)]; omega
  refine go 100 (fun t => false) mixed ?_
  by_cases hlt : k < l.length
  · have u : ((l.getD k 0).toNat : Int) = (sep.toNat : Int) ↔ l.getD k 0 = sep := by
      constructor
      · intro h; exact UInt8.toNat_inj.mp (by omega)
      · intro h; rw [h]
    rw [List.drop_eq_getElem_cons hlt, ← getD_of hlt] at hnum
    unfold splitA at hnum
    by_cases hs : l.getD k 0 = sep
    · rw [if_pos hs] at hnum
      simp only [↓reduceIte, go_sem, e3, hlt, u, hs]
      refine ⟨⟨hcur, hk⟩, ⟨by omega, by unfold most; omega, by unfold most; omega⟩, ?_⟩
      refine rnd_next (k + 1, acc ++ [(l.take k).drop at'], k + 1, ver + 1) ⟨by show k + 1 ≤ _; omega, by show (acc ++ [(l.take k).drop at']).length ≤ _; rw [List.length_append]; simp; omega, Nat.le_refl _, ?_⟩ (by show l.length - (k + 1) < _; omega) ?_ ?_
      · show splitA sep (l.drop (k + 1)) _ ((l.take (k + 1)).drop (k + 1)) = R
        have h0 : (l.take (k + 1)).drop (k + 1) = [] := List.drop_eq_nil_of_le (by rw [List.length_take]; omega)
        rw [h0]; exact hnum
      · simp only [↓reduceIte, go_sem, List.length_append]
      · simp only [strs, List.map_append, List.map_cons, List.map_nil]
    · rw [if_neg hs] at hnum
      simp only [↓reduceIte, go_sem, e3, hlt, u, hs]
      have hext : (l.take (k + 1)).drop at' = (l.take k).drop at' ++ [l.getD k 0] := by
        rw [List.take_add_one, List.drop_append_of_le_length (by simp; omega), getD_of hlt]
        simp [hlt]
      exact rnd_next (k + 1, acc, at', ver) ⟨by show k + 1 ≤ _; omega, by show acc.length ≤ _; omega, by show at' ≤ _; omega, by rw [hext]; exact hnum⟩ (by show l.length - (k + 1) < _; omega) rfl rfl
  · simp only [↓reduceIte, go_sem, e3, hlt]
    refine go 100 (fun _ => false) mixed ?_
    simp only [↓reduceIte, go_sem]
    have hk2 : k = l.length := by omega
    subst hk2
    rw [List.drop_length] at hnum
    unfold splitA at hnum
    refine ⟨hcur, ⟨by omega, by unfold most; omega, by unfold most; omega⟩, ?_⟩
    have hcells : strs acc ++ [PV.str (bs (List.drop at' (List.take l.length l)))] = strs R := by rw [← hnum]; simp [strs]
    have hlen : acc.length + 1 = R.length := by rw [← hnum]; simp
    rw [hcells, hlen]
    refine fin_freeze (i := H.length) (cs := strs R) (xs := strs R) (.inr rfl) hb rfl (Nat.le_refl _) (by rw [get_tail0]; rfl) ?_ (by simp [strs]) strs_cells strs_bdd ⟨rfl, rfl⟩
    rw [flat_strs]
    have : (strs R).length = R.length * 1 := by simp [strs]
    rw [← this]; simp [subCells]
end Go.Proofs.GoC
