/-
  What the functions compute, part one. No claim by itself.
-/
import Derived.Test.YtmgemdgbffmnjaaTab
import Derived.Test.YtmgemdgbffmnjaaSlM4
namespace Go.Proofs.GoC
open Go Go.Proofs.SL
set_option linter.unusedSimpArgs false
set_option linter.unusedVariables false
set_option maxRecDepth 10000

theorem mixed : Try.prog.follows .mixedOrders = true := by kernel_rfl

/-- A digit's number; -1: it is none. -/
def digitV (b : Int) : Int :=
  if 48 ≤ b ∧ b ≤ 57 then b - 48 else if 97 ≤ b ∧ b ≤ 102 then b - 87 else if 65 ≤ b ∧ b ≤ 70 then b - 55 else -1

/-- The number of digits from here on, n before; none: there is none. -/
def numF (base : Int) : List UInt8 → Int → Option Int
  | [], n => some n
  | b :: l, n => if digitV b.toNat < 0 ∨ base ≤ digitV b.toNat then none else if 1099511627776 < n * base + digitV b.toNat then none else numF base l (n * base + digitV b.toNat)

def numV (base : Int) (l : List UInt8) : PV :=
  match numF base l 0 with
  | some n => .tup [.int .i64 n, .bool (decide (0 < l.length))]
  | none => .tup [.int .i64 0, .bool false]

theorem digitV_le (b : Int) : -1 ≤ digitV b ∧ digitV b ≤ 15 := by unfold digitV; (repeat' split) <;> omega

end Go.Proofs.GoC


/-
  What the functions compute, part two. No claim by itself.
-/
namespace Go.Proofs.GoC
open Go Go.Proofs.SL
set_option linter.unusedSimpArgs false
set_option linter.unusedVariables false
set_option maxRecDepth 10000

end Go.Proofs.GoC

/-
  What the functions compute, part three: a part's number. No claim by itself.
-/
namespace Go.Proofs.GoC
open Go Go.Proofs.SL
set_option linter.unusedSimpArgs false
set_option linter.unusedVariables false
set_option maxRecDepth 10000

/-- The number of digits, 2^32 at most; none: there is one that is none. -/
def digF (base : Int) : List UInt8 → Int → Option Int
  | [], n => some n
  | b :: l, n => if digitV b.toNat < 0 ∨ base ≤ digitV b.toNat then none else digF base l (if 4294967296 < n * base + digitV b.toNat then 4294967296 else n * base + digitV b.toNat)

theorem numV_one (base : Int) (b : UInt8) : numV base [b] = if digitV b.toNat < 0 ∨ base ≤ digitV b.toNat then .tup [.int .i64 0, .bool false] else .tup [.int .i64 (digitV b.toNat), .bool true] := by
  have hd := digitV_le b.toNat
  by_cases h : digitV b.toNat < 0 ∨ base ≤ digitV b.toNat
  · rw [if_pos h]; simp [numV, numF, h]
  · rw [if_neg h]
    have : ¬ 1099511627776 < digitV b.toNat := by omega
    simp [numV, numF, h, this]

/-- A number, or none. -/
def resV : Option Int → PV
  | some n => .tup [.int .i64 n, .bool true]
  | none => .tup [.int .i64 0, .bool false]

/-- What stands behind the first of these heads that a part has. -/
def behindF (p : List UInt8) : List (List UInt8) → PV
  | [] => .tup [.str (bs []), .bool false]
  | h :: hs => if p.take h.length = h ∧ 1 < p.length then .tup [.str (bs (p.drop h.length)), .bool true] else behindF p hs

end Go.Proofs.GoC

/-
  What the functions compute, part four: a part's number, in the code and in the reference. No claim by itself.
-/
namespace Go.Proofs.GoC
open Go Go.Proofs.SL
set_option linter.unusedSimpArgs false
set_option linter.unusedVariables false
set_option maxRecDepth 10000

/-- A part's number; none: there is none. -/
def partF : List UInt8 → Option Int
  | [] => none
  | [a] => digF 10 [a] 0
  | a :: b :: t => if a = 48 then (if b = 120 ∨ b = 88 then digF 16 t 0 else digF 8 (b :: t) 0) else digF 10 (a :: b :: t) 0

theorem behind2 (p : List UInt8) : behindF p [[48, 120], [48, 88]] = if (p.take 2 = [48, 120] ∨ p.take 2 = [48, 88]) ∧ 1 < p.length then .tup [.str (bs (p.drop 2)), .bool true] else .tup [.str (bs []), .bool false] := by
  simp only [behindF, List.length_cons, List.length_nil]
  by_cases h1 : p.take 2 = [48, 120] <;> by_cases h2 : p.take 2 = [48, 88] <;> by_cases h3 : 1 < p.length <;> simp [h1, h2, h3]

theorem behind1 (p : List UInt8) : behindF p [[48]] = if p.take 1 = [48] ∧ 1 < p.length then .tup [.str (bs (p.drop 1)), .bool true] else .tup [.str (bs []), .bool false] := by
  simp only [behindF, List.length_cons, List.length_nil]

theorem partF_2 (p : List UInt8) (h : (p.take 2 = [48, 120] ∨ p.take 2 = [48, 88]) ∧ 1 < p.length) : partF p = digF 16 (p.drop 2) 0 := by
  rcases p with _ | ⟨a, _ | ⟨b, t⟩⟩
  · simp at h
  · simp at h
  · simp only [List.take_succ_cons, List.take_zero, List.cons.injEq, and_true] at h
    rcases h.1 with ⟨rfl, rfl⟩ | ⟨rfl, rfl⟩ <;> simp [partF]

theorem partF_1 (p : List UInt8) (h2 : ¬ ((p.take 2 = [48, 120] ∨ p.take 2 = [48, 88]) ∧ 1 < p.length)) (h : p.take 1 = [48] ∧ 1 < p.length) : partF p = digF 8 (p.drop 1) 0 := by
  rcases p with _ | ⟨a, _ | ⟨b, t⟩⟩
  · simp at h
  · simp at h
  · simp only [List.take_succ_cons, List.take_zero, List.cons.injEq, and_true, List.length_cons] at h h2
    have ha := h.1
    subst ha
    have hb : ¬ (b = 120 ∨ b = 88) := fun hb => h2 ⟨by rcases hb with rfl | rfl <;> simp, by omega⟩
    simp [partF, hb]

theorem partF_0 (p : List UInt8) (h0 : p ≠ []) (h2 : ¬ ((p.take 2 = [48, 120] ∨ p.take 2 = [48, 88]) ∧ 1 < p.length)) (h : ¬ (p.take 1 = [48] ∧ 1 < p.length)) : partF p = digF 10 p 0 := by
  rcases p with _ | ⟨a, _ | ⟨b, t⟩⟩
  · exact absurd rfl h0
  · rfl
  · simp only [List.take_succ_cons, List.take_zero, List.cons.injEq, and_true, List.length_cons] at h h2
    have ha : ¬ a = 48 := fun ha => h ⟨ha, by omega⟩
    simp [partF, ha]

theorem bdd_resV (n : Nat) (o : Option Int) : Bdd n (resV o) := by cases o <;> simp [resV]

end Go.Proofs.GoC

/-
  What the functions compute, part five: the pieces of a text. No claim by itself.
-/
namespace Go.Proofs.GoC
open Go Go.Proofs.SL
set_option linter.unusedSimpArgs false
set_option linter.unusedVariables false
set_option maxRecDepth 10000

/-- The pieces of a text, from here on: those before, and what there is of the one at hand. -/
def splitA (sep : UInt8) : List UInt8 → List (List UInt8) → List UInt8 → List (List UInt8)
  | [], acc, cur => acc ++ [cur]
  | b :: l, acc, cur => if b = sep then splitA sep l (acc ++ [cur]) [] else splitA sep l acc (cur ++ [b])

def ord17 : Nat → List Nat
  | 7 => [0, 1, 2, 3, 4, 5, 6, 7, 8, 9, 10, 11, 12, 13]
  | _ => []

theorem ord17_7 : ord17 7 = [0, 1, 2, 3, 4, 5, 6, 7, 8, 9, 10, 11, 12, 13] := rfl

theorem c_text_Split (l : List UInt8) (sep : UInt8) (hl : l.length < 1100000) : PCall Try.prog 88 [.str (bs l), .int .u8 sep.toNat] (.sl 1 (strs (splitA sep l [] []))) := by
  intro H
  refine scall_of (ord := ord17) (rs := [4]) Try.func88 rfl (by kernel_rfl) (by kernel_rfl) (by kernel_rfl) Try.ntmps88 fun hb _ => go 100 (fun t => t == 7) mixed ?_
  simp only [↓reduceIte, go_sem]
  obtain ⟨R, hR⟩ : ∃ R, R = splitA sep l [] [] := ⟨_, rfl⟩
  rw [← hR]
  refine runs_loopA (fun x : Nat × List (List UInt8) × List UInt8 × Nat => x.1 ≤ l.length ∧ x.2.1.length ≤ x.1 ∧ x.2.2.1.length ≤ x.1 ∧ splitA sep (l.drop x.1) x.2.1 x.2.2.1 = R) (fun x => l.length - x.1) [true, true, false, false, false, true, false, false, false, true, true]
    (fun x => slots 36 [.str (bs l), .int .u8 sep.toNat, .any, .any, .any, .buf H.length x.2.2.2 0 (x.2.1.length + 1) 1 true, .any, .any, .any, .int .i64 l.length, .int .i64 x.1])
    (fun x => H ++ [some (.cells x.2.2.2 (strs (x.2.1 ++ [x.2.2.1])))]) (by rfl) (0, [], [], 0) ⟨Nat.zero_le _, Nat.le_refl _, Nat.le_refl _, hR.symm⟩ rfl rfl ?_
  rintro ⟨k, acc, cur, ver⟩ ⟨hk, hacc, hcur, hnum⟩
  have hk : k ≤ l.length := hk
  have hacc : acc.length ≤ k := hacc
  have hcur : cur.length ≤ k := hcur
  have hnum : splitA sep (l.drop k) acc cur = R := hnum
  have e3 : IntKind.i64.wrap ((k : Int) + 1) = ((k + 1 : Nat) : Int) := by rw [w64 (by omega) (by omega)]; omega
  have e4 : IntKind.i64.wrap (((acc.length + 1 : Nat) : Int) - 1) = ((acc.length : Nat) : Int) := by rw [w64 (by omega) (by omega)]; omega
  refine go 100 (fun t => t == 7) mixed ?_
  by_cases hlt : k < l.length
  · have u : ((l.getD k 0).toNat : Int) = (sep.toNat : Int) ↔ l.getD k 0 = sep := by
      constructor
      · intro h; exact UInt8.toNat_inj.mp (by omega)
      · intro h; rw [h]
    rw [List.drop_eq_getElem_cons hlt, ← getD_of hlt] at hnum
    unfold splitA at hnum
    by_cases hs : l.getD k 0 = sep
    · rw [if_pos hs] at hnum
      simp only [↓reduceIte, go_sem, e3, e4, hlt, u, hs]
      refine ⟨⟨by simp, by unfold most; omega, by unfold most; omega⟩, ?_⟩
      refine rnd_next (k + 1, acc ++ [cur], [], ver + 1) ⟨by show k + 1 ≤ _; omega, by simp; omega, by simp, hnum⟩ (by show l.length - (k + 1) < _; omega) ?_ ?_
      · simp only [↓reduceIte, go_sem, List.length_append]
      · simp only [strs, List.map_append, List.map_cons, List.map_nil]
    · rw [if_neg hs] at hnum
      have g1 : (strs (acc ++ [cur])).getD (0 + acc.length * 1) .any = .str (bs cur) := by rw [Nat.zero_add, Nat.mul_one]; exact strs_get_last
      have g2 : ∀ d, (strs (acc ++ [cur])).set (0 + acc.length * 1) (.str (bs d)) = strs (acc ++ [d]) := fun d => by rw [Nat.zero_add, Nat.mul_one]; exact strs_set_last
      have g3 : acc.length < acc.length + 1 := by omega
      simp only [↓reduceIte, go_sem, e3, e4, hlt, u, hs, ord17_7, g1, g2, g3, one_at hlt, List.length_append]
      refine ⟨by omega, ⟨by omega, by omega⟩, by omega, by omega, ?_⟩
      exact rnd_next (k + 1, acc, cur ++ [l.getD k 0], ver) ⟨by show k + 1 ≤ _; omega, by show acc.length ≤ _; omega, by show (cur ++ [l.getD k 0]).length ≤ _; rw [List.length_append]; simp; omega, hnum⟩ (by show l.length - (k + 1) < _; omega) rfl rfl
  · simp only [↓reduceIte, go_sem, e3, e4, hlt]
    refine go 100 (fun _ => false) mixed ?_
    simp only [↓reduceIte, go_sem]
    rw [List.drop_eq_nil_of_le (by omega)] at hnum
    unfold splitA at hnum
    refine fin_freeze (i := H.length) (cs := strs (acc ++ [cur])) (xs := strs (acc ++ [cur])) (.inr rfl) hb rfl (Nat.le_refl _) (by rw [get_tail0]; rfl) ?_ (by simp [strs]) strs_cells strs_bdd ⟨by rw [hnum], rfl⟩
    rw [flat_strs]
    have : (strs (acc ++ [cur])).length = (acc.length + 1) * 1 := by simp [strs]
    rw [← this]; simp [subCells]

theorem c_abatisref01_Split (l : List UInt8) (sep : UInt8) (hl : l.length < 1100000) : PCall Try.prog 76 [.str (bs l), .int .u8 sep.toNat] (.sl 1 (strs (splitA sep l [] []))) := by
  intro H
  refine scall_of (ord := fun _ => []) (rs := [4]) Try.func76 rfl (by kernel_rfl) (by kernel_rfl) (by kernel_rfl) Try.ntmps76 fun hb _ => go 100 (fun t => false) mixed ?_
  simp only [↓reduceIte, go_sem]
  obtain ⟨R, hR⟩ : ∃ R, R = splitA sep l [] [] := ⟨_, rfl⟩
  rw [← hR]
  refine Runs.ghost (by rfl) (Ghost.grow (t := 5) (m := 1) rfl) ?_
  refine runs_loopA (fun x : Nat × List (List UInt8) × Nat × Nat => x.1 ≤ l.length ∧ x.2.1.length ≤ x.1 ∧ x.2.2.1 ≤ x.1 ∧ splitA sep (l.drop x.1) x.2.1 ((l.take x.1).drop x.2.2.1) = R) (fun x => l.length - x.1) [true, true, false, false, false, true, true, true]
    (fun x => slots 34 [.str (bs l), .int .u8 sep.toNat, .any, .any, .any, .buf H.length x.2.2.2 0 x.2.1.length 1 true, .int .i64 x.2.2.1, .int .i64 x.1])
    (fun x => H ++ [some (.cells x.2.2.2 (strs x.2.1))]) (by rfl) (0, [], 0, 0) ⟨Nat.zero_le _, Nat.le_refl _, Nat.le_refl _, hR.symm⟩ rfl rfl ?_
  rintro ⟨k, acc, at', ver⟩ ⟨hk, hacc, hcur, hnum⟩
  have hk : k ≤ l.length := hk
  have hacc : acc.length ≤ k := hacc
  have hcur : at' ≤ k := hcur
  have hnum : splitA sep (l.drop k) acc ((l.take k).drop at') = R := hnum
  have e3 : IntKind.i64.wrap ((k : Int) + 1) = ((k + 1 : Nat) : Int) := by rw [w64 (by omega) (by omega)]; omega
  refine go 100 (fun t => false) mixed ?_
  by_cases hlt : k < l.length
  · have u : ((l.getD k 0).toNat : Int) = (sep.toNat : Int) ↔ l.getD k 0 = sep := by
      constructor
      · intro h; exact UInt8.toNat_inj.mp (by omega)
      · intro h; rw [h]
    rw [List.drop_eq_getElem_cons hlt, ← getD_of hlt] at hnum
    unfold splitA at hnum
    by_cases hs : l.getD k 0 = sep
    · rw [if_pos hs] at hnum
      simp only [↓reduceIte, go_sem, e3, hlt, u, hs]
      refine ⟨⟨hcur, hk⟩, ⟨by omega, by unfold most; omega, by unfold most; omega⟩, ?_⟩
      refine rnd_next (k + 1, acc ++ [(l.take k).drop at'], k + 1, ver + 1) ⟨by show k + 1 ≤ _; omega, by show (acc ++ [(l.take k).drop at']).length ≤ _; rw [List.length_append]; simp; omega, Nat.le_refl _, ?_⟩ (by show l.length - (k + 1) < _; omega) ?_ ?_
      · show splitA sep (l.drop (k + 1)) _ ((l.take (k + 1)).drop (k + 1)) = R
        have h0 : (l.take (k + 1)).drop (k + 1) = [] := List.drop_eq_nil_of_le (by rw [List.length_take]; omega)
        rw [h0]; exact hnum
      · simp only [↓reduceIte, go_sem, List.length_append]
      · simp only [strs, List.map_append, List.map_cons, List.map_nil]
    · rw [if_neg hs] at hnum
      simp only [↓reduceIte, go_sem, e3, hlt, u, hs]
      have hext : (l.take (k + 1)).drop at' = (l.take k).drop at' ++ [l.getD k 0] := by
        rw [List.take_add_one, List.drop_append_of_le_length (by simp; omega), getD_of hlt]
        simp [hlt]
      exact rnd_next (k + 1, acc, at', ver) ⟨by show k + 1 ≤ _; omega, by show acc.length ≤ _; omega, by show at' ≤ _; omega, by rw [hext]; exact hnum⟩ (by show l.length - (k + 1) < _; omega) rfl rfl
  · simp only [↓reduceIte, go_sem, e3, hlt]
    refine go 100 (fun _ => false) mixed ?_
    simp only [↓reduceIte, go_sem]
    have hk2 : k = l.length := by omega
    subst hk2
    rw [List.drop_length] at hnum
    unfold splitA at hnum
    refine ⟨hcur, ⟨by omega, by unfold most; omega, by unfold most; omega⟩, ?_⟩
    have hcells : strs acc ++ [PV.str (bs (List.drop at' (List.take l.length l)))] = strs R := by rw [← hnum]; simp [strs]
    have hlen : acc.length + 1 = R.length := by rw [← hnum]; simp
    rw [hcells, hlen]
    refine fin_freeze (i := H.length) (cs := strs R) (xs := strs R) (.inr rfl) hb rfl (Nat.le_refl _) (by rw [get_tail0]; rfl) ?_ (by simp [strs]) strs_cells strs_bdd ⟨rfl, rfl⟩
    rw [flat_strs]
    have : (strs R).length = R.length * 1 := by simp [strs]
    rw [← this]; simp [subCells]
end Go.Proofs.GoC

/-
  What the functions compute, part six: a loose text's parts, and whether they end in a number. No claim by itself.
-/
namespace Go.Proofs.GoC
open Go Go.Proofs.SL
set_option linter.unusedSimpArgs false
set_option linter.unusedVariables false
set_option maxRecDepth 10000

theorem splitA_len (sep : UInt8) : ∀ (l : List UInt8) (acc : List (List UInt8)) (cur : List UInt8), acc.length + 1 ≤ (splitA sep l acc cur).length ∧ (splitA sep l acc cur).length ≤ acc.length + 1 + l.length
  | [], acc, cur => by simp [splitA]
  | b :: l, acc, cur => by
    unfold splitA
    split
    · have := splitA_len sep l (acc ++ [cur]) []
      simp only [List.length_append, List.length_cons, List.length_nil] at this ⊢
      omega
    · have := splitA_len sep l acc (cur ++ [b])
      simp only [List.length_cons] at this ⊢
      omega

/-- Every piece is no longer than the text. -/
theorem splitA_short (sep : UInt8) (N : Nat) : ∀ (l : List UInt8) (acc : List (List UInt8)) (cur : List UInt8), (∀ p ∈ acc, p.length ≤ N) → cur.length + l.length ≤ N → ∀ p ∈ splitA sep l acc cur, p.length ≤ N
  | [], acc, cur, h1, h2, p, hp => by
    simp only [splitA, List.mem_append, List.mem_singleton] at hp
    rcases hp with hp | rfl
    · exact h1 p hp
    · simpa using h2
  | b :: l, acc, cur, h1, h2, p, hp => by
    unfold splitA at hp
    simp only [List.length_cons] at h2
    split at hp
    · refine splitA_short sep N l _ _ (fun q hq => ?_) (by simp; omega) p hp
      simp only [List.mem_append, List.mem_singleton] at hq
      rcases hq with hq | rfl
      · exact h1 q hq
      · omega
    · exact splitA_short sep N l _ _ h1 (by simp; omega) p hp

def lastF (ps : List (List UInt8)) : List UInt8 := ps.getD (ps.length - 1) []

/-- The parts, without an empty last one (if there is another one). -/
def piecesF (l : List UInt8) : List (List UInt8) :=
  if 1 < (splitA 46 l [] []).length ∧ lastF (splitA 46 l [] []) = [] then (splitA 46 l [] []).take ((splitA 46 l [] []).length - 1) else splitA 46 l [] []

theorem piecesF_len (l : List UInt8) : 1 ≤ (piecesF l).length ∧ (piecesF l).length ≤ l.length + 1 := by
  have := splitA_len 46 l [] []
  simp only [List.length_nil] at this
  unfold piecesF
  split
  · simp; omega
  · omega

theorem piecesF_short (l : List UInt8) : ∀ p ∈ piecesF l, p.length ≤ l.length := by
  have h := splitA_short 46 l.length l [] [] (by simp) (by simp)
  unfold piecesF
  split
  · exact fun p hp => h p (List.mem_of_mem_take hp)
  · exact h

theorem digF_in (base : Int) (hb : 0 ≤ base) : ∀ (l : List UInt8) (n m : Int), 0 ≤ n → n ≤ 4294967296 → digF base l n = some m → 0 ≤ m ∧ m ≤ 4294967296
  | [], n, m, h0, h1, h => by simp only [digF, Option.some.injEq] at h; omega
  | b :: l, n, m, h0, h1, h => by
    unfold digF at h
    split at h
    · cases h
    · rename_i hv
      have hm : 0 ≤ n * base := Int.mul_nonneg h0 hb
      refine digF_in base hb l _ m ?_ ?_ h <;> split <;> omega

theorem partF_in (p : List UInt8) (m : Int) (h : partF p = some m) : 0 ≤ m ∧ m ≤ 4294967296 := by
  unfold partF at h
  split at h
  · cases h
  · exact digF_in 10 (by omega) _ _ _ (by omega) (by omega) h
  · split at h
    · split at h
      · exact digF_in 16 (by omega) _ _ _ (by omega) (by omega) h
      · exact digF_in 8 (by omega) _ _ _ (by omega) (by omega) h
    · exact digF_in 10 (by omega) _ _ _ (by omega) (by omega) h

/-- Whether parts end in a number. -/
def endsF (ps : List (List UInt8)) : Bool := (partF (lastF ps)).isSome || ((digF 10 (lastF ps) 0).isSome && !decide (lastF ps = []))

end Go.Proofs.GoC

/-
  What the functions compute, part seven: a loose text's address. No claim by itself.
-/
namespace Go.Proofs.GoC
open Go Go.Proofs.SL
set_option linter.unusedSimpArgs false
set_option linter.unusedVariables false
set_option maxRecDepth 10000

def room : Nat → Nat
  | 0 => 4294967296
  | 1 => 16777216
  | 2 => 65536
  | 3 => 256
  | _ => 1

/-- The number of the parts from the i-th on. -/
def looseGo : List (List UInt8) → Nat → Nat → Option Nat
  | [], acc, _ => some acc
  | [p], acc, i => match partF p with
    | some n => if (room i : Int) ≤ n then none else some (acc * room i + n.toNat)
    | none => none
  | p :: q :: t, acc, i => match partF p with
    | some n => if 255 < n then none else looseGo (q :: t) (acc * 256 + n.toNat) (i + 1)
    | none => none

def looseV (ps : List (List UInt8)) : PV :=
  if endsF ps = true then
    if 4 < ps.length then .tup [.int .u32 0, .int .i64 1] else match looseGo ps 0 0 with
      | some n => .tup [.int .u32 (IntKind.u32.wrap n), .int .i64 2]
      | none => .tup [.int .u32 0, .int .i64 1]
  else .tup [.int .u32 0, .int .i64 0]

theorem room_pow (k : Nat) (hk : k ≤ 4) : room k = 2 ^ (8 * (4 - k)) := by
  have : k = 0 ∨ k = 1 ∨ k = 2 ∨ k = 3 ∨ k = 4 := by omega
  rcases this with rfl | rfl | rfl | rfl | rfl <;> rfl

theorem room_in (k : Nat) : 1 ≤ room k ∧ room k ≤ 4294967296 := by unfold room; split <;> omega

theorem or_room {k acc n : Nat} (hk : k ≤ 4) (h : acc * room k < 4294967296) (hn : n < room k) : bitOp .or .i64 ((acc * room k : Nat) : Int) (n : Int) = ((acc * room k + n : Nat) : Int) := by
  rw [room_pow k hk] at *
  have h2 : 2 ^ (8 * (4 - k)) ≤ 4294967296 := by rw [← room_pow k hk]; exact (room_in k).2
  exact or_add hn (by omega)

theorem shl_room (k : Nat) (hk : k < 4) (n : Int) (h0 : 0 ≤ n) (h1 : n ≤ 255) : IntKind.i64.wrap (n * 2 ^ (min (8 * (3 - k)) 64)) = n * room (k + 1) := by
  have : k = 0 ∨ k = 1 ∨ k = 2 ∨ k = 3 := by omega
  rcases this with rfl | rfl | rfl | rfl <;> simp only [room] <;> rw [w64] <;> simp <;> omega

theorem shl_one (k : Nat) (hk : k < 4) : IntKind.i64.wrap (1 * 2 ^ (min (8 * (4 - k)) 64)) = room k := by
  have : k = 0 ∨ k = 1 ∨ k = 2 ∨ k = 3 := by omega
  rcases this with rfl | rfl | rfl | rfl <;> rfl

end Go.Proofs.GoC

/-
  What the functions compute, part eight: a loose text's address in the reference. No claim by itself.
-/
namespace Go.Proofs.GoC
open Go Go.Proofs.SL
set_option linter.unusedSimpArgs false
set_option linter.unusedVariables false
set_option maxRecDepth 10000
set_option maxHeartbeats 1100000

theorem room_step (k : Nat) (hk : k < 4) : room k = 256 * room (k + 1) := by
  have hk4 : k = 0 ∨ k = 1 ∨ k = 2 ∨ k = 3 := by omega
  rcases hk4 with rfl | rfl | rfl | rfl <;> rfl

theorem room_top (k : Nat) (hk : k ≤ 4) : 256 ^ k * room k = 4294967296 := by
  have hk4 : k = 0 ∨ k = 1 ∨ k = 2 ∨ k = 3 ∨ k = 4 := by omega
  rcases hk4 with rfl | rfl | rfl | rfl | rfl <;> rfl

theorem room_next {k acc n : Nat} (hk : k < 4) (h : acc * room k < 4294967296) (hn : n ≤ 255) : (acc * 256 + n) * room (k + 1) < 4294967296 := by
  rw [← room_top k (by omega)] at h
  rw [← room_top (k + 1) (by omega)]
  have h1 : acc < 256 ^ k := Nat.lt_of_mul_lt_mul_right h
  have h2 : acc * 256 + n < 256 ^ (k + 1) := by
    rw [Nat.pow_succ]
    generalize 256 ^ k = X at *
    omega
  exact Nat.mul_lt_mul_of_pos_right h2 (by have := (room_in (k + 1)).1; omega)

theorem last_drop (ps : List (List UInt8)) (k : Nat) (h : k + 1 = ps.length) : ps.drop k = [lastF ps] := by
  have hk : k < ps.length := by omega
  rw [List.drop_eq_getElem_cons hk, List.drop_eq_nil_of_le (by omega), ← getDL_of hk]
  unfold lastF
  rw [show ps.length - 1 = k by omega]

end Go.Proofs.GoC

/-
  What the law FourLoose computes: true, for every text. No claim by itself.
-/
namespace Go.Proofs.GoC
open Go Go.Proofs.SL
set_option linter.unusedSimpArgs false
set_option linter.unusedVariables false
set_option maxRecDepth 10000

theorem c_abatisref01_Few (l : List UInt8) (m : Nat) : PCall Try.prog 47 [.str (bs l), .int .i64 m] (.str (bs (l.take m))) := by
  intro H
  refine scall_of (ord := fun _ => []) (rs := [4]) Try.func47 rfl (by kernel_rfl) (by kernel_rfl) (by kernel_rfl) Try.ntmps47 fun hb _ => go 100 (fun t => false) mixed ?_
  by_cases h : m < l.length
  · have h' : m ≤ l.length := by omega
    simp only [↓reduceIte, go_sem, h, h']
    exact fin rfl rfl
  · simp only [↓reduceIte, go_sem, h]
    exact fin (by simp only [retV, List.getD_cons_succ, List.getD_cons_zero]; rw [List.take_of_length_le (by omega)]) rfl

theorem looseV_two (ps : List (List UInt8)) : ∃ a b, looseV ps = .tup [.int .u32 a, .int .i64 b] := by
  unfold looseV
  split
  · split
    · exact ⟨_, _, rfl⟩
    · split
      · exact ⟨_, _, rfl⟩
      · exact ⟨_, _, rfl⟩
  · exact ⟨_, _, rfl⟩

theorem live_is : looseV (piecesF [48, 120, 55, 102, 46, 49]) = .tup [.int .u32 2130706433, .int .i64 2] := by kernel_rfl

end Go.Proofs.GoC

/-
  What the reference's Decimal computes: a number's digits; and how digits read. No claim by itself.
-/
namespace Go.Proofs.GoC
open Go Go.Proofs.SL
set_option linter.unusedSimpArgs false
set_option linter.unusedVariables false
set_option maxRecDepth 10000

/-- A number's digits. -/
def decF (n : Nat) : List UInt8 :=
  if n < 10 then [UInt8.ofNat (48 + n % 10)] else decF (n / 10) ++ [UInt8.ofNat (48 + n % 10)]
termination_by n

theorem decF_len (n : Nat) : ∀ k, n < 10 ^ (k + 1) → (decF n).length ≤ k + 1 := by
  induction n using Nat.strongRecOn with
  | _ n ih =>
    intro k hk
    unfold decF
    split
    · simp
    · rename_i h
      cases k with
      | zero => simp at hk; omega
      | succ k =>
        have := ih (n / 10) (by omega) k (by rw [Nat.pow_succ] at hk; omega)
        simp; omega

end Go.Proofs.GoC

/-
  How the digits of a number are read as a part. No claim by itself.
-/
namespace Go.Proofs.GoC
open Go Go.Proofs.SL
set_option linter.unusedSimpArgs false
set_option linter.unusedVariables false
set_option maxRecDepth 10000

def sat (n : Nat) : Nat := if 4294967296 < n then 4294967296 else n

theorem digF_app (base : Int) : ∀ (l m : List UInt8) (n : Int), digF base (l ++ m) n = match digF base l n with
    | some k => digF base m k
    | none => none
  | [], m, n => rfl
  | b :: l, m, n => by
    simp only [List.cons_append, digF]
    split
    · rfl
    · exact digF_app base l m _

theorem dig_val (r : Nat) (h : r < 10) : digitV (UInt8.ofNat (48 + r)).toNat = (r : Int) := by
  have : (UInt8.ofNat (48 + r)).toNat = 48 + r := by rw [UInt8.toNat_ofNat']; omega
  rw [this]
  unfold digitV
  rw [if_pos (by omega)]
  omega

theorem digF_one (base : Int) (b : UInt8) (n : Int) (v : Nat) (hv : digitV b.toNat = v) (h : (v : Int) < base) (k : Nat) (hn : n = sat k) (b' : Nat) (hb : base = b') (hb1 : 1 ≤ b') : digF base [b] n = some ((sat (k * b' + v) : Nat) : Int) := by
  subst hn hb
  simp only [digF, hv]
  rw [if_neg (by omega)]
  have hk : 4294967296 * 1 ≤ 4294967296 * b' := Nat.mul_le_mul_left _ hb1
  by_cases h1 : 4294967296 < k
  · have h2 : 4294967297 * b' ≤ k * b' := Nat.mul_le_mul_right _ (by omega)
    have e0 : sat k = 4294967296 := if_pos h1
    have e1 : sat (k * b' + v) = 4294967296 := if_pos (by omega)
    rw [e0, e1]
    congr 1
    split
    · rfl
    · rename_i h3
      omega
  · have e0 : sat k = k := if_neg h1
    rw [e0]
    congr 1
    have : ((k * b' + v : Nat) : Int) = (k : Int) * (b' : Int) + v := by rw [Int.natCast_add, Int.natCast_mul]
    rw [← this]
    unfold sat
    split <;> split <;> omega

theorem dig_dec (n : Nat) : digF 10 (decF n) 0 = some ((sat n : Nat) : Int) := by
  induction n using Nat.strongRecOn with
  | _ n ih =>
    rw [decF.eq_1]
    split
    · rename_i h
      have := digF_one 10 (UInt8.ofNat (48 + n % 10)) 0 (n % 10) (dig_val _ (by omega)) (by omega) 0 rfl 10 rfl (by omega)
      rw [this]
      congr 2
      unfold sat
      split <;> split <;> omega
    · rename_i h
      rw [digF_app, ih (n / 10) (by omega)]
      have := digF_one 10 (UInt8.ofNat (48 + n % 10)) (sat (n / 10) : Nat) (n % 10) (dig_val _ (by omega)) (by omega) (n / 10) rfl 10 rfl (by omega)
      simp only [this]
      congr 3
      omega

theorem decF_digits (n : Nat) : ∀ b ∈ decF n, 48 ≤ b.toNat ∧ b.toNat ≤ 57 := by
  have one : ∀ r, r < 10 → 48 ≤ (UInt8.ofNat (48 + r)).toNat ∧ (UInt8.ofNat (48 + r)).toNat ≤ 57 := fun r hr => by rw [UInt8.toNat_ofNat']; omega
  induction n using Nat.strongRecOn with
  | _ n ih =>
    rw [decF.eq_1]
    split
    · intro b hb; simp only [List.mem_singleton] at hb; subst hb; exact one _ (by omega)
    · intro b hb
      simp only [List.mem_append, List.mem_singleton] at hb
      rcases hb with hb | rfl
      · exact ih (n / 10) (by omega) b hb
      · exact one _ (by omega)

theorem decF_head (n : Nat) (h : 0 < n) : ∃ a t, decF n = a :: t ∧ a ≠ 48 := by
  induction n using Nat.strongRecOn with
  | _ n ih =>
    rw [decF.eq_1]
    split
    · rename_i h10
      refine ⟨_, [], rfl, fun e => ?_⟩
      have := congrArg UInt8.toNat e
      rw [UInt8.toNat_ofNat'] at this
      have h48 : (48 : UInt8).toNat = 48 := rfl
      omega
    · obtain ⟨a, t, e, ha⟩ := ih (n / 10) (by omega) (by omega)
      rw [e]
      exact ⟨a, _, rfl, ha⟩

theorem decF_ne (n : Nat) : decF n ≠ [] := by
  rw [decF.eq_1]; split <;> simp

theorem part_dec (n : Nat) : partF (decF n) = some ((sat n : Nat) : Int) := by
  rw [← dig_dec]
  rcases Nat.eq_zero_or_pos n with rfl | h
  · rw [decF.eq_1]; rfl
  · obtain ⟨a, t, e, ha⟩ := decF_head n h
    rw [e]
    cases t with
    | nil => rfl
    | cons b t => simp [partF, ha]

theorem split_run (sep : UInt8) : ∀ (l m : List UInt8) (acc : List (List UInt8)) (cur : List UInt8), (∀ b ∈ l, b ≠ sep) → splitA sep (l ++ m) acc cur = splitA sep m acc (cur ++ l)
  | [], m, acc, cur, h => by simp
  | b :: l, m, acc, cur, h => by
    simp only [List.cons_append, splitA]
    rw [if_neg (h b (by simp)), split_run sep l m acc _ (fun c hc => h c (List.mem_cons_of_mem _ hc))]
    simp

theorem dec_no (n : Nat) : ∀ b ∈ decF n, b ≠ 46 := fun b hb e => by
  have := decF_digits n b hb
  subst e
  have h : (46 : UInt8).toNat = 46 := rfl
  omega

/-- The parts of two numbers with a dot between. -/
theorem split_2 (x : Nat) (l : List UInt8) : splitA 46 (decF x ++ 46 :: l) [] [] = splitA 46 l [decF x] [] := by
  rw [split_run 46 _ _ _ _ (dec_no x)]
  simp [splitA]
theorem split_3 (x y : Nat) (l : List UInt8) : splitA 46 (decF x ++ 46 :: (decF y ++ 46 :: l)) [] [] = splitA 46 l [decF x, decF y] [] := by
  rw [split_2, split_run 46 _ _ _ _ (dec_no y)]
  simp [splitA]
theorem split_end (acc : List (List UInt8)) (l : List UInt8) (h : ∀ b ∈ l, b ≠ 46) : splitA 46 l acc [] = acc ++ [l] := by
  have := split_run 46 l [] acc [] h
  rw [List.append_nil] at this
  rw [this]
  simp [splitA]

end Go.Proofs.GoC
