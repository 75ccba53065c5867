/-
  What is read of texts of groups: the plain laws of SixWhole, SixGaps, SixDots. No claim by itself.
-/
import Derived.Test.YtepcccepheddjaaDoorGoM5
namespace Go.Proofs.GoC
open Go Go.Proofs.SL
set_option linter.unusedSimpArgs false
set_option linter.unusedVariables false
set_option maxRecDepth 10000
set_option maxHeartbeats 2000000

/-- A part that is no group and no address of 32 bits. -/
def badP (p : List UInt8) : Prop := hexP p = none ∧ strictF p = none

theorem part6_bad {p : List UInt8} (h : badP p) (last : Bool) : part6 last p = none := by
  unfold part6
  rw [h.1]
  cases last
  · rfl
  · simp [h.2]

theorem groups_bad (last : Bool) : ∀ ps : List (List UInt8), (∃ p ∈ ps, badP p) → groupsGo last ps = none
  | [], h => by obtain ⟨p, hp, _⟩ := h; cases hp
  | p :: ps, h => by
    rw [groupsGo]
    obtain ⟨q, hq, hb⟩ := h
    rcases List.mem_cons.mp hq with rfl | hq
    · rw [part6_bad hb]
    · cases part6 (last && ps.isEmpty) p with
      | none => rfl
      | some l => rw [groups_bad last ps ⟨q, hq, hb⟩]; rfl

theorem bad_nil : badP [] := ⟨by decide +kernel, strict_no (by simp)⟩

theorem parse_join (ps : List (List UInt8)) (h : Pcs ps) (hne : ps ≠ []) : parseF (joinL [58] ps) = match groupsGo true ps with
    | some gs => if gs.length = 8 then some gs else none
    | none => none := by
  unfold parseF
  rw [cut_none _ (good_join ps h)]
  simp only [Bool.not_false]
  rw [show groupsF true [] = some [] from rfl]
  obtain ⟨c, q, e, _⟩ := join_head h hne
  have hg : groupsF true (joinL [58] ps) = groupsGo true ps := by
    unfold groupsF
    rw [if_neg (by rw [e]; simp), split_join _ [] h hne, List.nil_append]
  rw [hg]
  cases groupsGo true ps with
  | none => rfl
  | some gs =>
    simp only [parse2, List.length_nil, Nat.add_zero, Bool.false_eq_true, if_false, List.append_nil]
    split
    · rename_i h8; rw [h8]; simp
    · rfl

/-- A group's digits, four of them. -/
def hexU (n : Nat) : UInt8 := [48, 49, 50, 51, 52, 53, 54, 55, 56, 57, 65, 66, 67, 68, 69, 70].getD n 0
def hexW : Nat → Nat → List UInt8
  | 0, _ => []
  | k + 1, n => hexW k (n / 16) ++ [hexU (n % 16)]

theorem hexU_fact : ∀ k : Fin 16, digitV (hexU k.val).toNat = (k.val : Int) ∧ hexU k.val ≠ 58 ∧ hexU k.val ≠ 46 := by decide +kernel

theorem hexW_len : ∀ k n, (hexW k n).length = k
  | 0, _ => rfl
  | k + 1, n => by simp [hexW, hexW_len k]
theorem hexW_no (c : UInt8) (hc : c = 58 ∨ c = 46) : ∀ k n, c ∉ hexW k n
  | 0, _ => by simp [hexW]
  | k + 1, n => by
    have := hexU_fact ⟨n % 16, by omega⟩
    have h1 := hexW_no c hc k (n / 16)
    rcases hc with rfl | rfl
    · simp only [hexW, List.mem_append, List.mem_singleton, not_or]; exact ⟨h1, Ne.symm this.2.1⟩
    · simp only [hexW, List.mem_append, List.mem_singleton, not_or]; exact ⟨h1, Ne.symm this.2.2⟩

theorem num_hexW : ∀ k n, k ≤ 8 → n < 16 ^ k → numF 16 (hexW k n) 0 = some (n : Int)
  | 0, n, _, h => by simp at h; subst h; rfl
  | k + 1, n, hk, h => by
    have h1 : n / 16 < 16 ^ k := by rw [Nat.pow_succ] at h; omega
    have h2 : 16 ^ k ≤ 16 ^ 8 := Nat.pow_le_pow_right (by omega) (by omega)
    rw [hexW, numF_app, num_hexW k (n / 16) (by omega) h1]
    simp only
    rw [num_one 16 _ _ (n % 16) (hexU_fact ⟨n % 16, by omega⟩).1 (by omega) (by omega)]
    congr 1; omega

theorem hexP_hexW (n : Nat) (h : n ≤ 65535) : hexP (hexW 4 n) = some n := by
  unfold hexP
  rw [num_hexW 4 n (by omega) (by omega)]
  simp only
  rw [if_pos ⟨by
    intro h0
    have := hexW_len 4 n
    rw [h0] at this; simp at this, by rw [hexW_len]; exact Nat.le_refl _⟩]
  simp

theorem groups_W (last : Bool) : ∀ gs : List Nat, (∀ g ∈ gs, g ≤ 65535) → groupsGo last (gs.map (hexW 4)) = some gs
  | [], _ => rfl
  | g :: gs, h => by
    simp only [List.map_cons, groupsGo, part6, hexP_hexW g (h g (by simp)), groups_W last gs (fun x hx => h x (List.mem_cons_of_mem _ hx)), Option.map_some]
    rfl
theorem pcs_W (gs : List Nat) : Pcs (gs.map (hexW 4)) := by
  intro p hp
  obtain ⟨n, _, rfl⟩ := List.mem_map.mp hp
  exact ⟨fun h => by have := hexW_len 4 n; rw [h] at this; simp at this, hexW_no 58 (.inl rfl) 4 n⟩

theorem groups_app (last : Bool) : ∀ (ps qs : List (List UInt8)) (xs ys : List Nat), groupsGo false ps = some xs → groupsGo last qs = some ys → qs ≠ [] → groupsGo last (ps ++ qs) = some (xs ++ ys)
  | [], qs, xs, ys, h, h2, _ => by simp only [groupsGo, Option.some.injEq] at h; subst h; simpa using h2
  | p :: ps, qs, xs, ys, h, h2, hq => by
    rw [groupsGo, Bool.false_and] at h
    rw [List.cons_append, groupsGo]
    have he : (ps ++ qs).isEmpty = false := by cases ps with
      | nil => cases qs with
        | nil => exact absurd rfl hq
        | cons => rfl
      | cons => rfl
    rw [he, Bool.and_false]
    cases hp : part6 false p with
    | none => rw [hp] at h; cases h
    | some l =>
      rw [hp] at h
      simp only at h ⊢
      cases hg : groupsGo false ps with
      | none => rw [hg] at h; cases h
      | some cs =>
        rw [hg] at h
        simp only [Option.map_some, Option.some.injEq] at h
        rw [groups_app last ps qs cs ys hg h2 hq, ← h]
        simp

/-- All groups written out. -/
def wholeF (gs : List Nat) : List UInt8 := joinL [58] (gs.map (hexW 4))

theorem W_ne {gs : List Nat} (h : gs ≠ []) : gs.map (hexW 4) ≠ [] := by simpa using h
theorem whole_ok (gs : List Nat) (hl : gs.length = 8) (hle : ∀ g ∈ gs, g ≤ 65535) : parseF (wholeF gs) = some gs := by
  have hne : gs ≠ [] := by intro h; rw [h] at hl; simp at hl
  rw [wholeF, parse_join _ (pcs_W gs) (W_ne hne), groups_W true gs hle]
  simp [hl]
theorem whole_less (gs : List Nat) (hl : gs.length = 8) (hle : ∀ g ∈ gs, g ≤ 65535) : parseF (joinL [58] ((gs.map (hexW 4)).take 7)) = none := by
  have hne : gs.take 7 ≠ [] := by
    intro h
    have := congrArg List.length h
    rw [List.length_take, List.length_nil] at this; omega
  rw [← List.map_take, parse_join _ (pcs_W _) (W_ne hne), groups_W true _ (fun g hg => hle g (List.mem_of_mem_take hg))]
  simp [hl]
theorem whole_more (gs : List Nat) (hl : gs.length = 8) (hle : ∀ g ∈ gs, g ≤ 65535) : parseF (wholeF gs ++ [58, 48]) = none := by
  have hne : gs ≠ [] := by intro h; rw [h] at hl; simp at hl
  have e : wholeF gs ++ [58, 48] = joinL [58] (gs.map (hexW 4) ++ [[48]]) := by
    rw [joinL_app _ _ _ (W_ne hne) (by simp)]; simp [wholeF, joinL]
  have hp : Pcs (gs.map (hexW 4) ++ [[48]]) := by
    intro p hp
    rcases List.mem_append.mp hp with h | h
    · exact pcs_W gs p h
    · rw [List.mem_singleton.mp h]; exact ⟨by simp, by decide⟩
  rw [e, parse_join _ hp (by simp), groups_app true _ [[48]] gs [0] (groups_W false gs hle) (by decide +kernel) (by simp)]
  simp [hl]
theorem bad_long (p : List UInt8) (h4 : 4 < p.length) (h : (46 : UInt8) ∉ p) : badP p := by
  refine ⟨?_, strict_no h⟩
  unfold hexP
  split
  · rw [if_neg (by omega)]
  · rfl
theorem whole_cons {gs : List Nat} (hne : gs ≠ []) : ∃ g l, gs = g :: l ∧ wholeF gs = joinL [58] (hexW 4 g :: l.map (hexW 4)) := by
  cases gs with
  | nil => exact absurd rfl hne
  | cons g l => exact ⟨g, l, rfl, rfl⟩
theorem joinL_head (sep a b : List UInt8) (l : List (List UInt8)) : joinL sep ((a ++ b) :: l) = a ++ joinL sep (b :: l) := by
  cases l with
  | nil => simp [joinL]
  | cons c l => rw [joinL_cons sep (a ++ b) (c :: l) (by simp), joinL_cons sep b (c :: l) (by simp)]; simp
theorem whole_long (gs : List Nat) (hl : gs.length = 8) : parseF (48 :: wholeF gs) = none := by
  obtain ⟨g, l, rfl, e⟩ := whole_cons (gs := gs) (by intro h; rw [h] at hl; simp at hl)
  have e2 : (48 : UInt8) :: wholeF (g :: l) = joinL [58] ((48 :: hexW 4 g) :: l.map (hexW 4)) := by
    rw [e, show (48 : UInt8) :: hexW 4 g = [48] ++ hexW 4 g from rfl, joinL_head]; rfl
  have hp : Pcs ((48 :: hexW 4 g) :: l.map (hexW 4)) := by
    intro p hp
    rcases List.mem_cons.mp hp with rfl | h
    · exact ⟨by simp, by simp only [List.mem_cons, not_or]; exact ⟨by decide, hexW_no 58 (.inl rfl) 4 g⟩⟩
    · exact pcs_W l p h
  rw [e2, parse_join _ hp (by simp), groups_bad true _ ⟨48 :: hexW 4 g, by simp, bad_long _ (by simp [hexW_len]) (by simp only [List.mem_cons, not_or]; exact ⟨by decide, hexW_no 46 (.inr rfl) 4 g⟩)⟩]

theorem good_cons {l : List UInt8} (h : good l = true) (hh : ∃ c q, l = c :: q ∧ c ≠ 58) : good (58 :: l) = true := by
  obtain ⟨c, q, rfl, hc⟩ := hh
  simp [good, hc, h]
theorem splitA_mem (sep : UInt8) : ∀ (l : List UInt8) (acc : List (List UInt8)) (cur : List UInt8), ∀ p ∈ acc, p ∈ splitA sep l acc cur
  | [], acc, cur, p, h => by simp [splitA, h]
  | b :: l, acc, cur, p, h => by
    simp only [splitA]
    split
    · exact splitA_mem sep l _ _ p (by simp [h])
    · exact splitA_mem sep l _ _ p h
theorem groupsF_colon (last : Bool) (l : List UInt8) : groupsF last (58 :: l) = none := by
  unfold groupsF
  rw [if_neg (by simp)]
  have : splitA 58 (58 :: l) [] [] = splitA 58 ([] ++ 58 :: l) [] [] := rfl
  rw [this, split_pc 58 [] l [] [] (by simp)]
  refine groups_bad last _ ⟨[], ?_, bad_nil⟩
  have := splitA_mem 58 l [[]] []
  exact this [] (by simp)
theorem whole_ahead (gs : List Nat) (hl : gs.length = 8) : parseF (58 :: wholeF gs) = none := by
  have hne : gs ≠ [] := by intro h; rw [h] at hl; simp at hl
  show parseF (58 :: joinL [58] (gs.map (hexW 4))) = none
  unfold parseF
  rw [cut_none _ (good_cons (good_join _ (pcs_W gs)) (join_head (pcs_W gs) (W_ne hne)))]
  simp only [Bool.not_false]
  rw [groupsF_colon]
  rfl
theorem index_end : ∀ (A : List UInt8), good A = true → Lib.index (A ++ [58]) [58, 58] = -1
  | [], _ => by decide +kernel
  | [a], h => by
    simp only [good, bne_iff_ne, ne_eq] at h
    simp [Lib.index, List.isPrefixOf, Ne.symm h]
  | a :: b :: l, h => by
    simp only [good, Bool.and_eq_true, Bool.not_eq_true'] at h
    have ih := index_end (b :: l) h.2
    simp only [List.cons_append] at ih ⊢
    rw [Lib.index, if_neg, ih]
    · rfl
    · simp only [List.isPrefixOf, Bool.and_eq_true, beq_iff_eq, and_true]
      rintro ⟨e1, e2⟩
      have := h.1
      rw [← e1, ← e2] at this
      simp at this
theorem cut_end (A : List UInt8) (h : good A = true) : Lib.cut (A ++ [58]) [58, 58] = (A ++ [58], [], false) := by
  unfold Lib.cut
  rw [index_end A h, if_neg (by omega)]
theorem groupsF_end (last : Bool) (l : List UInt8) : groupsF last (l ++ [58]) = none := by
  unfold groupsF
  rw [if_neg (by simp), splitA_app 58 l [] []]
  exact groups_bad last _ ⟨[], by simp, bad_nil⟩
theorem whole_behind (gs : List Nat) (hl : gs.length = 8) : parseF (wholeF gs ++ [58]) = none := by
  unfold parseF
  rw [wholeF, cut_end _ (good_join _ (pcs_W gs))]
  simp only [Bool.not_false]
  rw [groupsF_end]
  rfl

/-! Gaps. -/
theorem gap_ok (xs ys : List Nat) (hl : xs.length + ys.length < 8) (ha : ∀ g ∈ xs, g ≤ 65535) (hb : ∀ g ∈ ys, g ≤ 65535) :
    parseF (rowF xs ++ [58, 58] ++ rowF ys) = some (xs ++ List.replicate (8 - (xs.length + ys.length)) 0 ++ ys) := by
  unfold parseF
  rw [show rowF xs ++ [58, 58] ++ rowF ys = rowF xs ++ 58 :: 58 :: rowF ys by simp, cut_good _ _ (good_row _)]
  simp only
  rw [groupsF_row _ _ ha, groupsF_row _ _ hb]
  simp only [parse2, if_true]
  rw [if_pos hl]
theorem gap_twice (xs ys : List Nat) : parseF (rowF xs ++ [58, 58] ++ rowF ys ++ [58, 58]) = none := by
  unfold parseF
  rw [show rowF xs ++ [58, 58] ++ rowF ys ++ [58, 58] = rowF xs ++ 58 :: 58 :: (rowF ys ++ [58] ++ [58]) by simp, cut_good _ _ (good_row _)]
  simp only
  rw [groupsF_end]
  cases groupsF (!true) (rowF xs) <;> rfl
theorem gap_three (xs ys : List Nat) : parseF (58 :: (rowF xs ++ [58, 58] ++ rowF ys)) = none := by
  by_cases h : xs = []
  · subst h
    unfold parseF
    rw [show (58 : UInt8) :: (rowF [] ++ [58, 58] ++ rowF ys) = [] ++ 58 :: 58 :: (58 :: rowF ys) by simp [rowF, joinL], cut_good [] _ rfl]
    simp only
    rw [groupsF_colon]
    cases groupsF (!true) [] <;> rfl
  · have hg : good (58 :: rowF xs) = true := good_cons (good_row xs) (join_head (pcs_hex xs) (by simpa using h))
    unfold parseF
    rw [show (58 : UInt8) :: (rowF xs ++ [58, 58] ++ rowF ys) = (58 :: rowF xs) ++ 58 :: 58 :: rowF ys by simp, cut_good _ _ hg]
    simp only
    rw [groupsF_colon]
    rfl

/-! Points. -/
def dotsS (gs : List Nat) : List UInt8 := (gs.map fun g => hexF g ++ [58]).flatten
theorem dots_join : ∀ (gs : List Nat) (p : List UInt8), dotsS gs ++ p = joinL [58] (gs.map hexF ++ [p])
  | [], p => by simp [dotsS, joinL]
  | g :: gs, p => by
    have ih := dots_join gs p
    rw [List.map_cons, List.cons_append, joinL_cons _ _ _ (by simp), ← ih]
    simp [dotsS]
theorem pcs_app {ps : List (List UInt8)} (h : Pcs ps) {p : List UInt8} (h1 : p ≠ []) (h2 : (58 : UInt8) ∉ p) : Pcs (ps ++ [p]) := by
  intro q hq
  rcases List.mem_append.mp hq with h' | h'
  · exact h q h'
  · rw [List.mem_singleton.mp h']; exact ⟨h1, h2⟩
theorem printF_ne (v : Nat) : printF v ≠ [] := by
  intro h
  have := printF_dot v
  rw [h] at this; cases this
theorem groups_dot (v : Nat) (h : v ≤ 4294967295) : groupsGo true [printF v] = some [v / 65536, v % 65536] := by
  have hy : hexP (printF v) = none := hexP_no (printF_dot _)
  simp [groupsGo, part6, hy, strict_print v h]
theorem dots_ok (gs : List Nat) (hl : gs.length = 6) (hle : ∀ g ∈ gs, g ≤ 65535) (v : Nat) (h : v ≤ 4294967295) : parseF (dotsS gs ++ printF v) = some (gs ++ [v / 65536, v % 65536]) := by
  rw [dots_join, parse_join _ (pcs_app (pcs_hex gs) (printF_ne v) (printF_no v)) (by simp), groups_app true _ _ _ _ (groups_hex false gs hle) (groups_dot v h) (by simp)]
  simp [hl]
theorem dots_two (gs : List Nat) (hl : gs.length = 6) (hle : ∀ g ∈ gs, g ≤ 65535) (v : Nat) (h : v ≤ 4294967295) : parseF (dotsS gs ++ [49, 58] ++ printF v) = none := by
  have e : dotsS gs ++ [49, 58] = dotsS (gs ++ [1]) := by simp [dotsS, hexF1 1 (by omega), hexd]
  have hle' : ∀ g ∈ gs ++ [1], g ≤ 65535 := by
    intro g hg
    rcases List.mem_append.mp hg with h | h
    · exact hle g h
    · rw [List.mem_singleton.mp h]; omega
  rw [e, dots_join, parse_join _ (pcs_app (pcs_hex _) (printF_ne v) (printF_no v)) (by simp), groups_app true _ _ _ _ (groups_hex false _ hle') (groups_dot v h) (by simp)]
  simp [hl]
theorem dots_ahead (gs : List Nat) (v : Nat) : parseF (printF v ++ [58] ++ dotsS gs ++ [49]) = none := by
  have e : printF v ++ [58] ++ dotsS gs ++ [49] = joinL [58] (printF v :: (gs.map hexF ++ [[49]])) := by
    rw [joinL_cons _ _ _ (by simp), ← dots_join]; simp
  have hp : Pcs (printF v :: (gs.map hexF ++ [[49]])) := by
    intro p hp
    rcases List.mem_cons.mp hp with rfl | h
    · exact ⟨printF_ne v, printF_no v⟩
    · exact pcs_app (pcs_hex gs) (by simp) (by decide) p h
  rw [e, parse_join _ hp (by simp), groupsGo]
  have hy : hexP (printF v) = none := hexP_no (printF_dot _)
  have he : (gs.map hexF ++ [[49]]).isEmpty = false := by cases gs <;> rfl
  rw [he, Bool.and_false]
  simp [part6, hy]

/-! The text of ones, and one group more. -/
def ones : List UInt8 := [49, 58, 49, 58, 49, 58, 49, 58, 49, 58, 49, 58, 49, 58]
theorem print_ones (x : Nat) : print6 [1, 1, 1, 1, 1, 1, 1, x] = ones ++ hexF x := by
  have hr : ∀ z : Bool, (runF [false, false, false, false, false, false, false, z]).2 = 0 := by decide +kernel
  have hz : zeros [1, 1, 1, 1, 1, 1, 1, x] = [false, false, false, false, false, false, false, x == 0] := rfl
  unfold print6
  rw [hz, hr]
  rw [if_neg (by simp [mapd]), if_pos rfl]
  simp [rowF, joinL, hexF1 1 (by omega), hexd, ones, List.intercalate, List.intersperse]
theorem drop_ones (x : Nat) : List.drop 14 (print6 [1, 1, 1, 1, 1, 1, 1, x]) = hexF x := by
  rw [print_ones]
  rfl
end Go.Proofs.GoC
