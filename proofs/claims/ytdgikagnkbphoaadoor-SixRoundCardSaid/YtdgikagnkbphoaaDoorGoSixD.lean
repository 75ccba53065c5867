/-
  What is printed is read as it was: the plain law of layer 3. No claim by itself.
-/
import Derived.Test.YtdgikagnkbphoaaDoorGoPrintR
import Derived.Test.YtdgikagnkbphoaaDoorGoR
namespace Go.Proofs.GoC
open Go Go.Proofs.SL
set_option linter.unusedSimpArgs false
set_option linter.unusedVariables false
set_option maxRecDepth 10000
set_option maxHeartbeats 2000000

/-- No two colons, nor one at the end. -/
def good : List UInt8 → Bool
  | [] => true
  | [a] => a != 58
  | a :: b :: l => !(a == 58 && b == 58) && good (b :: l)

theorem index_good : ∀ (A B : List UInt8), good A = true → Lib.index (A ++ 58 :: 58 :: B) [58, 58] = A.length
  | [], B, _ => by simp [Lib.index, List.isPrefixOf]
  | [a], B, h => by
    simp only [good, bne_iff_ne, ne_eq] at h
    have h0 := index_good [] B rfl
    simp only [List.nil_append, List.length_nil] at h0
    simp only [List.singleton_append, Lib.index, List.length_singleton]
    rw [if_neg (by simp [List.isPrefixOf, Ne.symm h])]
    have h1 : Lib.index (58 :: 58 :: B) [58, 58] = 0 := h0
    simp only [Lib.index] at h1
    simp [List.isPrefixOf]
  | a :: b :: l, B, h => by
    simp only [good, Bool.and_eq_true, Bool.not_eq_true'] at h
    have ih := index_good (b :: l) B h.2
    simp only [List.cons_append] at ih ⊢
    rw [Lib.index, if_neg, ih]
    · rw [if_neg (by simp only [beq_iff_eq]; omega)]; simp
    · simp only [List.isPrefixOf, Bool.and_eq_true, beq_iff_eq, and_true]
      rintro ⟨e1, e2⟩
      have := h.1
      rw [← e1, ← e2] at this
      simp at this
theorem index_none : ∀ (A : List UInt8), good A = true → Lib.index A [58, 58] = -1
  | [], _ => by simp [Lib.index]
  | [a], h => by simp [Lib.index, List.isPrefixOf]
  | a :: b :: l, h => by
    simp only [good, Bool.and_eq_true, Bool.not_eq_true'] at h
    have ih := index_none (b :: l) h.2
    rw [Lib.index, if_neg, ih]
    · rfl
    · simp only [List.isPrefixOf, Bool.and_eq_true, beq_iff_eq, and_true]
      rintro ⟨e1, e2⟩
      have := h.1
      rw [← e1, ← e2] at this
      simp at this

theorem cut_good (A B : List UInt8) (h : good A = true) : Lib.cut (A ++ 58 :: 58 :: B) [58, 58] = (A, B, true) := by
  unfold Lib.cut
  rw [index_good A B h, if_pos (by omega)]
  simp [List.drop_append]
theorem cut_none (A : List UInt8) (h : good A = true) : Lib.cut A [58, 58] = (A, [], false) := by
  unfold Lib.cut
  rw [index_none A h, if_neg (by omega)]

theorem good_no : ∀ (p : List UInt8), (58 : UInt8) ∉ p → good p = true
  | [], _ => rfl
  | [a], h => by simp at h; simp [good, Ne.symm h]
  | a :: b :: l, h => by
    simp only [List.mem_cons, not_or] at h
    have := good_no (b :: l) (by simp only [List.mem_cons, not_or]; exact h.2)
    simp [good, this, Ne.symm h.1]
theorem good_app : ∀ (p : List UInt8) (c : UInt8) (q : List UInt8), (58 : UInt8) ∉ p → p ≠ [] → c ≠ 58 → good (c :: q) = true → good (p ++ 58 :: c :: q) = true
  | [], _, _, _, h, _, _ => absurd rfl h
  | [a], c, q, h, _, hc, hq => by
    simp at h
    simp [good, Ne.symm h, hc, hq]
  | a :: b :: l, c, q, h, _, hc, hq => by
    simp only [List.mem_cons, not_or] at h
    have := good_app (b :: l) c q (by simp only [List.mem_cons, not_or]; exact h.2) (by simp) hc hq
    simp only [List.cons_append] at this ⊢
    simp [good, this, Ne.symm h.1]

/-- Pieces of a text. -/
def Pcs (ps : List (List UInt8)) : Prop := ∀ p ∈ ps, p ≠ [] ∧ (58 : UInt8) ∉ p

theorem join_head {ps : List (List UInt8)} (h : Pcs ps) (hne : ps ≠ []) : ∃ c q, joinL [58] ps = c :: q ∧ c ≠ 58 := by
  cases ps with
  | nil => exact absurd rfl hne
  | cons p ps =>
    obtain ⟨h1, h2⟩ := h p (by simp)
    cases p with
    | nil => exact absurd rfl h1
    | cons c q =>
      simp only [List.mem_cons, not_or] at h2
      cases ps with
      | nil => exact ⟨c, q, by simp [joinL], Ne.symm h2.1⟩
      | cons r ps => exact ⟨c, q ++ [58] ++ joinL [58] (r :: ps), by rw [joinL_cons _ _ _ (by simp)]; simp, Ne.symm h2.1⟩

theorem good_join : ∀ (ps : List (List UInt8)), Pcs ps → good (joinL [58] ps) = true
  | [], _ => by simp [joinL, good]
  | [p], h => by simpa [joinL] using good_no p (h p (by simp)).2
  | p :: r :: ps, h => by
    have ht : Pcs (r :: ps) := fun q hq => h q (List.mem_cons_of_mem _ hq)
    obtain ⟨c, q, e, hc⟩ := join_head ht (by simp)
    have ih := good_join (r :: ps) ht
    rw [joinL_cons _ _ _ (by simp), e]
    rw [e] at ih
    have := good_app p c q (h p (by simp)).2 (h p (by simp)).1 hc ih
    simpa using this

theorem split_pc (sep : UInt8) : ∀ (p rest : List UInt8) (acc : List (List UInt8)) (cur : List UInt8), sep ∉ p → splitA sep (p ++ sep :: rest) acc cur = splitA sep rest (acc ++ [cur ++ p]) []
  | [], rest, acc, cur, _ => by simp [splitA]
  | b :: p, rest, acc, cur, h => by
    simp only [List.mem_cons, not_or] at h
    simp only [List.cons_append, splitA]
    rw [if_neg (fun e => h.1 e.symm), split_pc sep p rest acc _ h.2]
    simp

theorem split_join : ∀ (ps : List (List UInt8)) (acc : List (List UInt8)), Pcs ps → ps ≠ [] → splitA 58 (joinL [58] ps) acc [] = acc ++ ps
  | [], _, _, h => absurd rfl h
  | [p], acc, h, _ => by
    rw [show joinL [58] [p] = p by simp [joinL], splitA_no 58 p acc [] (h p (by simp)).2]; simp
  | p :: r :: ps, acc, h, _ => by
    have ht : Pcs (r :: ps) := fun q hq => h q (List.mem_cons_of_mem _ hq)
    rw [joinL_cons _ _ _ (by simp), List.append_assoc, List.singleton_append, split_pc 58 p _ acc [] (h p (by simp)).2, split_join (r :: ps) _ ht (by simp)]
    simp

theorem hexd_fact : ∀ k : Fin 16, digitV (hexd k.val).toNat = (k.val : Int) ∧ hexd k.val ≠ 58 ∧ hexd k.val ≠ 46 := by decide +kernel
theorem hexd_val (k : Nat) (h : k < 16) : digitV (hexd k).toNat = (k : Int) := (hexd_fact ⟨k, h⟩).1

theorem hexF_no (c : UInt8) (hc : c = 58 ∨ c = 46) (n : Nat) : c ∉ hexF n := by
  induction n using Nat.strongRecOn with
  | _ n ih =>
    rw [hexF.eq_1]
    split
    · rename_i h
      have := hexd_fact ⟨n, h⟩
      rcases hc with rfl | rfl
      · simpa using Ne.symm this.2.1
      · simpa using Ne.symm this.2.2
    · have := hexd_fact ⟨n % 16, by omega⟩
      have h1 := ih (n / 16) (by omega)
      rcases hc with rfl | rfl
      · simp only [List.mem_append, List.mem_singleton, not_or]; exact ⟨h1, Ne.symm this.2.1⟩
      · simp only [List.mem_append, List.mem_singleton, not_or]; exact ⟨h1, Ne.symm this.2.2⟩
theorem hexF_ne (n : Nat) : hexF n ≠ [] := by
  rw [hexF.eq_1]; split <;> simp

theorem num_hex (n : Nat) (h : n ≤ 65535) : numF 16 (hexF n) 0 = some (n : Int) := by
  induction n using Nat.strongRecOn with
  | _ n ih =>
    rw [hexF.eq_1]
    split
    · rename_i h16
      rw [num_one 16 _ 0 n (hexd_val n h16) (by omega) (by omega)]
      congr 1; omega
    · rw [numF_app, ih (n / 16) (by omega) (by omega)]
      simp only
      rw [num_one 16 _ _ (n % 16) (hexd_val _ (by omega)) (by omega) (by omega)]
      congr 1; omega

theorem hexP_hex (n : Nat) (h : n ≤ 65535) : hexP (hexF n) = some n := by
  unfold hexP
  rw [num_hex n h]
  simp only
  rw [if_pos ⟨hexF_ne n, hexF_len n h⟩]
  simp

theorem groups_hex (last : Bool) : ∀ gs : List Nat, (∀ g ∈ gs, g ≤ 65535) → groupsGo last (gs.map hexF) = some gs
  | [], _ => rfl
  | g :: gs, h => by
    simp only [List.map_cons, groupsGo, part6, hexP_hex g (h g (by simp)), groups_hex last gs (fun x hx => h x (List.mem_cons_of_mem _ hx)), Option.map_some]
    rfl

theorem pcs_hex (gs : List Nat) : Pcs (gs.map hexF) := by
  intro p hp
  obtain ⟨n, _, rfl⟩ := List.mem_map.mp hp
  exact ⟨hexF_ne n, hexF_no 58 (.inl rfl) n⟩

theorem groupsF_row (last : Bool) (gs : List Nat) (h : ∀ g ∈ gs, g ≤ 65535) : groupsF last (rowF gs) = some gs := by
  unfold groupsF rowF
  by_cases he : gs = []
  · subst he; rfl
  · have hne : gs.map hexF ≠ [] := by simpa using he
    rw [if_neg (by
      obtain ⟨c, q, e, _⟩ := join_head (pcs_hex gs) hne
      rw [e]; simp), split_join _ [] (pcs_hex gs) hne, List.nil_append, groups_hex last gs h]

theorem good_row (gs : List Nat) : good (rowF gs) = true := good_join _ (pcs_hex gs)

/-- The row of zeros is one. -/
def runZ (zs : List Bool) : Bool :=
  let r := runF zs
  decide (r.2 ≠ 1) && ((List.range 8).all fun i => !(decide (r.1 ≤ i) && decide (i < r.1 + r.2)) || zs.getD i false)
theorem run_z8 : ∀ a b c d e f g h : Bool, runZ [a, b, c, d, e, f, g, h] = true := by decide +kernel
theorem run_zero {gs : List Nat} (hl : gs.length = 8) : (runF (zeros gs)).2 ≠ 1 ∧ ∀ i, (runF (zeros gs)).1 ≤ i → i < (runF (zeros gs)).1 + (runF (zeros gs)).2 → i < 8 → gs.getD i 0 = 0 := by
  have hz : runZ (zeros gs) = true := by
    obtain ⟨a, b, c, d, e, f, g, h, he⟩ := len8 (zeros_len.trans hl)
    rw [he]; exact run_z8 a b c d e f g h
  simp only [runZ, Bool.and_eq_true, decide_eq_true_eq, List.all_eq_true, List.mem_range] at hz
  refine ⟨hz.1, fun i h1 h2 h8 => ?_⟩
  have := hz.2 i h8
  rw [zeros_get (by omega)] at this
  simpa [h1, h2] using this

theorem split3 (gs : List Nat) (a n : Nat) (hl : gs.length = 8) (h : a + n ≤ 8) (hz : ∀ i, a ≤ i → i < a + n → i < 8 → gs.getD i 0 = 0) : gs.take a ++ List.replicate n 0 ++ gs.drop (a + n) = gs := by
  apply List.ext_getElem
  · simp only [List.length_append, List.length_take, List.length_replicate, List.length_drop]; omega
  · intro i h1 h2
    rcases Nat.lt_or_ge i a with ha | ha
    · rw [List.getElem_append_left (by simp; omega), List.getElem_append_left (by simp; omega), List.getElem_take]
    · rcases Nat.lt_or_ge i (a + n) with hb | hb
      · rw [List.getElem_append_left (by simp; omega), List.getElem_append_right (by simp; omega)]
        have := hz i ha hb (by omega)
        rw [List.getD_eq_getElem?_getD, List.getElem?_eq_getElem h2, Option.getD_some] at this
        simp [this]
      · rw [List.getElem_append_right (by simp; omega), List.getElem_drop]
        congr 1
        simp; omega

theorem dec_no58 (n : Nat) : (58 : UInt8) ∉ decF n := by
  induction n using Nat.strongRecOn with
  | _ n ih =>
    have hd : ∀ k : Fin 10, (58 : UInt8) ≠ UInt8.ofNat (48 + k.val) := by decide
    rw [decF.eq_1]
    split
    · simpa using hd ⟨n % 10, by omega⟩
    · simp only [List.mem_append, List.mem_singleton, not_or]
      exact ⟨ih (n / 10) (by omega), hd ⟨n % 10, by omega⟩⟩

theorem printF_no (v : Nat) : (58 : UInt8) ∉ printF v := by
  simp only [printF, dot4, List.mem_append, List.mem_singleton, not_or]
  exact ⟨⟨⟨⟨⟨⟨dec_no58 _, by decide⟩, dec_no58 _⟩, by decide⟩, dec_no58 _⟩, by decide⟩, dec_no58 _⟩
theorem printF_dot (v : Nat) : (46 : UInt8) ∈ printF v := by simp [printF, dot4]

theorem parse_print (gs : List Nat) (hl : gs.length = 8) (hle : ∀ g ∈ gs, g ≤ 65535) : parseF (print6 gs) = some gs := by
  unfold print6
  have hr := run_in _ (zeros_len.trans hl)
  obtain ⟨h1, hz⟩ := run_zero hl
  split
  · rename_i hm
    have l6 := mem_get hle 6
    have l7 := mem_get hle 7
    obtain ⟨a, b, c, d, e, f, g, i, rfl⟩ := len8 hl
    simp [mapd] at hm
    obtain ⟨rfl, rfl, rfl, rfl, rfl, rfl⟩ := hm
    simp at l6 l7
    have hv : g * 65536 + i ≤ 4294967295 := by omega
    show parseF ([] ++ 58 :: 58 :: ([102, 102, 102, 102, 58] ++ printF (g * 65536 + i))) = _
    unfold parseF
    rw [cut_good [] _ rfl]
    have hs : splitA 58 ([102, 102, 102, 102, 58] ++ printF (g * 65536 + i)) [] [] = [[102, 102, 102, 102], printF (g * 65536 + i)] := by
      have := split_pc 58 [102, 102, 102, 102] (printF (g * 65536 + i)) [] [] (by decide)
      simp only [List.cons_append, List.nil_append] at this ⊢
      rw [this, splitA_no 58 _ _ _ (printF_no _)]
      simp
    have hg : groupsF true ([102, 102, 102, 102, 58] ++ printF (g * 65536 + i)) = some [65535, g, i] := by
      unfold groupsF
      rw [if_neg (by simp), hs]
      have hx : hexP [102, 102, 102, 102] = some 65535 := by decide +kernel
      have hy : hexP (printF (g * 65536 + i)) = none := hexP_no (printF_dot _)
      simp only [groupsGo, part6, hx, hy, List.isEmpty_cons, List.isEmpty_nil, Bool.and_true, Bool.and_false, if_true, strict_print _ hv, Option.map_some]
      have e1 : (g * 65536 + i) / 65536 = g := by omega
      have e2 : (g * 65536 + i) % 65536 = i := by omega
      rw [e1, e2]; rfl
    rw [show groupsF (!true) [] = some [] from rfl]
    simp only
    rw [hg]
    rfl
  · split
    · unfold parseF
      rw [cut_none _ (good_row gs)]
      simp only [Bool.not_false]
      rw [show groupsF true [] = some [] from rfl]
      rw [groupsF_row true gs hle]
      simp [parse2, hl]
    · rename_i h0
      have hA : ∀ g ∈ gs.take (runF (zeros gs)).1, g ≤ 65535 := fun g hg => hle g (List.mem_of_mem_take hg)
      have hB : ∀ g ∈ gs.drop ((runF (zeros gs)).1 + (runF (zeros gs)).2), g ≤ 65535 := fun g hg => hle g (List.mem_of_mem_drop hg)
      unfold parseF
      rw [show rowF (gs.take (runF (zeros gs)).1) ++ [58, 58] ++ rowF (gs.drop ((runF (zeros gs)).1 + (runF (zeros gs)).2)) = rowF (gs.take (runF (zeros gs)).1) ++ 58 :: 58 :: rowF (gs.drop ((runF (zeros gs)).1 + (runF (zeros gs)).2)) by simp]
      rw [cut_good _ _ (good_row _)]
      simp only
      rw [groupsF_row _ _ hA, groupsF_row _ _ hB]
      have h3 := split3 gs _ _ hl hr hz
      generalize (runF (zeros gs)).1 = a at *
      generalize (runF (zeros gs)).2 = n at *
      simp only [parse2, if_true, List.length_take, List.length_drop, hl]
      rw [if_pos (by omega), show 8 - (min a 8 + (8 - (a + n))) = n by omega, h3]
end Go.Proofs.GoC
