/-
  What the law FourJoins computes: true, for all numbers. No claim by itself.
-/
import Derived.Test.YtepcccepheddjaaDoorGoM1
import Derived.Test.YtepcccepheddjaaDoorSlM5
import Derived.Test.YtepcccepheddjaaDoorGoM3
import Derived.Test.YtepcccepheddjaaDoorGoM4
namespace Go.Proofs.GoC
open Go Go.Proofs.SL
set_option linter.unusedSimpArgs false
set_option linter.unusedVariables false
set_option maxRecDepth 10000
set_option maxHeartbeats 1000000

theorem pieces_of (l : List UInt8) (ps : List (List UInt8)) (h : splitA 46 l [] [] = ps) (hl : lastF ps ≠ []) : piecesF l = ps := by
  unfold piecesF
  rw [h, if_neg (fun h => hl h.2)]

theorem pieces2 (x : Nat) (l : List UInt8) (h : ∀ b ∈ l, b ≠ 46) (hl : l ≠ []) : piecesF (decF x ++ [46] ++ l) = [decF x, l] := by
  refine pieces_of _ _ ?_ hl
  rw [List.append_assoc, List.singleton_append, split_2, split_end _ _ h]; rfl

theorem pieces3 (x y : Nat) (l : List UInt8) (h : ∀ b ∈ l, b ≠ 46) (hl : l ≠ []) : piecesF (decF x ++ [46] ++ decF y ++ [46] ++ l) = [decF x, decF y, l] := by
  refine pieces_of _ _ ?_ hl
  simp only [List.append_assoc, List.singleton_append, List.cons_append, List.nil_append]
  rw [split_3, split_end _ _ h]; rfl

theorem ends_dec (ps : List (List UInt8)) (n : Nat) (h : lastF ps = decF n) : endsF ps = true := by
  unfold endsF; rw [h, part_dec]; rfl

theorem sat_lt {n : Nat} (h : n ≤ 4294967296) : sat n = n := by unfold sat; rw [if_neg (by omega)]

theorem room1 : room 1 = 16777216 := rfl
theorem room2 : room 2 = 65536 := rfl

theorem loose2 (x r : Nat) (hx : x ≤ 255) : looseV [decF x, decF r] = if r < 16777216 then .tup [.int .u32 ((x * 16777216 + r : Nat) : Int), .int .i64 2] else .tup [.int .u32 0, .int .i64 1] := by
  unfold looseV
  rw [if_pos (ends_dec _ r rfl)]
  simp only [List.length_cons, List.length_nil, Nat.reduceAdd, Nat.reduceLT, if_false, looseGo, part_dec, sat_lt (show x ≤ 4294967296 by omega)]
  rw [if_neg (by omega)]
  by_cases h : r < 16777216
  · rw [sat_lt (by omega)]
    rw [if_neg (by rw [room1]; omega), if_pos h]
    simp only [room1, Int.toNat_natCast, Nat.zero_mul, Nat.zero_add]
    rw [nw_u32 (by omega) (by omega)]
  · have hs : 16777216 ≤ sat r := by unfold sat; split <;> omega
    rw [if_pos (by rw [room1]; omega), if_neg h]

theorem loose3 (x y r : Nat) (hx : x ≤ 255) (hy : y ≤ 255) (hr : r < 65536) : looseV [decF x, decF y, decF r] = .tup [.int .u32 ((x * 16777216 + y * 65536 + r : Nat) : Int), .int .i64 2] := by
  unfold looseV
  rw [if_pos (ends_dec _ r rfl)]
  simp only [List.length_cons, List.length_nil, Nat.reduceAdd, Nat.reduceLT, if_false, looseGo, part_dec, sat_lt (show x ≤ 4294967296 by omega), sat_lt (show y ≤ 4294967296 by omega), sat_lt (show r ≤ 4294967296 by omega)]
  rw [if_neg (by omega), if_neg (by omega), if_neg (by show ¬ ((room 2 : Nat) : Int) ≤ _; rw [room2]; omega)]
  have e : ((0 * 256 + x) * 256 + y) * room 2 + r = x * 16777216 + y * 65536 + r := by rw [room2]; omega
  simp only [Int.toNat_natCast]
  show PV.tup [PV.int IntKind.u32 (IntKind.u32.wrap ((((0 * 256 + x) * 256 + y) * room 2 + r : Nat) : Int)), PV.int IntKind.i64 2] = _
  rw [e, nw_u32 (by omega) (by omega)]

theorem dig_bad (base : Int) (h : base ≤ 10) (l : List UInt8) (n : Int) : digF base (l ++ [97]) n = none := by
  rw [digF_app]
  split
  · have : digitV (97 : UInt8).toNat = 10 := by decide
    simp only [digF, this]
    rw [if_pos (by omega)]
  · rfl

theorem part_bad (y : Nat) : partF (decF y ++ [97]) = none := by
  rcases Nat.eq_zero_or_pos y with rfl | h
  · rw [decF.eq_1]; rfl
  · obtain ⟨a, t, e, ha⟩ := decF_head y h
    have hb := dig_bad 10 (by omega) (decF y) 0
    rw [e] at hb ⊢
    cases t with
    | nil => simp only [List.cons_append, List.nil_append, partF, if_neg ha] at hb ⊢; exact hb
    | cons b t => simp only [List.cons_append, partF, if_neg ha] at hb ⊢; exact hb

theorem loose_bad (x y : Nat) : looseV [decF x, decF y ++ [97]] = .tup [.int .u32 0, .int .i64 0] := by
  unfold looseV
  rw [if_neg]
  unfold endsF
  have : lastF [decF x, decF y ++ [97]] = decF y ++ [97] := rfl
  rw [this, part_bad, dig_bad 10 (by omega)]
  simp

theorem dec_short (n : Nat) (h : n < 1000000000000000000) : (decF n).length ≤ 18 := decF_len n 17 (by omega)

end Go.Proofs.GoC

/-
  How an address's text is read; the laws FourStrict, FourRound, FourBytes. No claim by itself.
-/
namespace Go.Proofs.GoC
open Go Go.Proofs.SL
set_option linter.unusedSimpArgs false
set_option linter.unusedVariables false
set_option maxRecDepth 10000
set_option maxHeartbeats 2000000

theorem split_dec4 (a b c d : Nat) : splitA 46 (dot4 a b c d) [] [] = [decF a, decF b, decF c, decF d] := by
  unfold dot4
  simp only [List.append_assoc, List.singleton_append, List.cons_append, List.nil_append]
  rw [split_3, split_run 46 _ _ _ _ (dec_no c)]
  simp only [splitA, if_true, List.nil_append]
  rw [split_end _ _ (dec_no d)]
  rfl

theorem num_one (base : Int) (b : UInt8) (n : Int) (v : Nat) (hv : digitV b.toNat = v) (h : (v : Int) < base) (hm : n * base + v ≤ 1099511627776) : numF base [b] n = some (n * base + v) := by
  simp only [numF, hv]
  rw [if_neg (by omega), if_neg (by omega)]

theorem num_dec (n : Nat) (h : n ≤ 1099511627776) : numF 10 (decF n) 0 = some (n : Int) := by
  induction n using Nat.strongRecOn with
  | _ n ih =>
    rw [decF.eq_1]
    split
    · rename_i h10
      rw [num_one 10 _ 0 (n % 10) (dig_val _ (by omega)) (by omega) (by omega)]
      congr 1; omega
    · rw [numF_app, ih (n / 10) (by omega) (by omega)]
      simp only
      rw [num_one 10 _ _ (n % 10) (dig_val _ (by omega)) (by omega) (by omega)]
      congr 1; omega

theorem oct_dec (a : Nat) (h : a ≤ 255) : octF (decF a) = some a := by
  unfold octF
  rw [num_dec a (by omega)]
  simp only
  rw [if_pos ⟨decF_ne a, by omega, by simp⟩]
  simp

theorem strict_dot (a b c d : Nat) (ha : a ≤ 255) (hb : b ≤ 255) (hc : c ≤ 255) (hd : d ≤ 255) : strictF (dot4 a b c d) = some (of4 a b c d) := by
  unfold strictF
  rw [split_dec4]
  have h4 : [decF a, decF b, decF c, decF d].length = 4 := rfl
  rw [if_pos h4]
  simp only [octs, oct_dec _ ha, oct_dec _ hb, oct_dec _ hc, oct_dec _ hd, Option.map_some]
  simp [fold4, of4]

theorem strict_print (n : Nat) (h : n ≤ 4294967295) : strictF (printF n) = some n := by
  obtain ⟨h3, h2, h1, h0⟩ := by_in n h
  rw [printF, strict_dot _ _ _ _ h3 h2 h1 h0, by_of n h]

theorem strictV_two (o : Option Nat) : ∃ (a : Nat) (b : Bool), strictV o = .tup [.int .u32 a, .bool b] := by
  cases o with
  | none => exact ⟨0, false, rfl⟩
  | some n => exact ⟨n, true, rfl⟩

theorem loose4 (a b c d : Nat) (ha : a ≤ 255) (hb : b ≤ 255) (hc : c ≤ 255) (hd : d ≤ 255) : looseV [decF a, decF b, decF c, decF d] = .tup [.int .u32 (of4 a b c d : Nat), .int .i64 2] := by
  unfold looseV
  rw [if_pos (ends_dec _ d rfl)]
  simp only [List.length_cons, List.length_nil, Nat.reduceAdd, Nat.lt_irrefl, if_false, looseGo, part_dec, sat_lt (show a ≤ 4294967296 by omega), sat_lt (show b ≤ 4294967296 by omega), sat_lt (show c ≤ 4294967296 by omega), sat_lt (show d ≤ 4294967296 by omega)]
  have r3 : room 3 = 256 := rfl
  rw [if_neg (by omega), if_neg (by omega), if_neg (by omega), if_neg (by show ¬ ((room 3 : Nat) : Int) ≤ _; rw [r3]; omega)]
  have e : (((0 * 256 + a) * 256 + b) * 256 + c) * room 3 + d = of4 a b c d := by rw [r3]; unfold of4; omega
  simp only [Int.toNat_natCast]
  show PV.tup [PV.int IntKind.u32 (IntKind.u32.wrap (((((0 * 256 + a) * 256 + b) * 256 + c) * room 3 + d : Nat) : Int)), PV.int IntKind.i64 2] = _
  rw [e, nw_u32 (by omega) (by unfold of4; omega)]

theorem pieces4 (a b c d : Nat) : piecesF (dot4 a b c d) = [decF a, decF b, decF c, decF d] := pieces_of _ _ (split_dec4 a b c d) (decF_ne d)

theorem splitA_app (sep : UInt8) : ∀ (l : List UInt8) (acc : List (List UInt8)) (cur : List UInt8), splitA sep (l ++ [sep]) acc cur = splitA sep l acc cur ++ [[]]
  | [], acc, cur => by simp [splitA]
  | b :: l, acc, cur => by
    simp only [List.cons_append, splitA]
    split <;> exact splitA_app sep l _ _

theorem pieces_dot (l : List UInt8) (ps : List (List UInt8)) (h : splitA 46 l [] [] = ps) : piecesF (l ++ [46]) = ps := by
  have hl := splitA_len 46 l [] []
  rw [h] at hl
  simp only [List.length_nil] at hl
  unfold piecesF
  rw [splitA_app, h, if_pos ⟨by simp; omega, by simp [lastF, List.getD_eq_getElem?_getD]⟩]
  simp

theorem dec_beq {p q : Prop} {i : Decidable p} {j : Decidable q} (h : p ↔ q) : (decide p == decide q) = true := by
  rw [beq_iff_eq, decide_eq_decide]; exact h

theorem of4_inj {a b c d e f g h : Nat} (hb : b ≤ 255) (hc : c ≤ 255) (hd : d ≤ 255) (hf : f ≤ 255) (hg : g ≤ 255) (hh : h ≤ 255) : of4 a b c d = of4 e f g h ↔ (a = e ∧ b = f ∧ c = g ∧ d = h) := by
  unfold of4; omega

end Go.Proofs.GoC

/-
  What the functions compute: the document's text of an address of 128 bits. No claim by itself.
-/
namespace Go.Proofs.GoC
open Go Go.Proofs.SL
set_option linter.unusedSimpArgs false
set_option linter.unusedVariables false
set_option maxRecDepth 10000
set_option maxHeartbeats 2000000

theorem mapd_no {gs : List Nat} (hl : gs.length = 8) {k : Nat} (hk : k < 5) (h : gs.getD k 0 ≠ 0) : mapd gs = false := by
  obtain ⟨a, b, c, d, e, f, g, i, rfl⟩ := len8 hl
  rcases k with _ | _ | _ | _ | _ | k
  · simp at h; simp [mapd, h]
  · simp at h; simp [mapd, h]
  · simp at h; simp [mapd, h]
  · simp at h; simp [mapd, h]
  · simp at h; simp [mapd, h]
  · omega
theorem mapd_end {gs : List Nat} (hl : gs.length = 8) (h : ∀ j, j < 5 → gs.getD j 0 = 0) : mapd gs = decide (gs.getD 5 0 = 65535) := by
  obtain ⟨a, b, c, d, e, f, g, i, rfl⟩ := len8 hl
  have h0 := h 0 (by omega); have h1 := h 1 (by omega); have h2 := h 2 (by omega); have h3 := h 3 (by omega); have h4 := h 4 (by omega)
  simp at h0 h1 h2 h3 h4
  subst h0 h1 h2 h3 h4
  simp [mapd]
  rfl

end Go.Proofs.GoC

/-
  What is printed is read as it was: the plain law of layer 3. No claim by itself.
-/
namespace Go.Proofs.GoC
open Go Go.Proofs.SL
set_option linter.unusedSimpArgs false
set_option linter.unusedVariables false
set_option maxRecDepth 10000
set_option maxHeartbeats 2000000

/-- No two colons, nor one at the end. -/
def good : List UInt8 → Bool
  | [] => true
  | [a] => a != 58
  | a :: b :: l => !(a == 58 && b == 58) && good (b :: l)

theorem index_good : ∀ (A B : List UInt8), good A = true → Lib.index (A ++ 58 :: 58 :: B) [58, 58] = A.length
  | [], B, _ => by simp [Lib.index, List.isPrefixOf]
  | [a], B, h => by
    simp only [good, bne_iff_ne, ne_eq] at h
    have h0 := index_good [] B rfl
    simp only [List.nil_append, List.length_nil] at h0
    simp only [List.singleton_append, Lib.index, List.length_singleton]
    rw [if_neg (by simp [List.isPrefixOf, Ne.symm h])]
    have h1 : Lib.index (58 :: 58 :: B) [58, 58] = 0 := h0
    simp only [Lib.index] at h1
    simp [List.isPrefixOf]
  | a :: b :: l, B, h => by
    simp only [good, Bool.and_eq_true, Bool.not_eq_true'] at h
    have ih := index_good (b :: l) B h.2
    simp only [List.cons_append] at ih ⊢
    rw [Lib.index, if_neg, ih]
    · rw [if_neg (by simp only [beq_iff_eq]; omega)]; simp
    · simp only [List.isPrefixOf, Bool.and_eq_true, beq_iff_eq, and_true]
      rintro ⟨e1, e2⟩
      have := h.1
      rw [← e1, ← e2] at this
      simp at this
theorem index_none : ∀ (A : List UInt8), good A = true → Lib.index A [58, 58] = -1
  | [], _ => by simp [Lib.index]
  | [a], h => by simp [Lib.index, List.isPrefixOf]
  | a :: b :: l, h => by
    simp only [good, Bool.and_eq_true, Bool.not_eq_true'] at h
    have ih := index_none (b :: l) h.2
    rw [Lib.index, if_neg, ih]
    · rfl
    · simp only [List.isPrefixOf, Bool.and_eq_true, beq_iff_eq, and_true]
      rintro ⟨e1, e2⟩
      have := h.1
      rw [← e1, ← e2] at this
      simp at this

theorem cut_good (A B : List UInt8) (h : good A = true) : Lib.cut (A ++ 58 :: 58 :: B) [58, 58] = (A, B, true) := by
  unfold Lib.cut
  rw [index_good A B h, if_pos (by omega)]
  simp [List.drop_append]
theorem cut_none (A : List UInt8) (h : good A = true) : Lib.cut A [58, 58] = (A, [], false) := by
  unfold Lib.cut
  rw [index_none A h, if_neg (by omega)]

theorem good_no : ∀ (p : List UInt8), (58 : UInt8) ∉ p → good p = true
  | [], _ => rfl
  | [a], h => by simp at h; simp [good, Ne.symm h]
  | a :: b :: l, h => by
    simp only [List.mem_cons, not_or] at h
    have := good_no (b :: l) (by simp only [List.mem_cons, not_or]; exact h.2)
    simp [good, this, Ne.symm h.1]
theorem good_app : ∀ (p : List UInt8) (c : UInt8) (q : List UInt8), (58 : UInt8) ∉ p → p ≠ [] → c ≠ 58 → good (c :: q) = true → good (p ++ 58 :: c :: q) = true
  | [], _, _, _, h, _, _ => absurd rfl h
  | [a], c, q, h, _, hc, hq => by
    simp at h
    simp [good, Ne.symm h, hc, hq]
  | a :: b :: l, c, q, h, _, hc, hq => by
    simp only [List.mem_cons, not_or] at h
    have := good_app (b :: l) c q (by simp only [List.mem_cons, not_or]; exact h.2) (by simp) hc hq
    simp only [List.cons_append] at this ⊢
    simp [good, this, Ne.symm h.1]

/-- Pieces of a text. -/
def Pcs (ps : List (List UInt8)) : Prop := ∀ p ∈ ps, p ≠ [] ∧ (58 : UInt8) ∉ p

theorem join_head {ps : List (List UInt8)} (h : Pcs ps) (hne : ps ≠ []) : ∃ c q, joinL [58] ps = c :: q ∧ c ≠ 58 := by
  cases ps with
  | nil => exact absurd rfl hne
  | cons p ps =>
    obtain ⟨h1, h2⟩ := h p (by simp)
    cases p with
    | nil => exact absurd rfl h1
    | cons c q =>
      simp only [List.mem_cons, not_or] at h2
      cases ps with
      | nil => exact ⟨c, q, by simp [joinL], Ne.symm h2.1⟩
      | cons r ps => exact ⟨c, q ++ [58] ++ joinL [58] (r :: ps), by rw [joinL_cons _ _ _ (by simp)]; simp, Ne.symm h2.1⟩

theorem good_join : ∀ (ps : List (List UInt8)), Pcs ps → good (joinL [58] ps) = true
  | [], _ => by simp [joinL, good]
  | [p], h => by simpa [joinL] using good_no p (h p (by simp)).2
  | p :: r :: ps, h => by
    have ht : Pcs (r :: ps) := fun q hq => h q (List.mem_cons_of_mem _ hq)
    obtain ⟨c, q, e, hc⟩ := join_head ht (by simp)
    have ih := good_join (r :: ps) ht
    rw [joinL_cons _ _ _ (by simp), e]
    rw [e] at ih
    have := good_app p c q (h p (by simp)).2 (h p (by simp)).1 hc ih
    simpa using this

theorem split_pc (sep : UInt8) : ∀ (p rest : List UInt8) (acc : List (List UInt8)) (cur : List UInt8), sep ∉ p → splitA sep (p ++ sep :: rest) acc cur = splitA sep rest (acc ++ [cur ++ p]) []
  | [], rest, acc, cur, _ => by simp [splitA]
  | b :: p, rest, acc, cur, h => by
    simp only [List.mem_cons, not_or] at h
    simp only [List.cons_append, splitA]
    rw [if_neg (fun e => h.1 e.symm), split_pc sep p rest acc _ h.2]
    simp

theorem split_join : ∀ (ps : List (List UInt8)) (acc : List (List UInt8)), Pcs ps → ps ≠ [] → splitA 58 (joinL [58] ps) acc [] = acc ++ ps
  | [], _, _, h => absurd rfl h
  | [p], acc, h, _ => by
    rw [show joinL [58] [p] = p by simp [joinL], splitA_no 58 p acc [] (h p (by simp)).2]; simp
  | p :: r :: ps, acc, h, _ => by
    have ht : Pcs (r :: ps) := fun q hq => h q (List.mem_cons_of_mem _ hq)
    rw [joinL_cons _ _ _ (by simp), List.append_assoc, List.singleton_append, split_pc 58 p _ acc [] (h p (by simp)).2, split_join (r :: ps) _ ht (by simp)]
    simp

theorem hexd_fact : ∀ k : Fin 16, digitV (hexd k.val).toNat = (k.val : Int) ∧ hexd k.val ≠ 58 ∧ hexd k.val ≠ 46 := by decide +kernel
theorem hexd_val (k : Nat) (h : k < 16) : digitV (hexd k).toNat = (k : Int) := (hexd_fact ⟨k, h⟩).1

theorem hexF_no (c : UInt8) (hc : c = 58 ∨ c = 46) (n : Nat) : c ∉ hexF n := by
  induction n using Nat.strongRecOn with
  | _ n ih =>
    rw [hexF.eq_1]
    split
    · rename_i h
      have := hexd_fact ⟨n, h⟩
      rcases hc with rfl | rfl
      · simpa using Ne.symm this.2.1
      · simpa using Ne.symm this.2.2
    · have := hexd_fact ⟨n % 16, by omega⟩
      have h1 := ih (n / 16) (by omega)
      rcases hc with rfl | rfl
      · simp only [List.mem_append, List.mem_singleton, not_or]; exact ⟨h1, Ne.symm this.2.1⟩
      · simp only [List.mem_append, List.mem_singleton, not_or]; exact ⟨h1, Ne.symm this.2.2⟩
theorem hexF_ne (n : Nat) : hexF n ≠ [] := by
  rw [hexF.eq_1]; split <;> simp

theorem num_hex (n : Nat) (h : n ≤ 65535) : numF 16 (hexF n) 0 = some (n : Int) := by
  induction n using Nat.strongRecOn with
  | _ n ih =>
    rw [hexF.eq_1]
    split
    · rename_i h16
      rw [num_one 16 _ 0 n (hexd_val n h16) (by omega) (by omega)]
      congr 1; omega
    · rw [numF_app, ih (n / 16) (by omega) (by omega)]
      simp only
      rw [num_one 16 _ _ (n % 16) (hexd_val _ (by omega)) (by omega) (by omega)]
      congr 1; omega

theorem hexP_hex (n : Nat) (h : n ≤ 65535) : hexP (hexF n) = some n := by
  unfold hexP
  rw [num_hex n h]
  simp only
  rw [if_pos ⟨hexF_ne n, hexF_len n h⟩]
  simp

theorem groups_hex (last : Bool) : ∀ gs : List Nat, (∀ g ∈ gs, g ≤ 65535) → groupsGo last (gs.map hexF) = some gs
  | [], _ => rfl
  | g :: gs, h => by
    simp only [List.map_cons, groupsGo, part6, hexP_hex g (h g (by simp)), groups_hex last gs (fun x hx => h x (List.mem_cons_of_mem _ hx)), Option.map_some]
    rfl

theorem pcs_hex (gs : List Nat) : Pcs (gs.map hexF) := by
  intro p hp
  obtain ⟨n, _, rfl⟩ := List.mem_map.mp hp
  exact ⟨hexF_ne n, hexF_no 58 (.inl rfl) n⟩

theorem groupsF_row (last : Bool) (gs : List Nat) (h : ∀ g ∈ gs, g ≤ 65535) : groupsF last (rowF gs) = some gs := by
  unfold groupsF rowF
  by_cases he : gs = []
  · subst he; rfl
  · have hne : gs.map hexF ≠ [] := by simpa using he
    rw [if_neg (by
      obtain ⟨c, q, e, _⟩ := join_head (pcs_hex gs) hne
      rw [e]; simp), split_join _ [] (pcs_hex gs) hne, List.nil_append, groups_hex last gs h]

theorem good_row (gs : List Nat) : good (rowF gs) = true := good_join _ (pcs_hex gs)

/-- The row of zeros is one. -/
def runZ (zs : List Bool) : Bool :=
  let r := runF zs
  decide (r.2 ≠ 1) && ((List.range 8).all fun i => !(decide (r.1 ≤ i) && decide (i < r.1 + r.2)) || zs.getD i false)
theorem run_z8 : ∀ a b c d e f g h : Bool, runZ [a, b, c, d, e, f, g, h] = true := by decide +kernel
theorem run_zero {gs : List Nat} (hl : gs.length = 8) : (runF (zeros gs)).2 ≠ 1 ∧ ∀ i, (runF (zeros gs)).1 ≤ i → i < (runF (zeros gs)).1 + (runF (zeros gs)).2 → i < 8 → gs.getD i 0 = 0 := by
  have hz : runZ (zeros gs) = true := by
    obtain ⟨a, b, c, d, e, f, g, h, he⟩ := len8 (zeros_len.trans hl)
    rw [he]; exact run_z8 a b c d e f g h
  simp only [runZ, Bool.and_eq_true, decide_eq_true_eq, List.all_eq_true, List.mem_range] at hz
  refine ⟨hz.1, fun i h1 h2 h8 => ?_⟩
  have := hz.2 i h8
  rw [zeros_get (by omega)] at this
  simpa [h1, h2] using this

theorem split3 (gs : List Nat) (a n : Nat) (hl : gs.length = 8) (h : a + n ≤ 8) (hz : ∀ i, a ≤ i → i < a + n → i < 8 → gs.getD i 0 = 0) : gs.take a ++ List.replicate n 0 ++ gs.drop (a + n) = gs := by
  apply List.ext_getElem
  · simp only [List.length_append, List.length_take, List.length_replicate, List.length_drop]; omega
  · intro i h1 h2
    rcases Nat.lt_or_ge i a with ha | ha
    · rw [List.getElem_append_left (by simp; omega), List.getElem_append_left (by simp; omega), List.getElem_take]
    · rcases Nat.lt_or_ge i (a + n) with hb | hb
      · rw [List.getElem_append_left (by simp; omega), List.getElem_append_right (by simp; omega)]
        have := hz i ha hb (by omega)
        rw [List.getD_eq_getElem?_getD, List.getElem?_eq_getElem h2, Option.getD_some] at this
        simp [this]
      · rw [List.getElem_append_right (by simp; omega), List.getElem_drop]
        congr 1
        simp; omega

theorem dec_no58 (n : Nat) : (58 : UInt8) ∉ decF n := by
  induction n using Nat.strongRecOn with
  | _ n ih =>
    have hd : ∀ k : Fin 10, (58 : UInt8) ≠ UInt8.ofNat (48 + k.val) := by decide
    rw [decF.eq_1]
    split
    · simpa using hd ⟨n % 10, by omega⟩
    · simp only [List.mem_append, List.mem_singleton, not_or]
      exact ⟨ih (n / 10) (by omega), hd ⟨n % 10, by omega⟩⟩

theorem printF_no (v : Nat) : (58 : UInt8) ∉ printF v := by
  simp only [printF, dot4, List.mem_append, List.mem_singleton, not_or]
  exact ⟨⟨⟨⟨⟨⟨dec_no58 _, by decide⟩, dec_no58 _⟩, by decide⟩, dec_no58 _⟩, by decide⟩, dec_no58 _⟩
theorem printF_dot (v : Nat) : (46 : UInt8) ∈ printF v := by simp [printF, dot4]

theorem parse_print (gs : List Nat) (hl : gs.length = 8) (hle : ∀ g ∈ gs, g ≤ 65535) : parseF (print6 gs) = some gs := by
  unfold print6
  have hr := run_in _ (zeros_len.trans hl)
  obtain ⟨h1, hz⟩ := run_zero hl
  split
  · rename_i hm
    have l6 := mem_get hle 6
    have l7 := mem_get hle 7
    obtain ⟨a, b, c, d, e, f, g, i, rfl⟩ := len8 hl
    simp [mapd] at hm
    obtain ⟨rfl, rfl, rfl, rfl, rfl, rfl⟩ := hm
    simp at l6 l7
    have hv : g * 65536 + i ≤ 4294967295 := by omega
    show parseF ([] ++ 58 :: 58 :: ([102, 102, 102, 102, 58] ++ printF (g * 65536 + i))) = _
    unfold parseF
    rw [cut_good [] _ rfl]
    have hs : splitA 58 ([102, 102, 102, 102, 58] ++ printF (g * 65536 + i)) [] [] = [[102, 102, 102, 102], printF (g * 65536 + i)] := by
      have := split_pc 58 [102, 102, 102, 102] (printF (g * 65536 + i)) [] [] (by decide)
      simp only [List.cons_append, List.nil_append] at this ⊢
      rw [this, splitA_no 58 _ _ _ (printF_no _)]
      simp
    have hg : groupsF true ([102, 102, 102, 102, 58] ++ printF (g * 65536 + i)) = some [65535, g, i] := by
      unfold groupsF
      rw [if_neg (by simp), hs]
      have hx : hexP [102, 102, 102, 102] = some 65535 := by decide +kernel
      have hy : hexP (printF (g * 65536 + i)) = none := hexP_no (printF_dot _)
      simp only [groupsGo, part6, hx, hy, List.isEmpty_cons, List.isEmpty_nil, Bool.and_true, Bool.and_false, if_true, strict_print _ hv, Option.map_some]
      have e1 : (g * 65536 + i) / 65536 = g := by omega
      have e2 : (g * 65536 + i) % 65536 = i := by omega
      rw [e1, e2]; rfl
    rw [show groupsF (!true) [] = some [] from rfl]
    simp only
    rw [hg]
    rfl
  · split
    · unfold parseF
      rw [cut_none _ (good_row gs)]
      simp only [Bool.not_false]
      rw [show groupsF true [] = some [] from rfl]
      rw [groupsF_row true gs hle]
      simp [parse2, hl]
    · rename_i h0
      have hA : ∀ g ∈ gs.take (runF (zeros gs)).1, g ≤ 65535 := fun g hg => hle g (List.mem_of_mem_take hg)
      have hB : ∀ g ∈ gs.drop ((runF (zeros gs)).1 + (runF (zeros gs)).2), g ≤ 65535 := fun g hg => hle g (List.mem_of_mem_drop hg)
      unfold parseF
      rw [show rowF (gs.take (runF (zeros gs)).1) ++ [58, 58] ++ rowF (gs.drop ((runF (zeros gs)).1 + (runF (zeros gs)).2)) = rowF (gs.take (runF (zeros gs)).1) ++ 58 :: 58 :: rowF (gs.drop ((runF (zeros gs)).1 + (runF (zeros gs)).2)) by simp]
      rw [cut_good _ _ (good_row _)]
      simp only
      rw [groupsF_row _ _ hA, groupsF_row _ _ hB]
      have h3 := split3 gs _ _ hl hr hz
      generalize (runF (zeros gs)).1 = a at *
      generalize (runF (zeros gs)).2 = n at *
      simp only [parse2, if_true, List.length_take, List.length_drop, hl]
      rw [if_pos (by omega), show 8 - (min a 8 + (8 - (a + n))) = n by omega, h3]
end Go.Proofs.GoC

/-
  What the functions compute: bytes of addresses of 128 bits; the law SixBytes. No claim by itself.
-/
namespace Go.Proofs.GoC
open Go Go.Proofs.SL
set_option linter.unusedSimpArgs false
set_option linter.unusedVariables false
set_option maxRecDepth 10000
set_option maxHeartbeats 2000000

theorem bdd_u8s {n : Nat} {l : List Nat} : Bdd n (.agg (u8s l)) := .agg _ fun p hp => by
  obtain ⟨x, _, rfl⟩ := List.mem_map.mp hp
  exact .int _ _
theorem bdd_u16s {n : Nat} {l : List Nat} : Bdd n (.agg (u16s l)) := .agg _ fun p hp => by
  obtain ⟨x, _, rfl⟩ := List.mem_map.mp hp
  exact .int _ _
theorem mem_get8 {gs : List Nat} (hle : ∀ g ∈ gs, g ≤ 255) (k : Nat) : gs.getD k 0 ≤ 255 := by
  rw [List.getD_eq_getElem?_getD]
  rcases Nat.lt_or_ge k gs.length with h | h
  · rw [List.getElem?_eq_getElem h]; exact hle _ (List.getElem_mem h)
  · rw [List.getElem?_eq_none h]; exact Nat.zero_le _
theorem u8s_tag {l : List Nat} {n : Nat} (hl : l.length = n) : List.map tagP (u8s l) = List.replicate n (some (Tag.i IntKind.u8)) := by
  subst hl
  induction l with
  | nil => rfl
  | cons a l ih => simp only [u8s, List.map_cons, List.length_cons, List.replicate_succ] at ih ⊢; rw [ih]; rfl

def ordSB : Nat → List Nat
  | 5 => [0, 1, 2, 3, 4, 5, 6, 7, 8, 9, 10, 11, 14, 18, 5, 12, 13, 15, 16, 17, 15, 12, 13, 16, 17]
  | _ => []
theorem ordSB_5 : ordSB 5 = [0, 1, 2, 3, 4, 5, 6, 7, 8, 9, 10, 11, 14, 18, 5, 12, 13, 15, 16, 17, 15, 12, 13, 16, 17] := rfl
def ordSO : Nat → List Nat
  | 5 => [0, 1, 2, 3, 4, 5, 6, 7, 8, 9, 10, 11, 12, 13, 14, 15]
  | _ => []
theorem ordSO_5 : ordSO 5 = [0, 1, 2, 3, 4, 5, 6, 7, 8, 9, 10, 11, 12, 13, 14, 15] := rfl

end Go.Proofs.GoC
