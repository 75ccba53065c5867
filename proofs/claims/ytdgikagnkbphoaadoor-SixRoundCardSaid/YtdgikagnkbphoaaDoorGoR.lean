/-
  How an address's text is read; the laws FourStrict, FourRound, FourBytes. No claim by itself.
-/
import Derived.Test.YtdgikagnkbphoaaDoorGoM3
import Derived.Test.YtdgikagnkbphoaaDoorGoM
namespace Go.Proofs.GoC
open Go Go.Proofs.SL
set_option linter.unusedSimpArgs false
set_option linter.unusedVariables false
set_option maxRecDepth 10000
set_option maxHeartbeats 2000000

theorem split_dec4 (a b c d : Nat) : splitA 46 (dot4 a b c d) [] [] = [decF a, decF b, decF c, decF d] := by
  unfold dot4
  simp only [List.append_assoc, List.singleton_append, List.cons_append, List.nil_append]
  rw [split_3, split_run 46 _ _ _ _ (dec_no c)]
  simp only [splitA, if_true, List.nil_append]
  rw [split_end _ _ (dec_no d)]
  rfl

theorem num_one (base : Int) (b : UInt8) (n : Int) (v : Nat) (hv : digitV b.toNat = v) (h : (v : Int) < base) (hm : n * base + v ≤ 1099511627776) : numF base [b] n = some (n * base + v) := by
  simp only [numF, hv]
  rw [if_neg (by omega), if_neg (by omega)]

theorem num_dec (n : Nat) (h : n ≤ 1099511627776) : numF 10 (decF n) 0 = some (n : Int) := by
  induction n using Nat.strongRecOn with
  | _ n ih =>
    rw [decF.eq_1]
    split
    · rename_i h10
      rw [num_one 10 _ 0 (n % 10) (dig_val _ (by omega)) (by omega) (by omega)]
      congr 1; omega
    · rw [numF_app, ih (n / 10) (by omega) (by omega)]
      simp only
      rw [num_one 10 _ _ (n % 10) (dig_val _ (by omega)) (by omega) (by omega)]
      congr 1; omega

theorem oct_dec (a : Nat) (h : a ≤ 255) : octF (decF a) = some a := by
  unfold octF
  rw [num_dec a (by omega)]
  simp only
  rw [if_pos ⟨decF_ne a, by omega, by simp⟩]
  simp

theorem strict_dot (a b c d : Nat) (ha : a ≤ 255) (hb : b ≤ 255) (hc : c ≤ 255) (hd : d ≤ 255) : strictF (dot4 a b c d) = some (of4 a b c d) := by
  unfold strictF
  rw [split_dec4]
  have h4 : [decF a, decF b, decF c, decF d].length = 4 := rfl
  rw [if_pos h4]
  simp only [octs, oct_dec _ ha, oct_dec _ hb, oct_dec _ hc, oct_dec _ hd, Option.map_some]
  simp [fold4, of4]

theorem strict_print (n : Nat) (h : n ≤ 4294967295) : strictF (printF n) = some n := by
  obtain ⟨h3, h2, h1, h0⟩ := by_in n h
  rw [printF, strict_dot _ _ _ _ h3 h2 h1 h0, by_of n h]

theorem strictV_two (o : Option Nat) : ∃ (a : Nat) (b : Bool), strictV o = .tup [.int .u32 a, .bool b] := by
  cases o with
  | none => exact ⟨0, false, rfl⟩
  | some n => exact ⟨n, true, rfl⟩

theorem loose4 (a b c d : Nat) (ha : a ≤ 255) (hb : b ≤ 255) (hc : c ≤ 255) (hd : d ≤ 255) : looseV [decF a, decF b, decF c, decF d] = .tup [.int .u32 (of4 a b c d : Nat), .int .i64 2] := by
  unfold looseV
  rw [if_pos (ends_dec _ d rfl)]
  simp only [List.length_cons, List.length_nil, Nat.reduceAdd, Nat.lt_irrefl, if_false, looseGo, part_dec, sat_lt (show a ≤ 4294967296 by omega), sat_lt (show b ≤ 4294967296 by omega), sat_lt (show c ≤ 4294967296 by omega), sat_lt (show d ≤ 4294967296 by omega)]
  have r3 : room 3 = 256 := rfl
  rw [if_neg (by omega), if_neg (by omega), if_neg (by omega), if_neg (by show ¬ ((room 3 : Nat) : Int) ≤ _; rw [r3]; omega)]
  have e : (((0 * 256 + a) * 256 + b) * 256 + c) * room 3 + d = of4 a b c d := by rw [r3]; unfold of4; omega
  simp only [Int.toNat_natCast]
  show PV.tup [PV.int IntKind.u32 (IntKind.u32.wrap (((((0 * 256 + a) * 256 + b) * 256 + c) * room 3 + d : Nat) : Int)), PV.int IntKind.i64 2] = _
  rw [e, nw_u32 (by omega) (by unfold of4; omega)]

theorem pieces4 (a b c d : Nat) : piecesF (dot4 a b c d) = [decF a, decF b, decF c, decF d] := pieces_of _ _ (split_dec4 a b c d) (decF_ne d)

theorem splitA_app (sep : UInt8) : ∀ (l : List UInt8) (acc : List (List UInt8)) (cur : List UInt8), splitA sep (l ++ [sep]) acc cur = splitA sep l acc cur ++ [[]]
  | [], acc, cur => by simp [splitA]
  | b :: l, acc, cur => by
    simp only [List.cons_append, splitA]
    split <;> exact splitA_app sep l _ _

theorem pieces_dot (l : List UInt8) (ps : List (List UInt8)) (h : splitA 46 l [] [] = ps) : piecesF (l ++ [46]) = ps := by
  have hl := splitA_len 46 l [] []
  rw [h] at hl
  simp only [List.length_nil] at hl
  unfold piecesF
  rw [splitA_app, h, if_pos ⟨by simp; omega, by simp [lastF, List.getD_eq_getElem?_getD]⟩]
  simp

theorem dec_beq {p q : Prop} {i : Decidable p} {j : Decidable q} (h : p ↔ q) : (decide p == decide q) = true := by
  rw [beq_iff_eq, decide_eq_decide]; exact h

theorem of4_inj {a b c d e f g h : Nat} (hb : b ≤ 255) (hc : c ≤ 255) (hd : d ≤ 255) (hf : f ≤ 255) (hg : g ≤ 255) (hh : h ≤ 255) : of4 a b c d = of4 e f g h ↔ (a = e ∧ b = f ∧ c = g ∧ d = h) := by
  unfold of4; omega

end Go.Proofs.GoC
