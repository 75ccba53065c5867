/-
  What the law FourJoins computes: true, for all numbers. No claim by itself.
-/
import Derived.Test.YtdgikagnkbphoaaDoorGoM1
import Derived.Test.YtdgikagnkbphoaaDoorSlM5
namespace Go.Proofs.GoC
open Go Go.Proofs.SL
set_option linter.unusedSimpArgs false
set_option linter.unusedVariables false
set_option maxRecDepth 10000
set_option maxHeartbeats 1000000

theorem pieces_of (l : List UInt8) (ps : List (List UInt8)) (h : splitA 46 l [] [] = ps) (hl : lastF ps ≠ []) : piecesF l = ps := by
  unfold piecesF
  rw [h, if_neg (fun h => hl h.2)]

theorem pieces2 (x : Nat) (l : List UInt8) (h : ∀ b ∈ l, b ≠ 46) (hl : l ≠ []) : piecesF (decF x ++ [46] ++ l) = [decF x, l] := by
  refine pieces_of _ _ ?_ hl
  rw [List.append_assoc, List.singleton_append, split_2, split_end _ _ h]; rfl

theorem pieces3 (x y : Nat) (l : List UInt8) (h : ∀ b ∈ l, b ≠ 46) (hl : l ≠ []) : piecesF (decF x ++ [46] ++ decF y ++ [46] ++ l) = [decF x, decF y, l] := by
  refine pieces_of _ _ ?_ hl
  simp only [List.append_assoc, List.singleton_append, List.cons_append, List.nil_append]
  rw [split_3, split_end _ _ h]; rfl

theorem ends_dec (ps : List (List UInt8)) (n : Nat) (h : lastF ps = decF n) : endsF ps = true := by
  unfold endsF; rw [h, part_dec]; rfl

theorem sat_lt {n : Nat} (h : n ≤ 4294967296) : sat n = n := by unfold sat; rw [if_neg (by omega)]

theorem room1 : room 1 = 16777216 := rfl
theorem room2 : room 2 = 65536 := rfl

theorem loose2 (x r : Nat) (hx : x ≤ 255) : looseV [decF x, decF r] = if r < 16777216 then .tup [.int .u32 ((x * 16777216 + r : Nat) : Int), .int .i64 2] else .tup [.int .u32 0, .int .i64 1] := by
  unfold looseV
  rw [if_pos (ends_dec _ r rfl)]
  simp only [List.length_cons, List.length_nil, Nat.reduceAdd, Nat.reduceLT, if_false, looseGo, part_dec, sat_lt (show x ≤ 4294967296 by omega)]
  rw [if_neg (by omega)]
  by_cases h : r < 16777216
  · rw [sat_lt (by omega)]
    rw [if_neg (by rw [room1]; omega), if_pos h]
    simp only [room1, Int.toNat_natCast, Nat.zero_mul, Nat.zero_add]
    rw [nw_u32 (by omega) (by omega)]
  · have hs : 16777216 ≤ sat r := by unfold sat; split <;> omega
    rw [if_pos (by rw [room1]; omega), if_neg h]

theorem loose3 (x y r : Nat) (hx : x ≤ 255) (hy : y ≤ 255) (hr : r < 65536) : looseV [decF x, decF y, decF r] = .tup [.int .u32 ((x * 16777216 + y * 65536 + r : Nat) : Int), .int .i64 2] := by
  unfold looseV
  rw [if_pos (ends_dec _ r rfl)]
  simp only [List.length_cons, List.length_nil, Nat.reduceAdd, Nat.reduceLT, if_false, looseGo, part_dec, sat_lt (show x ≤ 4294967296 by omega), sat_lt (show y ≤ 4294967296 by omega), sat_lt (show r ≤ 4294967296 by omega)]
  rw [if_neg (by omega), if_neg (by omega), if_neg (by show ¬ ((room 2 : Nat) : Int) ≤ _; rw [room2]; omega)]
  have e : ((0 * 256 + x) * 256 + y) * room 2 + r = x * 16777216 + y * 65536 + r := by rw [room2]; omega
  simp only [Int.toNat_natCast]
  show PV.tup [PV.int IntKind.u32 (IntKind.u32.wrap ((((0 * 256 + x) * 256 + y) * room 2 + r : Nat) : Int)), PV.int IntKind.i64 2] = _
  rw [e, nw_u32 (by omega) (by omega)]

theorem dig_bad (base : Int) (h : base ≤ 10) (l : List UInt8) (n : Int) : digF base (l ++ [97]) n = none := by
  rw [digF_app]
  split
  · have : digitV (97 : UInt8).toNat = 10 := by decide
    simp only [digF, this]
    rw [if_pos (by omega)]
  · rfl

theorem part_bad (y : Nat) : partF (decF y ++ [97]) = none := by
  rcases Nat.eq_zero_or_pos y with rfl | h
  · rw [decF.eq_1]; rfl
  · obtain ⟨a, t, e, ha⟩ := decF_head y h
    have hb := dig_bad 10 (by omega) (decF y) 0
    rw [e] at hb ⊢
    cases t with
    | nil => simp only [List.cons_append, List.nil_append, partF, if_neg ha] at hb ⊢; exact hb
    | cons b t => simp only [List.cons_append, partF, if_neg ha] at hb ⊢; exact hb

theorem loose_bad (x y : Nat) : looseV [decF x, decF y ++ [97]] = .tup [.int .u32 0, .int .i64 0] := by
  unfold looseV
  rw [if_neg]
  unfold endsF
  have : lastF [decF x, decF y ++ [97]] = decF y ++ [97] := rfl
  rw [this, part_bad, dig_bad 10 (by omega)]
  simp

theorem dec_short (n : Nat) (h : n < 1000000000000000000) : (decF n).length ≤ 18 := decF_len n 17 (by omega)

end Go.Proofs.GoC
