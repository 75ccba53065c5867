/-
  What the functions compute, part seven: a loose text's address. No claim by itself.
-/
import Derived.Test.YtdjdhcljdcljoaaDoorGoG
namespace Go.Proofs.GoC
open Go Go.Proofs.SL
set_option linter.unusedSimpArgs false
set_option linter.unusedVariables false
set_option maxRecDepth 10000

def room : Nat → Nat
  | 0 => 4294967296
  | 1 => 16777216
  | 2 => 65536
  | 3 => 256
  | _ => 1

/-- The number of the parts from the i-th on. -/
def looseGo : List (List UInt8) → Nat → Nat → Option Nat
  | [], acc, _ => some acc
  | [p], acc, i => match partF p with
    | some n => if (room i : Int) ≤ n then none else some (acc * room i + n.toNat)
    | none => none
  | p :: q :: t, acc, i => match partF p with
    | some n => if 255 < n then none else looseGo (q :: t) (acc * 256 + n.toNat) (i + 1)
    | none => none

def looseV (ps : List (List UInt8)) : PV :=
  if endsF ps = true then
    if 4 < ps.length then .tup [.int .u32 0, .int .i64 1] else match looseGo ps 0 0 with
      | some n => .tup [.int .u32 (IntKind.u32.wrap n), .int .i64 2]
      | none => .tup [.int .u32 0, .int .i64 1]
  else .tup [.int .u32 0, .int .i64 0]

theorem room_pow (k : Nat) (hk : k ≤ 4) : room k = 2 ^ (8 * (4 - k)) := by
  have : k = 0 ∨ k = 1 ∨ k = 2 ∨ k = 3 ∨ k = 4 := by omega
  rcases this with rfl | rfl | rfl | rfl | rfl <;> rfl

theorem room_in (k : Nat) : 1 ≤ room k ∧ room k ≤ 4294967296 := by unfold room; split <;> omega

theorem or_room {k acc n : Nat} (hk : k ≤ 4) (h : acc * room k < 4294967296) (hn : n < room k) : bitOp .or .i64 ((acc * room k : Nat) : Int) (n : Int) = ((acc * room k + n : Nat) : Int) := by
  rw [room_pow k hk] at *
  have h2 : 2 ^ (8 * (4 - k)) ≤ 4294967296 := by rw [← room_pow k hk]; exact (room_in k).2
  exact or_add hn (by omega)

theorem shl_room (k : Nat) (hk : k < 4) (n : Int) (h0 : 0 ≤ n) (h1 : n ≤ 255) : IntKind.i64.wrap (n * 2 ^ (min (8 * (3 - k)) 64)) = n * room (k + 1) := by
  have : k = 0 ∨ k = 1 ∨ k = 2 ∨ k = 3 := by omega
  rcases this with rfl | rfl | rfl | rfl <;> simp only [room] <;> rw [w64] <;> simp <;> omega

theorem shl_one (k : Nat) (hk : k < 4) : IntKind.i64.wrap (1 * 2 ^ (min (8 * (4 - k)) 64)) = room k := by
  have : k = 0 ∨ k = 1 ∨ k = 2 ∨ k = 3 := by omega
  rcases this with rfl | rfl | rfl | rfl <;> rfl

theorem c_four_Loose (l : List UInt8) (hl : l.length < 900000) : PCall Tryd.prog 11 [.str (bs l)] (looseV (piecesF l)) := by
  intro H
  refine scall_of (ord := fun _ => []) (rs := [2, 3]) Tryd.func11 rfl (by kernel_rfl) (by kernel_rfl) (by kernel_rfl) Tryd.ntmps11 fun hb _ => go 100 (fun t => false) mixed ?_
  simp only [↓reduceIte, go_sem]
  refine (c_four_pieces l (by omega)).on (go 100 (fun _ => false) mixed ?_)
  simp only [↓reduceIte, go_sem]
  have hlen := piecesF_len l
  have hshort := piecesF_short l
  generalize piecesF l = ps at *
  refine (c_four_ends ps hlen.1 (by omega) (fun p hp => by have := hshort p hp; omega)).on (go 100 (fun _ => false) mixed ?_)
  obtain ⟨R, hR⟩ : ∃ R, R = looseV ps := ⟨_, rfl⟩
  rw [← hR]
  unfold looseV at hR
  by_cases he' : endsF ps = false
  · rw [if_neg (by simp [he'])] at hR
    simp only [↓reduceIte, go_sem, he', hR]
    exact fin rfl rfl
  have he : endsF ps = true := by simpa using he'
  rw [if_pos he] at hR
  by_cases h4 : 4 < ps.length
  · rw [if_pos h4] at hR
    have h4' : (4 : Int) < (ps.length : Int) := by omega
    simp only [↓reduceIte, go_sem, he, h4', hR]
    exact fin rfl rfl
  rw [if_neg h4] at hR
  have h4' : ¬ (4 : Int) < (ps.length : Int) := by omega
  have e1 : IntKind.i64.wrap ((ps.length : Int) - 1) = ((ps.length - 1 : Nat) : Int) := by rw [w64 (by omega) (by omega)]; omega
  simp only [↓reduceIte, go_sem, he, h4', e1]
  obtain ⟨G, hG⟩ : ∃ G, G = looseGo ps 0 0 := ⟨_, rfl⟩
  rw [← hG] at hR
  refine runs_loopA (fun x : Nat × Nat × Nat => x.1 ≤ ps.length ∧ x.2.1 < 4294967296 ∧ ((x.1 < ps.length ∧ x.2.2 * room x.1 = x.2.1 ∧ looseGo (ps.drop x.1) x.2.2 x.1 = G) ∨ (x.1 = ps.length ∧ some x.2.1 = G))) (fun x => ps.length - x.1)
    [true, false, false, false, true, true, true, false, false, false, false, false, false, false, false, false, false, false, false, false, false, false, false, true, true, true]
    (fun x => slots 64 [.str (bs l), .any, .any, .any, .sl 1 (strs ps), .int .i64 x.2.1, .int .i64 (ps.length - 1 : Nat), .any, .any, .any, .any, .any, .any, .any, .any, .any, .any, .any, .any, .any, .any, .any, .any, .sl 1 (strs ps), .int .i64 ps.length, .int .i64 x.1])
    (fun x => H) (by rfl) (0, 0, 0) ⟨Nat.zero_le _, by show 0 < _; omega, .inl ⟨hlen.1, rfl, hG.symm⟩⟩ rfl rfl ?_
  rintro ⟨k, out, acc⟩ ⟨hk, hout, hinv⟩
  have hk : k ≤ ps.length := hk
  have hout : out < 4294967296 := hout
  have e3 : IntKind.i64.wrap ((k : Int) + 1) = ((k + 1 : Nat) : Int) := by rw [w64 (by omega) (by omega)]; omega
  refine go 100 (fun t => false) mixed ?_
  by_cases hlt : k < ps.length
  · have g := strs_getD (l := ps) (k := k) hlt
    simp only [↓reduceIte, go_sem, e3, hlt, g]
    refine (c_four_number (ps.getD k []) ?_).on (go 100 (fun _ => false) mixed ?_)
    · rw [getDL_of hlt]; have := hshort _ (List.getElem_mem hlt); omega
    have hinv : acc * room k = out ∧ looseGo (ps.drop k) acc k = G := by
      rcases hinv with ⟨_, h⟩ | ⟨h, _⟩
      · exact h
      · exact absurd h (by show ¬ k = ps.length; omega)
    obtain ⟨hacc, hgo⟩ := hinv
    rw [List.drop_eq_getElem_cons hlt, ← getDL_of hlt] at hgo
    have f1 : IntKind.i64.wrap (4 - (k : Int)) = ((4 - k : Nat) : Int) := by rw [w64 (by omega) (by omega)]; omega
    have f2 : IntKind.i64.wrap (8 * ((4 - k : Nat) : Int)) = ((8 * (4 - k) : Nat) : Int) := by rw [w64 (by omega) (by omega)]; omega
    have f3 := shl_one k (by omega)
    have f4 : IntKind.i64.wrap ((room k : Int) - 1) = (room k : Int) - 1 := by have := room_in k; rw [w64 (by omega) (by omega)]
    cases hp : partF (ps.getD k []) with
    | none =>
      have hG0 : G = none := by
        rw [← hgo]
        cases hd : ps.drop (k + 1) with
        | nil => simp only [looseGo, hp]
        | cons q t => simp only [looseGo, hp]
      rw [hG0] at hR
      simp only [resV]
      by_cases hq : ps.length - 1 = k
      · simp only [↓reduceIte, go_sem, hq, hR, f1, f2, f3, f4]
        exact fin rfl rfl
      · have hlast : ¬ (k : Int) = ((ps.length - 1 : Nat) : Int) := by omega
        simp only [↓reduceIte, go_sem, hlast, hR]
        exact fin rfl rfl
    | some n =>
      have hn := partF_in _ _ hp
      simp only [resV]
      by_cases hq : ps.length - 1 = k
      · have hd : ps.drop (k + 1) = [] := List.drop_eq_nil_of_le (by omega)
        rw [hd] at hgo
        simp only [looseGo, hp] at hgo
        have hkk : ¬ k < k := by omega
        by_cases hr : (room k : Int) ≤ n
        · rw [if_pos hr] at hgo
          rw [← hgo] at hR
          have hr' : (room k : Int) - 1 < n := by omega
          simp only [↓reduceIte, go_sem, hq, hR, f1, f2, f3, f4, hr']
          exact fin rfl rfl
        · rw [if_neg hr] at hgo
          have hr' : ¬ (room k : Int) - 1 < n := by omega
          have hor : bitOp .or .i64 (out : Int) n = ((acc * room k + n.toNat : Nat) : Int) := by
            have := or_room (k := k) (acc := acc) (n := n.toNat) (by omega) (by omega) (by omega)
            rw [hacc] at this
            rw [Int.toNat_of_nonneg hn.1] at this
            rw [hacc]
            exact this
          simp only [↓reduceIte, go_sem, hq, f1, f2, f3, f4, hr', hkk, hor, e3]
          refine rnd_next (k + 1, acc * room k + n.toNat, 0) ⟨by show k + 1 ≤ _; omega, ?_, .inr ⟨by show k + 1 = _; omega, hgo⟩⟩ (by show ps.length - (k + 1) < _; omega) ?_ rfl
          · show acc * room k + n.toNat < _
            have hk4 : k = 0 ∨ k = 1 ∨ k = 2 ∨ k = 3 := by omega
            rcases hk4 with rfl | rfl | rfl | rfl <;> simp only [room] at hacc hr ⊢ <;> omega
          · simp only [↓reduceIte, go_sem, hq]
      · have hlast : ¬ (k : Int) = ((ps.length - 1 : Nat) : Int) := by omega
        have hkk : k < ps.length - 1 := by omega
        have hlt2 : k + 1 < ps.length := by omega
        rw [List.drop_eq_getElem_cons hlt2] at hgo
        simp only [looseGo, hp] at hgo
        by_cases hr : 255 < n
        · rw [if_pos hr] at hgo
          rw [← hgo] at hR
          simp only [↓reduceIte, go_sem, hlast, hR, hr]
          exact fin rfl rfl
        · rw [if_neg hr] at hgo
          have f5 : IntKind.i64.wrap (3 - (k : Int)) = ((3 - k : Nat) : Int) := by rw [w64 (by omega) (by omega)]; omega
          have f6 : IntKind.i64.wrap (8 * ((3 - k : Nat) : Int)) = ((8 * (3 - k) : Nat) : Int) := by rw [w64 (by omega) (by omega)]; omega
          have f7 := shl_room k (by omega) n hn.1 (by omega)
          have hrr : room k = 256 * room (k + 1) := by
            have hk4 : k = 0 ∨ k = 1 ∨ k = 2 := by omega
            rcases hk4 with rfl | rfl | rfl <;> rfl
          have hnn : n = ((n.toNat : Nat) : Int) := by omega
          have hb : n.toNat * room (k + 1) < room k := by
            rw [hrr]
            have := (room_in (k + 1)).1
            exact Nat.mul_lt_mul_of_pos_right (by omega) (by omega)
          have hsum : acc * room k + n.toNat * room (k + 1) = (acc * 256 + n.toNat) * room (k + 1) := by rw [hrr, Nat.add_mul, Nat.mul_assoc]
          have hor : bitOp .or .i64 (out : Int) (n * room (k + 1)) = (((acc * 256 + n.toNat) * room (k + 1) : Nat) : Int) := by
            have := or_room (k := k) (acc := acc) (n := n.toNat * room (k + 1)) (by omega) (by omega) hb
            rw [hacc] at this
            rw [← hsum, hacc, ← this]
            congr 1
            rw [hnn]
            simp
          simp only [↓reduceIte, go_sem, hlast, hr, hkk, f5, f6, f7, hor, e3]
          refine rnd_next (k + 1, (acc * 256 + n.toNat) * room (k + 1), acc * 256 + n.toNat) ⟨by show k + 1 ≤ _; omega, ?_, .inl ⟨by show k + 1 < _; omega, rfl, ?_⟩⟩ (by show ps.length - (k + 1) < _; omega) ?_ rfl
          · show (acc * 256 + n.toNat) * room (k + 1) < _
            rw [← hsum]
            have hk4 : k = 0 ∨ k = 1 ∨ k = 2 := by omega
            rcases hk4 with rfl | rfl | rfl <;> simp only [room] at hacc hnn ⊢ <;> omega
          · show looseGo (ps.drop (k + 1)) _ _ = G
            rw [List.drop_eq_getElem_cons hlt2]
            exact hgo
          · simp only [↓reduceIte, go_sem]
  · simp only [↓reduceIte, go_sem, e3, hlt]
    refine go 100 (fun _ => false) mixed ?_
    simp only [↓reduceIte, go_sem]
    rcases hinv with ⟨h, _⟩ | ⟨_, hgo⟩
    · exact absurd h hlt
    · have hgo : some out = G := hgo
      rw [← hgo] at hR
      simp only [hR]
      exact fin rfl rfl
end Go.Proofs.GoC
