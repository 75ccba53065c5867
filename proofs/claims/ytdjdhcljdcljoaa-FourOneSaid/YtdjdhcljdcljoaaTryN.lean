/-
  What the law FourOne computes: true, for all numbers. No claim by itself.
-/
import Derived.Test.YtdjdhcljdcljoaaTryM
namespace Go.Proofs.TryC
open Go Go.Proofs.SL
set_option linter.unusedSimpArgs false
set_option linter.unusedVariables false
set_option maxRecDepth 10000
set_option maxHeartbeats 1000000

/-- The lowest digits of a number, in a base. -/
def digs (b : Nat) (t : List UInt8) : Nat → Nat → List UInt8
  | 0, _ => []
  | i + 1, n => t.getD (n / b ^ i % b) 0 :: digs b t i n

theorem digs_len (b : Nat) (t : List UInt8) (n : Nat) : ∀ i, (digs b t i n).length = i
  | 0 => rfl
  | i + 1 => by simp [digs, digs_len b t n i]

theorem digs_val (b : Nat) (hb : 1 ≤ b) (t : List UInt8) (ht : ∀ d, d < b → digitV (t.getD d 0).toNat = d) (n : Nat) :
    ∀ i m, digF b (digs b t i n) (sat m : Nat) = some ((sat (m * b ^ i + n % b ^ i) : Nat) : Int)
  | 0, m => by simp [digs, digF, Nat.mod_one]
  | i + 1, m => by
    have hd : n / b ^ i % b < b := Nat.mod_lt _ (by omega)
    have e : digs b t (i + 1) n = [t.getD (n / b ^ i % b) 0] ++ digs b t i n := rfl
    rw [e, digF_app, digF_one b _ _ (n / b ^ i % b) (ht _ hd) (by omega) m rfl b rfl hb]
    simp only
    rw [digs_val b hb t ht n i (m * b + n / b ^ i % b)]
    have e1 : n % b ^ (i + 1) = n % b ^ i + b ^ i * (n / b ^ i % b) := Nat.mod_pow_succ
    have e2 : (m * b + n / b ^ i % b) * b ^ i + n % b ^ i = m * b ^ (i + 1) + n % b ^ (i + 1) := by
      rw [e1, Nat.add_mul, Nat.pow_succ, Nat.mul_comm (b ^ i) b, Nat.mul_assoc, Nat.mul_comm (n / b ^ i % b) (b ^ i)]
      omega
    rw [e2]

def tabH : List UInt8 := [48, 49, 50, 51, 52, 53, 54, 55, 56, 57, 97, 98, 99, 100, 101, 102]
def tabO : List UInt8 := [48, 49, 50, 51, 52, 53, 54, 55]

theorem tabH_ok : ∀ d, d < 16 → digitV (tabH.getD d 0).toNat = d := by decide
theorem tabO_ok : ∀ d, d < 8 → digitV (tabO.getD d 0).toNat = d := by decide

theorem digs_dot (b : Nat) (hb : 1 ≤ b) (t : List UInt8) (ht : ∀ d, d < b → t.getD d 0 ≠ 46) (n : Nat) : ∀ i, ∀ c ∈ digs b t i n, c ≠ 46
  | 0 => by simp [digs]
  | i + 1 => by
    intro c hc
    simp only [digs, List.mem_cons] at hc
    rcases hc with rfl | hc
    · exact ht _ (Nat.mod_lt _ (by omega))
    · exact digs_dot b hb t ht n i c hc

theorem part_hex (n : Nat) (h : n < 16 ^ 12) : partF ([48, 120] ++ digs 16 tabH 12 n) = some ((sat n : Nat) : Int) := by
  have := digs_val 16 (by omega) tabH tabH_ok n 12 0
  rw [Nat.zero_mul, Nat.zero_add, Nat.mod_eq_of_lt h] at this
  show (if (48 : UInt8) = 48 then (if (120 : UInt8) = 120 ∨ (120 : UInt8) = 88 then digF 16 (digs 16 tabH 12 n) 0 else digF 8 (120 :: digs 16 tabH 12 n) 0) else digF 10 (48 :: 120 :: digs 16 tabH 12 n) 0) = _
  rw [if_pos rfl, if_pos (.inl rfl)]
  exact this

theorem tabO_no : ∀ d, d < 8 → tabO.getD d 0 ≠ 120 ∧ tabO.getD d 0 ≠ 88 := by decide

theorem part_oct (n : Nat) (h : n < 8 ^ 12) : partF ([48] ++ digs 8 tabO 12 n) = some ((sat n : Nat) : Int) := by
  have := digs_val 8 (by omega) tabO tabO_ok n 12 0
  rw [Nat.zero_mul, Nat.zero_add, Nat.mod_eq_of_lt h] at this
  have hno := tabO_no (n / 8 ^ 11 % 8) (Nat.mod_lt _ (by omega))
  show (if (48 : UInt8) = 48 then (if tabO.getD (n / 8 ^ 11 % 8) 0 = 120 ∨ tabO.getD (n / 8 ^ 11 % 8) 0 = 88 then digF 16 (digs 8 tabO 11 n) 0 else digF 8 (digs 8 tabO 12 n) 0) else digF 10 (48 :: digs 8 tabO 12 n) 0) = _
  rw [if_pos rfl, if_neg (by intro h; rcases h with h | h; exact hno.1 h; exact hno.2 h)]
  exact this

def oneV (n : Nat) : PV := if n < 4294967296 then .tup [.int .u32 (n : Int), .int .i64 2] else .tup [.int .u32 0, .int .i64 1]

theorem loose1 (p : List UInt8) (n : Nat) (h : partF p = some ((sat n : Nat) : Int)) : looseV [p] = oneV n := by
  unfold looseV oneV
  have he : endsF [p] = true := by unfold endsF; show ((partF p).isSome || _) = true; rw [h]; rfl
  rw [if_pos he]
  have hr : room 0 = 4294967296 := rfl
  simp only [List.length_cons, List.length_nil, Nat.reduceAdd, Nat.reduceLT, if_false, looseGo, h]
  by_cases hn : n < 4294967296
  · rw [sat_lt (by omega), if_neg (by rw [hr]; omega), if_pos hn]
    have e : 0 * room 0 + ((n : Int)).toNat = n := by rw [Int.toNat_natCast, hr]; omega
    simp only [e]
    rw [nw_u32 (by omega) (by omega)]
  · have hs : 4294967296 ≤ sat n := by unfold sat; split <;> omega
    rw [if_pos (by rw [hr]; omega), if_neg hn]

theorem pieces1 (l : List UInt8) (h : ∀ b ∈ l, b ≠ 46) (hl : l ≠ []) : piecesF l = [l] := by
  refine pieces_of _ _ ?_ hl
  rw [split_end _ _ h]; rfl

theorem ofNat_byte (b : UInt8) : UInt8.ofNat b.toNat = b := UInt8.ofNat_toNat

theorem c4 (m : Nat) (_ : m ≤ 18446744073709551615) : PCall Try.prog 4 [.int .u64 m] (.bool true) := by
  intro H
  refine scall_of (ord := fun _ => []) (rs := [2]) Try.func4 rfl (by kernel_rfl) (by kernel_rfl) (by kernel_rfl) Try.ntmps4 fun hb _ => go 100 (fun t => false) mixed ?_
  simp (disch := omega) only [↓reduceIte, go_sem]
  have hn : m % 8589934592 < 8589934592 := Nat.mod_lt _ (by omega)
  generalize m % 8589934592 = n at *
  refine (c10 n (by omega)).on (go 100 (fun t => false) mixed ?_)
  have ln := dec_short n (by omega)
  simp (disch := omega) only [↓reduceIte, go_sem]
  refine (c7 _ (by omega)).on (go 17 (fun t => false) mixed ?_)
  rw [pieces1 _ (dec_no _) (decF_ne _), loose1 _ n (part_dec n)]
  obtain ⟨a, k, hv, h1, h2⟩ : ∃ a k : Nat, oneV n = .tup [.int .u32 a, .int .i64 k] ∧ (n < 4294967296 → a = n ∧ k = 2) ∧ (¬ n < 4294967296 → a = 0 ∧ k = 1) := by
    unfold oneV
    by_cases h : n < 4294967296
    · exact ⟨n, 2, if_pos h, fun _ => ⟨rfl, rfl⟩, fun h' => absurd h h'⟩
    · exact ⟨0, 1, if_neg h, fun h' => absurd h' h, fun _ => ⟨rfl, rfl⟩⟩
  rw [hv]
  simp (disch := omega) only [↓reduceIte, go_sem]
  refine runs_cut [true, false, false, true, true, true] (fun σ H' => σ = slots 104 [.int .u64 n, .any, .any, .int .u32 a, .int .i64 k, .int .i64 k] ∧ H = H') (by rfl) ?_ ?_
  · refine go 100 (fun t => false) mixed ?_
    by_cases h : n < 4294967296
    · obtain ⟨rfl, rfl⟩ := h1 h
      simp (disch := omega) only [↓reduceIte, go_sem, show ¬ 4294967296 ≤ a by omega]
      exact mid_to ⟨rfl, rfl⟩
    · obtain ⟨rfl, rfl⟩ := h2 h
      simp (disch := omega) only [↓reduceIte, go_sem, show 4294967296 ≤ n by omega]
      exact mid_to ⟨rfl, rfl⟩
  rintro _ _ ⟨rfl, rfl⟩
  refine go 1 (fun t => false) mixed ?_
  simp (disch := omega) only [↓reduceIte, go_sem]
  refine runs_cut [true, false, false, true, true] (fun σ H' => σ = slots 104 [.int .u64 n, .any, .any, .int .u32 a, .int .i64 k] ∧ H = H') (by rfl) ?_ ?_
  · refine go 100 (fun t => false) mixed ?_
    by_cases h : n < 4294967296
    · obtain ⟨rfl, rfl⟩ := h1 h
      simp (disch := omega) only [↓reduceIte, go_sem]
      exact mid_to ⟨rfl, rfl⟩
    · obtain ⟨rfl, rfl⟩ := h2 h
      simp (disch := omega) only [↓reduceIte, go_sem]
      exact mid_to ⟨rfl, rfl⟩
  rintro _ _ ⟨rfl, rfl⟩
  refine go 100 (fun t => false) mixed ?_
  simp (disch := omega) only [↓reduceIte, go_sem]
  refine runs_loopA (fun x : Nat => x ≤ 12) (fun x => 12 - x)
    [true, false, false, true, true, false, true, true, true, true, true]
    (fun x => slots 104 [.int .u64 n, .any, .any, .int .u32 a, .int .i64 k, .any, .str (bs (digs 16 tabH x n)), .str (bs (digs 8 tabO x n)), .int .u64 (n / 16 ^ x : Nat), .int .u64 (n / 8 ^ x : Nat), .int .i64 x])
    (fun x => H) (by rfl) 0 (by omega) ?_ rfl ?_
  · simp only [Nat.pow_zero, Nat.div_one]; rfl
  rintro i hi
  refine go 100 (fun t => false) mixed ?_
  by_cases hlt : i < 12
  · have b1 : n / 16 ^ i ≤ n := Nat.div_le_self _ _
    have b2 : n / 8 ^ i ≤ n := Nat.div_le_self _ _
    have b3 : n / 16 ^ (i + 1) ≤ n := Nat.div_le_self _ _
    have b4 : n / 8 ^ (i + 1) ≤ n := Nat.div_le_self _ _
    have w1 := nw_u64 (x := ((n / 16 ^ (i + 1) : Nat) : Int)) (Int.natCast_nonneg _) (by have := Int.ofNat_le.mpr b3; generalize ((n / 16 ^ (i + 1) : Nat) : Int) = z at *; omega)
    have w2 := nw_u64 (x := ((n / 8 ^ (i + 1) : Nat) : Int)) (Int.natCast_nonneg _) (by have := Int.ofNat_le.mpr b4; generalize ((n / 8 ^ (i + 1) : Nat) : Int) = z at *; omega)
    have s1 : n / 16 ^ i / 16 = n / 16 ^ (i + 1) := by rw [Nat.div_div_eq_div_mul, Nat.pow_succ]
    have s2 : n / 8 ^ i / 8 = n / 8 ^ (i + 1) := by rw [Nat.div_div_eq_div_mul, Nat.pow_succ]
    have d1 : ∀ x, (List.getD [48, 49, 50, 51, 52, 53, 54, 55, 56, 57, 97, 98, 99, 100, 101, 102] x 0 : UInt8) = tabH.getD x 0 := fun _ => rfl
    have d2 : ∀ x, (List.getD [48, 49, 50, 51, 52, 53, 54, 55] x 0 : UInt8) = tabO.getD x 0 := fun _ => rfl
    have hs1 : tabH.getD (n / 16 ^ i % 16) 0 :: digs 16 tabH i n = digs 16 tabH (i + 1) n := rfl
    have hs2 : tabO.getD (n / 8 ^ i % 8) 0 :: digs 8 tabO i n = digs 8 tabO (i + 1) n := rfl
    have k1 : n / 16 ^ i % 16 < 16 := Nat.mod_lt _ (by omega)
    have k2 : n / 8 ^ i % 8 < 8 := Nat.mod_lt _ (by omega)
    simp (disch := omega) only [↓reduceIte, go_sem, hlt, d1, d2, k1, k2, s1, s2, ofNat_byte, byte_lt, hs1, hs2, digs_len, w1, w2]
    exact ⟨by omega, by omega, rnd_next (i + 1) (by omega) (by omega) rfl rfl⟩
  · obtain rfl : i = 12 := by omega
    simp (disch := omega) only [↓reduceIte, go_sem, hlt]
    refine go 100 (fun t => false) mixed ?_
    have l1 := digs_len 16 tabH n 12
    have l2 := digs_len 8 tabO n 12
    simp (disch := omega) only [↓reduceIte, go_sem, digs_len]
    have f1 : ∀ c ∈ 48 :: 120 :: digs 16 tabH 12 n, c ≠ 46 := by
      intro c hc
      simp only [List.mem_cons] at hc
      rcases hc with rfl | rfl | hc
      · decide
      · decide
      · exact digs_dot 16 (by omega) tabH (by decide) n 12 c hc
    have f2 : ∀ c ∈ 48 :: digs 8 tabO 12 n, c ≠ 46 := by
      intro c hc
      simp only [List.mem_cons] at hc
      rcases hc with rfl | hc
      · decide
      · exact digs_dot 8 (by omega) tabO (by decide) n 12 c hc
    refine (c7 (48 :: 120 :: digs 16 tabH 12 n) (by simp; omega)).on (go 100 (fun t => false) mixed ?_)
    rw [pieces1 _ f1 (by simp), loose1 (48 :: 120 :: digs 16 tabH 12 n) n (part_hex n (by omega)), hv]
    simp (disch := omega) only [↓reduceIte, go_sem, digs_len]
    refine (c7 (48 :: digs 8 tabO 12 n) (by simp; omega)).on (go 100 (fun t => false) mixed ?_)
    rw [pieces1 _ f2 (by simp), loose1 (48 :: digs 8 tabO 12 n) n (part_oct n (by omega)), hv]
    simp (disch := omega) only [↓reduceIte, go_sem]
    refine c9.on (go 100 (fun t => false) mixed ?_)
    simp (disch := omega) only [↓reduceIte, go_sem]
    exact fin rfl rfl
end Go.Proofs.TryC
