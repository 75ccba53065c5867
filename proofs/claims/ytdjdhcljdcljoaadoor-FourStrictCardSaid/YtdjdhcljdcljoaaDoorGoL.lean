/-
  How the digits of a number are read as a part. No claim by itself.
-/
import Derived.Test.YtdjdhcljdcljoaaDoorGoK
namespace Go.Proofs.GoC
open Go Go.Proofs.SL
set_option linter.unusedSimpArgs false
set_option linter.unusedVariables false
set_option maxRecDepth 10000

def sat (n : Nat) : Nat := if 4294967296 < n then 4294967296 else n

theorem digF_app (base : Int) : ∀ (l m : List UInt8) (n : Int), digF base (l ++ m) n = match digF base l n with
    | some k => digF base m k
    | none => none
  | [], m, n => rfl
  | b :: l, m, n => by
    simp only [List.cons_append, digF]
    split
    · rfl
    · exact digF_app base l m _

theorem dig_val (r : Nat) (h : r < 10) : digitV (UInt8.ofNat (48 + r)).toNat = (r : Int) := by
  have : (UInt8.ofNat (48 + r)).toNat = 48 + r := by rw [UInt8.toNat_ofNat']; omega
  rw [this]
  unfold digitV
  rw [if_pos (by omega)]
  omega

theorem digF_one (base : Int) (b : UInt8) (n : Int) (v : Nat) (hv : digitV b.toNat = v) (h : (v : Int) < base) (k : Nat) (hn : n = sat k) (b' : Nat) (hb : base = b') (hb1 : 1 ≤ b') : digF base [b] n = some ((sat (k * b' + v) : Nat) : Int) := by
  subst hn hb
  simp only [digF, hv]
  rw [if_neg (by omega)]
  have hk : 4294967296 * 1 ≤ 4294967296 * b' := Nat.mul_le_mul_left _ hb1
  by_cases h1 : 4294967296 < k
  · have h2 : 4294967297 * b' ≤ k * b' := Nat.mul_le_mul_right _ (by omega)
    have e0 : sat k = 4294967296 := if_pos h1
    have e1 : sat (k * b' + v) = 4294967296 := if_pos (by omega)
    rw [e0, e1]
    congr 1
    split
    · rfl
    · rename_i h3
      omega
  · have e0 : sat k = k := if_neg h1
    rw [e0]
    congr 1
    have : ((k * b' + v : Nat) : Int) = (k : Int) * (b' : Int) + v := by rw [Int.natCast_add, Int.natCast_mul]
    rw [← this]
    unfold sat
    split <;> split <;> omega

theorem dig_dec (n : Nat) : digF 10 (decF n) 0 = some ((sat n : Nat) : Int) := by
  induction n using Nat.strongRecOn with
  | _ n ih =>
    rw [decF.eq_1]
    split
    · rename_i h
      have := digF_one 10 (UInt8.ofNat (48 + n % 10)) 0 (n % 10) (dig_val _ (by omega)) (by omega) 0 rfl 10 rfl (by omega)
      rw [this]
      congr 2
      unfold sat
      split <;> split <;> omega
    · rename_i h
      rw [digF_app, ih (n / 10) (by omega)]
      have := digF_one 10 (UInt8.ofNat (48 + n % 10)) (sat (n / 10) : Nat) (n % 10) (dig_val _ (by omega)) (by omega) (n / 10) rfl 10 rfl (by omega)
      simp only [this]
      congr 3
      omega

theorem decF_digits (n : Nat) : ∀ b ∈ decF n, 48 ≤ b.toNat ∧ b.toNat ≤ 57 := by
  have one : ∀ r, r < 10 → 48 ≤ (UInt8.ofNat (48 + r)).toNat ∧ (UInt8.ofNat (48 + r)).toNat ≤ 57 := fun r hr => by rw [UInt8.toNat_ofNat']; omega
  induction n using Nat.strongRecOn with
  | _ n ih =>
    rw [decF.eq_1]
    split
    · intro b hb; simp only [List.mem_singleton] at hb; subst hb; exact one _ (by omega)
    · intro b hb
      simp only [List.mem_append, List.mem_singleton] at hb
      rcases hb with hb | rfl
      · exact ih (n / 10) (by omega) b hb
      · exact one _ (by omega)

theorem decF_head (n : Nat) (h : 0 < n) : ∃ a t, decF n = a :: t ∧ a ≠ 48 := by
  induction n using Nat.strongRecOn with
  | _ n ih =>
    rw [decF.eq_1]
    split
    · rename_i h10
      refine ⟨_, [], rfl, fun e => ?_⟩
      have := congrArg UInt8.toNat e
      rw [UInt8.toNat_ofNat'] at this
      have h48 : (48 : UInt8).toNat = 48 := rfl
      omega
    · obtain ⟨a, t, e, ha⟩ := ih (n / 10) (by omega) (by omega)
      rw [e]
      exact ⟨a, _, rfl, ha⟩

theorem decF_ne (n : Nat) : decF n ≠ [] := by
  rw [decF.eq_1]; split <;> simp

theorem part_dec (n : Nat) : partF (decF n) = some ((sat n : Nat) : Int) := by
  rw [← dig_dec]
  rcases Nat.eq_zero_or_pos n with rfl | h
  · rw [decF.eq_1]; rfl
  · obtain ⟨a, t, e, ha⟩ := decF_head n h
    rw [e]
    cases t with
    | nil => rfl
    | cons b t => simp [partF, ha]

theorem split_run (sep : UInt8) : ∀ (l m : List UInt8) (acc : List (List UInt8)) (cur : List UInt8), (∀ b ∈ l, b ≠ sep) → splitA sep (l ++ m) acc cur = splitA sep m acc (cur ++ l)
  | [], m, acc, cur, h => by simp
  | b :: l, m, acc, cur, h => by
    simp only [List.cons_append, splitA]
    rw [if_neg (h b (by simp)), split_run sep l m acc _ (fun c hc => h c (List.mem_cons_of_mem _ hc))]
    simp

theorem dec_no (n : Nat) : ∀ b ∈ decF n, b ≠ 46 := fun b hb e => by
  have := decF_digits n b hb
  subst e
  have h : (46 : UInt8).toNat = 46 := rfl
  omega

/-- The parts of two numbers with a dot between. -/
theorem split_2 (x : Nat) (l : List UInt8) : splitA 46 (decF x ++ 46 :: l) [] [] = splitA 46 l [decF x] [] := by
  rw [split_run 46 _ _ _ _ (dec_no x)]
  simp [splitA]
theorem split_3 (x y : Nat) (l : List UInt8) : splitA 46 (decF x ++ 46 :: (decF y ++ 46 :: l)) [] [] = splitA 46 l [decF x, decF y] [] := by
  rw [split_2, split_run 46 _ _ _ _ (dec_no y)]
  simp [splitA]
theorem split_end (acc : List (List UInt8)) (l : List UInt8) (h : ∀ b ∈ l, b ≠ 46) : splitA 46 l acc [] = acc ++ [l] := by
  have := split_run 46 l [] acc [] h
  rw [List.append_nil] at this
  rw [this]
  simp [splitA]

end Go.Proofs.GoC
