/-
  Bits of addresses: the plain law of layer 5. No claim by itself.
-/
import Derived.Test.YtipbijklplfkhaaGreatDoorGoAddrC
namespace Go.Proofs.GoC
open Go Go.Proofs.SL
set_option linter.unusedSimpArgs false
set_option linter.unusedVariables false
set_option maxRecDepth 10000
set_option maxHeartbeats 4000000

/-- Bit q of bytes, the highest one of the first byte first. -/
def bt (l : List Nat) (q : Nat) : Bool := (l.getD (q / 8) 0).testBit (7 - q % 8)
/-- A byte, one of whose bits is made so. -/
def putB (b k : Nat) (v : Bool) : Nat := if b.testBit k = v then b else if v then b + 2 ^ k else b - 2 ^ k
def setL (l : List Nat) (p : Nat) (v : Bool) : List Nat := l.set (p / 8) (putB (l.getD (p / 8) 0) (7 - p % 8) v)
/-- The bits from one on, so many rounds long. -/
def fillF (l : List Nat) (from' : Nat) (v : Bool) : Nat → List Nat
  | 0 => l
  | i + 1 => if from' ≤ i then setL (fillF l from' v i) i v else fillF l from' v i

theorem putB_fact : ∀ b : Fin 256, ∀ k : Fin 8, ∀ v : Bool, putB b.val k.val v ≤ 255 ∧ ∀ j : Fin 8, (putB b.val k.val v).testBit j.val = if j = k then v else b.val.testBit j.val := by decide +kernel
theorem putB_le {b k : Nat} (hb : b ≤ 255) (hk : k < 8) (v : Bool) : putB b k v ≤ 255 := (putB_fact ⟨b, by omega⟩ ⟨k, hk⟩ v).1
theorem putB_bit {b k j : Nat} (hb : b ≤ 255) (hk : k < 8) (hj : j < 8) (v : Bool) : (putB b k v).testBit j = if j = k then v else b.testBit j := by
  have := (putB_fact ⟨b, by omega⟩ ⟨k, hk⟩ v).2 ⟨j, hj⟩
  simpa only [Fin.mk.injEq] using this

theorem setL_len (l : List Nat) (p : Nat) (v : Bool) : (setL l p v).length = l.length := List.length_set
theorem setL_le {l : List Nat} (hle : ∀ b ∈ l, b ≤ 255) (p : Nat) (v : Bool) : ∀ b ∈ setL l p v, b ≤ 255 := by
  intro b hb
  rcases List.mem_or_eq_of_mem_set hb with h | h
  · exact hle b h
  · rw [h]; exact putB_le (mem_get8 hle _) (by omega) v
theorem setL_bt {l : List Nat} (hl : l.length = 16) (hle : ∀ b ∈ l, b ≤ 255) {p q : Nat} (hp : p < 128) (hq : q < 128) (v : Bool) : bt (setL l p v) q = if q = p then v else bt l q := by
  unfold bt setL
  by_cases h : p / 8 = q / 8
  · rw [h]
    have e : (l.set (q / 8) (putB (l.getD (q / 8) 0) (7 - p % 8) v)).getD (q / 8) 0 = putB (l.getD (q / 8) 0) (7 - p % 8) v := by
      simp [List.getD_eq_getElem?_getD, show q / 8 < l.length by omega]
    rw [e, putB_bit (mem_get8 hle _) (by omega) (by omega)]
    by_cases hqp : q = p
    · subst hqp; simp
    · rw [if_neg (by omega), if_neg hqp]
  · rw [if_neg (fun e => h (by rw [e]))]
    congr 1
    simp only [List.getD_eq_getElem?_getD]
    rw [List.getElem?_set_ne h]

theorem fillF_len (l : List Nat) (n : Nat) (v : Bool) : ∀ i, (fillF l n v i).length = l.length
  | 0 => rfl
  | i + 1 => by
    unfold fillF
    split
    · rw [setL_len, fillF_len l n v i]
    · exact fillF_len l n v i
theorem fillF_le {l : List Nat} (hle : ∀ b ∈ l, b ≤ 255) (n : Nat) (v : Bool) : ∀ i, ∀ b ∈ fillF l n v i, b ≤ 255
  | 0 => hle
  | i + 1 => by
    unfold fillF
    split
    · exact setL_le (fillF_le hle n v i) i v
    · exact fillF_le hle n v i
theorem fillF_bt {l : List Nat} (hl : l.length = 16) (hle : ∀ b ∈ l, b ≤ 255) (n : Nat) (v : Bool) {q : Nat} (hq : q < 128) : ∀ i, i ≤ 128 → bt (fillF l n v i) q = if n ≤ q ∧ q < i then v else bt l q
  | 0, _ => by rw [if_neg (by omega)]; rfl
  | i + 1, hi => by
    have ih := fillF_bt hl hle n v hq i (by omega)
    unfold fillF
    split
    · rename_i hn
      rw [setL_bt ((fillF_len l n v i).trans hl) (fillF_le hle n v i) (by omega) hq, ih]
      by_cases h : q = i
      · rw [if_pos h, if_pos (by omega)]
      · rw [if_neg h]
        by_cases h2 : n ≤ q ∧ q < i
        · rw [if_pos h2, if_pos (by omega)]
        · rw [if_neg h2, if_neg (by omega)]
    · rename_i hn
      rw [ih]
      by_cases h2 : n ≤ q ∧ q < i
      · rw [if_pos h2, if_pos (by omega)]
      · rw [if_neg h2, if_neg (by omega)]

theorem byte_ext {a b : Nat} (ha : a ≤ 255) (hb : b ≤ 255) (h : ∀ j, j < 8 → a.testBit j = b.testBit j) : a = b := by
  apply Nat.eq_of_testBit_eq
  intro j
  rcases Nat.lt_or_ge j 8 with hj | hj
  · exact h j hj
  · have h2 : (2 : Nat) ^ 8 ≤ 2 ^ j := Nat.pow_le_pow_right (by omega) hj
    rw [Nat.testBit_lt_two_pow (by omega), Nat.testBit_lt_two_pow (by omega)]
/-- Bytes of which all bits are the same. -/
theorem bt_ext {a b : List Nat} (ha : a.length = 16) (hb : b.length = 16) (hla : ∀ x ∈ a, x ≤ 255) (hlb : ∀ x ∈ b, x ≤ 255) (h : ∀ q, q < 128 → bt a q = bt b q) : a = b := by
  apply List.ext_getElem (by omega)
  intro i h1 h2
  have e : ∀ (l : List Nat) (hi : i < l.length), l[i] = l.getD i 0 := fun l hi => by simp [List.getD_eq_getElem?_getD, hi]
  rw [e a h1, e b h2]
  refine byte_ext (mem_get8 hla i) (mem_get8 hlb i) fun j hj => ?_
  have := h (8 * i + (7 - j)) (by omega)
  unfold bt at this
  rw [show (8 * i + (7 - j)) / 8 = i by omega, show 7 - (8 * i + (7 - j)) % 8 = j by omega] at this
  exact this

theorem bitA_bt {f : Int} {l : List Nat} {q : Nat} (h : q < bitsA f) : bitA f l q = (bt l q).toNat := by
  unfold bitA bt
  rw [if_neg (by omega), Nat.testBit_eq_decide_div_mod_eq]
  rw [show ((q : Int)).toNat = q from rfl]
  rcases Nat.mod_two_eq_zero_or_one (l.getD (q / 8) 0 / 2 ^ (7 - q % 8)) with e | e <;> rw [e] <;> rfl

/-! Bytes, built bit by bit. -/
def byteOf (g : Nat → Bool) (j : Nat) : Nat → Nat
  | 0 => 0
  | k + 1 => byteOf g j k * 2 + (g (8 * j + k)).toNat
theorem byteOf_lt (g : Nat → Bool) (j : Nat) : ∀ k, byteOf g j k < 2 ^ k
  | 0 => by simp [byteOf]
  | k + 1 => by
    have := byteOf_lt g j k
    have h2 : (g (8 * j + k)).toNat ≤ 1 := Bool.toNat_le _
    rw [byteOf, Nat.pow_succ]; omega
theorem byte8 : ∀ b0 b1 b2 b3 b4 b5 b6 b7 : Bool, ∀ t : Fin 8, (((((((((0 * 2 + b0.toNat) * 2 + b1.toNat) * 2 + b2.toNat) * 2 + b3.toNat) * 2 + b4.toNat) * 2 + b5.toNat) * 2 + b6.toNat) * 2 + b7.toNat)).testBit (7 - t.val) = [b0, b1, b2, b3, b4, b5, b6, b7].getD t.val false := by decide +kernel
theorem byteOf_bit (g : Nat → Bool) (j t : Nat) (ht : t < 8) : (byteOf g j 8).testBit (7 - t) = g (8 * j + t) := by
  have := byte8 (g (8 * j + 0)) (g (8 * j + 1)) (g (8 * j + 2)) (g (8 * j + 3)) (g (8 * j + 4)) (g (8 * j + 5)) (g (8 * j + 6)) (g (8 * j + 7)) ⟨t, ht⟩
  refine this.trans ?_
  match t, ht with
  | 0, _ => rfl
  | 1, _ => rfl
  | 2, _ => rfl
  | 3, _ => rfl
  | 4, _ => rfl
  | 5, _ => rfl
  | 6, _ => rfl
  | 7, _ => rfl
/-- The bytes where so many bits have come. -/
def builtF (g : Nat → Bool) (i : Nat) : List Nat := (List.range 16).map fun j => byteOf g j (min 8 (i - 8 * j))
theorem builtF_len (g : Nat → Bool) (i : Nat) : (builtF g i).length = 16 := by simp [builtF]
theorem builtF_get (g : Nat → Bool) (i : Nat) {j : Nat} (hj : j < 16) : (builtF g i).getD j 0 = byteOf g j (min 8 (i - 8 * j)) := by
  simp [builtF, List.getD_eq_getElem?_getD, hj]
theorem builtF_le (g : Nat → Bool) (i : Nat) : ∀ b ∈ builtF g i, b ≤ 255 := by
  intro b hb
  obtain ⟨j, hj, rfl⟩ := List.mem_map.mp hb
  have h1 := byteOf_lt g j (min 8 (i - 8 * j))
  have h2 : (2 : Nat) ^ (min 8 (i - 8 * j)) ≤ 2 ^ 8 := Nat.pow_le_pow_right (by omega) (Nat.min_le_left _ _)
  omega
theorem builtF_step (g : Nat → Bool) {i : Nat} (hi : i < 128) : (builtF g i).set (i / 8) ((builtF g i).getD (i / 8) 0 * 2 + (g i).toNat) = builtF g (i + 1) := by
  apply List.ext_getElem (by rw [List.length_set, builtF_len, builtF_len])
  intro j h1 h2
  rw [List.length_set, builtF_len] at h1
  rw [List.getElem_set]
  split
  · rename_i e
    subst e
    rw [builtF_get g i h1]
    have e2 : (builtF g (i + 1))[i / 8] = byteOf g (i / 8) (min 8 (i + 1 - 8 * (i / 8))) := by simp [builtF]
    rw [e2, show min 8 (i + 1 - 8 * (i / 8)) = min 8 (i - 8 * (i / 8)) + 1 by omega, byteOf, show 8 * (i / 8) + min 8 (i - 8 * (i / 8)) = i by omega]
  · rename_i e
    have e1 : ∀ k, (builtF g k)[j]'(by rw [builtF_len]; exact h1) = byteOf g j (min 8 (k - 8 * j)) := fun k => by simp [builtF]
    rw [e1, e1, show min 8 (i + 1 - 8 * j) = min 8 (i - 8 * j) by omega]
theorem builtF_bt (g : Nat → Bool) {B q : Nat} (hB : B % 8 = 0) (hq : q < 128) : bt (builtF g B) q = if q < B then g q else false := by
  unfold bt
  rw [builtF_get g B (by omega)]
  by_cases h : q < B
  · rw [if_pos h, show min 8 (B - 8 * (q / 8)) = 8 by omega, byteOf_bit g _ _ (by omega), show 8 * (q / 8) + q % 8 = q by omega]
  · rw [if_neg h, show min 8 (B - 8 * (q / 8)) = 0 by omega]
    simp [byteOf]

/-- Behind an address's bits all are 0. -/
def Tail0 (f : Int) (l : List Nat) : Prop := ∀ q, bitsA f ≤ q → q < 128 → bt l q = false
theorem bits8 (f : Int) : bitsA f % 8 = 0 := by unfold bitsA; split <;> (try split) <;> rfl
theorem z12_bt (l : List Nat) (h4 : l.length = 4) {q : Nat} (hq : 32 ≤ q) (hq2 : q < 128) : bt (l ++ z12) q = false := by
  unfold bt
  have : (l ++ z12).getD (q / 8) 0 = 0 := by
    rw [List.getD_eq_getElem?_getD, List.getElem?_append_right (by omega)]
    have : ∀ k : Nat, (z12[k]?).getD 0 = 0 := by
      intro k
      rcases Nat.lt_or_ge k 12 with hk | hk
      · have : ∀ k : Fin 12, (z12[k.val]?).getD 0 = 0 := by decide
        exact this ⟨k, hk⟩
      · rw [List.getElem?_eq_none (show z12.length ≤ k from hk)]; rfl
    exact this _
  rw [this]; simp
theorem good_tail {a : Int × List Nat} (h : GoodA a) : Tail0 a.1 a.2 := by
  intro q h1 h2
  rcases h.kind with ⟨h4, hz⟩ | h6
  · rw [hz]
    refine z12_bt _ (by rw [List.length_take, h.len]; rfl) ?_ h2
    have : bitsA a.1 = 32 := by unfold bitsA; rw [if_pos h4]
    omega
  · have : bitsA a.1 = 128 := by unfold bitsA; rw [if_neg (by omega), if_pos h6]
    omega

/-- What the document says of it: the same, of an address whose tail is 0. -/
theorem built_fill {f : Int} {l : List Nat} (hl : l.length = 16) (hle : ∀ b ∈ l, b ≤ 255) (ht : Tail0 f l) (n : Nat) (v : Bool) :
    builtF (fun q => if n ≤ q then v else bt l q) (bitsA f) = fillF l n v (bitsA f) := by
  have hB := bitsA_le f
  refine bt_ext (builtF_len _ _) ((fillF_len l n v _).trans hl) (builtF_le _ _) (fillF_le hle n v _) fun q hq => ?_
  rw [builtF_bt _ (bits8 f) hq, fillF_bt hl hle n v hq _ hB]
  by_cases h1 : q < bitsA f
  · rw [if_pos h1]
    by_cases h2 : n ≤ q
    · rw [if_pos h2, if_pos ⟨h2, h1⟩]
    · rw [if_neg h2, if_neg (fun h => h2 h.1)]
  · rw [if_neg h1, if_neg (fun h => h1 h.2), ht q (by omega) hq]

theorem fill_tail {f : Int} {l : List Nat} (hl : l.length = 16) (hle : ∀ b ∈ l, b ≤ 255) (ht : Tail0 f l) (n : Nat) (v : Bool) : Tail0 f (fillF l n v (bitsA f)) := by
  intro q h1 h2
  rw [fillF_bt hl hle n v h2 _ (bitsA_le f), if_neg (by omega)]
  exact ht q h1 h2
end Go.Proofs.GoC
