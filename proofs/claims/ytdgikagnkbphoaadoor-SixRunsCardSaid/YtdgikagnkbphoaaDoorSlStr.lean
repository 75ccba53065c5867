/-
  SL: ends of functions, and facts of texts of bytes. No claim by itself.
-/
import Derived.Test.YtdgikagnkbphoaaDoorSlSim
import Derived.Laws.RangeAny
import Derived.Laws.RangeString
namespace Go.Proofs.SL
open Go
set_option linter.unusedSimpArgs false
set_option linter.unusedVariables false

theorem fin_drop {H0 L : Heap} {rs : List Nat} {r : PV} {σ : Env} {x : AEx} (hx : x = .normal ∨ x = .ret) (hb : HB H0.length H0) (h : retV σ rs = r) (hr : Bdd H0.length r) : Ends H0 rs (fun r' H' => r' = r ∧ H' = H0) x σ (H0 ++ L) := by
  refine Ends.drop hx hb ?_ ⟨h, rfl⟩
  subst h
  unfold retV at hr
  split at hr
  · intro t ht; simp only [List.mem_singleton] at ht; subst ht; exact hr
  · intro t ht; exact bdd_tup.mp hr _ (List.mem_map.mpr ⟨t, ht, rfl⟩)

/-- The end of a function that gives a slice that it grew. -/
theorem fin_freeze {H0 L : Heap} {Q : PV → Heap → Prop} {σ : Env} {x : AEx} {t i ver off len m : Nat} {tip : Bool} {cs xs : List PV} (hx : x = .normal ∨ x = .ret) (hb : HB H0.length H0) (ht : σ[t]? = some (.buf i ver off len m tip))
    (hi : H0.length ≤ i) (ho : (H0 ++ L)[i]? = some (some (.cells ver cs))) (hfx : flat xs = subCells cs off (len * m)) (hl : xs.length = len) (hm : ∀ x ∈ xs, x.cells.length = m) (hbd : ∀ x ∈ xs, Bdd H0.length x) (h : Q (.sl m xs) H0) :
    Ends H0 [t] Q x σ (H0 ++ L) := by
  have hlt : t < σ.length := by
    rcases Nat.lt_or_ge t σ.length with h | h
    · exact h
    · rw [List.getElem?_eq_none h] at ht; cases ht
  have g := Ghost.freeze (H0 := H0) ht ho hfx hl hm
  have e : (H0 ++ L).set i none = H0 ++ L.set (i - H0.length) none := List.set_append_right _ _ hi
  rw [e] at g
  have hg : (σ.set t (.sl m xs)).getD t .any = .sl m xs := by simp [List.getD_eq_getElem?_getD, hlt]
  have hd := Ends.drop (Q := Q) (rs := [t]) (σ := σ.set t (.sl m xs)) (L := L.set (i - H0.length) none) hx hb (by intro t' ht'; simp only [List.mem_singleton] at ht'; subst ht'; rw [hg]; exact bdd_sl.mpr hbd) (by simp only [retV]; rw [hg]; exact h)
  obtain ⟨h1, σ', H', g', hq⟩ := hd
  exact ⟨h1, σ', H', g.trans g', hq⟩

/-- Texts as values. -/
def strs (l : List (List UInt8)) : List PV := l.map fun s => .str (bs s)

@[go_sem] theorem strs_len {l : List (List UInt8)} : (strs l).length = l.length := List.length_map ..
@[go_sem] theorem flat_strs (l : List (List UInt8)) : flat (strs l) = strs l := by
  induction l with
  | nil => rfl
  | cons a l ih => simp only [strs, flat, List.map_cons, List.flatMap_cons, PV.cells] at ih ⊢; rw [ih]; rfl
theorem strs_cells {l : List (List UInt8)} : ∀ x ∈ strs l, x.cells.length = 1 := by
  intro x hx
  obtain ⟨s, _, rfl⟩ := List.mem_map.mp hx
  rfl
theorem strs_bdd {l : List (List UInt8)} {n : Nat} : ∀ x ∈ strs l, Bdd n x := by
  intro x hx
  obtain ⟨s, _, rfl⟩ := List.mem_map.mp hx
  exact .str _
theorem strs_getD {l : List (List UInt8)} {k : Nat} (h : k < l.length) : (strs l).getD k .any = .str (bs (l.getD k [])) := by
  simp [strs, List.getD_eq_getElem?_getD, h]
theorem strs_get_last {l : List (List UInt8)} {c : List UInt8} : (strs (l ++ [c])).getD l.length .any = .str (bs c) := by
  simp [strs, List.getD_eq_getElem?_getD]
theorem strs_set_last {l : List (List UInt8)} {c d : List UInt8} : (strs (l ++ [c])).set l.length (.str (bs d)) = strs (l ++ [d]) := by
  simp [strs]
theorem strs_take {l : List (List UInt8)} {n : Nat} : (strs l).take n = strs (l.take n) := by simp [strs, List.map_take]
theorem strs_drop {l : List (List UInt8)} {n : Nat} : (strs l).drop n = strs (l.drop n) := by simp [strs, List.map_drop]
theorem strs_append {a b : List (List UInt8)} : strs a ++ strs b = strs (a ++ b) := by simp [strs]

theorem getD_of {l : List UInt8} {k : Nat} (h : k < l.length) : l.getD k 0 = l[k] := by simp [List.getD_eq_getElem?_getD, h]

theorem getDL_of {l : List (List UInt8)} {k : Nat} (h : k < l.length) : l.getD k [] = l[k] := by simp [List.getD_eq_getElem?_getD, h]

theorem one_at {l : List UInt8} {k : Nat} (h : k < l.length) : List.drop k (List.take (k + 1) l) = [l.getD k 0] := by
  rw [List.drop_take, List.drop_eq_getElem_cons h, getD_of h, Nat.add_sub_cancel_left]
  simp only [List.take_succ_cons, List.take_zero]

theorem dec_low {l : List UInt8} {k : Nat} (hk : k < l.length) (h : (l.getD k 0).toNat < 128) : Utf8.decode (bs l) k = ((l.getD k 0).toNat, 1) := by
  have hs : k < (bs l).size := by rw [bs_size]; exact hk
  have e : (bs l)[k]'hs = l.getD k 0 := by rw [getD_of hk]; rfl
  have := decode_ascii (bs l) k hs (by rw [e]; exact h)
  rw [this, e]

theorem dec_high {l : List UInt8} {k : Nat} (hk : k < l.length) (h : 128 ≤ (l.getD k 0).toNat) : 128 ≤ (Utf8.decode (bs l) k).1 ∧ 1 ≤ (Utf8.decode (bs l) k).2 := by
  have hs : k < (bs l).size := by rw [bs_size]; exact hk
  have e : (bs l)[k]'hs = l.getD k 0 := by rw [getD_of hk]; rfl
  exact decode_high (bs l) k hs (by rw [e]; exact h)

theorem dec_le (l : List UInt8) (k : Nat) : (Utf8.decode (bs l) k).1 ≤ 2147483647 := decode_le (bs l) k

theorem or_add {a b : Nat} {s : Nat} (hb : b < 2 ^ s) (h : a * 2 ^ s + b < 9223372036854775808) : bitOp .or .i64 ((a * 2 ^ s : Nat) : Int) (b : Int) = ((a * 2 ^ s + b : Nat) : Int) := by
  unfold bitOp
  simp only
  have e : (BitVec.ofInt IntKind.i64.bits ((a * 2 ^ s : Nat) : Int) ||| BitVec.ofInt IntKind.i64.bits (b : Int)).toNat = a * 2 ^ s + b := by
    rw [BitVec.toNat_or, BitVec.ofInt_natCast, BitVec.ofInt_natCast, BitVec.toNat_ofNat, BitVec.toNat_ofNat]
    have : IntKind.i64.bits = 64 := rfl
    rw [this, Nat.mod_eq_of_lt (by omega), Nat.mod_eq_of_lt (by omega), Nat.mul_comm a, Nat.two_pow_add_eq_or_of_lt hb]
  rw [e, w64 (by omega) (by omega)]

theorem byte_lt (b : UInt8) : b.toNat < 256 := b.toNat_lt
theorem byte_in (b : UInt8) : 0 ≤ ((b.toNat : Nat) : Int) ∧ ((b.toNat : Nat) : Int) < 256 := ⟨by omega, by have := b.toNat_lt; omega⟩

theorem u8_eq (a : UInt8) (n : Nat) (h : n < 256) : ((a.toNat : Nat) : Int) = (n : Int) ↔ a = UInt8.ofNat n := by
  constructor
  · intro e
    have : a.toNat = n := by omega
    apply UInt8.toNat_inj.mp
    rw [this, UInt8.toNat_ofNat']
    omega
  · intro e; subst e; rw [UInt8.toNat_ofNat']; omega

end Go.Proofs.SL
