/-
  What the functions compute, part three: a part's number. No claim by itself.
-/
import Derived.Test.YtdjdhcljdcljoaaDoorGoB
namespace Go.Proofs.GoC
open Go Go.Proofs.SL
set_option linter.unusedSimpArgs false
set_option linter.unusedVariables false
set_option maxRecDepth 10000

/-- The number of digits, 2^32 at most; none: there is one that is none. -/
def digF (base : Int) : List UInt8 → Int → Option Int
  | [], n => some n
  | b :: l, n => if digitV b.toNat < 0 ∨ base ≤ digitV b.toNat then none else digF base l (if 4294967296 < n * base + digitV b.toNat then 4294967296 else n * base + digitV b.toNat)

theorem numV_one (base : Int) (b : UInt8) : numV base [b] = if digitV b.toNat < 0 ∨ base ≤ digitV b.toNat then .tup [.int .i64 0, .bool false] else .tup [.int .i64 (digitV b.toNat), .bool true] := by
  have hd := digitV_le b.toNat
  by_cases h : digitV b.toNat < 0 ∨ base ≤ digitV b.toNat
  · rw [if_pos h]; simp [numV, numF, h]
  · rw [if_neg h]
    have : ¬ 1099511627776 < digitV b.toNat := by omega
    simp [numV, numF, h, this]

/-- A number, or none. -/
def resV : Option Int → PV
  | some n => .tup [.int .i64 n, .bool true]
  | none => .tup [.int .i64 0, .bool false]

theorem c_four_digits (l : List UInt8) (base : Int) (h1 : 0 ≤ base) (h2 : base ≤ 16) (hl : l.length < 1000000) : PCall Tryd.prog 31 [.str (bs l), .int .i64 base] (resV (digF base l 0)) := by
  intro H
  refine scall_of (ord := fun _ => []) (rs := [4, 5]) Tryd.func31 rfl (by kernel_rfl) (by kernel_rfl) (by kernel_rfl) Tryd.ntmps31 fun hb _ => go 100 (fun _ => false) mixed ?_
  simp only [↓reduceIte, go_sem]
  obtain ⟨R, hR⟩ : ∃ R, R = digF base l 0 := ⟨_, rfl⟩
  rw [← hR]
  refine runs_loopA (fun x : Nat × Int => x.1 ≤ l.length ∧ 0 ≤ x.2 ∧ x.2 ≤ 4294967296 ∧ digF base (l.drop x.1) x.2 = R) (fun x => l.length - x.1) [true, true, false, false, false, false, true, false, false, false, false, true, true]
    (fun x => slots 35 [.str (bs l), .int .i64 base, .any, .any, .any, .any, .int .i64 x.2, .any, .any, .any, .any, .int .i64 l.length, .int .i64 x.1]) (fun _ => H) (by rfl) (0, 0) ⟨Nat.zero_le _, by omega, by omega, hR.symm⟩ rfl rfl ?_
  rintro ⟨k, n⟩ ⟨hk, hn0, hn1, hnum⟩
  have hk : k ≤ l.length := hk
  have hn0 : 0 ≤ n := hn0
  have hn1 : n ≤ 4294967296 := hn1
  have hnum : digF base (l.drop k) n = R := hnum
  have e3 : IntKind.i64.wrap ((k : Int) + 1) = ((k + 1 : Nat) : Int) := by rw [w64 (by omega) (by omega)]; omega
  refine go 100 (fun _ => false) mixed ?_
  simp only [↓reduceIte, go_sem, e3]
  refine ⟨fun hlt => ⟨by omega, ?_⟩, fun hge => ?_⟩
  · rw [one_at hlt]
    refine (c_text_Number [l.getD k 0] base h1 h2 (by simp)).on ?_
    rw [List.drop_eq_getElem_cons hlt, ← getD_of hlt] at hnum
    unfold digF at hnum
    rw [numV_one]
    have hd := digitV_le (l.getD k 0).toNat
    generalize (l.getD k 0) = b at *
    generalize digitV b.toNat = v at *
    have hm0 : 0 ≤ n * base := Int.mul_nonneg hn0 h1
    have hm1 : n * base ≤ 4294967296 * 16 := Int.mul_le_mul hn1 h2 h1 (by omega)
    have e1 : IntKind.i64.wrap (n * base) = n * base := w64 (by omega) (by omega)
    by_cases hv : v < 0 ∨ base ≤ v
    · rw [if_pos hv] at hnum ⊢
      refine go 100 (fun _ => false) mixed ?_
      simp only [↓reduceIte, go_sem]
      refine fin ?_ rfl
      simp only [↓reduceIte, go_sem, resV, ← hnum]
    · rw [if_neg hv] at hnum ⊢
      have e2 : IntKind.i64.wrap (n * base + v) = n * base + v := w64 (by omega) (by omega)
      refine go 100 (fun _ => false) mixed ?_
      simp only [↓reduceIte, go_sem, e1, e2, e3]
      exact rnd_next (k + 1, if 4294967296 < n * base + v then 4294967296 else n * base + v) ⟨by show k + 1 ≤ _; omega, by dsimp only; split <;> omega, by dsimp only; split <;> omega, hnum⟩ (by simp only; omega) rfl rfl
  · have hkl : l.length ≤ k := by omega
    rw [List.drop_eq_nil_of_le hkl] at hnum
    unfold digF at hnum
    refine go 100 (fun _ => false) mixed ?_
    simp only [↓reduceIte, go_sem]
    refine fin ?_ rfl
    simp only [↓reduceIte, go_sem, resV, ← hnum]

/-- What stands behind the first of these heads that a part has. -/
def behindF (p : List UInt8) : List (List UInt8) → PV
  | [] => .tup [.str (bs []), .bool false]
  | h :: hs => if p.take h.length = h ∧ 1 < p.length then .tup [.str (bs (p.drop h.length)), .bool true] else behindF p hs

theorem c_four_number_1 (p : List UInt8) (hs : List (List UInt8)) (hp : p.length < 1000000) (hh : ∀ h ∈ hs, h.length < 1000000) (hn : hs.length < 1000000) (H : Heap) :
    SCall Tryd.prog 32 [.sl 1 (hs.map fun h => .str (bs h)), .ptr H.length 0 0] (H ++ [some (.cells 0 [.str (bs p)])]) fun r H' => r = behindF p hs ∧ H' = H ++ [some (.cells 0 [.str (bs p)])] := by
  refine scall_of (ord := fun _ => []) (rs := [3, 4]) Tryd.func32 rfl (by kernel_rfl) (by kernel_rfl) (by kernel_rfl) Tryd.ntmps32 fun hb _ => go 100 (fun _ => false) mixed ?_
  simp only [↓reduceIte, go_sem, List.length_map]
  obtain ⟨R, hR⟩ : ∃ R, R = behindF p hs := ⟨_, rfl⟩
  rw [← hR]
  refine runs_loopA (fun x : Nat => x ≤ hs.length ∧ behindF p (hs.drop x) = R) (fun x => hs.length - x) [true, true, false, false, false, false, false, false, false, true, true, true]
    (fun x => slots 29 [.sl 1 (hs.map fun h => .str (bs h)), .ptr H.length 0 0, .any, .any, .any, .any, .any, .any, .any, .sl 1 (hs.map fun h => .str (bs h)), .int .i64 hs.length, .int .i64 x]) (fun _ => H ++ [some (.cells 0 [.str (bs p)])]) (by rfl) 0 ⟨Nat.zero_le _, hR.symm⟩ rfl rfl ?_
  rintro k ⟨hk, hnum⟩
  have e3 : IntKind.i64.wrap ((k : Int) + 1) = ((k + 1 : Nat) : Int) := by rw [w64 (by omega) (by omega)]; omega
  refine go 100 (fun _ => false) mixed ?_
  by_cases hlt : k < hs.length
  · have hget : (hs.map fun h => PV.str (bs h)).getD k .any = .str (bs hs[k]) := by simp [List.getD_eq_getElem?_getD, hlt]
    simp only [↓reduceIte, go_sem, e3, List.length_map, hget, hlt]
    have hhk := hh hs[k] (List.getElem_mem hlt)
    refine (c_strings_CutPrefix p hs[k] hp hhk).on ?_
    rw [List.drop_eq_getElem_cons hlt] at hnum
    unfold behindF at hnum
    by_cases h1 : p.take hs[k].length = hs[k]
    · rw [if_pos h1]
      refine go 100 (fun _ => false) mixed ?_
      simp only [↓reduceIte, go_sem, e3]
      refine ⟨fun h2 => ?_, fun h2 => ?_⟩
      · rw [if_pos ⟨h1, by omega⟩] at hnum
        exact fin hnum rfl
      · rw [if_neg (fun h => h2 (by omega))] at hnum
        exact rnd_next (k + 1) ⟨by omega, hnum⟩ (by omega) rfl rfl
    · rw [if_neg h1]
      refine go 100 (fun _ => false) mixed ?_
      simp only [↓reduceIte, go_sem, e3]
      rw [if_neg (fun h => h1 h.1)] at hnum
      exact rnd_next (k + 1) ⟨by omega, hnum⟩ (by omega) rfl rfl
  · simp only [↓reduceIte, go_sem, e3, List.length_map, hlt]
    rw [List.drop_eq_nil_of_le (by omega)] at hnum
    unfold behindF at hnum
    refine go 100 (fun _ => false) mixed ?_
    simp only [↓reduceIte, go_sem]
    exact fin hnum rfl
end Go.Proofs.GoC
