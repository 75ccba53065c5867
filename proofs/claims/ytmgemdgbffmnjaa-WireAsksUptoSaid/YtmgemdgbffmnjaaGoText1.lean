/-
  What the functions compute: letters, plain bytes, names of hosts. No claim by itself.
-/
import Derived.Test.YtmgemdgbffmnjaaGoCut
namespace Go.Proofs.GoC
open Go Go.Proofs.SL
set_option linter.unusedSimpArgs false
set_option linter.unusedVariables false
set_option maxRecDepth 10000
set_option maxHeartbeats 2000000

/-! Bytes as cells. -/
def bys (l : List UInt8) : List PV := l.map fun b => .int .u8 (b.toNat : Nat)
@[go_sem] theorem bys_len {l : List UInt8} : (bys l).length = l.length := List.length_map ..
@[go_sem] theorem flat_bys (l : List UInt8) : flat (bys l) = bys l := by
  induction l with
  | nil => rfl
  | cons a l ih => simp only [bys, flat, List.map_cons, List.flatMap_cons, PV.cells] at ih ⊢; rw [ih]; rfl
@[go_sem] theorem bs_bys (l : List UInt8) : ((bs l).toList.map fun b => PV.int IntKind.u8 (b.toNat : Nat)) = bys l := by
  rw [ByteArray.toList_eq]; rfl
theorem bys_getD {l : List UInt8} {k : Nat} (h : k < l.length) : (bys l).getD k .any = .int .u8 ((l.getD k 0).toNat : Nat) := by
  simp [bys, List.getD_eq_getElem?_getD, h]
theorem bys_set {l : List UInt8} {k : Nat} {b : UInt8} : (bys l).set k (.int .u8 (b.toNat : Nat)) = bys (l.set k b) := by
  simp [bys, List.map_set]
theorem bys_app {a b : List UInt8} : bys a ++ bys b = bys (a ++ b) := by simp [bys]
theorem bys_take {l : List UInt8} {n : Nat} : (bys l).take n = bys (l.take n) := by simp [bys, List.map_take]
@[go_sem] theorem bys_u8 (l : List UInt8) : (bys l).all isU8 = true := by
  rw [List.all_eq_true]
  intro x hx
  obtain ⟨b, _, rfl⟩ := List.mem_map.mp hx
  have := b.toNat_lt
  simp only [isU8, decide_eq_true_eq]; omega
@[go_sem] theorem bytesOf_bys (l : List UInt8) : bytesOf (bys l) = bs l := by
  unfold bytesOf bys bs
  congr 2
  rw [List.map_map]
  conv => rhs; rw [← List.map_id l]
  refine List.map_congr_left fun b _ => ?_
  show UInt8.ofNat ((b.toNat : Nat) : Int).toNat = b
  rw [Int.toNat_natCast, UInt8.ofNat_toNat]

@[go_sem] theorem bys_of (l : List UInt8) : (List.map (fun x => match x with | PV.int _ n => UInt8.ofNat n.toNat | _ => 0) (bys l)) = l := by
  unfold bys
  rw [List.map_map]
  conv => rhs; rw [← List.map_id l]
  refine List.map_congr_left fun b _ => ?_
  show UInt8.ofNat ((b.toNat : Nat) : Int).toNat = b
  rw [Int.toNat_natCast, UInt8.ofNat_toNat]

@[go_sem] theorem bys_m (l : List UInt8) : List.map (fun x => Go.Proofs.SL.bytesOf.match_1 (fun _ => UInt8) x (fun _ n => UInt8.ofNat n.toNat) (fun _ => 0)) (bys l) = l := bys_of l

/-! Small letters. -/
def lowB (b : UInt8) : UInt8 := if 65 ≤ b.toNat ∧ b.toNat ≤ 90 then b + 32 else b
def lowF (l : List UInt8) : List UInt8 := l.map lowB
theorem lowF_len (l : List UInt8) : (lowF l).length = l.length := List.length_map ..
theorem low_add {b : UInt8} (h : b.toNat ≤ 90) : (b + 32).toNat = b.toNat + 32 := by
  rw [UInt8.toNat_add, show (32 : UInt8).toNat = 32 from rfl]; omega

theorem lowF_step {l : List UInt8} {k : Nat} (hk : k < l.length) : (lowF (l.take k) ++ l.drop k).set k (lowB (l.getD k 0)) = lowF (l.take (k + 1)) ++ l.drop (k + 1) := by
  have hg : l[k] = l.getD k 0 := (getD_of hk).symm
  have hl : (lowF (l.take k)).length = k := by rw [lowF_len, List.length_take]; omega
  rw [List.set_append_right _ _ (by omega), hl, Nat.sub_self, List.drop_eq_getElem_cons hk, List.set_cons_zero, List.take_succ_eq_append_getElem hk, hg]
  simp [lowF]
theorem lowF_same {l : List UInt8} {k : Nat} (hk : k < l.length) (h : lowB (l.getD k 0) = l.getD k 0) : lowF (l.take k) ++ l.drop k = lowF (l.take (k + 1)) ++ l.drop (k + 1) := by
  rw [← lowF_step hk, h]
  have hl : (lowF (l.take k)).length = k := by rw [lowF_len, List.length_take]; omega
  rw [List.set_append_right _ _ (by omega), hl, Nat.sub_self, List.drop_eq_getElem_cons hk, List.set_cons_zero, getD_of hk]

/-! All signs. -/
def plainI (c : Int) : Bool := decide (32 < c ∧ c ≤ 126)
def plainF (l : List UInt8) : Bool := l.all fun b => plainI b.toNat
theorem plainF_cons (a : UInt8) (l : List UInt8) : plainF (a :: l) = (plainI a.toNat && plainF l) := rfl
/-! The document's. -/
end Go.Proofs.GoC
