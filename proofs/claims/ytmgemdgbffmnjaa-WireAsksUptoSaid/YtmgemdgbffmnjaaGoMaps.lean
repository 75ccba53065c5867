/-
  Maps as lists of keys and values, whatever the keys are. No claim by itself.
-/
import Derived.Test.YtmgemdgbffmnjaaGoStd
import Derived.Test.YtmgemdgbffmnjaaSlHp
namespace Go.Proofs.GoC
open Go Go.Proofs.SL
set_option linter.unusedSimpArgs false
set_option linter.unusedVariables false
set_option maxRecDepth 10000
set_option linter.unusedSectionVars false

theorem findP_shift (p : PV) : ∀ (es : List (PV × PV)) (i : Nat), findP p es (i + 1) = (findP p es i).map fun x => (x.1 + 1, x.2)
  | [], _ => rfl
  | e :: es, i => by
    unfold findP
    split
    · rfl
    · exact findP_shift p es (i + 1)
theorem findP_cons (p : PV) (e : PV × PV) (es : List (PV × PV)) : findP p (e :: es) 0 = if keyB p e.1 = true then some (0, e.2) else (findP p es 0).map fun x => (x.1 + 1, x.2) := by
  rw [findP]
  split
  · rfl
  · exact findP_shift p es 0
theorem lookM_cons (p z : PV) (e : PV × PV) (es : List (PV × PV)) : lookM p z (e :: es) = if keyB p e.1 = true then (e.2, true) else lookM p z es := by
  unfold lookM
  rw [findP_cons]
  by_cases h : keyB p e.1 = true
  · rw [if_pos h, if_pos h]
  · rw [if_neg h, if_neg h]; cases findP p es 0 <;> rfl
theorem putM_cons (p v : PV) (e : PV × PV) (es : List (PV × PV)) : putM p v (e :: es) = if keyB p e.1 = true then (p, v) :: es else e :: putM p v es := by
  unfold putM
  rw [findP_cons]
  by_cases h : keyB p e.1 = true
  · rw [if_pos h, if_pos h]; rfl
  · rw [if_neg h, if_neg h]; cases findP p es 0 <;> rfl
theorem delM_cons (p : PV) (e : PV × PV) (es : List (PV × PV)) : delM p (e :: es) = if keyB p e.1 = true then es else e :: delM p es := by
  unfold delM
  rw [findP_cons]
  by_cases h : keyB p e.1 = true
  · rw [if_pos h, if_pos h]; rfl
  · rw [if_neg h, if_neg h]; cases findP p es 0 <;> rfl
theorem delB_cons (p : PV) (b : Nat) (bs : List Nat) (e : PV × PV) (es : List (PV × PV)) : delB p (b :: bs) (e :: es) = if keyB p e.1 = true then bs else b :: delB p bs es := by
  unfold delB
  rw [findP_cons]
  by_cases h : keyB p e.1 = true
  · rw [if_pos h, if_pos h]; rfl
  · rw [if_neg h, if_neg h]; cases findP p es 0 <;> rfl

section
variable {K X : Type} [DecidableEq K]

/-- A map's entries. -/
def mapV (kf : K → PV) (vf : X → PV) (l : List (K × X)) : List (PV × PV) := l.map fun e => (kf e.1, vf e.2)
def findA (k : K) : List (K × X) → Option X
  | [] => none
  | e :: l => if k = e.1 then some e.2 else findA k l
def putA (k : K) (x : X) : List (K × X) → List (K × X)
  | [] => [(k, x)]
  | e :: l => if k = e.1 then (k, x) :: l else e :: putA k x l
def delA (k : K) : List (K × X) → List (K × X)
  | [] => []
  | e :: l => if k = e.1 then l else e :: delA k l

/-- Keys are told apart as they should be. -/
def KeyRep (kf : K → PV) : Prop := ∀ a b, keyB (kf a) (kf b) = decide (a = b)

variable {kf : K → PV} {vf : X → PV}
theorem mapV_len {l : List (K × X)} : (mapV kf vf l).length = l.length := List.length_map ..
theorem look_map (h : KeyRep kf) (k : K) (z : PV) : ∀ l : List (K × X), lookM (kf k) z (mapV kf vf l) = match findA k l with
    | some x => (vf x, true)
    | none => (z, false)
  | [] => rfl
  | e :: l => by
    have ih := look_map h k z l
    unfold mapV at ih ⊢
    rw [List.map_cons, lookM_cons, h, findA]
    by_cases he : k = e.1
    · rw [if_pos (by simpa using he), if_pos he]
    · rw [if_neg (by simpa using he), if_neg he, ih]
theorem look_has (h : KeyRep kf) {k : K} {x : X} (z : PV) {l : List (K × X)} (hf : findA k l = some x) : lookM (kf k) z (mapV kf vf l) = (vf x, true) := by rw [look_map h, hf]
theorem look_not (h : KeyRep kf) {k : K} (z : PV) {l : List (K × X)} (hf : findA k l = none) : lookM (kf k) z (mapV kf vf l) = (z, false) := by rw [look_map h, hf]
theorem put_map (h : KeyRep kf) (k : K) (x : X) : ∀ l : List (K × X), putM (kf k) (vf x) (mapV kf vf l) = mapV kf vf (putA k x l)
  | [] => rfl
  | e :: l => by
    have ih := put_map h k x l
    unfold mapV at ih ⊢
    rw [List.map_cons, putM_cons, h, putA]
    by_cases he : k = e.1
    · rw [if_pos (by simpa using he), if_pos he]; rfl
    · rw [if_neg (by simpa using he), if_neg he, ih]; rfl
theorem del_map (h : KeyRep kf) (k : K) : ∀ l : List (K × X), delM (kf k) (mapV kf vf l) = mapV kf vf (delA k l)
  | [] => rfl
  | e :: l => by
    have ih := del_map h k l
    unfold mapV at ih ⊢
    rw [List.map_cons, delM_cons, h, delA]
    by_cases he : k = e.1
    · rw [if_pos (by simpa using he), if_pos he]
    · rw [if_neg (by simpa using he), if_neg he, ih]; rfl
theorem keys_map {d : TD} {l : List (K × X)} (h : ∀ e ∈ l, isKeyP d (kf e.1) = true) : keysB d (mapV kf vf l) = true := by
  unfold keysB mapV
  rw [List.all_eq_true]
  intro q hq
  obtain ⟨e, he, rfl⟩ := List.mem_map.mp hq
  exact h e he

/-- Entries with their births. -/
def mxO (kf : K → PV) (vf : X → PV) (n : Nat) (L : List (Nat × (K × X))) : OB := .mapx n (L.map (·.1)) (mapV kf vf (L.map (·.2)))

theorem delx_map (h : KeyRep kf) (k : K) : ∀ L : List (Nat × (K × X)), (L.map (·.2.1)).Nodup →
    delM (kf k) (mapV kf vf (L.map (·.2))) = mapV kf vf ((L.filter fun e => !decide (e.2.1 = k)).map (·.2)) ∧ delB (kf k) (L.map (·.1)) (mapV kf vf (L.map (·.2))) = (L.filter fun e => !decide (e.2.1 = k)).map (·.1)
  | [], _ => ⟨rfl, rfl⟩
  | e :: L, hn => by
    rw [List.map_cons, List.nodup_cons] at hn
    obtain ⟨i1, i2⟩ := delx_map h k L hn.2
    have e1 : mapV kf vf ((e :: L).map (·.2)) = (kf e.2.1, vf e.2.2) :: mapV kf vf (L.map (·.2)) := rfl
    rw [e1, List.map_cons, delM_cons, delB_cons, h]
    by_cases he : k = e.2.1
    · have hf : L.filter (fun x => !decide (x.2.1 = k)) = L := List.filter_eq_self.mpr fun x hx => by
        have : x.2.1 ≠ k := fun hxk => hn.1 (by rw [← he, ← hxk]; exact List.mem_map_of_mem hx)
        simpa using this
      have hd : decide (k = e.2.1) = true := by simpa using he
      have hd2 : (!decide (e.2.1 = k)) = false := by simpa using he.symm
      rw [if_pos hd, if_pos hd, List.filter_cons, hd2, if_neg (by decide), hf]
      exact ⟨rfl, rfl⟩
    · have hd : ¬ decide (k = e.2.1) = true := by simpa using he
      have hd2 : (!decide (e.2.1 = k)) = true := by simpa using fun h => he h.symm
      rw [if_neg hd, if_neg hd, List.filter_cons, hd2, if_pos rfl, i1, i2]
      exact ⟨rfl, rfl⟩

theorem zip_births {n : Nat} {bs : List Nat} {l : List (K × X)} (hl : bs.length = l.length) : OB.mapx n bs (mapV kf vf l) = mxO kf vf n (bs.zip l) := by
  unfold mxO
  rw [List.map_fst_zip (by omega), List.map_snd_zip (by omega)]
end
end Go.Proofs.GoC
