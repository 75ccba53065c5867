/-
  SL: a slice that grows, handed to a function that only reads it. No claim by itself.
-/
import Derived.Test.YtmgemdgbffmnjaaSlHp
namespace Go.Proofs.SL
open Go
set_option linter.unusedSimpArgs false
set_option linter.unusedVariables false

/-- A value as one sees it who only reads. -/
inductive View (H : Heap) : PV → PV → Prop
  | same {p : PV} (h : Bdd 0 p) : View H p p
  | buf {i ver off len m : Nat} {tip : Bool} {cs xs : List PV} (ho : H[i]? = some (some (.cells ver cs))) (hx : flat xs = subCells cs off (len * m)) (hl : xs.length = len)
      (hm : ∀ x ∈ xs, x.cells.length = m) (hb : ∀ x ∈ xs, Bdd 0 x) : View H (.buf i ver off len m tip) (.sl m xs)

theorem flat_len {xs : List PV} {m : Nat} (hm : ∀ x ∈ xs, x.cells.length = m) : (flat xs).length = xs.length * m := by
  induction xs with
  | nil => simp [flat]
  | cons x xs ih =>
    have := ih fun y hy => hm y (List.mem_cons_of_mem _ hy)
    have hx := hm x (by simp)
    simp only [flat, List.flatMap_cons, List.length_append] at this ⊢
    rw [this, hx, List.length_cons, Nat.succ_mul]; omega

theorem View.v {β : Nat → Option Nat} {H : Heap} {w : World} {v : Value} {p p' : PV} (h : View H p p') (hI : Inv β H w) (hv : V β H w v p) : V β [] w v p' := by
  cases h with
  | same hb => exact V.trim (K := []) (L := H) hv hb
  | @buf i ver off len m tip cs xs ho hx hl hm hb =>
    subst hl
    cases hv with
    | buf ad cap _ _ _ _ _ _ hc ha hi h =>
      by_cases hz : xs = []
      · subst hz; exact .sl0 _ _ _
      have hne : xs.length ≠ 0 := by simpa using hz
      obtain ⟨b, rfl⟩ := ha hne
      obtain ⟨hn, hs⟩ := h ⟨_, ho, rfl⟩
      have hob := hI.ok i _ ho
      cases hbi : β i with
      | none => have := (hn hbi).1; omega
      | some b' =>
        have hb' : b = b' := by
          rcases hs b' hbi with ⟨h, _⟩ | ⟨h, _⟩
          · exact absurd h hne
          · cases h; rfl
        subst hb'
        obtain ⟨c, ty, fz, f, a1, a2, a3, a4, a5, a6⟩ := hob.2 b hbi
        have hfl := flat_len hm
        have hle : (flat xs).length ≤ cs.length - off := by rw [hx]; simp [subCells]; omega
        have hpos : ∀ k, k < (flat xs).length → off + k < cs.length := fun k hk => by omega
        refine .sl b off cap m xs (fun k => f (off + k)) ⟨hI.block ⟨_, ho⟩ hbi, fun j hj => ?_⟩ hm hc (fun k hk => ?_) (fun k p hp => ?_) fun k hk => a5 _ (hpos k hk)
        · obtain ⟨o, hoj, _⟩ := hj; simp at hoj
        · rw [cell_of a1]; exact a3 _ (hpos k hk)
        · have hk : k < (flat xs).length := lt_of_get hp
          have hbd : Bdd 0 p := by
            obtain ⟨x, hx1, hx2⟩ := List.mem_flatMap.mp (List.mem_of_getElem? hp)
            exact (hb x hx1).cells p hx2
          refine V.trim (K := []) (L := H) (a4 (off + k) p ?_) hbd
          rw [hx] at hp
          simp only [subCells] at hp
          rw [List.getElem?_take_of_lt (by omega), List.getElem?_drop] at hp
          exact hp

/-- Values that know of no memory. -/
inductive Plain : PV → Prop
  | bool (b : Bool) : Plain (.bool b)
  | int (k : IntKind) (n : Int) : Plain (.int k n)
  | str (s : ByteArray) : Plain (.str s)
  | nils : Plain .nils
  | agg (cs : List PV) (h : ∀ p ∈ cs, Plain p) : Plain (.agg cs)
  | tup (cs : List PV) (h : ∀ p ∈ cs, Plain p) : Plain (.tup cs)

theorem Plain.v {p : PV} (h : Plain p) {β β' : Nat → Option Nat} {H H' : Heap} {w w' : World} {v : Value} (hv : V β H w v p) : V β' H' w' v p := by
  induction h generalizing v with
  | bool b => rw [hv.bool_inv]; exact .bool _
  | int k n => rw [hv.int_inv]; exact .int _ _
  | str s => rw [hv.str_inv]; exact .str _
  | nils => rw [hv.nils_inv]; exact .nils
  | agg cs h ih => cases hv with | agg vs _ hs hv => exact .agg vs cs hs fun i v p h1 h2 => ih p (List.mem_of_getElem? h2) (hv i v p h1 h2)
  | tup cs h ih => cases hv with | tup vs _ hs hv => exact .tup vs cs hs fun i v p h1 h2 => ih p (List.mem_of_getElem? h2) (hv i v p h1 h2)

/-- Arguments, one by one. -/
inductive Views (H : Heap) : List PV → List PV → Prop
  | nil : Views H [] []
  | cons {p p' : PV} {l l' : List PV} (h : View H p p') (t : Views H l l') : Views H (p :: l) (p' :: l')
theorem Views.len {H : Heap} {l l' : List PV} (h : Views H l l') : l.length = l'.length := by
  induction h with
  | nil => rfl
  | cons _ _ ih => simp [ih]
theorem Views.get {H : Heap} {l l' : List PV} (h : Views H l l') : ∀ {k : Nat} {p' : PV}, l'[k]? = some p' → ∃ p, l[k]? = some p ∧ View H p p' := by
  induction h with
  | nil => intro k p' h; simp at h
  | cons hv _ ih =>
    intro k p' h
    cases k with
    | zero => simp at h; subst h; exact ⟨_, rfl, hv⟩
    | succ k => exact ih (by simpa using h)

/-- A function that only reads, called with slices that grow. -/
theorem PCall.view {P : Program} {f : FuncId} {args args' : List PV} {r : PV} {H : Heap} (h : PCall P f args' r) (ha : Views H args args') (hr : Plain r) : SCall P f args H fun r' H' => r' = r ∧ H' = H := by
  refine ⟨(h []).1, fun β w vs hI hs hv => ?_⟩
  refine ((h []).2 β w vs ⟨fun i o ho => by simp at ho, fun i j b hi _ => by obtain ⟨o, ho⟩ := hi; simp at ho⟩ (hs.trans ha.len) fun i v p' hvi hp' => ?_).mono ?_
  · obtain ⟨p, hp, hvw⟩ := ha.get hp'
    exact hvw.v hI (hv i v p hvi hp)
  · rintro e w' ⟨v, r', β', H', rfl, h1, h2, h3, rfl, h5⟩
    have hsame : Same w w' := ⟨h2.os, h2.tape, h2.output, h2.size⟩
    have hb : ∀ b, b < w.heap.size → w'.heap[b]? = w.heap[b]? := fun b hb => (h2.imm b ⟨hb, fun i hi => by obtain ⟨o, ho, _⟩ := hi; simp at ho⟩).1
    exact ⟨v, r', β, H, rfl, quiet_inv hI hsame hb, quiet_ext hI hsame hb, hr.v h3, rfl, rfl⟩

end Go.Proofs.SL
