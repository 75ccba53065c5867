/-
  SL: steps of the world, and of the abstract heap beside it. No claim by itself.
-/
import Derived.Test.YtdgikagnkbphoaaDoorSlRead
namespace Go.Proofs.SL
open Go
set_option linter.unusedSimpArgs false
set_option linter.unusedVariables false
variable {P : Program} {T : Nat → Option TD} {β : Nat → Option Nat} {H : Heap} {w : World}

/-- What a later world must share with an earlier one, the blocks aside. -/
structure Same (w w' : World) : Prop where
  os : w'.os = w.os
  tape : w'.tape = w.tape
  output : w'.output = w.output
  size : w.heap.size ≤ w'.heap.size

theorem ObOk.mono {β β' : Nat → Option Nat} {H H' : Heap} {w w' : World} (e : Ext β H w β' H' w') {i : Nat} {o : OB} (hb : β' i = β i)
    (hs : ∀ b, β i = some b → w'.heap[b]? = w.heap[b]?) (h : ObOk β H w i o) : ObOk β' H' w' i o := by
  cases o with
  | cells ver cs =>
    refine ⟨fun hn => h.1 (hb ▸ hn), fun b hbb => ?_⟩
    obtain ⟨c, t, fz, f, h1, h2, h3, h4, h5, h6⟩ := h.2 b (hb ▸ hbb)
    exact ⟨c, t, fz, f, (hs b (hb ▸ hbb)).trans h1, h2, h3, fun k p hp => (h4 k p hp).mono e, h5, h6⟩
  | striter s pos =>
    obtain ⟨b, h1, h2⟩ := h
    exact ⟨b, hb.trans h1, (hs b h1).trans h2⟩
  | glob b o => exact ⟨hb.trans h.1, (hs b h.1).trans h.2⟩
  | map es =>
    obtain ⟨b, c, k, h1, h2, h3, h4, h5⟩ := h
    exact ⟨b, c, k, hb.trans h1, (hs b h1).trans h2, h3, fun j e' p he hp => ⟨(h4 j e' p he hp).1.mono e, (h4 j e' p he hp).2.mono e⟩, h5⟩

theorem alive_append {o : Option OB} {i : Nat} (h : Alive (H ++ [o]) i) : Alive H i ∨ (i = H.length ∧ ∃ x, o = some x) := by
  obtain ⟨x, hx⟩ := h
  rcases Nat.lt_trichotomy i H.length with hi | hi | hi
  · rw [List.getElem?_append_left hi] at hx; exact .inl ⟨x, hx⟩
  · subst hi
    rw [List.getElem?_append_right (Nat.le_refl _), Nat.sub_self] at hx
    simp only [List.getElem?_cons_zero, Option.some.injEq] at hx
    exact .inr ⟨rfl, x, hx⟩
  · rw [List.getElem?_eq_none (by simp; omega)] at hx; cases hx

/-- The map of objects, one more at the end. -/
def more (β : Nat → Option Nat) (n : Nat) (r : Option Nat) : Nat → Option Nat := fun i => if i = n then r else β i

theorem more_lt {n : Nat} {r : Option Nat} {i : Nat} (h : i < n) : more β n r i = β i := by unfold more; rw [if_neg (by omega)]
theorem more_self {n : Nat} {r : Option Nat} : more β n r n = r := by unfold more; rw [if_pos rfl]

theorem push_ext (hI : Inv β H w) {w' : World} (hw : Same w w') (hp : ∀ b, b < w.heap.size → w'.heap[b]? = w.heap[b]?) {o : OB} {r : Option Nat} (hr : ∀ b, r = some b → w.heap.size ≤ b) :
    Ext β H w (more β H.length r) (H ++ [some o]) w' where
  len := by simp
  live := fun i ver hi => by
    have e : (H ++ [some o])[i]? = H[i]? := List.getElem?_append_left hi.1
    refine ⟨⟨by simp; have := hi.1; omega, fun o' ho' => hi.2 o' (by rwa [e] at ho')⟩, fun hl => ?_⟩
    obtain ⟨o', ho', hv⟩ := hl
    rw [e] at ho'
    refine ⟨⟨o', ho', hv⟩, more_lt hi.1, by unfold olen; rw [e], fun b hb => ?_⟩
    unfold bsize
    rw [hp b (hI.block ⟨o', ho'⟩ hb)]
  imm := fun b hb => by
    refine ⟨hp b hb.1, Nat.lt_of_lt_of_le hb.1 hw.size, fun i hi => ?_⟩
    rcases alive_append hi with hi | ⟨rfl, _⟩
    · rw [more_lt hi.lt]; exact hb.2 i hi
    · rw [more_self]
      intro h
      have := hr b h
      have := hb.1
      omega
  os := hw.os
  tape := hw.tape
  output := hw.output
  size := hw.size

theorem push_inv (hI : Inv β H w) {w' : World} (hp : ∀ b, b < w.heap.size → w'.heap[b]? = w.heap[b]?) {o : OB} {r : Option Nat} (hr : ∀ b, r = some b → w.heap.size ≤ b)
    (he : Ext β H w (more β H.length r) (H ++ [some o]) w') (ho : ObOk (more β H.length r) (H ++ [some o]) w' H.length o) : Inv (more β H.length r) (H ++ [some o]) w' where
  ok := fun i x hx => by
    rcases alive_append ⟨x, hx⟩ with hi | ⟨rfl, _⟩
    · have e : (H ++ [some o])[i]? = H[i]? := List.getElem?_append_left hi.lt
      rw [e] at hx
      exact (hI.ok i x hx).mono he (more_lt hi.lt) fun b hb => hp b (hI.block hi hb)
    · rw [List.getElem?_append_right (Nat.le_refl _), Nat.sub_self] at hx
      simp only [List.getElem?_cons_zero, Option.some.injEq] at hx
      subst hx
      exact ho
  inj := fun i j b hi hj hbi hbj => by
    rcases alive_append hi with hi | ⟨rfl, _⟩ <;> rcases alive_append hj with hj | ⟨rfl, _⟩
    · rw [more_lt hi.lt] at hbi; rw [more_lt hj.lt] at hbj; exact hI.inj i j b hi hj hbi hbj
    · rw [more_lt hi.lt] at hbi; rw [more_self] at hbj
      have := hI.block hi hbi; have := hr b hbj; omega
    · rw [more_lt hj.lt] at hbj; rw [more_self] at hbi
      have := hI.block hj hbj; have := hr b hbi; omega
    · rfl

theorem quiet_ext (hI : Inv β H w) {w' : World} (hw : Same w w') (hp : ∀ b, b < w.heap.size → w'.heap[b]? = w.heap[b]?) : Ext β H w β H w' where
  len := Nat.le_refl _
  live := fun i ver hi => ⟨hi, fun hl => ⟨hl, rfl, rfl, fun b hb => by unfold bsize; rw [hp b (hI.block hl.alive hb)]⟩⟩
  imm := fun b hb => ⟨hp b hb.1, Nat.lt_of_lt_of_le hb.1 hw.size, hb.2⟩
  os := hw.os
  tape := hw.tape
  output := hw.output
  size := hw.size

theorem quiet_inv (hI : Inv β H w) {w' : World} (hw : Same w w') (hp : ∀ b, b < w.heap.size → w'.heap[b]? = w.heap[b]?) : Inv β H w' where
  ok := fun i x hx => (hI.ok i x hx).mono (quiet_ext hI hw hp) rfl fun b hb => hp b (hI.block ⟨x, hx⟩ hb)
  inj := hI.inj

theorem set_get {i j : Nat} {x : Option OB} (hi : i < H.length) : (H.set i x)[j]? = if j = i then some x else H[j]? := by
  by_cases h : j = i
  · subst h; rw [if_pos rfl, List.getElem?_set_self hi]
  · rw [if_neg h, List.getElem?_set_ne (Ne.symm h)]

theorem alive_set {i j : Nat} {x : OB} (ha : Alive H i) : Alive (H.set i (some x)) j ↔ Alive H j := by
  unfold Alive
  rw [set_get ha.lt]
  by_cases h : j = i
  · subst h; simp only [if_true]; exact ⟨fun _ => ha, fun _ => ⟨x, rfl⟩⟩
  · simp only [if_neg h]

/-- An object's block changes in place. -/
theorem set_ext (hI : Inv β H w) {w' : World} (hw : Same w w') {i b : Nat} {o o' : OB} (ho : H[i]? = some (some o)) (hb : β i = some b)
    (hp : ∀ k, k < w.heap.size → k ≠ b → w'.heap[k]? = w.heap[k]?) (hbs : bsize w' b = bsize w b) (hv : o.ver < o'.ver ∨ (o'.ver = o.ver ∧ o'.len = o.len)) :
    Ext β H w β (H.set i (some o')) w' where
  len := by simp
  live := fun j ver hj => by
    have hil : i < H.length := Alive.lt ⟨o, ho⟩
    refine ⟨⟨by simp; exact hj.1, fun x hx => ?_⟩, fun hl => ?_⟩
    · rw [set_get hil] at hx
      split at hx
      · rename_i e
        subst e
        simp only [Option.some.injEq] at hx
        subst hx
        have := hj.2 o ho
        omega
      · exact hj.2 x hx
    · obtain ⟨x, hx, hxv⟩ := hl
      have hxx := hx
      rw [set_get hil] at hx
      split at hx
      · rename_i e
        subst e
        simp only [Option.some.injEq] at hx
        subst hx
        have h1 := hj.2 o ho
        rcases hv with hv | ⟨hv, hl⟩
        · omega
        · refine ⟨⟨o, ho, by omega⟩, rfl, ?_, fun b' hb' => ?_⟩
          · unfold olen; rw [hxx, ho]; exact hl
          · rw [hb] at hb'; cases hb'; exact hbs
      · rename_i e
        refine ⟨⟨x, hx, hxv⟩, rfl, ?_, fun b' hb' => ?_⟩
        · unfold olen; rw [hxx, hx]
        · have hne : b' ≠ b := fun h => e (hI.inj j i b ⟨x, hx⟩ ⟨o, ho⟩ (h ▸ hb') hb)
          unfold bsize
          rw [hp b' (hI.block ⟨x, hx⟩ hb') hne]
  imm := fun k hk => by
    refine ⟨hp k hk.1 fun h => hk.2 i ⟨o, ho⟩ (h ▸ hb), Nat.lt_of_lt_of_le hk.1 hw.size, fun j hj => hk.2 j ((alive_set ⟨o, ho⟩).mp hj)⟩
  os := hw.os
  tape := hw.tape
  output := hw.output
  size := hw.size

theorem set_inv (hI : Inv β H w) {w' : World} {i b : Nat} {o o' : OB} (ho : H[i]? = some (some o)) (hb : β i = some b)
    (hp : ∀ k, k < w.heap.size → k ≠ b → w'.heap[k]? = w.heap[k]?) (he : Ext β H w β (H.set i (some o')) w') (hok : ObOk β (H.set i (some o')) w' i o') :
    Inv β (H.set i (some o')) w' where
  ok := fun j x hx => by
    rw [set_get (Alive.lt ⟨o, ho⟩)] at hx
    split at hx
    · rename_i e
      subst e
      simp only [Option.some.injEq] at hx
      subst hx
      exact hok
    · rename_i e
      refine (hI.ok j x hx).mono he rfl fun k hk => hp k (hI.block ⟨x, hx⟩ hk) fun h => e (hI.inj j i b ⟨x, hx⟩ ⟨o, ho⟩ (h ▸ hk) hb)
  inj := fun j k b' hj hk => hI.inj j k b' ((alive_set ⟨o, ho⟩).mp hj) ((alive_set ⟨o, ho⟩).mp hk)

/-- An object moves to a block of its own, under a new version. -/
theorem move_ext (hI : Inv β H w) {w' : World} (hw : Same w w') {i b : Nat} {o o' : OB} (ho : H[i]? = some (some o)) (hb : w.heap.size ≤ b)
    (hp : ∀ k, k < w.heap.size → w'.heap[k]? = w.heap[k]?) (hv : o.ver < o'.ver) : Ext β H w (more β i (some b)) (H.set i (some o')) w' where
  len := by simp
  live := fun j ver hj => by
    have hil : i < H.length := Alive.lt ⟨o, ho⟩
    refine ⟨⟨by simp; exact hj.1, fun x hx => ?_⟩, fun hl => ?_⟩
    · rw [set_get hil] at hx
      split at hx
      · rename_i e
        subst e
        simp only [Option.some.injEq] at hx
        subst hx
        have := hj.2 o ho
        omega
      · exact hj.2 x hx
    · obtain ⟨x, hx, hxv⟩ := hl
      have hxx := hx
      rw [set_get hil] at hx
      split at hx
      · rename_i e
        subst e
        simp only [Option.some.injEq] at hx
        subst hx
        have h1 := hj.2 o ho
        omega
      · rename_i e
        refine ⟨⟨x, hx, hxv⟩, by unfold more; rw [if_neg e], ?_, fun b' hb' => ?_⟩
        · unfold olen; rw [hxx, hx]
        · unfold bsize
          rw [hp b' (hI.block ⟨x, hx⟩ hb')]
  imm := fun k hk => by
    refine ⟨hp k hk.1, Nat.lt_of_lt_of_le hk.1 hw.size, fun j hj => ?_⟩
    unfold more
    split
    · intro h; cases h; have := hk.1; omega
    · exact hk.2 j ((alive_set ⟨o, ho⟩).mp hj)
  os := hw.os
  tape := hw.tape
  output := hw.output
  size := hw.size

theorem move_inv (hI : Inv β H w) {w' : World} {i b : Nat} {o o' : OB} (ho : H[i]? = some (some o)) (hb : w.heap.size ≤ b)
    (hp : ∀ k, k < w.heap.size → w'.heap[k]? = w.heap[k]?) (he : Ext β H w (more β i (some b)) (H.set i (some o')) w') (hok : ObOk (more β i (some b)) (H.set i (some o')) w' i o') :
    Inv (more β i (some b)) (H.set i (some o')) w' where
  ok := fun j x hx => by
    rw [set_get (Alive.lt ⟨o, ho⟩)] at hx
    split at hx
    · rename_i e
      subst e
      simp only [Option.some.injEq] at hx
      subst hx
      exact hok
    · rename_i e
      exact (hI.ok j x hx).mono he (by unfold more; rw [if_neg e]) fun k hk => hp k (hI.block ⟨x, hx⟩ hk)
  inj := fun j k b' hj hk hbj hbk => by
    have hj' := (alive_set ⟨o, ho⟩).mp hj
    have hk' := (alive_set ⟨o, ho⟩).mp hk
    unfold more at hbj hbk
    split at hbj <;> split at hbk
    · subst_vars; rfl
    · cases hbj; have := hI.block hk' hbk; omega
    · cases hbk; have := hI.block hj' hbj; omega
    · exact hI.inj j k b' hj' hk' hbj hbk

end Go.Proofs.SL
