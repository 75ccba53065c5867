/-
  SL: a growing slice in a cell that will not change any more. No claim by itself.
-/
import Derived.Test.YtmgemdgbffmnjaaSlFz
namespace Go.Proofs.SL
open Go
set_option linter.unusedSimpArgs false
set_option linter.unusedVariables false
section
variable {H0 : Heap} {σ : Env} {H : Heap}
/-- A slice that grew, when its object is killed: a read-only one. -/
theorem freezeV {β : Nat → Option Nat} {w : World} {v : Value} {i ver off len m : Nat} {tip : Bool} {cs xs : List PV} (h1 : Inv β H w) (hv : V β H w v (.buf i ver off len m tip)) (ho : H[i]? = some (some (.cells ver cs)))
    (hx : flat xs = subCells cs off (len * m)) (hl : xs.length = len) (hm : ∀ x ∈ xs, x.cells.length = m) : V β (H.set i none) w v (.sl m xs) := by
  subst hl
  cases hv with
  | buf ad cap _ _ _ _ _ _ hc ha hi h =>
    by_cases hz : xs = []
    · subst hz; exact .sl0 _ _ _
    have hne : xs.length ≠ 0 := by simpa using hz
    obtain ⟨b, rfl⟩ := ha hne
    obtain ⟨hn, hs⟩ := h ⟨_, ho, rfl⟩
    have hob := h1.ok i _ ho
    cases hb : β i with
    | none => have := (hn hb).1; omega
    | some b' =>
      have hb' : b = b' := by
        rcases hs b' hb with ⟨h, _⟩ | ⟨h, _⟩
        · exact absurd h hne
        · cases h; rfl
      subst hb'
      obtain ⟨c, ty, fz, f, a1, a2, a3, a4, a5, a6⟩ := hob.2 b hb
      have hlen := congrArg List.length hx
      have hfl : (flat xs).length = xs.length * m := by
        clear hx ha h hs hlen hne hz hc
        induction xs with
        | nil => simp [flat]
        | cons x xs ih =>
          have := ih fun y hy => hm y (List.mem_cons_of_mem _ hy)
          have hx := hm x (by simp)
          simp only [flat, List.flatMap_cons, List.length_append] at this ⊢
          rw [this, hx, List.length_cons, Nat.succ_mul]; omega
      have hle : (flat xs).length ≤ cs.length - off := by rw [hx]; simp [subCells]; omega
      have hpos : ∀ k, k < (flat xs).length → off + k < cs.length := fun k hk => by omega
      refine .sl b off cap m xs (fun k => f (off + k)) ⟨?_, fun j hj => ?_⟩ hm hc (fun k hk => ?_) (fun k p hp => ?_) fun k hk => a5 _ (hpos k hk)
      · exact h1.block ⟨_, ho⟩ hb
      · intro hjb
        obtain ⟨o, hoj, _⟩ := hj
        obtain ⟨hj1, hj2⟩ := kill_get hoj
        exact hj2 (h1.inj j i b ⟨o, hj1⟩ ⟨_, ho⟩ hjb hb)
      · rw [cell_of a1]; exact a3 _ (hpos k hk)
      · have hk : k < (flat xs).length := lt_of_get hp
        refine (a4 (off + k) p ?_).mono (kill_ext β H w i)
        rw [hx] at hp
        simp only [subCells] at hp
        rw [List.getElem?_take_of_lt (by omega), List.getElem?_drop] at hp
        exact hp
/-- A slice that grew in an object's cell is a read-only one from here on. -/
theorem Ghost.freezeCell {i j ver vj off len m : Nat} (k : Nat) (xs : List PV) {tip : Bool} {cs es : List PV} (ho : H[i]? = some (some (.cells ver cs))) (hk : cs[k]? = some (.buf j vj off len m tip)) (hj : H[j]? = some (some (.cells vj es))) (hij : j ≠ i)
    (hx : flat xs = subCells es off (len * m)) (hl : xs.length = len) (hm : ∀ x ∈ xs, x.cells.length = m) : Ghost H0 σ H σ ((H.set j none).set i (some (.cells ver (cs.set k (.sl m xs))))) :=
  fun β0 w0 β w a h1 h2 h3 => by
    have hs : Same w w := ⟨rfl, rfl, rfl, Nat.le_refl _⟩
    have he := kill_ext β H w j
    have hi := kill_inv (i := j) h1
    have ho2 : (H.set j none)[i]? = some (some (.cells ver cs)) := by rw [List.getElem?_set_ne hij]; exact ho
    have hok0 := h1.ok i _ ho
    have hok := hi.ok i _ ho2
    cases hb : β i with
    | none => have := hok.1 hb; subst this; simp at hk
    | some b =>
      have he2 := set_ext hi hs ho2 hb (fun _ _ _ => rfl) rfl (o' := .cells ver (cs.set k (.sl m xs))) (.inr ⟨rfl, by simp [OB.len]⟩)
      obtain ⟨c, t, fz, f, a1, a2, a3, a4, a5, a6⟩ := hok.2 b hb
      have hkl : k < cs.length := lt_of_get hk
      have hv : V β (H.set j none) w (f k) (.sl m xs) := by
        obtain ⟨c', t', fz', f', b1, b2, b3, b4, b5, b6⟩ := hok0.2 b hb
        have e : f' k = f k := by
          have hcc : c' = c := by rw [b1] at a1; cases a1; rfl
          have h5 := b3 k hkl
          have h6 := a3 k hkl
          rw [hcc, h6] at h5
          exact (Option.some.inj h5).symm
        rw [← e]
        exact freezeV h1 (b4 k _ hk) hj hx hl hm
      have hi2 := set_inv hi ho2 hb (fun _ _ _ => rfl) he2 (by
        refine ⟨fun hn => (by rw [hb] at hn; cases hn), fun b' hb' => ?_⟩
        rw [hb] at hb'
        cases hb'
        refine ⟨c, t, fz, f, a1, by simpa using a2, fun j hj => a3 j (by simpa using hj), fun j p hp => ?_, fun j hj => a5 j (by simpa using hj), a6⟩
        by_cases hjk : k = j
        · subst hjk
          rw [List.getElem?_set_self hkl] at hp
          cases hp
          exact hv.mono he2
        · rw [List.getElem?_set_ne hjk] at hp
          exact (a4 j p hp).mono he2)
      exact ⟨_, hi2, (h2.trans he).trans he2, (h3.mono he).mono he2⟩
end
end Go.Proofs.SL
