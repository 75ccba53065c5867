/-
  SL: the births of a map's entries come to light, and are forgotten again. No claim by itself.
-/
import Derived.Test.YtmgemdgbffmnjaaSlHp
namespace Go.Proofs.SL
open Go
set_option linter.unusedSimpArgs false
set_option linter.unusedVariables false

section
variable {H0 : Heap} {σ : Env} {H : Heap} {P : Program} {T : Nat → Option TD} {ord : Nat → List Nat} {Φ : AEx → Env → Heap → Prop}

/-- From here on the entries' births are known. -/
theorem Runs.births {its : List It} (hc : its.all calmB = true) {i : Nat} {es : List (PV × PV)} (ho : H[i]? = some (some (.map es)))
    (h : ∀ (n : Nat) (bs : List Nat), bs.length = es.length → (∀ b ∈ bs, b < n) → bs.Pairwise (· < ·) → Runs P T ord H0 its σ (H.set i (some (.mapx n bs es))) Φ) : Runs P T ord H0 its σ H Φ := by
  have hcalm := calm_of hc
  intro hok
  have h1 : Run P (inR ord) H0 its σ H Φ := fun β0 w0 β w a hI hE hF r hro => by
    obtain ⟨b, c, n, hb, hh, hsz, hV, hlt, hord⟩ := hI.ok i _ ho
    have he := set_ext hI (w' := w) ⟨rfl, rfl, rfl, Nat.le_refl _⟩ ho hb (fun _ _ _ => rfl) rfl (o' := .mapx n (c.toList.map (·.born)) es) (.inr ⟨rfl, rfl⟩)
    have hi := set_inv hI ho hb (fun _ _ _ => rfl) he (o' := .mapx n (c.toList.map (·.born)) es) ⟨b, c, hb, hh, hsz, fun j e p h1 h2 => ⟨(hV j e p h1 h2).1.mono he, (hV j e p h1 h2).2.mono he⟩, rfl,
      (fun x hx => by
        obtain ⟨e, h1, rfl⟩ := List.mem_map.mp hx
        obtain ⟨j, hj, rfl⟩ := List.getElem_of_mem h1
        exact hlt j _ (by simp [Array.getElem?_eq_getElem (by simpa using hj)])),
      (by
        rw [List.pairwise_map, List.pairwise_iff_getElem]
        intro j k hj hk hjk
        exact hord j k _ _ (by simp [Array.getElem?_eq_getElem (by simpa using hj)]) (by simp [Array.getElem?_eq_getElem (by simpa using hk)]) hjk)⟩
    refine runs_calm hcalm hok (h n (c.toList.map (·.born)) (by simpa using hsz) (fun x hx => ?_) ?_) β0 w0 β w a hi (hE.trans he) (hF.mono he) r hro
    · obtain ⟨e, h1, rfl⟩ := List.mem_map.mp hx
      obtain ⟨j, hj, rfl⟩ := List.getElem_of_mem h1
      exact hlt j _ (by simp [Array.getElem?_eq_getElem (by simpa using hj)])
    · rw [List.pairwise_map, List.pairwise_iff_getElem]
      intro j k hj hk hjk
      exact hord j k _ _ (by simp [Array.getElem?_eq_getElem (by simpa using hj)]) (by simp [Array.getElem?_eq_getElem (by simpa using hk)]) hjk
  cases its with
  | nil => exact h1
  | cons it k =>
    have := hcalm it (by simp)
    cases it <;> simp only [Calm] at this <;> exact h1

/-- The births are forgotten. -/
theorem Ghost.unborn {i n : Nat} {bs : List Nat} {es : List (PV × PV)} (ho : H[i]? = some (some (.mapx n bs es))) : Ghost H0 σ H σ (H.set i (some (.map es))) :=
  fun β0 w0 β w a hI hE hF => by
    obtain ⟨b, c, hb, hh, hsz, hV, hbs, hlt, hpw⟩ := hI.ok i _ ho
    have he := set_ext hI (w' := w) ⟨rfl, rfl, rfl, Nat.le_refl _⟩ ho hb (fun _ _ _ => rfl) rfl (o' := .map es) (.inr ⟨rfl, rfl⟩)
    refine ⟨β, set_inv hI ho hb (fun _ _ _ => rfl) he ⟨b, c, n, hb, hh, hsz, fun j e p h1 h2 => ⟨(hV j e p h1 h2).1.mono he, (hV j e p h1 h2).2.mono he⟩, fun j e h1 => ?_, fun j k e f h1 h2 hjk => ?_⟩, hE.trans he, hF.mono he⟩
    · exact hlt _ (by rw [← hbs]; exact List.mem_map_of_mem (List.mem_of_getElem? (by simpa using h1)))
    · have a1 : bs[j]? = some e.born := by rw [← hbs, List.getElem?_map]; simp [h1]
      have a2 : bs[k]? = some f.born := by rw [← hbs, List.getElem?_map]; simp [h2]
      rw [List.pairwise_iff_getElem] at hpw
      have l1 := lt_of_get a1
      have l2 := lt_of_get a2
      have := hpw j k l1 l2 hjk
      rw [List.getElem?_eq_getElem l1] at a1
      rw [List.getElem?_eq_getElem l2] at a2
      rw [Option.some.inj a1, Option.some.inj a2] at this
      exact this

/-- A nil slice is an empty one that is read only. -/
theorem Ghost.niled {t : Nat} (m : Nat) (ht : σ[t]? = some .nils) : Ghost H0 σ H (σ.set t (.sl m [])) H :=
  fun β0 w0 β w a h1 h2 h3 => ⟨β, h1, h2, by
    refine { h3 with size := by rw [List.length_set]; exact h3.size, v := fun j p hp => ?_ }
    by_cases e : t = j
    · subst e
      rw [List.getElem?_set_self (lt_of_get ht)] at hp
      cases hp
      have hv := h3.v t _ ht
      generalize a.tmps.getD t undef = v at hv ⊢
      rw [hv.nils_inv]
      exact .sl0 none 0 m
    · rw [List.getElem?_set_ne e] at hp
      exact h3.v j p hp⟩

/-- What stands first may be in the midst of a region whose order is as written. -/
def softB : It → Bool
  | .ops _ _ => true
  | it => calmB it

/-- A ghost step in the midst of a region whose order is as written. -/
theorem Runs.ghost' {σ' : Env} {H' : Heap} {it : It} {its : List It} (hs : softB it = true) (g : Ghost H0 σ H σ' H') (h : Runs P T ord H0 (it :: its) σ' H' Φ) : Runs P T ord H0 (it :: its) σ H Φ := by
  intro hok
  have h1 := h hok
  cases it <;> simp only [softB, calmB, Bool.false_eq_true] at hs <;> exact g.run h1
end
end Go.Proofs.SL
