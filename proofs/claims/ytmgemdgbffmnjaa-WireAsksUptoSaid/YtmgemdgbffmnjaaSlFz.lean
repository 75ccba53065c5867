/-
  SL: a variable that will not change any more. No claim by itself.
-/
import Derived.Test.YtmgemdgbffmnjaaSlHp
namespace Go.Proofs.SL
open Go
set_option linter.unusedSimpArgs false
set_option linter.unusedVariables false
section
variable {H0 : Heap} {σ : Env} {H : Heap}
theorem Ghost.freezePtr {t i ver : Nat} (x : PV) {cs : List PV} (ht : σ[t]? = some (.ptr i ver 0)) (ho : H[i]? = some (some (.cells ver cs))) (hx : x.cells = cs) : Ghost H0 σ H (σ.set t (.cptr x)) (H.set i none) :=
  fun β0 w0 β w a h1 h2 h3 => ⟨β, kill_inv h1, h2.trans (kill_ext β H w i), by
    have h4 := h3.mono (kill_ext β H w i)
    refine { h4 with size := by rw [List.length_set]; exact h4.size, v := fun j p hp => ?_ }
    by_cases e : t = j
    · subst e
      have hlt : t < σ.length := lt_of_get ht
      rw [List.getElem?_set_self hlt] at hp
      cases hp
      have hv := h3.v t _ ht
      generalize a.tmps.getD t undef = v at hv ⊢
      cases hv with
      | ptr b _ _ _ hi h =>
        have hb := h ⟨_, ho, rfl⟩
        obtain ⟨c, ty, fz, f, a1, a2, a3, a4, a5, a6⟩ := (h1.ok i _ ho).2 b hb
        subst hx
        refine .cptr b 0 x f ⟨h1.block ⟨_, ho⟩ hb, fun j hj hjb => ?_⟩ (fun k hk => ?_) (fun k p hp => (a4 k p hp).mono (kill_ext β H w i)) a5
        · obtain ⟨o, hoj, _⟩ := hj
          obtain ⟨hj1, hj2⟩ := kill_get hoj
          exact hj2 (h1.inj j i b ⟨o, hj1⟩ ⟨_, ho⟩ hjb hb)
        · rw [Nat.zero_add, cell_of a1]; exact a3 _ hk
    · rw [List.getElem?_set_ne e] at hp
      exact h4.v j p hp⟩
end
end Go.Proofs.SL
