/-
  The row of the law FourLoose: the statement, out of what the law computes.
-/
import Derived.Test.YtdjdhcljdcljoaaRows
import Derived.Test.YtdjdhcljdcljoaaTryJ
import Derived.Test.YtdjdhcljdcljoaaSlRow
import Derived.WalkKit
import Derived.ProofKit
import Derived.OpenShut
import Derived.ShutString
import Derived.ChangeOld
import Derived.SizedLaws
namespace Go.Proofs.Ytdjdhcljdcljoaa.fourLoose
open Go.ChangeShapes Go.WideShapes Go.ChangeAt Go.RowKit
open Go.ChangeMaps (open_string shut_string)
set_option linter.unusedVariables false
theorem own : ownKnob Try.prog.godebug = none := by kernel_rfl
set_option maxRecDepth 100000 in
theorem lifted (os : Os) (started : os.Started) (H : Type) (enc : TypeId × Value → H) :
    ReturnsInHanded {} Try.checked os 3 .any (Rows.fourLooseSpec.pre6 enc Try.prog Try.f3 Rows.fourLooseRow.domain false) (Rows.fourLooseSpec.post enc Try.prog Try.f3 false true false false) := by
  refine returnsInHanded_of_change_sized (C := Try.checked) own started (by kernel_rfl) Try.func3
    (ChangeSpec.witness6 (enc := enc) (C := Try.checked) false ⟨#[], #[.string ByteArray.empty], []⟩ 8 (by kernel_rfl) (by kernel_rfl) (by kernel_rfl) (by kernel_rfl)) ?_
  intro W base args ds gs before hval0 hW hcnd hsz0 _
  have hsz : (DataW.weightsEach Try.prog (Try.f3.params.toList ++ Rows.fourLooseSpec.plain.varTypes Try.prog) (ds ++ gs)).all (· ≤ reachBytes) = true := hsz0
  have hval : ∀ (j : Nat) t v, Try.f3.params[j]? = some t → args[j]? = some v → Value.okWide Try.prog W .any base t v := hval0
  have hW' := hW
  obtain ⟨p, q, hA0, hV, rfl, hfz, hnd⟩ := hW
  have hA : DataW.TrodAll enc Try.prog W 0 (fun _ => true) true Try.f3.params.toList args.toList ds p := hA0
  rw [Try.params3] at hA hval hsz
  obtain ⟨v0, vs0, d0, ds0, p0, q0, hargs, rfl, rfl, h0, r0⟩ := trodAll_cons hA
  obtain ⟨rfl, rfl, rfl⟩ := trodAll_nil r0
  obtain rfl : args = #[v0] := by cases args; simp_all
  obtain ⟨rfl, rfl⟩ := trodVars_none hV
  obtain ⟨a0, rfl, rfl, rfl, y0⟩ := open_string (by kernel_rfl) (hval 0 _ v0 rfl rfl) h0
  obtain ⟨l0, rfl⟩ := SL.bs_of a0
  clear hA0 hval0 hsz0 hsz
  refine (SL.law_walk (args := [.str (SL.bs l0)]) (TryC.c3 l0) rfl ?_).mono fun e W' ⟨he, bel⟩ => ?_
  · intro i v p h1 h2
    rcases i with _ | i
    · cases h1; cases h2; exact SL.V.str _
    simp at h1
  subst he
  exact ⟨_, rfl, _, _, _, [], _, [], hW', trodAll_mk1 (shut_bool (by kernel_rfl) _), (trodAll_cons_mk (shut_string (by kernel_rfl) y0) trodAll_mk0), rfl, bel.frame _, fun h => by cases h⟩
theorem over : Rows.fourLooseRow.holds Try.pinned (OpenSpec.ofChange Rows.fourLooseSpec) :=
  OpenClaim.holds_of_wide 3 Try.f3 rfl rfl rfl rfl rfl rfl rfl ⟨rfl, rfl, rfl, rfl, rfl⟩ rfl rfl rfl rfl rfl (by kernel_rfl) Try.func3 (by kernel_rfl)
    (of_decide_eq_true (by kernel_rfl)) (by unfold Func.isWrapper; first | (rw [if_pos (by decide +kernel)]; kernel_rfl) | (rw [if_neg (by decide +kernel)]; exact ⟨rfl, rfl⟩))
    (fun os started H enc _ => lifted os started H enc)
theorem proved : Rows.FourLooseSaid := over
end Go.Proofs.Ytdjdhcljdcljoaa.fourLoose
namespace Go.Proofs.Ytdjdhcljdcljoaa
/-- The row, under a short name, for the claim. -/
theorem fourLoose_holds : Rows.FourLooseSaid := fourLoose.proved
end Go.Proofs.Ytdjdhcljdcljoaa

