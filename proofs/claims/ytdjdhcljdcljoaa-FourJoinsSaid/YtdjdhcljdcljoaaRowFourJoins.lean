/-
  The row of the law FourJoins: the statement, out of what the law computes.
-/
import Derived.Test.YtdjdhcljdcljoaaRows
import Derived.Test.YtdjdhcljdcljoaaTryM
import Derived.Test.YtdjdhcljdcljoaaSlRow
import Derived.WalkKit
import Derived.ProofKit
import Derived.OpenShut
import Derived.ShutString
import Derived.ChangeOld
import Derived.SizedLaws
namespace Go.Proofs.Ytdjdhcljdcljoaa.fourJoins
open Go.ChangeShapes Go.WideShapes Go.ChangeAt Go.RowKit
open Go.ChangeMaps (open_string shut_string)
set_option linter.unusedVariables false
theorem own : ownKnob Try.prog.godebug = none := by kernel_rfl
set_option maxRecDepth 100000 in
theorem lifted (os : Os) (started : os.Started) (H : Type) (enc : TypeId × Value → H) :
    ReturnsInHanded {} Try.checked os 5 .any (Rows.fourJoinsSpec.pre6 enc Try.prog Try.f5 Rows.fourJoinsRow.domain false) (Rows.fourJoinsSpec.post enc Try.prog Try.f5 false true false false) := by
  refine returnsInHanded_of_change_sized (C := Try.checked) own started (by kernel_rfl) Try.func5
    (ChangeSpec.witness6 (enc := enc) (C := Try.checked) false ⟨#[], #[.int .u8 0, .int .u8 0, .int .u32 0], []⟩ 8 (by kernel_rfl) (by kernel_rfl) (by kernel_rfl) (by kernel_rfl)) ?_
  intro W base args ds gs before hval0 hW hcnd hsz0 _
  have hsz : (DataW.weightsEach Try.prog (Try.f5.params.toList ++ Rows.fourJoinsSpec.plain.varTypes Try.prog) (ds ++ gs)).all (· ≤ reachBytes) = true := hsz0
  have hval : ∀ (j : Nat) t v, Try.f5.params[j]? = some t → args[j]? = some v → Value.okWide Try.prog W .any base t v := hval0
  have hW' := hW
  obtain ⟨p, q, hA0, hV, rfl, hfz, hnd⟩ := hW
  have hA : DataW.TrodAll enc Try.prog W 0 (fun _ => true) true Try.f5.params.toList args.toList ds p := hA0
  rw [Try.params5] at hA hval hsz
  obtain ⟨v0, vs0, d0, ds0, p0, q0, hargs, rfl, rfl, h0, r0⟩ := trodAll_cons hA
  obtain ⟨v1, vs1, d1, ds1, p1, q1, rfl, rfl, rfl, h1, r1⟩ := trodAll_cons r0
  obtain ⟨v2, vs2, d2, ds2, p2, q2, rfl, rfl, rfl, h2, r2⟩ := trodAll_cons r1
  obtain ⟨rfl, rfl, rfl⟩ := trodAll_nil r2
  obtain rfl : args = #[v0, v1, v2] := by cases args; simp_all
  obtain ⟨rfl, rfl⟩ := trodVars_none hV
  obtain ⟨a0, rfl, rfl, rfl, w0⟩ := open_int (k := .u8) (by kernel_rfl) (hval 0 _ v0 rfl rfl) h0
  obtain ⟨n0, rfl, b0⟩ := SL.u8_of w0
  obtain ⟨a1, rfl, rfl, rfl, w1⟩ := open_int (k := .u8) (by kernel_rfl) (hval 1 _ v1 rfl rfl) h1
  obtain ⟨n1, rfl, b1⟩ := SL.u8_of w1
  obtain ⟨a2, rfl, rfl, rfl, w2⟩ := open_int (k := .u32) (by kernel_rfl) (hval 2 _ v2 rfl rfl) h2
  obtain ⟨n2, rfl, b2⟩ := SL.u32_of w2
  clear hA0 hval0 hsz0 hsz
  refine (SL.law_walk (args := [.int .u8 (n0 : Int), .int .u8 (n1 : Int), .int .u32 (n2 : Int)]) (TryC.c5 n0 b0 n1 b1 n2 b2) rfl ?_).mono fun e W' ⟨he, bel⟩ => ?_
  · intro i v p h1 h2
    rcases i with _ | i
    · cases h1; cases h2; exact SL.V.int _ _
    rcases i with _ | i
    · cases h1; cases h2; exact SL.V.int _ _
    rcases i with _ | i
    · cases h1; cases h2; exact SL.V.int _ _
    simp at h1
  subst he
  exact ⟨_, rfl, _, _, _, [], _, [], hW', trodAll_mk1 (shut_bool (by kernel_rfl) _), (trodAll_cons_mk (shut_int (by kernel_rfl) w0) (trodAll_cons_mk (shut_int (by kernel_rfl) w1) (trodAll_cons_mk (shut_int (by kernel_rfl) w2) trodAll_mk0))), rfl, bel.frame _, fun h => by cases h⟩
theorem over : Rows.fourJoinsRow.holds Try.pinned (OpenSpec.ofChange Rows.fourJoinsSpec) :=
  OpenClaim.holds_of_wide 5 Try.f5 rfl rfl rfl rfl rfl rfl rfl ⟨rfl, rfl, rfl, rfl, rfl⟩ rfl rfl rfl rfl rfl (by kernel_rfl) Try.func5 (by kernel_rfl)
    (of_decide_eq_true (by kernel_rfl)) (by unfold Func.isWrapper; first | (rw [if_pos (by decide +kernel)]; kernel_rfl) | (rw [if_neg (by decide +kernel)]; exact ⟨rfl, rfl⟩))
    (fun os started H enc _ => lifted os started H enc)
theorem proved : Rows.FourJoinsSaid := over
end Go.Proofs.Ytdjdhcljdcljoaa.fourJoins
namespace Go.Proofs.Ytdjdhcljdcljoaa
/-- The row, under a short name, for the claim. -/
theorem fourJoins_holds : Rows.FourJoinsSaid := fourJoins.proved
end Go.Proofs.Ytdjdhcljdcljoaa

