/-
  The row of the law CacheTypes: the statement, out of what the law computes, whatever the named variables hold.
-/
import Derived.Test.YtcmbnoloimdlaaaRows
import Derived.Test.YtcmbnoloimdlaaaGoCacheT
import Derived.Test.YtcmbnoloimdlaaaSlArgS
import Derived.WalkKit
import Derived.ProofKit
import Derived.OpenShut
import Derived.ShutString
import Derived.ChangeOld
import Derived.SizedLaws
namespace Go.Proofs.Ytcmbnoloimdlaaa.cacheTypes
open Go.ChangeShapes Go.WideShapes Go.ChangeAt Go.RowKit
open Go.ChangeMaps (open_string shut_string)
set_option linter.unusedVariables false
set_option maxRecDepth 100000
theorem own : ownKnob Try.prog.godebug = none := by kernel_rfl
theorem lifted (os : Os) (started : os.Started) (H : Type) (enc : TypeId × Value → H) :
    ReturnsInHanded {} Try.checked os 5 .any (Rows.cacheTypesSpec.pre6 enc Try.prog Try.f5 Rows.cacheTypesRow.domain false) (Rows.cacheTypesSpec.post enc Try.prog Try.f5 false true false false) := by
  refine SL.returns_named (C := Try.checked) own started (by kernel_rfl) Try.func5
    (ChangeSpec.witness6 (enc := enc) (C := Try.checked) false ⟨#[], #[.string ByteArray.empty, .int .i64 0, .int .i64 0, .agg #[.int .i64 0, .int .i64 0]], []⟩ 8 (by kernel_rfl) (by kernel_rfl) (by kernel_rfl) (by kernel_rfl)) ?_
  intro W base args ds gs before hval0 hW hsh
  have hval : ∀ (j : Nat) t v, Try.f5.params[j]? = some t → args[j]? = some v → Value.okWide Try.prog W .any base t v := hval0
  have hW' := hW
  obtain ⟨p, q, hA0, hV, rfl, hfz, hnd⟩ := hW
  have hA : DataW.TrodAll enc Try.prog W 0 (fun _ => true) true Try.f5.params.toList args.toList ds p := hA0
  rw [Try.params5] at hA hval
  obtain ⟨v0, vs0, d0, ds0, p0, q0, hargs, rfl, rfl, h0, r0⟩ := trodAll_cons hA
  obtain ⟨v1, vs1, d1, ds1, p1, q1, rfl, rfl, rfl, h1, r1⟩ := trodAll_cons r0
  obtain ⟨v2, vs2, d2, ds2, p2, q2, rfl, rfl, rfl, h2, r2⟩ := trodAll_cons r1
  obtain ⟨v3, vs3, d3, ds3, p3, q3, rfl, rfl, rfl, h3, r3⟩ := trodAll_cons r2
  obtain ⟨rfl, rfl, rfl⟩ := trodAll_nil r3
  obtain rfl : args = #[v0, v1, v2, v3] := by cases args; simp_all
  obtain ⟨rfl, rfl⟩ := trodVars_none hV
  have hG : GoC.GTab (SL.globs []) := ⟨(fun b hb => by cases hb.symm.trans (show Try.prog.globalNamed "internal/strconv.uint64pow10" = none by kernel_rfl)), (fun b hb => by cases hb.symm.trans (show Try.prog.globalNamed "math/bits.deBruijn64tab" = none by kernel_rfl)), (fun b hb => by cases hb.symm.trans (show Try.prog.globalNamed "internal/bytealg.MaxLen" = none by kernel_rfl))⟩
  have g0 := h0
  obtain ⟨a0, rfl, rfl, rfl, y0⟩ := open_string (by kernel_rfl) (hval 0 _ v0 rfl rfl) h0
  obtain ⟨l0, rfl⟩ := SL.bs_of a0
  have g1 := h1
  obtain ⟨a1, rfl, rfl, rfl, w1⟩ := open_int (k := .i64) (by kernel_rfl) (hval 1 _ v1 rfl rfl) h1
  have g2 := h2
  obtain ⟨a2, rfl, rfl, rfl, w2⟩ := open_int (k := .i64) (by kernel_rfl) (hval 2 _ v2 rfl rfl) h2
  have g3 := h3
  obtain ⟨x3, rfl, t3, f3, rfl⟩ := SL.open_flat (l := [.i .i64, .i .i64]) (by kernel_rfl) (by kernel_rfl) (by kernel_rfl) (hval 3 _ v3 rfl rfl) h3
  obtain ⟨k3, rfl, ko3⟩ := GoC.two_of t3 f3
  refine (SL.law_walk_g (G := []) (args := [.str (SL.bs l0), .int .i64 a1, .int .i64 a2, .agg (GoC.twoC k3)]) (List.nodup_iff_pairwise_ne.mpr (by simp)) (fun x hx => by cases hx) (fun x hx => by cases hx) (GoC.c_abatislaw10_CacheTypes l0 a1 a2 k3 ko3 _ hG) rfl ?_).mono fun e W' ⟨he, bel⟩ => ?_
  · intro i v p h1 h2
    rcases i with _ | i
    · cases h1; cases h2; exact SL.V.str _
    rcases i with _ | i
    · cases h1; cases h2; exact SL.V.int _ _
    rcases i with _ | i
    · cases h1; cases h2; exact SL.V.int _ _
    rcases i with _ | i
    · cases h1; cases h2; exact SL.V.flat t3
    simp at h1
  subst he
  exact ⟨_, rfl, _, _, _, [], _, [], hW', trodAll_mk1 (shut_bool (by kernel_rfl) _), (trodAll_cons_mk (SL.trod_back (by kernel_rfl) (by kernel_rfl) (of_decide_eq_true (by kernel_rfl)) g0 bel) (trodAll_cons_mk (SL.trod_back (by kernel_rfl) (by kernel_rfl) (of_decide_eq_true (by kernel_rfl)) g1 bel) (trodAll_cons_mk (SL.trod_back (by kernel_rfl) (by kernel_rfl) (of_decide_eq_true (by kernel_rfl)) g2 bel) (trodAll_cons_mk (SL.trod_back (by kernel_rfl) (by kernel_rfl) (of_decide_eq_true (by kernel_rfl)) g3 bel) trodAll_mk0)))), rfl, bel.frame _, fun h => by cases h⟩
theorem over : Rows.cacheTypesRow.holds Try.pinned (OpenSpec.ofChange Rows.cacheTypesSpec) :=
  OpenClaim.holds_of_wide 5 Try.f5 rfl rfl rfl rfl rfl rfl rfl ⟨rfl, rfl, rfl, rfl, rfl⟩ rfl rfl rfl rfl rfl (by kernel_rfl) Try.func5 (by kernel_rfl)
    (of_decide_eq_true (by kernel_rfl)) (by unfold Func.isWrapper; first | (rw [if_pos (by decide +kernel)]; kernel_rfl) | (rw [if_neg (by decide +kernel)]; exact ⟨rfl, rfl⟩))
    (fun os started H enc _ => lifted os started H enc)
theorem proved : Rows.CacheTypesSaid := over
end Go.Proofs.Ytcmbnoloimdlaaa.cacheTypes
namespace Go.Proofs.Ytcmbnoloimdlaaa
/-- The row, under a short name, for the claim. -/
theorem cacheTypes_holds : Rows.CacheTypesSaid := cacheTypes.proved
end Go.Proofs.Ytcmbnoloimdlaaa
