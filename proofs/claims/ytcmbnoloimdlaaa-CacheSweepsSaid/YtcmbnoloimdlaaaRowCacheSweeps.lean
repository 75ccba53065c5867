/-
  The row of the law CacheSweeps: the statement, out of what the law computes, whatever the named variables hold.
-/
import Derived.Test.YtcmbnoloimdlaaaRows
import Derived.Test.YtcmbnoloimdlaaaGoCache9
import Derived.Test.YtcmbnoloimdlaaaSlArgS
import Derived.WalkKit
import Derived.ProofKit
import Derived.OpenShut
import Derived.ShutString
import Derived.ChangeOld
import Derived.SizedLaws
namespace Go.Proofs.Ytcmbnoloimdlaaa.cacheSweeps
open Go.ChangeShapes Go.WideShapes Go.ChangeAt Go.RowKit
open Go.ChangeMaps (open_string shut_string)
set_option linter.unusedVariables false
set_option maxRecDepth 100000
theorem own : ownKnob Try.prog.godebug = none := by kernel_rfl
theorem lifted (os : Os) (started : os.Started) (H : Type) (enc : TypeId × Value → H) :
    ReturnsInHanded {} Try.checked os 4 .any (Rows.cacheSweepsSpec.pre6 enc Try.prog Try.f4 Rows.cacheSweepsRow.domain false) (Rows.cacheSweepsSpec.post enc Try.prog Try.f4 false true false false) := by
  refine SL.returns_named (C := Try.checked) own started (by kernel_rfl) Try.func4
    (ChangeSpec.witness6 (enc := enc) (C := Try.checked) false ⟨#[], #[.slice none 0 0, .int .i64 0], []⟩ 8 (by kernel_rfl) (by kernel_rfl) (by kernel_rfl) (by kernel_rfl)) ?_
  intro W base args ds gs before hval0 hW hsh
  have hval : ∀ (j : Nat) t v, Try.f4.params[j]? = some t → args[j]? = some v → Value.okWide Try.prog W .any base t v := hval0
  have hW' := hW
  obtain ⟨p, q, hA0, hV, rfl, hfz, hnd⟩ := hW
  have hA : DataW.TrodAll enc Try.prog W 0 (fun _ => true) true Try.f4.params.toList args.toList ds p := hA0
  rw [Try.params4] at hA hval
  obtain ⟨v0, vs0, d0, ds0, p0, q0, hargs, rfl, rfl, h0, r0⟩ := trodAll_cons hA
  obtain ⟨v1, vs1, d1, ds1, p1, q1, rfl, rfl, rfl, h1, r1⟩ := trodAll_cons r0
  obtain ⟨rfl, rfl, rfl⟩ := trodAll_nil r1
  obtain rfl : args = #[v0, v1] := by cases args; simp_all
  obtain ⟨rfl, rfl⟩ := trodVars_none hV
  have hG : GoC.GTab (SL.globs []) := ⟨(fun b hb => by cases hb.symm.trans (show Try.prog.globalNamed "internal/strconv.uint64pow10" = none by kernel_rfl)), (fun b hb => by cases hb.symm.trans (show Try.prog.globalNamed "math/bits.deBruijn64tab" = none by kernel_rfl)), (fun b hb => by cases hb.symm.trans (show Try.prog.globalNamed "internal/bytealg.MaxLen" = none by kernel_rfl))⟩
  have g0 := h0
  obtain ⟨ys0, hy0, hyl0, hyv0⟩ := SL.open_sl (G := []) (l := [.i .i64]) (e := 3) false (by kernel_rfl) (by kernel_rfl) (by kernel_rfl) (by decide) (fun _ => rfl) (hval 0 _ v0 rfl rfl) h0
  obtain ⟨l0, hl0, hll0, hm0⟩ := SL.ys_i64s hy0
  rw [hl0] at hyv0
  have hlt0 : l0.length ≤ 9223372036854775807 := Nat.le_trans (hll0 ▸ hyl0) (by decide)
  have g1 := h1
  obtain ⟨a1, rfl, rfl, rfl, w1⟩ := open_int (k := .i64) (by kernel_rfl) (hval 1 _ v1 rfl rfl) h1
  refine (SL.law_walk_g (G := []) (args := [.sl 1 (GoC.intsV l0), .int .i64 a1]) (List.nodup_iff_pairwise_ne.mpr (by simp)) (fun x hx => by cases hx) (fun x hx => by cases hx) (GoC.c_abatislaw10_CacheSweeps l0 hm0 hlt0 a1 (SL.i64_of w1).1 (SL.i64_of w1).2 _ hG) rfl ?_).mono fun e W' ⟨he, bel⟩ => ?_
  · intro i v p h1 h2
    rcases i with _ | i
    · cases h1; cases h2; exact hyv0
    rcases i with _ | i
    · cases h1; cases h2; exact SL.V.int _ _
    simp at h1
  subst he
  exact ⟨_, rfl, _, _, _, [], _, [], hW', trodAll_mk1 (shut_bool (by kernel_rfl) _), (trodAll_cons_mk (SL.trod_back (by kernel_rfl) (by kernel_rfl) (of_decide_eq_true (by kernel_rfl)) g0 bel) (trodAll_cons_mk (SL.trod_back (by kernel_rfl) (by kernel_rfl) (of_decide_eq_true (by kernel_rfl)) g1 bel) trodAll_mk0)), rfl, bel.frame _, fun h => by cases h⟩
theorem over : Rows.cacheSweepsRow.holds Try.pinned (OpenSpec.ofChange Rows.cacheSweepsSpec) :=
  OpenClaim.holds_of_wide 4 Try.f4 rfl rfl rfl rfl rfl rfl rfl ⟨rfl, rfl, rfl, rfl, rfl⟩ rfl rfl rfl rfl rfl (by kernel_rfl) Try.func4 (by kernel_rfl)
    (of_decide_eq_true (by kernel_rfl)) (by unfold Func.isWrapper; first | (rw [if_pos (by decide +kernel)]; kernel_rfl) | (rw [if_neg (by decide +kernel)]; exact ⟨rfl, rfl⟩))
    (fun os started H enc _ => lifted os started H enc)
theorem proved : Rows.CacheSweepsSaid := over
end Go.Proofs.Ytcmbnoloimdlaaa.cacheSweeps
namespace Go.Proofs.Ytcmbnoloimdlaaa
/-- The row, under a short name, for the claim. -/
theorem cacheSweeps_holds : Rows.CacheSweepsSaid := cacheSweeps.proved
end Go.Proofs.Ytcmbnoloimdlaaa
