/-
  The row of the law CachePlays: the statement, out of what the law computes, whatever the named variables hold.
-/
import Derived.Test.YtcmbnoloimdlaaaRows
import Derived.Test.YtcmbnoloimdlaaaGoCacheN
import Derived.Test.YtcmbnoloimdlaaaSlArgS
import Derived.Test.YtcmbnoloimdlaaaSlArgN
import Derived.WalkKit
import Derived.ProofKit
import Derived.OpenShut
import Derived.ShutString
import Derived.ChangeOld
import Derived.SizedLaws
namespace Go.Proofs.Ytcmbnoloimdlaaa.cachePlays
open Go.ChangeShapes Go.WideShapes Go.ChangeAt Go.RowKit
open Go.ChangeMaps (open_string shut_string)
set_option linter.unusedVariables false
set_option maxRecDepth 100000
theorem own : ownKnob Try.prog.godebug = none := by kernel_rfl
theorem lifted (os : Os) (started : os.Started) (H : Type) (enc : TypeId × Value → H) :
    ReturnsInHanded {} Try.checked os 7 .any (Rows.cachePlaysSpec.pre6 enc Try.prog Try.f7 Rows.cachePlaysRow.domain false) (Rows.cachePlaysSpec.post enc Try.prog Try.f7 false true false false) := by
  refine SL.returns_named (C := Try.checked) own started (by kernel_rfl) Try.func7
    (ChangeSpec.witness6 (enc := enc) (C := Try.checked) false ⟨#[], #[.int .i64 0, .slice none 0 0], []⟩ 8 (by kernel_rfl) (by kernel_rfl) (by kernel_rfl) (by kernel_rfl)) ?_
  intro W base args ds gs before hval0 hW hsh
  have hval : ∀ (j : Nat) t v, Try.f7.params[j]? = some t → args[j]? = some v → Value.okWide Try.prog W .any base t v := hval0
  have hW' := hW
  obtain ⟨p, q, hA0, hV, rfl, hfz, hnd⟩ := hW
  have hA : DataW.TrodAll enc Try.prog W 0 (fun _ => true) true Try.f7.params.toList args.toList ds p := hA0
  rw [Try.params7] at hA hval
  obtain ⟨v0, vs0, d0, ds0, p0, q0, hargs, rfl, rfl, h0, r0⟩ := trodAll_cons hA
  obtain ⟨v1, vs1, d1, ds1, p1, q1, rfl, rfl, rfl, h1, r1⟩ := trodAll_cons r0
  obtain ⟨rfl, rfl, rfl⟩ := trodAll_nil r1
  obtain rfl : args = #[v0, v1] := by cases args; simp_all
  obtain ⟨rfl, rfl⟩ := trodVars_none hV
  have hG : GoC.GTab (SL.globs []) := ⟨(fun b hb => by cases hb.symm.trans (show Try.prog.globalNamed "internal/strconv.uint64pow10" = none by kernel_rfl)), (fun b hb => by cases hb.symm.trans (show Try.prog.globalNamed "math/bits.deBruijn64tab" = none by kernel_rfl)), (fun b hb => by cases hb.symm.trans (show Try.prog.globalNamed "internal/bytealg.MaxLen" = none by kernel_rfl))⟩
  have g0 := h0
  obtain ⟨a0, rfl, rfl, rfl, w0⟩ := open_int (k := .i64) (by kernel_rfl) (hval 0 _ v0 rfl rfl) h0
  have g1 := h1
  obtain ⟨ys1, hy1, hyl1, hyv1⟩ := SL.open_slNB (G := []) (e := 60) (fss := (GoC.cdFS 51)) (by kernel_rfl) (by kernel_rfl) (by decide) (hval 1 _ v1 rfl rfl) h1
  obtain ⟨l1, hl1, hll1, ko1⟩ := GoC.cds_of hy1
  rw [hl1] at hyv1
  have hlt1 : l1.length ≤ 9223372036854775807 := Nat.le_trans (hll1 ▸ hyl1) (by decide)
  refine (SL.law_walk_g (G := []) (args := [.int .i64 a0, .sl 6 (GoC.cdV l1)]) (List.nodup_iff_pairwise_ne.mpr (by simp)) (fun x hx => by cases hx) (fun x hx => by cases hx) (GoC.c_abatislaw10_CachePlays a0 l1 ko1 hlt1 _ hG) rfl ?_).mono fun e W' ⟨he, bel⟩ => ?_
  · intro i v p h1 h2
    rcases i with _ | i
    · cases h1; cases h2; exact SL.V.int _ _
    rcases i with _ | i
    · cases h1; cases h2; exact hyv1
    simp at h1
  subst he
  exact ⟨_, rfl, _, _, _, [], _, [], hW', trodAll_mk1 (shut_bool (by kernel_rfl) _), (trodAll_cons_mk (SL.trod_back (by kernel_rfl) (by kernel_rfl) (of_decide_eq_true (by kernel_rfl)) g0 bel) (trodAll_cons_mk (SL.trod_back (by kernel_rfl) (by kernel_rfl) (of_decide_eq_true (by kernel_rfl)) g1 bel) trodAll_mk0)), rfl, bel.frame _, fun h => by cases h⟩
theorem over : Rows.cachePlaysRow.holds Try.pinned (OpenSpec.ofChange Rows.cachePlaysSpec) :=
  OpenClaim.holds_of_wide 7 Try.f7 rfl rfl rfl rfl rfl rfl rfl ⟨rfl, rfl, rfl, rfl, rfl⟩ rfl rfl rfl rfl rfl (by kernel_rfl) Try.func7 (by kernel_rfl)
    (of_decide_eq_true (by kernel_rfl)) (by unfold Func.isWrapper; first | (rw [if_pos (by decide +kernel)]; kernel_rfl) | (rw [if_neg (by decide +kernel)]; exact ⟨rfl, rfl⟩))
    (fun os started H enc _ => lifted os started H enc)
theorem proved : Rows.CachePlaysSaid := over
end Go.Proofs.Ytcmbnoloimdlaaa.cachePlays
namespace Go.Proofs.Ytcmbnoloimdlaaa
/-- The row, under a short name, for the claim. -/
theorem cachePlays_holds : Rows.CachePlaysSaid := cachePlays.proved
end Go.Proofs.Ytcmbnoloimdlaaa
