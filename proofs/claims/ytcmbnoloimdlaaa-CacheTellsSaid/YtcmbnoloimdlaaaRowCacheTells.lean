/-
  The row of the law CacheTells: the statement, out of what the law computes, whatever the named variables hold.
-/
import Derived.Test.YtcmbnoloimdlaaaRows
import Derived.Test.YtcmbnoloimdlaaaGoCacheM
import Derived.Test.YtcmbnoloimdlaaaSlArgS
import Derived.WalkKit
import Derived.ProofKit
import Derived.OpenShut
import Derived.ShutString
import Derived.ChangeOld
import Derived.SizedLaws
namespace Go.Proofs.Ytcmbnoloimdlaaa.cacheTells
open Go.ChangeShapes Go.WideShapes Go.ChangeAt Go.RowKit
open Go.ChangeMaps (open_string shut_string)
set_option linter.unusedVariables false
set_option maxRecDepth 100000
theorem own : ownKnob Try.prog.godebug = none := by kernel_rfl
theorem lifted (os : Os) (started : os.Started) (H : Type) (enc : TypeId × Value → H) :
    ReturnsInHanded {} Try.checked os 6 .any (Rows.cacheTellsSpec.pre6 enc Try.prog Try.f6 Rows.cacheTellsRow.domain false) (Rows.cacheTellsSpec.post enc Try.prog Try.f6 false true false false) := by
  refine SL.returns_named (C := Try.checked) own started (by kernel_rfl) Try.func6
    (ChangeSpec.witness6 (enc := enc) (C := Try.checked) false ⟨#[], #[.string ByteArray.empty, .int .i64 0, .slice none 0 0, .int .i64 0, .int .i64 0], []⟩ 8 (by kernel_rfl) (by kernel_rfl) (by kernel_rfl) (by kernel_rfl)) ?_
  intro W base args ds gs before hval0 hW hsh
  have hval : ∀ (j : Nat) t v, Try.f6.params[j]? = some t → args[j]? = some v → Value.okWide Try.prog W .any base t v := hval0
  have hW' := hW
  obtain ⟨p, q, hA0, hV, rfl, hfz, hnd⟩ := hW
  have hA : DataW.TrodAll enc Try.prog W 0 (fun _ => true) true Try.f6.params.toList args.toList ds p := hA0
  rw [Try.params6] at hA hval
  obtain ⟨v0, vs0, d0, ds0, p0, q0, hargs, rfl, rfl, h0, r0⟩ := trodAll_cons hA
  obtain ⟨v1, vs1, d1, ds1, p1, q1, rfl, rfl, rfl, h1, r1⟩ := trodAll_cons r0
  obtain ⟨v2, vs2, d2, ds2, p2, q2, rfl, rfl, rfl, h2, r2⟩ := trodAll_cons r1
  obtain ⟨v3, vs3, d3, ds3, p3, q3, rfl, rfl, rfl, h3, r3⟩ := trodAll_cons r2
  obtain ⟨v4, vs4, d4, ds4, p4, q4, rfl, rfl, rfl, h4, r4⟩ := trodAll_cons r3
  obtain ⟨rfl, rfl, rfl⟩ := trodAll_nil r4
  obtain rfl : args = #[v0, v1, v2, v3, v4] := by cases args; simp_all
  obtain ⟨rfl, rfl⟩ := trodVars_none hV
  have hG : GoC.GTab (SL.globs []) := ⟨(fun b hb => by cases hb.symm.trans (show Try.prog.globalNamed "internal/strconv.uint64pow10" = none by kernel_rfl)), (fun b hb => by cases hb.symm.trans (show Try.prog.globalNamed "math/bits.deBruijn64tab" = none by kernel_rfl)), (fun b hb => by cases hb.symm.trans (show Try.prog.globalNamed "internal/bytealg.MaxLen" = none by kernel_rfl))⟩
  have g0 := h0
  obtain ⟨a0, rfl, rfl, rfl, y0⟩ := open_string (by kernel_rfl) (hval 0 _ v0 rfl rfl) h0
  obtain ⟨l0, rfl⟩ := SL.bs_of a0
  have g1 := h1
  obtain ⟨a1, rfl, rfl, rfl, w1⟩ := open_int (k := .i64) (by kernel_rfl) (hval 1 _ v1 rfl rfl) h1
  have g2 := h2
  obtain ⟨ys2, hy2, hyl2, hyv2⟩ := SL.open_sl (G := []) (l := [.i .i64, .i .u8, .i .u8, .i .u8, .i .u8, .i .u8, .i .u8, .i .u8, .i .u8, .i .u8, .i .u8, .i .u8, .i .u8, .i .u8, .i .u8, .i .u8, .i .u8]) (e := 51) true (by kernel_rfl) (by kernel_rfl) (by kernel_rfl) (by decide) (fun h => by cases h) (hval 2 _ v2 rfl rfl) h2
  obtain ⟨l2, hl2, hll2, ko2⟩ := GoC.ads_of hy2
  rw [hl2] at hyv2
  have hlt2 : l2.length ≤ 9223372036854775807 := Nat.le_trans (hll2 ▸ hyl2) (by decide)
  have g3 := h3
  obtain ⟨a3, rfl, rfl, rfl, w3⟩ := open_int (k := .i64) (by kernel_rfl) (hval 3 _ v3 rfl rfl) h3
  have g4 := h4
  obtain ⟨a4, rfl, rfl, rfl, w4⟩ := open_int (k := .i64) (by kernel_rfl) (hval 4 _ v4 rfl rfl) h4
  refine (SL.law_walk_g (G := []) (args := [.str (SL.bs l0), .int .i64 a1, .sl 17 (GoC.adsV l2), .int .i64 a3, .int .i64 a4]) (List.nodup_iff_pairwise_ne.mpr (by simp)) (fun x hx => by cases hx) (fun x hx => by cases hx) (GoC.c_abatislaw10_CacheTells l0 a1 l2 ko2 hlt2 a3 a4 (SL.i64_of w3).1 (SL.i64_of w3).2 (SL.i64_of w4).1 (SL.i64_of w4).2 (SL.i64_of w1).1 (SL.i64_of w1).2 _ hG) rfl ?_).mono fun e W' ⟨he, bel⟩ => ?_
  · intro i v p h1 h2
    rcases i with _ | i
    · cases h1; cases h2; exact SL.V.str _
    rcases i with _ | i
    · cases h1; cases h2; exact SL.V.int _ _
    rcases i with _ | i
    · cases h1; cases h2; exact hyv2
    rcases i with _ | i
    · cases h1; cases h2; exact SL.V.int _ _
    rcases i with _ | i
    · cases h1; cases h2; exact SL.V.int _ _
    simp at h1
  subst he
  exact ⟨_, rfl, _, _, _, [], _, [], hW', trodAll_mk1 (shut_bool (by kernel_rfl) _), (trodAll_cons_mk (SL.trod_back (by kernel_rfl) (by kernel_rfl) (of_decide_eq_true (by kernel_rfl)) g0 bel) (trodAll_cons_mk (SL.trod_back (by kernel_rfl) (by kernel_rfl) (of_decide_eq_true (by kernel_rfl)) g1 bel) (trodAll_cons_mk (SL.trod_back (by kernel_rfl) (by kernel_rfl) (of_decide_eq_true (by kernel_rfl)) g2 bel) (trodAll_cons_mk (SL.trod_back (by kernel_rfl) (by kernel_rfl) (of_decide_eq_true (by kernel_rfl)) g3 bel) (trodAll_cons_mk (SL.trod_back (by kernel_rfl) (by kernel_rfl) (of_decide_eq_true (by kernel_rfl)) g4 bel) trodAll_mk0))))), rfl, bel.frame _, fun h => by cases h⟩
theorem over : Rows.cacheTellsRow.holds Try.pinned (OpenSpec.ofChange Rows.cacheTellsSpec) :=
  OpenClaim.holds_of_wide 6 Try.f6 rfl rfl rfl rfl rfl rfl rfl ⟨rfl, rfl, rfl, rfl, rfl⟩ rfl rfl rfl rfl rfl (by kernel_rfl) Try.func6 (by kernel_rfl)
    (of_decide_eq_true (by kernel_rfl)) (by unfold Func.isWrapper; first | (rw [if_pos (by decide +kernel)]; kernel_rfl) | (rw [if_neg (by decide +kernel)]; exact ⟨rfl, rfl⟩))
    (fun os started H enc _ => lifted os started H enc)
theorem proved : Rows.CacheTellsSaid := over
end Go.Proofs.Ytcmbnoloimdlaaa.cacheTells
namespace Go.Proofs.Ytcmbnoloimdlaaa
/-- The row, under a short name, for the claim. -/
theorem cacheTells_holds : Rows.CacheTellsSaid := cacheTells.proved
end Go.Proofs.Ytcmbnoloimdlaaa
