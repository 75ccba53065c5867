/-
  The row of the law WireHead: the statement, out of what the law computes, whatever the named variables hold.
-/
import Derived.Test.YtmgemdgbffmnjaaRows
import Derived.Test.YtmgemdgbffmnjaaGoWireK
import Derived.Test.YtmgemdgbffmnjaaGoBulk
import Derived.Test.YtmgemdgbffmnjaaSlArgB
import Derived.WalkKit
import Derived.ProofKit
import Derived.OpenShut
import Derived.ShutString
import Derived.ChangeOld
import Derived.SizedLaws
import Derived.JoinedCond
namespace Go.Proofs.Ytmgemdgbffmnjaa.wireHead
open Go.ChangeShapes Go.WideShapes Go.ChangeAt Go.RowKit
open Go.ChangeMaps (open_string shut_string)
set_option linter.unusedVariables false
set_option maxRecDepth 100000
theorem own : ownKnob Try.prog.godebug = none := by kernel_rfl
theorem lifted (os : Os) (started : os.Started) (H : Type) (enc : TypeId × Value → H) (F : Stop.Interp) :
    ReturnsInHanded {} Try.checked os 4 .any ((Rows.OpenSpec.upto Rows.wireHeadSpec).pre6 enc Try.prog Try.f4 Rows.wireHeadUptoRow.domain false) (((Rows.OpenSpec.upto Rows.wireHeadSpec).at F).post enc Try.prog Try.f4 false true false false) := by
  refine SL.returns_upto (C := Try.checked) (s := (Rows.OpenSpec.upto Rows.wireHeadSpec)) (k := Rows.uptoSmall) rfl own started (by kernel_rfl) Try.func4
    (OpenSpec.witness (enc := enc) (C := Try.checked) (s := (Rows.OpenSpec.upto Rows.wireHeadSpec)) (k := Rows.uptoSmall) rfl false ⟨#[], #[.agg #[.int .i64 0, .int .i64 0, .slice none 0 0, .slice none 0 0, .slice none 0 0, .slice none 0 0]], []⟩ 8 (by kernel_rfl) (by kernel_rfl) (by kernel_rfl)
      (x := ([.agg [.lit (.int .i64 0), .lit (.int .i64 0), .nil, .nil, .nil, .nil]], [], [])) (by kernel_rfl) rfl (by kernel_rfl)) ?_
  intro W base args ds gs before hval0 hW hk hsh
  have hval : ∀ (j : Nat) t v, Try.f4.params[j]? = some t → args[j]? = some v → Value.okWide Try.prog W .any base t v := hval0
  have hW' := hW
  obtain ⟨p, q, hA0, hV, rfl, hfz, hnd⟩ := hW
  have hA : DataW.TrodAll enc Try.prog W 0 (fun _ => true) true Try.f4.params.toList args.toList ds p := hA0
  rw [Try.params4] at hA hval
  obtain ⟨v0, vs0, d0, ds0, p0, q0, hargs, rfl, rfl, h0, r0⟩ := trodAll_cons hA
  obtain ⟨rfl, rfl, rfl⟩ := trodAll_nil r0
  obtain rfl : args = #[v0] := by cases args; simp_all
  have hk0 : Rows.uptoBulk d0 ≤ 1048576 := GoC.bulk_le hk (by simp)
  obtain ⟨rfl, rfl⟩ := trodVars_none hV
  obtain ⟨m2', t2', z2', e2'⟩ : ∃ m t fz, W.heap[0]? = some (.cells #[.int .i64 m] t fz) := SL.shaped_int (k := .i64) (t := 3) (zero := #[.int .i64 0]) hsh (of_decide_eq_true (by kernel_rfl)) (by kernel_rfl) rfl (by kernel_rfl) (by kernel_rfl) (by kernel_rfl)
  have hG : GoC.GTab (SL.globs [(0, .cells #[.int .i64 m2'] t2' z2')]) := ⟨(fun b hb => by cases hb.symm.trans (show Try.prog.globalNamed "internal/strconv.uint64pow10" = none by kernel_rfl)), (fun b hb => by cases hb.symm.trans (show Try.prog.globalNamed "math/bits.deBruijn64tab" = none by kernel_rfl)), (fun b hb => by
      obtain rfl : b = 0 := Option.some.inj (hb.symm.trans (show Try.prog.globalNamed "internal/bytealg.MaxLen" = some 0 by kernel_rfl))
      exact ⟨_, _, _, ⟨_, rfl⟩, SL.HasG.globs List.mem_cons_self⟩)⟩
  have g0 := h0
  obtain ⟨y0, yl0, yh0, yv0⟩ := SL.open_agB GoC.bulk_ok (G := [(0, .cells #[.int .i64 m2'] t2' z2')]) (fss := GoC.msF) (by kernel_rfl) (hval 0 _ v0 rfl rfl) h0
  obtain ⟨m0, rfl, mo0⟩ := GoC.ms_of (by omega) yl0 yh0
  refine (SL.law_walk_g (G := [(0, .cells #[.int .i64 m2'] t2' z2')]) (args := [GoC.msV m0]) (List.nodup_iff_pairwise_ne.mpr (by simp)) (fun x hx => by
      simp only [List.mem_cons, List.not_mem_nil, or_false] at hx
      rcases hx with rfl <;> assumption) (fun x hx => by
      simp only [List.mem_cons, List.not_mem_nil, or_false] at hx
      rcases hx with rfl <;> exact ⟨_, _, _, rfl⟩) (GoC.c_abatislaw09_WireHead m0 mo0 _ hG) rfl ?_).mono fun e W' ⟨he, bel⟩ => ?_
  · intro i v p h1 h2
    rcases i with _ | i
    · cases h1; cases h2; exact yv0
    simp at h1
  subst he
  exact ⟨_, rfl, _, _, _, [], _, [], hW', trodAll_mk1 (shut_bool (by kernel_rfl) _), (trodAll_cons_mk (SL.trod_back (by kernel_rfl) (by kernel_rfl) (of_decide_eq_true (by kernel_rfl)) g0 bel) trodAll_mk0), rfl, bel.frame _, fun h => by cases h⟩
theorem over : Rows.wireHeadUptoRow.holds Try.pinned (Rows.OpenSpec.upto Rows.wireHeadSpec) :=
  OpenClaim.holds_of_cond 4 Try.f4 rfl rfl rfl rfl rfl rfl rfl ⟨rfl, rfl, rfl, rfl, rfl⟩ rfl rfl rfl rfl rfl (by kernel_rfl) Try.func4 (by kernel_rfl)
    (of_decide_eq_true (by kernel_rfl)) (by unfold Func.isWrapper; first | (rw [if_pos (by decide +kernel)]; kernel_rfl) | (rw [if_neg (by decide +kernel)]; exact ⟨rfl, rfl⟩))
    (fun os started H enc _ F => lifted os started H enc F)
theorem proved : Rows.WireHeadUptoSaid := over
end Go.Proofs.Ytmgemdgbffmnjaa.wireHead
namespace Go.Proofs.Ytmgemdgbffmnjaa
/-- The row, under a short name, for the claim. -/
theorem wireHead_holds : Rows.WireHeadUptoSaid := wireHead.proved
end Go.Proofs.Ytmgemdgbffmnjaa
