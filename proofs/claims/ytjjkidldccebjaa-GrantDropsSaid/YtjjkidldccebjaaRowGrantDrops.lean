/-
  The row of the law GrantDrops: the statement, out of what the law computes, whatever the named variables hold.
-/
import Derived.Test.YtjjkidldccebjaaRows
import Derived.Test.YtjjkidldccebjaaGoGrantI
import Derived.Test.YtjjkidldccebjaaSlArgS
import Derived.WalkKit
import Derived.ProofKit
import Derived.OpenShut
import Derived.ShutString
import Derived.ChangeOld
import Derived.SizedLaws
namespace Go.Proofs.Ytjjkidldccebjaa.grantDrops
open Go.ChangeShapes Go.WideShapes Go.ChangeAt Go.RowKit
open Go.ChangeMaps (open_string shut_string)
set_option linter.unusedVariables false
set_option maxRecDepth 100000
theorem own : ownKnob Try.prog.godebug = none := by kernel_rfl
theorem lifted (os : Os) (started : os.Started) (H : Type) (enc : TypeId × Value → H) :
    ReturnsInHanded {} Try.checked os 6 .any (Rows.grantDropsSpec.pre6 enc Try.prog Try.f6 Rows.grantDropsRow.domain false) (Rows.grantDropsSpec.post enc Try.prog Try.f6 false true false false) := by
  refine SL.returns_named (C := Try.checked) own started (by kernel_rfl) Try.func6
    (ChangeSpec.witness6 (enc := enc) (C := Try.checked) false ⟨#[], #[.slice none 0 0, .agg #[.string ByteArray.empty, .string ByteArray.empty, .int .i64 0], .int .i64 0], []⟩ 8 (by kernel_rfl) (by kernel_rfl) (by kernel_rfl) (by kernel_rfl)) ?_
  intro W base args ds gs before hval0 hW hsh
  have hval : ∀ (j : Nat) t v, Try.f6.params[j]? = some t → args[j]? = some v → Value.okWide Try.prog W .any base t v := hval0
  have hW' := hW
  obtain ⟨p, q, hA0, hV, rfl, hfz, hnd⟩ := hW
  have hA : DataW.TrodAll enc Try.prog W 0 (fun _ => true) true Try.f6.params.toList args.toList ds p := hA0
  rw [Try.params6] at hA hval
  obtain ⟨v0, vs0, d0, ds0, p0, q0, hargs, rfl, rfl, h0, r0⟩ := trodAll_cons hA
  obtain ⟨v1, vs1, d1, ds1, p1, q1, rfl, rfl, rfl, h1, r1⟩ := trodAll_cons r0
  obtain ⟨v2, vs2, d2, ds2, p2, q2, rfl, rfl, rfl, h2, r2⟩ := trodAll_cons r1
  obtain ⟨rfl, rfl, rfl⟩ := trodAll_nil r2
  obtain rfl : args = #[v0, v1, v2] := by cases args; simp_all
  obtain ⟨rfl, rfl⟩ := trodVars_none hV
  obtain ⟨m2', t2', z2', e2'⟩ : ∃ m t fz, W.heap[0]? = some (.cells #[.int .i64 m] t fz) := SL.shaped_int (k := .i64) (t := 3) (zero := #[.int .i64 0]) hsh (of_decide_eq_true (by kernel_rfl)) (by kernel_rfl) rfl (by kernel_rfl) (by kernel_rfl) (by kernel_rfl)
  have hG : GoC.GTab (SL.globs [(0, .cells #[.int .i64 m2'] t2' z2')]) := ⟨(fun b hb => by cases hb.symm.trans (show Try.prog.globalNamed "internal/strconv.uint64pow10" = none by kernel_rfl)), (fun b hb => by cases hb.symm.trans (show Try.prog.globalNamed "math/bits.deBruijn64tab" = none by kernel_rfl)), (fun b hb => by
      obtain rfl : b = 0 := Option.some.inj (hb.symm.trans (show Try.prog.globalNamed "internal/bytealg.MaxLen" = some 0 by kernel_rfl))
      exact ⟨_, _, _, ⟨_, rfl⟩, SL.HasG.globs List.mem_cons_self⟩)⟩
  have g0 := h0
  obtain ⟨ys0, hy0, hyl0, hyv0⟩ := SL.open_sl (G := [(0, .cells #[.int .i64 m2'] t2' z2')]) (l := [.s, .s, .i .i64, .s, .s, .i .i64, .s, .i .i64, .i .u8, .i .u8, .i .u8, .i .u8, .i .u8, .i .u8, .i .u8, .i .u8, .i .u8, .i .u8, .i .u8, .i .u8, .i .u8, .i .u8, .i .u8, .i .u8]) (e := 28) true (by kernel_rfl) (by kernel_rfl) (by kernel_rfl) (by decide) (fun h => by cases h) (hval 0 _ v0 rfl rfl) h0
  obtain ⟨l0, hl0, hll0, ko0⟩ := GoC.keys_of hy0
  rw [hl0] at hyv0
  have hlt0 : l0.length ≤ 9223372036854775807 := Nat.le_trans (hll0 ▸ hyl0) (by decide)
  have g1 := h1
  obtain ⟨x1, rfl, t1, f1, rfl⟩ := SL.open_flat (l := [.s, .s, .i .i64]) (by kernel_rfl) (by kernel_rfl) (by kernel_rfl) (hval 1 _ v1 rfl rfl) h1
  obtain ⟨k1, rfl, ko1⟩ := GoC.org_of t1 f1
  have g2 := h2
  obtain ⟨a2, rfl, rfl, rfl, w2⟩ := open_int (k := .i64) (by kernel_rfl) (hval 2 _ v2 rfl rfl) h2
  refine (SL.law_walk_g (G := [(0, .cells #[.int .i64 m2'] t2' z2')]) (args := [.sl 24 (GoC.ksV l0), .agg (GoC.orgC k1), .int .i64 a2]) (List.nodup_iff_pairwise_ne.mpr (by simp)) (fun x hx => by
      simp only [List.mem_cons, List.not_mem_nil, or_false] at hx
      rcases hx with rfl <;> assumption) (fun x hx => by
      simp only [List.mem_cons, List.not_mem_nil, or_false] at hx
      rcases hx with rfl <;> exact ⟨_, _, _, rfl⟩) (GoC.c_abatislaw18_GrantDrops l0 ko0 hlt0 k1 a2 (SL.i64_of w2).1 (SL.i64_of w2).2 _ hG) rfl ?_).mono fun e W' ⟨he, bel⟩ => ?_
  · intro i v p h1 h2
    rcases i with _ | i
    · cases h1; cases h2; exact hyv0
    rcases i with _ | i
    · cases h1; cases h2; exact SL.V.flat t1
    rcases i with _ | i
    · cases h1; cases h2; exact SL.V.int _ _
    simp at h1
  subst he
  exact ⟨_, rfl, _, _, _, [], _, [], hW', trodAll_mk1 (shut_bool (by kernel_rfl) _), (trodAll_cons_mk (SL.trod_back (by kernel_rfl) (by kernel_rfl) (of_decide_eq_true (by kernel_rfl)) g0 bel) (trodAll_cons_mk (SL.trod_back (by kernel_rfl) (by kernel_rfl) (of_decide_eq_true (by kernel_rfl)) g1 bel) (trodAll_cons_mk (SL.trod_back (by kernel_rfl) (by kernel_rfl) (of_decide_eq_true (by kernel_rfl)) g2 bel) trodAll_mk0))), rfl, bel.frame _, fun h => by cases h⟩
theorem over : Rows.grantDropsRow.holds Try.pinned (OpenSpec.ofChange Rows.grantDropsSpec) :=
  OpenClaim.holds_of_wide 6 Try.f6 rfl rfl rfl rfl rfl rfl rfl ⟨rfl, rfl, rfl, rfl, rfl⟩ rfl rfl rfl rfl rfl (by kernel_rfl) Try.func6 (by kernel_rfl)
    (of_decide_eq_true (by kernel_rfl)) (by unfold Func.isWrapper; first | (rw [if_pos (by decide +kernel)]; kernel_rfl) | (rw [if_neg (by decide +kernel)]; exact ⟨rfl, rfl⟩))
    (fun os started H enc _ => lifted os started H enc)
theorem proved : Rows.GrantDropsSaid := over
end Go.Proofs.Ytjjkidldccebjaa.grantDrops
namespace Go.Proofs.Ytjjkidldccebjaa
/-- The row, under a short name, for the claim. -/
theorem grantDrops_holds : Rows.GrantDropsSaid := grantDrops.proved
end Go.Proofs.Ytjjkidldccebjaa
