/-
  The card of the law CidrMasks: the statement, out of what the law computes, where the listed variables hold what the program's text lays.
-/
import Derived.Test.YtipbijklplfkhaaDoorRows
import Derived.Test.YtipbijklplfkhaaDoorCards
import Derived.Test.YtipbijklplfkhaaDoorTie
import Derived.Test.YtipbijklplfkhaaDoorGoCidrE
import Derived.Test.YtipbijklplfkhaaDoorSlM5
import Derived.WalkKit
import Derived.ProofKit
import Derived.OpenShut
import Derived.ShutString
import Derived.ChangeOld
import Derived.SizedLaws
import Derived.JoinedOf
import Derived.JoinedAt
import Derived.LaidLaws
import Derived.Lay
import Derived.SevenTiedAt
namespace Go.Proofs.YtipbijklplfkhaaDoor.cidrMasks
open Go.ChangeShapes Go.WideShapes Go.ChangeAt Go.RowKit
open Go.ChangeMaps (open_string shut_string)
set_option linter.unusedVariables false
set_option maxRecDepth 100000
theorem own : ownKnob Tryd.prog.godebug = none := by kernel_rfl
def lst : List (String × DataW Unit) := [("math/bits.deBruijn32tab", Rows.laid_math_bits_deBruijn32tab), ("math/bits.deBruijn64tab", Rows.laid_math_bits_deBruijn64tab), ("internal/strconv.uint64pow10", Rows.laid_internal_strconv_uint64pow10)]
theorem met (os : Os) (args : Array Value) : laidMet Tryd.prog lst ((World.laidAll Tryd.prog os lst).forCall (fun _ _ => 0) ⟨#[], args, []⟩).memory := laidMet_laidAll args (by kernel_rfl) (by kernel_rfl)
theorem lifted (os : Os) (started : os.Started) (H : Type) (enc : TypeId × Value → H) :
    ReturnsInHanded {} Tryd.checked os 6 .any (fun w args => (Rows.cidrMasksSpec.pre enc Tryd.prog Tryd.f6 Rows.cidrMasksRow.domain false w args ∧ laidMet Tryd.prog lst w) ∧ sizedMet enc Tryd.prog Tryd.f6 (OpenSpec.ofChange Rows.cidrMasksSpec) false w args) (Rows.cidrMasksSpec.post enc Tryd.prog Tryd.f6 false true false false) := by
  refine SL.returns_shaped (C := Tryd.checked) (X := fun w _ => laidMet Tryd.prog lst w) (fun _ _ _ hh h => h.of_heap hh) own started (by kernel_rfl) Tryd.func6
    (ChangeSpec.witness_at (enc := enc) (C := Tryd.checked) (os := os) (X := fun w _ => laidMet Tryd.prog lst w) false (World.laidAll Tryd.prog os lst) #[.agg #[.int .i64 0, .int .u8 0, .int .u8 0, .int .u8 0, .int .u8 0, .int .u8 0, .int .u8 0, .int .u8 0, .int .u8 0, .int .u8 0, .int .u8 0, .int .u8 0, .int .u8 0, .int .u8 0, .int .u8 0, .int .u8 0, .int .u8 0], .int .i64 0, .int .i64 0, .agg #[.int .i64 0, .int .u8 0, .int .u8 0, .int .u8 0, .int .u8 0, .int .u8 0, .int .u8 0, .int .u8 0, .int .u8 0, .int .u8 0, .int .u8 0, .int .u8 0, .int .u8 0, .int .u8 0, .int .u8 0, .int .u8 0, .int .u8 0]] 8 (World.laidAll_os _ _ _) (by kernel_rfl) (by kernel_rfl) (by kernel_rfl) (by kernel_rfl) (by kernel_rfl) (met os _)) ?_
  intro W base args ds gs before hval0 hW hL hsh
  have hval : ∀ (j : Nat) t v, Tryd.f6.params[j]? = some t → args[j]? = some v → Value.okWide Tryd.prog W .any base t v := hval0
  have hW' := hW
  obtain ⟨p, q, hA0, hV, rfl, hfz, hnd⟩ := hW
  have hA : DataW.TrodAll enc Tryd.prog W 0 (fun _ => true) true Tryd.f6.params.toList args.toList ds p := hA0
  rw [Tryd.params6] at hA hval
  obtain ⟨v0, vs0, d0, ds0, p0, q0, hargs, rfl, rfl, h0, r0⟩ := trodAll_cons hA
  obtain ⟨v1, vs1, d1, ds1, p1, q1, rfl, rfl, rfl, h1, r1⟩ := trodAll_cons r0
  obtain ⟨v2, vs2, d2, ds2, p2, q2, rfl, rfl, rfl, h2, r2⟩ := trodAll_cons r1
  obtain ⟨v3, vs3, d3, ds3, p3, q3, rfl, rfl, rfl, h3, r3⟩ := trodAll_cons r2
  obtain ⟨rfl, rfl, rfl⟩ := trodAll_nil r3
  obtain rfl : args = #[v0, v1, v2, v3] := by cases args; simp_all
  obtain ⟨rfl, rfl⟩ := trodVars_none hV
  have g0 := h0
  have g1 := h1
  have g2 := h2
  have g3 := h3
  obtain ⟨x0, rfl, t0, f0, rfl⟩ := SL.open_flat (l := (.i .i64 :: (List.replicate 16 (.i .u8) ++ []))) (by kernel_rfl) (by kernel_rfl) (by kernel_rfl) (hval 0 _ v0 rfl rfl) h0
  have tt0 := t0
  obtain ⟨q0_0, x0_0, rfl, g0_0, w0_0, t0_0, f0_0⟩ := SL.cells_cons t0 f0
  obtain ⟨n0_0, rfl, b0_0, c0_0⟩ := SL.cell_i64 g0_0 w0_0
  obtain ⟨n0_1, rfl, l0_1, b0_1⟩ := SL.cells_u8s_end 16 t0_0 f0_0
  obtain ⟨a1, rfl, rfl, rfl, w1⟩ := open_int (k := .i64) (by kernel_rfl) (hval 1 _ v1 rfl rfl) h1
  obtain ⟨a2, rfl, rfl, rfl, w2⟩ := open_int (k := .i64) (by kernel_rfl) (hval 2 _ v2 rfl rfl) h2
  obtain ⟨x3, rfl, t3, f3, rfl⟩ := SL.open_flat (l := (.i .i64 :: (List.replicate 16 (.i .u8) ++ []))) (by kernel_rfl) (by kernel_rfl) (by kernel_rfl) (hval 3 _ v3 rfl rfl) h3
  have tt3 := t3
  obtain ⟨q3_0, x3_0, rfl, g3_0, w3_0, t3_0, f3_0⟩ := SL.cells_cons t3 f3
  obtain ⟨n3_0, rfl, b3_0, c3_0⟩ := SL.cell_i64 g3_0 w3_0
  obtain ⟨n3_1, rfl, l3_1, b3_1⟩ := SL.cells_u8s_end 16 t3_0 f3_0
  obtain ⟨t0', z0', e0'⟩ : ∃ t fz, W.heap[1]? = some (.cells GoC.powCells t fz) := SL.tab_block (name := "internal/strconv.uint64pow10") (k := .u64) (zs := Lib.pow10Tab) (by kernel_rfl) (by kernel_rfl) (by kernel_rfl) hL
  obtain ⟨t1', z1', e1'⟩ : ∃ t fz, W.heap[3]? = some (.cells GoC.debCells t fz) := SL.tab_block (name := "math/bits.deBruijn64tab") (k := .u8) (zs := GoC.debTab) (by kernel_rfl) (by kernel_rfl) (by kernel_rfl) hL
  obtain ⟨m2', t2', z2', e2'⟩ : ∃ m t fz, W.heap[0]? = some (.cells #[.int .i64 m] t fz) := SL.shaped_int (k := .i64) (t := 3) (zero := #[.int .i64 0]) hsh (of_decide_eq_true (by kernel_rfl)) (by kernel_rfl) rfl (by kernel_rfl) (by kernel_rfl) (by kernel_rfl)
  have hG : GoC.GTab (SL.globs [(1, .cells GoC.powCells t0' z0'), (3, .cells GoC.debCells t1' z1'), (0, .cells #[.int .i64 m2'] t2' z2')]) := ⟨fun b hb => by
      obtain rfl : b = 1 := Option.some.inj (hb.symm.trans (show Tryd.prog.globalNamed "internal/strconv.uint64pow10" = some 1 by kernel_rfl))
      exact ⟨_, _, _, rfl, SL.HasG.globs List.mem_cons_self⟩, fun b hb => by
      obtain rfl : b = 3 := Option.some.inj (hb.symm.trans (show Tryd.prog.globalNamed "math/bits.deBruijn64tab" = some 3 by kernel_rfl))
      exact ⟨_, _, _, rfl, SL.HasG.globs (List.mem_cons_of_mem _ List.mem_cons_self)⟩, fun b hb => by
      obtain rfl : b = 0 := Option.some.inj (hb.symm.trans (show Tryd.prog.globalNamed "internal/bytealg.MaxLen" = some 0 by kernel_rfl))
      exact ⟨_, _, _, ⟨_, rfl⟩, SL.HasG.globs (List.mem_cons_of_mem _ (List.mem_cons_of_mem _ List.mem_cons_self))⟩⟩
  refine (SL.law_walk_g (G := [(1, .cells GoC.powCells t0' z0'), (3, .cells GoC.debCells t1' z1'), (0, .cells #[.int .i64 m2'] t2' z2')]) (args := [.agg ((.int .i64 n0_0) :: ((GoC.u8s n0_1))), .int .i64 a1, .int .i64 a2, .agg ((.int .i64 n3_0) :: ((GoC.u8s n3_1)))]) (List.nodup_iff_pairwise_ne.mpr (by simp)) (fun x hx => by
      simp only [List.mem_cons, List.not_mem_nil, or_false] at hx
      rcases hx with rfl | rfl | rfl <;> assumption) (GoC.c_abatislaw05_CidrMasks n0_0 b0_0 c0_0 n0_1 l0_1 b0_1 a1 (SL.i64_of w1).1 (SL.i64_of w1).2 a2 (SL.i64_of w2).1 (SL.i64_of w2).2 n3_0 b3_0 c3_0 n3_1 l3_1 b3_1 _ hG) rfl ?_).mono fun e W' ⟨he, bel⟩ => ?_
  · intro i v p h1 h2
    rcases i with _ | i
    · cases h1; cases h2; exact SL.V.flat tt0
    rcases i with _ | i
    · cases h1; cases h2; exact SL.V.int _ _
    rcases i with _ | i
    · cases h1; cases h2; exact SL.V.int _ _
    rcases i with _ | i
    · cases h1; cases h2; exact SL.V.flat tt3
    simp at h1
  subst he
  exact ⟨_, rfl, _, _, _, [], _, [], hW', trodAll_mk1 (shut_bool (by kernel_rfl) _), (trodAll_cons_mk (SL.trod_still W' (by kernel_rfl) g0) (trodAll_cons_mk (SL.trod_still W' (by kernel_rfl) g1) (trodAll_cons_mk (SL.trod_still W' (by kernel_rfl) g2) (trodAll_cons_mk (SL.trod_still W' (by kernel_rfl) g3) trodAll_mk0)))), rfl, bel.frame _, fun h => by cases h⟩
theorem over : Rows.cidrMasksRow.holds Tryd.pinned (OpenSpec.ofChange Rows.cidrMasksSpec) :=
  OpenClaim.holds_of_wide 6 Tryd.f6 rfl rfl rfl rfl rfl rfl rfl ⟨rfl, rfl, rfl, rfl, rfl⟩ rfl rfl rfl rfl rfl (by kernel_rfl) Tryd.func6 (by kernel_rfl)
    (of_decide_eq_true (by kernel_rfl)) (by unfold Func.isWrapper; first | (rw [if_pos (by decide +kernel)]; kernel_rfl) | (rw [if_neg (by decide +kernel)]; exact ⟨rfl, rfl⟩))
    (fun os started H enc _ => lifted os started H enc)
theorem proved : Rows.CidrMasksCardSaid :=
  Claim7.holds_tied_plain_at .later [] [.data, .data, .data] true (true, "24a7dae116f3061c39b8370ad4ead78e3b91438df1284de9c4a8a3577774bd68") false
    over (fun _ h => by cases h) (by kernel_rfl) (fun _ h => by cases h) cidrMasks_row_tie rfl ⟨rfl, rfl⟩ (by kernel_rfl) rfl
    (fun f fn hf hfn => by
      obtain rfl : f = 6 := Option.some.inj ((show Tryd.prog.funcNamed "abatis/abatislaw05.CidrMasks" = some 6 by kernel_rfl).symm.trans hf) |>.symm
      obtain rfl : fn = Tryd.f6 := (Option.some.inj (Tryd.func6.symm.trans hfn)).symm
      exact ⟨by kernel_rfl, fun j t ht => by
        have hall : Tryd.f6.params.toList.all (fun t => !Tryd.prog.wantsStandIn t) = true := by kernel_rfl
        have hm : t ∈ Tryd.f6.params.toList := by simpa using Array.mem_of_getElem? ht
        have hz : Tryd.prog.wantsStandIn t = false := by simpa using List.all_eq_true.mp hall t hm
        exact hz⟩)
    (by kernel_rfl)
end Go.Proofs.YtipbijklplfkhaaDoor.cidrMasks
namespace Go.Proofs.YtipbijklplfkhaaDoor
/-- The card, under a short name, for the claim. -/
theorem cidrMasks_holds : Rows.CidrMasksCardSaid := cidrMasks.proved
end Go.Proofs.YtipbijklplfkhaaDoor
