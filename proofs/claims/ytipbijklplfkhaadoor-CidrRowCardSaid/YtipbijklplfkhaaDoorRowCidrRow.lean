/-
  The card of the law CidrRow: the statement, out of what the law computes, where the listed variables hold what the program's text lays.
-/
import Derived.Test.YtipbijklplfkhaaDoorRows
import Derived.Test.YtipbijklplfkhaaDoorCards
import Derived.Test.YtipbijklplfkhaaDoorTie
import Derived.Test.YtipbijklplfkhaaDoorGoCidrE
import Derived.Test.YtipbijklplfkhaaDoorSlM5
import Derived.WalkKit
import Derived.ProofKit
import Derived.OpenShut
import Derived.ShutString
import Derived.ChangeOld
import Derived.SizedLaws
import Derived.JoinedOf
import Derived.JoinedAt
import Derived.LaidLaws
import Derived.Lay
import Derived.SevenTiedAt
namespace Go.Proofs.YtipbijklplfkhaaDoor.cidrRow
open Go.ChangeShapes Go.WideShapes Go.ChangeAt Go.RowKit
open Go.ChangeMaps (open_string shut_string)
set_option linter.unusedVariables false
set_option maxRecDepth 100000
theorem own : ownKnob Tryd.prog.godebug = none := by kernel_rfl
def lst : List (String × DataW Unit) := [("math/bits.deBruijn32tab", Rows.laid_math_bits_deBruijn32tab), ("math/bits.deBruijn64tab", Rows.laid_math_bits_deBruijn64tab), ("internal/strconv.uint64pow10", Rows.laid_internal_strconv_uint64pow10)]
theorem met (os : Os) (args : Array Value) : laidMet Tryd.prog lst ((World.laidAll Tryd.prog os lst).forCall (fun _ _ => 0) ⟨#[], args, []⟩).memory := laidMet_laidAll args (by kernel_rfl) (by kernel_rfl)
theorem lifted (os : Os) (started : os.Started) (H : Type) (enc : TypeId × Value → H) :
    ReturnsInHanded {} Tryd.checked os 7 .any (fun w args => (Rows.cidrRowSpec.pre enc Tryd.prog Tryd.f7 Rows.cidrRowRow.domain false w args ∧ laidMet Tryd.prog lst w) ∧ sizedMet enc Tryd.prog Tryd.f7 (OpenSpec.ofChange Rows.cidrRowSpec) false w args) (Rows.cidrRowSpec.post enc Tryd.prog Tryd.f7 false true false false) := by
  refine SL.returns_shaped (C := Tryd.checked) (X := fun w _ => laidMet Tryd.prog lst w) (fun _ _ _ hh h => h.of_heap hh) own started (by kernel_rfl) Tryd.func7
    (ChangeSpec.witness_at (enc := enc) (C := Tryd.checked) (os := os) (X := fun w _ => laidMet Tryd.prog lst w) false (World.laidAll Tryd.prog os lst) #[.agg #[.int .i64 0, .int .u8 0, .int .u8 0, .int .u8 0, .int .u8 0, .int .u8 0, .int .u8 0, .int .u8 0, .int .u8 0, .int .u8 0, .int .u8 0, .int .u8 0, .int .u8 0, .int .u8 0, .int .u8 0, .int .u8 0, .int .u8 0, .int .i64 0], .agg #[.int .i64 0, .int .u8 0, .int .u8 0, .int .u8 0, .int .u8 0, .int .u8 0, .int .u8 0, .int .u8 0, .int .u8 0, .int .u8 0, .int .u8 0, .int .u8 0, .int .u8 0, .int .u8 0, .int .u8 0, .int .u8 0, .int .u8 0, .int .i64 0], .agg #[.int .i64 0, .int .u8 0, .int .u8 0, .int .u8 0, .int .u8 0, .int .u8 0, .int .u8 0, .int .u8 0, .int .u8 0, .int .u8 0, .int .u8 0, .int .u8 0, .int .u8 0, .int .u8 0, .int .u8 0, .int .u8 0, .int .u8 0, .int .i64 0]] 8 (World.laidAll_os _ _ _) (by kernel_rfl) (by kernel_rfl) (by kernel_rfl) (by kernel_rfl) (by kernel_rfl) (met os _)) ?_
  intro W base args ds gs before hval0 hW hL hsh
  have hval : ∀ (j : Nat) t v, Tryd.f7.params[j]? = some t → args[j]? = some v → Value.okWide Tryd.prog W .any base t v := hval0
  have hW' := hW
  obtain ⟨p, q, hA0, hV, rfl, hfz, hnd⟩ := hW
  have hA : DataW.TrodAll enc Tryd.prog W 0 (fun _ => true) true Tryd.f7.params.toList args.toList ds p := hA0
  rw [Tryd.params7] at hA hval
  obtain ⟨v0, vs0, d0, ds0, p0, q0, hargs, rfl, rfl, h0, r0⟩ := trodAll_cons hA
  obtain ⟨v1, vs1, d1, ds1, p1, q1, rfl, rfl, rfl, h1, r1⟩ := trodAll_cons r0
  obtain ⟨v2, vs2, d2, ds2, p2, q2, rfl, rfl, rfl, h2, r2⟩ := trodAll_cons r1
  obtain ⟨rfl, rfl, rfl⟩ := trodAll_nil r2
  obtain rfl : args = #[v0, v1, v2] := by cases args; simp_all
  obtain ⟨rfl, rfl⟩ := trodVars_none hV
  have g0 := h0
  have g1 := h1
  have g2 := h2
  obtain ⟨x0, rfl, t0, f0, rfl⟩ := SL.open_flat (l := (.i .i64 :: (List.replicate 16 (.i .u8) ++ (.i .i64 :: [])))) (by kernel_rfl) (by kernel_rfl) (by kernel_rfl) (hval 0 _ v0 rfl rfl) h0
  have tt0 := t0
  obtain ⟨q0_0, x0_0, rfl, g0_0, w0_0, t0_0, f0_0⟩ := SL.cells_cons t0 f0
  obtain ⟨n0_0, rfl, b0_0, c0_0⟩ := SL.cell_i64 g0_0 w0_0
  obtain ⟨n0_1, x0_1, rfl, l0_1, b0_1, t0_1, f0_1⟩ := SL.cells_u8s 16 t0_0 f0_0
  obtain ⟨q0_2, x0_2, rfl, g0_2, w0_2, t0_2, f0_2⟩ := SL.cells_cons t0_1 f0_1
  obtain ⟨n0_2, rfl, b0_2, c0_2⟩ := SL.cell_i64 g0_2 w0_2
  obtain rfl := SL.cells_nil t0_2
  obtain ⟨x1, rfl, t1, f1, rfl⟩ := SL.open_flat (l := (.i .i64 :: (List.replicate 16 (.i .u8) ++ (.i .i64 :: [])))) (by kernel_rfl) (by kernel_rfl) (by kernel_rfl) (hval 1 _ v1 rfl rfl) h1
  have tt1 := t1
  obtain ⟨q1_0, x1_0, rfl, g1_0, w1_0, t1_0, f1_0⟩ := SL.cells_cons t1 f1
  obtain ⟨n1_0, rfl, b1_0, c1_0⟩ := SL.cell_i64 g1_0 w1_0
  obtain ⟨n1_1, x1_1, rfl, l1_1, b1_1, t1_1, f1_1⟩ := SL.cells_u8s 16 t1_0 f1_0
  obtain ⟨q1_2, x1_2, rfl, g1_2, w1_2, t1_2, f1_2⟩ := SL.cells_cons t1_1 f1_1
  obtain ⟨n1_2, rfl, b1_2, c1_2⟩ := SL.cell_i64 g1_2 w1_2
  obtain rfl := SL.cells_nil t1_2
  obtain ⟨x2, rfl, t2, f2, rfl⟩ := SL.open_flat (l := (.i .i64 :: (List.replicate 16 (.i .u8) ++ (.i .i64 :: [])))) (by kernel_rfl) (by kernel_rfl) (by kernel_rfl) (hval 2 _ v2 rfl rfl) h2
  have tt2 := t2
  obtain ⟨q2_0, x2_0, rfl, g2_0, w2_0, t2_0, f2_0⟩ := SL.cells_cons t2 f2
  obtain ⟨n2_0, rfl, b2_0, c2_0⟩ := SL.cell_i64 g2_0 w2_0
  obtain ⟨n2_1, x2_1, rfl, l2_1, b2_1, t2_1, f2_1⟩ := SL.cells_u8s 16 t2_0 f2_0
  obtain ⟨q2_2, x2_2, rfl, g2_2, w2_2, t2_2, f2_2⟩ := SL.cells_cons t2_1 f2_1
  obtain ⟨n2_2, rfl, b2_2, c2_2⟩ := SL.cell_i64 g2_2 w2_2
  obtain rfl := SL.cells_nil t2_2
  obtain ⟨t0', z0', e0'⟩ : ∃ t fz, W.heap[1]? = some (.cells GoC.powCells t fz) := SL.tab_block (name := "internal/strconv.uint64pow10") (k := .u64) (zs := Lib.pow10Tab) (by kernel_rfl) (by kernel_rfl) (by kernel_rfl) hL
  obtain ⟨t1', z1', e1'⟩ : ∃ t fz, W.heap[3]? = some (.cells GoC.debCells t fz) := SL.tab_block (name := "math/bits.deBruijn64tab") (k := .u8) (zs := GoC.debTab) (by kernel_rfl) (by kernel_rfl) (by kernel_rfl) hL
  obtain ⟨m2', t2', z2', e2'⟩ : ∃ m t fz, W.heap[0]? = some (.cells #[.int .i64 m] t fz) := SL.shaped_int (k := .i64) (t := 3) (zero := #[.int .i64 0]) hsh (of_decide_eq_true (by kernel_rfl)) (by kernel_rfl) rfl (by kernel_rfl) (by kernel_rfl) (by kernel_rfl)
  have hG : GoC.GTab (SL.globs [(1, .cells GoC.powCells t0' z0'), (3, .cells GoC.debCells t1' z1'), (0, .cells #[.int .i64 m2'] t2' z2')]) := ⟨fun b hb => by
      obtain rfl : b = 1 := Option.some.inj (hb.symm.trans (show Tryd.prog.globalNamed "internal/strconv.uint64pow10" = some 1 by kernel_rfl))
      exact ⟨_, _, _, rfl, SL.HasG.globs List.mem_cons_self⟩, fun b hb => by
      obtain rfl : b = 3 := Option.some.inj (hb.symm.trans (show Tryd.prog.globalNamed "math/bits.deBruijn64tab" = some 3 by kernel_rfl))
      exact ⟨_, _, _, rfl, SL.HasG.globs (List.mem_cons_of_mem _ List.mem_cons_self)⟩, fun b hb => by
      obtain rfl : b = 0 := Option.some.inj (hb.symm.trans (show Tryd.prog.globalNamed "internal/bytealg.MaxLen" = some 0 by kernel_rfl))
      exact ⟨_, _, _, ⟨_, rfl⟩, SL.HasG.globs (List.mem_cons_of_mem _ (List.mem_cons_of_mem _ List.mem_cons_self))⟩⟩
  refine (SL.law_walk_g (G := [(1, .cells GoC.powCells t0' z0'), (3, .cells GoC.debCells t1' z1'), (0, .cells #[.int .i64 m2'] t2' z2')]) (args := [.agg ((.int .i64 n0_0) :: ((GoC.u8s n0_1) ++ ((.int .i64 n0_2) :: ([])))), .agg ((.int .i64 n1_0) :: ((GoC.u8s n1_1) ++ ((.int .i64 n1_2) :: ([])))), .agg ((.int .i64 n2_0) :: ((GoC.u8s n2_1) ++ ((.int .i64 n2_2) :: ([]))))]) (List.nodup_iff_pairwise_ne.mpr (by simp)) (fun x hx => by
      simp only [List.mem_cons, List.not_mem_nil, or_false] at hx
      rcases hx with rfl | rfl | rfl <;> assumption) (GoC.c_abatislaw05_CidrRow n0_0 b0_0 c0_0 n0_1 l0_1 b0_1 n0_2 b0_2 c0_2 n1_0 b1_0 c1_0 n1_1 l1_1 b1_1 n1_2 b1_2 c1_2 n2_0 b2_0 c2_0 n2_1 l2_1 b2_1 n2_2 b2_2 c2_2 _ hG) rfl ?_).mono fun e W' ⟨he, bel⟩ => ?_
  · intro i v p h1 h2
    rcases i with _ | i
    · cases h1; cases h2; exact SL.V.flat tt0
    rcases i with _ | i
    · cases h1; cases h2; exact SL.V.flat tt1
    rcases i with _ | i
    · cases h1; cases h2; exact SL.V.flat tt2
    simp at h1
  subst he
  exact ⟨_, rfl, _, _, _, [], _, [], hW', trodAll_mk1 (shut_bool (by kernel_rfl) _), (trodAll_cons_mk (SL.trod_still W' (by kernel_rfl) g0) (trodAll_cons_mk (SL.trod_still W' (by kernel_rfl) g1) (trodAll_cons_mk (SL.trod_still W' (by kernel_rfl) g2) trodAll_mk0))), rfl, bel.frame _, fun h => by cases h⟩
theorem over : Rows.cidrRowRow.holds Tryd.pinned (OpenSpec.ofChange Rows.cidrRowSpec) :=
  OpenClaim.holds_of_wide 7 Tryd.f7 rfl rfl rfl rfl rfl rfl rfl ⟨rfl, rfl, rfl, rfl, rfl⟩ rfl rfl rfl rfl rfl (by kernel_rfl) Tryd.func7 (by kernel_rfl)
    (of_decide_eq_true (by kernel_rfl)) (by unfold Func.isWrapper; first | (rw [if_pos (by decide +kernel)]; kernel_rfl) | (rw [if_neg (by decide +kernel)]; exact ⟨rfl, rfl⟩))
    (fun os started H enc _ => lifted os started H enc)
theorem proved : Rows.CidrRowCardSaid :=
  Claim7.holds_tied_plain_at .later [] [.data, .data, .data] true (true, "24a7dae116f3061c39b8370ad4ead78e3b91438df1284de9c4a8a3577774bd68") false
    over (fun _ h => by cases h) (by kernel_rfl) (fun _ h => by cases h) cidrRow_row_tie rfl ⟨rfl, rfl⟩ (by kernel_rfl) rfl
    (fun f fn hf hfn => by
      obtain rfl : f = 7 := Option.some.inj ((show Tryd.prog.funcNamed "abatis/abatislaw05.CidrRow" = some 7 by kernel_rfl).symm.trans hf) |>.symm
      obtain rfl : fn = Tryd.f7 := (Option.some.inj (Tryd.func7.symm.trans hfn)).symm
      exact ⟨by kernel_rfl, fun j t ht => by
        have hall : Tryd.f7.params.toList.all (fun t => !Tryd.prog.wantsStandIn t) = true := by kernel_rfl
        have hm : t ∈ Tryd.f7.params.toList := by simpa using Array.mem_of_getElem? ht
        have hz : Tryd.prog.wantsStandIn t = false := by simpa using List.all_eq_true.mp hall t hm
        exact hz⟩)
    (by kernel_rfl)
end Go.Proofs.YtipbijklplfkhaaDoor.cidrRow
namespace Go.Proofs.YtipbijklplfkhaaDoor
/-- The card, under a short name, for the claim. -/
theorem cidrRow_holds : Rows.CidrRowCardSaid := cidrRow.proved
end Go.Proofs.YtipbijklplfkhaaDoor
