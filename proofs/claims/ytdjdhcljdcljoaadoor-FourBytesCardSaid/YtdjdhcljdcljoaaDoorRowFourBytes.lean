/-
  The card of the law FourBytes: the statement, out of what the law computes, where the listed variables hold what the program's text lays.
-/
import Derived.Test.YtdjdhcljdcljoaaDoorRows
import Derived.Test.YtdjdhcljdcljoaaDoorCards
import Derived.Test.YtdjdhcljdcljoaaDoorTie
import Derived.Test.YtdjdhcljdcljoaaDoorGoR
import Derived.Test.YtdjdhcljdcljoaaDoorSlCard
import Derived.WalkKit
import Derived.ProofKit
import Derived.OpenShut
import Derived.ShutString
import Derived.ChangeOld
import Derived.SizedLaws
import Derived.JoinedOf
import Derived.JoinedAt
import Derived.LaidLaws
import Derived.Lay
import Derived.SevenTiedAt
namespace Go.Proofs.YtdjdhcljdcljoaaDoor.fourBytes
open Go.ChangeShapes Go.WideShapes Go.ChangeAt Go.RowKit
open Go.ChangeMaps (open_string shut_string)
set_option linter.unusedVariables false
set_option maxRecDepth 100000
theorem own : ownKnob Tryd.prog.godebug = none := by kernel_rfl
def lst : List (String × DataW Unit) := [("math/bits.deBruijn32tab", Rows.laid_math_bits_deBruijn32tab), ("math/bits.deBruijn64tab", Rows.laid_math_bits_deBruijn64tab), ("internal/strconv.uint64pow10", Rows.laid_internal_strconv_uint64pow10)]
theorem met (os : Os) (args : Array Value) : laidMet Tryd.prog lst ((World.laidAll Tryd.prog os lst).forCall (fun _ _ => 0) ⟨#[], args, []⟩).memory := laidMet_laidAll args (by kernel_rfl) (by kernel_rfl)
theorem lifted (os : Os) (started : os.Started) (H : Type) (enc : TypeId × Value → H) :
    ReturnsInHanded {} Tryd.checked os 5 .any (fun w args => (Rows.fourBytesSpec.pre enc Tryd.prog Tryd.f5 Rows.fourBytesRow.domain false w args ∧ laidMet Tryd.prog lst w) ∧ sizedMet enc Tryd.prog Tryd.f5 (OpenSpec.ofChange Rows.fourBytesSpec) false w args) (Rows.fourBytesSpec.post enc Tryd.prog Tryd.f5 false true false false) := by
  refine returnsInHanded_of_change_and (C := Tryd.checked) (X := fun w _ => laidMet Tryd.prog lst w) (fun _ _ _ hh h => h.of_heap hh) own started (by kernel_rfl) Tryd.func5
    (ChangeSpec.witness_at (enc := enc) (C := Tryd.checked) (os := os) (X := fun w _ => laidMet Tryd.prog lst w) false (World.laidAll Tryd.prog os lst) #[.agg #[.int .u8 0, .int .u8 0, .int .u8 0, .int .u8 0], .agg #[.int .u8 0, .int .u8 0, .int .u8 0, .int .u8 0]] 8 (World.laidAll_os _ _ _) (by kernel_rfl) (by kernel_rfl) (by kernel_rfl) (by kernel_rfl) (by kernel_rfl) (met os _)) ?_
  intro W base args ds gs before hval0 hW hcnd hsz0 hL _
  have hval : ∀ (j : Nat) t v, Tryd.f5.params[j]? = some t → args[j]? = some v → Value.okWide Tryd.prog W .any base t v := hval0
  have hW' := hW
  obtain ⟨p, q, hA0, hV, rfl, hfz, hnd⟩ := hW
  have hA : DataW.TrodAll enc Tryd.prog W 0 (fun _ => true) true Tryd.f5.params.toList args.toList ds p := hA0
  rw [Tryd.params5] at hA hval
  obtain ⟨v0, vs0, d0, ds0, p0, q0, hargs, rfl, rfl, h0, r0⟩ := trodAll_cons hA
  obtain ⟨v1, vs1, d1, ds1, p1, q1, rfl, rfl, rfl, h1, r1⟩ := trodAll_cons r0
  obtain ⟨rfl, rfl, rfl⟩ := trodAll_nil r1
  obtain rfl : args = #[v0, v1] := by cases args; simp_all
  obtain ⟨rfl, rfl⟩ := trodVars_none hV
  have g0 := h0
  have g1 := h1
  obtain ⟨x0, rfl, t0, f0, rfl⟩ := SL.open_flat (l := [.i .u8, .i .u8, .i .u8, .i .u8]) (by kernel_rfl) (by kernel_rfl) (by kernel_rfl) (hval 0 _ v0 rfl rfl) h0
  obtain ⟨q0_0, x0_0, rfl, g0_0, w0_0, t0_0, f0_0⟩ := SL.cells_cons t0 f0
  obtain ⟨n0_0, rfl, b0_0⟩ := SL.cell_u8 g0_0 w0_0
  obtain ⟨q0_1, x0_1, rfl, g0_1, w0_1, t0_1, f0_1⟩ := SL.cells_cons t0_0 f0_0
  obtain ⟨n0_1, rfl, b0_1⟩ := SL.cell_u8 g0_1 w0_1
  obtain ⟨q0_2, x0_2, rfl, g0_2, w0_2, t0_2, f0_2⟩ := SL.cells_cons t0_1 f0_1
  obtain ⟨n0_2, rfl, b0_2⟩ := SL.cell_u8 g0_2 w0_2
  obtain ⟨q0_3, x0_3, rfl, g0_3, w0_3, t0_3, f0_3⟩ := SL.cells_cons t0_2 f0_2
  obtain ⟨n0_3, rfl, b0_3⟩ := SL.cell_u8 g0_3 w0_3
  obtain rfl := SL.cells_nil t0_3
  obtain ⟨x1, rfl, t1, f1, rfl⟩ := SL.open_flat (l := [.i .u8, .i .u8, .i .u8, .i .u8]) (by kernel_rfl) (by kernel_rfl) (by kernel_rfl) (hval 1 _ v1 rfl rfl) h1
  obtain ⟨q1_0, x1_0, rfl, g1_0, w1_0, t1_0, f1_0⟩ := SL.cells_cons t1 f1
  obtain ⟨n1_0, rfl, b1_0⟩ := SL.cell_u8 g1_0 w1_0
  obtain ⟨q1_1, x1_1, rfl, g1_1, w1_1, t1_1, f1_1⟩ := SL.cells_cons t1_0 f1_0
  obtain ⟨n1_1, rfl, b1_1⟩ := SL.cell_u8 g1_1 w1_1
  obtain ⟨q1_2, x1_2, rfl, g1_2, w1_2, t1_2, f1_2⟩ := SL.cells_cons t1_1 f1_1
  obtain ⟨n1_2, rfl, b1_2⟩ := SL.cell_u8 g1_2 w1_2
  obtain ⟨q1_3, x1_3, rfl, g1_3, w1_3, t1_3, f1_3⟩ := SL.cells_cons t1_2 f1_2
  obtain ⟨n1_3, rfl, b1_3⟩ := SL.cell_u8 g1_3 w1_3
  obtain rfl := SL.cells_nil t1_3
  obtain ⟨tg, fz, hb⟩ := SL.tab_block (name := "internal/strconv.uint64pow10") (k := .u64) (zs := Lib.pow10Tab) (by kernel_rfl) GoC.tab_named (by kernel_rfl) hL
  refine (SL.law_walk_g (G := [(GoC.tabBlock, .cells (Lib.pow10Tab.map fun z => Value.int .u64 z).toArray tg fz)]) (args := [.agg [.int .u8 n0_0, .int .u8 n0_1, .int .u8 n0_2, .int .u8 n0_3], .agg [.int .u8 n1_0, .int .u8 n1_1, .int .u8 n1_2, .int .u8 n1_3]]) (by simp) (fun x hx => by simp only [List.mem_singleton] at hx; subst hx; exact hb) (GoC.c_abatislaw02_FourBytes n0_0 b0_0 n0_1 b0_1 n0_2 b0_2 n0_3 b0_3 n1_0 b1_0 n1_1 b1_1 n1_2 b1_2 n1_3 b1_3 _ ⟨_, tg, fz, GoC.tab_named, SL.HasG.globs (List.mem_singleton.mpr rfl)⟩) rfl ?_).mono fun e W' ⟨he, bel⟩ => ?_
  · intro i v p h1 h2
    rcases i with _ | i
    · cases h1; cases h2; exact SL.V.flat (l := [.i .u8, .i .u8, .i .u8, .i .u8]) rfl
    rcases i with _ | i
    · cases h1; cases h2; exact SL.V.flat (l := [.i .u8, .i .u8, .i .u8, .i .u8]) rfl
    simp at h1
  subst he
  exact ⟨_, rfl, _, _, _, [], _, [], hW', trodAll_mk1 (shut_bool (by kernel_rfl) _), (trodAll_cons_mk (SL.trod_still W' (by kernel_rfl) g0) (trodAll_cons_mk (SL.trod_still W' (by kernel_rfl) g1) trodAll_mk0)), rfl, bel.frame _, fun h => by cases h⟩
theorem over : Rows.fourBytesRow.holds Tryd.pinned (OpenSpec.ofChange Rows.fourBytesSpec) :=
  OpenClaim.holds_of_wide 5 Tryd.f5 rfl rfl rfl rfl rfl rfl rfl ⟨rfl, rfl, rfl, rfl, rfl⟩ rfl rfl rfl rfl rfl (by kernel_rfl) Tryd.func5 (by kernel_rfl)
    (of_decide_eq_true (by kernel_rfl)) (by unfold Func.isWrapper; first | (rw [if_pos (by decide +kernel)]; kernel_rfl) | (rw [if_neg (by decide +kernel)]; exact ⟨rfl, rfl⟩))
    (fun os started H enc _ => lifted os started H enc)
theorem proved : Rows.FourBytesCardSaid :=
  Claim7.holds_tied_plain_at .later [] [.data, .data, .data] true (true, "01b1d5ccdd3a5e05f27ef41e766a9bd47bbe531d8d0bb0a160ed6713e216e262") false
    over (fun _ h => by cases h) (by kernel_rfl) (fun _ h => by cases h) fourBytes_row_tie rfl ⟨rfl, rfl⟩ (by kernel_rfl) rfl
    (fun f fn hf hfn => by
      obtain rfl : f = 5 := Option.some.inj ((show Tryd.prog.funcNamed "abatis/abatislaw02.FourBytes" = some 5 by kernel_rfl).symm.trans hf) |>.symm
      obtain rfl : fn = Tryd.f5 := (Option.some.inj (Tryd.func5.symm.trans hfn)).symm
      exact ⟨by kernel_rfl, fun j t ht => by
        have hall : Tryd.f5.params.toList.all (fun t => !Tryd.prog.wantsStandIn t) = true := by kernel_rfl
        have hm : t ∈ Tryd.f5.params.toList := by simpa using Array.mem_of_getElem? ht
        have hz : Tryd.prog.wantsStandIn t = false := by simpa using List.all_eq_true.mp hall t hm
        exact hz⟩)
    (by kernel_rfl)
end Go.Proofs.YtdjdhcljdcljoaaDoor.fourBytes
namespace Go.Proofs.YtdjdhcljdcljoaaDoor
/-- The card, under a short name, for the claim. -/
theorem fourBytes_holds : Rows.FourBytesCardSaid := fourBytes.proved
end Go.Proofs.YtdjdhcljdcljoaaDoor
