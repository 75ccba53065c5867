/-
  The card of the law UrlCases: the statement, out of what the law computes, where the listed variables hold what the program's text lays.
-/
import Derived.Test.YtepcccepheddjaaGreatDoorRows
import Derived.Test.YtepcccepheddjaaGreatDoorCards
import Derived.Test.YtepcccepheddjaaGreatDoorTie
import Derived.Test.YtepcccepheddjaaGreatDoorGoUrlB
import Derived.Test.YtepcccepheddjaaGreatDoorSlM5
import Derived.WalkKit
import Derived.ProofKit
import Derived.OpenShut
import Derived.ShutString
import Derived.ChangeOld
import Derived.SizedLaws
import Derived.JoinedOf
import Derived.JoinedAt
import Derived.LaidLaws
import Derived.Lay
import Derived.SevenTiedAt
namespace Go.Proofs.YtepcccepheddjaaGreatDoor.urlCases
open Go.ChangeShapes Go.WideShapes Go.ChangeAt Go.RowKit
open Go.ChangeMaps (open_string shut_string)
set_option linter.unusedVariables false
set_option maxRecDepth 100000
theorem own : ownKnob Tryz.prog.godebug = none := by kernel_rfl
def lst : List (String × DataW Unit) := [("math/bits.deBruijn32tab", Rows.laid_math_bits_deBruijn32tab), ("math/bits.deBruijn64tab", Rows.laid_math_bits_deBruijn64tab), ("internal/strconv.uint64pow10", Rows.laid_internal_strconv_uint64pow10)]
theorem met (os : Os) (args : Array Value) : laidMet Tryz.prog lst ((World.laidAll Tryz.prog os lst).forCall (fun _ _ => 0) ⟨#[], args, []⟩).memory := laidMet_laidAll args (by kernel_rfl) (by kernel_rfl)
theorem lifted (os : Os) (started : os.Started) (H : Type) (enc : TypeId × Value → H) :
    ReturnsInHanded {} Tryz.checked os 6 .any (fun w args => (Rows.urlCasesSpec.pre enc Tryz.prog Tryz.f6 Rows.urlCasesRow.domain false w args ∧ laidMet Tryz.prog lst w) ∧ sizedMet enc Tryz.prog Tryz.f6 (OpenSpec.ofChange Rows.urlCasesSpec) false w args) (Rows.urlCasesSpec.post enc Tryz.prog Tryz.f6 false true false false) := by
  refine SL.returns_shaped (C := Tryz.checked) (X := fun w _ => laidMet Tryz.prog lst w) (fun _ _ _ hh h => h.of_heap hh) own started (by kernel_rfl) Tryz.func6
    (ChangeSpec.witness_at (enc := enc) (C := Tryz.checked) (os := os) (X := fun w _ => laidMet Tryz.prog lst w) false (World.laidAll Tryz.prog os lst) #[.string ByteArray.empty] 8 (World.laidAll_os _ _ _) (by kernel_rfl) (by kernel_rfl) (by kernel_rfl) (by kernel_rfl) (by kernel_rfl) (met os _)) ?_
  intro W base args ds gs before hval0 hW hL hsh
  have hval : ∀ (j : Nat) t v, Tryz.f6.params[j]? = some t → args[j]? = some v → Value.okWide Tryz.prog W .any base t v := hval0
  have hW' := hW
  obtain ⟨p, q, hA0, hV, rfl, hfz, hnd⟩ := hW
  have hA : DataW.TrodAll enc Tryz.prog W 0 (fun _ => true) true Tryz.f6.params.toList args.toList ds p := hA0
  rw [Tryz.params6] at hA hval
  obtain ⟨v0, vs0, d0, ds0, p0, q0, hargs, rfl, rfl, h0, r0⟩ := trodAll_cons hA
  obtain ⟨rfl, rfl, rfl⟩ := trodAll_nil r0
  obtain rfl : args = #[v0] := by cases args; simp_all
  obtain ⟨rfl, rfl⟩ := trodVars_none hV
  have g0 := h0
  obtain ⟨a0, rfl, rfl, rfl, y0⟩ := open_string (by kernel_rfl) (hval 0 _ v0 rfl rfl) h0
  obtain ⟨l0, rfl⟩ := SL.bs_of a0
  obtain ⟨t0', z0', e0'⟩ : ∃ t fz, W.heap[1]? = some (.cells GoC.powCells t fz) := SL.tab_block (name := "internal/strconv.uint64pow10") (k := .u64) (zs := Lib.pow10Tab) (by kernel_rfl) (by kernel_rfl) (by kernel_rfl) hL
  obtain ⟨t1', z1', e1'⟩ : ∃ t fz, W.heap[3]? = some (.cells GoC.debCells t fz) := SL.tab_block (name := "math/bits.deBruijn64tab") (k := .u8) (zs := GoC.debTab) (by kernel_rfl) (by kernel_rfl) (by kernel_rfl) hL
  obtain ⟨m2', t2', z2', e2'⟩ : ∃ m t fz, W.heap[0]? = some (.cells #[.int .i64 m] t fz) := SL.shaped_int (k := .i64) (t := 3) (zero := #[.int .i64 0]) hsh (of_decide_eq_true (by kernel_rfl)) (by kernel_rfl) rfl (by kernel_rfl) (by kernel_rfl) (by kernel_rfl)
  have hG : GoC.GTab (SL.globs [(1, .cells GoC.powCells t0' z0'), (3, .cells GoC.debCells t1' z1'), (0, .cells #[.int .i64 m2'] t2' z2')]) := ⟨fun b hb => by
      obtain rfl : b = 1 := Option.some.inj (hb.symm.trans (show Tryz.prog.globalNamed "internal/strconv.uint64pow10" = some 1 by kernel_rfl))
      exact ⟨_, _, _, rfl, SL.HasG.globs List.mem_cons_self⟩, fun b hb => by
      obtain rfl : b = 3 := Option.some.inj (hb.symm.trans (show Tryz.prog.globalNamed "math/bits.deBruijn64tab" = some 3 by kernel_rfl))
      exact ⟨_, _, _, rfl, SL.HasG.globs (List.mem_cons_of_mem _ List.mem_cons_self)⟩, fun b hb => by
      obtain rfl : b = 0 := Option.some.inj (hb.symm.trans (show Tryz.prog.globalNamed "internal/bytealg.MaxLen" = some 0 by kernel_rfl))
      exact ⟨_, _, _, ⟨_, rfl⟩, SL.HasG.globs (List.mem_cons_of_mem _ (List.mem_cons_of_mem _ List.mem_cons_self))⟩⟩
  refine (SL.law_walk_g (G := [(1, .cells GoC.powCells t0' z0'), (3, .cells GoC.debCells t1' z1'), (0, .cells #[.int .i64 m2'] t2' z2')]) (args := [.str (SL.bs l0)]) (List.nodup_iff_pairwise_ne.mpr (by simp)) (fun x hx => by
      simp only [List.mem_cons, List.not_mem_nil, or_false] at hx
      rcases hx with rfl | rfl | rfl <;> assumption) (GoC.c_abatislaw13_UrlCases l0 _ hG) rfl ?_).mono fun e W' ⟨he, bel⟩ => ?_
  · intro i v p h1 h2
    rcases i with _ | i
    · cases h1; cases h2; exact SL.V.str _
    simp at h1
  subst he
  exact ⟨_, rfl, _, _, _, [], _, [], hW', trodAll_mk1 (shut_bool (by kernel_rfl) _), (trodAll_cons_mk (SL.trod_still W' (by kernel_rfl) g0) trodAll_mk0), rfl, bel.frame _, fun h => by cases h⟩
theorem over : Rows.urlCasesRow.holds Tryz.pinned (OpenSpec.ofChange Rows.urlCasesSpec) :=
  OpenClaim.holds_of_wide 6 Tryz.f6 rfl rfl rfl rfl rfl rfl rfl ⟨rfl, rfl, rfl, rfl, rfl⟩ rfl rfl rfl rfl rfl (by kernel_rfl) Tryz.func6 (by kernel_rfl)
    (of_decide_eq_true (by kernel_rfl)) (by unfold Func.isWrapper; first | (rw [if_pos (by decide +kernel)]; kernel_rfl) | (rw [if_neg (by decide +kernel)]; exact ⟨rfl, rfl⟩))
    (fun os started H enc _ => lifted os started H enc)
theorem proved : Rows.UrlCasesCardSaid :=
  Claim7.holds_tied_plain_at .later [] [.data, .data, .data] true (true, "2d791e705c5cf5b23bdbade47fa84322c1b4fbf9868a371d17988a2007995cb8") false
    over (fun _ h => by cases h) (by kernel_rfl) (fun _ h => by cases h) urlCases_row_tie rfl ⟨rfl, rfl⟩ (by kernel_rfl) rfl
    (fun f fn hf hfn => by
      obtain rfl : f = 6 := Option.some.inj ((show Tryz.prog.funcNamed "abatis/abatislaw13.UrlCases" = some 6 by kernel_rfl).symm.trans hf) |>.symm
      obtain rfl : fn = Tryz.f6 := (Option.some.inj (Tryz.func6.symm.trans hfn)).symm
      exact ⟨by kernel_rfl, fun j t ht => by
        have hall : Tryz.f6.params.toList.all (fun t => !Tryz.prog.wantsStandIn t) = true := by kernel_rfl
        have hm : t ∈ Tryz.f6.params.toList := by simpa using Array.mem_of_getElem? ht
        have hz : Tryz.prog.wantsStandIn t = false := by simpa using List.all_eq_true.mp hall t hm
        exact hz⟩)
    (by kernel_rfl)
end Go.Proofs.YtepcccepheddjaaGreatDoor.urlCases
namespace Go.Proofs.YtepcccepheddjaaGreatDoor
/-- The card, under a short name, for the claim. -/
theorem urlCases_holds : Rows.UrlCasesCardSaid := urlCases.proved
end Go.Proofs.YtepcccepheddjaaGreatDoor
