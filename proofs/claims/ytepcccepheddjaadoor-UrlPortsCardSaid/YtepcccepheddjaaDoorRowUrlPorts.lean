/-
  The card of the law UrlPorts: the statement, out of what the law computes, where the listed variables hold what the program's text lays.
-/
import Derived.Test.YtepcccepheddjaaDoorRows
import Derived.Test.YtepcccepheddjaaDoorCards
import Derived.Test.YtepcccepheddjaaDoorTie
import Derived.Test.YtepcccepheddjaaDoorGoUrlC
import Derived.Test.YtepcccepheddjaaDoorSlM5
import Derived.WalkKit
import Derived.ProofKit
import Derived.OpenShut
import Derived.ShutString
import Derived.ChangeOld
import Derived.SizedLaws
import Derived.JoinedOf
import Derived.JoinedAt
import Derived.LaidLaws
import Derived.Lay
import Derived.SevenTiedAt
namespace Go.Proofs.YtepcccepheddjaaDoor.urlPorts
open Go.ChangeShapes Go.WideShapes Go.ChangeAt Go.RowKit
open Go.ChangeMaps (open_string shut_string)
set_option linter.unusedVariables false
set_option maxRecDepth 100000
theorem own : ownKnob Tryd.prog.godebug = none := by kernel_rfl
def lst : List (String × DataW Unit) := [("math/bits.deBruijn32tab", Rows.laid_math_bits_deBruijn32tab), ("math/bits.deBruijn64tab", Rows.laid_math_bits_deBruijn64tab), ("internal/strconv.uint64pow10", Rows.laid_internal_strconv_uint64pow10)]
theorem met (os : Os) (args : Array Value) : laidMet Tryd.prog lst ((World.laidAll Tryd.prog os lst).forCall (fun _ _ => 0) ⟨#[], args, []⟩).memory := laidMet_laidAll args (by kernel_rfl) (by kernel_rfl)
theorem lifted (os : Os) (started : os.Started) (H : Type) (enc : TypeId × Value → H) :
    ReturnsInHanded {} Tryd.checked os 3 .any (fun w args => (Rows.urlPortsSpec.pre enc Tryd.prog Tryd.f3 Rows.urlPortsRow.domain false w args ∧ laidMet Tryd.prog lst w) ∧ sizedMet enc Tryd.prog Tryd.f3 (OpenSpec.ofChange Rows.urlPortsSpec) false w args) (Rows.urlPortsSpec.post enc Tryd.prog Tryd.f3 false true false false) := by
  refine SL.returns_shaped (C := Tryd.checked) (X := fun w _ => laidMet Tryd.prog lst w) (fun _ _ _ hh h => h.of_heap hh) own started (by kernel_rfl) Tryd.func3
    (ChangeSpec.witness_at (enc := enc) (C := Tryd.checked) (os := os) (X := fun w _ => laidMet Tryd.prog lst w) false (World.laidAll Tryd.prog os lst) #[.int .i64 0, .bool false] 8 (World.laidAll_os _ _ _) (by kernel_rfl) (by kernel_rfl) (by kernel_rfl) (by kernel_rfl) (by kernel_rfl) (met os _)) ?_
  intro W base args ds gs before hval0 hW hL hsh
  have hval : ∀ (j : Nat) t v, Tryd.f3.params[j]? = some t → args[j]? = some v → Value.okWide Tryd.prog W .any base t v := hval0
  have hW' := hW
  obtain ⟨p, q, hA0, hV, rfl, hfz, hnd⟩ := hW
  have hA : DataW.TrodAll enc Tryd.prog W 0 (fun _ => true) true Tryd.f3.params.toList args.toList ds p := hA0
  rw [Tryd.params3] at hA hval
  obtain ⟨v0, vs0, d0, ds0, p0, q0, hargs, rfl, rfl, h0, r0⟩ := trodAll_cons hA
  obtain ⟨v1, vs1, d1, ds1, p1, q1, rfl, rfl, rfl, h1, r1⟩ := trodAll_cons r0
  obtain ⟨rfl, rfl, rfl⟩ := trodAll_nil r1
  obtain rfl : args = #[v0, v1] := by cases args; simp_all
  obtain ⟨rfl, rfl⟩ := trodVars_none hV
  have g0 := h0
  have g1 := h1
  obtain ⟨a0, rfl, rfl, rfl, w0⟩ := open_int (k := .i64) (by kernel_rfl) (hval 0 _ v0 rfl rfl) h0
  obtain ⟨a1, rfl, rfl, rfl⟩ := open_bool (by kernel_rfl) (hval 1 _ v1 rfl rfl) h1
  obtain ⟨t0', z0', e0'⟩ : ∃ t fz, W.heap[1]? = some (.cells GoC.powCells t fz) := SL.tab_block (name := "internal/strconv.uint64pow10") (k := .u64) (zs := Lib.pow10Tab) (by kernel_rfl) (by kernel_rfl) (by kernel_rfl) hL
  obtain ⟨t1', z1', e1'⟩ : ∃ t fz, W.heap[3]? = some (.cells GoC.debCells t fz) := SL.tab_block (name := "math/bits.deBruijn64tab") (k := .u8) (zs := GoC.debTab) (by kernel_rfl) (by kernel_rfl) (by kernel_rfl) hL
  obtain ⟨m2', t2', z2', e2'⟩ : ∃ m t fz, W.heap[0]? = some (.cells #[.int .i64 m] t fz) := SL.shaped_int (k := .i64) (t := 3) (zero := #[.int .i64 0]) hsh (of_decide_eq_true (by kernel_rfl)) (by kernel_rfl) rfl (by kernel_rfl) (by kernel_rfl) (by kernel_rfl)
  have hG : GoC.GTab (SL.globs [(1, .cells GoC.powCells t0' z0'), (3, .cells GoC.debCells t1' z1'), (0, .cells #[.int .i64 m2'] t2' z2')]) := ⟨fun b hb => by
      obtain rfl : b = 1 := Option.some.inj (hb.symm.trans (show Tryd.prog.globalNamed "internal/strconv.uint64pow10" = some 1 by kernel_rfl))
      exact ⟨_, _, _, rfl, SL.HasG.globs List.mem_cons_self⟩, fun b hb => by
      obtain rfl : b = 3 := Option.some.inj (hb.symm.trans (show Tryd.prog.globalNamed "math/bits.deBruijn64tab" = some 3 by kernel_rfl))
      exact ⟨_, _, _, rfl, SL.HasG.globs (List.mem_cons_of_mem _ List.mem_cons_self)⟩, fun b hb => by
      obtain rfl : b = 0 := Option.some.inj (hb.symm.trans (show Tryd.prog.globalNamed "internal/bytealg.MaxLen" = some 0 by kernel_rfl))
      exact ⟨_, _, _, ⟨_, rfl⟩, SL.HasG.globs (List.mem_cons_of_mem _ (List.mem_cons_of_mem _ List.mem_cons_self))⟩⟩
  refine (SL.law_walk_g (G := [(1, .cells GoC.powCells t0' z0'), (3, .cells GoC.debCells t1' z1'), (0, .cells #[.int .i64 m2'] t2' z2')]) (args := [.int .i64 a0, .bool a1]) (List.nodup_iff_pairwise_ne.mpr (by simp)) (fun x hx => by
      simp only [List.mem_cons, List.not_mem_nil, or_false] at hx
      rcases hx with rfl | rfl | rfl <;> assumption) (GoC.c_abatislaw13_UrlPorts a0 (SL.i64_of w0).1 (SL.i64_of w0).2 a1 _ hG) rfl ?_).mono fun e W' ⟨he, bel⟩ => ?_
  · intro i v p h1 h2
    rcases i with _ | i
    · cases h1; cases h2; exact SL.V.int _ _
    rcases i with _ | i
    · cases h1; cases h2; exact SL.V.bool _
    simp at h1
  subst he
  exact ⟨_, rfl, _, _, _, [], _, [], hW', trodAll_mk1 (shut_bool (by kernel_rfl) _), (trodAll_cons_mk (SL.trod_still W' (by kernel_rfl) g0) (trodAll_cons_mk (SL.trod_still W' (by kernel_rfl) g1) trodAll_mk0)), rfl, bel.frame _, fun h => by cases h⟩
theorem over : Rows.urlPortsRow.holds Tryd.pinned (OpenSpec.ofChange Rows.urlPortsSpec) :=
  OpenClaim.holds_of_wide 3 Tryd.f3 rfl rfl rfl rfl rfl rfl rfl ⟨rfl, rfl, rfl, rfl, rfl⟩ rfl rfl rfl rfl rfl (by kernel_rfl) Tryd.func3 (by kernel_rfl)
    (of_decide_eq_true (by kernel_rfl)) (by unfold Func.isWrapper; first | (rw [if_pos (by decide +kernel)]; kernel_rfl) | (rw [if_neg (by decide +kernel)]; exact ⟨rfl, rfl⟩))
    (fun os started H enc _ => lifted os started H enc)
theorem proved : Rows.UrlPortsCardSaid :=
  Claim7.holds_tied_plain_at .later [] [.data, .data, .data] true (true, "0f30cd23bde4bea82822ce962bd60246d28339fb4b2f04b017c3b2bea0be2b51") false
    over (fun _ h => by cases h) (by kernel_rfl) (fun _ h => by cases h) urlPorts_row_tie rfl ⟨rfl, rfl⟩ (by kernel_rfl) rfl
    (fun f fn hf hfn => by
      obtain rfl : f = 3 := Option.some.inj ((show Tryd.prog.funcNamed "abatis/abatislaw13.UrlPorts" = some 3 by kernel_rfl).symm.trans hf) |>.symm
      obtain rfl : fn = Tryd.f3 := (Option.some.inj (Tryd.func3.symm.trans hfn)).symm
      exact ⟨by kernel_rfl, fun j t ht => by
        have hall : Tryd.f3.params.toList.all (fun t => !Tryd.prog.wantsStandIn t) = true := by kernel_rfl
        have hm : t ∈ Tryd.f3.params.toList := by simpa using Array.mem_of_getElem? ht
        have hz : Tryd.prog.wantsStandIn t = false := by simpa using List.all_eq_true.mp hall t hm
        exact hz⟩)
    (by kernel_rfl)
end Go.Proofs.YtepcccepheddjaaDoor.urlPorts
namespace Go.Proofs.YtepcccepheddjaaDoor
/-- The card, under a short name, for the claim. -/
theorem urlPorts_holds : Rows.UrlPortsCardSaid := urlPorts.proved
end Go.Proofs.YtepcccepheddjaaDoor
