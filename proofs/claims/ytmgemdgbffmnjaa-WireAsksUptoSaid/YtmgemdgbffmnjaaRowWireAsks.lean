/-
  The row of the law WireAsks: the statement, out of what the law computes, whatever the named variables hold.
-/
import Derived.Test.YtmgemdgbffmnjaaRows
import Derived.Test.YtmgemdgbffmnjaaGoWireM
import Derived.Test.YtmgemdgbffmnjaaGoBulk
import Derived.Test.YtmgemdgbffmnjaaSlArgB
import Derived.WalkKit
import Derived.ProofKit
import Derived.OpenShut
import Derived.ShutString
import Derived.ChangeOld
import Derived.SizedLaws
import Derived.JoinedCond
namespace Go.Proofs.Ytmgemdgbffmnjaa.wireAsks
open Go.ChangeShapes Go.WideShapes Go.ChangeAt Go.RowKit
open Go.ChangeMaps (open_string shut_string)
set_option linter.unusedVariables false
set_option maxRecDepth 100000
theorem own : ownKnob Try.prog.godebug = none := by kernel_rfl
theorem lifted (os : Os) (started : os.Started) (H : Type) (enc : TypeId × Value → H) (F : Stop.Interp) :
    ReturnsInHanded {} Try.checked os 6 .any ((Rows.OpenSpec.upto Rows.wireAsksSpec).pre6 enc Try.prog Try.f6 Rows.wireAsksUptoRow.domain false) (((Rows.OpenSpec.upto Rows.wireAsksSpec).at F).post enc Try.prog Try.f6 false true false false) := by
  refine SL.returns_upto (C := Try.checked) (s := (Rows.OpenSpec.upto Rows.wireAsksSpec)) (k := Rows.uptoSmall) rfl own started (by kernel_rfl) Try.func6
    (OpenSpec.witness (enc := enc) (C := Try.checked) (s := (Rows.OpenSpec.upto Rows.wireAsksSpec)) (k := Rows.uptoSmall) rfl false ⟨#[], #[.int .i64 0, .string ByteArray.empty, .int .i64 0, .slice none 0 0], []⟩ 8 (by kernel_rfl) (by kernel_rfl) (by kernel_rfl)
      (x := ([.lit (.int .i64 0), .lit (.string []), .lit (.int .i64 0), .nil], [], [])) (by kernel_rfl) rfl (by kernel_rfl)) ?_
  intro W base args ds gs before hval0 hW hk hsh
  have hval : ∀ (j : Nat) t v, Try.f6.params[j]? = some t → args[j]? = some v → Value.okWide Try.prog W .any base t v := hval0
  have hW' := hW
  obtain ⟨p, q, hA0, hV, rfl, hfz, hnd⟩ := hW
  have hA : DataW.TrodAll enc Try.prog W 0 (fun _ => true) true Try.f6.params.toList args.toList ds p := hA0
  rw [Try.params6] at hA hval
  obtain ⟨v0, vs0, d0, ds0, p0, q0, hargs, rfl, rfl, h0, r0⟩ := trodAll_cons hA
  obtain ⟨v1, vs1, d1, ds1, p1, q1, rfl, rfl, rfl, h1, r1⟩ := trodAll_cons r0
  obtain ⟨v2, vs2, d2, ds2, p2, q2, rfl, rfl, rfl, h2, r2⟩ := trodAll_cons r1
  obtain ⟨v3, vs3, d3, ds3, p3, q3, rfl, rfl, rfl, h3, r3⟩ := trodAll_cons r2
  obtain ⟨rfl, rfl, rfl⟩ := trodAll_nil r3
  obtain rfl : args = #[v0, v1, v2, v3] := by cases args; simp_all
  have hk0 : Rows.uptoBulk d0 ≤ 1048576 := GoC.bulk_le hk (by simp)
  have hk1 : Rows.uptoBulk d1 ≤ 1048576 := GoC.bulk_le hk (by simp)
  have hk2 : Rows.uptoBulk d2 ≤ 1048576 := GoC.bulk_le hk (by simp)
  have hk3 : Rows.uptoBulk d3 ≤ 1048576 := GoC.bulk_le hk (by simp)
  obtain ⟨rfl, rfl⟩ := trodVars_none hV
  obtain ⟨m2', t2', z2', e2'⟩ : ∃ m t fz, W.heap[0]? = some (.cells #[.int .i64 m] t fz) := SL.shaped_int (k := .i64) (t := 3) (zero := #[.int .i64 0]) hsh (of_decide_eq_true (by kernel_rfl)) (by kernel_rfl) rfl (by kernel_rfl) (by kernel_rfl) (by kernel_rfl)
  have hG : GoC.GTab (SL.globs [(0, .cells #[.int .i64 m2'] t2' z2')]) := ⟨(fun b hb => by cases hb.symm.trans (show Try.prog.globalNamed "internal/strconv.uint64pow10" = none by kernel_rfl)), (fun b hb => by cases hb.symm.trans (show Try.prog.globalNamed "math/bits.deBruijn64tab" = none by kernel_rfl)), (fun b hb => by
      obtain rfl : b = 0 := Option.some.inj (hb.symm.trans (show Try.prog.globalNamed "internal/bytealg.MaxLen" = some 0 by kernel_rfl))
      exact ⟨_, _, _, ⟨_, rfl⟩, SL.HasG.globs List.mem_cons_self⟩)⟩
  have g0 := h0
  obtain ⟨a0, rfl, rfl, rfl, w0⟩ := open_int (k := .i64) (by kernel_rfl) (hval 0 _ v0 rfl rfl) h0
  have g1 := h1
  obtain ⟨a1, rfl, rfl, rfl, y1⟩ := open_string (by kernel_rfl) (hval 1 _ v1 rfl rfl) h1
  obtain ⟨l1, rfl⟩ := SL.bs_of a1
  have hlt1 : l1.length < 1100000 := by
    have h9 := (GoC.bulk_ok (H := H)).str (SL.bs l1).data.toList
    have h8 : (SL.bs l1).data.toList = l1 := by simp [SL.bs]
    rw [h8] at h9 hk1
    exact Nat.lt_of_le_of_lt (Nat.le_trans h9 hk1) (by decide)
  have g2 := h2
  obtain ⟨a2, rfl, rfl, rfl, w2⟩ := open_int (k := .i64) (by kernel_rfl) (hval 2 _ v2 rfl rfl) h2
  have g3 := h3
  obtain ⟨ys3, hy3, hyl3, hyv3⟩ := SL.open_slB GoC.bulk_ok (G := [(0, .cells #[.int .i64 m2'] t2' z2')]) (e := 32) (l := [.s, .i .i64, .i .i64, .i .i64, .i .i64, .i .u8, .i .u8, .i .u8, .i .u8, .i .u8, .i .u8, .i .u8, .i .u8, .i .u8, .i .u8, .i .u8, .i .u8, .i .u8, .i .u8, .i .u8, .i .u8, .s, .s]) true (by kernel_rfl) (by kernel_rfl) (by kernel_rfl) (by decide) (fun h => by cases h) (hval 3 _ v3 rfl rfl) h3
  obtain ⟨l3, hl3, hll3, ko3⟩ := GoC.rcs_of (by omega) hy3
  rw [hl3] at hyv3
  have hlt3 : l3.length < 1100000 := by omega
  refine (SL.law_walk_g (G := [(0, .cells #[.int .i64 m2'] t2' z2')]) (args := [.int .i64 a0, .str (SL.bs l1), .int .i64 a2, .sl 23 (GoC.rcsV l3)]) (List.nodup_iff_pairwise_ne.mpr (by simp)) (fun x hx => by
      simp only [List.mem_cons, List.not_mem_nil, or_false] at hx
      rcases hx with rfl <;> assumption) (fun x hx => by
      simp only [List.mem_cons, List.not_mem_nil, or_false] at hx
      rcases hx with rfl <;> exact ⟨_, _, _, rfl⟩) (GoC.c_abatislaw09_WireAsks a0 l1 a2 l3 hlt3 ko3 _ hG) rfl ?_).mono fun e W' ⟨he, bel⟩ => ?_
  · intro i v p h1 h2
    rcases i with _ | i
    · cases h1; cases h2; exact SL.V.int _ _
    rcases i with _ | i
    · cases h1; cases h2; exact SL.V.str _
    rcases i with _ | i
    · cases h1; cases h2; exact SL.V.int _ _
    rcases i with _ | i
    · cases h1; cases h2; exact hyv3
    simp at h1
  subst he
  exact ⟨_, rfl, _, _, _, [], _, [], hW', trodAll_mk1 (shut_bool (by kernel_rfl) _), (trodAll_cons_mk (SL.trod_back (by kernel_rfl) (by kernel_rfl) (of_decide_eq_true (by kernel_rfl)) g0 bel) (trodAll_cons_mk (SL.trod_back (by kernel_rfl) (by kernel_rfl) (of_decide_eq_true (by kernel_rfl)) g1 bel) (trodAll_cons_mk (SL.trod_back (by kernel_rfl) (by kernel_rfl) (of_decide_eq_true (by kernel_rfl)) g2 bel) (trodAll_cons_mk (SL.trod_back (by kernel_rfl) (by kernel_rfl) (of_decide_eq_true (by kernel_rfl)) g3 bel) trodAll_mk0)))), rfl, bel.frame _, fun h => by cases h⟩
theorem over : Rows.wireAsksUptoRow.holds Try.pinned (Rows.OpenSpec.upto Rows.wireAsksSpec) :=
  OpenClaim.holds_of_cond 6 Try.f6 rfl rfl rfl rfl rfl rfl rfl ⟨rfl, rfl, rfl, rfl, rfl⟩ rfl rfl rfl rfl rfl (by kernel_rfl) Try.func6 (by kernel_rfl)
    (of_decide_eq_true (by kernel_rfl)) (by unfold Func.isWrapper; first | (rw [if_pos (by decide +kernel)]; kernel_rfl) | (rw [if_neg (by decide +kernel)]; exact ⟨rfl, rfl⟩))
    (fun os started H enc _ F => lifted os started H enc F)
theorem proved : Rows.WireAsksUptoSaid := over
end Go.Proofs.Ytmgemdgbffmnjaa.wireAsks
namespace Go.Proofs.Ytmgemdgbffmnjaa
/-- The row, under a short name, for the claim. -/
theorem wireAsks_holds : Rows.WireAsksUptoSaid := wireAsks.proved
end Go.Proofs.Ytmgemdgbffmnjaa
