/-
  What the functions compute: the law of the first twelve bytes. No claim by itself.
-/
import Derived.Test.YtmgemdgbffmnjaaGoWireJ
namespace Go.Proofs.GoC
open Go Go.Proofs.SL
set_option linter.unusedSimpArgs false
set_option linter.unusedVariables false
set_option maxRecDepth 10000
set_option maxHeartbeats 4000000

def wantM (m : Ms) : List Nat := [m.id.toNat, m.fl.toNat, m.qs.length, m.an.length, m.au.length, m.mo.length]
theorem may_ids {m : Ms} (h : mayM m = true) : (0 ≤ m.id ∧ m.id ≤ 65535) ∧ (0 ≤ m.fl ∧ m.fl ≤ 65535) := by
  unfold mayM at h
  simp only [Bool.and_eq_true] at h
  obtain ⟨_, _, _, y0, _⟩ := h
  rw [inAll_iff] at y0
  exact ⟨y0 _ (by simp), y0 _ (by simp)⟩
theorem c_abatislaw09_WireHead (m : Ms) (hm : MsOk m) : GCall 4 [msV m] (.bool true) := by
  intro H hG
  have hGood := c_abatisref09_Good m hm
  obtain ⟨gok, gmay, k1, k2, k3, k4⟩ := goodMs_ok hm
  generalize goodMs m = g at *
  have hG2 : ∀ L, GTab (H ++ L) := fun L => hG.keep (F := []) Keeps.app (by simp)
  have hW := fun L => c_wire_Write g gok (by omega) (by omega) (by omega) (by omega) gmay (hG2 L)
  have hL := fun L => c_abatislaw09_lives (H ++ L) (hG2 L)
  obtain ⟨⟨i1, i2⟩, ⟨i3, i4⟩⟩ := may_ids gmay
  have eid : ((g.id.toNat : Nat) : Int) = g.id := Int.toNat_of_nonneg i1
  have efl : ((g.fl.toNat : Nat) : Int) = g.fl := Int.toNat_of_nonneg i3
  have hwant : [PV.int .i64 g.id, .int .i64 g.fl, .int .i64 (g.qs.length : Nat), .int .i64 (g.an.length : Nat), .int .i64 (g.au.length : Nat), .int .i64 (g.mo.length : Nat)] = nums (wantM g) := by simp [nums, wantM, eid, efl]
  have hwl : (wantM g).length = 6 := rfl
  have hwle : ∀ n ∈ wantM g, n ≤ 65535 := fun n hn => by
    simp only [wantM, List.mem_cons, List.not_mem_nil, or_false] at hn; omega
  refine scall_of (ord := fun _ => []) (rs := [2]) Try.func4 rfl (by kernel_rfl) (by kernel_rfl) (by kernel_rfl) Try.ntmps4 fun hb hargs => go 200 (fun _ => false) mixed ?_
  simp (disch := omega) only [↓reduceIte, go_sem, msV, msC] <;> repeat with_reducible refine And.intro (by first | omega | decide) ?_
  refine hGood.on (go 200 (fun _ => false) mixed ?_)
  simp (disch := omega) only [↓reduceIte, go_sem, msV, msC] <;> repeat with_reducible refine And.intro (by first | omega | decide) ?_
  refine (hW _).mono fun r H' ⟨e1, e2⟩ => ?_
  rw [e1, e2]
  cases hbm : bytesM g with
  | none =>
    refine go 200 (fun _ => false) mixed ?_
    simp (disch := omega) only [↓reduceIte, go_sem] <;> repeat with_reducible refine And.intro (by first | omega | decide) ?_
    refine (hL _).mono fun r H' ⟨e1, e2⟩ => ?_
    rw [e1, e2]
    refine go 200 (fun _ => false) mixed ?_
    simp (disch := omega) only [↓reduceIte, go_sem] <;> repeat with_reducible refine And.intro (by first | omega | decide) ?_
    exact fin_drop (.inr rfl) hb rfl (by simp)
  | some b =>
    obtain ⟨hh, h12, hl⟩ := bytesM_head hbm
    have hat : ∀ k, k < 12 → b.getD k 0 = (twos (wantM g)).getD k 0 := fun k hk => by
      have : (b.take 12).getD k 0 = b.getD k 0 := by
        rw [List.getD_eq_getElem?_getD, List.getElem?_take_of_lt hk, ← List.getD_eq_getElem?_getD]
      rw [← this, hh]; rfl
    refine go 200 (fun _ => false) mixed ?_
    have hlt12 : ¬ b.length < 12 := by omega
    simp (disch := omega) only [↓reduceIte, go_sem, hlt12] <;> repeat with_reducible refine And.intro (by first | omega | decide) ?_
    refine runs_loopA (fun k : Nat => k ≤ 6) (fun k => 6 - k) [false, true, false, true, true, true, true, true]
      (fun k => slots 67 [.any, .ptr H.length 0 0, .any, .ptr (H.length + 1) 0 0, .sl 1 (bys b), .int .i64 0, .sl 1 [PV.int .i64 g.id, .int .i64 g.fl, .int .i64 (g.qs.length : Nat), .int .i64 (g.an.length : Nat), .int .i64 (g.au.length : Nat), .int .i64 (g.mo.length : Nat)], .int .i64 (k : Nat)]) (fun k => H ++ [some (.cells 0 (msC m)), some (.cells 0 (msC g))]) (by rfl) 0 (Nat.zero_le _) rfl rfl ?_
    intro k hk
    change k ≤ 6 at hk
    refine go 200 (fun _ => false) mixed ?_
    by_cases hlt : k < 6
    · have g1 : (bys b).getD (2 * k) .any = .int .u8 ((b.getD (2 * k) 0).toNat : Nat) := bys_getD (by omega)
      have g2 : (bys b).getD (2 * k + 1) .any = .int .u8 ((b.getD (2 * k + 1) 0).toNat : Nat) := bys_getD (by omega)
      have g3 : (nums (wantM g)).getD k .any = .int .i64 ((wantM g).getD k 0 : Nat) := nums_getD (by omega)
      have ht := twos_at (wantM g) k (by omega) hwle
      rw [← hat _ (by omega), ← hat _ (by omega)] at ht
      have hb1 := (b.getD (2 * k) 0).toNat_lt
      have hb2 := (b.getD (2 * k + 1) 0).toNat_lt
      rw [← ht, ← hwant] at g3
      generalize (b.getD (2 * k) 0).toNat = x at *
      generalize (b.getD (2 * k + 1) 0).toNat = y at *
      simp (disch := omega) only [↓reduceIte, go_sem, hlt, g1, g2, g3, hwl] <;> repeat with_reducible refine And.intro (by first | omega | decide) ?_
      exact rnd_next (k + 1) (by omega) (by show 6 - (k + 1) < 6 - k; omega) rfl rfl
    · simp (disch := omega) only [↓reduceIte, go_sem, hlt] <;> repeat with_reducible refine And.intro (by first | omega | decide) ?_
      refine go 200 (fun _ => false) mixed ?_
      simp (disch := omega) only [↓reduceIte, go_sem] <;> repeat with_reducible refine And.intro (by first | omega | decide) ?_
      refine (hL _).mono fun r H' ⟨e1, e2⟩ => ?_
      rw [e1, e2]
      refine go 200 (fun _ => false) mixed ?_
      simp (disch := omega) only [↓reduceIte, go_sem] <;> repeat with_reducible refine And.intro (by first | omega | decide) ?_
      exact fin_drop (.inr rfl) hb rfl (by simp)
end Go.Proofs.GoC
