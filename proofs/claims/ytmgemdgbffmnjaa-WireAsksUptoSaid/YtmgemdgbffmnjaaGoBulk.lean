/-
  What the bound gives of a message that a law is handed. No claim by itself.
-/
import Derived.Test.YtmgemdgbffmnjaaRows
import Derived.Test.YtmgemdgbffmnjaaGoWireD
import Derived.Test.YtmgemdgbffmnjaaSlArgB
namespace Go.Proofs.GoC
open Go Go.Proofs.SL
set_option linter.unusedSimpArgs false
set_option linter.unusedVariables false

theorem bulk_part {H : Type} {d : DataW H} {l : List (DataW H)} (h : d ∈ l) : Ytmgemdgbffmnjaa.Rows.uptoBulk d ≤ Ytmgemdgbffmnjaa.Rows.uptoBulkAll l := by
  induction l with
  | nil => cases h
  | cons x r ih =>
    simp only [Ytmgemdgbffmnjaa.Rows.uptoBulkAll]
    cases List.mem_cons.1 h with
    | inl e => subst e; omega
    | inr e => have := ih e; omega
theorem bulk_one {H : Type} (d : DataW H) : 1 ≤ Ytmgemdgbffmnjaa.Rows.uptoBulk d := by
  cases d with
  | lit l => cases l <;> simp [Ytmgemdgbffmnjaa.Rows.uptoBulk]
  | nil => simp [Ytmgemdgbffmnjaa.Rows.uptoBulk]
  | ptr d => simp [Ytmgemdgbffmnjaa.Rows.uptoBulk]
  | slice elems spare => simp [Ytmgemdgbffmnjaa.Rows.uptoBulk]
  | agg parts => simp [Ytmgemdgbffmnjaa.Rows.uptoBulk]
  | iface t d => simp [Ytmgemdgbffmnjaa.Rows.uptoBulk]
  | map entries => simp [Ytmgemdgbffmnjaa.Rows.uptoBulk]
  | held h => simp [Ytmgemdgbffmnjaa.Rows.uptoBulk]
theorem bulk_length {H : Type} (l : List (DataW H)) : l.length ≤ Ytmgemdgbffmnjaa.Rows.uptoBulkAll l := by
  induction l with
  | nil => simp [Ytmgemdgbffmnjaa.Rows.uptoBulkAll]
  | cons x r ih => have := bulk_one x; simp only [Ytmgemdgbffmnjaa.Rows.uptoBulkAll, List.length_cons]; omega
theorem bulk_ok {H : Type} : BulkOk (H := H) Ytmgemdgbffmnjaa.Rows.uptoBulk where
  str := fun b => by simp [Ytmgemdgbffmnjaa.Rows.uptoBulk]
  agg := fun l p hp => by
    have := bulk_part hp
    simp only [Ytmgemdgbffmnjaa.Rows.uptoBulk]; omega
  sl := fun l r => by
    have h1 := bulk_length l
    refine ⟨by simp only [Ytmgemdgbffmnjaa.Rows.uptoBulk]; omega, fun p hp => ?_⟩
    have := bulk_part hp
    simp only [Ytmgemdgbffmnjaa.Rows.uptoBulk]; omega
theorem bulk_le {H : Type} {ds : List (DataW H)} (hk : Ytmgemdgbffmnjaa.Rows.uptoSmall H ds = true) {d : DataW H} (h : d ∈ ds) : Ytmgemdgbffmnjaa.Rows.uptoBulk d ≤ 1048576 :=
  Nat.le_trans (bulk_part h) (of_decide_eq_true hk)

theorem bs_sz (l : List UInt8) : (bs l).size = l.length := by simp [bs, ByteArray.size]
theorem qu_of {z : List PV} {n : Nat} (hn : n < 1100000) (h : z.map tagP = ([.s, .i .i64, .i .i64] : List Tag).map some) (hw : ∀ q ∈ z, wfP q) (hs : ∀ s, PV.str s ∈ z → s.size ≤ n) : ∃ q : Qu, z = quC q ∧ QuOk q := by
  obtain ⟨q1, x1, rfl, g1, w1, h1, hw1⟩ := cells_cons h hw
  obtain ⟨q2, x2, rfl, g2, w2, h2, hw2⟩ := cells_cons h1 hw1
  obtain ⟨q3, x3, rfl, g3, w3, h3, hw3⟩ := cells_cons h2 hw2
  obtain rfl := cells_nil h3
  obtain ⟨n1, rfl, _⟩ := cell_str g1 w1
  obtain ⟨n2, rfl, b2⟩ := cell_i64 g2 w2
  obtain ⟨n3, rfl, b3⟩ := cell_i64 g3 w3
  have l1 := hs (bs n1) (by simp)
  rw [bs_sz] at l1
  exact ⟨⟨n1, n2, n3⟩, rfl, b2, b3, by show n1.length < _; omega⟩
theorem rc_of {z : List PV} {n : Nat} (hn : n < 1100000) (h : z.map tagP = ([.s, .i .i64, .i .i64, .i .i64, .i .i64, .i .u8, .i .u8, .i .u8, .i .u8, .i .u8, .i .u8, .i .u8, .i .u8, .i .u8, .i .u8, .i .u8, .i .u8, .i .u8, .i .u8, .i .u8, .i .u8, .s, .s] : List Tag).map some)
    (hw : ∀ q ∈ z, wfP q) (hs : ∀ s, PV.str s ∈ z → s.size ≤ n) : ∃ r : Rc, z = rcC r ∧ RcOk r := by
  obtain ⟨q1, x1, rfl, g1, w1, h1, hw1⟩ := cells_cons h hw
  obtain ⟨q2, x2, rfl, g2, w2, h2, hw2⟩ := cells_cons h1 hw1
  obtain ⟨q3, x3, rfl, g3, w3, h3, hw3⟩ := cells_cons h2 hw2
  obtain ⟨q4, x4, rfl, g4, w4, h4, hw4⟩ := cells_cons h3 hw3
  obtain ⟨q5, x5, rfl, g5, w5, h5, hw5⟩ := cells_cons h4 hw4
  obtain ⟨ab, x6, rfl, l6, b6, h6, hw6⟩ := cells_u8s 16 h5 hw5
  obtain ⟨q7, x7, rfl, g7, w7, h7, hw7⟩ := cells_cons h6 hw6
  obtain ⟨q8, x8, rfl, g8, w8, h8, hw8⟩ := cells_cons h7 hw7
  obtain rfl := cells_nil h8
  obtain ⟨n1, rfl, _⟩ := cell_str g1 w1
  obtain ⟨n2, rfl, b2⟩ := cell_i64 g2 w2
  obtain ⟨n3, rfl, b3⟩ := cell_i64 g3 w3
  obtain ⟨n4, rfl, b4⟩ := cell_i64 g4 w4
  obtain ⟨n5, rfl, b5⟩ := cell_i64 g5 w5
  obtain ⟨n7, rfl, _⟩ := cell_str g7 w7
  obtain ⟨n8, rfl, _⟩ := cell_str g8 w8
  have l1 := hs (bs n1) (by simp)
  have l7 := hs (bs n7) (by simp)
  have l8 := hs (bs n8) (by simp)
  rw [bs_sz] at l1 l7 l8
  exact ⟨⟨n1, n2, n3, n4, n5, ab, n7, n8⟩, rfl, b2, b3, b4, b5, l6, b6, by show n1.length < _; omega, by show n7.length < _; omega, by show n8.length < _; omega⟩
theorem qus_of {ys : List (List PV)} {n : Nat} (hn : n < 1100000) (h : ∀ y ∈ ys, y.map tagP = ([.s, .i .i64, .i .i64] : List Tag).map some ∧ (∀ q ∈ y, wfP q) ∧ ∀ s, PV.str s ∈ y → s.size ≤ n) :
    ∃ l : List Qu, ys.map (wrapE true) = qusV l ∧ l.length = ys.length ∧ ∀ q ∈ l, QuOk q := by
  induction ys with
  | nil => exact ⟨[], rfl, rfl, by simp⟩
  | cons y ys ih =>
    obtain ⟨l, hB, hl, hm⟩ := ih fun z hz => h z (List.mem_cons_of_mem _ hz)
    obtain ⟨h1, h2, h3⟩ := h y (by simp)
    obtain ⟨k, rfl, hk⟩ := qu_of hn h1 h2 h3
    refine ⟨k :: l, ?_, by simp [hl], by simp; exact ⟨hk, hm⟩⟩
    rw [List.map_cons, hB]; rfl
theorem rcs_of {ys : List (List PV)} {n : Nat} (hn : n < 1100000) (h : ∀ y ∈ ys, y.map tagP = ([.s, .i .i64, .i .i64, .i .i64, .i .i64, .i .u8, .i .u8, .i .u8, .i .u8, .i .u8, .i .u8, .i .u8, .i .u8, .i .u8, .i .u8, .i .u8, .i .u8, .i .u8, .i .u8, .i .u8, .i .u8, .s, .s] : List Tag).map some ∧ (∀ q ∈ y, wfP q) ∧ ∀ s, PV.str s ∈ y → s.size ≤ n) :
    ∃ l : List Rc, ys.map (wrapE true) = rcsV l ∧ l.length = ys.length ∧ ∀ r ∈ l, RcOk r := by
  induction ys with
  | nil => exact ⟨[], rfl, rfl, by simp⟩
  | cons y ys ih =>
    obtain ⟨l, hB, hl, hm⟩ := ih fun z hz => h z (List.mem_cons_of_mem _ hz)
    obtain ⟨h1, h2, h3⟩ := h y (by simp)
    obtain ⟨k, rfl, hk⟩ := rc_of hn h1 h2 h3
    refine ⟨k :: l, ?_, by simp [hl], by simp; exact ⟨hk, hm⟩⟩
    rw [List.map_cons, hB]; rfl
/-- A message's fields. -/
def msF : List FS := [.plain (.i .i64), .plain (.i .i64), .sl 48 [.s, .i .i64, .i .i64] true,
  .sl 32 [.s, .i .i64, .i .i64, .i .i64, .i .i64, .i .u8, .i .u8, .i .u8, .i .u8, .i .u8, .i .u8, .i .u8, .i .u8, .i .u8, .i .u8, .i .u8, .i .u8, .i .u8, .i .u8, .i .u8, .i .u8, .s, .s] true,
  .sl 32 [.s, .i .i64, .i .i64, .i .i64, .i .i64, .i .u8, .i .u8, .i .u8, .i .u8, .i .u8, .i .u8, .i .u8, .i .u8, .i .u8, .i .u8, .i .u8, .i .u8, .i .u8, .i .u8, .i .u8, .i .u8, .s, .s] true,
  .sl 32 [.s, .i .i64, .i .i64, .i .i64, .i .i64, .i .u8, .i .u8, .i .u8, .i .u8, .i .u8, .i .u8, .i .u8, .i .u8, .i .u8, .i .u8, .i .u8, .i .u8, .i .u8, .i .u8, .i .u8, .i .u8, .s, .s] true]
theorem ms_of {y : List PV} {n : Nat} (hn : n < 1100000) (hl : y.length = msF.length) (h : ∀ (i : Nat) (p : PV) (s : FS), y[i]? = some p → msF[i]? = some s → FSaysB n s p) : ∃ m : Ms, y = msC m ∧ MsOk m := by
  match y, hl with
  | [a, b, c, d, e, f], _ =>
    obtain ⟨ta, wa, _⟩ := h 0 a _ rfl rfl
    obtain ⟨tb, wb, _⟩ := h 1 b _ rfl rfl
    obtain ⟨zc, rfl, hc, lc⟩ := h 2 c _ rfl rfl
    obtain ⟨zd, rfl, hd, ld⟩ := h 3 d _ rfl rfl
    obtain ⟨ze, rfl, he, le⟩ := h 4 e _ rfl rfl
    obtain ⟨zf, rfl, hf, lf⟩ := h 5 f _ rfl rfl
    obtain ⟨n1, rfl, b1⟩ := cell_i64 ta wa
    obtain ⟨n2, rfl, b2⟩ := cell_i64 tb wb
    obtain ⟨qs, e1, l1, o1⟩ := qus_of hn hc
    obtain ⟨an, e2, l2, o2⟩ := rcs_of hn hd
    obtain ⟨au, e3, l3, o3⟩ := rcs_of hn he
    obtain ⟨mo, e4, l4, o4⟩ := rcs_of hn hf
    exact ⟨⟨n1, n2, qs, an, au, mo⟩, by rw [e1, e2, e3, e4]; rfl, b1, b2, o1, o2, o3, o4, by show qs.length < _; omega, by show an.length < _; omega, by show au.length < _; omega, by show mo.length < _; omega⟩
end Go.Proofs.GoC
