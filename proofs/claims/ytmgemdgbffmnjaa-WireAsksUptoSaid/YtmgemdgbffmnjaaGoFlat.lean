/-
  Records and questions, flat: what their cells are. No claim by itself.
-/
import Derived.Test.YtmgemdgbffmnjaaGoWireE
import Derived.Test.YtmgemdgbffmnjaaSlFz
import Derived.Test.YtmgemdgbffmnjaaSlFz2
import Derived.Test.YtmgemdgbffmnjaaGoMapL
namespace Go.Proofs.GoC
open Go Go.Proofs.SL
set_option linter.unusedSimpArgs false
set_option linter.unusedVariables false
set_option maxRecDepth 10000
set_option maxHeartbeats 4000000

theorem rcC_set4 {X : Rc} (n : Int) : (rcC X).set 4 (.int .i64 n) = rcC { X with fam := n } := rfl
theorem rcC_set21 {X : Rc} (hab : X.ab.length = 16) (t : List UInt8) : (rcC X).set 21 (.str (bs t)) = rcC { X with tgt := t } := by
  unfold rcC
  simp only [List.set_cons_succ]
  rw [List.set_append_right _ _ (by rw [u8s_len, hab]; decide), u8s_len, hab]
  rfl
theorem rcC_set22 {X : Rc} (hab : X.ab.length = 16) (t : List UInt8) : (rcC X).set 22 (.str (bs t)) = rcC { X with dat := t } := by
  unfold rcC
  simp only [List.set_cons_succ]
  rw [List.set_append_right _ _ (by rw [u8s_len, hab]; decide), u8s_len, hab]
  rfl
theorem rcz (nm : List UInt8) : [PV.str (bs nm), .int .i64 0, .int .i64 0, .int .i64 0, .int .i64 0, .int .u8 0, .int .u8 0, .int .u8 0, .int .u8 0, .int .u8 0, .int .u8 0, .int .u8 0, .int .u8 0, .int .u8 0, .int .u8 0, .int .u8 0, .int .u8 0, .int .u8 0, .int .u8 0, .int .u8 0, .int .u8 0, .str (bs []), .str (bs [])] = rcC ⟨nm, 0, 0, 0, 0, z16, [], []⟩ := rfl
theorem rcC_set1 {X : Rc} (n : Int) : (rcC X).set 1 (.int .i64 n) = rcC { X with ty := n } := rfl
theorem rcC_set2 {X : Rc} (n : Int) : (rcC X).set 2 (.int .i64 n) = rcC { X with cl := n } := rfl
theorem rcC_set3 {X : Rc} (n : Int) : (rcC X).set 3 (.int .i64 n) = rcC { X with ttl := n } := rfl
theorem flat_snocQ {qs : List Qu} {q : Qu} : flat (qusV (qs ++ [q])) = flat (qusV qs) ++ quC q := by simp [flat, qusV, quV, PV.cells]
theorem flat_qus : ∀ l : List Qu, (flat (qusV l)).length = l.length * 3
  | [] => rfl
  | q :: l => by
    have := flat_qus l
    show (quC q ++ flat (qusV l)).length = _
    rw [List.length_append, this, List.length_cons]
    show 3 + _ = _
    omega
theorem flat_rcs : ∀ l : List Rc, (∀ r ∈ l, r.ab.length = 16) → (flat (rcsV l)).length = l.length * 23
  | [], _ => rfl
  | q :: l, h => by
    have := flat_rcs l fun r hr => h r (List.mem_cons_of_mem _ hr)
    show (rcC q ++ flat (rcsV l)).length = _
    rw [List.length_append, this, List.length_cons, rcC_len (h q (by simp))]
    omega
theorem flat_snocR {qs : List Rc} {q : Rc} : flat (rcsV (qs ++ [q])) = flat (rcsV qs) ++ rcC q := by simp [flat, rcsV, rcV, PV.cells]
theorem sub_all (l : List PV) (n : Nat) (h : l.length = n) : l = subCells l 0 n := by
  subst h; simp [subCells]
theorem bys_one8 (l : List UInt8) : ((bys l).all fun x => decide ((match x with | .agg cs => cs | v => [v]).length = 1) && (match x with | .agg cs => cs | v => [v]).all PV.one) = true := by
  rw [List.all_eq_true]
  intro x hx
  obtain ⟨b, _, rfl⟩ := List.mem_map.mp hx
  rfl
theorem rcC_copy {X : Rc} {l : List UInt8} {N : Nat} (hab : X.ab.length = 16) (hN : N ≤ 16) (hl : l.length = N) :
    List.take 5 (rcC X) ++ flat (List.take N (bys l)) ++ List.drop (5 + N) (rcC X) = rcC { X with ab := l.map (·.toNat) ++ X.ab.drop N } := by
  have h1 : List.take N (bys l) = bys l := List.take_of_length_le (by rw [bys_len]; omega)
  have h2 : bys l = u8s (l.map (·.toNat)) := by simp [bys, u8s]
  rw [h1, flat_bys, h2, show 5 + N = N + 5 by omega]
  unfold rcC
  simp only [List.drop_succ_cons, List.take_succ_cons, List.take_zero]
  rw [List.drop_append_of_le_length (by rw [u8s_len, hab]; exact hN)]
  simp [u8s, List.map_drop]
theorem bdd_ms {m : Ms} {n : Nat} : Bdd n (msV m) := by
  have hq : ∀ q : Qu, Bdd n (quV q) := fun q => by simp [quV, quC]
  have hr : ∀ r : Rc, Bdd n (rcV r) := fun r => by
    simp [rcV, rcC, u8s]
    rintro a (⟨n, _, rfl⟩ | rfl | rfl) <;> simp
  simp only [msV, msC, qusV, rcsV, bdd_agg, bdd_sl, List.mem_cons, List.not_mem_nil, or_false, forall_eq_or_imp, forall_eq, bdd_int, true_and, and_true, List.mem_map, forall_exists_index, and_imp, forall_apply_eq_imp_iff₂]
  exact ⟨fun q _ => hq q, fun r _ => hr r, fun r _ => hr r, fun r _ => hr r⟩
end Go.Proofs.GoC
