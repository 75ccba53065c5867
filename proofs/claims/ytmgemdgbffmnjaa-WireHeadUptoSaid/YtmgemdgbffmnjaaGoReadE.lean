/-
  What the functions compute: a message, read. No claim by itself.
-/
import Derived.Test.YtmgemdgbffmnjaaGoReadD
namespace Go.Proofs.GoC
open Go Go.Proofs.SL
set_option linter.unusedSimpArgs false
set_option linter.unusedVariables false
set_option maxRecDepth 10000
set_option maxHeartbeats 8000000

def ord23 : Nat → List Nat
  | 24 => [0, 1, 2, 4, 10, 6, 3, 5, 6, 7, 8, 9, 5, 10, 5, 3, 6, 7, 8, 9, 6, 3, 7, 8, 9]
  | 29 => [0, 1, 2, 3, 7, 3, 4, 5, 6, 5, 4, 6]
  | _ => []
theorem ord23_24 : ord23 24 = [0, 1, 2, 4, 10, 6, 3, 5, 6, 7, 8, 9, 5, 10, 5, 3, 6, 7, 8, 9, 6, 3, 7, 8, 9] := rfl
theorem ord23_29 : ord23 29 = [0, 1, 2, 3, 7, 3, 4, 5, 6, 5, 4, 6] := rfl
def resO : Option OB := some (.cells 0 [.int .i64 0, .int .i64 0, .nils, .nils, .nils, .nils])
def heapR (H : Heap) (B : List UInt8) (s : RSt) (l : List (Option OB)) : Heap := H ++ (resO :: rdO B s :: l)
theorem num_heap {H : Heap} {B : List UInt8} {s : RSt} {l : List (Option OB)} (n : Nat) (hn : n ≤ 4) (hat : s.1 ≤ B.length) (hB : B.length < 1100000) :
    SCall Try.prog 56 [.ptr (H.length + 1) 0 0, .int .i64 (n : Nat)] (heapR H B s l) fun r H' => r = .int .i64 (numS B n s).1 ∧ H' = heapR H B (numS B n s).2 l :=
  (c_wire_reader_number n hn (by unfold heapR; rw [get_tail]; rfl) hat hB).mono fun r H' ⟨e1, e2⟩ => ⟨e1, by rw [e2]; unfold heapR; rw [set_tail]; rfl⟩

theorem grow4 {H0 H : Heap} {σ : Env} (x0 x1 x3 : Option OB) (p q : PV) : Ghost H0 σ (H ++ [x0, x1, some (.cells 0 [p, q, .nils, .nils, .nils, .nils]), x3]) σ
    (H ++ [x0, x1, some (.cells 0 [p, q, .buf (H.length + 4) 0 0 0 3 true, .buf (H.length + (5 + 0)) 0 0 0 23 true, .buf (H.length + (5 + 1)) 0 0 0 23 true, .buf (H.length + (5 + 2)) 0 0 0 23 true]), x3, some (.cells 0 []), some (.cells 0 []), some (.cells 0 []), some (.cells 0 [])]) := by
  have h1 := Ghost.growCell (H0 := H0) (σ := σ) (H := H ++ [x0, x1, some (.cells 0 [p, q, .nils, .nils, .nils, .nils]), x3]) (i := H.length + 2) (ver := 0) 2 3 (by rw [get_tail]; rfl) rfl
  simp only [set_tail, List.set_cons_succ, List.set_cons_zero, List.append_assoc, List.cons_append, List.nil_append, List.length_append, List.length_cons, List.length_nil] at h1
  have h2 := Ghost.growCell (H0 := H0) (σ := σ) (H := H ++ [x0, x1, some (.cells 0 [p, q, .buf (H.length + 4) 0 0 0 3 true, .nils, .nils, .nils]), x3, some (.cells 0 [])]) (i := H.length + 2) (ver := 0) 3 23 (by rw [get_tail]; rfl) rfl
  simp only [set_tail, List.set_cons_succ, List.set_cons_zero, List.append_assoc, List.cons_append, List.nil_append, List.length_append, List.length_cons, List.length_nil] at h2
  have h3 := Ghost.growCell (H0 := H0) (σ := σ) (H := H ++ [x0, x1, some (.cells 0 [p, q, .buf (H.length + 4) 0 0 0 3 true, .buf (H.length + 5) 0 0 0 23 true, .nils, .nils]), x3, some (.cells 0 []), some (.cells 0 [])]) (i := H.length + 2) (ver := 0) 4 23 (by rw [get_tail]; rfl) rfl
  simp only [set_tail, List.set_cons_succ, List.set_cons_zero, List.append_assoc, List.cons_append, List.nil_append, List.length_append, List.length_cons, List.length_nil] at h3
  have h4 := Ghost.growCell (H0 := H0) (σ := σ) (H := H ++ [x0, x1, some (.cells 0 [p, q, .buf (H.length + 4) 0 0 0 3 true, .buf (H.length + 5) 0 0 0 23 true, .buf (H.length + 6) 0 0 0 23 true, .nils]), x3, some (.cells 0 []), some (.cells 0 []), some (.cells 0 [])]) (i := H.length + 2) (ver := 0) 5 23 (by rw [get_tail]; rfl) rfl
  simp only [set_tail, List.set_cons_succ, List.set_cons_zero, List.append_assoc, List.cons_append, List.nil_append, List.length_append, List.length_cons, List.length_nil] at h4
  exact ((h1.trans h2).trans h3).trans h4

theorem flat_snocQ {qs : List Qu} {q : Qu} : flat (qusV (qs ++ [q])) = flat (qusV qs) ++ quC q := by simp [flat, qusV, quV, PV.cells]
theorem mcX_q {H K K' : Heap} {id fl i i' vq : Nat} {s s' : RSt} {qs : List Qu} {q : Qu} {ls : List (List Rc)} {vs : Nat → Nat} :
    mcX H id fl ⟨K', s', qs ++ [q], vq + 1, ls, vs, i'⟩ = (mcX H id fl ⟨K, s, qs, vq, ls, vs, i⟩).set 2 (.buf (H.length + 4) (vq + 1) 0 (qs.length + 1) 3 true) := by
  simp [mcX, bufQ, bufR]
theorem flat_qus : ∀ l : List Qu, (flat (qusV l)).length = l.length * 3
  | [] => rfl
  | q :: l => by
    have := flat_qus l
    show (quC q ++ flat (qusV l)).length = _
    rw [List.length_append, this, List.length_cons]
    show 3 + _ = _
    omega
theorem flat_rcs : ∀ l : List Rc, (∀ r ∈ l, r.ab.length = 16) → (flat (rcsV l)).length = l.length * 23
  | [], _ => rfl
  | q :: l, h => by
    have := flat_rcs l fun r hr => h r (List.mem_cons_of_mem _ hr)
    show (rcC q ++ flat (rcsV l)).length = _
    rw [List.length_append, this, List.length_cons, rcC_len (h q (by simp))]
    omega
theorem flat_snocR {qs : List Rc} {q : Rc} : flat (rcsV (qs ++ [q])) = flat (rcsV qs) ++ rcC q := by simp [flat, rcsV, rcV, PV.cells]
theorem getD_snoc {α : Type} {l : List (List α)} {x : List α} {j : Nat} (h : l.length = j) : (l ++ [x]).getD j [] = x := by
  rw [List.getD_eq_getElem?_getD, List.getElem?_append_right (by omega), h, Nat.sub_self]; rfl
theorem mcX_at {H K : Heap} {id fl i vq j : Nat} {s : RSt} {qs : List Qu} {ls : List (List Rc)} {cur : List Rc} {vs : Nat → Nat} (h : ls.length = j) (hj : j < 3) :
    (mcX H id fl ⟨K, s, qs, vq, ls ++ [cur], vs, i⟩).getD (3 + j) .any = .buf (H.length + (5 + j)) (vs j) 0 cur.length 23 true := by
  have e := getD_snoc (x := cur) h
  match j, hj with
  | 0, _ => show bufR H _ 0 = _; simp only [bufR, e]
  | 1, _ => show bufR H _ 1 = _; simp only [bufR, e]
  | 2, _ => show bufR H _ 2 = _; simp only [bufR, e]
theorem getD_other {α : Type} {l : List (List α)} {x y : List α} {j k : Nat} (h : l.length = j) (hk : k ≠ j) : (l ++ [x]).getD k [] = (l ++ [y]).getD k [] := by
  rw [List.getD_eq_getElem?_getD, List.getD_eq_getElem?_getD]
  rcases Nat.lt_or_ge k l.length with h1 | h1
  · rw [List.getElem?_append_left h1, List.getElem?_append_left h1]
  · rw [List.getElem?_eq_none (by simp; omega), List.getElem?_eq_none (by simp; omega)]
theorem mcX_r {H K K' : Heap} {id fl i i' vq j : Nat} {s s' : RSt} {qs : List Qu} {ls : List (List Rc)} {cur : List Rc} {r : Rc} {vs : Nat → Nat} (h : ls.length = j) (hj : j < 3) :
    mcX H id fl ⟨K', s', qs, vq, ls ++ [cur ++ [r]], fun k => if k = j then vs j + 1 else vs k, i'⟩ = (mcX H id fl ⟨K, s, qs, vq, ls ++ [cur], vs, i⟩).set (3 + j) (.buf (H.length + (5 + j)) (vs j + 1) 0 (cur.length + 1) 23 true) := by
  have e := getD_snoc (x := cur ++ [r]) h
  have eo : ∀ k, k ≠ j → (ls ++ [cur ++ [r]]).getD k [] = (ls ++ [cur]).getD k [] := fun k hk => getD_other h hk
  match j, hj with
  | 0, _ => simp only [mcX, bufQ, bufR, e, eo 1 (by omega), eo 2 (by omega), List.length_append, List.length_cons, List.length_nil]; rfl
  | 1, _ => simp only [mcX, bufQ, bufR, e, eo 0 (by omega), eo 2 (by omega), List.length_append, List.length_cons, List.length_nil]; rfl
  | 2, _ => simp only [mcX, bufQ, bufR, e, eo 0 (by omega), eo 1 (by omega), List.length_append, List.length_cons, List.length_nil]; rfl
section
variable {H : Heap} {B : List UInt8} {id fl : Nat} {mn : List PV} {a : RdS}
theorem RI.at_k (h : RI H B id fl mn a) (k : Nat) : RI H B id fl mn { a with k := k } := ⟨h.len, h.pre, h.res, h.rd, h.ms, h.mn, h.oq, h.or, h.at0⟩
theorem RI.snoc0 (h : RI H B id fl mn a) : RI H B id fl mn { a with ls := a.ls ++ [[]] } := by
  have e : ∀ k, (a.ls ++ [[]]).getD k [] = a.ls.getD k [] := fun k => by
    rw [List.getD_eq_getElem?_getD, List.getD_eq_getElem?_getD]
    rcases Nat.lt_or_ge k a.ls.length with h1 | h1
    · rw [List.getElem?_append_left h1]
    · rw [List.getElem?_eq_none h1]
      rcases Nat.lt_or_ge k (a.ls ++ [[]]).length with h2 | h2
      · rw [List.getElem?_append_right h1, show k - a.ls.length = 0 by simp at h2; omega]; rfl
      · rw [List.getElem?_eq_none h2]
  refine ⟨h.len, h.pre, h.res, h.rd, ?_, h.mn, h.oq, fun k hk => ?_, h.at0⟩
  · have e2 : mcX H id fl { a with ls := a.ls ++ [[]] } = mcX H id fl a := by simp only [mcX, bufQ, bufR, e]
    rw [e2]; exact h.ms
  · show a.K[_]? = some (some (OB.cells (a.vs k) (flat (rcsV ((a.ls ++ [[]]).getD k [])))))
    rw [e]; exact h.or k hk
end
theorem sub_all (l : List PV) (n : Nat) (h : l.length = n) : l = subCells l 0 n := by
  subst h; simp [subCells]
theorem msV_bdd {m : Ms} {n : Nat} : Bdd n (rdmV (.ok m)) := by
  have hq : ∀ q : Qu, Bdd n (quV q) := fun q => by simp [quV, quC]
  have hr : ∀ r : Rc, Bdd n (rcV r) := fun r => by
    simp [rcV, rcC, u8s]
    rintro a (⟨n, _, rfl⟩ | rfl | rfl) <;> simp
  simp only [rdmV, msV, msC, qusV, rcsV, bdd_tup, bdd_agg, bdd_sl, List.mem_cons, List.not_mem_nil, or_false, forall_eq_or_imp, forall_eq, bdd_int, true_and, and_true, List.mem_map, forall_exists_index, and_imp, forall_apply_eq_imp_iff₂]
  exact ⟨fun q _ => hq q, fun r _ => hr r, fun r _ => hr r, fun r _ => hr r⟩
/-- The lists are read-only ones from here on. -/
theorem RI.freeze {H : Heap} {B : List UInt8} {id fl : Nat} {mn : List PV} {a : RdS} (h : RI H B id fl mn a) (hab : ∀ k, k < 3 → ∀ r ∈ a.ls.getD k [], r.ab.length = 16) :
    ∃ L : Heap, (∀ H0 σ, Ghost H0 σ a.K σ (H ++ L)) ∧ L[0]? = some (some (.cells 0 [.int .i64 0, .int .i64 0, .nils, .nils, .nils, .nils])) ∧
      L[2]? = some (some (.cells 0 (msC ⟨(id : Nat), (fl : Nat), a.qs, a.ls.getD 0 [], a.ls.getD 1 [], a.ls.getD 2 []⟩))) ∧ 8 ≤ L.length := by
  have hl := h.len
  have hq3 : ∀ x ∈ qusV a.qs, x.cells.length = 3 := fun x hx => by obtain ⟨q, _, rfl⟩ := List.mem_map.mp hx; rfl
  have hr23 : ∀ k, k < 3 → ∀ x ∈ rcsV (a.ls.getD k []), x.cells.length = 23 := fun k hk x hx => by
    obtain ⟨r, hr, rfl⟩ := List.mem_map.mp hx; exact rcC_len (hab k hk r hr)
  have g1 := fun H0 σ => Ghost.freezeCell (H0 := H0) (σ := σ) (H := a.K) (i := H.length + 2) (j := H.length + 4) 2 (qusV a.qs) h.ms rfl h.oq (by omega) (sub_all _ _ (flat_qus a.qs)) qusV_len hq3
  have t : ∀ k, k < 3 → flat (rcsV (a.ls.getD k [])) = subCells (flat (rcsV (a.ls.getD k []))) 0 ((a.ls.getD k []).length * 23) := fun k hk => sub_all _ _ (flat_rcs _ (hab k hk))
  generalize hK1 : (a.K.set (H.length + 4) none).set (H.length + 2) (some (.cells 0 ((mcX H id fl a).set 2 (.sl 3 (qusV a.qs))))) = K1 at g1
  have m1 : K1[H.length + 2]? = some (some (.cells 0 ((mcX H id fl a).set 2 (.sl 3 (qusV a.qs))))) := by rw [← hK1, get_set_self (by simp; omega)]
  have k1 : ∀ j, j ≠ H.length + 2 → j ≠ H.length + 4 → K1[j]? = a.K[j]? := fun j h1 h2 => by rw [← hK1, get_set_ne (Ne.symm h1), get_set_ne (Ne.symm h2)]
  have l1 : K1.length = a.K.length := by rw [← hK1]; simp
  have g2 := fun H0 σ => Ghost.freezeCell (H0 := H0) (σ := σ) (H := K1) (i := H.length + 2) (j := H.length + (5 + 0)) 3 (rcsV (a.ls.getD 0 [])) m1 rfl ((k1 _ (by omega) (by omega)).trans (h.or 0 (by omega))) (by omega) (t 0 (by omega)) rcsV_len (hr23 0 (by omega))
  generalize hK2 : (K1.set (H.length + (5 + 0)) none).set (H.length + 2) (some (.cells 0 (((mcX H id fl a).set 2 (.sl 3 (qusV a.qs))).set 3 (.sl 23 (rcsV (a.ls.getD 0 [])))))) = K2 at g2
  have m2 : K2[H.length + 2]? = some (some (.cells 0 (((mcX H id fl a).set 2 (.sl 3 (qusV a.qs))).set 3 (.sl 23 (rcsV (a.ls.getD 0 [])))))) := by rw [← hK2, get_set_self (by simp; omega)]
  have k2 : ∀ j, j ≠ H.length + 2 → j ≠ H.length + (5 + 0) → K2[j]? = K1[j]? := fun j h1 h2 => by rw [← hK2, get_set_ne (Ne.symm h1), get_set_ne (Ne.symm h2)]
  have l2 : K2.length = a.K.length := by rw [← hK2]; simp [l1]
  have g3 := fun H0 σ => Ghost.freezeCell (H0 := H0) (σ := σ) (H := K2) (i := H.length + 2) (j := H.length + (5 + 1)) 4 (rcsV (a.ls.getD 1 [])) m2 rfl ((k2 _ (by omega) (by omega)).trans ((k1 _ (by omega) (by omega)).trans (h.or 1 (by omega)))) (by omega) (t 1 (by omega)) rcsV_len (hr23 1 (by omega))
  generalize hK3 : (K2.set (H.length + (5 + 1)) none).set (H.length + 2) (some (.cells 0 ((((mcX H id fl a).set 2 (.sl 3 (qusV a.qs))).set 3 (.sl 23 (rcsV (a.ls.getD 0 [])))).set 4 (.sl 23 (rcsV (a.ls.getD 1 [])))))) = K3 at g3
  have m3 : K3[H.length + 2]? = some (some (.cells 0 ((((mcX H id fl a).set 2 (.sl 3 (qusV a.qs))).set 3 (.sl 23 (rcsV (a.ls.getD 0 [])))).set 4 (.sl 23 (rcsV (a.ls.getD 1 [])))))) := by rw [← hK3, get_set_self (by simp; omega)]
  have k3 : ∀ j, j ≠ H.length + 2 → j ≠ H.length + (5 + 1) → K3[j]? = K2[j]? := fun j h1 h2 => by rw [← hK3, get_set_ne (Ne.symm h1), get_set_ne (Ne.symm h2)]
  have l3 : K3.length = a.K.length := by rw [← hK3]; simp [l2]
  have g4 := fun H0 σ => Ghost.freezeCell (H0 := H0) (σ := σ) (H := K3) (i := H.length + 2) (j := H.length + (5 + 2)) 5 (rcsV (a.ls.getD 2 [])) m3 rfl ((k3 _ (by omega) (by omega)).trans ((k2 _ (by omega) (by omega)).trans ((k1 _ (by omega) (by omega)).trans (h.or 2 (by omega))))) (by omega) (t 2 (by omega)) rcsV_len (hr23 2 (by omega))
  generalize hK4 : (K3.set (H.length + (5 + 2)) none).set (H.length + 2) _ = K4 at g4
  have k4 : ∀ j, j ≠ H.length + 2 → j ≠ H.length + (5 + 2) → K4[j]? = K3[j]? := fun j h1 h2 => by rw [← hK4, get_set_ne (Ne.symm h1), get_set_ne (Ne.symm h2)]
  have l4 : K4.length = a.K.length := by rw [← hK4]; simp [l3]
  have m4 : K4[H.length + 2]? = some (some (.cells 0 (msC ⟨(id : Nat), (fl : Nat), a.qs, a.ls.getD 0 [], a.ls.getD 1 [], a.ls.getD 2 []⟩))) := by rw [← hK4, get_set_self (by simp; omega)]; rfl
  have k0 : ∀ j, j < H.length + 1 → K4[j]? = a.K[j]? := fun j hj => (k4 j (by omega) (by omega)).trans ((k3 j (by omega) (by omega)).trans ((k2 j (by omega) (by omega)).trans (k1 j (by omega) (by omega))))
  obtain ⟨L, hL⟩ : ∃ L, K4 = H ++ L := split_of ⟨by omega, fun j hj _ => (k0 j (by omega)).trans (h.pre j hj)⟩
  refine ⟨L, fun H0 σ => hL ▸ (((g1 H0 σ).trans (g2 H0 σ)).trans (g3 H0 σ)).trans (g4 H0 σ), ?_, ?_, ?_⟩
  · have := k0 H.length (by omega)
    rw [h.res, hL, get_tail0] at this; exact this
  · rw [hL, get_tail] at m4; exact m4
  · rw [hL, List.length_append] at l4; omega

theorem c_wire_Read (B : List UInt8) (hB : B.length < 1100000) : PCall Try.prog 23 [.sl 1 (bys B)] (rdmV (readM B)) := by
  intro H
  refine scall_ofc (ord := ord23) (tdOf_ok _) (rs := [.cell 2 25, .tmp 3]) Try.func23 rfl (by kernel_rfl) (by kernel_rfl) (by kernel_rfl) Try.ntmps23 fun hb hargs => go 200 (fun t => false) mixed ?_
  unfold readM
  by_cases hlong : 1232 < B.length
  · rw [if_pos hlong]
    simp (disch := omega) only [↓reduceIte, go_sem, hlong] <;> repeat with_reducible refine And.intro (by first | omega | decide) ?_
    exact fin_c (.inr rfl) hb (by (simp (disch := omega) only [↓reduceIte, go_sem] <;> repeat with_reducible refine And.intro (by first | omega | decide) ?_); rfl) (by simp [rdmV, zeroM])
  rw [if_neg hlong]
  have w0 : ((0, 0) : RSt).1 ≤ B.length := Nat.zero_le _
  have wa := numS_at (n := 2) w0
  have va := numS_lt (n := 2) w0
  have na := fun (l : List (Option OB)) => num_heap (H := H) (s := (0, 0)) (l := l) 2 (by omega) w0 hB
  have hhd : headB B = ⟨(numS B 2 (0, 0)).1, (numS B 2 (numS B 2 (0, 0)).2).1, (numS B 2 (numS B 2 (numS B 2 (0, 0)).2).2).1, (numS B 2 (numS B 2 (numS B 2 (numS B 2 (0, 0)).2).2).2).1, (numS B 2 (numS B 2 (numS B 2 (numS B 2 (numS B 2 (0, 0)).2).2).2).2).1,
    (numS B 2 (numS B 2 (numS B 2 (numS B 2 (numS B 2 (numS B 2 (0, 0)).2).2).2).2).2).1, (numS B 2 (numS B 2 (numS B 2 (numS B 2 (numS B 2 (numS B 2 (0, 0)).2).2).2).2).2).2⟩ := rfl
  generalize numS B 2 (0, 0) = a at *
  have wb := numS_at (n := 2) wa
  have vb := numS_lt (n := 2) wa
  have nb := fun (l : List (Option OB)) => num_heap (H := H) (s := a.2) (l := l) 2 (by omega) wa hB
  generalize numS B 2 a.2 = b at *
  have wc := numS_at (n := 2) wb
  have vc := numS_lt (n := 2) wb
  have nc := fun (l : List (Option OB)) => num_heap (H := H) (s := b.2) (l := l) 2 (by omega) wb hB
  generalize numS B 2 b.2 = c at *
  have wd := numS_at (n := 2) wc
  have vd := numS_lt (n := 2) wc
  have nd := fun (l : List (Option OB)) => num_heap (H := H) (s := c.2) (l := l) 2 (by omega) wc hB
  generalize numS B 2 c.2 = d at *
  have we := numS_at (n := 2) wd
  have ve := numS_lt (n := 2) wd
  have ne := fun (l : List (Option OB)) => num_heap (H := H) (s := d.2) (l := l) 2 (by omega) wd hB
  generalize numS B 2 d.2 = e at *
  have wf := numS_at (n := 2) we
  have vf := numS_lt (n := 2) we
  have nf := fun (l : List (Option OB)) => num_heap (H := H) (s := e.2) (l := l) 2 (by omega) we hB
  generalize numS B 2 e.2 = f at *
  generalize hHD : headB B = hd at *
  simp (disch := omega) only [↓reduceIte, go_sem, hlong] <;> repeat with_reducible refine And.intro (by first | omega | decide) ?_
  refine (na []).mono fun r H' ⟨e1, e2⟩ => ?_
  rw [e1, e2]
  refine go 200 (fun _ => false) mixed ?_
  simp (disch := omega) only [↓reduceIte, go_sem] <;> repeat with_reducible refine And.intro (by first | omega | decide) ?_
  refine (nb []).mono fun r H' ⟨e1, e2⟩ => ?_
  rw [e1, e2]
  refine go 200 (fun _ => false) mixed ?_
  simp (disch := omega) only [↓reduceIte, go_sem, heapR] <;> repeat with_reducible refine And.intro (by first | omega | decide) ?_
  refine (nc _).mono fun r H' ⟨e1, e2⟩ => ?_
  rw [e1, e2]
  refine go 8 (fun _ => false) mixed ?_
  simp (disch := omega) only [↓reduceIte, go_sem, heapR] <;> repeat with_reducible refine And.intro (by first | omega | decide) ?_
  refine Runs.ghost (by rfl) (grow4 resO (rdO B c.2) _ _ _) ?_
  refine Runs.ghost (by rfl) (Ghost.keep [true, false, true, true, true, true, true, true]) ?_
  refine go 200 (fun _ => false) mixed ?_
  simp (disch := omega) only [↓reduceIte, go_sem] <;> repeat with_reducible refine And.intro (by first | omega | decide) ?_
  refine runs_rounds 4 (by rfl) (ru_go [true, false, true, true, true, true, true, true, false, false, false, false, false, false, false, false, false, false, false, false, false, false, false, false, false, false, false, false, true] (go 200 (fun _ => false) mixed ?_))
  simp (disch := omega) only [↓reduceIte, go_sem] <;> repeat with_reducible refine And.intro (by first | omega | decide) ?_
  refine (nd _).mono fun r H' ⟨e1, e2⟩ => ?_
  rw [e1, e2]
  refine go 200 (fun _ => false) mixed ?_
  simp (disch := omega) only [↓reduceIte, go_sem, heapR] <;> repeat with_reducible refine And.intro (by first | omega | decide) ?_
  refine ru_go [true, false, true, true, true, true, true, true, false, false, false, false, false, false, false, false, false, false, false, false, false, false, false, false, false, false, false, false, true] (go 200 (fun _ => false) mixed ?_)
  simp (disch := omega) only [↓reduceIte, go_sem] <;> repeat with_reducible refine And.intro (by first | omega | decide) ?_
  refine (ne _).mono fun r H' ⟨e1, e2⟩ => ?_
  rw [e1, e2]
  refine go 200 (fun _ => false) mixed ?_
  simp (disch := omega) only [↓reduceIte, go_sem, heapR] <;> repeat with_reducible refine And.intro (by first | omega | decide) ?_
  refine ru_go [true, false, true, true, true, true, true, true, false, false, false, false, false, false, false, false, false, false, false, false, false, false, false, false, false, false, false, false, true] (go 200 (fun _ => false) mixed ?_)
  simp (disch := omega) only [↓reduceIte, go_sem] <;> repeat with_reducible refine And.intro (by first | omega | decide) ?_
  refine (nf _).mono fun r H' ⟨e1, e2⟩ => ?_
  rw [e1, e2]
  refine go 200 (fun _ => false) mixed ?_
  simp (disch := omega) only [↓reduceIte, go_sem, heapR] <;> repeat with_reducible refine And.intro (by first | omega | decide) ?_
  refine ru_go [true, false, true, true, true, true, true, true, false, false, false, false, false, false, false, false, false, false, false, false, false, false, false, false, false, false, false, false, true] (go 200 (fun _ => false) mixed ?_)
  simp (disch := omega) only [↓reduceIte, go_sem] <;> repeat with_reducible refine And.intro (by first | omega | decide) ?_
  subst hhd
  clear na nb nc nd ne nf
  have hI0 : RI H B a.1 b.1 [.int .i64 (d.1 : Nat), .int .i64 (e.1 : Nat), .int .i64 (f.1 : Nat)] ⟨H ++ [resO, rdO B f.2, some (.cells 0 [.int .i64 (a.1 : Nat), .int .i64 (b.1 : Nat), .buf (H.length + 4) 0 0 0 3 true, .buf (H.length + 5) 0 0 0 23 true, .buf (H.length + 6) 0 0 0 23 true, .buf (H.length + 7) 0 0 0 23 true]),
      some (.cells 0 [.int .i64 (d.1 : Nat), .int .i64 (e.1 : Nat), .int .i64 (f.1 : Nat)]), some (.cells 0 []), some (.cells 0 []), some (.cells 0 []), some (.cells 0 [])], f.2, [], 0, [], fun _ => 0, 0⟩ :=
    ⟨by show _ ≤ (H ++ _).length; simp, fun j hj => get_app_lt hj, by rw [get_tail0]; rfl, by rw [get_tail]; rfl, by rw [get_tail]; rfl, by rw [get_tail]; rfl, by rw [get_tail]; rfl, fun k hk => by
      match k, hk with
      | 0, _ => rw [get_tail]; rfl
      | 1, _ => rw [get_tail]; rfl
      | 2, _ => rw [get_tail]; rfl, wf⟩
  generalize H ++ _ = K0 at *
  refine go 1 (fun _ => false) mixed ?_
  simp (disch := omega) only [↓reduceIte, go_sem] <;> repeat with_reducible refine And.intro (by first | omega | decide) ?_
  refine with_k fun k Φ hk hΦ => ?_
  have hkc : k.all calmB = true := by rw [hk]; rfl
  have tl2 : ∀ x : RdS, RI H B a.1 b.1 [.int .i64 (d.1 : Nat), .int .i64 (e.1 : Nat), .int .i64 (f.1 : Nat)] x → x.ls = [] → quesR B c.1 f.2 [] = (x.qs, x.s) → x.qs.length ≤ 65535 →
      Runs Try.prog (tdOf Try.prog) ord23 H k (slots 114 [.sl 1 (bys B), .any, .ptr H.length 0 0, .int .i64 0, .ptr (H.length + 1) 0 0, .ptr (H.length + 2) 0 0, .int .i64 (c.1 : Nat), .ptr (H.length + 3) 0 0]) x.K Φ := by
    rw [hk, hΦ]
    rintro ⟨K, s, qs, vq, ls, vs, _⟩ hI hls hall hql
    change ls = [] at hls
    change quesR B c.1 f.2 [] = (qs, s) at hall
    change qs.length ≤ 65535 at hql
    rw [hall]
    clear hall hk hΦ hkc wa wb wc wd we wf va vb vc hI0
    have hL := c_wire_lists (H := K) (i := H.length + 2)
    refine go 1 (fun _ => false) mixed ?_
    simp (disch := omega) only [↓reduceIte, go_sem] <;> repeat with_reducible refine And.intro (by first | omega | decide) ?_
    refine with_k fun k Φ hk hΦ => ?_
    have hkc : k.all calmB = true := by rw [hk]; rfl
    have tl4 : ∀ x : RdS, RI H B a.1 b.1 [.int .i64 (d.1 : Nat), .int .i64 (e.1 : Nat), .int .i64 (f.1 : Nat)] x → x.qs = qs → allR B [d.1, e.1, f.1] s [] = (x.ls, x.s) → (∀ l ∈ x.ls, ∀ r ∈ l, r.ab.length = 16) →
        Runs Try.prog (tdOf Try.prog) ord23 H k (slots 114 [.sl 1 (bys B), .any, .ptr H.length 0 0, .int .i64 0, .ptr (H.length + 1) 0 0, .ptr (H.length + 2) 0 0, .int .i64 (c.1 : Nat), .ptr (H.length + 3) 0 0]) x.K Φ := by
      rw [hk, hΦ]
      rintro ⟨K4, s4, qs4, vq4, ls4, vs4, _⟩ hI hqs hall hab
      change qs4 = qs at hqs
      change allR B [d.1, e.1, f.1] s [] = (ls4, s4) at hall
      change ∀ l ∈ ls4, ∀ r ∈ l, r.ab.length = 16 at hab
      rw [hall]
      clear hall hk hΦ hkc
      refine go 1 (fun _ => false) mixed ?_
      simp (disch := omega) only [↓reduceIte, go_sem] <;> repeat with_reducible refine And.intro (by first | omega | decide) ?_
      refine with_k fun k Φ hk hΦ => ?_
      have hkc : k.all calmB = true := by rw [hk]; rfl
      have tl5 : ∀ x : RdS, RI H B a.1 b.1 [.int .i64 (d.1 : Nat), .int .i64 (e.1 : Nat), .int .i64 (f.1 : Nat)] x → x.qs = qs → x.ls = ls4 → x.s = endS B s4 → Runs Try.prog (tdOf Try.prog) ord23 H k (slots 114 [.sl 1 (bys B), .any, .ptr H.length 0 0, .int .i64 0, .ptr (H.length + 1) 0 0, .ptr (H.length + 2) 0 0, .int .i64 (c.1 : Nat), .ptr (H.length + 3) 0 0]) x.K Φ := by
        rw [hk, hΦ]
        clear hk hΦ hkc
        rintro ⟨K5, s5, qs5, vq5, ls5, vs5, _⟩ hI h1 h2 h3
        change qs5 = qs at h1
        change ls5 = ls4 at h2
        change s5 = endS B s4 at h3
        rw [← h3]
        have oR := obj_of (show K5[H.length + 1]? = _ from hI.rd)
        refine go 12 (fun _ => false) mixed ?_
        by_cases h0 : s5.2 = 0
        · rw [if_pos h0]
          simp (disch := omega) only [↓reduceIte, go_sem, oR, rdC, h0] <;> repeat with_reducible refine And.intro (by first | omega | decide) ?_
          refine go 4 (fun _ => false) mixed ?_
          simp (disch := omega) only [↓reduceIte, go_sem] <;> repeat with_reducible refine And.intro (by first | omega | decide) ?_
          obtain ⟨L6, hg6, h60, h62, h6l⟩ := hI.freeze (fun k hk r hr => by
            have hr : r ∈ ls5.getD k [] := hr
            rw [h2, List.getD_eq_getElem?_getD] at hr
            cases hk2 : ls4[k]? with
            | none => rw [hk2] at hr; cases hr
            | some l => rw [hk2] at hr; exact hab l (List.mem_of_getElem? hk2) r hr)
          refine Runs.ghost (by rfl) (hg6 _ _) ?_
          have o62 : obj L6 2 0 = _ := obj_of h62
          have o60 : obj L6 0 0 = _ := obj_of h60
          change obj L6 2 0 = some (msC ⟨(a.1 : Nat), (b.1 : Nat), qs5, ls5.getD 0 [], ls5.getD 1 [], ls5.getD 2 []⟩) at o62
          rw [h1, h2] at o62
          refine go 200 (fun _ => false) mixed ?_
          simp (disch := omega) only [↓reduceIte, go_sem, o62, o60, msC] <;> repeat with_reducible refine And.intro (by first | omega | decide) ?_
          exact fin_c (.inr rfl) hb (by (simp (disch := omega) only [↓reduceIte, go_sem, o62, o60, msC] <;> repeat with_reducible refine And.intro (by first | omega | decide) ?_); rfl) (msV_bdd)
        · rw [if_neg h0]
          simp (disch := omega) only [↓reduceIte, go_sem, oR, rdC, h0] <;> repeat with_reducible refine And.intro (by first | omega | decide) ?_
          have hl5 : H.length + 8 ≤ K5.length := hI.len
          obtain ⟨L5, hL5⟩ : ∃ L, K5 = H ++ L := split_of ⟨by omega, fun j hj _ => hI.pre j hj⟩
          have hR := oR
          have hRs : obj K5 H.length 0 = _ := obj_of hI.res
          rw [hL5] at hR hRs hl5
          rw [obj_tail] at hR
          rw [obj_tail0] at hRs
          rw [List.length_append] at hl5
          rw [hL5]
          refine go 200 (fun _ => false) mixed ?_
          simp (disch := omega) only [↓reduceIte, go_sem, hR, rdC, ord23_29, h0] <;> repeat with_reducible refine And.intro (by first | omega | decide) ?_
          refine runs_fork (l1 := [4, 5, 6]) (l2 := [5, 4, 6]) rfl rfl (go 200 (fun _ => false) mixed ?_) (go 200 (fun _ => false) mixed ?_)
          all_goals
            simp (disch := omega) only [↓reduceIte, go_sem, hR, hRs, rdC] <;> repeat with_reducible refine And.intro (by first | omega | decide) ?_
            exact fin_c (.inr rfl) hb (by (simp (disch := omega) only [↓reduceIte, go_sem, hR, hRs] <;> repeat with_reducible refine And.intro (by first | omega | decide) ?_); rfl) (by simp [rdmV, zeroM])
      clear hk hΦ
      have oR := obj_of (show K4[H.length + 1]? = _ from hI.rd)
      refine go 17 (fun _ => false) mixed ?_
      by_cases hend : s4.1 = B.length
      · have hendT : (s4.1 = B.length) = True := eq_true hend
        simp (disch := omega) only [↓reduceIte, go_sem, oR, rdC, hendT] <;> repeat with_reducible refine And.intro (by first | omega | decide) ?_
        refine go 2 (fun _ => false) mixed ?_
        simp (disch := omega) only [↓reduceIte, go_sem] <;> repeat with_reducible refine And.intro (by first | omega | decide) ?_
        refine Runs.ghost hkc (Ghost.keep [true, false, true, true, true, true, true, true]) ?_
        exact tl5 ⟨K4, s4, qs4, vq4, ls4, vs4, _⟩ hI hqs rfl (by show s4 = _; unfold endS; rw [if_pos hend])
      · simp (disch := omega) only [↓reduceIte, go_sem, oR, rdC, hend] <;> repeat with_reducible refine And.intro (by first | omega | decide) ?_
        have hF : SCall Try.prog 59 [.ptr (H.length + 1) 0 0, .int .i64 2] K4 fun _ H' => H' = K4.set (H.length + 1) (rdO B (failS 2 s4)) := c_wire_reader_fail 2 (show K4[H.length + 1]? = _ from hI.rd)
        refine go 6 (fun _ => false) mixed ?_
        simp (disch := omega) only [↓reduceIte, go_sem] <;> repeat with_reducible refine And.intro (by first | omega | decide) ?_
        refine hF.mono fun r H' e1 => ?_
        rw [e1]
        refine go 1 (fun _ => false) mixed ?_
        simp (disch := omega) only [↓reduceIte, go_sem] <;> repeat with_reducible refine And.intro (by first | omega | decide) ?_
        refine Runs.ghost hkc (Ghost.keep [true, false, true, true, true, true, true, true]) ?_
        have hI5 := hI.step (s' := failS 2 s4) (by rw [failS_at]; exact hI.at0) [] 0
        have e9 : K4.set (H.length + 1) (rdO B (failS 2 s4)) ++ [] = K4.set (H.length + 1) (rdO B (failS 2 s4)) := List.append_nil _
        refine tl5 ⟨K4.set (H.length + 1) (rdO B (failS 2 s4)), failS 2 s4, qs4, vq4, ls4, vs4, 0⟩ (by rw [← e9]; exact hI5) hqs rfl (by show failS 2 s4 = _; unfold endS; rw [if_neg hend])
    clear hk hΦ
    refine go 200 (fun _ => false) mixed ?_
    simp (disch := omega) only [↓reduceIte, go_sem] <;> repeat with_reducible refine And.intro (by first | omega | decide) ?_
    refine hL.mono fun r H' ⟨e1, e2⟩ => ?_
    rw [e1, e2]
    refine go 200 (fun _ => false) mixed ?_
    simp (disch := omega) only [↓reduceIte, go_sem] <;> repeat with_reducible refine And.intro (by first | omega | decide) ?_
    refine runs_loopA (fun x : RdS => x.k ≤ 3 ∧ RI H B a.1 b.1 [.int .i64 (d.1 : Nat), .int .i64 (e.1 : Nat), .int .i64 (f.1 : Nat)] x ∧ x.qs = qs ∧ x.ls.length = x.k ∧ allR B [d.1, e.1, f.1] s [] = allR B ([d.1, e.1, f.1].drop x.k) x.s x.ls ∧ ∀ l ∈ x.ls, ∀ r ∈ l, r.ab.length = 16) (fun x => 3 - x.k)
      [true, false, true, true, true, true, true, true, false, false, false, false, false, false, false, false, false, false, false, false, false, false, false, false, false, false, false, false, false, false, false, false, false, false, false, false, false, false, false, false, false, false, false, false, false, false, false, false, false, false, false, false, false, false, false, false, false, false, false, false, false, false, false, true, true, true] (fun x => slots 114 [.sl 1 (bys B), .any, .ptr H.length 0 0, .int .i64 0, .ptr (H.length + 1) 0 0, .ptr (H.length + 2) 0 0, .int .i64 (c.1 : Nat), .ptr (H.length + 3) 0 0, .any, .any, .any, .any, .any, .any, .any, .any, .any, .any, .any, .any, .any, .any, .any, .any, .any, .any, .any, .any, .any, .any, .any, .any, .any, .any, .any, .any, .any, .any, .any, .any, .any, .any, .any, .any, .any, .any, .any, .any, .any, .any, .any, .any, .any, .any, .any, .any, .any, .any, .any, .any, .any, .any, .any, .sl 1 [.ptr (H.length + 2) 0 3, .ptr (H.length + 2) 0 4, .ptr (H.length + 2) 0 5], .int .i64 3, .int .i64 (x.k : Nat)]) (fun x => x.K) (by exact hkc) ⟨K, s, qs, vq, ls, vs, 0⟩ ⟨Nat.zero_le _, hI.at_k 0, rfl, by rw [hls]; rfl, by rw [hls]; rfl, by rw [hls]; simp⟩ rfl rfl ?_
    clear hI hql hL
    rintro ⟨K, s1, qs1, vq, ls1, vs, j⟩ ⟨hj, hI, hqs1, hlsl, hall, hab⟩
    change j ≤ 3 at hj
    change qs1 = qs at hqs1
    change ls1.length = j at hlsl
    change allR B [d.1, e.1, f.1] s [] = allR B ([d.1, e.1, f.1].drop j) s1 ls1 at hall
    change ∀ l ∈ ls1, ∀ r ∈ l, r.ab.length = 16 at hab
    refine go 200 (fun _ => false) mixed ?_
    by_cases hlt : j < 3
    · have hgk : [PV.ptr (H.length + 2) 0 3, .ptr (H.length + 2) 0 4, .ptr (H.length + 2) 0 5].getD j .any = .ptr (H.length + 2) 0 (3 + j) := by
        match j, hlt with
        | 0, _ => rfl
        | 1, _ => rfl
        | 2, _ => rfl
      simp (disch := omega) only [↓reduceIte, go_sem, hlt, hgk] <;> repeat with_reducible refine And.intro (by first | omega | decide) ?_
      obtain ⟨cnt, hcnt, hgn, hdr⟩ : ∃ cnt, cnt ≤ 65535 ∧ [PV.int .i64 (d.1 : Nat), .int .i64 (e.1 : Nat), .int .i64 (f.1 : Nat)].getD j .any = .int .i64 (cnt : Nat) ∧ [d.1, e.1, f.1].drop j = cnt :: [d.1, e.1, f.1].drop (j + 1) := by
        match j, hlt with
        | 0, _ => exact ⟨d.1, by omega, rfl, rfl⟩
        | 1, _ => exact ⟨e.1, by omega, rfl, rfl⟩
        | 2, _ => exact ⟨f.1, by omega, rfl, rfl⟩
      have hall : allR B [d.1, e.1, f.1] s [] = allR B ([d.1, e.1, f.1].drop (j + 1)) (recsR B cnt s1 []).2 (ls1 ++ [(recsR B cnt s1 []).1]) := hall.trans (by rw [hdr]; rfl)
      refine runs_loopA (fun x : RdS => x.k ≤ cnt ∧ RI H B a.1 b.1 [.int .i64 (d.1 : Nat), .int .i64 (e.1 : Nat), .int .i64 (f.1 : Nat)] x ∧ x.qs = qs ∧ ∃ cur, x.ls = ls1 ++ [cur] ∧ recsR B cnt s1 [] = recsR B (cnt - x.k) x.s cur ∧ cur.length ≤ x.k ∧ ∀ r ∈ cur, r.ab.length = 16) (fun x => cnt - x.k)
        [true, false, true, true, true, true, true, true, false, false, false, true, true, true, false, false, false, false, false, false, false, false, false, false, false, false, false, false, false, false, false, false, false, false, false, false, false, false, false, false, false, false, false, false, false, false, false, false, false, false, false, false, false, false, false, false, false, false, false, false, false, false, false, true, true, true] (fun x => slots 114 [.sl 1 (bys B), .any, .ptr H.length 0 0, .int .i64 0, .ptr (H.length + 1) 0 0, .ptr (H.length + 2) 0 0, .int .i64 (c.1 : Nat), .ptr (H.length + 3) 0 0, .any, .any, .any, .int .i64 (j : Nat), .ptr (H.length + 2) 0 (3 + j), .int .i64 (x.k : Nat), .any, .any, .any, .any, .any, .any, .any, .any, .any, .any, .any, .any, .any, .any, .any, .any, .any, .any, .any, .any, .any, .any, .any, .any, .any, .any, .any, .any, .any, .any, .any, .any, .any, .any, .any, .any, .any, .any, .any, .any, .any, .any, .any, .any, .any, .any, .any, .any, .any, .sl 1 [.ptr (H.length + 2) 0 3, .ptr (H.length + 2) 0 4, .ptr (H.length + 2) 0 5], .int .i64 3, .int .i64 (j : Nat)]) (fun x => x.K) (by rfl)
        ⟨K, s1, qs1, vq, ls1 ++ [[]], vs, 0⟩ ⟨Nat.zero_le _, hI.snoc0.at_k 0, hqs1, [], rfl, by rw [Nat.sub_zero], Nat.le_refl _, by simp⟩ rfl rfl ?_
      clear hI
      rintro ⟨K, s2, qs2, vq, ls2, vs, i⟩ ⟨hi, hI, hqs2, cur, hls2, hrec, hcl, hcab⟩
      change i ≤ cnt at hi
      change qs2 = qs at hqs2
      change ls2 = ls1 ++ [cur] at hls2
      change recsR B cnt s1 [] = recsR B (cnt - i) s2 cur at hrec
      change cur.length ≤ i at hcl
      subst hls2
      have hlen : H.length + 8 ≤ K.length := hI.len
      have oR := obj_of (show K[H.length + 1]? = _ from hI.rd)
      have oMn := obj_of (show K[H.length + 3]? = _ from hI.mn)
      have hab2 : ∀ l ∈ ls1 ++ [cur], ∀ r ∈ l, r.ab.length = 16 := fun l hl => by
        rcases List.mem_append.mp hl with h | h
        · exact hab l h
        · simp only [List.mem_singleton] at h; subst h; exact hcab
      by_cases hic : i < cnt
      · by_cases h0 : s2.2 = 0
        · have hRc := c_wire_reader_record (show K[H.length + 1]? = _ from hI.rd) hI.at0 hB
          change SCall Try.prog 58 [.ptr (H.length + 1) 0 0] K fun r H' => ∃ L, r = rcV (recS B s2).1 ∧ H' = K.set (H.length + 1) (rdO B (recS B s2).2) ++ L at hRc
          have xa := recS_at (show s2.1 ≤ B.length from hI.at0)
          have xab := recS_ab (show s2.1 ≤ B.length from hI.at0)
          rw [show cnt - i = (cnt - (i + 1)) + 1 by omega, recsR, if_pos h0] at hrec
          generalize recS B s2 = rr at *
          have hone : (rcC rr.1).all PV.one = true := by simp [rcC, u8s_one, PV.one]
          have hrl := rcC_len xab
          have htk : List.take 23 (rcC rr.1) = rcC rr.1 := List.take_of_length_le (by omega)
          have oM0 : obj K (H.length + 2) 0 = some (mcX H a.1 b.1 ⟨K, s2, qs2, vq, ls1 ++ [cur], vs, i⟩) := obj_of hI.ms
          have oM : ∀ x L, obj (K.set (H.length + 1) x ++ L) (H.length + 2) 0 = some (mcX H a.1 b.1 ⟨K, s2, qs2, vq, ls1 ++ [cur], vs, i⟩) := fun x L => obj_of (by rw [get_app_lt (by simp; omega), get_set_ne (by omega)]; exact hI.ms)
          have hor : K[H.length + (5 + j)]? = some (some (.cells (vs j) (flat (rcsV cur)))) := by
            have := hI.or j hlt
            have e : (ls1 ++ [cur]).getD j [] = cur := by rw [List.getD_eq_getElem?_getD, List.getElem?_append_right (by omega), hlsl, Nat.sub_self]; rfl
            simp only [e] at this
            exact this
          have oC : ∀ x L, obj (K.set (H.length + 1) x ++ L) (H.length + (5 + j)) (vs j) = some (flat (rcsV cur)) := fun x L => obj_of (by rw [get_app_lt (by simp; omega), get_set_ne (by omega)]; exact hor)
          have oM2 : ∀ x y L, obj ((K.set (H.length + 1) x).set (H.length + (5 + j)) y ++ L) (H.length + 2) 0 = some (mcX H a.1 b.1 ⟨K, s2, qs2, vq, ls1 ++ [cur], vs, i⟩) := fun x y L => obj_of (by rw [get_app_lt (by simp; omega), get_set_ne (by omega), get_set_ne (by omega)]; exact hI.ms)
          have gMj : (mcX H a.1 b.1 ⟨K, s2, qs2, vq, ls1 ++ [cur], vs, i⟩).getD (3 + j) .any = .buf (H.length + (5 + j)) (vs j) 0 cur.length 23 true := mcX_at hlsl hlt
          have gMl : (mcX H a.1 b.1 ⟨K, s2, qs2, vq, ls1 ++ [cur], vs, i⟩).length = 6 := rfl
          have hfl : (flat (rcsV cur)).length = cur.length * 23 := flat_rcs cur hcab
          refine go 11 (fun _ => false) mixed ?_
          simp (disch := omega) only [↓reduceIte, go_sem, hic, oR, rdC, h0, oMn, hgn] <;> repeat with_reducible refine And.intro (by first | omega | decide) ?_
          refine go 200 (fun _ => false) mixed ?_
          simp (disch := omega) only [↓reduceIte, go_sem, hic, oR, rdC, h0, oMn, hgn, ord23_24] <;> repeat with_reducible refine And.intro (by first | omega | decide) ?_
          have hI1 := fun L => (hI.step (s' := rr.2) xa L 0).addR (acc := ls1) (cur := cur) rfl hlsl hlt rr.1 (i + 1)
          have hset : ∀ x y z L, ((K.set (H.length + 1) x ++ L).set (H.length + (5 + j)) y).set (H.length + 2) z = ((K.set (H.length + 1) x).set (H.length + (5 + j)) y).set (H.length + 2) z ++ L := fun x y z L => by
            rw [set_app_lt (by simp; omega), set_app_lt (by simp; omega)]
          have hcab1 : ∀ r ∈ cur ++ [rr.1], r.ab.length = 16 := fun r hr => by
            rcases List.mem_append.mp hr with h | h
            · exact hcab r h
            · simp only [List.mem_singleton] at h; subst h; exact xab
          refine runs_fork (l1 := [3, 5, 6, 7, 8, 9]) (l2 := [5, 10, 5, 3, 6, 7, 8, 9, 6, 3, 7, 8, 9]) rfl rfl (go 200 (fun _ => false) mixed ?_) (go 200 (fun _ => false) mixed ?_)
          · simp (disch := omega) only [↓reduceIte, go_sem, oM0, gMj, gMl] <;> repeat with_reducible refine And.intro (by first | omega | decide) ?_
            refine hRc.mono fun r H' ⟨L, e1, e2⟩ => ?_
            rw [e1, e2]
            refine go 200 (fun _ => false) mixed ?_
            simp (disch := omega) only [↓reduceIte, go_sem, oM, oM2, oC, gMj, gMl, hfl, most, rcV, hrl, hone, htk] <;> repeat with_reducible refine And.intro (by first | omega | decide) ?_
            all_goals
              refine rnd_next ⟨_, rr.2, qs2, vq, ls1 ++ [cur ++ [rr.1]], fun k => if k = j then vs j + 1 else vs k, i + 1⟩ ⟨hic, hI1 L, hqs2, cur ++ [rr.1], rfl, hrec, by rw [List.length_append]; show cur.length + 1 ≤ i + 1; omega, hcab1⟩ (by show cnt - (i + 1) < cnt - i; omega) rfl ?_
              simp only [flat_snocR, mcX_r (K := K) (s := s2) (i := i) hlsl hlt, hset]
          · simp (disch := omega) only [↓reduceIte, go_sem] <;> repeat with_reducible refine And.intro (by first | omega | decide) ?_
            refine hRc.mono fun r H' ⟨L, e1, e2⟩ => ?_
            rw [e1, e2]
            refine runs_fork (l1 := [3, 6, 7, 8, 9]) (l2 := [6, 3, 7, 8, 9]) rfl rfl (go 200 (fun _ => false) mixed ?_) (go 200 (fun _ => false) mixed ?_)
            all_goals
              simp (disch := omega) only [↓reduceIte, go_sem, oM, oM2, oC, gMj, gMl, hfl, most, rcV, hrl, hone, htk] <;> repeat with_reducible refine And.intro (by first | omega | decide) ?_
              refine rnd_next ⟨_, rr.2, qs2, vq, ls1 ++ [cur ++ [rr.1]], fun k => if k = j then vs j + 1 else vs k, i + 1⟩ ⟨hic, hI1 L, hqs2, cur ++ [rr.1], rfl, hrec, by rw [List.length_append]; show cur.length + 1 ≤ i + 1; omega, hcab1⟩ (by show cnt - (i + 1) < cnt - i; omega) rfl ?_
              simp only [flat_snocR, mcX_r (K := K) (s := s2) (i := i) hlsl hlt, hset]
        · have hex : recsR B (cnt - i) s2 cur = (cur, s2) := by rw [show cnt - i = (cnt - (i + 1)) + 1 by omega, recsR, if_neg h0]
          rw [hrec, hex] at hall
          refine go 200 (fun _ => false) mixed ?_
          simp (disch := omega) only [↓reduceIte, go_sem, hic, oR, rdC, h0, oMn, hgn] <;> repeat with_reducible refine And.intro (by first | omega | decide) ?_
          refine go 200 (fun _ => false) mixed ?_
          simp (disch := omega) only [↓reduceIte, go_sem] <;> repeat with_reducible refine And.intro (by first | omega | decide) ?_
          exact rnd_next ⟨K, s2, qs2, vq, ls1 ++ [cur], vs, j + 1⟩ ⟨hlt, hI.at_k _, hqs2, by show (ls1 ++ [cur]).length = j + 1; simp [hlsl], hall, hab2⟩ (by show 3 - (j + 1) < 3 - j; omega) rfl rfl
      · have hex : recsR B (cnt - i) s2 cur = (cur, s2) := by rw [show cnt - i = 0 by omega]; rfl
        rw [hrec, hex] at hall
        refine go 200 (fun _ => false) mixed ?_
        simp (disch := omega) only [↓reduceIte, go_sem, hic, oR, rdC, oMn, hgn] <;> repeat with_reducible refine And.intro (by first | omega | decide) ?_
        refine go 200 (fun _ => false) mixed ?_
        simp (disch := omega) only [↓reduceIte, go_sem] <;> repeat with_reducible refine And.intro (by first | omega | decide) ?_
        exact rnd_next ⟨K, s2, qs2, vq, ls1 ++ [cur], vs, j + 1⟩ ⟨hlt, hI.at_k _, hqs2, by show (ls1 ++ [cur]).length = j + 1; simp [hlsl], hall, hab2⟩ (by show 3 - (j + 1) < 3 - j; omega) rfl rfl
    · simp (disch := omega) only [↓reduceIte, go_sem, hlt] <;> repeat with_reducible refine And.intro (by first | omega | decide) ?_
      refine Runs.ghost hkc (Ghost.keep [true, false, true, true, true, true, true, true]) ?_
      refine tl4 ⟨K, s1, qs1, vq, ls1, vs, j⟩ hI hqs1 (hall.trans ?_) hab
      rw [show j = 3 by omega]; rfl
  clear hk hΦ
  refine go 200 (fun _ => false) mixed ?_
  simp (disch := omega) only [↓reduceIte, go_sem] <;> repeat with_reducible refine And.intro (by first | omega | decide) ?_
  refine runs_loopA (fun x : RdS => x.k ≤ c.1 ∧ RI H B a.1 b.1 [.int .i64 (d.1 : Nat), .int .i64 (e.1 : Nat), .int .i64 (f.1 : Nat)] x ∧ x.ls = [] ∧ quesR B c.1 f.2 [] = quesR B (c.1 - x.k) x.s x.qs ∧ x.qs.length ≤ x.k) (fun x => c.1 - x.k)
    [true, false, true, true, true, true, true, true, false, true] (fun x => slots 114 [.sl 1 (bys B), .any, .ptr H.length 0 0, .int .i64 0, .ptr (H.length + 1) 0 0, .ptr (H.length + 2) 0 0, .int .i64 (c.1 : Nat), .ptr (H.length + 3) 0 0, .any, .int .i64 (x.k : Nat)]) (fun x => x.K) (by exact hkc) ⟨K0, f.2, [], 0, [], fun _ => 0, 0⟩ ⟨Nat.zero_le _, hI0, rfl, by rw [Nat.sub_zero], Nat.le_refl _⟩ rfl rfl ?_
  rintro ⟨K, s, qs, vq, ls, vs, i⟩ ⟨hi, hI, hls, hall, hql⟩
  change i ≤ c.1 at hi
  change ls = [] at hls
  change quesR B c.1 f.2 [] = quesR B (c.1 - i) s qs at hall
  change qs.length ≤ i at hql
  have oR := obj_of (show K[H.length + 1]? = _ from hI.rd)
  by_cases hlt : i < c.1
  · by_cases h0 : s.2 = 0
    · have hn1 : c.1 - i = (c.1 - (i + 1)) + 1 := by omega
      have hN := c_wire_reader_name (show K[H.length + 1]? = _ from hI.rd) hI.at0 hB
      change SCall Try.prog 57 [.ptr (H.length + 1) 0 0] K fun r H' => r = .str (bs (nameS B s).1) ∧ H' = K.set (H.length + 1) (rdO B (nameS B s).2) at hN
      have hlen : H.length + 8 ≤ K.length := hI.len
      have hnum : ∀ (s' : RSt) (L : Heap), s'.1 ≤ B.length → SCall Try.prog 56 [.ptr (H.length + 1) 0 0, .int .i64 2] (K.set (H.length + 1) (rdO B s') ++ L) fun r H' => r = .int .i64 (numS B 2 s').1 ∧ H' = K.set (H.length + 1) (rdO B (numS B 2 s').2) ++ L := fun s' L hs' =>
        (c_wire_reader_number 2 (by omega) (by rw [get_app_lt (by simp; omega), get_set_self (by omega)]) hs' hB).mono fun r H' ⟨e1, e2⟩ => ⟨e1, by rw [e2, set_app_lt (by simp; omega), set_twice]⟩
      have hqe : queR B s = (⟨(nameS B s).1, ((numS B 2 (nameS B s).2).1 : Nat), ((numS B 2 (numS B 2 (nameS B s).2).2).1 : Nat)⟩, (numS B 2 (numS B 2 (nameS B s).2).2).2) := rfl
      have xa := nameS_at hI.at0
      change (nameS B s).2.1 ≤ B.length at xa
      generalize nameS B s = ya at *
      have xb := numS_at (n := 2) xa
      have hnb := fun L => hnum ya.2 L xa
      generalize numS B 2 ya.2 = yb at *
      have xc := numS_at (n := 2) xb
      have hnc := fun L => hnum yb.2 L xb
      generalize numS B 2 yb.2 = yc at *
      rw [hn1, quesR, if_pos h0, hqe] at hall
      have hI1 := ((hI.step (s' := yc.2) xc [] 0).addQ ⟨ya.1, (yb.1 : Nat), (yc.1 : Nat)⟩ (i + 1)).app [some (.cells 0 (quC ⟨ya.1, (yb.1 : Nat), (yc.1 : Nat)⟩))]
      have oM : ∀ x L, obj (K.set (H.length + 1) x ++ L) (H.length + 2) 0 = some (mcX H a.1 b.1 ⟨K, s, qs, vq, ls, vs, i⟩) := fun x L => obj_of (by rw [get_app_lt (by simp; omega), get_set_ne (by omega)]; exact hI.ms)
      have oQ : ∀ x L, obj (K.set (H.length + 1) x ++ L) (H.length + 4) vq = some (flat (qusV qs)) := fun x L => obj_of (by rw [get_app_lt (by simp; omega), get_set_ne (by omega)]; exact hI.oq)
      have oM2 : ∀ x y L, obj ((K.set (H.length + 1) x).set (H.length + 4) y ++ L) (H.length + 2) 0 = some (mcX H a.1 b.1 ⟨K, s, qs, vq, ls, vs, i⟩) := fun x y L => obj_of (by rw [get_app_lt (by simp; omega), get_set_ne (by omega), get_set_ne (by omega)]; exact hI.ms)
      have gM2 : (mcX H a.1 b.1 ⟨K, s, qs, vq, ls, vs, i⟩).getD 2 .any = .buf (H.length + 4) vq 0 qs.length 3 true := rfl
      have gMl : (mcX H a.1 b.1 ⟨K, s, qs, vq, ls, vs, i⟩).length = 6 := rfl
      have hfl : (flat (qusV qs)).length = qs.length * 3 := flat_qus qs
      refine go 200 (fun _ => false) mixed ?_
      simp (disch := omega) only [↓reduceIte, go_sem, hlt, oR, rdC, h0] <;> repeat with_reducible refine And.intro (by first | omega | decide) ?_
      refine hN.mono fun r H' ⟨e1, e2⟩ => ?_
      rw [e1, e2]
      refine go 200 (fun _ => false) mixed ?_
      simp (disch := omega) only [↓reduceIte, go_sem] <;> repeat with_reducible refine And.intro (by first | omega | decide) ?_
      refine (hnb _).mono fun r H' ⟨e1, e2⟩ => ?_
      rw [e1, e2]
      refine go 200 (fun _ => false) mixed ?_
      simp (disch := omega) only [↓reduceIte, go_sem] <;> repeat with_reducible refine And.intro (by first | omega | decide) ?_
      refine (hnc _).mono fun r H' ⟨e1, e2⟩ => ?_
      rw [e1, e2]
      refine go 200 (fun _ => false) mixed ?_
      simp (disch := omega) only [↓reduceIte, go_sem, oM, oM2, oQ, gM2, gMl, hfl, most] <;> repeat with_reducible refine And.intro (by first | omega | decide) ?_
      refine rnd_next ⟨_, yc.2, qs ++ [⟨ya.1, (yb.1 : Nat), (yc.1 : Nat)⟩], vq + 1, ls, vs, i + 1⟩ ⟨hlt, hI1, hls, hall, by show (qs ++ [_]).length ≤ i + 1; simp; omega⟩ (by show c.1 - (i + 1) < c.1 - i; omega) rfl ?_
      simp only [flat_snocQ, mcX_q (K := K) (s := s) (i := i), List.append_nil]
      rfl
    · have hex : quesR B (c.1 - i) s qs = (qs, s) := by rw [show c.1 - i = (c.1 - (i + 1)) + 1 by omega, quesR, if_neg h0]
      refine go 200 (fun _ => false) mixed ?_
      simp (disch := omega) only [↓reduceIte, go_sem, hlt, oR, rdC, h0] <;> repeat with_reducible refine And.intro (by first | omega | decide) ?_
      refine Runs.ghost hkc (Ghost.keep [true, false, true, true, true, true, true, true]) ?_
      exact tl2 ⟨K, s, qs, vq, ls, vs, i⟩ hI hls (hall.trans hex) (show qs.length ≤ 65535 by omega)
  · have hex : quesR B (c.1 - i) s qs = (qs, s) := by rw [show c.1 - i = 0 by omega]; rfl
    refine go 200 (fun _ => false) mixed ?_
    simp (disch := omega) only [↓reduceIte, go_sem, hlt] <;> repeat with_reducible refine And.intro (by first | omega | decide) ?_
    refine Runs.ghost hkc (Ghost.keep [true, false, true, true, true, true, true, true]) ?_
    exact tl2 ⟨K, s, qs, vq, ls, vs, i⟩ hI hls (hall.trans hex) (show qs.length ≤ 65535 by omega)
end Go.Proofs.GoC
