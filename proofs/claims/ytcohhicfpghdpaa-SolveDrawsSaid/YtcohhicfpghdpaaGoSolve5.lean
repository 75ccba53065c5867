/-
  What the functions compute: a solver that is full, what is open, ticks. No claim by itself.
-/
import Derived.Test.YtcohhicfpghdpaaGoSolve4
namespace Go.Proofs.GoC
open Go Go.Proofs.SL
set_option linter.unusedSimpArgs false
set_option linter.unusedVariables false
set_option maxRecDepth 10000
set_option maxHeartbeats 4000000

theorem start_full {H : Heap} {i ic im : Nat} {s : PV} {c : SCfg} {many : Int} {L : List Nat} (h : SvAt H i ic im s c many L) (hl : 16 ≤ L.length) (hl9 : L.length < 1000000) (m1 : 0 ≤ many) (m2 : many ≤ 1000000)
    (nm : List UInt8) (hnl : nm.length < 1000) (hn0 : nm ≠ []) (hmay : mayN nm = true) (d now : Int) :
    SCall Try.prog 7 [.ptr i 0 0, .str (bs nm), .int .i64 1, .int .i64 d, .int .i64 now] H fun r H' => r = .tup [.int .i64 many, .agg (evC 2 many 0 [] 0 0 6)] ∧
      ∃ s', SvAt H' i ic im s' c (many + 1) L ∧ (s' = .nils ∨ bufN s' = bufN s) ∧ Keeps (i :: bufN s) H H' := by
  have hb0 := h.bnd
  obtain ⟨j, vj, n0, rfl, hj, hn1, hji⟩ : ∃ j vj n, s = .buf j vj 0 L.length 1 true ∧ H[j]? = some (some (.cells vj (ptrsV L ++ nilsV n))) ∧ 0 < L.length + n ∧ j ≠ i := by
    rcases h.arr with ⟨_, rfl⟩ | h
    · simp at hl
    · exact h
  have oc := obj_of h.own
  have hi := lt_of_get h.own
  have hw : IntKind.i64.wrap (many + 1) = many + 1 := w64 (by omega) (by omega)
  have hne : (bs nm = bs []) = False := eq_false fun e => hn0 (bs_inj.mp e)
  have hMay := c_label_May nm (by omega)
  rw [hmay] at hMay
  refine scall_ofd (ord := ordST) (tdOf_ok _) (rs := [.tmp 10, .cell 11 32]) Try.func7 rfl (by kernel_rfl) (by kernel_rfl) (by kernel_rfl) Try.ntmps7 fun hb hargs => ?_
  refine go 200 (fun _ => false) mixed ?_
  simp (disch := omega) only [↓reduceIte, go_sem, oc, hw, hne] <;> repeat with_reducible refine And.intro (by first | omega | decide) ?_
  refine hMay.on (go 200 (fun _ => false) mixed ?_)
  simp (disch := omega) only [↓reduceIte, go_sem, oc] <;> repeat with_reducible refine And.intro (by first | omega | decide) ?_
  have hS2 : SvAt (H.set i (some (.cells 0 [.ptr ic 0 0, .int .i64 c.sv, .int .i64 c.tr, .int .i64 c.wt, .int .i64 c.rm, .buf j vj 0 L.length 1 true, .int .i64 (many + 1)]))) i ic im (.buf j vj 0 L.length 1 true) c (many + 1) L :=
    ⟨get_set_self hi, by rw [get_set_ne h.ne_ic.symm]; exact h.cache, by rw [get_set_ne h.ne_im.symm]; exact h.map, .inr ⟨j, vj, n0, rfl, by rw [get_set_ne hji.symm]; exact hj, hn1, hji⟩, h.nodup, fun q hq => by
      obtain ⟨x, hx⟩ := h.lks q hq
      exact ⟨x, by rw [get_set_ne (h.lk_i hx).symm]; exact hx⟩⟩
  have hkl : (H.set i (some (.cells 0 [.ptr ic 0 0, .int .i64 c.sv, .int .i64 c.tr, .int .i64 c.wt, .int .i64 c.rm, .buf j vj 0 L.length 1 true, .int .i64 (many + 1)]))).length = H.length := by simp
  have hK2 : Keeps [i] H (H.set i (some (.cells 0 [.ptr ic 0 0, .int .i64 c.sv, .int .i64 c.tr, .int .i64 c.wt, .int .i64 c.rm, .buf j vj 0 L.length 1 true, .int .i64 (many + 1)]))) := Keeps.setF (by simp)
  rw [← hkl]
  generalize H.set i (some (.cells 0 [.ptr ic 0 0, .int .i64 c.sv, .int .i64 c.tr, .int .i64 c.wt, .int .i64 c.rm, .buf j vj 0 L.length 1 true, .int .i64 (many + 1)])) = K2 at *
  refine (get_none (get_app hS2.cache) (get_app hS2.map) nm (by omega) _ now).mono fun r H4 ⟨e1, e2⟩ => ?_
  rw [e1, e2]
  have oc2 := obj_of hS2.own
  have li2 := lt_of_get hS2.own
  have hl16 : (16 : Int) ≤ L.length := by omega
  let x0 : Lk := ⟨many, 0, 0, 0, 604800, nm, 0, [], 1, 0⟩
  have hp0 : (K2 ++ [some (.cells 0 [.int .i64 0, .int .i64 0, .int .i64 0, .str (bs []), .int .i64 0, .int .i64 0, .nils, .int .i64 0]), some (.cells 0 (lkC x0))])[K2.length + 1]? = some (some (.cells 0 (lkC x0))) := by rw [get_tail]; rfl
  have hpn : K2.length + 1 ∉ L := fun hm => by
    have := hb0.L _ hm; omega
  have hfail := c_solve_Solver_fail (hS2.app (K := [some (.cells 0 [.int .i64 0, .int .i64 0, .int .i64 0, .str (bs []), .int .i64 0, .int .i64 0, .nils, .int .i64 0]), some (.cells 0 (lkC x0))])) hl9 hp0 6
  rw [remP_not hpn] at hfail
  have hend : ∀ H5 : Heap, Keeps [i, j] (K2 ++ [some (.cells 0 [.int .i64 0, .int .i64 0, .int .i64 0, .str (bs []), .int .i64 0, .int .i64 0, .nils, .int .i64 0]), some (.cells 0 (lkC x0))]) H5 →
      H5[K2.length]? = some (some (.cells 0 [.int .i64 0, .int .i64 0, .int .i64 0, .str (bs []), .int .i64 0, .int .i64 0, .nils, .int .i64 0])) ∧ H5[K2.length + 1]? = some (some (.cells 0 (lkC x0))) := fun H5 k5 =>
    ⟨k5.get (by rw [get_tail0]; rfl) (by have := hb0.i; have := hb0.s j (by simp [bufN]); simp; omega), k5.get hp0 (by have := hb0.i; have := hb0.s j (by simp [bufN]); simp; omega)⟩
  have hfin : ∀ (H5 : Heap) (X : Option OB) (s' : PV), Keeps [i, j] (K2 ++ [some (.cells 0 [.int .i64 0, .int .i64 0, .int .i64 0, .str (bs []), .int .i64 0, .int .i64 0, .nils, .int .i64 0]), some (.cells 0 (lkC x0))]) H5 → SvAt H5 i ic im s' c (many + 1) L → (s' = .nils ∨ bufN s' = [j]) →
      ∃ s', SvAt (H5.set K2.length X) i ic im s' c (many + 1) L ∧ (s' = .nils ∨ bufN s' = bufN (.buf j vj 0 L.length 1 true)) ∧ Keeps (i :: bufN (.buf j vj 0 L.length 1 true)) H (H5.set K2.length X) := fun H5 X s' k5 hs5 hbs => by
    refine ⟨s', hs5.fresh (b := H.length) (hb0.sub hbs fun p hp => hp) (Keeps.setF (F := [K2.length]) (by simp)) (by simp; omega), hbs, ?_⟩
    exact ((hK2.mono (G := [i, j, K2.length]) (by simp)).trans (Keeps.app.trans ((k5.mono (by simp)).trans (Keeps.setF (by simp))))).mono (by simp [bufN]; omega)
  refine go 200 (fun _ => false) mixed ?_
  simp (disch := omega) only [↓reduceIte, go_sem, oc2, hl16, hl, ordST_9] <;> repeat with_reducible refine And.intro (by first | omega | decide) ?_
  refine runs_fork (l1 := [3, 6, 7, 8]) (l2 := [6, 3, 7, 8]) rfl rfl (go 200 (fun _ => false) mixed ?_) (go 200 (fun _ => false) mixed ?_)
  · simp (disch := omega) only [↓reduceIte, go_sem] <;> repeat with_reducible refine And.intro (by first | omega | decide) ?_
    refine hfail.mono fun r H5 ⟨e5, s', hs5, hbs, k5⟩ => ?_
    rw [e5]
    have og := obj_of (hend H5 k5).1
    have op5 := obj_of (hend H5 k5).2
    have lg := lt_of_get (hend H5 k5).1
    refine go 200 (fun _ => false) mixed ?_
    simp (disch := omega) only [↓reduceIte, go_sem, og, op5, lkC, evC] <;> repeat with_reducible refine And.intro (by first | omega | decide) ?_
    exact EndsD.same (.inr rfl) (r := .tup [.int .i64 many, .agg (evC 2 many 0 [] 0 0 6)]) (by (simp (disch := omega) only [↓reduceIte, go_sem] <;> repeat with_reducible refine And.intro (by first | omega | decide) ?_); rfl) ⟨rfl, hfin H5 _ s' k5 hs5 hbs⟩
  · simp (disch := omega) only [↓reduceIte, go_sem] <;> repeat with_reducible refine And.intro (by first | omega | decide) ?_
    refine hfail.mono fun r H5 ⟨e5, s', hs5, hbs, k5⟩ => ?_
    rw [e5]
    have og := obj_of (hend H5 k5).1
    have op5 := obj_of (hend H5 k5).2
    have lg := lt_of_get (hend H5 k5).1
    refine go 200 (fun _ => false) mixed ?_
    simp (disch := omega) only [↓reduceIte, go_sem, og, op5, lkC, evC] <;> repeat with_reducible refine And.intro (by first | omega | decide) ?_
    exact EndsD.same (.inr rfl) (r := .tup [.int .i64 many, .agg (evC 2 many 0 [] 0 0 6)]) (by (simp (disch := omega) only [↓reduceIte, go_sem] <;> repeat with_reducible refine And.intro (by first | omega | decide) ?_); rfl) ⟨rfl, hfin H5 _ s' k5 hs5 hbs⟩

theorem ptrs_chunk {L : List Nat} {J : List PV} : ∀ n, n ≤ L.length → chunk 1 false n (ptrsV L ++ J) = ptrsV (L.take n) := by
  induction L with
  | nil => intro n hn; obtain rfl : n = 0 := by simpa using hn
           rfl
  | cons a L ih =>
    intro n hn
    cases n with
    | zero => rfl
    | succ n =>
      show (if false = true then _ else _) :: chunk 1 false n (List.drop 1 (ptrsV (a :: L) ++ J)) = _
      simp only [Bool.false_eq_true, if_false, List.take_succ_cons]
      have : List.drop 1 (ptrsV (a :: L) ++ J) = ptrsV L ++ J := rfl
      rw [this, ih n (by simpa using hn)]
      rfl

/-- A list's copy. -/
theorem c_slices_Clone_solve_lookup_solve_lookup {H : Heap} {i : Nat} {s : PV} {L : List Nat} (h : PtrsAt H i s L) (hbd : ∀ p ∈ L, p < H.length) (hl : L.length < 1000000) :
    SCall Try.prog 20 [s] H fun r H' => ((r = .nils ∧ L = []) ∨ r = .sl 1 (ptrsV L)) ∧ H' = H := by
  refine scall_of (T := tdOf Try.prog) (ord := fun _ => []) (rs := [2]) Try.func20 rfl (by kernel_rfl) (by kernel_rfl) (by kernel_rfl) Try.ntmps20 fun hb hargs => go 200 (fun t => t == 5) mixed ?_
  rcases h with ⟨rfl, rfl⟩ | ⟨j, vj, n, rfl, h2, h3, h4⟩
  · simp (disch := omega) only [↓reduceIte, go_sem] <;> repeat with_reducible refine And.intro (by first | omega | decide) ?_
    refine Ends.same (.inr rfl) ?_
    exact ⟨.inl rfl, rfl⟩
  · obtain ⟨q, l, hq⟩ : ∃ q l, ptrsV L ++ nilsV n = q :: l := by
      cases hc : ptrsV L ++ nilsV n with
      | nil => have := congrArg List.length hc; rw [List.length_append, ptrsV_len, nilsV, List.length_replicate, List.length_nil] at this; omega
      | cons q l => exact ⟨q, l, rfl⟩
    have hlen : (q :: l).length = L.length + n := by rw [← hq, List.length_append, ptrsV_len, nilsV, List.length_replicate]
    have hch : chunk 1 false L.length (List.take L.length (q :: l)) = ptrsV L := by
      rw [← hq, List.take_append_of_le_length (by rw [ptrsV_len]; exact Nat.le_refl _)]
      have e1 : List.take L.length (ptrsV L) = ptrsV L := List.take_of_length_le (by rw [ptrsV_len]; exact Nat.le_refl _)
      rw [e1]
      have := ptrs_chunk (L := L) (J := []) L.length (Nat.le_refl _)
      rw [List.append_nil, List.take_length] at this
      exact this
    rw [hq] at h2
    have oj := obj_of h2
    have hle : L.length ≤ l.length + 1 := by simp only [List.length_cons] at hlen; omega
    have hjl := lt_of_get h2
    have hfl : ∀ M : List Nat, flat (ptrsV M) = ptrsV M := fun M => by
      induction M with
      | nil => rfl
      | cons a M ih => exact congrArg (PV.ptr a 0 0 :: ·) ih
    have hfl := hfl L
    simp (disch := omega) only [↓reduceIte, go_sem, oj, hch, hle, most, hfl] <;> repeat with_reducible refine And.intro (by first | omega | decide) ?_
    refine fin_freeze (i := H.length) (xs := ptrsV L) (.inr rfl) hb rfl (Nat.le_refl _) (by rw [get_tail0]; rfl) ?_ ptrsV_len (fun x hx => ?_) (fun x hx => ?_) ⟨.inr rfl, rfl⟩
    · rw [hfl]; unfold subCells; rw [List.drop_zero]; exact (List.take_of_length_le (by simp only [ptrsV_len]; omega)).symm
    · obtain ⟨p, _, rfl⟩ := List.mem_map.mp hx; rfl
    · obtain ⟨p, hp, rfl⟩ := List.mem_map.mp hx; exact .ptr _ _ _ (hbd p hp)

def i64sV (ys : List Int) : List PV := ys.map fun n => .int .i64 n
theorem i64sV_len {ys : List Int} : (i64sV ys).length = ys.length := List.length_map ..
theorem i64sV_flat {ys : List Int} : flat (i64sV ys) = i64sV ys := by
  induction ys with
  | nil => rfl
  | cons a M ih => exact congrArg (PV.int .i64 a :: ·) ih

theorem c_solve_Solver_Open {H : Heap} {i ic im : Nat} {s : PV} {c : SCfg} {many : Int} {L : List Nat} (h : SvAt H i ic im s c many L) (hl : L.length < 1000000) :
    SCall Try.prog 8 [.ptr i 0 0] H fun r H' => ((r = .nils ∧ L = []) ∨ ∃ ys : List Int, r = .sl 1 (i64sV ys) ∧ ys.length = L.length) ∧ H' = H := by
  have oc := obj_of h.own
  refine scall_of (ord := fun _ => []) (rs := [2]) Try.func8 rfl (by kernel_rfl) (by kernel_rfl) (by kernel_rfl) Try.ntmps8 fun hb hargs => go 200 (fun _ => false) mixed ?_
  rcases h.arr with ⟨rfl, rfl⟩ | ⟨j, vj, n, rfl, h2, h3, h4⟩
  · simp (disch := omega) only [↓reduceIte, go_sem, oc] <;> repeat with_reducible refine And.intro (by first | omega | decide) ?_
    refine runs_loopA (fun k : Nat => k = 0) (fun k => 0) [false, false, false, true, false, false, false, false, false, false, true, true]
      (fun k => slots 24 [.any, .any, .any, .nils, .any, .any, .any, .any, .any, .any, .int .i64 0, .int .i64 0]) (fun k => H) (by rfl) 0 rfl rfl rfl ?_
    rintro k rfl
    refine go 200 (fun _ => false) mixed ?_
    simp (disch := omega) only [↓reduceIte, go_sem] <;> repeat with_reducible refine And.intro (by first | omega | decide) ?_
    refine go 200 (fun _ => false) mixed ?_
    simp (disch := omega) only [↓reduceIte, go_sem] <;> repeat with_reducible refine And.intro (by first | omega | decide) ?_
    refine Ends.same (.inr rfl) ?_
    exact ⟨.inl rfl, rfl⟩
  · have oj := obj_of h2
    have hjl := lt_of_get h2
    simp (disch := omega) only [↓reduceIte, go_sem, oc] <;> repeat with_reducible refine And.intro (by first | omega | decide) ?_
    refine Runs.ghost (by rfl) (Ghost.grow (t := 3) (m := 1) rfl) ?_
    refine runs_loopA (fun ys : List Int => ys.length ≤ L.length) (fun ys => L.length - ys.length) [false, false, false, true, false, false, false, false, false, true, true, true]
      (fun ys => slots 24 [.any, .any, .any, .buf H.length ys.length 0 ys.length 1 true, .any, .any, .any, .any, .any, .buf j vj 0 L.length 1 true, .int .i64 L.length, .int .i64 ys.length]) (fun ys => H ++ [some (.cells ys.length (i64sV ys))]) (by rfl) [] (Nat.zero_le _) rfl rfl ?_
    intro ys hys
    refine go 200 (fun _ => false) mixed ?_
    by_cases hlt : ys.length < L.length
    · have hget := ptrsV_get (J := nilsV n) hlt
      have hm : L.getD ys.length 0 ∈ L := by rw [List.getD_eq_getElem?_getD, List.getElem?_eq_getElem hlt]; exact List.getElem_mem _
      obtain ⟨x, hx⟩ := h.lks _ hm
      generalize L.getD ys.length 0 = p at *
      have op := obj_of hx
      have hpl := lt_of_get hx
      have hcl : ys.length < (ptrsV L ++ nilsV n).length := by rw [List.length_append, ptrsV_len]; omega
      simp (disch := omega) only [↓reduceIte, go_sem, hlt, hget, oj, hcl, op, lkC, i64sV_len, most] <;> repeat with_reducible refine And.intro (by first | omega | decide) ?_
      have e : (ys ++ [x.n]).length = ys.length + 1 := by simp
      have e2 : i64sV (ys ++ [x.n]) = i64sV ys ++ [.int .i64 x.n] := by simp [i64sV]
      refine rnd_next (ys ++ [x.n]) ?_ ?_ ?_ ?_
      · show (ys ++ [x.n]).length ≤ L.length; omega
      · show L.length - (ys ++ [x.n]).length < L.length - ys.length; omega
      · rw [e]; rfl
      · rw [e, e2]
    · simp (disch := omega) only [↓reduceIte, go_sem, hlt] <;> repeat with_reducible refine And.intro (by first | omega | decide) ?_
      refine go 200 (fun _ => false) mixed ?_
      simp (disch := omega) only [↓reduceIte, go_sem] <;> repeat with_reducible refine And.intro (by first | omega | decide) ?_
      refine fin_freeze (i := H.length) (xs := i64sV ys) (.inr rfl) hb rfl (Nat.le_refl _) (by rw [get_tail0]; rfl) ?_ i64sV_len (fun x hx => ?_) (fun x hx => ?_) ?_
      · rw [i64sV_flat]; unfold subCells; rw [List.drop_zero]; exact (List.take_of_length_le (by simp only [i64sV_len]; omega)).symm
      · obtain ⟨p, _, rfl⟩ := List.mem_map.mp hx; rfl
      · obtain ⟨p, hp, rfl⟩ := List.mem_map.mp hx; exact .int _ _
      · exact ⟨.inr ⟨ys, rfl, by omega⟩, rfl⟩

/-- Events, as a slice holds them. -/
def evsV (es : List (List PV)) : List PV := es.map fun e => .agg e
theorem evsV_len {es : List (List PV)} : (evsV es).length = es.length := List.length_map ..
def lastE (n : Int) : List PV := evC 2 n 0 [] 0 0 9
theorem evsV_flat {es : List (List PV)} (h : ∀ e ∈ es, e.length = 8) : (flat (evsV es)).length = es.length * 8 :=
  (flat_length (m := 8) fun x hx => by obtain ⟨e, he, rfl⟩ := List.mem_map.mp hx; exact h e he).trans (by rw [evsV_len])
theorem evsV_snoc {es : List (List PV)} {e : List PV} : flat (evsV (es ++ [e])) = flat (evsV es) ++ e := by simp [evsV, flat, PV.cells]
structure TA where
  K : Heap
  s : PV
  es : List (List PV)
structure TAI (H : Heap) (i ic im : Nat) (s : PV) (c : SCfg) (many : Int) (L : List Nat) (now : Int) (a : TA) : Prop where
  sv : SvAt a.K i ic im a.s c many (L.drop a.es.length)
  sb : a.s = .nils ∨ bufN a.s = bufN s
  out : a.K[H.length]? = some (some (.cells a.es.length (flat (evsV a.es))))
  keep : Keeps (i :: (bufN s ++ L)) H a.K
  lks : ∀ p ∈ L.drop a.es.length, ∃ x : Lk, a.K[p]? = some (some (.cells 0 (lkC x))) ∧ x.til ≤ now ∧ 0 ≤ x.sent ∧ x.sent ≤ 1000 ∧ c.tr ≤ x.sent + 1
  le : a.es.length ≤ L.length
  evs : ∀ e ∈ a.es, ∃ n, e = lastE n

/-- All that are open are over: each has had its last try. -/
theorem tick_all {H : Heap} {i ic im : Nat} {s : PV} {c : SCfg} {many : Int} {L : List Nat} (h : SvAt H i ic im s c many L) (hl : L.length < 1000) (now d : Int)
    (hall : ∀ p ∈ L, ∃ x : Lk, H[p]? = some (some (.cells 0 (lkC x))) ∧ x.til ≤ now ∧ 0 ≤ x.sent ∧ x.sent ≤ 1000 ∧ c.tr ≤ x.sent + 1) :
    SCall Try.prog 9 [.ptr i 0 0, .int .i64 now, .int .i64 d] H fun r H' => ((r = .nils ∧ L = []) ∨ ∃ es, r = .sl 8 (evsV es) ∧ es.length = L.length ∧ ∀ e ∈ es, ∃ n, e = lastE n) ∧
      ∃ s', SvAt H' i ic im s' c many [] ∧ (s' = .nils ∨ bufN s' = bufN s) ∧ Keeps (i :: (bufN s ++ L)) H H' := by
  have hb0 := h.bnd
  have oc := obj_of h.own
  have hi := lt_of_get h.own
  have hcl := c_slices_Clone_solve_lookup_solve_lookup h.arr hb0.L (by omega)
  refine scall_of (ord := fun _ => []) (rs := [6]) Try.func9 rfl (by kernel_rfl) (by kernel_rfl) (by kernel_rfl) Try.ntmps9 fun hb hargs => go 200 (fun _ => false) mixed ?_
  simp (disch := omega) only [↓reduceIte, go_sem, oc] <;> repeat with_reducible refine And.intro (by first | omega | decide) ?_
  refine hcl.mono fun r H1 ⟨hr, e2⟩ => ?_
  rw [e2]
  rcases hr with ⟨rfl, rfl⟩ | rfl
  · refine go 200 (fun _ => false) mixed ?_
    simp (disch := omega) only [↓reduceIte, go_sem] <;> repeat with_reducible refine And.intro (by first | omega | decide) ?_
    refine runs_loopA (fun k : Nat => k = 0) (fun k => 0) [false, false, false, false, false, false, false, true, false, false, false, false, false, false, true, true, true]
      (fun k => slots 39 [.any, .any, .any, .any, .any, .any, .any, .nils, .any, .any, .any, .any, .any, .any, .nils, .int .i64 0, .int .i64 0]) (fun k => H) (by rfl) 0 rfl rfl rfl ?_
    rintro k rfl
    refine go 200 (fun _ => false) mixed ?_
    simp (disch := omega) only [↓reduceIte, go_sem] <;> repeat with_reducible refine And.intro (by first | omega | decide) ?_
    refine go 200 (fun _ => false) mixed ?_
    simp (disch := omega) only [↓reduceIte, go_sem] <;> repeat with_reducible refine And.intro (by first | omega | decide) ?_
    refine Ends.same (.inr rfl) ?_
    exact ⟨.inl rfl, s, h, .inr rfl, Keeps.refl⟩
  · refine go 200 (fun _ => false) mixed ?_
    simp (disch := omega) only [↓reduceIte, go_sem] <;> repeat with_reducible refine And.intro (by first | omega | decide) ?_
    refine Runs.ghost (by rfl) (Ghost.grow (t := 7) (m := 8) rfl) ?_
    refine runs_loopA (TAI H i ic im s c many L now) (fun a => L.length - a.es.length) [true, true, true, false, false, false, false, true, false, false, false, false, false, false, true, true, true]
      (fun a => slots 39 [.ptr i 0 0, .int .i64 now, .int .i64 d, .any, .any, .any, .any, .buf H.length a.es.length 0 a.es.length 8 true, .any, .any, .any, .any, .any, .any, .sl 1 (ptrsV L), .int .i64 L.length, .int .i64 a.es.length]) (fun a => a.K) (by rfl)
      ⟨H ++ [some (.cells 0 [])], s, []⟩ ⟨h.app, .inr rfl, by show _ = _; rw [get_tail0]; rfl, Keeps.app, fun p hp => by
        obtain ⟨x, hx, hr⟩ := hall p hp
        exact ⟨x, get_app hx, hr⟩, Nat.zero_le _, by intro e he; cases he⟩ rfl rfl ?_
    rintro ⟨K, s1, es⟩ ⟨hsv, hsb, hout, hkeep, hlks, hle, hevs⟩
    dsimp only at hsv hsb hout hkeep hlks hle hevs ⊢
    have h8 : ∀ e ∈ es, e.length = 8 := fun e he => by obtain ⟨n, rfl⟩ := hevs e he; rfl
    have hof := evsV_flat h8
    refine go 200 (fun _ => false) mixed ?_
    by_cases hlt : es.length < L.length
    · have hdr : L.drop es.length = L.getD es.length 0 :: L.drop (es.length + 1) := by
        rw [List.drop_eq_getElem_cons hlt]; congr 1; simp [List.getD_eq_getElem?_getD, hlt]
      have hget := ptrsV_get (J := []) hlt
      rw [List.append_nil] at hget
      have hpL : L.getD es.length 0 ∈ L := by rw [List.getD_eq_getElem?_getD, List.getElem?_eq_getElem hlt]; exact List.getElem_mem _
      generalize L.getD es.length 0 = p at *
      obtain ⟨x, hx, t1, t2, t3, t4⟩ := hlks p (by rw [hdr]; exact List.mem_cons_self ..)
      have op := obj_of hx
      have hrem : remP p (L.drop es.length) = L.drop (es.length + 1) := by
        rw [remP_at (k := 0) hsv.nodup (by rw [hdr]; rfl), hdr]; rfl
      have hag := fun d' => again_last hsv (by rw [List.length_drop]; omega) hx t2 t3 t4 d' now
      rw [hrem] at hag
      simp (disch := omega) only [↓reduceIte, go_sem, hlt, hget, op, lkC, t1] <;> repeat with_reducible refine And.intro (by first | omega | decide) ?_
      refine (hag _).mono fun r K1 ⟨e5, s', hs', hbs, k5⟩ => ?_
      rw [e5]
      have hbs1 : s' = .nils ∨ bufN s' = bufN s := by
        rcases hbs with h | h
        · exact .inl h
        · rcases hsb with rfl | h2
          · rcases hs'.arr with ⟨h3, _⟩ | ⟨j, vj, n, rfl, _⟩
            · exact .inl h3
            · cases h
          · exact .inr (h.trans h2)
      have hbn : ∀ j ∈ bufN s1, j ∈ bufN s := fun j hj => by
        rcases hsb with rfl | h2
        · cases hj
        · exact h2 ▸ hj
      have ho1 : K1[H.length]? = some (some (.cells es.length (flat (evsV es)))) := k5.get hout (by
        simp only [List.mem_cons, not_or]
        refine ⟨?_, ?_, fun hm => ?_⟩
        · have := hb0.L p hpL; omega
        · have := hb0.i; omega
        · have := hb0.s _ (hbn _ hm); omega)
      have oo := obj_of ho1
      have lo := lt_of_get ho1
      refine go 200 (fun _ => false) mixed ?_
      simp (disch := omega) only [↓reduceIte, go_sem, oo, hof, evC, most] <;> repeat with_reducible refine And.intro (by first | omega | decide) ?_
      have e : (es ++ [lastE x.n]).length = es.length + 1 := by simp
      have hK' : Keeps (H.length :: i :: (bufN s ++ L)) H (K1.set H.length (some (.cells (es.length + 1) (flat (evsV es) ++ lastE x.n)))) :=
        (hkeep.mono fun j hj => .inl (List.mem_cons_of_mem _ hj)).trans ((k5.mono fun j hj => by
          refine .inl ?_
          simp only [List.mem_cons, List.mem_append] at hj ⊢
          rcases hj with rfl | hj | hj
          · exact .inr (.inr (.inr hpL))
          · exact .inr (.inl hj)
          · exact .inr (.inr (.inl (hbn _ hj)))).trans (Keeps.setF (by simp)))
      refine rnd_next ⟨K1.set H.length (some (.cells (es.length + 1) (flat (evsV es) ++ lastE x.n))), s', es ++ [lastE x.n]⟩ ⟨?_, hbs1, ?_, ?_, ?_, ?_, ?_⟩ ?_ ?_ rfl
      · show SvAt _ i ic im s' c many (L.drop (es ++ [lastE x.n]).length)
        rw [e]
        refine hs'.fresh (b := H.length) ⟨hb0.i, hb0.ic, hb0.im, fun j hj => ?_, fun q hq => hb0.L q (List.mem_of_mem_drop hq)⟩ (Keeps.setF (F := [H.length]) (by simp)) (by simp)
        rcases hbs1 with rfl | h
        · cases hj
        · exact hb0.s j (h ▸ hj)
      · show (K1.set H.length _)[H.length]? = some (some (.cells (es ++ [lastE x.n]).length (flat (evsV (es ++ [lastE x.n])))))
        rw [e, evsV_snoc, get_set_self lo]
      · exact hK'.mono fun j hj => by
          rcases List.mem_cons.mp hj with rfl | hj
          · exact .inr (Nat.le_refl _)
          · exact .inl hj
      · show ∀ q ∈ L.drop (es ++ [lastE x.n]).length, _
        rw [e]
        intro q hq
        obtain ⟨y, hy, hr⟩ := hlks q (by rw [hdr]; exact List.mem_cons_of_mem _ hq)
        have hnd := hsv.nodup
        rw [hdr, List.nodup_cons] at hnd
        have hqp : q ≠ p := fun e => hnd.1 (e ▸ hq)
        have hqH := hb0.L q (List.mem_of_mem_drop hq)
        refine ⟨y, ?_, hr⟩
        show (K1.set H.length _)[q]? = _
        rw [get_set_ne (by omega)]
        exact k5.get hy (by
          simp only [List.mem_cons, not_or]
          exact ⟨hqp, hsv.lk_i hy, fun hm => hsv.lk_b hy q hm rfl⟩)
      · show (es ++ [lastE x.n]).length ≤ L.length; omega
      · intro e' he'
        rcases List.mem_append.mp he' with h | h
        · exact hevs e' h
        · simp only [List.mem_singleton] at h; exact ⟨x.n, h⟩
      · show L.length - (es ++ [lastE x.n]).length < L.length - es.length; omega
      · show _ = slots 39 [_, _, _, _, _, _, _, .buf H.length (es ++ [lastE x.n]).length 0 (es ++ [lastE x.n]).length 8 true, _, _, _, _, _, _, _, _, .int .i64 (es ++ [lastE x.n]).length]
        rw [e]; rfl
    · simp (disch := omega) only [↓reduceIte, go_sem, hlt] <;> repeat with_reducible refine And.intro (by first | omega | decide) ?_
      refine go 200 (fun _ => false) mixed ?_
      simp (disch := omega) only [↓reduceIte, go_sem] <;> repeat with_reducible refine And.intro (by first | omega | decide) ?_
      have hel : es.length = L.length := by omega
      have hnil : L.drop es.length = [] := List.drop_eq_nil_of_le (by omega)
      rw [hnil] at hsv
      refine ⟨trivial, _, _, Ghost.freeze (t := 6) (xs := evsV es) rfl hout ?_ evsV_len ?_, ?_⟩
      · unfold subCells; rw [List.drop_zero]; exact (List.take_of_length_le (by omega)).symm
      · intro x hx; obtain ⟨e, he, rfl⟩ := List.mem_map.mp hx; exact h8 e he
      · refine ⟨.inr ⟨es, rfl, hel, hevs⟩, s1, ?_, hsb, ?_⟩
        · refine hsv.fresh (b := H.length) ⟨hb0.i, hb0.ic, hb0.im, fun j hj => ?_, by intro p hp; cases hp⟩ (Keeps.setF (F := [H.length]) (by simp)) (by simp)
          rcases hsb with rfl | h
          · cases hj
          · exact hb0.s j (h ▸ hj)
        · exact ((hkeep.mono (G := H.length :: i :: (bufN s ++ L)) fun j hj => .inl (List.mem_cons_of_mem _ hj)).trans (Keeps.setF (by simp))).mono fun j hj => by
            rcases List.mem_cons.mp hj with rfl | hj
            · exact .inr (Nat.le_refl _)
            · exact .inl hj
end Go.Proofs.GoC
