/-
  What the functions compute: messages that may be, made of any. No claim by itself.
-/
import Derived.Test.YtmgemdgbffmnjaaGoWireH
namespace Go.Proofs.GoC
open Go Go.Proofs.SL
set_option linter.unusedSimpArgs false
set_option linter.unusedVariables false
set_option maxRecDepth 10000
set_option maxHeartbeats 4000000

def goodRcs (l : List Rc) : List Rc := (l.take 3).map goodRc
theorem goodRc_ab {r : Rc} (h : r.ab.length = 16) : (goodRc r).ab.length = 16 := by
  unfold goodRc
  split
  · show (r.ab.take 4 ++ z12).length = 16
    rw [List.length_append, List.length_take, h]; rfl
  · split
    · show (if _ then pre12 ++ r.ab.take 4 else r.ab).length = 16
      split
      · rw [List.length_append, List.length_take, h]; rfl
      · exact h
    · split <;> rfl
theorem take_map {α β : Type} {f : α → β} {l : List α} {k : Nat} {d : α} (h : k < l.length) : (l.take (k + 1)).map f = (l.take k).map f ++ [f (l.getD k d)] := by
  rw [take_snoc (d := d) h, List.map_append]; rfl
theorem bdd_rc {n : Nat} (X : Rc) : Bdd n (rcV X) := by
  simp [rcV, rcC, u8s]
  rintro a (⟨n, _, rfl⟩ | rfl | rfl) <;> simp
theorem bdd_rcs {n : Nat} (l : List Rc) : Bdd n (.sl 23 (rcsV l)) := by
  rw [bdd_sl]; intro p hp
  obtain ⟨r, _, rfl⟩ := List.mem_map.mp hp
  exact bdd_rc r
theorem c_abatisref09_GoodRecords (l : List Rc) (hl : l.length < 1100000) (hr : ∀ r ∈ l, RcOk r) : PCall Try.prog 25 [.sl 23 (rcsV l)] (.sl 23 (rcsV (goodRcs l))) := by
  intro H
  refine scall_of (ord := fun _ => []) (rs := [2]) Try.func25 rfl (by kernel_rfl) (by kernel_rfl) (by kernel_rfl) Try.ntmps25 fun hb hargs => go 10 (fun _ => false) mixed ?_
  simp (disch := omega) only [↓reduceIte, go_sem] <;> repeat with_reducible refine And.intro (by first | omega | decide) ?_
  refine Runs.ghost (by rfl) (Ghost.grow (t := 3) (m := 23) rfl) ?_
  refine go 200 (fun _ => false) mixed ?_
  simp (disch := omega) only [↓reduceIte, go_sem] <;> repeat with_reducible refine And.intro (by first | omega | decide) ?_
  refine runs_loopA (fun k : Nat => k ≤ l.length ∧ k ≤ 3) (fun k => 3 - k) [true, false, false, true, true]
    (fun k => slots 24 [.sl 23 (rcsV l), .any, .any, .buf H.length k 0 ((l.take k).map goodRc).length 23 true, .int .i64 (k : Nat)]) (fun k => H ++ [some (.cells k (flat (rcsV ((l.take k).map goodRc))))]) (by rfl) 0 ⟨Nat.zero_le _, Nat.zero_le _⟩ rfl rfl ?_
  rintro k ⟨hk, hk3⟩
  change k ≤ l.length at hk
  change k ≤ 3 at hk3
  have hab : ∀ r ∈ (l.take k).map goodRc, r.ab.length = 16 := fun r h => by
    obtain ⟨x, hx, rfl⟩ := List.mem_map.mp h
    exact goodRc_ab (hr x (List.mem_of_mem_take hx)).2.2.2.2.1
  have hfl := flat_rcs _ hab
  have hml : ((l.take k).map goodRc).length = k := by rw [List.length_map, List.length_take]; omega
  refine go 200 (fun _ => false) mixed ?_
  by_cases hlt : k < l.length
  · by_cases h3 : k < 3
    · obtain ⟨eg, hm⟩ := getDm (d := rc0) hlt
      have hget := rcsV_getD hlt
      have key := c_abatisref09_GoodRecord _ (hr _ hm)
      have hs := take_map (f := goodRc) (d := rc0) hlt
      have hlr := rcC_len (hr _ hm).2.2.2.2.1
      have hlg := rcC_len (goodRc_ab (hr _ hm).2.2.2.2.1)
      have hog : (rcC (goodRc (l.getD k rc0))).all PV.one = true := by simp [rcC, u8s_one, PV.one]
      have htg : List.take 23 (rcC (goodRc (l.getD k rc0))) = rcC (goodRc (l.getD k rc0)) := List.take_of_length_le (by omega)
      generalize l.getD k rc0 = r at *
      generalize (l.take k).map goodRc = out at *
      simp (disch := omega) only [↓reduceIte, go_sem, hlt, h3, hget, rcV, hlr] <;> repeat with_reducible refine And.intro (by first | omega | decide) ?_
      refine key.on (go 200 (fun _ => false) mixed ?_)
      simp (disch := omega) only [↓reduceIte, go_sem, rcV, hlg, hog, htg, hfl, hml, most] <;> repeat with_reducible refine And.intro (by first | omega | decide) ?_
      refine rnd_next (k + 1) ⟨hlt, h3⟩ (by show 3 - (k + 1) < 3 - k; omega) ?_ ?_
      · rw [hs]
        simp only [keepB, slots, List.length_append, List.length_cons, List.length_nil, hml]
      · rw [hs, flat_snocR]
    · have e : (l.take k).map goodRc = goodRcs l := by rw [show k = 3 by omega]; rfl
      rw [e] at hab hfl hml ⊢
      simp (disch := omega) only [↓reduceIte, go_sem, hlt, h3] <;> repeat with_reducible refine And.intro (by first | omega | decide) ?_
      refine go 200 (fun _ => false) mixed ?_
      simp (disch := omega) only [↓reduceIte, go_sem] <;> repeat with_reducible refine And.intro (by first | omega | decide) ?_
      exact fin_frz 2 (rcsV (goodRcs l)) (.inr rfl) hb rfl (Nat.le_refl _) (by rw [get_tail0]; rfl) (sub_all _ _ hfl) rcsV_len (fun x hx => by obtain ⟨r, hr, rfl⟩ := List.mem_map.mp hx; exact rcC_len (hab r hr)) (fun u hu => by
        simp only [List.mem_singleton] at hu; subst hu; exact bdd_rcs _) ⟨rfl, rfl⟩
  · have e : (l.take k).map goodRc = goodRcs l := by
      unfold goodRcs; rw [List.take_of_length_le (by omega), List.take_of_length_le (by omega)]
    rw [e] at hab hfl hml ⊢
    simp (disch := omega) only [↓reduceIte, go_sem, hlt] <;> repeat with_reducible refine And.intro (by first | omega | decide) ?_
    refine go 200 (fun _ => false) mixed ?_
    simp (disch := omega) only [↓reduceIte, go_sem] <;> repeat with_reducible refine And.intro (by first | omega | decide) ?_
    exact fin_frz 2 (rcsV (goodRcs l)) (.inr rfl) hb rfl (Nat.le_refl _) (by rw [get_tail0]; rfl) (sub_all _ _ hfl) rcsV_len (fun x hx => by obtain ⟨r, hr, rfl⟩ := List.mem_map.mp hx; exact rcC_len (hab r hr)) (fun u hu => by
      simp only [List.mem_singleton] at hu; subst hu; exact bdd_rcs _) ⟨rfl, rfl⟩

def goodQu (q : Qu) : Qu := ⟨goodN q.name, q.ty % 65536, q.cl % 65536⟩
/-- A message that may be, made of any. -/
def goodMs (m : Ms) : Ms := ⟨m.id % 65536, m.fl % 65536, (m.qs.take 3).map goodQu, goodRcs m.an, goodRcs m.au, goodRcs m.mo⟩
structure GQ where
  K : Heap
  k : Nat
def oCs (H : Heap) (m : Ms) (qs : List Qu) (v : Nat) : List PV := [.int .i64 (m.id % 65536), .int .i64 (m.fl % 65536), .buf (H.length + 19) v 0 qs.length 3 true, .sl 23 (rcsV (goodRcs m.an)), .sl 23 (rcsV (goodRcs m.au)), .sl 23 (rcsV (goodRcs m.mo))]
structure GI (H : Heap) (m : Ms) (K : Heap) (qs : List Qu) (v : Nat) : Prop where
  len : H.length + 20 ≤ K.length
  pre : ∀ j, j < H.length → K[j]? = H[j]?
  box : K[H.length]? = some (some (.cells 0 (msC m)))
  res : K[H.length + 1]? = some (some (.cells 0 [.int .i64 0, .int .i64 0, .nils, .nils, .nils, .nils]))
  out : K[H.length + 18]? = some (some (.cells 1 (oCs H m qs v)))
  oq : K[H.length + 19]? = some (some (.cells v (flat (qusV qs))))
theorem GI.freeze {H K : Heap} {m : Ms} {v : Nat} (h : GI H m K (goodMs m).qs v) : ∃ L : Heap, (∀ H0 σ, Ghost H0 σ K σ (H ++ L)) ∧ L[1]? = some (some (.cells 0 [.int .i64 0, .int .i64 0, .nils, .nils, .nils, .nils])) ∧ L[18]? = some (some (.cells 1 (msC (goodMs m)))) ∧ 20 ≤ L.length := by
  have hl := h.len
  have g1 := fun H0 σ => Ghost.freezeCell (H0 := H0) (σ := σ) (H := K) (i := H.length + 18) (j := H.length + 19) 2 (qusV (goodMs m).qs) h.out rfl h.oq (by omega) (sub_all _ _ (flat_qus _)) qusV_len (fun x hx => by obtain ⟨q, _, rfl⟩ := List.mem_map.mp hx; rfl)
  generalize hK1 : (K.set (H.length + 19) none).set (H.length + 18) _ = K1 at g1
  have k1 : ∀ j, j ≠ H.length + 18 → j ≠ H.length + 19 → K1[j]? = K[j]? := fun j h1 h2 => by rw [← hK1, get_set_ne (Ne.symm h1), get_set_ne (Ne.symm h2)]
  have m1 : K1[H.length + 18]? = some (some (.cells 1 (msC (goodMs m)))) := by rw [← hK1, get_set_self (by simp; omega)]; rfl
  have l1 : K1.length = K.length := by rw [← hK1]; simp
  obtain ⟨L, hL⟩ : ∃ L, K1 = H ++ L := split_of ⟨by omega, fun j hj _ => (k1 j (by omega) (by omega)).trans (h.pre j hj)⟩
  refine ⟨L, fun H0 σ => hL ▸ g1 H0 σ, ?_, ?_, ?_⟩
  · have := (k1 (H.length + 1) (by omega) (by omega)).trans h.res
    rw [hL, get_tail] at this; exact this
  · rw [hL, get_tail] at m1; exact m1
  · rw [hL, List.length_append] at l1; omega
def ord11 : Nat → List Nat
  | 1 => [2017]
  | 6 => [1013]
  | _ => []
theorem ord11_1 : ord11 1 = [2017] := rfl
theorem ord11_6 : ord11 6 = [1013] := rfl
theorem c_abatisref09_Good (m : Ms) (hm : MsOk m) : PCall Try.prog 11 [msV m] (msV (goodMs m)) := by
  intro H
  obtain ⟨hid, hfl, hq, h1, h2, h3, l0, l1, l2, l3⟩ := hm
  have g1 := c_abatisref09_GoodRecords m.an l1 h1
  have g2 := c_abatisref09_GoodRecords m.au l2 h2
  have g3 := c_abatisref09_GoodRecords m.mo l3 h3
  have a1 := and_word hid
  have a2 := and_word hfl
  refine scall_ofc (ord := ord11) (tdOf_ok _) (rs := [.cell 2 25]) Try.func11 rfl (by kernel_rfl) (by kernel_rfl) (by kernel_rfl) Try.ntmps11 fun hb hargs => go 6 (fun _ => false) mixed ?_
  simp (disch := omega) only [↓reduceIte, go_sem, msV, msC] <;> repeat with_reducible refine And.intro (by first | omega | decide) ?_
  refine go 16 (fun _ => false) mixed ?_
  simp (disch := omega) only [↓reduceIte, go_sem, msC, ord11_1, a1, a2] <;> repeat with_reducible refine And.intro (by first | omega | decide) ?_
  refine go 8 (fun _ => false) mixed ?_
  simp (disch := omega) only [↓reduceIte, go_sem, a1, a2] <;> repeat with_reducible refine And.intro (by first | omega | decide) ?_
  refine ⟨_, fun L => g1 _, go 200 (fun _ => false) mixed ?_⟩
  simp (disch := omega) only [↓reduceIte, go_sem] <;> repeat with_reducible refine And.intro (by first | omega | decide) ?_
  refine ⟨_, fun L => g2 _, go 200 (fun _ => false) mixed ?_⟩
  simp (disch := omega) only [↓reduceIte, go_sem] <;> repeat with_reducible refine And.intro (by first | omega | decide) ?_
  have e18 : H.length + 2 + 16 = H.length + 18 := rfl
  refine ⟨_, fun L => g3 _, go 8 (fun _ => false) mixed ?_⟩
  simp (disch := omega) only [↓reduceIte, go_sem, e18] <;> repeat with_reducible refine And.intro (by first | omega | decide) ?_
  refine Runs.ghost (by rfl) (Ghost.keep [false, true, true, true]) ?_
  refine Runs.ghost (by rfl) (Ghost.growCell (i := H.length + 18) (ver := 1) 2 3 (by rw [get_tail]; rfl) rfl) ?_
  have hI0 : GI H m (H ++ [some (.cells 0 (msC m)), some (.cells 0 [.int .i64 0, .int .i64 0, .nils, .nils, .nils, .nils]), none, none, none, none, none, none, none, none, none, none, none, none, none, none, none, none, some (.cells 1 (oCs H m [] 0)), some (.cells 0 [])]) [] 0 :=
    ⟨by simp, fun j hj => get_app_lt hj, by rw [get_tail0]; rfl, by rw [get_tail]; rfl, by rw [get_tail]; rfl, by rw [get_tail]; rfl⟩
  have hlen0 : (H ++ [some (.cells 0 (msC m)), some (.cells 0 [.int .i64 0, .int .i64 0, .nils, .nils, .nils, .nils]), none, none, none, none, none, none, none, none, none, none, none, none, none, none, none, none,
    some (.cells 1 [.int .i64 (m.id % 65536), .int .i64 (m.fl % 65536), .nils, .sl 23 (rcsV (goodRcs m.an)), .sl 23 (rcsV (goodRcs m.au)), .sl 23 (rcsV (goodRcs m.mo))])] : Heap).length = H.length + 19 := by simp
  refine go 200 (fun _ => false) mixed ?_
  simp (disch := omega) only [↓reduceIte, go_sem] <;> repeat with_reducible refine And.intro (by first | omega | decide) ?_
  refine runs_loopA (fun x : GQ => x.k ≤ m.qs.length ∧ x.k ≤ 3 ∧ GI H m x.K ((m.qs.take x.k).map goodQu) x.k) (fun x => 3 - x.k) [false, true, true, true, true]
    (fun x => slots 54 [.any, .ptr H.length 0 0, .ptr (H.length + 1) 0 0, .ptr (H.length + 18) 1 0, .int .i64 (x.k : Nat)]) (fun x => x.K) (by rfl) ⟨_, 0⟩ ⟨Nat.zero_le _, Nat.zero_le _, hI0⟩ rfl rfl ?_
  clear hI0 hlen0
  rintro ⟨K, k⟩ ⟨hk, hk3, hI⟩
  change k ≤ m.qs.length at hk
  change k ≤ 3 at hk3
  change GI H m K ((m.qs.take k).map goodQu) k at hI
  obtain ⟨hKl, hpre, hbox, hres, hout, hoq⟩ := hI
  have ob := obj_of hbox
  have hql : ((m.qs.take k).map goodQu).length = k := by rw [List.length_map, List.length_take]; omega
  have hfq := flat_qus ((m.qs.take k).map goodQu)
  by_cases hlt : k < m.qs.length
  · by_cases hk33 : k < 3
    · obtain ⟨eg, hmq⟩ := getDm (d := qu0) hlt
      have hget := qusV_getD hlt
      have hs := take_map (f := goodQu) (d := qu0) hlt
      obtain ⟨q1, q2, q3⟩ := hq _ hmq
      generalize m.qs.getD k qu0 = q at *
      have gq := c_abatisref08_Good q.name q3
      have b1 := and_word q1
      have b2 := and_word q2
      generalize (m.qs.take k).map goodQu = qs at *
      have oO := obj_of hout
      have oQ := obj_of hoq
      refine go 20 (fun _ => false) mixed ?_
      simp (disch := omega) only [↓reduceIte, go_sem, hlt, hk33, ob, msC] <;> repeat with_reducible refine And.intro (by first | omega | decide) ?_
      refine go 20 (fun _ => false) mixed ?_
      simp (disch := omega) only [↓reduceIte, go_sem, hlt, hk33, ob, msC, hget, quV, quC] <;> repeat with_reducible refine And.intro (by first | omega | decide) ?_
      refine go 5 (fun _ => false) mixed ?_
      simp (disch := omega) only [↓reduceIte, go_sem, ord11_6] <;> repeat with_reducible refine And.intro (by first | omega | decide) ?_
      refine go 6 (fun _ => false) mixed ?_
      simp (disch := omega) only [↓reduceIte, go_sem, ord11_6, oO, oCs] <;> repeat with_reducible refine And.intro (by first | omega | decide) ?_
      refine go 200 (fun _ => false) mixed ?_
      simp (disch := omega) only [↓reduceIte, go_sem, oO, oCs] <;> repeat with_reducible refine And.intro (by first | omega | decide) ?_
      refine gq.onq (go 8 (fun _ => false) mixed ?_)
      simp (disch := omega) only [↓reduceIte, go_sem, b1, b2] <;> repeat with_reducible refine And.intro (by first | omega | decide) ?_
      refine go 6 (fun _ => false) mixed ?_
      simp (disch := omega) only [↓reduceIte, go_sem, b1, b2] <;> repeat with_reducible refine And.intro (by first | omega | decide) ?_
      refine go 6 (fun _ => false) mixed ?_
      simp (disch := omega) only [↓reduceIte, go_sem, b1, b2, oO, oQ, oCs, hfq, hql, most] <;> repeat with_reducible refine And.intro (by first | omega | decide) ?_
      refine go 6 (fun _ => false) mixed ?_
      simp (disch := omega) only [↓reduceIte, go_sem, b1, b2, oO, oQ, oCs, hfq, hql, most] <;> repeat with_reducible refine And.intro (by first | omega | decide) ?_
      refine go 6 (fun _ => false) mixed ?_
      simp (disch := omega) only [↓reduceIte, go_sem, b1, b2, oO, oQ, oCs, hfq, hql, most] <;> repeat with_reducible refine And.intro (by first | omega | decide) ?_
      refine go 200 (fun _ => false) mixed ?_
      simp (disch := omega) only [↓reduceIte, go_sem, b1, b2, oO, oQ, oCs, hfq, hql, most] <;> repeat with_reducible refine And.intro (by first | omega | decide) ?_
      refine rnd_next ⟨_, k + 1⟩ ⟨hlt, hk33, ⟨?_, ?_, ?_, ?_, ?_, ?_⟩⟩ (by show 3 - (k + 1) < 3 - k; omega) rfl rfl
      · show _ ≤ ((List.set _ _ _).set _ _ ++ _).length; simp; omega
      · exact fun j hj => by rw [get_app_lt (by simp; omega), get_set_ne (by omega), get_set_ne (by omega)]; exact hpre j hj
      · show ((List.set _ _ _).set _ _ ++ _)[_]? = _; rw [get_app_lt (by simp; omega), get_set_ne (by omega), get_set_ne (by omega)]; exact hbox
      · show ((List.set _ _ _).set _ _ ++ _)[_]? = _; rw [get_app_lt (by simp; omega), get_set_ne (by omega), get_set_ne (by omega)]; exact hres
      · show ((List.set _ _ _).set _ _ ++ _)[_]? = some (some (OB.cells 1 (oCs H m _ (k + 1)))); rw [hs, get_app_lt (by simp; omega), get_set_self (by simp; omega)]; simp [oCs, hql]
      · show ((List.set _ _ _).set _ _ ++ _)[_]? = some (some (OB.cells (k + 1) (flat (qusV ((m.qs.take (k + 1)).map goodQu))))); rw [hs, get_app_lt (by simp; omega), get_set_ne (by omega), get_set_self (by omega), flat_snocQ]; rfl
    · have hqe : (m.qs.take k).map goodQu = (goodMs m).qs := by rw [show k = 3 by omega]; rfl
      rw [hqe] at hout hoq
      obtain ⟨L, hg, h1r, h18, hLl⟩ := GI.freeze (m := m) ⟨hKl, hpre, hbox, hres, hout, hoq⟩ 
      have o1r := obj_of h1r
      have o18 := obj_of h18
      refine go 200 (fun _ => false) mixed ?_
      simp (disch := omega) only [↓reduceIte, go_sem, hlt, hk33, ob, msC] <;> repeat with_reducible refine And.intro (by first | omega | decide) ?_
      refine Runs.ghost (by rfl) (hg _ _) ?_
      refine go 200 (fun _ => false) mixed ?_
      simp (disch := omega) only [↓reduceIte, go_sem, o1r, o18, msC] <;> repeat with_reducible refine And.intro (by first | omega | decide) ?_
      exact fin_c (r := msV (goodMs m)) (.inr rfl) hb (by (simp (disch := omega) only [↓reduceIte, go_sem, o1r, o18, msC] <;> repeat with_reducible refine And.intro (by first | omega | decide) ?_) <;> rfl) bdd_ms
  · have hqe : (m.qs.take k).map goodQu = (goodMs m).qs := by
      show _ = (m.qs.take 3).map goodQu
      rw [List.take_of_length_le (by omega), List.take_of_length_le (by omega)]
    rw [hqe] at hout hoq
    obtain ⟨L, hg, h1r, h18, hLl⟩ := GI.freeze (m := m) ⟨hKl, hpre, hbox, hres, hout, hoq⟩ 
    have o1r := obj_of h1r
    have o18 := obj_of h18
    refine go 200 (fun _ => false) mixed ?_
    simp (disch := omega) only [↓reduceIte, go_sem, hlt, ob, msC] <;> repeat with_reducible refine And.intro (by first | omega | decide) ?_
    refine Runs.ghost (by rfl) (hg _ _) ?_
    refine go 200 (fun _ => false) mixed ?_
    simp (disch := omega) only [↓reduceIte, go_sem, o1r, o18, msC] <;> repeat with_reducible refine And.intro (by first | omega | decide) ?_
    exact fin_c (r := msV (goodMs m)) (.inr rfl) hb (by (simp (disch := omega) only [↓reduceIte, go_sem, o1r, o18, msC] <;> repeat with_reducible refine And.intro (by first | omega | decide) ?_) <;> rfl) bdd_ms
end Go.Proofs.GoC
