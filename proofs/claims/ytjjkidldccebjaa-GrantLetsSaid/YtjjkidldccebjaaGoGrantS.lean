/-
  What the functions compute: a deed, of the book and of the document's. No claim by itself.
-/
import Derived.Test.YtjjkidldccebjaaGoGrantR
namespace Go.Proofs.GoC
open Go Go.Proofs.SL
set_option linter.unusedSimpArgs false
set_option linter.unusedVariables false
set_option maxRecDepth 10000
set_option maxHeartbeats 4000000

theorem until_perm {es gs : Grants} (h : Same2 es gs) (k : GKey) : untilF k es = untilF k gs := by
  have e : findA k es = findA k gs := by
    cases h1 : findA k gs with
    | some x => exact (find_mem h.nodup).mpr (h.perm.mem_iff.mpr ((find_mem h.nodup2).mp h1))
    | none => exact find_none.mpr fun h2 => find_none.mp h1 ((h.perm.map _).mem_iff.mp h2)
  unfold untilF
  rw [e]
theorem idx_find {k : GKey} : ∀ {gs : Grants} {i : Nat}, (idxA k gs i = -1 ∧ findA k gs = none) ∨ ∃ j, j < gs.length ∧ idxA k gs i = ((i + j : Nat) : Int) ∧ findA k gs = some (gs.getD j (key0, 0)).2
  | [], _ => .inl ⟨rfl, rfl⟩
  | e :: gs, i => by
    by_cases he : e.1 = k
    · exact .inr ⟨0, by simp, by rw [idxA, if_pos he]; rfl, by rw [findA, if_pos he.symm]; rfl⟩
    · rcases idx_find (k := k) (gs := gs) (i := i + 1) with ⟨h1, h2⟩ | ⟨j, hj, h1, h2⟩
      · exact .inl ⟨by rw [idxA, if_neg he]; exact h1, by rw [findA, if_neg (fun h => he h.symm)]; exact h2⟩
      · exact .inr ⟨j + 1, by simp; omega, by rw [idxA, if_neg he, h1]; congr 1; omega, by rw [findA, if_neg (fun h => he h.symm), h2]; rfl⟩

theorem c_abatisref18_Until (room : Int) (gs : Grants) (hg : KeysOk gs) (hl : gs.length < 1000000) (k : GKey) (hk : KeyOk k) :
    PCall Try.prog 36 [rbV room gs, .agg (keyC k)] (.tup [.int .i64 (untilF k gs).1, .bool (untilF k gs).2]) := by
  intro H
  have kl := keyC_len hk
  have kt := keyC_take hk
  have hfind := c_abatisref18_Find room gs hg hl k hk
  refine scall_of (ord := fun _ => []) (rs := [4, 5]) Try.func36 rfl (by kernel_rfl) (by kernel_rfl) (by kernel_rfl) Try.ntmps36 fun hb hargs => go 200 (fun _ => false) mixed ?_
  unfold rbV at hfind ⊢
  simp (disch := omega) only [↓reduceIte, go_sem, kl, kt, keyC_one] <;> repeat with_reducible refine And.intro (by first | omega | decide) ?_
  refine hfind.on (go 200 (fun _ => false) mixed ?_)
  unfold untilF
  rcases idx_find (k := k) (gs := gs) (i := 0) with ⟨h1, h2⟩ | ⟨j, hj, h1, h2⟩
  · rw [h1, h2]
    simp (disch := omega) only [↓reduceIte, go_sem] <;> repeat with_reducible refine And.intro (by first | omega | decide) ?_
    exact fin_drop (.inr rfl) hb rfl (by simp)
  · rw [h1, h2, Nat.zero_add]
    have g := gsV_get hj
    have hm : KeyOk (gs.getD j (key0, 0)).1 := hg _ (by rw [List.getD_eq_getElem?_getD, List.getElem?_eq_getElem hj]; exact List.getElem_mem hj)
    generalize gs.getD j (key0, 0) = e at *
    have l1 := gC_len hm
    have u1 := gC_until hm
    simp (disch := omega) only [↓reduceIte, go_sem, hj, g, l1, u1] <;> repeat with_reducible refine And.intro (by first | omega | decide) ?_
    exact fin_drop (.inr rfl) hb rfl (by simp)

theorem putR_gone {room : Int} {gs : Grants} {k : GKey} {u now : Int} (hr : 1 ≤ room) (h : KeysOk gs) : KeyOk (putR room gs k u now).2.1 := by
  unfold putR
  split
  · exact key0_ok
  · unfold midR
    split
    · exact key0_ok
    · split
      · split
        · rename_i h1 _
          have hb := bestN_lt (gs := gs) (n := gs.length) (by omega) (Nat.le_refl _)
          exact h _ (by rw [List.getD_eq_getElem?_getD, List.getElem?_eq_getElem hb]; exact List.getElem_mem hb)
        · exact key0_ok
      · exact key0_ok

theorem roomF_1 {n : Int} : 1 ≤ roomF n := by unfold roomF; simp only; split <;> split <;> omega
theorem roomF_64 {n : Int} : roomF n ≤ 64 := by unfold roomF; simp only; split <;> split <;> omega

/-- A deed. -/
structure Deed where
  kind : Int
  for_ : Int
  wait : Int
  k : GKey
def deedC (d : Deed) : List PV := [.int .i64 d.kind, .int .i64 d.for_, .int .i64 d.wait] ++ keyC d.k
structure DeedOk (d : Deed) : Prop where
  f1 : -9223372036854775808 ≤ d.for_
  f2 : d.for_ ≤ 9223372036854775807
  w1 : -9223372036854775808 ≤ d.wait
  w2 : d.wait ≤ 9223372036854775807
  k : KeyOk d.k
theorem deedC_len {d : Deed} (h : DeedOk d) : (deedC d).length = 27 := by simp [deedC, keyC_len h.k]
theorem deedC_one {d : Deed} : (deedC d).all PV.one = true := by unfold deedC; rw [List.all_append, keyC_one]; rfl
theorem deedC_take {d : Deed} (h : DeedOk d) : List.take 27 (deedC d) = deedC d := List.take_of_length_le (by rw [deedC_len h]; omega)
theorem deedC_0 {d : Deed} : (deedC d).getD 0 .any = .int .i64 d.kind := rfl
theorem deedC_1 {d : Deed} : (deedC d).getD 1 .any = .int .i64 d.for_ := rfl
theorem deedC_2 {d : Deed} : (deedC d).getD 2 .any = .int .i64 d.wait := rfl
theorem deedC_3 {d : Deed} : List.drop 3 (deedC d) = keyC d.k := rfl

theorem BkAt.setApp {H L : Heap} {i j n : Nat} {x : Option OB} {room : Int} {es : Grants} (h : BkAt H i j room es) (hi : n ≠ i) (hj : n ≠ j) : BkAt (H.set n x ++ L) i j room es :=
  BkAt.app ⟨by rw [get_set_ne hi]; exact h.cell, by rw [get_set_ne hj]; exact h.map, h.ok⟩
theorem BkAt.setN {H : Heap} {i j n : Nat} {x : Option OB} {room : Int} {es : Grants} (h : BkAt H i j room es) (hi : n ≠ i) (hj : n ≠ j) : BkAt (H.set n x) i j room es :=
  ⟨by rw [get_set_ne hi]; exact h.cell, by rw [get_set_ne hj]; exact h.map, h.ok⟩
theorem keep_setN {H K : Heap} {F : List Nat} {n : Nat} {x : Option OB} (k : Keeps F H K) (h : H.length ≤ n) : Keeps F H (K.set n x) :=
  ((k.mono (G := n :: F) fun j hj => .inl (List.mem_cons_of_mem _ hj)).trans (Keeps.setF (by simp))).mono fun j hj => by
    rcases List.mem_cons.mp hj with rfl | hj
    · exact .inr h
    · exact .inl hj
theorem keep_setApp {H K L : Heap} {F : List Nat} {n : Nat} {x : Option OB} (k : Keeps F H K) (h : H.length ≤ n) : Keeps F H (K.set n x ++ L) := (keep_setN k h).trans Keeps.app

def ordDo : Nat → List Nat
  | 7 => [0, 1, 2, 3, 4, 5, 6, 7, 8, 9, 10]
  | 10 => [1, 2, 3, 5, 14, 10, 0, 4, 6, 7, 8, 9, 10, 11, 12, 13, 4, 0, 6, 7, 8, 9, 10, 11, 12, 13]
  | 16 => [1, 2, 3, 4, 6, 10, 5, 0, 5, 7, 8, 9, 5, 0, 7, 8, 9]
  | _ => []
theorem ordDo_7 : ordDo 7 = [0, 1, 2, 3, 4, 5, 6, 7, 8, 9, 10] := rfl
theorem ordDo_10 : ordDo 10 = [1, 2, 3, 5, 14, 10, 0, 4, 6, 7, 8, 9, 10, 11, 12, 13, 4, 0, 6, 7, 8, 9, 10, 11, 12, 13] := rfl
theorem ordDo_16 : ordDo 16 = [1, 2, 3, 4, 6, 10, 5, 0, 5, 7, 8, 9, 5, 0, 7, 8, 9] := rfl

theorem c_abatislaw18_does {H : Heap} {i j : Nat} {room : Int} {es gs : Grants} (h : BkAt H i j room es) (hs : Same3 room es gs) (r1 : 1 ≤ room) (r2 : room ≤ 64) (d : Deed) (hd : DeedOk d) (now : Int) (n1 : 0 ≤ now) (n2 : now ≤ 100000) :
    SCall Try.prog 21 [.ptr i 0 0, rbV room gs, .agg (deedC d), .int .i64 now] H fun r H' => ∃ es' gs', r = .tup [rbV room gs', .bool true] ∧ BkAt H' i j room es' ∧ Same3 room es' gs' ∧ Keeps [j] H H' := by
  have hi := lt_of_get h.cell
  have hj := lt_of_get h.map
  have hne := h.ne
  have hlen := hs.two.len
  have hle := hs.len
  have kl := keyC_len hd.k
  have kt := keyC_take hd.k
  have kg := keyC_tag hd.k
  have dl := deedC_len hd
  have dt := deedC_take hd
  have k0 := keyC_len key0_ok
  have k0d := key0_drop key0_ok
  refine scall_ofd (ord := ordDo) (tdOf_ok _) (rs := [.cell 8 44, .tmp 9]) Try.func21 rfl (by kernel_rfl) (by kernel_rfl) (by kernel_rfl) Try.ntmps21 fun hb hargs => go 200 (fun _ => false) mixed ?_
  unfold rbV
  by_cases hk0 : d.kind = 0
  · simp (disch := omega) only [↓reduceIte, go_sem, dl, dt, deedC_one, deedC_0, deedC_1, deedC_3, kl, kt, keyC_one, hk0] <;> repeat with_reducible refine And.intro (by first | omega | decide) ?_
    refine (c_abatisref01_Around d.for_ hd.f1 hd.f2 30 (by decide)).on (go 4 (fun _ => false) mixed ?_)
    have ha := aroundF_lt d.for_ (by decide : 0 < 30)
    have hu : ∃ u : Int, u = now + (aroundF d.for_ 30 : Nat) - 2 := ⟨_, rfl⟩
    obtain ⟨u, hu⟩ := hu
    have hw1 : IntKind.i64.wrap (now + (aroundF d.for_ 30 : Nat)) = now + (aroundF d.for_ 30 : Nat) := w64 (by omega) (by omega)
    have hw2 : IntKind.i64.wrap (now + (aroundF d.for_ 30 : Nat) - 2) = u := by rw [hu]; exact w64 (by omega) (by omega)
    simp (disch := omega) only [↓reduceIte, go_sem, hw1, hw2] <;> repeat with_reducible refine And.intro (by first | omega | decide) ?_
    have hput := c_abatisref18_Put room r1 gs hs.two.ok2 (by omega) d.k hd.k u now
    have hbk := fun L => c_grant_Book_Put (H := H ++ L) h.app hs r1 r2 d.k hd.k u now
    unfold rbV at hput
    have hg := putR_gone (k := d.k) (u := u) (now := now) r1 hs.two.ok2
    generalize putR room gs d.k u now = pr at *
    obtain ⟨gs1, g, b⟩ := pr
    dsimp only at hg hput hbk
    have gl := keyC_len hg
    have gt := keyC_take hg
    have gd := key0_drop hg
    have gg := keyC_tag hg
    refine go 200 (fun _ => false) mixed ?_
    simp (disch := omega) only [↓reduceIte, go_sem, dl, deedC_3, kl, kt] <;> repeat with_reducible refine And.intro (by first | omega | decide) ?_
    refine hput.on (go 200 (fun _ => false) mixed ?_)
    simp (disch := omega) only [↓reduceIte, go_sem, kl, kt, gl, keyC_one] <;> repeat with_reducible refine And.intro (by first | omega | decide) ?_
    refine (hbk _).mono fun r H2 ⟨es', e1, hB2, hs2, _, k2⟩ => ?_
    rw [e1]
    have hr2 : H2[H.length + 2]? = some (some (.cells 0 [.int .i64 0, .nils])) := k2.get (by rw [get_tail]; rfl) (by simp; omega)
    have hn2 : H2[H.length + 4]? = some (some (.cells 0 [.int .i64 room, .sl 25 (gsV gs1)])) := k2.get (by rw [get_tail]; rfl) (by simp; omega)
    have hk2 : H2[H.length + 5]? = some (some (.cells 0 (keyC g))) := k2.get (by rw [get_tail]; rfl) (by simp; omega)
    have l2 := lt_of_get hk2
    have kk2 : Keeps [j] H H2 := (Keeps.app.trans k2).mono (by simp)
    have or2 := obj_of hr2
    have on2 := obj_of hn2
    have ok2 := obj_of hk2
    refine go 17 (fun _ => false) mixed ?_
    simp (disch := omega) only [↓reduceIte, go_sem, gl, gt, gd, gg, keyC_one, or2, on2, ok2, ordDo_7] <;> repeat with_reducible refine And.intro (by first | omega | decide) ?_
    refine go 3 (fun _ => false) mixed ?_
    simp (disch := omega) only [↓reduceIte, go_sem, gl, gt, gd, gg, keyC_one, or2, on2, ok2, ordDo_7] <;> repeat with_reducible refine And.intro (by first | omega | decide) ?_
    refine go 200 (fun _ => false) mixed ?_
    simp (disch := omega) only [↓reduceIte, go_sem, gl, gt, gd, gg, keyC_one, or2, on2, ok2, ordDo_7] <;> repeat with_reducible refine And.intro (by first | omega | decide) ?_
    exact EndsD.same (r := .tup [.agg [.int .i64 room, .sl 25 (gsV gs1)], .bool true]) (.inr rfl) (by simp (disch := omega) only [↓reduceIte, go_sem] <;> repeat with_reducible refine And.intro (by first | omega | decide) ?_) ⟨es', gs1, rfl, hB2.setApp (by omega) (by omega), hs2, keep_setApp kk2 (by omega)⟩
  · by_cases hk1 : d.kind = 1
    · have hun := until_perm hs.two d.k
      have href := c_abatisref18_Until room gs hs.two.ok2 (by omega) d.k hd.k
      have hhold := fun L => c_grant_Book_Holds (H := H ++ L) h.app d.k hd.k now
      unfold holdsF at hhold
      rw [hun] at hhold
      unfold rbV at href
      generalize untilF d.k gs = uu at *
      obtain ⟨u, hs_⟩ := uu
      dsimp only at hhold href
      simp (disch := omega) only [↓reduceIte, go_sem, dl, dt, deedC_one, deedC_0, deedC_1, deedC_3, kl, kt, keyC_one, hk0, hk1] <;> repeat with_reducible refine And.intro (by first | omega | decide) ?_
      refine href.on (go 12 (fun _ => false) mixed ?_)
      simp (disch := omega) only [↓reduceIte, go_sem] <;> repeat with_reducible refine And.intro (by first | omega | decide) ?_
      refine go 200 (fun _ => false) mixed ?_
      simp (disch := omega) only [↓reduceIte, go_sem, ordDo_10, kl, kt] <;> repeat with_reducible refine And.intro (by first | omega | decide) ?_
      refine runs_fork (l1 := [0, 4, 6, 7, 8, 9, 10, 11, 12, 13]) (l2 := [4, 0, 6, 7, 8, 9, 10, 11, 12, 13]) rfl rfl (go 200 (fun _ => false) mixed ?_) (go 200 (fun _ => false) mixed ?_)
      all_goals
        simp (disch := omega) only [↓reduceIte, go_sem] <;> repeat with_reducible refine And.intro (by first | omega | decide) ?_
        refine (hhold _).mono fun r H2 ⟨e1, e2⟩ => ?_
        rw [e1, e2]
        cases hs_ with
        | true =>
          by_cases hu : now < u
          · refine go 200 (fun _ => false) mixed ?_
            simp (disch := omega) only [↓reduceIte, go_sem, hu] <;> repeat with_reducible refine And.intro (by first | omega | decide) ?_
            exact EndsD.same (r := .tup [.agg [.int .i64 room, .sl 25 (gsV gs)], .bool true]) (.inr rfl) (by simp (disch := omega) only [↓reduceIte, go_sem] <;> repeat with_reducible refine And.intro (by first | omega | decide) ?_) ⟨es, gs, rfl, h.app, hs, Keeps.app⟩
          · refine go 200 (fun _ => false) mixed ?_
            simp (disch := omega) only [↓reduceIte, go_sem, hu] <;> repeat with_reducible refine And.intro (by first | omega | decide) ?_
            exact EndsD.same (r := .tup [.agg [.int .i64 room, .sl 25 (gsV gs)], .bool true]) (.inr rfl) (by simp (disch := omega) only [↓reduceIte, go_sem] <;> repeat with_reducible refine And.intro (by first | omega | decide) ?_) ⟨es, gs, rfl, h.app, hs, Keeps.app⟩
        | false =>
          refine go 200 (fun _ => false) mixed ?_
          simp (disch := omega) only [↓reduceIte, go_sem] <;> repeat with_reducible refine And.intro (by first | omega | decide) ?_
          exact EndsD.same (r := .tup [.agg [.int .i64 room, .sl 25 (gsV gs)], .bool true]) (.inr rfl) (by (simp (disch := omega) only [↓reduceIte, go_sem] <;> repeat with_reducible refine And.intro (by first | omega | decide) ?_); simp) ⟨es, gs, rfl, h.app, hs, Keeps.app⟩
    · by_cases hk2 : d.kind = 2
      · have hun := until_perm hs.two d.k
        have href := c_abatisref18_Until room gs hs.two.ok2 (by omega) d.k hd.k
        have hown := fun L => c_grant_Book_Until (H := H ++ L) h.app d.k hd.k
        rw [hun] at hown
        unfold rbV at href
        generalize untilF d.k gs = uu at *
        obtain ⟨u, hs_⟩ := uu
        dsimp only at hown href
        simp (disch := omega) only [↓reduceIte, go_sem, dl, dt, deedC_one, deedC_0, deedC_1, deedC_3, kl, kt, keyC_one, hk0, hk1, hk2] <;> repeat with_reducible refine And.intro (by first | omega | decide) ?_
        refine (hown _).mono fun r H2 ⟨e1, e2⟩ => ?_
        rw [e1, e2]
        refine go 200 (fun _ => false) mixed ?_
        simp (disch := omega) only [↓reduceIte, go_sem, dl, deedC_3, kl, kt] <;> repeat with_reducible refine And.intro (by first | omega | decide) ?_
        refine href.on (go 200 (fun _ => false) mixed ?_)
        simp (disch := omega) only [↓reduceIte, go_sem] <;> repeat with_reducible refine And.intro (by first | omega | decide) ?_
        exact EndsD.same (r := .tup [.agg [.int .i64 room, .sl 25 (gsV gs)], .bool true]) (.inr rfl) (by simp (disch := omega) only [↓reduceIte, go_sem] <;> repeat with_reducible refine And.intro (by first | omega | decide) ?_) ⟨es, gs, rfl, h.app, hs, Keeps.app⟩
      · have href := c_abatisref18_Drop room gs hs.two.ok2 (by omega) d.k.page
        have hown := fun L => c_grant_Book_Drop (H := H ++ L) h.app hs.two.nodup (by omega) d.k.page
        unfold rbV at href
        simp (disch := omega) only [↓reduceIte, go_sem, dl, dt, deedC_one, deedC_0, deedC_1, deedC_3, kl, kt, keyC_one, keyC_page, hk0, hk1, hk2] <;> repeat with_reducible refine And.intro (by first | omega | decide) ?_
        have hp : (es.filter fun e : GKey × Int => !decide (e.1.page = d.k.page)).Perm (keepG d.k.page gs) := hs.two.perm.filter _
        have hpl := hp.length_eq
        rw [hpl, hlen] at hown
        have hs2 : Same3 room (es.filter fun e : GKey × Int => !decide (e.1.page = d.k.page)) (keepG d.k.page gs) :=
          ⟨⟨hp, hs.two.nodup.sublist ((List.filter_sublist).map _), fun e he => hs.two.ok e (List.mem_filter.mp he).1⟩, hs.row.sub List.filter_sublist, by
            have := List.length_filter_le (fun e : GKey × Int => !decide (e.1.page = d.k.page)) gs
            show ((keepG d.k.page gs).length : Int) ≤ room
            unfold keepG; omega⟩
        generalize (es.filter fun e : GKey × Int => !decide (e.1.page = d.k.page)) = es1 at *
        generalize keepG d.k.page gs = gs1 at *
        refine href.on (go 10 (fun _ => false) mixed ?_)
        simp (disch := omega) only [↓reduceIte, go_sem] <;> repeat with_reducible refine And.intro (by first | omega | decide) ?_
        refine go 200 (fun _ => false) mixed ?_
        simp (disch := omega) only [↓reduceIte, go_sem, orgC_len, orgC_take, ordDo_16, dl, deedC_3, keyC_page] <;> repeat with_reducible refine And.intro (by first | omega | decide) ?_
        refine runs_fork (l1 := [0, 5, 7, 8, 9]) (l2 := [5, 0, 7, 8, 9]) rfl rfl (go 200 (fun _ => false) mixed ?_) (go 200 (fun _ => false) mixed ?_)
        all_goals
          simp (disch := omega) only [↓reduceIte, go_sem] <;> repeat with_reducible refine And.intro (by first | omega | decide) ?_
          refine (hown _).mono fun r H2 ⟨e1, hB2, k2⟩ => ?_
          rw [e1]
          have hr2 : H2[H.length + 2]? = some (some (.cells 0 [.int .i64 0, .nils])) := k2.get (by rw [get_tail]; rfl) (by simp; omega)
          have hn2 : H2[H.length + 4]? = some (some (.cells 0 [.int .i64 room, .sl 25 (gsV gs1)])) := k2.get (by rw [get_tail]; rfl) (by simp; omega)
          have kk2 : Keeps [j] H H2 := (Keeps.app.trans k2).mono (by simp)
          have l2 := lt_of_get hn2
          have or2 := obj_of hr2
          have on2 := obj_of hn2
          refine go 200 (fun _ => false) mixed ?_
          simp (disch := omega) only [↓reduceIte, go_sem, or2, on2] <;> repeat with_reducible refine And.intro (by first | omega | decide) ?_
          exact EndsD.same (r := .tup [.agg [.int .i64 room, .sl 25 (gsV gs1)], .bool true]) (.inr rfl) (by simp (disch := omega) only [↓reduceIte, go_sem] <;> repeat with_reducible refine And.intro (by first | omega | decide) ?_) ⟨es1, gs1, rfl, hB2.setN (by omega) (by omega), hs2, keep_setN kk2 (by omega)⟩
end Go.Proofs.GoC
