/-
  The law GrantPlays. No claim by itself. (Printed by mkgrantt.py.)
-/
import Derived.Test.YtjjkidldccebjaaGoGrantS
import Derived.Test.YtjjkidldccebjaaSlSortN
namespace Go.Proofs.GoC
open Go Go.Proofs.SL
set_option linter.unusedSimpArgs false
set_option linter.unusedVariables false
set_option maxRecDepth 10000
set_option maxHeartbeats 4000000

theorem sort_no {H : Heap} {ob ver : Nat} {fp : PV} : SCall Try.prog 47 [.buf ob ver 0 0 24 true, fp] H fun r H' => r = .tup [] ∧ H' = H :=
  sort_none (ρ := Try.sortKey_ren) Try.sortKey

/-- The keys, sorted: where there is none. -/
theorem sorted_no {H : Heap} {bx m : Nat} (hbx : H[bx]? = some (some (.cells 0 [.mp m]))) (hm : H[m]? = some (some (.map (mapV keyV untV [])))) :
    SCall Try.prog 38 [.func (.func 48) [] [.ptr bx 0 0], .func (.func 8) [] []] H fun r H' =>
      ∃ (ob ver : Nat), r = .buf ob ver 0 0 24 true ∧ H'[ob]? = some (some (.cells ver [])) ∧ H'[m]? = some (some (.map (mapV keyV untV []))) ∧ Keeps [m] H H' ∧ H.length ≤ ob := by
  refine scall_of (ord := fun _ => []) (rs := [4]) Try.func38 rfl (by kernel_rfl) (by kernel_rfl) (by kernel_rfl) Try.ntmps38 fun hb hargs => go 200 (fun _ => false) mixed ?_
  simp (disch := omega) only [↓reduceIte, go_sem] <;> repeat with_reducible refine And.intro (by first | omega | decide) ?_
  refine (c_slices_Collect_grant_Key hbx hm (by intro e he; cases he) List.nodup_nil (by decide)).mono fun r H1 ⟨done, ob, e1, ho, hp, hm1, k1, hob⟩ => ?_
  have hd : done = [] := List.perm_nil.mp hp
  subst hd
  rw [e1]
  refine go 200 (fun _ => false) mixed ?_
  simp (disch := omega) only [↓reduceIte, go_sem] <;> repeat with_reducible refine And.intro (by first | omega | decide) ?_
  refine (sort_no (H := H1) (ob := ob) (ver := 0)).mono fun r H2 ⟨e2, e3⟩ => ?_
  rw [e2, e3]
  refine go 200 (fun _ => false) mixed ?_
  simp (disch := omega) only [↓reduceIte, go_sem] <;> repeat with_reducible refine And.intro (by first | omega | decide) ?_
  exact Ends.same (.inr rfl) ⟨ob, 0, rfl, ho, hm1, k1, hob⟩

/-- A book's keys: in the row. -/
theorem c_grant_Book_Keys {H : Heap} {i j : Nat} {room : Int} {es gs : Grants} (h : BkAt H i j room es) (hs : Same3 room es gs) (r2 : room ≤ 64) :
    SCall Try.prog 22 [.ptr i 0 0] H fun r H' =>
      ∃ (ob ver : Nat), r = .buf ob ver 0 gs.length 24 true ∧ H'[ob]? = some (some (.cells ver (flat (ksW (gs.map (·.1)))))) ∧ BkAt H' i j room es ∧ Keeps [j] H H' ∧ H.length ≤ ob := by
  have hlen := hs.two.len
  have hle := hs.len
  by_cases h0 : 0 < es.length
  · refine (keys_row h hs.two.nodup (by omega) h0).mono fun r H' ⟨ks, ob, ver, e1, ho, hp, hrow, hB, hk, hl⟩ => ?_
    have e := hs.keys hp hrow
    subst e
    exact ⟨ob, ver, by rw [e1, List.length_map], ho, hB, hk, hl⟩
  · have he : es = [] := List.eq_nil_of_length_eq_zero (by omega)
    have hg : gs = [] := List.eq_nil_of_length_eq_zero (by omega)
    subst he
    subst hg
    have oc := obj_of h.cell
    have hi := lt_of_get h.cell
    have hne := h.ne
    refine scall_of (ord := fun _ => []) (rs := [2]) Try.func22 rfl (by kernel_rfl) (by kernel_rfl) (by kernel_rfl) Try.ntmps22 fun hb hargs => go 200 (fun _ => false) mixed ?_
    simp (disch := omega) only [↓reduceIte, go_sem, oc] <;> repeat with_reducible refine And.intro (by first | omega | decide) ?_
    refine c_maps_Keys_map_grant_Key_int_grant_Key_int.mono fun r H1 ⟨e1, e2⟩ => ?_
    rw [e1, e2]
    refine go 200 (fun _ => false) mixed ?_
    simp (disch := omega) only [↓reduceIte, go_sem] <;> repeat with_reducible refine And.intro (by first | omega | decide) ?_
    refine (sorted_no (H := H ++ [some (.cells 0 [.mp j])]) (by rw [get_tail0]; rfl) (get_app h.map)).mono fun r H2 ⟨ob, ver, e3, ho, hm, k2, hob⟩ => ?_
    rw [e3]
    refine go 200 (fun _ => false) mixed ?_
    simp (disch := omega) only [↓reduceIte, go_sem] <;> repeat with_reducible refine And.intro (by first | omega | decide) ?_
    exact Ends.same (.inr rfl) ⟨ob, ver, rfl, ho, ⟨k2.get (get_app h.cell) (by simpa using hne), hm, h.ok⟩, Keeps.app.trans k2, by simp at hob; omega⟩

def deed0 : Deed := ⟨0, 0, 0, key0⟩
def dsV (l : List Deed) : List PV := l.map fun d => .agg (deedC d)
@[go_sem] theorem dsV_len {l : List Deed} : (dsV l).length = l.length := List.length_map ..
theorem dsV_get {l : List Deed} {k : Nat} (h : k < l.length) : (dsV l).getD k .any = .agg (deedC (l.getD k deed0)) := by
  simp [dsV, List.getD_eq_getElem?_getD, h]
theorem deed_mem {l : List Deed} (h : ∀ d ∈ l, DeedOk d) {n : Nat} (hn : n < l.length) : DeedOk (l.getD n deed0) := h _ (by rw [List.getD_eq_getElem?_getD, List.getElem?_eq_getElem hn]; exact List.getElem_mem hn)
theorem roomF_1 {n : Int} : 1 ≤ roomF n := by unfold roomF; simp only; split <;> split <;> omega
theorem roomF_64 {n : Int} : roomF n ≤ 64 := by unfold roomF; simp only; split <;> split <;> omega

def ordGP : Nat → List Nat
  | 10 => [0, 2, 3, 6, 4, 14, 28, 1, 14, 17, 5, 14, 7, 7, 8, 9, 10, 11, 12, 13, 11, 7, 8, 9, 10, 12, 13, 11, 5, 7, 8, 9, 10, 12, 13, 14, 28, 5, 14, 17, 1, 14, 7, 7, 8, 9, 10, 11, 12, 13, 11, 7, 8, 9, 10, 12, 13, 11, 1, 7, 8, 9, 10, 12, 13, 11, 1, 5, 7, 8, 9, 10, 12, 13]
  | _ => []
theorem ordGP_10 : ordGP 10 = [0, 2, 3, 6, 4, 14, 28, 1, 14, 17, 5, 14, 7, 7, 8, 9, 10, 11, 12, 13, 11, 7, 8, 9, 10, 12, 13, 11, 5, 7, 8, 9, 10, 12, 13, 14, 28, 5, 14, 17, 1, 14, 7, 7, 8, 9, 10, 11, 12, 13, 11, 7, 8, 9, 10, 12, 13, 11, 1, 7, 8, 9, 10, 12, 13, 11, 1, 5, 7, 8, 9, 10, 12, 13] := rfl

structure GP where
  K : Heap
  es : Grants
  gs : Grants
  now : Int
  n : Nat
structure GPI (H : Heap) (room : Int) (l : List Deed) (a : GP) : Prop where
  bk : BkAt a.K (H.length + 1) H.length room a.es
  same : Same3 room a.es a.gs
  rf : a.K[H.length + 2]? = some (some (.cells 0 [.int .i64 room, .sl 25 (gsV a.gs)]))
  keep : Keeps [] H a.K
  le : a.n ≤ l.length
  le50 : a.n ≤ 50
  now0 : 0 ≤ a.now
  now1 : a.now ≤ 9 * a.n

theorem c_abatislaw18_GrantPlays (room0 : Int) (l : List Deed) (hl : ∀ d ∈ l, DeedOk d) (hlen : l.length ≤ 9223372036854775807) :
    GCall 7 [.int .i64 room0, .sl 27 (dsV l)] (.bool true) := by
  intro H hG
  refine scall_of (ord := ordGP) (rs := [4]) Try.func7 rfl (by kernel_rfl) (by kernel_rfl) (by kernel_rfl) Try.ntmps7 fun hb hargs => go 200 (fun _ => false) mixed ?_
  simp (disch := omega) only [↓reduceIte, go_sem] <;> repeat with_reducible refine And.intro (by first | omega | decide) ?_
  refine (c_grant_New room0).mono fun r H1 ⟨e1, e2⟩ => ?_
  rw [e1, e2]
  refine go 200 (fun _ => false) mixed ?_
  simp (disch := omega) only [↓reduceIte, go_sem] <;> repeat with_reducible refine And.intro (by first | omega | decide) ?_
  refine (c_abatisref18_New room0).on (go 200 (fun _ => false) mixed ?_)
  simp (disch := omega) only [↓reduceIte, go_sem, rbV] <;> repeat with_reducible refine And.intro (by first | omega | decide) ?_
  have r1 := roomF_1 (n := room0)
  have r2 := roomF_64 (n := room0)
  generalize roomF room0 = room at *
  refine runs_loopA (GPI H room l) (fun a => l.length - a.n) [true, true, false, false, true, true, true, true, true]
    (fun a => slots 87 [.int .i64 room0, .sl 27 (dsV l), .any, .any, .bool false, .ptr (H.length + 1) 0 0, .ptr (H.length + 2) 0 0, .int .i64 a.now, .int .i64 a.n]) (fun a => a.K) (by rfl) ⟨_, [], [], 0, 0⟩
    ⟨⟨by show _ = _; rw [get_tail]; rfl, by show _ = _; rw [get_tail0]; rfl, by intro e he; cases he⟩, Same3.nil (by omega), by show _ = _; rw [get_tail]; rfl, Keeps.app, Nat.zero_le _, Nat.zero_le _, Int.le_refl _, Int.le_refl _⟩ rfl rfl ?_
  rintro ⟨K, es, gs, now, n⟩ ⟨hbk, hsame, hrf, hkeep, hle, hle50, hnow0, hnow1⟩
  dsimp only at hbk hsame hrf hkeep hle hle50 hnow0 hnow1 ⊢
  have orf := obj_of hrf
  have hl2 := lt_of_get hrf
  refine go 200 (fun _ => false) mixed ?_
  by_cases hlt : n < l.length
  · by_cases h50 : n < 50
    · have dg := dsV_get hlt
      have hd := deed_mem hl hlt
      generalize l.getD n deed0 = d at *
      have dl := deedC_len hd
      have dt := deedC_take hd
      have ha := aroundF_lt d.wait (by decide : 0 < 10)
      have hw1 : IntKind.i64.wrap (now + (aroundF d.wait 10 : Nat)) = now + (aroundF d.wait 10 : Nat) := w64 (by omega) (by omega)
      simp (disch := omega) only [↓reduceIte, go_sem, hlt, h50, dg, dl, deedC_2] <;> repeat with_reducible refine And.intro (by first | omega | decide) ?_
      refine (c_abatisref01_Around d.wait hd.w1 hd.w2 10 (by decide)).on (go 6 (fun _ => false) mixed ?_)
      simp (disch := omega) only [↓reduceIte, go_sem, hw1] <;> repeat with_reducible refine And.intro (by first | omega | decide) ?_
      have hnow : ∃ now2 : Int, now2 = now + (aroundF d.wait 10 : Nat) := ⟨_, rfl⟩
      obtain ⟨now2, hnow⟩ := hnow
      rw [← hnow]
      have n2a : 0 ≤ now2 := by omega
      have n2b : now2 ≤ 9 * (n + 1 : Nat) := by omega
      have hdoes := fun L => c_abatislaw18_does (H := K ++ L) hbk.app hsame r1 r2 d hd now2 n2a (by omega)
      have hdoes0 := c_abatislaw18_does hbk hsame r1 r2 d hd now2 n2a (by omega)
      refine runs_cut [true, true, false, false, true, true, true, true, true, true, true]
        (fun σ K' => ∃ es' gs' p, BkAt K' (H.length + 1) H.length room es' ∧ Same3 room es' gs' ∧ K'[p]? = some (some (.cells 0 [.int .i64 room, .sl 25 (gsV gs')])) ∧ K.length ≤ p ∧ Keeps [H.length] K K' ∧
          σ = slots 87 [.int .i64 room0, .sl 27 (dsV l), .any, .any, .bool false, .ptr (H.length + 1) 0 0, .ptr (H.length + 2) 0 0, .int .i64 now2, .int .i64 n, .ptr p 0 0, .bool true]) (by rfl) ?_ ?_
      · refine go 200 (fun _ => false) mixed ?_
        simp (disch := omega) only [↓reduceIte, go_sem, ordGP_10, orf, dg, dl, dt, deedC_2] <;> repeat with_reducible refine And.intro (by first | omega | decide) ?_
        refine runs_fork (l1 := [1, 14, 17, 5, 14, 7, 7, 8, 9, 10, 11, 12, 13, 11, 7, 8, 9, 10, 12, 13, 11, 5, 7, 8, 9, 10, 12, 13]) (l2 := [14, 28, 5, 14, 17, 1, 14, 7, 7, 8, 9, 10, 11, 12, 13, 11, 7, 8, 9, 10, 12, 13, 11, 1, 7, 8, 9, 10, 12, 13, 11, 1, 5, 7, 8, 9, 10, 12, 13]) rfl rfl (go 200 (fun _ => false) mixed ?_) ?_
        · simp (disch := omega) only [↓reduceIte, go_sem, orf, dg, dl, dt, deedC_2] <;> repeat with_reducible refine And.intro (by first | omega | decide) ?_
          refine runs_fork (l1 := [5, 14, 7, 7, 8, 9, 10, 11, 12, 13, 11, 7, 8, 9, 10, 12, 13]) (l2 := [11, 5, 7, 8, 9, 10, 12, 13]) rfl rfl (go 200 (fun _ => false) mixed ?_) (go 200 (fun _ => false) mixed ?_)
          · simp (disch := omega) only [↓reduceIte, go_sem, orf, dg, dl, dt, deedC_2] <;> repeat with_reducible refine And.intro (by first | omega | decide) ?_
            refine runs_fork (l1 := [7, 8, 9, 10, 11, 12, 13]) (l2 := [11, 7, 8, 9, 10, 12, 13]) rfl rfl (go 200 (fun _ => false) mixed ?_) (go 200 (fun _ => false) mixed ?_)
            · simp (disch := omega) only [↓reduceIte, go_sem, orf, dg, dl, dt, deedC_2] <;> repeat with_reducible refine And.intro (by first | omega | decide) ?_
              refine hdoes0.mono fun r H2 ⟨es', gs', e1, hB2, hs2, k2⟩ => ?_
              rw [e1]
              refine go 200 (fun _ => false) mixed ?_
              simp (disch := omega) only [↓reduceIte, go_sem, rbV] <;> repeat with_reducible refine And.intro (by first | omega | decide) ?_
              exact mid_to ⟨es', gs', H2.length, hB2.app, hs2, by rw [get_tail0]; rfl, k2.1, k2.trans Keeps.app, rfl⟩
            · simp (disch := omega) only [↓reduceIte, go_sem, orf, dg, dl, dt, deedC_2] <;> repeat with_reducible refine And.intro (by first | omega | decide) ?_
              refine (hdoes _).mono fun r H2 ⟨es', gs', e1, hB2, hs2, k2⟩ => ?_
              rw [e1]
              have hz2 : H2[K.length]? = some (some (.cells 0 [.int .i64 0, .nils])) := k2.get (by rw [get_tail0]; rfl) (by simp; omega)
              have oz2 := obj_of hz2
              have lz2 := lt_of_get hz2
              refine go 200 (fun _ => false) mixed ?_
              simp (disch := omega) only [↓reduceIte, go_sem, oz2, rbV] <;> repeat with_reducible refine And.intro (by first | omega | decide) ?_
              exact mid_to ⟨es', gs', K.length, hB2.setN (by omega) (by omega), hs2, get_set_self lz2, Nat.le_refl _, keep_setN ((Keeps.app.trans k2).mono (by simp)) (Nat.le_refl _), rfl⟩
          · simp (disch := omega) only [↓reduceIte, go_sem, orf, dg, dl, dt, deedC_2] <;> repeat with_reducible refine And.intro (by first | omega | decide) ?_
            refine (hdoes _).mono fun r H2 ⟨es', gs', e1, hB2, hs2, k2⟩ => ?_
            rw [e1]
            have hz2 : H2[K.length]? = some (some (.cells 0 [.int .i64 0, .nils])) := k2.get (by rw [get_tail0]; rfl) (by simp; omega)
            have oz2 := obj_of hz2
            have lz2 := lt_of_get hz2
            refine go 200 (fun _ => false) mixed ?_
            simp (disch := omega) only [↓reduceIte, go_sem, oz2, rbV] <;> repeat with_reducible refine And.intro (by first | omega | decide) ?_
            exact mid_to ⟨es', gs', K.length, hB2.setN (by omega) (by omega), hs2, get_set_self lz2, Nat.le_refl _, keep_setN ((Keeps.app.trans k2).mono (by simp)) (Nat.le_refl _), rfl⟩
        · refine runs_fork (l1 := [5, 14, 17, 1, 14, 7, 7, 8, 9, 10, 11, 12, 13, 11, 7, 8, 9, 10, 12, 13, 11, 1, 7, 8, 9, 10, 12, 13]) (l2 := [11, 1, 5, 7, 8, 9, 10, 12, 13]) rfl rfl (go 200 (fun _ => false) mixed ?_) (go 200 (fun _ => false) mixed ?_)
          · simp (disch := omega) only [↓reduceIte, go_sem, orf, dg, dl, dt, deedC_2] <;> repeat with_reducible refine And.intro (by first | omega | decide) ?_
            refine runs_fork (l1 := [1, 14, 7, 7, 8, 9, 10, 11, 12, 13, 11, 7, 8, 9, 10, 12, 13]) (l2 := [11, 1, 7, 8, 9, 10, 12, 13]) rfl rfl (go 200 (fun _ => false) mixed ?_) (go 200 (fun _ => false) mixed ?_)
            · simp (disch := omega) only [↓reduceIte, go_sem, orf, dg, dl, dt, deedC_2] <;> repeat with_reducible refine And.intro (by first | omega | decide) ?_
              refine runs_fork (l1 := [7, 8, 9, 10, 11, 12, 13]) (l2 := [11, 7, 8, 9, 10, 12, 13]) rfl rfl (go 200 (fun _ => false) mixed ?_) (go 200 (fun _ => false) mixed ?_)
              · simp (disch := omega) only [↓reduceIte, go_sem, orf, dg, dl, dt, deedC_2] <;> repeat with_reducible refine And.intro (by first | omega | decide) ?_
                refine hdoes0.mono fun r H2 ⟨es', gs', e1, hB2, hs2, k2⟩ => ?_
                rw [e1]
                refine go 200 (fun _ => false) mixed ?_
                simp (disch := omega) only [↓reduceIte, go_sem, rbV] <;> repeat with_reducible refine And.intro (by first | omega | decide) ?_
                exact mid_to ⟨es', gs', H2.length, hB2.app, hs2, by rw [get_tail0]; rfl, k2.1, k2.trans Keeps.app, rfl⟩
              · simp (disch := omega) only [↓reduceIte, go_sem, orf, dg, dl, dt, deedC_2] <;> repeat with_reducible refine And.intro (by first | omega | decide) ?_
                refine (hdoes _).mono fun r H2 ⟨es', gs', e1, hB2, hs2, k2⟩ => ?_
                rw [e1]
                have hz2 : H2[K.length]? = some (some (.cells 0 [.int .i64 0, .nils])) := k2.get (by rw [get_tail0]; rfl) (by simp; omega)
                have oz2 := obj_of hz2
                have lz2 := lt_of_get hz2
                refine go 200 (fun _ => false) mixed ?_
                simp (disch := omega) only [↓reduceIte, go_sem, oz2, rbV] <;> repeat with_reducible refine And.intro (by first | omega | decide) ?_
                exact mid_to ⟨es', gs', K.length, hB2.setN (by omega) (by omega), hs2, get_set_self lz2, Nat.le_refl _, keep_setN ((Keeps.app.trans k2).mono (by simp)) (Nat.le_refl _), rfl⟩
            · simp (disch := omega) only [↓reduceIte, go_sem, orf, dg, dl, dt, deedC_2] <;> repeat with_reducible refine And.intro (by first | omega | decide) ?_
              refine (hdoes _).mono fun r H2 ⟨es', gs', e1, hB2, hs2, k2⟩ => ?_
              rw [e1]
              have hz2 : H2[K.length]? = some (some (.cells 0 [.int .i64 0, .nils])) := k2.get (by rw [get_tail0]; rfl) (by simp; omega)
              have oz2 := obj_of hz2
              have lz2 := lt_of_get hz2
              refine go 200 (fun _ => false) mixed ?_
              simp (disch := omega) only [↓reduceIte, go_sem, oz2, rbV] <;> repeat with_reducible refine And.intro (by first | omega | decide) ?_
              exact mid_to ⟨es', gs', K.length, hB2.setN (by omega) (by omega), hs2, get_set_self lz2, Nat.le_refl _, keep_setN ((Keeps.app.trans k2).mono (by simp)) (Nat.le_refl _), rfl⟩
          · simp (disch := omega) only [↓reduceIte, go_sem, orf, dg, dl, dt, deedC_2] <;> repeat with_reducible refine And.intro (by first | omega | decide) ?_
            refine (hdoes _).mono fun r H2 ⟨es', gs', e1, hB2, hs2, k2⟩ => ?_
            rw [e1]
            have hz2 : H2[K.length]? = some (some (.cells 0 [.int .i64 0, .nils])) := k2.get (by rw [get_tail0]; rfl) (by simp; omega)
            have oz2 := obj_of hz2
            have lz2 := lt_of_get hz2
            refine go 200 (fun _ => false) mixed ?_
            simp (disch := omega) only [↓reduceIte, go_sem, oz2, rbV] <;> repeat with_reducible refine And.intro (by first | omega | decide) ?_
            exact mid_to ⟨es', gs', K.length, hB2.setN (by omega) (by omega), hs2, get_set_self lz2, Nat.le_refl _, keep_setN ((Keeps.app.trans k2).mono (by simp)) (Nat.le_refl _), rfl⟩
      · rintro σ K2 ⟨es2, gs2, p, hB2, hs2, hp2, hpl, k2, rfl⟩
        have op2 := obj_of hp2
        have lp2 := lt_of_get hp2
        have hrf2 : K2[H.length + 2]? = some (some (.cells 0 [.int .i64 room, .sl 25 (gsV gs)])) := k2.get hrf (by simp)
        have orf2 := obj_of hrf2
        have hl22 := lt_of_get hrf2
        refine go 200 (fun _ => false) mixed ?_
        simp (disch := omega) only [↓reduceIte, go_sem, op2, orf2] <;> repeat with_reducible refine And.intro (by first | omega | decide) ?_
        have hB3 : BkAt (K2.set (H.length + 2) (some (.cells 0 [.int .i64 room, .sl 25 (gsV gs2)]))) (H.length + 1) H.length room es2 := hB2.setN (by omega) (by omega)
        have hrf3 : (K2.set (H.length + 2) (some (.cells 0 [.int .i64 room, .sl 25 (gsV gs2)])))[H.length + 2]? = some (some (.cells 0 [.int .i64 room, .sl 25 (gsV gs2)])) := get_set_self hl22
        refine (c_grant_Book_Keys hB3 hs2 r2).mono fun r H4 ⟨ob, ver, e4, ho4, hB4, k4, hob⟩ => ?_
        rw [e4]
        have hrf4 := k4.get hrf3 (by simp)
        have orf4 := obj_of hrf4
        have oo4 := obj_of ho4
        have hl4 := lt_of_get hrf4
        have hlen4 := c_grant_Book_Len hB4
        rw [hs2.two.len] at hlen4
        have hkk : Keeps [] H H4 := ((hkeep.mono (G := [H.length, H.length + 2]) (by simp)).trans ((k2.mono (by simp)).trans ((Keeps.setF (i := H.length + 2) (by simp)).trans (k4.mono (by simp))))).mono (by simp)
        refine go 2 (fun _ => false) mixed ?_
        simp (disch := omega) only [↓reduceIte, go_sem, orf4] <;> repeat with_reducible refine And.intro (by first | omega | decide) ?_
        refine go 2 (fun _ => false) mixed ?_
        simp (disch := omega) only [↓reduceIte, go_sem, orf4] <;> repeat with_reducible refine And.intro (by first | omega | decide) ?_
        refine go 2 (fun _ => false) mixed ?_
        simp (disch := omega) only [↓reduceIte, go_sem, orf4] <;> repeat with_reducible refine And.intro (by first | omega | decide) ?_
        refine go 2 (fun _ => false) mixed ?_
        simp (disch := omega) only [↓reduceIte, go_sem, orf4] <;> repeat with_reducible refine And.intro (by first | omega | decide) ?_
        refine go 2 (fun _ => false) mixed ?_
        simp (disch := omega) only [↓reduceIte, go_sem, orf4] <;> repeat with_reducible refine And.intro (by first | omega | decide) ?_
        refine go 2 (fun _ => false) mixed ?_
        simp (disch := omega) only [↓reduceIte, go_sem, orf4] <;> repeat with_reducible refine And.intro (by first | omega | decide) ?_
        refine go 2 (fun _ => false) mixed ?_
        simp (disch := omega) only [↓reduceIte, go_sem, orf4] <;> repeat with_reducible refine And.intro (by first | omega | decide) ?_
        refine go 2 (fun _ => false) mixed ?_
        simp (disch := omega) only [↓reduceIte, go_sem, orf4] <;> repeat with_reducible refine And.intro (by first | omega | decide) ?_
        refine go 2 (fun _ => false) mixed ?_
        simp (disch := omega) only [↓reduceIte, go_sem, orf4] <;> repeat with_reducible refine And.intro (by first | omega | decide) ?_
        refine go 2 (fun _ => false) mixed ?_
        simp (disch := omega) only [↓reduceIte, go_sem, orf4] <;> repeat with_reducible refine And.intro (by first | omega | decide) ?_
        refine go 2 (fun _ => false) mixed ?_
        simp (disch := omega) only [↓reduceIte, go_sem, orf4] <;> repeat with_reducible refine And.intro (by first | omega | decide) ?_
        refine go 2 (fun _ => false) mixed ?_
        simp (disch := omega) only [↓reduceIte, go_sem, orf4] <;> repeat with_reducible refine And.intro (by first | omega | decide) ?_
        refine go 2 (fun _ => false) mixed ?_
        simp (disch := omega) only [↓reduceIte, go_sem, orf4] <;> repeat with_reducible refine And.intro (by first | omega | decide) ?_
        refine go 2 (fun _ => false) mixed ?_
        simp (disch := omega) only [↓reduceIte, go_sem, orf4] <;> repeat with_reducible refine And.intro (by first | omega | decide) ?_
        refine go 200 (fun _ => false) mixed ?_
        simp (disch := omega) only [↓reduceIte, go_sem, orf4] <;> repeat with_reducible refine And.intro (by first | omega | decide) ?_
        refine hlen4.onq (go 2 (fun _ => false) mixed ?_)
        simp (disch := omega) only [↓reduceIte, go_sem, orf4] <;> repeat with_reducible refine And.intro (by first | omega | decide) ?_
        refine go 2 (fun _ => false) mixed ?_
        simp (disch := omega) only [↓reduceIte, go_sem, orf4] <;> repeat with_reducible refine And.intro (by first | omega | decide) ?_
        refine go 2 (fun _ => false) mixed ?_
        simp (disch := omega) only [↓reduceIte, go_sem, orf4] <;> repeat with_reducible refine And.intro (by first | omega | decide) ?_
        refine go 2 (fun _ => false) mixed ?_
        simp (disch := omega) only [↓reduceIte, go_sem, orf4] <;> repeat with_reducible refine And.intro (by first | omega | decide) ?_
        refine go 200 (fun _ => false) mixed ?_
        simp (disch := omega) only [↓reduceIte, go_sem, orf4] <;> repeat with_reducible refine And.intro (by first | omega | decide) ?_
        refine runs_loopA (fun k : Nat => k ≤ gs2.length) (fun k => gs2.length - k) [true, true, false, false, true, true, true, true, true, false, false, true, true]
          (fun k => slots 87 [.int .i64 room0, .sl 27 (dsV l), .any, .any, .bool false, .ptr (H.length + 1) 0 0, .ptr (H.length + 2) 0 0, .int .i64 now2, .int .i64 n, .any, .any, .buf ob ver 0 gs2.length 24 true, .int .i64 k]) (fun _ => H4) (by rfl) 0 (Nat.zero_le _) rfl rfl ?_
        intro k hk
        have hle2 := hs2.len
        refine go 5 (fun _ => false) mixed ?_
        by_cases hlk : k < gs2.length
        · have hks : ∀ q ∈ gs2.map (·.1), KeyOk q := fun q hq => by
            obtain ⟨e, he, rfl⟩ := List.mem_map.mp hq
            exact hs2.two.ok2 e he
          have hfl := flatW_len hks
          rw [List.length_map] at hfl
          have gk := flatW_at hks (i := k) (by rw [List.length_map]; exact hlk)
          have hgk : (gs2.map (·.1)).getD k key0 = (gs2.getD k (key0, 0)).1 := by simp [List.getD_eq_getElem?_getD, hlk]
          rw [hgk] at gk
          have gg := gsV_get hlk
          have hm : KeyOk (gs2.getD k (key0, 0)).1 := hs2.two.ok2 _ (by rw [List.getD_eq_getElem?_getD, List.getElem?_eq_getElem hlk]; exact List.getElem_mem hlk)
          generalize gs2.getD k (key0, 0) = e at *
          have l1 := gC_len hm
          have l2' := gC_key hm
          have el := keyC_len hm
          have et := keyC_take hm
          have eg := keyC_tag hm
          simp (disch := omega) only [↓reduceIte, go_sem, hlk] <;> repeat with_reducible refine And.intro (by first | omega | decide) ?_
          refine go 2 (fun _ => false) mixed ?_
          simp (disch := omega) only [↓reduceIte, go_sem, hlk, orf4, oo4, hfl, gk, gg, l1, l2', el, et] <;> repeat with_reducible refine And.intro (by first | omega | decide) ?_
          refine go 2 (fun _ => false) mixed ?_
          simp (disch := omega) only [↓reduceIte, go_sem, hlk, orf4, oo4, hfl, gk, gg, l1, l2', el, et] <;> repeat with_reducible refine And.intro (by first | omega | decide) ?_
          refine go 2 (fun _ => false) mixed ?_
          simp (disch := omega) only [↓reduceIte, go_sem, hlk, orf4, oo4, hfl, gk, gg, l1, l2', el, et] <;> repeat with_reducible refine And.intro (by first | omega | decide) ?_
          refine go 2 (fun _ => false) mixed ?_
          simp (disch := omega) only [↓reduceIte, go_sem, hlk, orf4, oo4, hfl, gk, gg, l1, l2', el, et] <;> repeat with_reducible refine And.intro (by first | omega | decide) ?_
          refine go 2 (fun _ => false) mixed ?_
          simp (disch := omega) only [↓reduceIte, go_sem, hlk, orf4, oo4, hfl, gk, gg, l1, l2', el, et] <;> repeat with_reducible refine And.intro (by first | omega | decide) ?_
          refine go 2 (fun _ => false) mixed ?_
          simp (disch := omega) only [↓reduceIte, go_sem, hlk, orf4, oo4, hfl, gk, gg, l1, l2', el, et] <;> repeat with_reducible refine And.intro (by first | omega | decide) ?_
          refine go 2 (fun _ => false) mixed ?_
          simp (disch := omega) only [↓reduceIte, go_sem, hlk, orf4, oo4, hfl, gk, gg, l1, l2', el, et] <;> repeat with_reducible refine And.intro (by first | omega | decide) ?_
          refine go 2 (fun _ => false) mixed ?_
          simp (disch := omega) only [↓reduceIte, go_sem, hlk, orf4, oo4, hfl, gk, gg, l1, l2', el, et] <;> repeat with_reducible refine And.intro (by first | omega | decide) ?_
          refine go 2 (fun _ => false) mixed ?_
          simp (disch := omega) only [↓reduceIte, go_sem, hlk, orf4, oo4, hfl, gk, gg, l1, l2', el, et] <;> repeat with_reducible refine And.intro (by first | omega | decide) ?_
          refine go 2 (fun _ => false) mixed ?_
          simp (disch := omega) only [↓reduceIte, go_sem, hlk, orf4, oo4, hfl, gk, gg, l1, l2', el, et] <;> repeat with_reducible refine And.intro (by first | omega | decide) ?_
          refine go 2 (fun _ => false) mixed ?_
          simp (disch := omega) only [↓reduceIte, go_sem, hlk, orf4, oo4, hfl, gk, gg, l1, l2', el, et] <;> repeat with_reducible refine And.intro (by first | omega | decide) ?_
          refine go 2 (fun _ => false) mixed ?_
          simp (disch := omega) only [↓reduceIte, go_sem, hlk, orf4, oo4, hfl, gk, gg, l1, l2', el, et] <;> repeat with_reducible refine And.intro (by first | omega | decide) ?_
          refine go 2 (fun _ => false) mixed ?_
          simp (disch := omega) only [↓reduceIte, go_sem, hlk, orf4, oo4, hfl, gk, gg, l1, l2', el, et] <;> repeat with_reducible refine And.intro (by first | omega | decide) ?_
          refine go 2 (fun _ => false) mixed ?_
          simp (disch := omega) only [↓reduceIte, go_sem, hlk, orf4, oo4, hfl, gk, gg, l1, l2', el, et] <;> repeat with_reducible refine And.intro (by first | omega | decide) ?_
          refine go 2 (fun _ => false) mixed ?_
          simp (disch := omega) only [↓reduceIte, go_sem, hlk, orf4, oo4, hfl, gk, gg, l1, l2', el, et] <;> repeat with_reducible refine And.intro (by first | omega | decide) ?_
          refine go 2 (fun _ => false) mixed ?_
          simp (disch := omega) only [↓reduceIte, go_sem, hlk, orf4, oo4, hfl, gk, gg, l1, l2', el, et] <;> repeat with_reducible refine And.intro (by first | omega | decide) ?_
          refine go 2 (fun _ => false) mixed ?_
          simp (disch := omega) only [↓reduceIte, go_sem, hlk, orf4, oo4, hfl, gk, gg, l1, l2', el, et] <;> repeat with_reducible refine And.intro (by first | omega | decide) ?_
          refine go 200 (fun _ => false) mixed ?_
          simp (disch := omega) only [↓reduceIte, go_sem, eg] <;> repeat with_reducible refine And.intro (by first | omega | decide) ?_
          exact rnd_next (k + 1) hlk (by show gs2.length - (k + 1) < gs2.length - k; omega) rfl rfl
        · simp (disch := omega) only [↓reduceIte, go_sem, hlk] <;> repeat with_reducible refine And.intro (by first | omega | decide) ?_
          refine go 200 (fun _ => false) mixed ?_
          simp (disch := omega) only [↓reduceIte, go_sem, hlk] <;> repeat with_reducible refine And.intro (by first | omega | decide) ?_
          refine go 200 (fun _ => false) mixed ?_
          simp (disch := omega) only [↓reduceIte, go_sem] <;> repeat with_reducible refine And.intro (by first | omega | decide) ?_
          exact rnd_next ⟨H4, es2, gs2, now2, n + 1⟩ ⟨hB4, hs2, hrf4, hkk, hlt, h50, n2a, n2b⟩ (by show l.length - (n + 1) < l.length - n; omega) rfl rfl
    · have hexit : n = 50 := by omega
      subst hexit
      simp (disch := omega) only [↓reduceIte, go_sem, hlt] <;> repeat with_reducible refine And.intro (by first | omega | decide) ?_
      refine go 200 (fun _ => false) mixed ?_
      simp (disch := omega) only [↓reduceIte, go_sem] <;> repeat with_reducible refine And.intro (by first | omega | decide) ?_
      refine c_abatislaw18_lives.on (go 200 (fun _ => false) mixed ?_)
      simp (disch := omega) only [↓reduceIte, go_sem] <;> repeat with_reducible refine And.intro (by first | omega | decide) ?_
      obtain ⟨L, rfl⟩ : ∃ L, K = H ++ L := hkeep.nil_split
      exact fin_drop (.inr rfl) hb rfl (by simp)
  · simp (disch := omega) only [↓reduceIte, go_sem, hlt] <;> repeat with_reducible refine And.intro (by first | omega | decide) ?_
    refine go 200 (fun _ => false) mixed ?_
    simp (disch := omega) only [↓reduceIte, go_sem] <;> repeat with_reducible refine And.intro (by first | omega | decide) ?_
    refine c_abatislaw18_lives.on (go 200 (fun _ => false) mixed ?_)
    simp (disch := omega) only [↓reduceIte, go_sem] <;> repeat with_reducible refine And.intro (by first | omega | decide) ?_
    obtain ⟨L, rfl⟩ : ∃ L, K = H ++ L := hkeep.nil_split
    exact fin_drop (.inr rfl) hb rfl (by simp)
end Go.Proofs.GoC
