/-
  What the functions compute: a cache's keys, one by one; collected. No claim by itself. (Printed by mkcache.py.)
-/
import Derived.Test.YtcmbnoloimdlaaaGoCache1
import Derived.Test.YtcmbnoloimdlaaaGoMapR
import Derived.Test.YtcmbnoloimdlaaaSlRange
namespace Go.Proofs.GoC
open Go Go.Proofs.SL
set_option linter.unusedSimpArgs false
set_option linter.unusedVariables false
set_option maxRecDepth 10000
set_option maxHeartbeats 4000000

def CkOk (_ : CKey) : Prop := True
abbrev CksOk (es : Ents) : Prop := ∀ e ∈ es, CkOk e.1
theorem ck0_ok : CkOk ck0 := trivial
theorem ckC_lenH {k : CKey} (_ : CkOk k) : (ckC k).length = 2 := rfl
theorem ckC_takeH {k : CKey} (_ : CkOk k) : List.take 2 (ckC k) = ckC k := rfl
theorem ckC_tagH {k : CKey} (_ : CkOk k) : List.map tagP (ckC k) = [some .s, some (.i .i64)] := rfl
theorem cks_ok {es : Ents} : CksOk es := fun _ _ => trivial
def ordCa (_ : Nat) : List Nat := []
def ordCQ (_ : Nat) : List Nat := []
@[go_sem] theorem ordCQ_eq {n : Nat} : ordCQ n = [] := rfl

theorem mapC_at {L : List (Nat × (CKey × Ent))} {j : Nat} {e : PV × PV} {b : Nat} (h1 : (mapV ckV entV (L.map (·.2)))[j]? = some e) (h2 : (L.map (·.1))[j]? = some b) : ∃ k x, (b, k, x) ∈ L ∧ L[j]? = some (b, k, x) ∧ e = (ckV k, entV x) := by
  unfold mapV at h1
  rw [List.getElem?_map, List.getElem?_map] at h1
  rw [List.getElem?_map] at h2
  cases hL : L[j]? with
  | none => rw [hL] at h2; cases h2
  | some y =>
    obtain ⟨b', k, x⟩ := y
    rw [hL] at h1 h2
    cases h1; cases h2
    exact ⟨k, x, List.mem_of_getElem? hL, rfl, rfl⟩


/-- What was seen grows by one. -/
theorem seenC_perm {seen : List Nat} {b : Nat} {y : CKey × Ent} (hs : b ∉ seen) : ∀ {L : List (Nat × (CKey × Ent))}, (L.map (·.1)).Nodup → (b, y) ∈ L →
    (L.filter fun e => decide (e.1 ∈ seen ++ [b])).Perm ((b, y) :: L.filter fun e => decide (e.1 ∈ seen))
  | [], _, h => by cases h
  | e :: L, hn, h => by
    rw [List.map_cons, List.nodup_cons] at hn
    rcases List.mem_cons.mp h with h | h
    · subst h
      have e1 : (L.filter fun e => decide (e.1 ∈ seen ++ [b])) = L.filter fun e => decide (e.1 ∈ seen) := List.filter_congr fun e he => by
        have : e.1 ≠ b := fun h => hn.1 (by show b ∈ _; rw [← h]; exact List.mem_map_of_mem (f := fun e : Nat × (CKey × Ent) => e.1) he)
        simp [this]
      rw [List.filter_cons_of_pos (by simp), List.filter_cons_of_neg (by simpa using hs), e1]
    · have ih := seenC_perm hs hn.2 h
      have hne : e.1 ≠ b := fun h2 => hn.1 (h2 ▸ List.mem_map_of_mem (f := fun e : Nat × (CKey × Ent) => e.1) h)
      by_cases he : e.1 ∈ seen
      · rw [List.filter_cons_of_pos (by simp [he]), List.filter_cons_of_pos (by simp [he])]
        exact (ih.cons _).trans (List.Perm.swap _ _ _)
      · rw [List.filter_cons_of_neg (by simp [he, hne]), List.filter_cons_of_neg (by simp [he])]
        exact ih
theorem seenC_all {seen : List Nat} {L : List (Nat × (CKey × Ent))} (h : ∀ b ∈ L.map (·.1), b ∈ seen) : (L.filter fun e => decide (e.1 ∈ seen)) = L :=
  List.filter_eq_self.mpr fun e he => decide_eq_true (h e.1 (List.mem_map_of_mem he))

structure KIC where
  H : Heap
  seen : List Nat
  done : List CKey

/-- maps.Keys' iterator: each key is handed to yield once; `J`: what the caller's round keeps. -/
theorem keysC_iter {H : Heap} {y bx m : Nat} {es : Ents} (hy : H[y]? ≠ none) (hbx : H[bx]? = some (some (.cells 0 [.mp m]))) (hm : H[m]? = some (some (.map (mapV ckV entV es)))) (hk : CksOk es) (hn : (es.map (·.1)).Nodup)
    (J : List CKey → Heap → Prop) (F : List Nat) (hFb : bx ∉ F) (hFm : m ∉ F) (hFl : ∀ j ∈ F, j < H.length)
    (hJ : ∀ done Hc Hc', J done Hc → (∀ i, i < H.length → i ≠ m → Hc'[i]? = Hc[i]?) → Hc.length ≤ Hc'.length → J done Hc')
    (hyc : ∀ done Hc k, J done Hc → done.length < es.length → CkOk k → YCall Try.prog y [.agg (ckC k)] Hc fun r H' => r = .bool true ∧ J (done ++ [k]) H' ∧ Keeps F Hc H')
    (h0 : J [] H) :
    SCall Try.prog 43 [.yld y, .ptr bx 0 0] H fun _ H' => (∃ done : List CKey, J done H' ∧ done.Perm (es.map (·.1))) ∧ H'[m]? = some (some (.map (mapV ckV entV es))) ∧ Keeps (m :: F) H H' := by
  have hml := lt_of_get hm
  have hbl := lt_of_get hbx
  have hbm : bx ≠ m := fun e => by rw [e, hm] at hbx; cases hbx
  have ob := obj_of hbx
  refine scall_of (T := tdOf Try.prog) (ord := ordCa) (rs := []) Try.func43 rfl (by kernel_rfl) (by kernel_rfl) (by kernel_rfl) Try.ntmps43 fun hb hargs => ?_
  refine Runs.births (by rfl) hm fun n bs hbl' hlt hpw => ?_
  have hlen : bs.length = es.length := by simpa [mapV] using hbl'
  obtain ⟨L, hL1, hL2⟩ : ∃ L : List (Nat × (CKey × Ent)), L.map (·.1) = bs ∧ L.map (·.2) = es := ⟨bs.zip es, by rw [List.map_fst_zip (by omega)], by rw [List.map_snd_zip (by omega)]⟩
  subst hL1
  subst hL2
  have hbn : (L.map (·.1)).Nodup := hpw.imp fun h => Nat.ne_of_lt h
  have hall : (List.map (fun x => x.1) L).all (fun b => decide (b < n)) = true := by
    rw [List.all_eq_true]
    intro b hb
    exact decide_eq_true (hlt b hb)
  refine go 200 (fun _ => false) mixed ?_
  simp (disch := omega) only [↓reduceIte, go_sem, ob] <;> repeat with_reducible refine And.intro (by first | omega | decide) ?_
  refine runs_loopA (fun a : KIC => a.H[m]? = some (some (.mapx n (L.map (·.1)) (mapV ckV entV (L.map (·.2))))) ∧ a.H[H.length]? = some (some (.mapit m n a.seen n)) ∧ J a.done a.H ∧ a.done.Perm ((L.filter fun e => decide (e.1 ∈ a.seen)).map (·.2.1)) ∧ Keeps (m :: F) H a.H) (fun a => leftN a.seen L)
    [true, false, false, false, false, true] (fun a => slots 14 [.yld y, .any, .any, .any, .any, .ptr H.length 0 0]) (fun a => a.H) (by rfl) ⟨_, [], []⟩
    ⟨by show _ = _; rw [get_app_lt (by simpa using hml), get_set_self hml], by rw [get_tail0s]; rfl, ?_, ?_, (Keeps.setF (by simp)).trans Keeps.app⟩ rfl rfl ?_
  · refine hJ _ _ _ h0 (fun i hi hne => ?_) (by simp)
    show (_ ++ _)[i]? = _
    rw [get_app_lt (by simpa using hi), get_set_ne (Ne.symm hne)]
  · have : (L.filter fun e => decide (e.1 ∈ ([] : List Nat))) = [] := List.filter_eq_nil_iff.mpr fun e _ => by simp
    show ([] : List CKey).Perm _
    rw [this]
    exact List.Perm.refl _
  rintro ⟨Ha, seen, done⟩ ⟨h1, h2, hJd, hperm, h3⟩
  change Ha[m]? = _ at h1
  change Ha[H.length]? = _ at h2
  change J done Ha at hJd
  change Keeps (m :: F) H Ha at h3
  have hma : m < Ha.length := lt_of_get h1
  have hia : H.length < Ha.length := lt_of_get h2
  have hmH : m ≠ H.length := by omega
  refine go 200 (fun _ => false) mixed ?_
  simp (disch := omega) only [↓reduceIte, go_sem, h1, h2, hall] <;> repeat with_reducible refine And.intro (by first | omega | decide) ?_
  rintro v H' (⟨rfl, rfl, hend⟩ | ⟨j', b, e, he, hb', hs, rfl, rfl⟩)
  · refine go 200 (fun _ => false) mixed ?_
    simp (disch := omega) only [↓reduceIte, go_sem] <;> repeat with_reducible refine And.intro (by first | omega | decide) ?_
    refine go 200 (fun _ => false) mixed ?_
    simp (disch := omega) only [↓reduceIte, go_sem] <;> repeat with_reducible refine And.intro (by first | omega | decide) ?_
    refine ⟨trivial, _, _, Ghost.unborn h1, ⟨done, hJ _ _ _ hJd (fun i hi hne => get_set_ne (Ne.symm hne)) (by simp), ?_⟩, get_set_self hma, h3.trans (Keeps.setF (by simp))⟩
    have hp : done.Perm ((L.filter fun e => decide (e.1 ∈ seen)).map (·.2.1)) := hperm
    rw [seenC_all hend] at hp
    rw [List.map_map]
    exact hp
  · obtain ⟨k, x, hmem, hat, rfl⟩ := mapC_at he hb'
    have hkk : CkOk k := hk (k, x) (List.mem_map_of_mem (f := fun e : Nat × (CKey × Ent) => e.2) hmem)
    have hfb : findB b (List.map (fun x => x.1) L) (mapV ckV entV (List.map (fun x => x.2) L)) = some (ckV k, entV x) := findB_of hpw hb' he
    have hgl : (seen ++ [b]).getLast? = some b := by simp
    have kl := ckC_lenH hkk
    have kt := ckC_takeH hkk
    have hJ1 : J done (Ha.set H.length (some (.mapit m n (seen ++ [b]) n)) ++ [some (.cells 0 (ckC k))]) := hJ _ _ _ hJd (fun i hi hne => by
      rw [get_app_lt (by simp; omega), get_set_ne (by omega)]) (by simp)
    have hdl : done.length < (List.map (fun x => x.2) L).length := by
      have p1 : done.Perm ((L.filter fun e => decide (e.1 ∈ seen)).map (·.2.1)) := hperm
      have p2 := p1.length_eq
      have p3 := (seenC_perm hs hbn hmem).length_eq
      have p4 := List.length_filter_le (fun e : Nat × (CKey × Ent) => decide (e.1 ∈ seen ++ [b])) L
      rw [List.length_map] at p2 ⊢
      simp only [List.length_cons] at p3
      omega
    have hc := hyc done _ k hJ1 hdl hkk
    have hlt' := left_lt hs (L := L) (List.mem_map_of_mem (f := fun e : Nat × (CKey × Ent) => e.1) hmem)
    refine go 200 (fun _ => false) mixed ?_
    simp (disch := omega) only [↓reduceIte, go_sem, h1, hfb, hgl, kl, kt, ckV, entV, ckC_one] <;> repeat with_reducible refine And.intro (by first | omega | decide) ?_
    refine hc.mono fun r H5 ⟨e1, hJ5, k5⟩ => ?_
    rw [e1]
    refine go 200 (fun _ => false) mixed ?_
    simp (disch := omega) only [↓reduceIte, go_sem] <;> repeat with_reducible refine And.intro (by first | omega | decide) ?_
    have hFH : H.length ∉ F := fun h => by have := hFl _ h; omega
    refine rnd_next ⟨H5, seen ++ [b], done ++ [k]⟩ ⟨?_, ?_, hJ5, ?_, ?_⟩ hlt' rfl rfl
    · exact k5.get (by rw [get_app_lt (by simpa using hma), get_set_ne (Ne.symm hmH)]; exact h1) hFm
    · exact k5.get (by rw [get_app_lt (by simpa using hia), get_set_self hia]) hFH
    · have hp : done.Perm ((L.filter fun e => decide (e.1 ∈ seen)).map (·.2.1)) := hperm
      have h6 := (seenC_perm hs hbn hmem).map (·.2.1)
      refine List.Perm.trans ?_ h6.symm
      rw [List.map_cons]
      exact (List.perm_append_comm).trans (hp.cons k)
    · have h7 : Keeps (H.length :: m :: F) H H5 := ((h3.mono (by intro j hj; exact .inl (List.mem_cons_of_mem _ hj))).trans ((Keeps.setF (i := H.length) (by simp)).trans Keeps.app)).trans (k5.mono (by intro j hj; exact .inl (List.mem_cons_of_mem _ (List.mem_cons_of_mem _ hj))))
      exact h7.mono fun j hj => by
        rcases List.mem_cons.mp hj with rfl | hj
        · exact .inr (Nat.le_refl _)
        · exact .inl hj

def cksW (l : List CKey) : List PV := l.map ckV

theorem appendC_seq {H : Heap} {bx m : Nat} {es : Ents} (hbx : H[bx]? = some (some (.cells 0 [.mp m]))) (hm : H[m]? = some (some (.map (mapV ckV entV es)))) (hk : CksOk es) (hn : (es.map (·.1)).Nodup) (hl : es.length < 1000000) :
    SCall Try.prog 48 [.nils, .func (.func 43) [] [.ptr bx 0 0]] H fun r H' =>
      ∃ (done : List CKey) (ob : Nat), r = .buf ob done.length 0 done.length 2 true ∧ H'[ob]? = some (some (.cells done.length (flat (cksW done)))) ∧ done.Perm (es.map (·.1)) ∧ H'[m]? = some (some (.map (mapV ckV entV es))) ∧ Keeps [m] H H' ∧ H.length ≤ ob := by
  refine scall_of (T := tdOf Try.prog) (ord := ordCa) (rs := [4]) Try.func48 rfl (by kernel_rfl) (by kernel_rfl) (by kernel_rfl) Try.ntmps48 fun hb hargs => ?_
  refine go 14 (fun _ => false) mixed ?_
  simp (disch := omega) only [↓reduceIte, go_sem] <;> repeat with_reducible refine And.intro (by first | omega | decide) ?_
  have hml := lt_of_get hm
  have hbl := lt_of_get hbx
  refine Runs.ghost (by rfl) (Ghost.growCell (i := H.length) (ver := 0) (cs := [.nils]) 0 2 (by rw [get_tail0]; rfl) rfl) ?_
  have e0 : (H ++ [some (OB.cells 0 [PV.nils])]).length = H.length + 1 := by simp
  simp only [e0, set_tail0, List.set_cons_zero, List.append_assoc, List.cons_append, List.nil_append]
  refine runs_rangeFunc (by rfl) (by rfl) rfl ?_
  have e1 : (H ++ [some (OB.cells 0 [PV.buf (H.length + 1) 0 0 0 2 true]), some (OB.cells 0 [])]).length = H.length + 2 := by simp
  simp only [e1, List.append_assoc, List.cons_append, List.nil_append]
  generalize hA : Code.region 2 _ false = A
  generalize hB : Code.block 1 _ = B
  generalize hS : PV.nils :: PV.func _ _ _ :: _ = S
  have hbm : bx ≠ m := fun e => by rw [e, hm] at hbx; cases hbx
  refine (keysC_iter (H := H ++ [some (.cells 0 [.buf (H.length + 1) 0 0 0 2 true]), some (.cells 0 []), some (.lrec .ready none S [7] A B)]) (by rw [get_tail]; simp) (get_app hbx) (get_app hm) hk hn
    (fun done Hc => Hc[H.length]? = some (some (.cells 0 [.buf (H.length + 1) done.length 0 done.length 2 true])) ∧ Hc[H.length + 1]? = some (some (.cells done.length (flat (cksW done)))) ∧ Hc[H.length + 2]? = some (some (.lrec .ready none S [7] A B)) ∧ ∀ q ∈ done, CkOk q)
    [H.length, H.length + 1, H.length + 2] (by simp; omega) (by simp; omega) (by simp) ?_ ?_ ?_).mono ?_
  · rintro done Hc Hc' ⟨j1, j2, j3, j4⟩ hs _
    exact ⟨(hs _ (by simp) (by omega)).trans j1, (hs _ (by simp) (by omega)).trans j2, (hs _ (by simp) (by omega)).trans j3, j4⟩
  · rintro done Hc k ⟨j1, j2, j3, j4⟩ hdl hkk
    refine ycall_of (T := tdOf Try.prog) ordCa j3 rfl ?_ ?_ fun hb2 => ?_
    · subst hA; kernel_rfl
    · subst hB; kernel_rfl
    · have kl := ckC_lenH hkk
      have kt := ckC_takeH hkk
      have l1 := lt_of_get j1
      have l2 := lt_of_get j2
      have l3 := lt_of_get j3
      have o1 := obj_of j1
      have o2 := obj_of j2
      have hfl : (flat (cksW done)).length = done.length * 2 := (flat_length (m := 2) fun x hx => by
        obtain ⟨q, hq, rfl⟩ := List.mem_map.mp hx
        exact ckC_lenH (j4 q hq)).trans (by simp [cksW])
      subst hA
      subst hB
      subst hS
      simp only [setMany, List.zip_cons_cons, List.zip_nil_right, List.foldl_cons, List.foldl_nil, List.set_cons_succ, List.set_cons_zero]
      refine go 200 (fun _ => false) mixed ?_
      simp (disch := omega) only [↓reduceIte, go_sem, kl, kt, ckC_one, j3] <;> repeat with_reducible refine And.intro (by first | omega | decide) ?_
      have lsl : (Hc.set (H.length + 2) (some (OB.lrec LoopState.busy none [PV.nils] [7] .skip .skip))).length = Hc.length := by simp
      refine go 200 (fun _ => false) mixed ?_
      simp (disch := omega) only [↓reduceIte, go_sem, o1, o2, kl, kt, ckC_one, hfl, most] <;> repeat with_reducible refine And.intro (by first | omega | decide) ?_
      have ed : (done ++ [k]).length = done.length + 1 := by simp
      have ef : flat (cksW (done ++ [k])) = flat (cksW done) ++ ckC k := by simp [cksW, flat, ckV, PV.cells]
      refine ⟨_, _, Ghost.refl, ?_, rfl, ⟨?_, ?_, ?_, fun q hq => ?_⟩, ?_⟩
      · rw [get_app_lt (by simpa using l3), get_set_ne (by omega), get_set_ne (by omega), get_set_self l3]
      · rw [ed, get_set_ne (by omega), get_app_lt (by simpa using l1), get_set_self (by simpa using l1)]
      · rw [ed, ef, get_set_ne (by omega), get_app_lt (by simpa using l2), get_set_ne (by omega), get_set_self (by simpa using l2)]
      · rw [get_set_self (by simp; omega)]
      · rcases List.mem_append.mp hq with hq | hq
        · exact j4 q hq
        · simp only [List.mem_singleton] at hq; subst hq; exact hkk
      · exact (Keeps.setF (by simp)).trans ((Keeps.setF (by simp)).trans ((Keeps.setF (by simp)).trans (Keeps.app.trans (Keeps.setF (by simp)))))
  · exact ⟨by rw [get_tail0]; rfl, by rw [get_tail]; rfl, by rw [get_tail]; rfl, by intro q hq; cases hq⟩
  · rintro r H2 ⟨⟨done, ⟨j1, j2, j3, j4⟩, hp⟩, hm2, hk2⟩
    refine ⟨.ready, none, by simp, j3, ?_⟩
    subst hS
    have o1 := obj_of j1
    dsimp only
    refine go 200 (fun _ => false) mixed ?_
    simp (disch := omega) only [↓reduceIte, go_sem, o1] <;> repeat with_reducible refine And.intro (by first | omega | decide) ?_
    refine Ends.same (.inr rfl) ⟨done, H.length + 1, rfl, ?_, hp, ?_, ?_, by omega⟩
    · rw [get_set_ne (by omega)]; exact j2
    · rw [get_set_ne (by omega)]; exact hm2
    · exact ((Keeps.app (F := [H.length, H.length + 1, H.length + 2, m])).trans ((hk2.mono (by simp)).trans (Keeps.setF (by simp)))).mono (by simp)
end Go.Proofs.GoC
