/-
  What the functions compute: a book's keys, one by one. No claim by itself. (begun)
-/
import Derived.Test.YtjjkidldccebjaaGoGrantD
import Derived.Test.YtjjkidldccebjaaSlRange
namespace Go.Proofs.GoC
open Go Go.Proofs.SL
set_option linter.unusedSimpArgs false
set_option linter.unusedVariables false
set_option maxRecDepth 10000
set_option maxHeartbeats 4000000

/-- What was seen grows by one. -/
theorem seen_perm {seen : List Nat} {b : Nat} {y : GKey × Int} (hs : b ∉ seen) : ∀ {L : List (Nat × (GKey × Int))}, (L.map (·.1)).Nodup → (b, y) ∈ L →
    (L.filter fun e => decide (e.1 ∈ seen ++ [b])).Perm ((b, y) :: L.filter fun e => decide (e.1 ∈ seen))
  | [], _, h => by cases h
  | e :: L, hn, h => by
    rw [List.map_cons, List.nodup_cons] at hn
    rcases List.mem_cons.mp h with h | h
    · subst h
      have e1 : (L.filter fun e => decide (e.1 ∈ seen ++ [b])) = L.filter fun e => decide (e.1 ∈ seen) := List.filter_congr fun e he => by
        have : e.1 ≠ b := fun h => hn.1 (by show b ∈ _; rw [← h]; exact List.mem_map_of_mem (f := fun e : Nat × (GKey × Int) => e.1) he)
        simp [this]
      rw [List.filter_cons_of_pos (by simp), List.filter_cons_of_neg (by simpa using hs), e1]
    · have ih := seen_perm hs hn.2 h
      have hne : e.1 ≠ b := fun h2 => hn.1 (h2 ▸ List.mem_map_of_mem (f := fun e : Nat × (GKey × Int) => e.1) h)
      by_cases he : e.1 ∈ seen
      · rw [List.filter_cons_of_pos (by simp [he]), List.filter_cons_of_pos (by simp [he])]
        exact (ih.cons _).trans (List.Perm.swap _ _ _)
      · rw [List.filter_cons_of_neg (by simp [he, hne]), List.filter_cons_of_neg (by simp [he])]
        exact ih
theorem seen_all {seen : List Nat} {L : List (Nat × (GKey × Int))} (h : ∀ b ∈ L.map (·.1), b ∈ seen) : (L.filter fun e => decide (e.1 ∈ seen)) = L :=
  List.filter_eq_self.mpr fun e he => decide_eq_true (h e.1 (List.mem_map_of_mem he))

structure KI where
  H : Heap
  seen : List Nat
  done : List GKey

/-- maps.Keys' iterator: each key is handed to yield once; `J`: what the caller's round keeps. -/
theorem keys_iter {H : Heap} {y bx m : Nat} {es : Grants} (hy : H[y]? ≠ none) (hbx : H[bx]? = some (some (.cells 0 [.mp m]))) (hm : H[m]? = some (some (.map (mapV keyV untV es)))) (hk : KeysOk es) (hn : (es.map (·.1)).Nodup)
    (J : List GKey → Heap → Prop) (F : List Nat) (hFb : bx ∉ F) (hFm : m ∉ F) (hFl : ∀ j ∈ F, j < H.length)
    (hJ : ∀ done Hc Hc', J done Hc → (∀ i, i < H.length → i ≠ m → Hc'[i]? = Hc[i]?) → Hc.length ≤ Hc'.length → J done Hc')
    (hyc : ∀ done Hc k, J done Hc → done.length < es.length → KeyOk k → YCall Try.prog y [.agg (keyC k)] Hc fun r H' => r = .bool true ∧ J (done ++ [k]) H' ∧ Keeps F Hc H')
    (h0 : J [] H) :
    SCall Try.prog 48 [.yld y, .ptr bx 0 0] H fun _ H' => (∃ done : List GKey, J done H' ∧ done.Perm (es.map (·.1))) ∧ H'[m]? = some (some (.map (mapV keyV untV es))) ∧ Keeps (m :: F) H H' := by
  have hml := lt_of_get hm
  have hbl := lt_of_get hbx
  have hbm : bx ≠ m := fun e => by rw [e, hm] at hbx; cases hbx
  have ob := obj_of hbx
  refine scall_of (T := tdOf Try.prog) (ord := ordGr) (rs := []) Try.func48 rfl (by kernel_rfl) (by kernel_rfl) (by kernel_rfl) Try.ntmps48 fun hb hargs => ?_
  refine Runs.births (by rfl) hm fun n bs hbl' hlt hpw => ?_
  have hlen : bs.length = es.length := by simpa [mapV] using hbl'
  obtain ⟨L, hL1, hL2⟩ : ∃ L : List (Nat × (GKey × Int)), L.map (·.1) = bs ∧ L.map (·.2) = es := ⟨bs.zip es, by rw [List.map_fst_zip (by omega)], by rw [List.map_snd_zip (by omega)]⟩
  subst hL1
  subst hL2
  have hbn : (L.map (·.1)).Nodup := hpw.imp fun h => Nat.ne_of_lt h
  have hall : (List.map (fun x => x.1) L).all (fun b => decide (b < n)) = true := by
    rw [List.all_eq_true]
    intro b hb
    exact decide_eq_true (hlt b hb)
  refine go 200 (fun _ => false) mixed ?_
  simp (disch := omega) only [↓reduceIte, go_sem, ob] <;> repeat with_reducible refine And.intro (by first | omega | decide) ?_
  refine runs_loopA (fun a : KI => a.H[m]? = some (some (.mapx n (L.map (·.1)) (mapV keyV untV (L.map (·.2))))) ∧ a.H[H.length]? = some (some (.mapit m n a.seen n)) ∧ J a.done a.H ∧ a.done.Perm ((L.filter fun e => decide (e.1 ∈ a.seen)).map (·.2.1)) ∧ Keeps (m :: F) H a.H) (fun a => leftN a.seen L)
    [true, false, false, false, false, true] (fun a => slots 14 [.yld y, .any, .any, .any, .any, .ptr H.length 0 0]) (fun a => a.H) (by rfl) ⟨_, [], []⟩
    ⟨by show _ = _; rw [get_app_lt (by simpa using hml), get_set_self hml], by rw [get_tail0s]; rfl, ?_, ?_, (Keeps.setF (by simp)).trans Keeps.app⟩ rfl rfl ?_
  · refine hJ _ _ _ h0 (fun i hi hne => ?_) (by simp)
    show (_ ++ _)[i]? = _
    rw [get_app_lt (by simpa using hi), get_set_ne (Ne.symm hne)]
  · have : (L.filter fun e => decide (e.1 ∈ ([] : List Nat))) = [] := List.filter_eq_nil_iff.mpr fun e _ => by simp
    show ([] : List GKey).Perm _
    rw [this]
    exact List.Perm.refl _
  rintro ⟨Ha, seen, done⟩ ⟨h1, h2, hJd, hperm, h3⟩
  change Ha[m]? = _ at h1
  change Ha[H.length]? = _ at h2
  change J done Ha at hJd
  change Keeps (m :: F) H Ha at h3
  have hma : m < Ha.length := lt_of_get h1
  have hia : H.length < Ha.length := lt_of_get h2
  have hmH : m ≠ H.length := by omega
  refine go 200 (fun _ => false) mixed ?_
  simp (disch := omega) only [↓reduceIte, go_sem, h1, h2, hall] <;> repeat with_reducible refine And.intro (by first | omega | decide) ?_
  rintro v H' (⟨rfl, rfl, hend⟩ | ⟨j', b, e, he, hb', hs, rfl, rfl⟩)
  · refine go 200 (fun _ => false) mixed ?_
    simp (disch := omega) only [↓reduceIte, go_sem] <;> repeat with_reducible refine And.intro (by first | omega | decide) ?_
    refine go 200 (fun _ => false) mixed ?_
    simp (disch := omega) only [↓reduceIte, go_sem] <;> repeat with_reducible refine And.intro (by first | omega | decide) ?_
    refine ⟨trivial, _, _, Ghost.unborn h1, ⟨done, hJ _ _ _ hJd (fun i hi hne => get_set_ne (Ne.symm hne)) (by simp), ?_⟩, get_set_self hma, h3.trans (Keeps.setF (by simp))⟩
    have hp : done.Perm ((L.filter fun e => decide (e.1 ∈ seen)).map (·.2.1)) := hperm
    rw [seen_all hend] at hp
    rw [List.map_map]
    exact hp
  · obtain ⟨k, x, hmem, hat, rfl⟩ := mapV_at he hb'
    have hkk : KeyOk k := hk (k, x) (List.mem_map_of_mem (f := fun e : Nat × (GKey × Int) => e.2) hmem)
    have hfb : findB b (List.map (fun x => x.1) L) (mapV keyV untV (List.map (fun x => x.2) L)) = some (keyV k, untV x) := findB_of hpw hb' he
    have hgl : (seen ++ [b]).getLast? = some b := by simp
    have kl := keyC_len hkk
    have kt := keyC_take hkk
    have hJ1 : J done (Ha.set H.length (some (.mapit m n (seen ++ [b]) n)) ++ [some (.cells 0 (keyC k))]) := hJ _ _ _ hJd (fun i hi hne => by
      rw [get_app_lt (by simp; omega), get_set_ne (by omega)]) (by simp)
    have hdl : done.length < (List.map (fun x => x.2) L).length := by
      have p1 : done.Perm ((L.filter fun e => decide (e.1 ∈ seen)).map (·.2.1)) := hperm
      have p2 := p1.length_eq
      have p3 := (seen_perm hs hbn hmem).length_eq
      have p4 := List.length_filter_le (fun e : Nat × (GKey × Int) => decide (e.1 ∈ seen ++ [b])) L
      rw [List.length_map] at p2 ⊢
      simp only [List.length_cons] at p3
      omega
    have hc := hyc done _ k hJ1 hdl hkk
    have hlt' := left_lt hs (L := L) (List.mem_map_of_mem (f := fun e : Nat × (GKey × Int) => e.1) hmem)
    refine go 200 (fun _ => false) mixed ?_
    simp (disch := omega) only [↓reduceIte, go_sem, h1, hfb, hgl, kl, kt, keyV, untV, keyC_one] <;> repeat with_reducible refine And.intro (by first | omega | decide) ?_
    refine hc.mono fun r H5 ⟨e1, hJ5, k5⟩ => ?_
    rw [e1]
    refine go 200 (fun _ => false) mixed ?_
    simp (disch := omega) only [↓reduceIte, go_sem] <;> repeat with_reducible refine And.intro (by first | omega | decide) ?_
    have hFH : H.length ∉ F := fun h => by have := hFl _ h; omega
    refine rnd_next ⟨H5, seen ++ [b], done ++ [k]⟩ ⟨?_, ?_, hJ5, ?_, ?_⟩ hlt' rfl rfl
    · exact k5.get (by rw [get_app_lt (by simpa using hma), get_set_ne (Ne.symm hmH)]; exact h1) hFm
    · exact k5.get (by rw [get_app_lt (by simpa using hia), get_set_self hia]) hFH
    · have hp : done.Perm ((L.filter fun e => decide (e.1 ∈ seen)).map (·.2.1)) := hperm
      have h6 := (seen_perm hs hbn hmem).map (·.2.1)
      refine List.Perm.trans ?_ h6.symm
      rw [List.map_cons]
      exact (List.perm_append_comm).trans (hp.cons k)
    · have h7 : Keeps (H.length :: m :: F) H H5 := ((h3.mono (by intro j hj; exact .inl (List.mem_cons_of_mem _ hj))).trans ((Keeps.setF (i := H.length) (by simp)).trans Keeps.app)).trans (k5.mono (by intro j hj; exact .inl (List.mem_cons_of_mem _ (List.mem_cons_of_mem _ hj))))
      exact h7.mono fun j hj => by
        rcases List.mem_cons.mp hj with rfl | hj
        · exact .inr (Nat.le_refl _)
        · exact .inl hj
end Go.Proofs.GoC
