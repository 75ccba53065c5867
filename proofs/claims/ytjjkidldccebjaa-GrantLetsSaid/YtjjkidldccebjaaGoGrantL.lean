/-
  What the functions compute: a book's keys are collected. No claim by itself. (begun)
-/
import Derived.Test.YtjjkidldccebjaaGoGrantK
namespace Go.Proofs.GoC
open Go Go.Proofs.SL
set_option linter.unusedSimpArgs false
set_option linter.unusedVariables false
set_option maxRecDepth 10000
set_option maxHeartbeats 4000000

def ksW (l : List GKey) : List PV := l.map keyV

theorem append_seq {H : Heap} {bx m : Nat} {es : Grants} (hbx : H[bx]? = some (some (.cells 0 [.mp m]))) (hm : H[m]? = some (some (.map (mapV keyV untV es)))) (hk : KeysOk es) (hn : (es.map (·.1)).Nodup) (hl : es.length < 1000000) :
    SCall Try.prog 49 [.nils, .func (.func 48) [] [.ptr bx 0 0]] H fun r H' =>
      ∃ (done : List GKey) (ob : Nat), r = .buf ob done.length 0 done.length 24 true ∧ H'[ob]? = some (some (.cells done.length (flat (ksW done)))) ∧ done.Perm (es.map (·.1)) ∧ H'[m]? = some (some (.map (mapV keyV untV es))) ∧ Keeps [m] H H' ∧ H.length ≤ ob := by
  refine scall_of (T := tdOf Try.prog) (ord := ordGr) (rs := [4]) Try.func49 rfl (by kernel_rfl) (by kernel_rfl) (by kernel_rfl) Try.ntmps49 fun hb hargs => ?_
  refine go 14 (fun _ => false) mixed ?_
  simp (disch := omega) only [↓reduceIte, go_sem] <;> repeat with_reducible refine And.intro (by first | omega | decide) ?_
  have hml := lt_of_get hm
  have hbl := lt_of_get hbx
  refine Runs.ghost (by rfl) (Ghost.growCell (i := H.length) (ver := 0) (cs := [.nils]) 0 24 (by rw [get_tail0]; rfl) rfl) ?_
  have e0 : (H ++ [some (OB.cells 0 [PV.nils])]).length = H.length + 1 := by simp
  simp only [e0, set_tail0, List.set_cons_zero, List.append_assoc, List.cons_append, List.nil_append]
  refine runs_rangeFunc (by rfl) (by rfl) rfl ?_
  have e1 : (H ++ [some (OB.cells 0 [PV.buf (H.length + 1) 0 0 0 24 true]), some (OB.cells 0 [])]).length = H.length + 2 := by simp
  simp only [e1, List.append_assoc, List.cons_append, List.nil_append]
  generalize hA : Code.region 2 _ false = A
  generalize hB : Code.block 1 _ = B
  generalize hS : PV.nils :: PV.func _ _ _ :: _ = S
  have hbm : bx ≠ m := fun e => by rw [e, hm] at hbx; cases hbx
  refine (keys_iter (H := H ++ [some (.cells 0 [.buf (H.length + 1) 0 0 0 24 true]), some (.cells 0 []), some (.lrec .ready none S [7] A B)]) (by rw [get_tail]; simp) (get_app hbx) (get_app hm) hk hn
    (fun done Hc => Hc[H.length]? = some (some (.cells 0 [.buf (H.length + 1) done.length 0 done.length 24 true])) ∧ Hc[H.length + 1]? = some (some (.cells done.length (flat (ksW done)))) ∧ Hc[H.length + 2]? = some (some (.lrec .ready none S [7] A B)) ∧ ∀ q ∈ done, KeyOk q)
    [H.length, H.length + 1, H.length + 2] (by simp; omega) (by simp; omega) (by simp) ?_ ?_ ?_).mono ?_
  · rintro done Hc Hc' ⟨j1, j2, j3, j4⟩ hs _
    exact ⟨(hs _ (by simp) (by omega)).trans j1, (hs _ (by simp) (by omega)).trans j2, (hs _ (by simp) (by omega)).trans j3, j4⟩
  · rintro done Hc k ⟨j1, j2, j3, j4⟩ hdl hkk
    refine ycall_of (T := tdOf Try.prog) ordGr j3 rfl ?_ ?_ fun hb2 => ?_
    · subst hA; kernel_rfl
    · subst hB; kernel_rfl
    · have kl := keyC_len hkk
      have kt := keyC_take hkk
      have l1 := lt_of_get j1
      have l2 := lt_of_get j2
      have l3 := lt_of_get j3
      have o1 := obj_of j1
      have o2 := obj_of j2
      have hfl : (flat (ksW done)).length = done.length * 24 := (flat_length (m := 24) fun x hx => by
        obtain ⟨q, hq, rfl⟩ := List.mem_map.mp hx
        exact keyC_len (j4 q hq)).trans (by simp [ksW])
      subst hA
      subst hB
      subst hS
      simp only [setMany, List.zip_cons_cons, List.zip_nil_right, List.foldl_cons, List.foldl_nil, List.set_cons_succ, List.set_cons_zero]
      refine go 200 (fun _ => false) mixed ?_
      simp (disch := omega) only [↓reduceIte, go_sem, kl, kt, keyC_one, j3] <;> repeat with_reducible refine And.intro (by first | omega | decide) ?_
      have lsl : (Hc.set (H.length + 2) (some (OB.lrec LoopState.busy none [PV.nils] [7] .skip .skip))).length = Hc.length := by simp
      refine go 200 (fun _ => false) mixed ?_
      simp (disch := omega) only [↓reduceIte, go_sem, o1, o2, kl, kt, keyC_one, hfl, most] <;> repeat with_reducible refine And.intro (by first | omega | decide) ?_
      have ed : (done ++ [k]).length = done.length + 1 := by simp
      have ef : flat (ksW (done ++ [k])) = flat (ksW done) ++ keyC k := by simp [ksW, flat, keyV, PV.cells]
      refine ⟨_, _, Ghost.refl, ?_, rfl, ⟨?_, ?_, ?_, fun q hq => ?_⟩, ?_⟩
      · rw [get_app_lt (by simpa using l3), get_set_ne (by omega), get_set_ne (by omega), get_set_self l3]
      · rw [ed, get_set_ne (by omega), get_app_lt (by simpa using l1), get_set_self (by simpa using l1)]
      · rw [ed, ef, get_set_ne (by omega), get_app_lt (by simpa using l2), get_set_ne (by omega), get_set_self (by simpa using l2)]
      · rw [get_set_self (by simp; omega)]
      · rcases List.mem_append.mp hq with hq | hq
        · exact j4 q hq
        · simp only [List.mem_singleton] at hq; subst hq; exact hkk
      · exact (Keeps.setF (by simp)).trans ((Keeps.setF (by simp)).trans ((Keeps.setF (by simp)).trans (Keeps.app.trans (Keeps.setF (by simp)))))
  · exact ⟨by rw [get_tail0]; rfl, by rw [get_tail]; rfl, by rw [get_tail]; rfl, by intro q hq; cases hq⟩
  · rintro r H2 ⟨⟨done, ⟨j1, j2, j3, j4⟩, hp⟩, hm2, hk2⟩
    refine ⟨.ready, none, by simp, j3, ?_⟩
    subst hS
    have o1 := obj_of j1
    dsimp only
    refine go 200 (fun _ => false) mixed ?_
    simp (disch := omega) only [↓reduceIte, go_sem, o1] <;> repeat with_reducible refine And.intro (by first | omega | decide) ?_
    refine Ends.same (.inr rfl) ⟨done, H.length + 1, rfl, ?_, hp, ?_, ?_, by omega⟩
    · rw [get_set_ne (by omega)]; exact j2
    · rw [get_set_ne (by omega)]; exact hm2
    · exact ((Keeps.app (F := [H.length, H.length + 1, H.length + 2, m])).trans ((hk2.mono (by simp)).trans (Keeps.setF (by simp)))).mono (by simp)
end Go.Proofs.GoC
