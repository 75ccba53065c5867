/-
  What the functions compute: Put with a full book; all of Put. No claim by itself.
-/
import Derived.Test.YtjjkidldccebjaaGoGrantQ
namespace Go.Proofs.GoC
open Go Go.Proofs.SL
set_option linter.unusedSimpArgs false
set_option linter.unusedVariables false
set_option maxRecDepth 10000
set_option maxHeartbeats 4000000

/-- A grant is put where there is no room. -/
theorem put_full {H : Heap} {i j : Nat} {room : Int} {es : Grants} (h : BkAt H i j room es) (hn : (es.map (·.1)).Nodup) (hl : es.length < 1000000) (h0 : 0 < es.length) (k : GKey) (hk : KeyOk k) (until_ now : Int) (hu : now < until_) (hr : (es.length : Int) = room) (hf : findA k es = none) :
    SCall Try.prog 13 [.ptr i 0 0, .agg (keyC k), .int .i64 until_, .int .i64 now] H fun r H' => ∃ es' g b, r = .tup [.agg (keyC g), .bool b] ∧ MkRoom es now es' g b ∧ KeyOk g ∧ BkAt H' i j room (putA k until_ es') ∧ Keeps [j] H H' := by
  have hi := lt_of_get h.cell
  have hj := lt_of_get h.map
  have hne := h.ne
  have oc := obj_of h.cell
  have om := h.map
  have kl := keyC_len hk
  have kt := keyC_take hk
  have kg := keyC_tag hk
  have kb := keysB_ok h.ok
  have k0 := keyC_len key0_ok
  have k0d := key0_drop key0_ok
  have hu2 : ¬ until_ ≤ now := by omega
  have lm : ∀ z, lookM (.agg (keyC k)) z (mapV keyV untV es) = (z, false) := fun z => look_not (vf := untV) key_rep z hf
  refine scall_ofd (ord := ordGr) (tdOf_ok _) (rs := [.cell 8 30, .tmp 9]) Try.func13 rfl (by kernel_rfl) (by kernel_rfl) (by kernel_rfl) Try.ntmps13 fun hb hargs => go 200 (fun _ => false) mixed ?_
  simp (disch := omega) only [↓reduceIte, go_sem, oc, om, ordGr_1, ordGr_5, ordGr_6, ordGr_8, kl, kt, kg, kb, lm, keyC_one, untV, hu2, mapV_len, hr] <;> repeat with_reducible refine And.intro (by first | omega | decide) ?_
  have hB1 : BkAt (H ++ [some (.cells 0 (keyC k)), some (.cells 0 (keyC key0)), some (.cells 0 (keyC key0))]) i j room es := h.app
  refine (c_grant_Book_makeRoom hB1 hn hl h0 now).mono fun r H2 ⟨es', g, b, e1, hmk, hg, hB2, k2⟩ => ?_
  rw [e1]
  have hk2 : H2[H.length]? = some (some (.cells 0 (keyC k))) := k2.get (by rw [get_tail0]; rfl) (by simp; omega)
  have hr2 : H2[H.length + 1]? = some (some (.cells 0 (keyC key0))) := k2.get (by rw [get_tail]; rfl) (by simp; omega)
  have hg2 : H2[H.length + 2]? = some (some (.cells 0 (keyC key0))) := k2.get (by rw [get_tail]; rfl) (by simp; omega)
  have kk2 : Keeps [j] H H2 := (Keeps.app.trans k2).mono (by simp)
  have gl := keyC_len hg
  have gt := keyC_take hg
  have gd := key0_drop hg
  have l2 := lt_of_get hg2
  have og2 := obj_of hg2
  have or2 := obj_of hr2
  have hK : ∃ K, K = H2.set (H.length + 2) (some (.cells 0 (keyC g))) := ⟨_, rfl⟩
  obtain ⟨K, hK⟩ := hK
  have hkK : K[H.length]? = some (some (.cells 0 (keyC k))) := by rw [hK, get_set_ne (by omega)]; exact hk2
  have hrK : K[H.length + 1]? = some (some (.cells 0 (keyC key0))) := by rw [hK, get_set_ne (by omega)]; exact hr2
  have hgK : K[H.length + 2]? = some (some (.cells 0 (keyC g))) := by rw [hK, get_set_self l2]
  have hBK : BkAt K i j room es' := ⟨by rw [hK, get_set_ne (by omega)]; exact hB2.cell, by rw [hK, get_set_ne (by omega)]; exact hB2.map, hB2.ok⟩
  have kkK : Keeps [j] H K := by rw [hK]; exact ((kk2.mono (G := [j, H.length + 2]) (by simp)).trans (Keeps.setF (by simp))).mono (by simp)
  have okK := obj_of hkK
  have orK := obj_of hrK
  have ogK := obj_of hgK
  have ocK := obj_of hBK.cell
  have omK := hBK.map
  have kb2 := keysB_ok hBK.ok
  have lK := lt_of_get hgK
  have jK := lt_of_get omK
  have pm : putM (.agg (keyC k)) (.int .i64 until_) (mapV keyV untV es') = mapV keyV untV (putA k until_ es') := put_map key_rep k until_ es'
  refine go 8 (fun _ => false) mixed ?_
  simp (disch := omega) only [↓reduceIte, go_sem, gl, gt, gd, og2, keyC_one, k0, k0d] <;> repeat with_reducible refine And.intro (by first | omega | decide) ?_
  rw [← hK]
  refine go 200 (fun _ => false) mixed ?_
  simp (disch := omega) only [↓reduceIte, go_sem, gl, gt, gd, ocK, omK, okK, orK, ogK, kl, kt, kg, kb2, pm, keyC_one, k0, k0d, ordGr_8] <;> repeat with_reducible refine And.intro (by first | omega | decide) ?_
  have o4 : obj ((K.set j (some (.map (mapV keyV untV (putA k until_ es'))))).set (H.length + 1) (some (.cells 0 (keyC g)))) (H.length + 1) 0 = some (keyC g) := obj_of (get_set_self (by rw [len_set]; omega))
  have e4 : ∀ x o, x ≠ j → x ≠ H.length + 1 → K[x]? = some (some o) → ((K.set j (some (.map (mapV keyV untV (putA k until_ es'))))).set (H.length + 1) (some (.cells 0 (keyC g))))[x]? = some (some o) := fun x o h1 h2 h3 => by
    rw [get_set_ne (Ne.symm h2), get_set_ne (Ne.symm h1)]; exact h3
  refine EndsD.same (r := .tup [.agg (keyC g), .bool b]) (.inr rfl) (by simp (disch := omega) only [↓reduceIte, go_sem, o4, gl, gt] <;> repeat with_reducible refine And.intro (by first | omega | decide) ?_) ⟨es', g, b, rfl, hmk, hg, ⟨e4 _ _ hne (by omega) hBK.cell, ?_, put_ok hk hBK.ok⟩, ?_⟩
  · rw [get_set_ne (by omega), get_set_self jK]
  · exact ((kkK.mono (G := [j, H.length + 1]) (by simp)).trans ((Keeps.setF (by simp)).trans (Keeps.setF (by simp)))).mono (by simp)

/-- What is over is not put. -/
theorem put_late {H : Heap} {i j : Nat} {room : Int} {es : Grants} (h : BkAt H i j room es) (k : GKey) (hk : KeyOk k) (until_ now : Int) (hu : until_ ≤ now) :
    SCall Try.prog 13 [.ptr i 0 0, .agg (keyC k), .int .i64 until_, .int .i64 now] H fun r H' => r = .tup [.agg (keyC key0), .bool false] ∧ BkAt H' i j room es ∧ Keeps [j] H H' := by
  have hi := lt_of_get h.cell
  have hj := lt_of_get h.map
  have hne := h.ne
  have oc := obj_of h.cell
  have om := h.map
  have kl := keyC_len hk
  have kt := keyC_take hk
  refine scall_ofd (ord := ordGr) (tdOf_ok _) (rs := [.cell 8 30, .tmp 9]) Try.func13 rfl (by kernel_rfl) (by kernel_rfl) (by kernel_rfl) Try.ntmps13 fun hb hargs => go 200 (fun _ => false) mixed ?_
  simp (disch := omega) only [↓reduceIte, go_sem, oc, om, ordGr_1, ordGr_5, ordGr_6, ordGr_8, kl, kt, keyC_one, untV, hu] <;> repeat with_reducible refine And.intro (by first | omega | decide) ?_
  exact EndsD.same (.inr rfl) (by simp (disch := omega) only [↓reduceIte, go_sem, keyC_0] <;> repeat with_reducible refine And.intro (by first | omega | decide) ?_) ⟨rfl, ⟨by rw [List.getElem?_append_left hi]; exact h.cell, by rw [List.getElem?_append_left hj]; exact h.map, h.ok⟩, Keeps.app⟩

theorem c_grant_Book_Put {H : Heap} {i j : Nat} {room : Int} {es gs : Grants} (h : BkAt H i j room es) (hs : Same3 room es gs) (r1 : 1 ≤ room) (r2 : room ≤ 64) (k : GKey) (hk : KeyOk k) (u now : Int) :
    SCall Try.prog 13 [.ptr i 0 0, .agg (keyC k), .int .i64 u, .int .i64 now] H fun r H' => ∃ es', r = .tup [.agg (keyC (putR room gs k u now).2.1), .bool (putR room gs k u now).2.2] ∧ BkAt H' i j room es' ∧ Same3 room es' (putR room gs k u now).1 ∧ KeyOk (putR room gs k u now).2.1 ∧ Keeps [j] H H' := by
  have hlen := hs.two.len
  have hle := hs.len
  by_cases hu : u ≤ now
  · have e : putR room gs k u now = (gs, key0, false) := by unfold putR; rw [if_pos hu]
    rw [e]
    exact (put_late h k hk u now hu).mono fun r H' ⟨e1, e2, e3⟩ => ⟨es, e1, e2, hs, key0_ok, e3⟩
  · by_cases hk2 : k ∈ gs.map (·.1) ∨ (gs.length : Int) ≠ room
    · obtain ⟨p1, p2⟩ := hs.put hk (u := u) (now := now) (by omega) hk2
      rw [p1]
      refine (put_room h k hk u now ?_).mono fun r H' ⟨e1, e2, e3⟩ => ⟨_, e1, ?_, p2, key0_ok, e3⟩
      · rcases hk2 with h1 | h1
        · refine .inr ?_
          have h2 : k ∈ es.map (·.1) := (hs.two.perm.map _).mem_iff.mpr h1
          cases hf : findA k es with
          | some x => rfl
          | none => exact absurd h2 (find_none.mp hf)
        · exact .inl (by omega)
      · rw [if_neg hu] at e2; exact e2
    · rw [not_or] at hk2
      have hfull : (gs.length : Int) = room := Classical.not_not.mp hk2.2
      have hne : k ∉ es.map (·.1) := fun h2 => hk2.1 ((hs.two.perm.map _).mem_iff.mp h2)
      refine (put_full h hs.two.nodup (by omega) (by omega) k hk u now (by omega) (by omega) (find_none.mpr hne)).mono fun r H' ⟨es', g, b, e1, hm, hg, e2, e3⟩ => ?_
      obtain ⟨q1, q2⟩ := hs.full hk (u := u) (by omega) r1 hk2.1 hfull hm
      rw [q1]
      exact ⟨_, e1, e2, q2, hg, e3⟩
end Go.Proofs.GoC
