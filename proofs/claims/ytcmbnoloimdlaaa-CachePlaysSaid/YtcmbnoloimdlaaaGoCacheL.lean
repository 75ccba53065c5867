/-
  The law CacheLets. No claim by itself.
-/
import Derived.Test.YtcmbnoloimdlaaaGoCacheE
import Derived.Test.YtcmbnoloimdlaaaGoCache9
namespace Go.Proofs.GoC
open Go Go.Proofs.SL
set_option linter.unusedSimpArgs false
set_option linter.unusedVariables false
set_option maxRecDepth 10000
set_option maxHeartbeats 1000000

theorem cutS_1 {n : Int} : 1 ≤ cutS n 64 := (cutS_le (by decide)).1
theorem cutS_64 {n : Int} : cutS n 64 ≤ 64 := (cutS_le (by decide)).2
theorem putC_mem {room : Int} {gs : Ents} {k : CKey} {u : Ent} {now : Int} {e : CKey × Ent} (h : e ∈ (putC room gs k u now).1) : e = (k, u) ∨ e ∈ gs := by
  unfold putC at h
  rcases List.mem_cons.mp (insC_perm.mem_iff.mp h) with h | h
  · exact .inl h
  · refine .inr ?_
    unfold midC at h
    split at h
    · exact cutC_sub.subset h
    · split at h
      · split at h
        · exact cutC_sub.subset h
        · exact (List.mem_filter.mp h).1
      · exact h
theorem putC_lets {room : Int} {gs : Ents} {k : CKey} {u : Ent} (hk : k ∉ gs.map (·.1)) (hp : ∀ e ∈ gs, 0 < e.2.til) :
    (putC room gs k u 0).2 = if (gs.length : Int) = room then (gs.getD (bestC gs gs.length) ent0, true) else (ent0, false) := by
  have hl : liveC 0 gs = gs := List.filter_eq_self.mpr fun e he => decide_eq_true (hp e he)
  unfold putC midC
  rw [idxC_none hk, if_neg (by decide), hl]
  split <;> rfl
/-- None ends before the one that is let go, nor with it, and has a lesser name. -/
theorem best_not {gs : Ents} (hs : SortedC gs) {j : Nat} (hj : j < gs.length) : ¬ (gs.getD j ent0).2.til < (gs.getD (bestC gs gs.length) ent0).2.til ∧
    ((gs.getD j ent0).2.til = (gs.getD (bestC gs gs.length) ent0).2.til → Op.bytesLess (bs (gs.getD j ent0).1.name).toList (bs (gs.getD (bestC gs gs.length) ent0).1.name).toList = false) := by
  have hb := bestC_lt (n := gs.length) (by omega : 0 < gs.length) (Nat.le_refl _)
  have hf := bestC_first (gs := gs) (n := gs.length) j hj
  generalize bestC gs gs.length = b at *
  refine ⟨by omega, fun he => ?_⟩
  have hle : b ≤ j := by omega
  have eb : gs.getD b ent0 = gs[b] := by simp [List.getD_eq_getElem?_getD, hb]
  have ej : gs.getD j ent0 = gs[j] := by simp [List.getD_eq_getElem?_getD, hj]
  have hs' := slt_cmp (gs.getD j ent0).1.name (gs.getD b ent0).1.name
  unfold slt at hs'
  rw [hs']
  refine decide_eq_false fun hc => ?_
  by_cases hbj : b = j
  · subst hbj
    rw [(cmpL_ord.zero _ _).mpr rfl] at hc
    omega
  · have hp := (List.pairwise_iff_getElem.mp hs) b j (by simpa using hb) (by simpa using hj) (by omega)
    simp only [List.getElem_map] at hp
    rw [← eb, ← ej] at hp
    have hn := cmpL_ord.neg (gs.getD j ent0).1.name (gs.getD b ent0).1.name
    unfold ltC cmpC at hp
    split at hp <;> omega

structure LS where
  K : Heap
  es : Ents
  gs : Ents
  n : Nat
structure LI (H : Heap) (room : Int) (l : List Int) (a : LS) : Prop where
  ca : CaAt a.K (H.length + 1) H.length room a.es
  same : Three room a.es a.gs
  rf : a.K[H.length + 2]? = some (some (.cells 0 [.int .i64 room, .sl 4 (esV a.gs)]))
  keep : Keeps [] H a.K
  le : a.n ≤ l.length
  le70 : a.n ≤ 70
  pos : ∀ e ∈ a.gs, 0 < e.2.til
  nm : ∀ e ∈ a.gs, ∃ m, m < a.n ∧ e.1 = dk m

theorem c_abatislaw10_CacheLets (room0 : Int) (l : List Int) (hl : ∀ x ∈ l, -9223372036854775808 ≤ x ∧ x ≤ 9223372036854775807) (hlen : l.length ≤ 9223372036854775807) :
    GCall 3 [.int .i64 room0, .sl 1 (intsV l)] (.bool true) := by
  intro H hG
  refine scall_of (ord := ordCQ) (rs := [4]) Try.func3 rfl (by kernel_rfl) (by kernel_rfl) (by kernel_rfl) Try.ntmps3 fun hb hargs => go 200 (fun _ => false) mixed ?_
  simp (disch := omega) only [↓reduceIte, go_sem] <;> repeat with_reducible refine And.intro (by first | omega | decide) ?_
  refine (c_cache_New room0).mono fun r H1 ⟨e1, e2⟩ => ?_
  rw [e1, e2]
  refine go 200 (fun _ => false) mixed ?_
  simp (disch := omega) only [↓reduceIte, go_sem] <;> repeat with_reducible refine And.intro (by first | omega | decide) ?_
  have hnew := c_abatisref10_New room0
  unfold rcV at hnew
  refine hnew.on (go 200 (fun _ => false) mixed ?_)
  simp (disch := omega) only [↓reduceIte, go_sem] <;> repeat with_reducible refine And.intro (by first | omega | decide) ?_
  have r1 := cutS_1 (n := room0)
  have r2 := cutS_64 (n := room0)
  generalize cutS room0 64 = room at *
  refine runs_loopA (LI H room l) (fun a => l.length - a.n) [true, true, false, false, true, true, true, true]
    (fun a => slots 133 [.int .i64 room0, .sl 1 (intsV l), .any, .any, .bool false, .ptr (H.length + 1) 0 0, .ptr (H.length + 2) 0 0, .int .i64 a.n]) (fun a => a.K) (by rfl) ⟨_, [], [], 0⟩
    ⟨⟨by show _ = _; rw [get_tail]; rfl, by show _ = _; rw [get_tail0]; rfl, by intro e he; cases he⟩, Three.nil (by omega), by show _ = _; rw [get_tail]; rfl, Keeps.app, Nat.zero_le _, Nat.zero_le _, (by intro e he; cases he), (by intro e he; cases he)⟩ rfl rfl ?_
  rintro ⟨K, es, gs, n⟩ ⟨hca, hsame, hrf, hkeep, hle, hle70, hpos, hnm⟩
  dsimp only at hca hsame hrf hkeep hle hle70 hpos hnm ⊢
  have orf := obj_of hrf
  have hl2 := lt_of_get hrf
  have hgl := hsame.len
  refine go 200 (fun _ => false) mixed ?_
  by_cases hlt : n < l.length
  · by_cases h70 : n < 70
    · have dg := intsV_get hlt
      have hb_ := hl (l.getD n 0) (by rw [List.getD_eq_getElem?_getD, List.getElem?_eq_getElem hlt]; exact List.getElem_mem hlt)
      generalize l.getD n 0 = x0 at *
      have ha := aroundF_lt x0 (by decide : 0 < 100000)
      simp (disch := omega) only [↓reduceIte, go_sem, hlt, h70, dg] <;> repeat with_reducible refine And.intro (by first | omega | decide) ?_
      refine (c_abatisref01_Around x0 hb_.1 hb_.2 100000 (by decide)).on (go 200 (fun _ => false) mixed ?_)
      simp (disch := omega) only [↓reduceIte, go_sem] <;> repeat with_reducible refine And.intro (by first | omega | decide) ?_
      generalize hx : 1 + aroundF x0 100000 = x at *
      refine (c_abatisref01_Decimal n (by omega)).on (go 200 (fun _ => false) mixed ?_)
      have hd : (decF n).length < 1000000 := by have := decF_len n 1 (by omega); omega
      have hput := PCall.nils [rcV room gs, .str (bs (decF n)), .int .i64 1] 17 (c_abatisref10_Put room r1 gs (by omega) (decF n) hd 1 [] (x : Nat) 0 (by omega) (by decide) (by decide))
      have hbook := fun L => put_nils (hca.app (L := L)) hsame r1 r2 (decF n) hd 1 (x : Nat) 0 (by omega) (by decide) (by decide)
      have hkn : dk n ∉ gs.map (·.1) := fun h => by
        obtain ⟨e, he, hek⟩ := List.mem_map.mp h
        obtain ⟨m, hm, hme⟩ := hnm e he
        rw [hek] at hme
        have := dk_inj hme
        omega
      have ex : entP [] (x : Nat) 0 = ⟨[], x⟩ := by unfold entP; rw [if_neg (by omega), Int.zero_add]
      rw [lowF_dec, ex] at hput hbook
      have hlets := putC_lets (room := room) (u := (⟨[], (x : Nat)⟩ : Ent)) hkn hpos
      have hmem := fun e => @putC_mem room gs (dk n) ⟨[], (x : Nat)⟩ 0 e
      unfold dk at hlets hmem
      generalize putC room gs ⟨decF n, 1⟩ ⟨[], (x : Nat)⟩ 0 = pr at *
      obtain ⟨gs1, g, b⟩ := pr
      unfold putV rcV at hput
      dsimp only [List.cons_append, List.nil_append] at hput hlets hbook hmem
      simp (disch := omega) only [↓reduceIte, go_sem, orf] <;> repeat with_reducible refine And.intro (by first | omega | decide) ?_
      refine hput.on (go 5 (fun _ => false) mixed ?_)
      simp (disch := omega) only [↓reduceIte, go_sem, orf] <;> repeat with_reducible refine And.intro (by first | omega | decide) ?_
      refine go 3 (fun _ => false) mixed ?_
      simp (disch := omega) only [↓reduceIte, go_sem, goC_len, goC_one, goC_take] <;> repeat with_reducible refine And.intro (by first | omega | decide) ?_
      refine go 3 (fun _ => false) mixed ?_
      simp (disch := omega) only [↓reduceIte, go_sem, goC_len, goC_one, goC_take] <;> repeat with_reducible refine And.intro (by first | omega | decide) ?_
      refine go 3 (fun _ => false) mixed ?_
      simp (disch := omega) only [↓reduceIte, go_sem, goC_len, goC_one, goC_take] <;> repeat with_reducible refine And.intro (by first | omega | decide) ?_
      refine go 3 (fun _ => false) mixed ?_
      simp (disch := omega) only [↓reduceIte, go_sem, goC_len, goC_one, goC_take] <;> repeat with_reducible refine And.intro (by first | omega | decide) ?_
      refine go 200 (fun _ => false) mixed ?_
      simp (disch := omega) only [↓reduceIte, go_sem, goC_len, goC_one, goC_take] <;> repeat with_reducible refine And.intro (by first | omega | decide) ?_
      refine (hbook _).mono fun r H2 ⟨es2, e1, hB2, hs2, k2⟩ => ?_
      rw [e1]
      have hrf2 : H2[H.length + 2]? = some (some (.cells 0 [.int .i64 room, .sl 4 (esV gs)])) := k2.get (get_app hrf) (by simp)
      have hnx2 : H2[K.length]? = some (some (.cells 0 [.int .i64 room, .sl 4 (esV gs1)])) := k2.get (by rw [get_tail0]; rfl) (by simp; omega)
      have hgo2 : H2[K.length + 1]? = some (some (.cells 0 (goC b g))) := k2.get (by rw [get_tail]; rfl) (by simp; omega)
      have orf2 := obj_of hrf2
      have onx2 := obj_of hnx2
      have ogo2 := obj_of hgo2
      have l22 := lt_of_get hrf2
      have l23 := lt_of_get hgo2
      have hle2 := hs2.len
      have hlen2 := hs2.two.len
      have hK3 : ∃ K3, K3 = H2.set (H.length + 2) (some (.cells 0 [.int .i64 room, .sl 4 (esV gs1)])) ++ [some (.cells 0 (ckC g.1))] := ⟨_, rfl⟩
      obtain ⟨K3, hK3⟩ := hK3
      have hB3 : CaAt K3 (H.length + 1) H.length room es2 := by rw [hK3]; exact (hB2.setN (by omega) (by omega)).app
      have hrf3 : K3[H.length + 2]? = some (some (.cells 0 [.int .i64 room, .sl 4 (esV gs1)])) := by rw [hK3, get_app_lt (by rw [len_set]; omega), get_set_self l22]
      have hkk : Keeps [] H K3 := by
        rw [hK3]
        exact ((hkeep.mono (G := [H.length, H.length + 2]) (by simp)).trans (Keeps.app.trans ((k2.mono (by simp)).trans ((Keeps.setF (i := H.length + 2) (by simp)).trans Keeps.app)))).mono (by simp)
      have orf3 := obj_of hrf3
      have l33 := lt_of_get hrf3
      have hlenC := c_cache_Cache_Len hB3
      rw [hlen2] at hlenC
      have hroomC := c_cache_Cache_Room hB3.cell
      have hgt : ¬ room < (gs1.length : Int) := by omega
      have hgi : LI H room l ⟨K3, es2, gs1, n + 1⟩ := ⟨hB3, hs2, hrf3, hkk, hlt, h70, fun e he => by
          rcases hmem e he with rfl | h
          · show (0 : Int) < (x : Nat); omega
          · exact hpos e h, fun e he => by
          rcases hmem e he with rfl | h
          · exact ⟨n, Nat.lt_succ_self n, rfl⟩
          · obtain ⟨m, hm, h2⟩ := hnm e h
            exact ⟨m, Nat.lt_succ_of_lt hm, h2⟩⟩
      refine go 6 (fun _ => false) mixed ?_
      simp (disch := omega) only [↓reduceIte, go_sem, ckC] <;> repeat with_reducible refine And.intro (by first | omega | decide) ?_
      by_cases hfull : (gs.length : Int) = room
      · have hroom0 : 0 < gs.length := by omega
        have hbn := fun j hj => @best_not gs hsame.row j hj
        rw [if_pos hfull] at hlets
        obtain ⟨rfl, rfl⟩ := Prod.mk.injEq .. ▸ hlets
        generalize gs.getD (bestC gs gs.length) ent0 = g at *
        rw [goC_t] at ogo2
        unfold eC at ogo2
        refine go 3 (fun _ => false) mixed ?_
        simp (disch := omega) only [↓reduceIte, go_sem, hfull] <;> repeat with_reducible refine And.intro (by first | omega | decide) ?_
        refine go 3 (fun _ => false) mixed ?_
        simp (disch := omega) only [↓reduceIte, go_sem, hfull] <;> repeat with_reducible refine And.intro (by first | omega | decide) ?_
        refine go 3 (fun _ => false) mixed ?_
        simp (disch := omega) only [↓reduceIte, go_sem, hfull] <;> repeat with_reducible refine And.intro (by first | omega | decide) ?_
        refine go 3 (fun _ => false) mixed ?_
        simp (disch := omega) only [↓reduceIte, go_sem, hfull] <;> repeat with_reducible refine And.intro (by first | omega | decide) ?_
        refine go 2 (fun _ => false) mixed ?_
        simp (disch := omega) only [↓reduceIte, go_sem, ogo2, hfull] <;> repeat with_reducible refine And.intro (by first | omega | decide) ?_
        refine go 2 (fun _ => false) mixed ?_
        simp (disch := omega) only [↓reduceIte, go_sem, ogo2, hfull] <;> repeat with_reducible refine And.intro (by first | omega | decide) ?_
        refine go 2 (fun _ => false) mixed ?_
        simp (disch := omega) only [↓reduceIte, go_sem, ogo2, hfull] <;> repeat with_reducible refine And.intro (by first | omega | decide) ?_
        refine go 2 (fun _ => false) mixed ?_
        simp (disch := omega) only [↓reduceIte, go_sem, ogo2, hfull] <;> repeat with_reducible refine And.intro (by first | omega | decide) ?_
        refine go 2 (fun _ => false) mixed ?_
        simp (disch := omega) only [↓reduceIte, go_sem, ogo2, hfull] <;> repeat with_reducible refine And.intro (by first | omega | decide) ?_
        refine go 2 (fun _ => false) mixed ?_
        simp (disch := omega) only [↓reduceIte, go_sem, ogo2, hfull] <;> repeat with_reducible refine And.intro (by first | omega | decide) ?_
        refine go 2 (fun _ => false) mixed ?_
        simp (disch := omega) only [↓reduceIte, go_sem, ogo2, hfull] <;> repeat with_reducible refine And.intro (by first | omega | decide) ?_
        refine go 2 (fun _ => false) mixed ?_
        simp (disch := omega) only [↓reduceIte, go_sem, ogo2, hfull] <;> repeat with_reducible refine And.intro (by first | omega | decide) ?_
        refine go 2 (fun _ => false) mixed ?_
        simp (disch := omega) only [↓reduceIte, go_sem, ogo2] <;> repeat with_reducible refine And.intro (by first | omega | decide) ?_
        refine go 2 (fun _ => false) mixed ?_
        simp (disch := omega) only [↓reduceIte, go_sem, ogo2] <;> repeat with_reducible refine And.intro (by first | omega | decide) ?_
        refine go 2 (fun _ => false) mixed ?_
        simp (disch := omega) only [↓reduceIte, go_sem, ogo2] <;> repeat with_reducible refine And.intro (by first | omega | decide) ?_
        refine go 2 (fun _ => false) mixed ?_
        simp (disch := omega) only [↓reduceIte, go_sem, ogo2] <;> repeat with_reducible refine And.intro (by first | omega | decide) ?_
        refine go 200 (fun _ => false) mixed ?_
        simp (disch := omega) only [↓reduceIte, go_sem, ogo2] <;> repeat with_reducible refine And.intro (by first | omega | decide) ?_
        refine runs_loopA (fun j : Nat => j ≤ gs.length) (fun j => gs.length - j) [true, true, false, false, true, true, true, true, false, false, true, true, true, false, false, false, true]
          (fun j => slots 133 [.int .i64 room0, .sl 1 (intsV l), .any, .any, .bool false, .ptr (H.length + 1) 0 0, .ptr (H.length + 2) 0 0, .int .i64 n, .any, .any, .bool true, .ptr K.length 0 0, .ptr (K.length + 1) 0 0, .any, .any, .any, .int .i64 j]) (fun _ => H2 ++ [some (.cells 0 (ckC g.1))]) (by rfl) 0 (Nat.zero_le _) rfl rfl ?_
        intro j hj
        refine go 8 (fun _ => false) mixed ?_
        by_cases hlj : j < gs.length
        · have g0 := esV_get hlj
          obtain ⟨q1, q2⟩ := hbn j hlj
          generalize gs.getD j ent0 = e at *
          simp (disch := omega) only [↓reduceIte, go_sem, hlj, orf2] <;> repeat with_reducible refine And.intro (by first | omega | decide) ?_
          refine go 2 (fun _ => false) mixed ?_
          simp (disch := omega) only [↓reduceIte, go_sem, orf2, hlj] <;> repeat with_reducible refine And.intro (by first | omega | decide) ?_
          refine go 2 (fun _ => false) mixed ?_
          simp (disch := omega) only [↓reduceIte, go_sem, orf2, hlj] <;> repeat with_reducible refine And.intro (by first | omega | decide) ?_
          refine go 2 (fun _ => false) mixed ?_
          simp (disch := omega) only [↓reduceIte, go_sem, orf2, hlj] <;> repeat with_reducible refine And.intro (by first | omega | decide) ?_
          refine go 2 (fun _ => false) mixed ?_
          simp (disch := omega) only [↓reduceIte, go_sem, orf2, hlj] <;> repeat with_reducible refine And.intro (by first | omega | decide) ?_
          refine go 2 (fun _ => false) mixed ?_
          simp (disch := omega) only [↓reduceIte, go_sem, orf2, hlj] <;> repeat with_reducible refine And.intro (by first | omega | decide) ?_
          refine go 2 (fun _ => false) mixed ?_
          simp (disch := omega) only [↓reduceIte, go_sem, orf2, hlj] <;> repeat with_reducible refine And.intro (by first | omega | decide) ?_
          refine go 2 (fun _ => false) mixed ?_
          simp (disch := omega) only [↓reduceIte, go_sem, orf2, hlj] <;> repeat with_reducible refine And.intro (by first | omega | decide) ?_
          refine go 2 (fun _ => false) mixed ?_
          simp (disch := omega) only [↓reduceIte, go_sem, orf2, hlj] <;> repeat with_reducible refine And.intro (by first | omega | decide) ?_
          refine go 2 (fun _ => false) mixed ?_
          simp (disch := omega) only [↓reduceIte, go_sem, orf2, hlj] <;> repeat with_reducible refine And.intro (by first | omega | decide) ?_
          by_cases he : e.2.til = g.2.til
          · have q3 := q2 he
            refine go 2 (fun _ => false) mixed ?_
            simp (disch := omega) only [↓reduceIte, go_sem, orf2, hlj, g0, eC, ogo2, he, q3] <;> repeat with_reducible refine And.intro (by first | omega | decide) ?_
            refine go 2 (fun _ => false) mixed ?_
            simp (disch := omega) only [↓reduceIte, go_sem, orf2, hlj, g0, eC, ogo2, he, q3] <;> repeat with_reducible refine And.intro (by first | omega | decide) ?_
            refine go 2 (fun _ => false) mixed ?_
            simp (disch := omega) only [↓reduceIte, go_sem, orf2, hlj, g0, eC, ogo2, he, q3] <;> repeat with_reducible refine And.intro (by first | omega | decide) ?_
            refine go 2 (fun _ => false) mixed ?_
            simp (disch := omega) only [↓reduceIte, go_sem, orf2, hlj, g0, eC, ogo2, he, q3] <;> repeat with_reducible refine And.intro (by first | omega | decide) ?_
            refine go 2 (fun _ => false) mixed ?_
            simp (disch := omega) only [↓reduceIte, go_sem, orf2, hlj, g0, eC, ogo2, he, q3] <;> repeat with_reducible refine And.intro (by first | omega | decide) ?_
            refine go 2 (fun _ => false) mixed ?_
            simp (disch := omega) only [↓reduceIte, go_sem, orf2, hlj, g0, eC, ogo2, he, q3] <;> repeat with_reducible refine And.intro (by first | omega | decide) ?_
            refine go 2 (fun _ => false) mixed ?_
            simp (disch := omega) only [↓reduceIte, go_sem, orf2, hlj, g0, eC, ogo2, he, q3] <;> repeat with_reducible refine And.intro (by first | omega | decide) ?_
            refine go 2 (fun _ => false) mixed ?_
            simp (disch := omega) only [↓reduceIte, go_sem, orf2, hlj, g0, eC, ogo2, he, q3] <;> repeat with_reducible refine And.intro (by first | omega | decide) ?_
            refine go 2 (fun _ => false) mixed ?_
            simp (disch := omega) only [↓reduceIte, go_sem, orf2, hlj, g0, eC, ogo2, he, q3] <;> repeat with_reducible refine And.intro (by first | omega | decide) ?_
            refine go 2 (fun _ => false) mixed ?_
            simp (disch := omega) only [↓reduceIte, go_sem, orf2, hlj, g0, eC, ogo2, he, q3] <;> repeat with_reducible refine And.intro (by first | omega | decide) ?_
            refine go 2 (fun _ => false) mixed ?_
            simp (disch := omega) only [↓reduceIte, go_sem, orf2, hlj, g0, eC, ogo2, he, q3] <;> repeat with_reducible refine And.intro (by first | omega | decide) ?_
            refine go 2 (fun _ => false) mixed ?_
            simp (disch := omega) only [↓reduceIte, go_sem, orf2, hlj, g0, eC, ogo2, he, q3] <;> repeat with_reducible refine And.intro (by first | omega | decide) ?_
            refine go 2 (fun _ => false) mixed ?_
            simp (disch := omega) only [↓reduceIte, go_sem, orf2, hlj, g0, eC, ogo2, he, q3] <;> repeat with_reducible refine And.intro (by first | omega | decide) ?_
            refine go 2 (fun _ => false) mixed ?_
            simp (disch := omega) only [↓reduceIte, go_sem, orf2, hlj, g0, eC, ogo2, he, q3] <;> repeat with_reducible refine And.intro (by first | omega | decide) ?_
            refine go 2 (fun _ => false) mixed ?_
            simp (disch := omega) only [↓reduceIte, go_sem, orf2, hlj, g0, eC, ogo2, he, q3] <;> repeat with_reducible refine And.intro (by first | omega | decide) ?_
            refine go 2 (fun _ => false) mixed ?_
            simp (disch := omega) only [↓reduceIte, go_sem, orf2, hlj, g0, eC, ogo2, he, q3] <;> repeat with_reducible refine And.intro (by first | omega | decide) ?_
            refine go 2 (fun _ => false) mixed ?_
            simp (disch := omega) only [↓reduceIte, go_sem, orf2, hlj, g0, eC, ogo2, he, q3] <;> repeat with_reducible refine And.intro (by first | omega | decide) ?_
            refine go 2 (fun _ => false) mixed ?_
            simp (disch := omega) only [↓reduceIte, go_sem, orf2, hlj, g0, eC, ogo2, he, q3] <;> repeat with_reducible refine And.intro (by first | omega | decide) ?_
            refine go 2 (fun _ => false) mixed ?_
            simp (disch := omega) only [↓reduceIte, go_sem, orf2, hlj, g0, eC, ogo2, he, q3] <;> repeat with_reducible refine And.intro (by first | omega | decide) ?_
            refine go 2 (fun _ => false) mixed ?_
            simp (disch := omega) only [↓reduceIte, go_sem, orf2, hlj, g0, eC, ogo2, he, q3] <;> repeat with_reducible refine And.intro (by first | omega | decide) ?_
            refine go 2 (fun _ => false) mixed ?_
            simp (disch := omega) only [↓reduceIte, go_sem, orf2, hlj, g0, eC, ogo2, he, q3] <;> repeat with_reducible refine And.intro (by first | omega | decide) ?_
            refine go 2 (fun _ => false) mixed ?_
            simp (disch := omega) only [↓reduceIte, go_sem, orf2, hlj, g0, eC, ogo2, he, q3] <;> repeat with_reducible refine And.intro (by first | omega | decide) ?_
            refine go 2 (fun _ => false) mixed ?_
            simp (disch := omega) only [↓reduceIte, go_sem, orf2, hlj, g0, eC, ogo2, he, q3] <;> repeat with_reducible refine And.intro (by first | omega | decide) ?_
            refine go 2 (fun _ => false) mixed ?_
            simp (disch := omega) only [↓reduceIte, go_sem, orf2, hlj, g0, eC, ogo2, he, q3] <;> repeat with_reducible refine And.intro (by first | omega | decide) ?_
            refine go 2 (fun _ => false) mixed ?_
            simp (disch := omega) only [↓reduceIte, go_sem, orf2, hlj, g0, eC, ogo2, he, q3] <;> repeat with_reducible refine And.intro (by first | omega | decide) ?_
            refine go 2 (fun _ => false) mixed ?_
            simp (disch := omega) only [↓reduceIte, go_sem, orf2, hlj, g0, eC, ogo2, he, q3] <;> repeat with_reducible refine And.intro (by first | omega | decide) ?_
            refine go 2 (fun _ => false) mixed ?_
            simp (disch := omega) only [↓reduceIte, go_sem, orf2, hlj, g0, eC, ogo2, he, q3] <;> repeat with_reducible refine And.intro (by first | omega | decide) ?_
            refine go 2 (fun _ => false) mixed ?_
            simp (disch := omega) only [↓reduceIte, go_sem, orf2, hlj, g0, eC, ogo2, he, q3] <;> repeat with_reducible refine And.intro (by first | omega | decide) ?_
            refine go 2 (fun _ => false) mixed ?_
            simp (disch := omega) only [↓reduceIte, go_sem, orf2, hlj, g0, eC, ogo2, he, q3] <;> repeat with_reducible refine And.intro (by first | omega | decide) ?_
            refine go 2 (fun _ => false) mixed ?_
            simp (disch := omega) only [↓reduceIte, go_sem, orf2, hlj, g0, eC, ogo2, he, q3] <;> repeat with_reducible refine And.intro (by first | omega | decide) ?_
            refine go 2 (fun _ => false) mixed ?_
            simp (disch := omega) only [↓reduceIte, go_sem, orf2, hlj, g0, eC, ogo2, he, q3] <;> repeat with_reducible refine And.intro (by first | omega | decide) ?_
            refine go 200 (fun _ => false) mixed ?_
            simp (disch := omega) only [↓reduceIte, go_sem] <;> repeat with_reducible refine And.intro (by first | omega | decide) ?_
            exact rnd_next (j + 1) hlj (by show gs.length - (j + 1) < gs.length - j; omega) rfl rfl
          · skip
            refine go 2 (fun _ => false) mixed ?_
            simp (disch := omega) only [↓reduceIte, go_sem, orf2, hlj, g0, eC, ogo2, he, q1] <;> repeat with_reducible refine And.intro (by first | omega | decide) ?_
            refine go 2 (fun _ => false) mixed ?_
            simp (disch := omega) only [↓reduceIte, go_sem, orf2, hlj, g0, eC, ogo2, he, q1] <;> repeat with_reducible refine And.intro (by first | omega | decide) ?_
            refine go 2 (fun _ => false) mixed ?_
            simp (disch := omega) only [↓reduceIte, go_sem, orf2, hlj, g0, eC, ogo2, he, q1] <;> repeat with_reducible refine And.intro (by first | omega | decide) ?_
            refine go 2 (fun _ => false) mixed ?_
            simp (disch := omega) only [↓reduceIte, go_sem, orf2, hlj, g0, eC, ogo2, he, q1] <;> repeat with_reducible refine And.intro (by first | omega | decide) ?_
            refine go 2 (fun _ => false) mixed ?_
            simp (disch := omega) only [↓reduceIte, go_sem, orf2, hlj, g0, eC, ogo2, he, q1] <;> repeat with_reducible refine And.intro (by first | omega | decide) ?_
            refine go 2 (fun _ => false) mixed ?_
            simp (disch := omega) only [↓reduceIte, go_sem, orf2, hlj, g0, eC, ogo2, he, q1] <;> repeat with_reducible refine And.intro (by first | omega | decide) ?_
            refine go 2 (fun _ => false) mixed ?_
            simp (disch := omega) only [↓reduceIte, go_sem, orf2, hlj, g0, eC, ogo2, he, q1] <;> repeat with_reducible refine And.intro (by first | omega | decide) ?_
            refine go 2 (fun _ => false) mixed ?_
            simp (disch := omega) only [↓reduceIte, go_sem, orf2, hlj, g0, eC, ogo2, he, q1] <;> repeat with_reducible refine And.intro (by first | omega | decide) ?_
            refine go 2 (fun _ => false) mixed ?_
            simp (disch := omega) only [↓reduceIte, go_sem, orf2, hlj, g0, eC, ogo2, he, q1] <;> repeat with_reducible refine And.intro (by first | omega | decide) ?_
            refine go 2 (fun _ => false) mixed ?_
            simp (disch := omega) only [↓reduceIte, go_sem, orf2, hlj, g0, eC, ogo2, he, q1] <;> repeat with_reducible refine And.intro (by first | omega | decide) ?_
            refine go 2 (fun _ => false) mixed ?_
            simp (disch := omega) only [↓reduceIte, go_sem, orf2, hlj, g0, eC, ogo2, he, q1] <;> repeat with_reducible refine And.intro (by first | omega | decide) ?_
            refine go 2 (fun _ => false) mixed ?_
            simp (disch := omega) only [↓reduceIte, go_sem, orf2, hlj, g0, eC, ogo2, he, q1] <;> repeat with_reducible refine And.intro (by first | omega | decide) ?_
            refine go 2 (fun _ => false) mixed ?_
            simp (disch := omega) only [↓reduceIte, go_sem, orf2, hlj, g0, eC, ogo2, he, q1] <;> repeat with_reducible refine And.intro (by first | omega | decide) ?_
            refine go 2 (fun _ => false) mixed ?_
            simp (disch := omega) only [↓reduceIte, go_sem, orf2, hlj, g0, eC, ogo2, he, q1] <;> repeat with_reducible refine And.intro (by first | omega | decide) ?_
            refine go 2 (fun _ => false) mixed ?_
            simp (disch := omega) only [↓reduceIte, go_sem, orf2, hlj, g0, eC, ogo2, he, q1] <;> repeat with_reducible refine And.intro (by first | omega | decide) ?_
            refine go 2 (fun _ => false) mixed ?_
            simp (disch := omega) only [↓reduceIte, go_sem, orf2, hlj, g0, eC, ogo2, he, q1] <;> repeat with_reducible refine And.intro (by first | omega | decide) ?_
            refine go 2 (fun _ => false) mixed ?_
            simp (disch := omega) only [↓reduceIte, go_sem, orf2, hlj, g0, eC, ogo2, he, q1] <;> repeat with_reducible refine And.intro (by first | omega | decide) ?_
            refine go 2 (fun _ => false) mixed ?_
            simp (disch := omega) only [↓reduceIte, go_sem, orf2, hlj, g0, eC, ogo2, he, q1] <;> repeat with_reducible refine And.intro (by first | omega | decide) ?_
            refine go 2 (fun _ => false) mixed ?_
            simp (disch := omega) only [↓reduceIte, go_sem, orf2, hlj, g0, eC, ogo2, he, q1] <;> repeat with_reducible refine And.intro (by first | omega | decide) ?_
            refine go 2 (fun _ => false) mixed ?_
            simp (disch := omega) only [↓reduceIte, go_sem, orf2, hlj, g0, eC, ogo2, he, q1] <;> repeat with_reducible refine And.intro (by first | omega | decide) ?_
            refine go 2 (fun _ => false) mixed ?_
            simp (disch := omega) only [↓reduceIte, go_sem, orf2, hlj, g0, eC, ogo2, he, q1] <;> repeat with_reducible refine And.intro (by first | omega | decide) ?_
            refine go 2 (fun _ => false) mixed ?_
            simp (disch := omega) only [↓reduceIte, go_sem, orf2, hlj, g0, eC, ogo2, he, q1] <;> repeat with_reducible refine And.intro (by first | omega | decide) ?_
            refine go 2 (fun _ => false) mixed ?_
            simp (disch := omega) only [↓reduceIte, go_sem, orf2, hlj, g0, eC, ogo2, he, q1] <;> repeat with_reducible refine And.intro (by first | omega | decide) ?_
            refine go 2 (fun _ => false) mixed ?_
            simp (disch := omega) only [↓reduceIte, go_sem, orf2, hlj, g0, eC, ogo2, he, q1] <;> repeat with_reducible refine And.intro (by first | omega | decide) ?_
            refine go 2 (fun _ => false) mixed ?_
            simp (disch := omega) only [↓reduceIte, go_sem, orf2, hlj, g0, eC, ogo2, he, q1] <;> repeat with_reducible refine And.intro (by first | omega | decide) ?_
            refine go 2 (fun _ => false) mixed ?_
            simp (disch := omega) only [↓reduceIte, go_sem, orf2, hlj, g0, eC, ogo2, he, q1] <;> repeat with_reducible refine And.intro (by first | omega | decide) ?_
            refine go 2 (fun _ => false) mixed ?_
            simp (disch := omega) only [↓reduceIte, go_sem, orf2, hlj, g0, eC, ogo2, he, q1] <;> repeat with_reducible refine And.intro (by first | omega | decide) ?_
            refine go 2 (fun _ => false) mixed ?_
            simp (disch := omega) only [↓reduceIte, go_sem, orf2, hlj, g0, eC, ogo2, he, q1] <;> repeat with_reducible refine And.intro (by first | omega | decide) ?_
            refine go 2 (fun _ => false) mixed ?_
            simp (disch := omega) only [↓reduceIte, go_sem, orf2, hlj, g0, eC, ogo2, he, q1] <;> repeat with_reducible refine And.intro (by first | omega | decide) ?_
            refine go 2 (fun _ => false) mixed ?_
            simp (disch := omega) only [↓reduceIte, go_sem, orf2, hlj, g0, eC, ogo2, he, q1] <;> repeat with_reducible refine And.intro (by first | omega | decide) ?_
            refine go 2 (fun _ => false) mixed ?_
            simp (disch := omega) only [↓reduceIte, go_sem, orf2, hlj, g0, eC, ogo2, he, q1] <;> repeat with_reducible refine And.intro (by first | omega | decide) ?_
            refine go 200 (fun _ => false) mixed ?_
            simp (disch := omega) only [↓reduceIte, go_sem] <;> repeat with_reducible refine And.intro (by first | omega | decide) ?_
            exact rnd_next (j + 1) hlj (by show gs.length - (j + 1) < gs.length - j; omega) rfl rfl
        · simp (disch := omega) only [↓reduceIte, go_sem, hlj, orf2] <;> repeat with_reducible refine And.intro (by first | omega | decide) ?_
          refine go 3 (fun _ => false) mixed ?_
          simp (disch := omega) only [↓reduceIte, go_sem, hlj, orf2] <;> repeat with_reducible refine And.intro (by first | omega | decide) ?_
          refine go 3 (fun _ => false) mixed ?_
          simp (disch := omega) only [↓reduceIte, go_sem, hlj, orf2] <;> repeat with_reducible refine And.intro (by first | omega | decide) ?_
          refine go 3 (fun _ => false) mixed ?_
          simp (disch := omega) only [↓reduceIte, go_sem, hlj, orf2] <;> repeat with_reducible refine And.intro (by first | omega | decide) ?_
          refine go 3 (fun _ => false) mixed ?_
          simp (disch := omega) only [↓reduceIte, go_sem, hlj, orf2] <;> repeat with_reducible refine And.intro (by first | omega | decide) ?_
          refine go 3 (fun _ => false) mixed ?_
          simp (disch := omega) only [↓reduceIte, go_sem, hlj, orf2] <;> repeat with_reducible refine And.intro (by first | omega | decide) ?_
          refine go 4 (fun _ => false) mixed ?_
          simp (disch := omega) only [↓reduceIte, go_sem, onx2, orf2] <;> repeat with_reducible refine And.intro (by first | omega | decide) ?_
          refine go 2 (fun _ => false) mixed ?_
          simp (disch := omega) only [↓reduceIte, go_sem, onx2, orf2] <;> repeat with_reducible refine And.intro (by first | omega | decide) ?_
          rw [← hK3]
          refine go 2 (fun _ => false) mixed ?_
          simp (disch := omega) only [↓reduceIte, go_sem] <;> repeat with_reducible refine And.intro (by first | omega | decide) ?_
          refine go 2 (fun _ => false) mixed ?_
          simp (disch := omega) only [↓reduceIte, go_sem] <;> repeat with_reducible refine And.intro (by first | omega | decide) ?_
          refine go 200 (fun _ => false) mixed ?_
          simp (disch := omega) only [↓reduceIte, go_sem] <;> repeat with_reducible refine And.intro (by first | omega | decide) ?_
          refine hlenC.onq (go 2 (fun _ => false) mixed ?_)
          simp (disch := omega) only [↓reduceIte, go_sem] <;> repeat with_reducible refine And.intro (by first | omega | decide) ?_
          refine go 200 (fun _ => false) mixed ?_
          simp (disch := omega) only [↓reduceIte, go_sem] <;> repeat with_reducible refine And.intro (by first | omega | decide) ?_
          refine hroomC.onq (go 2 (fun _ => false) mixed ?_)
          simp (disch := omega) only [↓reduceIte, go_sem] <;> repeat with_reducible refine And.intro (by first | omega | decide) ?_
          refine go 2 (fun _ => false) mixed ?_
          simp (disch := omega) only [↓reduceIte, go_sem, hgt] <;> repeat with_reducible refine And.intro (by first | omega | decide) ?_
          refine go 2 (fun _ => false) mixed ?_
          simp (disch := omega) only [↓reduceIte, go_sem, hgt] <;> repeat with_reducible refine And.intro (by first | omega | decide) ?_
          refine go 2 (fun _ => false) mixed ?_
          simp (disch := omega) only [↓reduceIte, go_sem, hgt] <;> repeat with_reducible refine And.intro (by first | omega | decide) ?_
          refine hlenC.onq (go 2 (fun _ => false) mixed ?_)
          simp (disch := omega) only [↓reduceIte, go_sem] <;> repeat with_reducible refine And.intro (by first | omega | decide) ?_
          refine go 2 (fun _ => false) mixed ?_
          simp (disch := omega) only [↓reduceIte, go_sem, orf3] <;> repeat with_reducible refine And.intro (by first | omega | decide) ?_
          refine go 2 (fun _ => false) mixed ?_
          simp (disch := omega) only [↓reduceIte, go_sem, orf3] <;> repeat with_reducible refine And.intro (by first | omega | decide) ?_
          refine go 2 (fun _ => false) mixed ?_
          simp (disch := omega) only [↓reduceIte, go_sem, orf3] <;> repeat with_reducible refine And.intro (by first | omega | decide) ?_
          refine go 2 (fun _ => false) mixed ?_
          simp (disch := omega) only [↓reduceIte, go_sem, orf3] <;> repeat with_reducible refine And.intro (by first | omega | decide) ?_
          refine go 2 (fun _ => false) mixed ?_
          simp (disch := omega) only [↓reduceIte, go_sem, orf3] <;> repeat with_reducible refine And.intro (by first | omega | decide) ?_
          refine go 200 (fun _ => false) mixed ?_
          simp (disch := omega) only [↓reduceIte, go_sem, orf3] <;> repeat with_reducible refine And.intro (by first | omega | decide) ?_
          exact rnd_next ⟨K3, es2, gs1, n + 1⟩ hgi (by show l.length - (n + 1) < l.length - n; omega) rfl rfl
      · rw [if_neg hfull] at hlets
        obtain ⟨rfl, rfl⟩ := Prod.mk.injEq .. ▸ hlets
        rw [goC_f] at ogo2
        unfold e0C at ogo2
        have hn0 : ent0.1.name = [] := rfl
        refine go 3 (fun _ => false) mixed ?_
        simp (disch := omega) only [↓reduceIte, go_sem, hfull] <;> repeat with_reducible refine And.intro (by first | omega | decide) ?_
        refine go 3 (fun _ => false) mixed ?_
        simp (disch := omega) only [↓reduceIte, go_sem, hfull] <;> repeat with_reducible refine And.intro (by first | omega | decide) ?_
        refine go 3 (fun _ => false) mixed ?_
        simp (disch := omega) only [↓reduceIte, go_sem, hfull] <;> repeat with_reducible refine And.intro (by first | omega | decide) ?_
        refine go 3 (fun _ => false) mixed ?_
        simp (disch := omega) only [↓reduceIte, go_sem, hfull] <;> repeat with_reducible refine And.intro (by first | omega | decide) ?_
        refine go 2 (fun _ => false) mixed ?_
        simp (disch := omega) only [↓reduceIte, go_sem, ogo2, hfull, hn0] <;> repeat with_reducible refine And.intro (by first | omega | decide) ?_
        refine go 2 (fun _ => false) mixed ?_
        simp (disch := omega) only [↓reduceIte, go_sem, ogo2, hfull, hn0] <;> repeat with_reducible refine And.intro (by first | omega | decide) ?_
        refine go 2 (fun _ => false) mixed ?_
        simp (disch := omega) only [↓reduceIte, go_sem, ogo2, hfull, hn0] <;> repeat with_reducible refine And.intro (by first | omega | decide) ?_
        refine go 2 (fun _ => false) mixed ?_
        simp (disch := omega) only [↓reduceIte, go_sem, ogo2, hfull, hn0] <;> repeat with_reducible refine And.intro (by first | omega | decide) ?_
        refine go 2 (fun _ => false) mixed ?_
        simp (disch := omega) only [↓reduceIte, go_sem, ogo2, hfull, hn0] <;> repeat with_reducible refine And.intro (by first | omega | decide) ?_
        refine go 2 (fun _ => false) mixed ?_
        simp (disch := omega) only [↓reduceIte, go_sem, ogo2, hfull, hn0] <;> repeat with_reducible refine And.intro (by first | omega | decide) ?_
        refine go 2 (fun _ => false) mixed ?_
        simp (disch := omega) only [↓reduceIte, go_sem, ogo2, hfull, hn0] <;> repeat with_reducible refine And.intro (by first | omega | decide) ?_
        refine go 2 (fun _ => false) mixed ?_
        simp (disch := omega) only [↓reduceIte, go_sem, ogo2, hfull, hn0] <;> repeat with_reducible refine And.intro (by first | omega | decide) ?_
        refine go 2 (fun _ => false) mixed ?_
        simp (disch := omega) only [↓reduceIte, go_sem, ogo2, hn0] <;> repeat with_reducible refine And.intro (by first | omega | decide) ?_
        refine go 2 (fun _ => false) mixed ?_
        simp (disch := omega) only [↓reduceIte, go_sem, ogo2, hn0] <;> repeat with_reducible refine And.intro (by first | omega | decide) ?_
        refine go 2 (fun _ => false) mixed ?_
        simp (disch := omega) only [↓reduceIte, go_sem, ogo2, hn0] <;> repeat with_reducible refine And.intro (by first | omega | decide) ?_
        refine go 2 (fun _ => false) mixed ?_
        simp (disch := omega) only [↓reduceIte, go_sem, ogo2, hn0] <;> repeat with_reducible refine And.intro (by first | omega | decide) ?_
        refine go 200 (fun _ => false) mixed ?_
        simp (disch := omega) only [↓reduceIte, go_sem, ogo2, hn0] <;> repeat with_reducible refine And.intro (by first | omega | decide) ?_
        refine runs_loopA (fun j : Nat => j = 0) (fun j => 0) [true, true, false, false, true, true, true, true, false, false, true, true, true, false, false, false, true]
          (fun j => slots 133 [.int .i64 room0, .sl 1 (intsV l), .any, .any, .bool false, .ptr (H.length + 1) 0 0, .ptr (H.length + 2) 0 0, .int .i64 n, .any, .any, .bool false, .ptr K.length 0 0, .ptr (K.length + 1) 0 0, .any, .any, .any, .int .i64 0]) (fun _ => H2 ++ [some (.cells 0 (ckC ent0.1))]) (by rfl) 0 rfl rfl rfl ?_
        intro j hj
        refine go 8 (fun _ => false) mixed ?_
        by_cases h0g : 0 < gs.length
        · skip
          simp (disch := omega) only [↓reduceIte, go_sem, orf2, h0g] <;> repeat with_reducible refine And.intro (by first | omega | decide) ?_
          refine go 3 (fun _ => false) mixed ?_
          simp (disch := omega) only [↓reduceIte, go_sem, orf2, h0g] <;> repeat with_reducible refine And.intro (by first | omega | decide) ?_
          refine go 3 (fun _ => false) mixed ?_
          simp (disch := omega) only [↓reduceIte, go_sem, orf2, h0g] <;> repeat with_reducible refine And.intro (by first | omega | decide) ?_
          refine go 3 (fun _ => false) mixed ?_
          simp (disch := omega) only [↓reduceIte, go_sem, orf2, h0g] <;> repeat with_reducible refine And.intro (by first | omega | decide) ?_
          refine go 3 (fun _ => false) mixed ?_
          simp (disch := omega) only [↓reduceIte, go_sem, orf2, h0g] <;> repeat with_reducible refine And.intro (by first | omega | decide) ?_
          refine go 3 (fun _ => false) mixed ?_
          simp (disch := omega) only [↓reduceIte, go_sem, orf2, h0g] <;> repeat with_reducible refine And.intro (by first | omega | decide) ?_
          refine go 4 (fun _ => false) mixed ?_
          simp (disch := omega) only [↓reduceIte, go_sem, onx2, orf2] <;> repeat with_reducible refine And.intro (by first | omega | decide) ?_
          refine go 2 (fun _ => false) mixed ?_
          simp (disch := omega) only [↓reduceIte, go_sem, onx2, orf2] <;> repeat with_reducible refine And.intro (by first | omega | decide) ?_
          rw [← hK3]
          refine go 2 (fun _ => false) mixed ?_
          simp (disch := omega) only [↓reduceIte, go_sem] <;> repeat with_reducible refine And.intro (by first | omega | decide) ?_
          refine go 2 (fun _ => false) mixed ?_
          simp (disch := omega) only [↓reduceIte, go_sem] <;> repeat with_reducible refine And.intro (by first | omega | decide) ?_
          refine go 200 (fun _ => false) mixed ?_
          simp (disch := omega) only [↓reduceIte, go_sem] <;> repeat with_reducible refine And.intro (by first | omega | decide) ?_
          refine hlenC.onq (go 2 (fun _ => false) mixed ?_)
          simp (disch := omega) only [↓reduceIte, go_sem] <;> repeat with_reducible refine And.intro (by first | omega | decide) ?_
          refine go 200 (fun _ => false) mixed ?_
          simp (disch := omega) only [↓reduceIte, go_sem] <;> repeat with_reducible refine And.intro (by first | omega | decide) ?_
          refine hroomC.onq (go 2 (fun _ => false) mixed ?_)
          simp (disch := omega) only [↓reduceIte, go_sem] <;> repeat with_reducible refine And.intro (by first | omega | decide) ?_
          refine go 2 (fun _ => false) mixed ?_
          simp (disch := omega) only [↓reduceIte, go_sem, hgt] <;> repeat with_reducible refine And.intro (by first | omega | decide) ?_
          refine go 2 (fun _ => false) mixed ?_
          simp (disch := omega) only [↓reduceIte, go_sem, hgt] <;> repeat with_reducible refine And.intro (by first | omega | decide) ?_
          refine go 2 (fun _ => false) mixed ?_
          simp (disch := omega) only [↓reduceIte, go_sem, hgt] <;> repeat with_reducible refine And.intro (by first | omega | decide) ?_
          refine hlenC.onq (go 2 (fun _ => false) mixed ?_)
          simp (disch := omega) only [↓reduceIte, go_sem] <;> repeat with_reducible refine And.intro (by first | omega | decide) ?_
          refine go 2 (fun _ => false) mixed ?_
          simp (disch := omega) only [↓reduceIte, go_sem, orf3] <;> repeat with_reducible refine And.intro (by first | omega | decide) ?_
          refine go 2 (fun _ => false) mixed ?_
          simp (disch := omega) only [↓reduceIte, go_sem, orf3] <;> repeat with_reducible refine And.intro (by first | omega | decide) ?_
          refine go 2 (fun _ => false) mixed ?_
          simp (disch := omega) only [↓reduceIte, go_sem, orf3] <;> repeat with_reducible refine And.intro (by first | omega | decide) ?_
          refine go 2 (fun _ => false) mixed ?_
          simp (disch := omega) only [↓reduceIte, go_sem, orf3] <;> repeat with_reducible refine And.intro (by first | omega | decide) ?_
          refine go 2 (fun _ => false) mixed ?_
          simp (disch := omega) only [↓reduceIte, go_sem, orf3] <;> repeat with_reducible refine And.intro (by first | omega | decide) ?_
          refine go 200 (fun _ => false) mixed ?_
          simp (disch := omega) only [↓reduceIte, go_sem, orf3] <;> repeat with_reducible refine And.intro (by first | omega | decide) ?_
          exact rnd_next ⟨K3, es2, gs1, n + 1⟩ hgi (by show l.length - (n + 1) < l.length - n; omega) rfl rfl
        · skip
          simp (disch := omega) only [↓reduceIte, go_sem, orf2, h0g] <;> repeat with_reducible refine And.intro (by first | omega | decide) ?_
          refine go 3 (fun _ => false) mixed ?_
          simp (disch := omega) only [↓reduceIte, go_sem, orf2, h0g] <;> repeat with_reducible refine And.intro (by first | omega | decide) ?_
          refine go 3 (fun _ => false) mixed ?_
          simp (disch := omega) only [↓reduceIte, go_sem, orf2, h0g] <;> repeat with_reducible refine And.intro (by first | omega | decide) ?_
          refine go 3 (fun _ => false) mixed ?_
          simp (disch := omega) only [↓reduceIte, go_sem, orf2, h0g] <;> repeat with_reducible refine And.intro (by first | omega | decide) ?_
          refine go 3 (fun _ => false) mixed ?_
          simp (disch := omega) only [↓reduceIte, go_sem, orf2, h0g] <;> repeat with_reducible refine And.intro (by first | omega | decide) ?_
          refine go 3 (fun _ => false) mixed ?_
          simp (disch := omega) only [↓reduceIte, go_sem, orf2, h0g] <;> repeat with_reducible refine And.intro (by first | omega | decide) ?_
          refine go 4 (fun _ => false) mixed ?_
          simp (disch := omega) only [↓reduceIte, go_sem, onx2, orf2] <;> repeat with_reducible refine And.intro (by first | omega | decide) ?_
          refine go 2 (fun _ => false) mixed ?_
          simp (disch := omega) only [↓reduceIte, go_sem, onx2, orf2] <;> repeat with_reducible refine And.intro (by first | omega | decide) ?_
          rw [← hK3]
          refine go 2 (fun _ => false) mixed ?_
          simp (disch := omega) only [↓reduceIte, go_sem] <;> repeat with_reducible refine And.intro (by first | omega | decide) ?_
          refine go 2 (fun _ => false) mixed ?_
          simp (disch := omega) only [↓reduceIte, go_sem] <;> repeat with_reducible refine And.intro (by first | omega | decide) ?_
          refine go 200 (fun _ => false) mixed ?_
          simp (disch := omega) only [↓reduceIte, go_sem] <;> repeat with_reducible refine And.intro (by first | omega | decide) ?_
          refine hlenC.onq (go 2 (fun _ => false) mixed ?_)
          simp (disch := omega) only [↓reduceIte, go_sem] <;> repeat with_reducible refine And.intro (by first | omega | decide) ?_
          refine go 200 (fun _ => false) mixed ?_
          simp (disch := omega) only [↓reduceIte, go_sem] <;> repeat with_reducible refine And.intro (by first | omega | decide) ?_
          refine hroomC.onq (go 2 (fun _ => false) mixed ?_)
          simp (disch := omega) only [↓reduceIte, go_sem] <;> repeat with_reducible refine And.intro (by first | omega | decide) ?_
          refine go 2 (fun _ => false) mixed ?_
          simp (disch := omega) only [↓reduceIte, go_sem, hgt] <;> repeat with_reducible refine And.intro (by first | omega | decide) ?_
          refine go 2 (fun _ => false) mixed ?_
          simp (disch := omega) only [↓reduceIte, go_sem, hgt] <;> repeat with_reducible refine And.intro (by first | omega | decide) ?_
          refine go 2 (fun _ => false) mixed ?_
          simp (disch := omega) only [↓reduceIte, go_sem, hgt] <;> repeat with_reducible refine And.intro (by first | omega | decide) ?_
          refine hlenC.onq (go 2 (fun _ => false) mixed ?_)
          simp (disch := omega) only [↓reduceIte, go_sem] <;> repeat with_reducible refine And.intro (by first | omega | decide) ?_
          refine go 2 (fun _ => false) mixed ?_
          simp (disch := omega) only [↓reduceIte, go_sem, orf3] <;> repeat with_reducible refine And.intro (by first | omega | decide) ?_
          refine go 2 (fun _ => false) mixed ?_
          simp (disch := omega) only [↓reduceIte, go_sem, orf3] <;> repeat with_reducible refine And.intro (by first | omega | decide) ?_
          refine go 2 (fun _ => false) mixed ?_
          simp (disch := omega) only [↓reduceIte, go_sem, orf3] <;> repeat with_reducible refine And.intro (by first | omega | decide) ?_
          refine go 2 (fun _ => false) mixed ?_
          simp (disch := omega) only [↓reduceIte, go_sem, orf3] <;> repeat with_reducible refine And.intro (by first | omega | decide) ?_
          refine go 2 (fun _ => false) mixed ?_
          simp (disch := omega) only [↓reduceIte, go_sem, orf3] <;> repeat with_reducible refine And.intro (by first | omega | decide) ?_
          refine go 200 (fun _ => false) mixed ?_
          simp (disch := omega) only [↓reduceIte, go_sem, orf3] <;> repeat with_reducible refine And.intro (by first | omega | decide) ?_
          exact rnd_next ⟨K3, es2, gs1, n + 1⟩ hgi (by show l.length - (n + 1) < l.length - n; omega) rfl rfl
    · have hexit : n = 70 := by omega
      subst hexit
      simp (disch := omega) only [↓reduceIte, go_sem, hlt] <;> repeat with_reducible refine And.intro (by first | omega | decide) ?_
      refine go 200 (fun _ => false) mixed ?_
      simp (disch := omega) only [↓reduceIte, go_sem] <;> repeat with_reducible refine And.intro (by first | omega | decide) ?_
      refine c_abatislaw10_lives.on (go 200 (fun _ => false) mixed ?_)
      simp (disch := omega) only [↓reduceIte, go_sem] <;> repeat with_reducible refine And.intro (by first | omega | decide) ?_
      obtain ⟨L, rfl⟩ : ∃ L, K = H ++ L := hkeep.nil_split
      exact fin_drop (.inr rfl) hb rfl (by simp)
  · simp (disch := omega) only [↓reduceIte, go_sem, hlt] <;> repeat with_reducible refine And.intro (by first | omega | decide) ?_
    refine go 200 (fun _ => false) mixed ?_
    simp (disch := omega) only [↓reduceIte, go_sem] <;> repeat with_reducible refine And.intro (by first | omega | decide) ?_
    refine c_abatislaw10_lives.on (go 200 (fun _ => false) mixed ?_)
    simp (disch := omega) only [↓reduceIte, go_sem] <;> repeat with_reducible refine And.intro (by first | omega | decide) ?_
    obtain ⟨L, rfl⟩ : ∃ L, K = H ++ L := hkeep.nil_split
    exact fin_drop (.inr rfl) hb rfl (by simp)
end Go.Proofs.GoC
