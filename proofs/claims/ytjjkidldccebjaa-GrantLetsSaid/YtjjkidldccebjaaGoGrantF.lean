/-
  What the document's Put computes. No claim by itself.
-/
import Derived.Test.YtjjkidldccebjaaGoGrantE
namespace Go.Proofs.GoC
open Go Go.Proofs.SL
set_option linter.unusedSimpArgs false
set_option linter.unusedVariables false
set_option maxRecDepth 10000
set_option maxHeartbeats 4000000

def ordRP : Nat → List Nat
  | 30 => [0, 2, 6, 4, 1, 3, 4, 5, 3, 1, 4, 5]
  | _ => []
theorem ordRP_16 : ordRP 16 = [] := rfl
theorem ordRP_24 : ordRP 24 = [] := rfl
theorem ordRP_30 : ordRP 30 = [0, 2, 6, 4, 1, 3, 4, 5, 3, 1, 4, 5] := rfl
/-- Grants, one put in its place in the row. -/
def insG (k : GKey) (u : Int) (gs : Grants) : Nat → Grants
  | 0 => (k, u) :: gs
  | n + 1 => if cmpK k (gs.getD n (key0, 0)).1 < 0 then insG k u gs n else gs.take (n + 1) ++ (k, u) :: gs.drop (n + 1)
/-- Grants without a key's. -/
def cutG (k : GKey) (gs : Grants) : Grants := if 0 ≤ idxA k gs 0 then gs.take (idxA k gs 0).toNat ++ gs.drop ((idxA k gs 0).toNat + 1) else gs

theorem idxA_lt2 {k : GKey} : ∀ {gs : Grants} {i : Nat}, 0 ≤ idxA k gs i → (idxA k gs i).toNat < i + gs.length
  | [], i, h => by simp [idxA] at h
  | e :: gs, i, h => by
    unfold idxA at h ⊢
    by_cases he : e.1 = k
    · rw [if_pos he]; simp
    · rw [if_neg he] at h ⊢
      have := idxA_lt2 h
      simp only [List.length_cons]; omega
theorem idxA_lt {k : GKey} {gs : Grants} (h : 0 ≤ idxA k gs 0) : (idxA k gs 0).toNat < gs.length := by have := idxA_lt2 h; omega
theorem cut_ok {k : GKey} {gs : Grants} (h : KeysOk gs) : KeysOk (cutG k gs) := by
  unfold cutG
  split
  · intro e he
    rcases List.mem_append.mp he with he | he
    · exact h e (List.mem_of_mem_take he)
    · exact h e (List.mem_of_mem_drop he)
  · exact h
theorem cut_len {k : GKey} {gs : Grants} : (cutG k gs).length ≤ gs.length := by
  unfold cutG
  split
  · simp only [List.length_append, List.length_take, List.length_drop]; omega
  · exact Nat.le_refl _

/-- Those that are not over. -/
def liveG (now : Int) (gs : Grants) : Grants := gs.filter fun e => decide (now < e.2)
theorem liveG_step {now : Int} {gs : Grants} {i : Nat} (h : i < gs.length) : liveG now (gs.take (i + 1)) = liveG now (gs.take i) ++ (if now < (gs.getD i (key0, 0)).2 then [gs.getD i (key0, 0)] else []) := by
  have e1 : gs.getD i (key0, 0) = gs[i] := by simp [List.getD_eq_getElem?_getD, h]
  rw [List.take_succ_eq_append_getElem h, e1]
  unfold liveG
  rw [List.filter_append]
  congr 1
  by_cases hp : now < gs[i].2 <;> simp [hp]
/-- Of the first so many the first one whose until is least. -/
def bestN (gs : Grants) : Nat → Nat
  | 0 => 0
  | n + 1 => if (gs.getD n (key0, 0)).2 < (gs.getD (bestN gs n) (key0, 0)).2 then n else bestN gs n
theorem bestN_lt {gs : Grants} : ∀ {n : Nat}, 0 < gs.length → n ≤ gs.length → bestN gs n < gs.length
  | 0, h, _ => h
  | n + 1, h, hn => by
    unfold bestN
    split
    · omega
    · exact bestN_lt h (by omega)
def cutI (gs : Grants) (i : Nat) : Grants := gs.take i ++ gs.drop (i + 1)
theorem cutI_ok {gs : Grants} {i : Nat} (h : KeysOk gs) : KeysOk (cutI gs i) := by
  intro e he
  rcases List.mem_append.mp he with he | he
  · exact h e (List.mem_of_mem_take he)
  · exact h e (List.mem_of_mem_drop he)
theorem cutI_len {gs : Grants} {i : Nat} : (cutI gs i).length ≤ gs.length := by
  simp only [cutI, List.length_append, List.length_take, List.length_drop]; omega
/-- What Put makes of the grants ahead of the new one; what it lets go. -/
def midR (room : Int) (gs : Grants) (k : GKey) (now : Int) : Grants × GKey × Bool :=
  if 0 ≤ idxA k gs 0 then (cutI gs (idxA k gs 0).toNat, key0, false)
  else if (gs.length : Int) = room then
    if ((liveG now gs).length : Int) = room then (cutI gs (bestN gs gs.length), (gs.getD (bestN gs gs.length) (key0, 0)).1, true)
    else (liveG now gs, key0, false)
  else (gs, key0, false)
def putR (room : Int) (gs : Grants) (k : GKey) (u now : Int) : Grants × GKey × Bool :=
  if u ≤ now then (gs, key0, false) else (insG k u (midR room gs k now).1 (midR room gs k now).1.length, (midR room gs k now).2.1, (midR room gs k now).2.2)

theorem mid_drop {P : Program} {T : Nat → Option TD} {ord : Nat → List Nat} {H0 K L : Heap} {Φ : AEx → Env → Heap → Prop} {k : List It} {mask : List Bool} {mid : Env → Heap → Prop} {σ : Env} (h : mid (keepB mask σ) K) (hK : HB K.length K) (hl : H0.length ≤ K.length) (hb : ∀ p ∈ keepB mask σ, Bdd K.length p) :
    Mid P T ord H0 Φ k mask mid .normal σ (K ++ L) := ⟨_, _, Ghost.cut mask hK hl hb, by rw [keepB_keepB]; exact h⟩

theorem resAll_3g {T : Nat → Option TD} {σ : Env} {H : Heap} {r r' r'' : ResultVar} : resAll T σ H [r, r', r''] = ((resOne T σ H r).1 && ((resOne T σ H r').1 && ((resOne T σ H r'').1 && true)), .tup [(resOne T σ H r).2, (resOne T σ H r').2, (resOne T σ H r'').2]) := rfl
theorem bdd_rb {n : Nat} {room : Int} {gs : Grants} : Bdd n (rbV room gs) := bdd_agg.mpr fun p hp => by
  simp only [List.mem_cons, List.not_mem_nil, or_false] at hp
  rcases hp with rfl | rfl
  · simp
  · exact .sl _ _ gV_bdd
theorem bdd_put {n : Nat} {room : Int} {gs : Grants} {k : GKey} {b : Bool} : Bdd n (.tup [rbV room gs, .agg (keyC k), .bool b]) := bdd_tup.mpr fun p hp => by
  simp only [List.mem_cons, List.not_mem_nil, or_false] at hp
  rcases hp with rfl | rfl | rfl
  · exact bdd_rb
  · exact bdd_key
  · simp
theorem gC_drop {e : GKey × Int} (h : KeyOk e.1) : List.drop 24 (gC e) = [.int .i64 e.2] := by
  unfold gC
  rw [List.drop_append_of_le_length (by rw [keyC_len h]; omega), List.drop_eq_nil_of_le (by rw [keyC_len h]; omega)]; rfl
def putEnv (n : Nat) (u now : Int) (lt : Bool) : List PV :=
  [.any, .any, .int .i64 u, .int .i64 now, .ptr n 0 0, .ptr (n + 1) 0 0, .any, .any, .ptr (n + 2) 0 0, .ptr (n + 3) 0 0, .bool false, .ptr (n + 4) 0 0, .bool lt]
def putHeap (room : Int) (gl : Grants) (k gone : GKey) : Heap :=
  [some (.cells 0 [.int .i64 room, .sl 25 (gsV gl)]), some (.cells 0 (keyC k)), some (.cells 0 [.int .i64 0, .nils]), some (.cells 0 (keyC key0)), some (.cells 0 (keyC gone))]

theorem putHeap_hb {H : Heap} (hb : HB H.length H) {room : Int} {gl : Grants} {k gone : GKey} : HB (H ++ putHeap room gl k gone).length (H ++ putHeap room gl k gone) := by
  refine HB.append (hb.mono (by simp)) fun o ho => ?_
  simp only [putHeap, List.mem_cons, Option.some.injEq, List.not_mem_nil, or_false] at ho
  rcases ho with rfl | rfl | rfl | rfl | rfl
  · exact fun p hp => by
      simp only [List.mem_cons, List.not_mem_nil, or_false] at hp
      rcases hp with rfl | rfl
      · simp
      · exact .sl _ _ gV_bdd
  · exact bdd_agg.mp bdd_key
  · exact fun p hp => by
      simp only [List.mem_cons, List.not_mem_nil, or_false] at hp
      rcases hp with rfl | rfl <;> simp
  · exact bdd_agg.mp bdd_key
  · exact bdd_agg.mp bdd_key
theorem putEnv_bdd {n m : Nat} {u now : Int} {lt : Bool} (h : n + 5 ≤ m) : ∀ p ∈ slots 135 (putEnv n u now lt), Bdd m p := by
  intro p hp
  unfold slots at hp
  rcases List.mem_append.mp hp with hp | hp
  · simp only [putEnv, List.mem_cons, List.not_mem_nil, or_false] at hp
    rcases hp with rfl | rfl | rfl | rfl | rfl | rfl | rfl | rfl | rfl | rfl | rfl | rfl | rfl <;> simp <;> omega
  · rw [(List.mem_replicate.mp hp).2]; simp
theorem mid_put {P : Program} {T : Nat → Option TD} {ord : Nat → List Nat} {H0 H' : Heap} {Φ : AEx → Env → Heap → Prop} {k : List It} {mask : List Bool} {mid : Env → Heap → Prop} {σ : Env} {room : Int} {gl : Grants} {ky gone : GKey} {u now : Int} {lt : Bool} (hb : HB H0.length H0)
    (hH : H' = H0 ++ putHeap room gl ky gone ++ [none]) (hσ : keepB mask σ = slots 135 (putEnv H0.length u now lt)) (h : mid (slots 135 (putEnv H0.length u now lt)) (H0 ++ putHeap room gl ky gone)) : Mid P T ord H0 Φ k mask mid .normal σ H' := by
  subst hH
  exact mid_drop (by rw [hσ]; exact h) (putHeap_hb hb) (by simp) (by rw [hσ]; exact putEnv_bdd (by simp [putHeap]))

theorem c_abatisref18_Put (room : Int) (hroom : 1 ≤ room) (gs : Grants) (hg : KeysOk gs) (hl : gs.length < 1000000) (k : GKey) (hk : KeyOk k) (u now : Int) :
    PCall Try.prog 17 [rbV room gs, .agg (keyC k), .int .i64 u, .int .i64 now] (.tup [rbV room (putR room gs k u now).1, .agg (keyC (putR room gs k u now).2.1), .bool (putR room gs k u now).2.2]) := by
  intro H
  have kl := keyC_len hk
  have kt := keyC_take hk
  have k0 := keyC_len key0_ok
  have k0t := keyC_take key0_ok
  have kd0 : List.drop 24 (keyC key0) = [] := List.drop_eq_nil_of_le (by omega)
  refine scall_ofc (ord := ordRP) (tdOf_ok _) (rs := [.cell 8 44,.cell 9 28, .tmp 10]) Try.func17 rfl (by kernel_rfl) (by kernel_rfl) (by kernel_rfl) Try.ntmps17 fun hb hargs => go 200 (fun t => t==118) mixed ?_
  unfold putR
  by_cases hu : u ≤ now
  · rw [if_pos hu]
    simp (disch := omega) only [↓reduceIte, go_sem, rbV, kl, kt, keyC_one, hu] <;> repeat with_reducible refine And.intro (by first | omega | decide) ?_
    exact fin_c (.inr rfl) hb (by simp (disch := omega) only [↓reduceIte, go_sem, resAll_3g, keyC_0] <;> repeat with_reducible refine And.intro (by first | omega | decide) ?_ <;> rfl) bdd_put
  · rw [if_neg hu]
    simp (disch := omega) only [↓reduceIte, go_sem, rbV, kl, kt, keyC_one, hu] <;> repeat with_reducible refine And.intro (by first | omega | decide) ?_
    refine (c_abatisref18_Find room gs hg hl k hk).on (go 4 (fun _ => false) mixed ?_)
    have hmr : ∃ mr, midR room gs k now = mr := ⟨_, rfl⟩
    obtain ⟨mr, hmr⟩ := hmr
    rw [hmr]
    simp (disch := omega) only [↓reduceIte, go_sem] <;> repeat with_reducible refine And.intro (by first | omega | decide) ?_
    refine runs_cut [false, false, true, true, true, true, false, false, true, true, true, true, true]
      (fun σ K => KeysOk mr.1 ∧ mr.1.length ≤ gs.length ∧ KeyOk mr.2.1 ∧ σ = slots 135 (putEnv H.length u now mr.2.2) ∧ K = H ++ putHeap room mr.1 k mr.2.1) (by rfl) ?_ ?_
    · refine go 200 (fun _ => false) mixed ?_
      unfold midR at hmr
      by_cases h0 : 0 ≤ idxA k gs 0
      · have hi := idxA_lt h0
        have ei : idxA k gs 0 = ((idxA k gs 0).toNat : Int) := by omega
        have hcut := c_abatisref18_cut gs hg hl (idxA k gs 0).toNat hi
        rw [← ei] at hcut
        rw [if_pos h0] at hmr
        simp (disch := omega) only [↓reduceIte, go_sem, h0] <;> repeat with_reducible refine And.intro (by first | omega | decide) ?_
        refine hcut.on (go 200 (fun _ => false) mixed ?_)
        simp (disch := omega) only [↓reduceIte, go_sem] <;> repeat with_reducible refine And.intro (by first | omega | decide) ?_
        subst hmr
        exact mid_to ⟨cutI_ok hg, cutI_len, key0_ok, rfl, rfl⟩
      · rw [if_neg h0] at hmr
        by_cases hr : (gs.length : Int) = room
        · rw [if_pos hr] at hmr
          simp (disch := omega) only [↓reduceIte, go_sem, h0, hr] <;> repeat with_reducible refine And.intro (by first | omega | decide) ?_
          have hroom0 : 0 < gs.length := by omega
          refine Runs.ghost (by rfl) (Ghost.grow (t := 14) (m := 25) rfl) ?_
          refine runs_loopA (fun i : Nat => i ≤ gs.length) (fun i => gs.length - i) [false, false, true, true, true, true, false, false, true, true, true, true, true, false, true, true, true]
            (fun i => slots 135 (putEnv H.length u now false ++ [.any, .buf (H.length + 5) (liveG now (gs.take i)).length 0 (liveG now (gs.take i)).length 25 true, .int .i64 (bestN gs i : Nat), .int .i64 i]))
            (fun i => H ++ (putHeap room gs k key0 ++ [some (.cells (liveG now (gs.take i)).length (flat (gsV (liveG now (gs.take i)))))])) (by rfl) 0 (Nat.zero_le _) (by simp [liveG, slots, keepB, putEnv, bestN]) (by simp [liveG, gsV, flat, putHeap, keyC_0]) ?_
          intro i hi
          refine go 200 (fun _ => false) mixed ?_
          have hkl : (liveG now (gs.take i)).length ≤ i := Nat.le_trans (List.length_filter_le _ _) (by rw [List.length_take]; omega)
          have hKO : KeysOk (liveG now (gs.take i)) := fun e he => hg e (List.mem_of_mem_take (List.mem_filter.mp he).1)
          have hfl : (flat (gsV (liveG now (gs.take i)))).length = (liveG now (gs.take i)).length * 25 := by rw [flat_length (gV_cells hKO), gsV_len]
          by_cases hlt : i < gs.length
          · have g := gsV_get hlt
            have hbl := bestN_lt (n := i) hroom0 hi
            have g2 := gsV_get hbl
            have hs1 := liveG_step (now := now) hlt
            have hs2 : bestN gs (i + 1) = if (gs.getD i (key0, 0)).2 < (gs.getD (bestN gs i) (key0, 0)).2 then i else bestN gs i := rfl
            have hm1 : KeyOk (gs.getD i (key0, 0)).1 := hg _ (by rw [List.getD_eq_getElem?_getD, List.getElem?_eq_getElem hlt]; exact List.getElem_mem hlt)
            have hm2 : KeyOk (gs.getD (bestN gs i) (key0, 0)).1 := hg _ (by rw [List.getD_eq_getElem?_getD, List.getElem?_eq_getElem hbl]; exact List.getElem_mem hbl)
            generalize gs.getD i (key0, 0) = e at *
            generalize gs.getD (bestN gs i) (key0, 0) = e2 at *
            have l1 := gC_len hm1
            have l2 := gC_len hm2
            have d1 := gC_drop hm1
            have d2 := gC_drop hm2
            have u1 := gC_until hm1
            have u2 := gC_until hm2
            have e1 := gC_take hm1
            have hq2 : (if e.2 < e2.2 then i else bestN gs i) = bestN gs (i + 1) := hs2.symm
            by_cases hlv : now < e.2
            · rw [if_pos hlv] at hs1
              have f1 : (liveG now (gs.take (i + 1))).length = (liveG now (gs.take i)).length + 1 := by rw [hs1]; simp
              have f2 : flat (gsV (liveG now (gs.take (i + 1)))) = flat (gsV (liveG now (gs.take i))) ++ gC e := by rw [hs1, ← gsV_app, flat_app]; simp [gsV, gV, flat, PV.cells]
              by_cases hbe : e.2 < e2.2
              · rw [if_pos hbe] at hs2
                simp (disch := omega) only [↓reduceIte, go_sem, putEnv, putHeap, most, ordRP_16, hlt, hbl, g, g2, l1, l2, d1, d2, u1, u2, hlv, hbe, hfl, gC_one, e1] <;> repeat with_reducible refine And.intro (by first | omega | decide) ?_
                exact rnd_next (i + 1) (by omega) (by show gs.length - (i + 1) < gs.length - i; omega) (by simp only [f1, hs2]; rfl) (by simp only [f1, f2, List.append_nil])
              · rw [if_neg hbe] at hs2
                simp (disch := omega) only [↓reduceIte, go_sem, putEnv, putHeap, most, ordRP_16, hlt, hbl, g, g2, l1, l2, d1, d2, u1, u2, hlv, hbe, hfl, gC_one, e1] <;> repeat with_reducible refine And.intro (by first | omega | decide) ?_
                exact rnd_next (i + 1) (by omega) (by show gs.length - (i + 1) < gs.length - i; omega) (by simp only [f1, hs2]; rfl) (by simp only [f1, f2, List.append_nil])
            · rw [if_neg hlv, List.append_nil] at hs1
              by_cases hbe : e.2 < e2.2
              · rw [if_pos hbe] at hs2
                simp (disch := omega) only [↓reduceIte, go_sem, putEnv, putHeap, most, ordRP_16, hlt, hbl, g, g2, l1, l2, d1, d2, u1, u2, hlv, hbe, hfl, gC_one, e1] <;> repeat with_reducible refine And.intro (by first | omega | decide) ?_
                exact rnd_next (i + 1) (by omega) (by show gs.length - (i + 1) < gs.length - i; omega) (by simp only [hs1, hs2]; rfl) (by simp only [hs1])
              · rw [if_neg hbe] at hs2
                simp (disch := omega) only [↓reduceIte, go_sem, putEnv, putHeap, most, ordRP_16, hlt, hbl, g, g2, l1, l2, d1, d2, u1, u2, hlv, hbe, hfl, gC_one, e1] <;> repeat with_reducible refine And.intro (by first | omega | decide) ?_
                exact rnd_next (i + 1) (by omega) (by show gs.length - (i + 1) < gs.length - i; omega) (by simp only [hs1, hs2]; rfl) (by simp only [hs1])
          · have hi2 : i = gs.length := by omega
            subst hi2
            rw [List.take_length] at hkl hKO hfl ⊢
            simp (disch := omega) only [↓reduceIte, go_sem, putEnv, putHeap, hlt] <;> repeat with_reducible refine And.intro (by first | omega | decide) ?_
            refine Runs.ghost (by rfl) (Ghost.freeze (t := 14) (xs := gsV (liveG now gs)) rfl (by rw [get_tail]; rfl) ?_ gsV_len (gV_cells hKO)) ?_
            · unfold subCells
              rw [List.drop_zero]
              exact (List.take_of_length_le (by rw [hfl]; exact Nat.le_refl _)).symm
            refine go 200 (fun _ => false) mixed ?_
            by_cases hq : ((liveG now gs).length : Int) = room
            · rw [if_pos hq] at hmr
              have hbl := bestN_lt (n := gs.length) hroom0 (Nat.le_refl _)
              have g2 := gsV_get hbl
              have hm2 : KeyOk (gs.getD (bestN gs gs.length) (key0, 0)).1 := hg _ (by rw [List.getD_eq_getElem?_getD, List.getElem?_eq_getElem hbl]; exact List.getElem_mem hbl)
              have hcut := c_abatisref18_cut gs hg hl (bestN gs gs.length) hbl
              generalize gs.getD (bestN gs gs.length) (key0, 0) = e2 at *
              have l2 := gC_len hm2
              have k2 := gC_key hm2
              have kl2 := keyC_len hm2
              have kt2 := keyC_take hm2
              simp (disch := omega) only [↓reduceIte, go_sem, hq, hbl, g2, l2, k2, kl2, kt2, k0, k0t, kd0, keyC_one] <;> repeat with_reducible refine And.intro (by first | omega | decide) ?_
              refine hcut.on (go 200 (fun _ => false) mixed ?_)
              simp (disch := omega) only [↓reduceIte, go_sem] <;> repeat with_reducible refine And.intro (by first | omega | decide) ?_
              subst hmr
              exact mid_put (gl := cutI gs (bestN gs gs.length)) (ky := k) (gone := e2.1) hb (by rw [List.append_assoc]; rfl) rfl ⟨cutI_ok hg, cutI_len, hm2, rfl, rfl⟩
            · rw [if_neg hq] at hmr
              simp (disch := omega) only [↓reduceIte, go_sem, hq] <;> repeat with_reducible refine And.intro (by first | omega | decide) ?_
              subst hmr
              exact mid_put (gl := liveG now gs) (ky := k) (gone := key0) hb (by rw [List.append_assoc]; rfl) rfl ⟨hKO, List.length_filter_le _ _, key0_ok, rfl, rfl⟩
        · rw [if_neg hr] at hmr
          simp (disch := omega) only [↓reduceIte, go_sem, h0, hr] <;> repeat with_reducible refine And.intro (by first | omega | decide) ?_
          subst hmr
          exact mid_to ⟨hg, Nat.le_refl _, key0_ok, rfl, rfl⟩
    · rintro σ K ⟨hgl, hll, hgo, rfl, rfl⟩
      refine go 12 (fun _ => false) mixed ?_
      simp (disch := omega) only [↓reduceIte, go_sem, putEnv, putHeap] <;> repeat with_reducible refine And.intro (by first | omega | decide) ?_
      refine runs_cut [false, false, true, true, true, true, false, false, true, true, true, true, true, false, false, false, false, true]
        (fun σ K => ∃ n, n ≤ mr.1.length ∧ insG k u mr.1 mr.1.length = mr.1.take n ++ (k, u) :: mr.1.drop n ∧ σ = slots 135 (putEnv H.length u now mr.2.2 ++ [.any, .any, .any, .any, .int .i64 n]) ∧ K = H ++ putHeap room mr.1 k mr.2.1) (by rfl) ?_ ?_
      · refine go 200 (fun _ => false) mixed ?_
        simp (disch := omega) only [↓reduceIte, go_sem] <;> repeat with_reducible refine And.intro (by first | omega | decide) ?_
        refine runs_loopA (fun n : Nat => n ≤ mr.1.length ∧ insG k u mr.1 mr.1.length = insG k u mr.1 n) (fun n => n) [false, false, true, true, true, true, false, false, true, true, true, true, true, false, false, false, false, true]
          (fun n => slots 135 (putEnv H.length u now mr.2.2 ++ [.any, .any, .any, .any, .int .i64 n])) (fun _ => H ++ putHeap room mr.1 k mr.2.1) (by rfl) mr.1.length ⟨Nat.le_refl _, rfl⟩ rfl rfl ?_
        rintro n ⟨hn, hins⟩
        refine go 200 (fun _ => false) mixed ?_
        cases n with
        | zero =>
          simp (disch := omega) only [↓reduceIte, go_sem, putEnv, putHeap, ordRP_24] <;> repeat with_reducible refine And.intro (by first | omega | decide) ?_
          refine go 200 (fun _ => false) mixed ?_
          simp (disch := omega) only [↓reduceIte, go_sem] <;> repeat with_reducible refine And.intro (by first | omega | decide) ?_
          exact mid_to ⟨0, Nat.zero_le _, hins, rfl, rfl⟩
        | succ m =>
          have hm : m < mr.1.length := by omega
          have g := gsV_get hm
          have hmk : KeyOk (mr.1.getD m (key0, 0)).1 := hgl _ (by rw [List.getD_eq_getElem?_getD, List.getElem?_eq_getElem hm]; exact List.getElem_mem hm)
          have hw : IntKind.i64.wrap (((m + 1 : Nat) : Int) - 1) = (m : Nat) := by rw [w64 (by omega) (by omega)]; omega
          have hcmp := c_abatisref18_Compare k (mr.1.getD m (key0, 0)).1 hk hmk
          have hstep : insG k u mr.1 (m + 1) = if cmpK k (mr.1.getD m (key0, 0)).1 < 0 then insG k u mr.1 m else mr.1.take (m + 1) ++ (k, u) :: mr.1.drop (m + 1) := rfl
          generalize mr.1.getD m (key0, 0) = e at *
          have l1 := gC_len hmk
          have l2 := gC_key hmk
          have h01 : (0 < m + 1) = True := eq_true (Nat.succ_pos m)
          have ke := keyC_len hmk
          simp (disch := omega) only [↓reduceIte, go_sem, putEnv, putHeap, ordRP_24, g, hw, hm, l1, l2, kl, kt, ke, h01] <;> repeat with_reducible refine And.intro (by first | omega | decide) ?_
          refine hcmp.onq (go 200 (fun _ => false) mixed ?_)
          by_cases hc : cmpK k e.1 < 0
          · rw [if_pos hc] at hstep
            simp (disch := omega) only [↓reduceIte, go_sem, hc] <;> repeat with_reducible refine And.intro (by first | omega | decide) ?_
            exact rnd_next m ⟨by omega, by rw [hins, hstep]⟩ (by omega) rfl rfl
          · rw [if_neg hc] at hstep
            simp (disch := omega) only [↓reduceIte, go_sem, hc] <;> repeat with_reducible refine And.intro (by first | omega | decide) ?_
            refine go 200 (fun _ => false) mixed ?_
            simp (disch := omega) only [↓reduceIte, go_sem] <;> repeat with_reducible refine And.intro (by first | omega | decide) ?_
            exact mid_to ⟨m + 1, hn, by rw [hins, hstep], rfl, rfl⟩
      · rintro σ K ⟨n, hn, hins, rfl, rfl⟩
        rw [hins]
        have tl : (mr.1.take n).length = n := by rw [List.length_take]; omega
        have kz0 : (keyC k ++ [PV.int .i64 0]).length = 25 := by rw [List.length_append, kl]; rfl
        have kz1 : List.take 24 (keyC k ++ [PV.int .i64 0]) = keyC k := by rw [List.take_append_of_le_length (by omega), kt]
        have kz2 : List.drop 25 (keyC k ++ [PV.int .i64 0]) = [] := List.drop_eq_nil_of_le (by omega)
        have ku : keyC k ++ [PV.int .i64 u] = gC (k, u) := rfl
        have lk : (gC (k, u)).length = 25 := gC_len hk
        have tk : List.take 25 (gC (k, u)) = gC (k, u) := gC_take hk
        have hf1 : (flat (gsV (mr.1.take n))).length = n * 25 := by rw [flat_length (gV_cells fun e he => hgl e (List.mem_of_mem_take he)), gsV_len, tl]
        have hf2 : (flat (gsV (mr.1.take n)) ++ gC (k, u)).length = (n + 1) * 25 := by rw [List.length_append, hf1, lk]; omega
        have tln : List.take mr.1.length mr.1 = mr.1 := List.take_length
        have dl : (mr.1.drop n).length = mr.1.length - n := List.length_drop
        refine go 55 (fun t => t==118) mixed ?_
        simp (disch := omega) only [↓reduceIte, go_sem, putEnv, putHeap, most, tl, kl, kt, kz0, kz1, kz2, ku, hf1, hf2, tln, dl, gC_one, lk, tk] <;> repeat with_reducible refine And.intro (by first | omega | decide) ?_
        have hKO : KeysOk (mr.1.take n ++ (k, u) :: mr.1.drop n) := fun e he => by
          rcases List.mem_append.mp he with he | he
          · exact hgl e (List.mem_of_mem_take he)
          · rcases List.mem_cons.mp he with rfl | he
            · exact hk
            · exact hgl e (List.mem_of_mem_drop he)
        refine Runs.ghost' (by rfl) (Ghost.freeze (t := 130) (xs := gsV (mr.1.take n ++ (k, u) :: mr.1.drop n)) rfl (by rw [get_tail]; rfl) ?_ (by rw [gsV_len, List.length_append, List.length_cons, tl, dl]; omega) (gV_cells hKO)) ?_
        · have e1 : flat (gsV (mr.1.take n ++ (k, u) :: mr.1.drop n)) = flat (gsV (mr.1.take n)) ++ gC (k, u) ++ flat (gsV (mr.1.drop n)) := by
            rw [← gsV_app, flat_app, List.append_assoc]; rfl
          unfold subCells
          rw [List.drop_zero, e1]
          refine (List.take_of_length_le ?_).symm
          rw [List.length_append, hf2, flat_length (gV_cells fun e he => hgl e (List.mem_of_mem_drop he)), gsV_len, dl]
          omega
        refine go 200 (fun _ => false) mixed ?_
        have kg := keyC_len hgo
        have kgt := keyC_take hgo
        simp (disch := omega) only [↓reduceIte, go_sem, ordRP_30, k0, k0t, kd0, kg, kgt, keyC_one] <;> repeat with_reducible refine And.intro (by first | omega | decide) ?_
        refine runs_fork (l1 := [1, 3, 4, 5]) (l2 := [3, 1, 4, 5]) rfl rfl ?_ ?_
        · refine go 200 (fun _ => false) mixed ?_
          simp (disch := omega) only [↓reduceIte, go_sem, k0, k0t, kd0, kg, kgt, keyC_one] <;> repeat with_reducible refine And.intro (by first | omega | decide) ?_
          exact fin_c (.inr rfl) hb (by simp (disch := omega) only [↓reduceIte, go_sem, resAll_3g, kg, kgt] <;> repeat with_reducible refine And.intro (by first | omega | decide) ?_ <;> rfl) bdd_put
        · refine go 200 (fun _ => false) mixed ?_
          simp (disch := omega) only [↓reduceIte, go_sem, k0, k0t, kd0, kg, kgt, keyC_one] <;> repeat with_reducible refine And.intro (by first | omega | decide) ?_
          exact fin_c (.inr rfl) hb (by simp (disch := omega) only [↓reduceIte, go_sem, resAll_3g, kg, kgt] <;> repeat with_reducible refine And.intro (by first | omega | decide) ?_ <;> rfl) bdd_put
end Go.Proofs.GoC
