/-
  The law CachePlays. No claim by itself. (Printed by mkcacheg.py.)
-/
import Derived.Test.YtcmbnoloimdlaaaGoCacheF
import Derived.Test.YtcmbnoloimdlaaaGoCacheL
namespace Go.Proofs.GoC
open Go Go.Proofs.SL
set_option linter.unusedSimpArgs false
set_option linter.unusedVariables false
set_option maxRecDepth 10000
set_option maxHeartbeats 2000000

def cd0 : CDeed := ⟨0, 0, 0, 0, [], []⟩
def cdV (l : List CDeed) : List PV := l.map fun d => .agg (cdC d)
@[go_sem] theorem cdV_len {l : List CDeed} : (cdV l).length = l.length := List.length_map ..
theorem cdV_get {l : List CDeed} {k : Nat} (h : k < l.length) : (cdV l).getD k .any = .agg (cdC (l.getD k cd0)) := by
  simp [cdV, List.getD_eq_getElem?_getD, h]
theorem cd_mem {l : List CDeed} (h : ∀ d ∈ l, CDeedOk d) {n : Nat} (hn : n < l.length) : CDeedOk (l.getD n cd0) := h _ (by rw [List.getD_eq_getElem?_getD, List.getElem?_eq_getElem hn]; exact List.getElem_mem hn)
theorem flatC_two {d : List CKey} {i : Nat} (hi : i < d.length) : (flat (cksW d)).getD (i * 2) .any = .str (bs (d.getD i ck0).name) ∧ (flat (cksW d)).getD (i * 2 + 1) .any = .int .i64 (d.getD i ck0).typ := by
  have h := flatC_at (d := d) (fun _ _ => trivial) hi
  have hl := flatC_len (d := d) fun _ _ => trivial
  have e0 : (flat (cksW d))[i * 2]? = (List.take 2 (List.drop (i * 2) (flat (cksW d))))[0]? := by rw [List.getElem?_take_of_lt (by decide), List.getElem?_drop]; rfl
  have e1 : (flat (cksW d))[i * 2 + 1]? = (List.take 2 (List.drop (i * 2) (flat (cksW d))))[1]? := by rw [List.getElem?_take_of_lt (by decide), List.getElem?_drop]
  rw [h] at e0 e1
  exact ⟨by rw [List.getD_eq_getElem?_getD, e0]; rfl, by rw [List.getD_eq_getElem?_getD, e1]; rfl⟩

def ordCY : Nat → List Nat
  | 10 => [0, 2, 3, 6, 4, 14, 28, 1, 14, 17, 5, 14, 7, 7, 8, 9, 10, 11, 12, 13, 11, 7, 8, 9, 10, 12, 13, 11, 5, 7, 8, 9, 10, 12, 13, 14, 28, 5, 14, 17, 1, 14, 7, 7, 8, 9, 10, 11, 12, 13, 11, 7, 8, 9, 10, 12, 13, 11, 1, 7, 8, 9, 10, 12, 13, 11, 1, 5, 7, 8, 9, 10, 12, 13]
  | _ => []
theorem ordCY_10 : ordCY 10 = [0, 2, 3, 6, 4, 14, 28, 1, 14, 17, 5, 14, 7, 7, 8, 9, 10, 11, 12, 13, 11, 7, 8, 9, 10, 12, 13, 11, 5, 7, 8, 9, 10, 12, 13, 14, 28, 5, 14, 17, 1, 14, 7, 7, 8, 9, 10, 11, 12, 13, 11, 7, 8, 9, 10, 12, 13, 11, 1, 7, 8, 9, 10, 12, 13, 11, 1, 5, 7, 8, 9, 10, 12, 13] := rfl

structure CP where
  K : Heap
  es : Ents
  gs : Ents
  now : Int
  n : Nat
structure CPI (H : Heap) (room : Int) (l : List CDeed) (a : CP) : Prop where
  bk : CaAt a.K (H.length + 1) H.length room a.es
  same : Three room a.es a.gs
  rf : a.K[H.length + 2]? = some (some (.cells 0 [.int .i64 room, .sl 4 (esV a.gs)]))
  keep : Keeps [] H a.K
  le : a.n ≤ l.length
  le50 : a.n ≤ 50
  now0 : 0 ≤ a.now
  now1 : a.now ≤ 199 * a.n

theorem c_abatislaw10_CachePlays (room0 : Int) (l : List CDeed) (hl : ∀ d ∈ l, CDeedOk d) (hlen : l.length ≤ 9223372036854775807) :
    GCall 7 [.int .i64 room0, .sl 6 (cdV l)] (.bool true) := by
  intro H hG
  refine scall_of (ord := ordCY) (rs := [4]) Try.func7 rfl (by kernel_rfl) (by kernel_rfl) (by kernel_rfl) Try.ntmps7 fun hb hargs => go 200 (fun _ => false) mixed ?_
  simp (disch := omega) only [↓reduceIte, go_sem] <;> repeat with_reducible refine And.intro (by first | omega | decide) ?_
  refine (c_cache_New room0).mono fun r H1 ⟨e1, e2⟩ => ?_
  rw [e1, e2]
  refine go 200 (fun _ => false) mixed ?_
  simp (disch := omega) only [↓reduceIte, go_sem] <;> repeat with_reducible refine And.intro (by first | omega | decide) ?_
  have hnew := c_abatisref10_New room0
  unfold rcV at hnew
  refine hnew.on (go 200 (fun _ => false) mixed ?_)
  simp (disch := omega) only [↓reduceIte, go_sem] <;> repeat with_reducible refine And.intro (by first | omega | decide) ?_
  have r1 := cutS_1 (n := room0)
  have r2 := cutS_64 (n := room0)
  generalize cutS room0 64 = room at *
  refine runs_loopA (CPI H room l) (fun a => l.length - a.n) [true, true, false, false, true, true, true, true, true]
    (fun a => slots 109 [.int .i64 room0, .sl 6 (cdV l), .any, .any, .bool false, .ptr (H.length + 1) 0 0, .ptr (H.length + 2) 0 0, .int .i64 a.now, .int .i64 a.n]) (fun a => a.K) (by rfl) ⟨_, [], [], 0, 0⟩
    ⟨⟨by show _ = _; rw [get_tail]; rfl, by show _ = _; rw [get_tail0]; rfl, by intro e he; cases he⟩, Three.nil (by omega), by show _ = _; rw [get_tail]; rfl, Keeps.app, Nat.zero_le _, Nat.zero_le _, Int.le_refl _, Int.le_refl _⟩ rfl rfl ?_
  rintro ⟨K, es, gs, now, n⟩ ⟨hbk, hsame, hrf, hkeep, hle, hle50, hnow0, hnow1⟩
  dsimp only at hbk hsame hrf hkeep hle hle50 hnow0 hnow1 ⊢
  have orf := obj_of hrf
  have hl2 := lt_of_get hrf
  refine go 200 (fun _ => false) mixed ?_
  by_cases hlt : n < l.length
  · by_cases h50 : n < 50
    · have dg := cdV_get hlt
      have hd := cd_mem hl hlt
      generalize l.getD n cd0 = d at *
      have ha := aroundF_lt d.wait (by decide : 0 < 200)
      have hw1 : IntKind.i64.wrap (now + (aroundF d.wait 200 : Nat)) = now + (aroundF d.wait 200 : Nat) := w64 (by omega) (by omega)
      simp (disch := omega) only [↓reduceIte, go_sem, hlt, h50, dg, cdC] <;> repeat with_reducible refine And.intro (by first | omega | decide) ?_
      refine (c_abatisref01_Around d.wait hd.w1 hd.w2 200 (by decide)).on (go 6 (fun _ => false) mixed ?_)
      simp (disch := omega) only [↓reduceIte, go_sem, hw1] <;> repeat with_reducible refine And.intro (by first | omega | decide) ?_
      have hnow : ∃ now2 : Int, now2 = now + (aroundF d.wait 200 : Nat) := ⟨_, rfl⟩
      obtain ⟨now2, hnow⟩ := hnow
      rw [← hnow]
      have n2a : 0 ≤ now2 := by omega
      have n2b : now2 ≤ 199 * (n + 1 : Nat) := by omega
      have hdoes := fun L => c_abatislaw10_does (H := K ++ L) hbk.app hsame r1 r2 d hd now2 n2a (by omega)
      have hdoes0 := c_abatislaw10_does hbk hsame r1 r2 d hd now2 n2a (by omega)
      refine runs_cut [true, true, false, false, true, true, true, true, true, true, true]
        (fun σ K' => ∃ es' gs' p, CaAt K' (H.length + 1) H.length room es' ∧ Three room es' gs' ∧ K'[p]? = some (some (.cells 0 [.int .i64 room, .sl 4 (esV gs')])) ∧ K.length ≤ p ∧ Keeps [H.length] K K' ∧
          σ = slots 109 [.int .i64 room0, .sl 6 (cdV l), .any, .any, .bool false, .ptr (H.length + 1) 0 0, .ptr (H.length + 2) 0 0, .int .i64 now2, .int .i64 n, .ptr p 0 0, .bool true]) (by rfl) ?_ ?_
      · refine go 200 (fun _ => false) mixed ?_
        simp (disch := omega) only [↓reduceIte, go_sem, ordCY_10, orf, dg, cdC] <;> repeat with_reducible refine And.intro (by first | omega | decide) ?_
        refine runs_fork (l1 := [1, 14, 17, 5, 14, 7, 7, 8, 9, 10, 11, 12, 13, 11, 7, 8, 9, 10, 12, 13, 11, 5, 7, 8, 9, 10, 12, 13]) (l2 := [14, 28, 5, 14, 17, 1, 14, 7, 7, 8, 9, 10, 11, 12, 13, 11, 7, 8, 9, 10, 12, 13, 11, 1, 7, 8, 9, 10, 12, 13, 11, 1, 5, 7, 8, 9, 10, 12, 13]) rfl rfl (go 200 (fun _ => false) mixed ?_) ?_
        · simp (disch := omega) only [↓reduceIte, go_sem, orf, dg, cdC] <;> repeat with_reducible refine And.intro (by first | omega | decide) ?_
          refine runs_fork (l1 := [5, 14, 7, 7, 8, 9, 10, 11, 12, 13, 11, 7, 8, 9, 10, 12, 13]) (l2 := [11, 5, 7, 8, 9, 10, 12, 13]) rfl rfl (go 200 (fun _ => false) mixed ?_) (go 200 (fun _ => false) mixed ?_)
          · simp (disch := omega) only [↓reduceIte, go_sem, orf, dg, cdC] <;> repeat with_reducible refine And.intro (by first | omega | decide) ?_
            refine runs_fork (l1 := [7, 8, 9, 10, 11, 12, 13]) (l2 := [11, 7, 8, 9, 10, 12, 13]) rfl rfl (go 200 (fun _ => false) mixed ?_) (go 200 (fun _ => false) mixed ?_)
            · simp (disch := omega) only [↓reduceIte, go_sem, orf, dg, cdC] <;> repeat with_reducible refine And.intro (by first | omega | decide) ?_
              refine hdoes0.mono fun r H2 ⟨es', gs', e1, hB2, hs2, k2⟩ => ?_
              rw [e1]
              refine go 200 (fun _ => false) mixed ?_
              simp (disch := omega) only [↓reduceIte, go_sem, rcV] <;> repeat with_reducible refine And.intro (by first | omega | decide) ?_
              exact mid_to ⟨es', gs', H2.length, hB2.app, hs2, by rw [get_tail0]; rfl, k2.1, k2.trans Keeps.app, rfl⟩
            · simp (disch := omega) only [↓reduceIte, go_sem, orf, dg, cdC] <;> repeat with_reducible refine And.intro (by first | omega | decide) ?_
              refine (hdoes _).mono fun r H2 ⟨es', gs', e1, hB2, hs2, k2⟩ => ?_
              rw [e1]
              have hz2 : H2[K.length]? = some (some (.cells 0 [.int .i64 0, .nils])) := k2.get (by rw [get_tail0]; rfl) (by simp; omega)
              have oz2 := obj_of hz2
              have lz2 := lt_of_get hz2
              refine go 200 (fun _ => false) mixed ?_
              simp (disch := omega) only [↓reduceIte, go_sem, oz2, rcV] <;> repeat with_reducible refine And.intro (by first | omega | decide) ?_
              exact mid_to ⟨es', gs', K.length, hB2.setN (by omega) (by omega), hs2, get_set_self lz2, Nat.le_refl _, keep_setN ((Keeps.app.trans k2).mono (by simp)) (Nat.le_refl _), rfl⟩
          · simp (disch := omega) only [↓reduceIte, go_sem, orf, dg, cdC] <;> repeat with_reducible refine And.intro (by first | omega | decide) ?_
            refine (hdoes _).mono fun r H2 ⟨es', gs', e1, hB2, hs2, k2⟩ => ?_
            rw [e1]
            have hz2 : H2[K.length]? = some (some (.cells 0 [.int .i64 0, .nils])) := k2.get (by rw [get_tail0]; rfl) (by simp; omega)
            have oz2 := obj_of hz2
            have lz2 := lt_of_get hz2
            refine go 200 (fun _ => false) mixed ?_
            simp (disch := omega) only [↓reduceIte, go_sem, oz2, rcV] <;> repeat with_reducible refine And.intro (by first | omega | decide) ?_
            exact mid_to ⟨es', gs', K.length, hB2.setN (by omega) (by omega), hs2, get_set_self lz2, Nat.le_refl _, keep_setN ((Keeps.app.trans k2).mono (by simp)) (Nat.le_refl _), rfl⟩
        · refine runs_fork (l1 := [5, 14, 17, 1, 14, 7, 7, 8, 9, 10, 11, 12, 13, 11, 7, 8, 9, 10, 12, 13, 11, 1, 7, 8, 9, 10, 12, 13]) (l2 := [11, 1, 5, 7, 8, 9, 10, 12, 13]) rfl rfl (go 200 (fun _ => false) mixed ?_) (go 200 (fun _ => false) mixed ?_)
          · simp (disch := omega) only [↓reduceIte, go_sem, orf, dg, cdC] <;> repeat with_reducible refine And.intro (by first | omega | decide) ?_
            refine runs_fork (l1 := [1, 14, 7, 7, 8, 9, 10, 11, 12, 13, 11, 7, 8, 9, 10, 12, 13]) (l2 := [11, 1, 7, 8, 9, 10, 12, 13]) rfl rfl (go 200 (fun _ => false) mixed ?_) (go 200 (fun _ => false) mixed ?_)
            · simp (disch := omega) only [↓reduceIte, go_sem, orf, dg, cdC] <;> repeat with_reducible refine And.intro (by first | omega | decide) ?_
              refine runs_fork (l1 := [7, 8, 9, 10, 11, 12, 13]) (l2 := [11, 7, 8, 9, 10, 12, 13]) rfl rfl (go 200 (fun _ => false) mixed ?_) (go 200 (fun _ => false) mixed ?_)
              · simp (disch := omega) only [↓reduceIte, go_sem, orf, dg, cdC] <;> repeat with_reducible refine And.intro (by first | omega | decide) ?_
                refine hdoes0.mono fun r H2 ⟨es', gs', e1, hB2, hs2, k2⟩ => ?_
                rw [e1]
                refine go 200 (fun _ => false) mixed ?_
                simp (disch := omega) only [↓reduceIte, go_sem, rcV] <;> repeat with_reducible refine And.intro (by first | omega | decide) ?_
                exact mid_to ⟨es', gs', H2.length, hB2.app, hs2, by rw [get_tail0]; rfl, k2.1, k2.trans Keeps.app, rfl⟩
              · simp (disch := omega) only [↓reduceIte, go_sem, orf, dg, cdC] <;> repeat with_reducible refine And.intro (by first | omega | decide) ?_
                refine (hdoes _).mono fun r H2 ⟨es', gs', e1, hB2, hs2, k2⟩ => ?_
                rw [e1]
                have hz2 : H2[K.length]? = some (some (.cells 0 [.int .i64 0, .nils])) := k2.get (by rw [get_tail0]; rfl) (by simp; omega)
                have oz2 := obj_of hz2
                have lz2 := lt_of_get hz2
                refine go 200 (fun _ => false) mixed ?_
                simp (disch := omega) only [↓reduceIte, go_sem, oz2, rcV] <;> repeat with_reducible refine And.intro (by first | omega | decide) ?_
                exact mid_to ⟨es', gs', K.length, hB2.setN (by omega) (by omega), hs2, get_set_self lz2, Nat.le_refl _, keep_setN ((Keeps.app.trans k2).mono (by simp)) (Nat.le_refl _), rfl⟩
            · simp (disch := omega) only [↓reduceIte, go_sem, orf, dg, cdC] <;> repeat with_reducible refine And.intro (by first | omega | decide) ?_
              refine (hdoes _).mono fun r H2 ⟨es', gs', e1, hB2, hs2, k2⟩ => ?_
              rw [e1]
              have hz2 : H2[K.length]? = some (some (.cells 0 [.int .i64 0, .nils])) := k2.get (by rw [get_tail0]; rfl) (by simp; omega)
              have oz2 := obj_of hz2
              have lz2 := lt_of_get hz2
              refine go 200 (fun _ => false) mixed ?_
              simp (disch := omega) only [↓reduceIte, go_sem, oz2, rcV] <;> repeat with_reducible refine And.intro (by first | omega | decide) ?_
              exact mid_to ⟨es', gs', K.length, hB2.setN (by omega) (by omega), hs2, get_set_self lz2, Nat.le_refl _, keep_setN ((Keeps.app.trans k2).mono (by simp)) (Nat.le_refl _), rfl⟩
          · simp (disch := omega) only [↓reduceIte, go_sem, orf, dg, cdC] <;> repeat with_reducible refine And.intro (by first | omega | decide) ?_
            refine (hdoes _).mono fun r H2 ⟨es', gs', e1, hB2, hs2, k2⟩ => ?_
            rw [e1]
            have hz2 : H2[K.length]? = some (some (.cells 0 [.int .i64 0, .nils])) := k2.get (by rw [get_tail0]; rfl) (by simp; omega)
            have oz2 := obj_of hz2
            have lz2 := lt_of_get hz2
            refine go 200 (fun _ => false) mixed ?_
            simp (disch := omega) only [↓reduceIte, go_sem, oz2, rcV] <;> repeat with_reducible refine And.intro (by first | omega | decide) ?_
            exact mid_to ⟨es', gs', K.length, hB2.setN (by omega) (by omega), hs2, get_set_self lz2, Nat.le_refl _, keep_setN ((Keeps.app.trans k2).mono (by simp)) (Nat.le_refl _), rfl⟩
      · rintro σ K2 ⟨es2, gs2, p, hB2, hs2, hp2, hpl, k2, rfl⟩
        have op2 := obj_of hp2
        have lp2 := lt_of_get hp2
        have hrf2 : K2[H.length + 2]? = some (some (.cells 0 [.int .i64 room, .sl 4 (esV gs)])) := k2.get hrf (by simp)
        have orf2 := obj_of hrf2
        have hl22 := lt_of_get hrf2
        refine go 200 (fun _ => false) mixed ?_
        simp (disch := omega) only [↓reduceIte, go_sem, op2, orf2] <;> repeat with_reducible refine And.intro (by first | omega | decide) ?_
        have hB3 : CaAt (K2.set (H.length + 2) (some (.cells 0 [.int .i64 room, .sl 4 (esV gs2)]))) (H.length + 1) H.length room es2 := hB2.setN (by omega) (by omega)
        have hrf3 : (K2.set (H.length + 2) (some (.cells 0 [.int .i64 room, .sl 4 (esV gs2)])))[H.length + 2]? = some (some (.cells 0 [.int .i64 room, .sl 4 (esV gs2)])) := get_set_self hl22
        refine (c_cache_Cache_Keys hB3 hs2 r2).mono fun r H4 ⟨ob, ver, e4, ho4, hB4, k4, hob⟩ => ?_
        rw [e4]
        have hrf4 := k4.get hrf3 (by simp)
        have orf4 := obj_of hrf4
        have oo4 := obj_of ho4
        have hl4 := lt_of_get hrf4
        have hlen4 := c_cache_Cache_Len hB4
        rw [hs2.two.len] at hlen4
        have hkk : Keeps [] H H4 := ((hkeep.mono (G := [H.length, H.length + 2]) (by simp)).trans ((k2.mono (by simp)).trans ((Keeps.setF (i := H.length + 2) (by simp)).trans (k4.mono (by simp))))).mono (by simp)
        have hroomC := c_cache_Cache_Room hB4.cell
        refine go 2 (fun _ => false) mixed ?_
        simp (disch := omega) only [↓reduceIte, go_sem, orf4] <;> repeat with_reducible refine And.intro (by first | omega | decide) ?_
        refine go 2 (fun _ => false) mixed ?_
        simp (disch := omega) only [↓reduceIte, go_sem, orf4] <;> repeat with_reducible refine And.intro (by first | omega | decide) ?_
        refine go 2 (fun _ => false) mixed ?_
        simp (disch := omega) only [↓reduceIte, go_sem, orf4] <;> repeat with_reducible refine And.intro (by first | omega | decide) ?_
        refine go 2 (fun _ => false) mixed ?_
        simp (disch := omega) only [↓reduceIte, go_sem, orf4] <;> repeat with_reducible refine And.intro (by first | omega | decide) ?_
        refine go 2 (fun _ => false) mixed ?_
        simp (disch := omega) only [↓reduceIte, go_sem, orf4] <;> repeat with_reducible refine And.intro (by first | omega | decide) ?_
        refine go 2 (fun _ => false) mixed ?_
        simp (disch := omega) only [↓reduceIte, go_sem, orf4] <;> repeat with_reducible refine And.intro (by first | omega | decide) ?_
        refine go 2 (fun _ => false) mixed ?_
        simp (disch := omega) only [↓reduceIte, go_sem, orf4] <;> repeat with_reducible refine And.intro (by first | omega | decide) ?_
        refine go 2 (fun _ => false) mixed ?_
        simp (disch := omega) only [↓reduceIte, go_sem, orf4] <;> repeat with_reducible refine And.intro (by first | omega | decide) ?_
        refine go 2 (fun _ => false) mixed ?_
        simp (disch := omega) only [↓reduceIte, go_sem, orf4] <;> repeat with_reducible refine And.intro (by first | omega | decide) ?_
        refine go 2 (fun _ => false) mixed ?_
        simp (disch := omega) only [↓reduceIte, go_sem, orf4] <;> repeat with_reducible refine And.intro (by first | omega | decide) ?_
        refine go 2 (fun _ => false) mixed ?_
        simp (disch := omega) only [↓reduceIte, go_sem, orf4] <;> repeat with_reducible refine And.intro (by first | omega | decide) ?_
        refine go 2 (fun _ => false) mixed ?_
        simp (disch := omega) only [↓reduceIte, go_sem, orf4] <;> repeat with_reducible refine And.intro (by first | omega | decide) ?_
        refine go 2 (fun _ => false) mixed ?_
        simp (disch := omega) only [↓reduceIte, go_sem, orf4] <;> repeat with_reducible refine And.intro (by first | omega | decide) ?_
        refine go 2 (fun _ => false) mixed ?_
        simp (disch := omega) only [↓reduceIte, go_sem, orf4] <;> repeat with_reducible refine And.intro (by first | omega | decide) ?_
        refine go 200 (fun _ => false) mixed ?_
        simp (disch := omega) only [↓reduceIte, go_sem, orf4] <;> repeat with_reducible refine And.intro (by first | omega | decide) ?_
        refine hlen4.onq (go 2 (fun _ => false) mixed ?_)
        simp (disch := omega) only [↓reduceIte, go_sem, orf4] <;> repeat with_reducible refine And.intro (by first | omega | decide) ?_
        refine go 2 (fun _ => false) mixed ?_
        simp (disch := omega) only [↓reduceIte, go_sem, orf4] <;> repeat with_reducible refine And.intro (by first | omega | decide) ?_
        refine go 2 (fun _ => false) mixed ?_
        simp (disch := omega) only [↓reduceIte, go_sem, orf4] <;> repeat with_reducible refine And.intro (by first | omega | decide) ?_
        refine go 2 (fun _ => false) mixed ?_
        simp (disch := omega) only [↓reduceIte, go_sem, orf4] <;> repeat with_reducible refine And.intro (by first | omega | decide) ?_
        refine go 2 (fun _ => false) mixed ?_
        simp (disch := omega) only [↓reduceIte, go_sem, orf4] <;> repeat with_reducible refine And.intro (by first | omega | decide) ?_
        refine go 2 (fun _ => false) mixed ?_
        simp (disch := omega) only [↓reduceIte, go_sem, orf4] <;> repeat with_reducible refine And.intro (by first | omega | decide) ?_
        refine go 2 (fun _ => false) mixed ?_
        simp (disch := omega) only [↓reduceIte, go_sem, orf4] <;> repeat with_reducible refine And.intro (by first | omega | decide) ?_
        refine go 2 (fun _ => false) mixed ?_
        simp (disch := omega) only [↓reduceIte, go_sem, orf4] <;> repeat with_reducible refine And.intro (by first | omega | decide) ?_
        refine hroomC.onq (go 2 (fun _ => false) mixed ?_)
        simp (disch := omega) only [↓reduceIte, go_sem, orf4] <;> repeat with_reducible refine And.intro (by first | omega | decide) ?_
        refine go 2 (fun _ => false) mixed ?_
        simp (disch := omega) only [↓reduceIte, go_sem, orf4] <;> repeat with_reducible refine And.intro (by first | omega | decide) ?_
        refine go 2 (fun _ => false) mixed ?_
        simp (disch := omega) only [↓reduceIte, go_sem, orf4] <;> repeat with_reducible refine And.intro (by first | omega | decide) ?_
        refine go 2 (fun _ => false) mixed ?_
        simp (disch := omega) only [↓reduceIte, go_sem, orf4] <;> repeat with_reducible refine And.intro (by first | omega | decide) ?_
        refine go 2 (fun _ => false) mixed ?_
        simp (disch := omega) only [↓reduceIte, go_sem, orf4] <;> repeat with_reducible refine And.intro (by first | omega | decide) ?_
        refine go 200 (fun _ => false) mixed ?_
        simp (disch := omega) only [↓reduceIte, go_sem, orf4] <;> repeat with_reducible refine And.intro (by first | omega | decide) ?_
        refine runs_loopA (fun k : Nat => k ≤ gs2.length) (fun k => gs2.length - k) [true, true, false, false, true, true, true, true, true, false, false, true, true]
          (fun k => slots 109 [.int .i64 room0, .sl 6 (cdV l), .any, .any, .bool false, .ptr (H.length + 1) 0 0, .ptr (H.length + 2) 0 0, .int .i64 now2, .int .i64 n, .any, .any, .buf ob ver 0 gs2.length 2 true, .int .i64 k]) (fun _ => H4) (by rfl) 0 (Nat.zero_le _) rfl rfl ?_
        intro k hk
        have hle2 := hs2.len
        refine go 5 (fun _ => false) mixed ?_
        by_cases hlk : k < gs2.length
        · have hfl := flatC_len (d := gs2.map (·.1)) fun _ _ => trivial
          rw [List.length_map] at hfl
          obtain ⟨gk1, gk2⟩ := flatC_two (d := gs2.map (·.1)) (i := k) (by rw [List.length_map]; exact hlk)
          have hgk : (gs2.map (·.1)).getD k ck0 = (gs2.getD k ent0).1 := by simp [List.getD_eq_getElem?_getD, hlk]
          rw [hgk] at gk1 gk2
          have gg := esV_get hlk
          generalize gs2.getD k ent0 = e at *
          simp (disch := omega) only [↓reduceIte, go_sem, hlk] <;> repeat with_reducible refine And.intro (by first | omega | decide) ?_
          refine go 2 (fun _ => false) mixed ?_
          simp (disch := omega) only [↓reduceIte, go_sem, hlk, orf4, oo4, hfl, gk1, gk2, gg, eC] <;> repeat with_reducible refine And.intro (by first | omega | decide) ?_
          refine go 2 (fun _ => false) mixed ?_
          simp (disch := omega) only [↓reduceIte, go_sem, hlk, orf4, oo4, hfl, gk1, gk2, gg, eC] <;> repeat with_reducible refine And.intro (by first | omega | decide) ?_
          refine go 2 (fun _ => false) mixed ?_
          simp (disch := omega) only [↓reduceIte, go_sem, hlk, orf4, oo4, hfl, gk1, gk2, gg, eC] <;> repeat with_reducible refine And.intro (by first | omega | decide) ?_
          refine go 2 (fun _ => false) mixed ?_
          simp (disch := omega) only [↓reduceIte, go_sem, hlk, orf4, oo4, hfl, gk1, gk2, gg, eC] <;> repeat with_reducible refine And.intro (by first | omega | decide) ?_
          refine go 2 (fun _ => false) mixed ?_
          simp (disch := omega) only [↓reduceIte, go_sem, hlk, orf4, oo4, hfl, gk1, gk2, gg, eC] <;> repeat with_reducible refine And.intro (by first | omega | decide) ?_
          refine go 2 (fun _ => false) mixed ?_
          simp (disch := omega) only [↓reduceIte, go_sem, hlk, orf4, oo4, hfl, gk1, gk2, gg, eC] <;> repeat with_reducible refine And.intro (by first | omega | decide) ?_
          refine go 2 (fun _ => false) mixed ?_
          simp (disch := omega) only [↓reduceIte, go_sem, hlk, orf4, oo4, hfl, gk1, gk2, gg, eC] <;> repeat with_reducible refine And.intro (by first | omega | decide) ?_
          refine go 2 (fun _ => false) mixed ?_
          simp (disch := omega) only [↓reduceIte, go_sem, hlk, orf4, oo4, hfl, gk1, gk2, gg, eC] <;> repeat with_reducible refine And.intro (by first | omega | decide) ?_
          refine go 2 (fun _ => false) mixed ?_
          simp (disch := omega) only [↓reduceIte, go_sem, hlk, orf4, oo4, hfl, gk1, gk2, gg, eC] <;> repeat with_reducible refine And.intro (by first | omega | decide) ?_
          refine go 2 (fun _ => false) mixed ?_
          simp (disch := omega) only [↓reduceIte, go_sem, hlk, orf4, oo4, hfl, gk1, gk2, gg, eC] <;> repeat with_reducible refine And.intro (by first | omega | decide) ?_
          refine go 2 (fun _ => false) mixed ?_
          simp (disch := omega) only [↓reduceIte, go_sem, hlk, orf4, oo4, hfl, gk1, gk2, gg, eC] <;> repeat with_reducible refine And.intro (by first | omega | decide) ?_
          refine go 2 (fun _ => false) mixed ?_
          simp (disch := omega) only [↓reduceIte, go_sem, hlk, orf4, oo4, hfl, gk1, gk2, gg, eC] <;> repeat with_reducible refine And.intro (by first | omega | decide) ?_
          refine go 2 (fun _ => false) mixed ?_
          simp (disch := omega) only [↓reduceIte, go_sem, hlk, orf4, oo4, hfl, gk1, gk2, gg, eC] <;> repeat with_reducible refine And.intro (by first | omega | decide) ?_
          refine go 2 (fun _ => false) mixed ?_
          simp (disch := omega) only [↓reduceIte, go_sem, hlk, orf4, oo4, hfl, gk1, gk2, gg, eC] <;> repeat with_reducible refine And.intro (by first | omega | decide) ?_
          refine go 2 (fun _ => false) mixed ?_
          simp (disch := omega) only [↓reduceIte, go_sem, hlk, orf4, oo4, hfl, gk1, gk2, gg, eC] <;> repeat with_reducible refine And.intro (by first | omega | decide) ?_
          refine go 2 (fun _ => false) mixed ?_
          simp (disch := omega) only [↓reduceIte, go_sem, hlk, orf4, oo4, hfl, gk1, gk2, gg, eC] <;> repeat with_reducible refine And.intro (by first | omega | decide) ?_
          refine go 2 (fun _ => false) mixed ?_
          simp (disch := omega) only [↓reduceIte, go_sem, hlk, orf4, oo4, hfl, gk1, gk2, gg, eC] <;> repeat with_reducible refine And.intro (by first | omega | decide) ?_
          refine go 2 (fun _ => false) mixed ?_
          simp (disch := omega) only [↓reduceIte, go_sem, hlk, orf4, oo4, hfl, gk1, gk2, gg, eC] <;> repeat with_reducible refine And.intro (by first | omega | decide) ?_
          refine go 2 (fun _ => false) mixed ?_
          simp (disch := omega) only [↓reduceIte, go_sem, hlk, orf4, oo4, hfl, gk1, gk2, gg, eC] <;> repeat with_reducible refine And.intro (by first | omega | decide) ?_
          refine go 2 (fun _ => false) mixed ?_
          simp (disch := omega) only [↓reduceIte, go_sem, hlk, orf4, oo4, hfl, gk1, gk2, gg, eC] <;> repeat with_reducible refine And.intro (by first | omega | decide) ?_
          refine go 2 (fun _ => false) mixed ?_
          simp (disch := omega) only [↓reduceIte, go_sem, hlk, orf4, oo4, hfl, gk1, gk2, gg, eC] <;> repeat with_reducible refine And.intro (by first | omega | decide) ?_
          refine go 2 (fun _ => false) mixed ?_
          simp (disch := omega) only [↓reduceIte, go_sem, hlk, orf4, oo4, hfl, gk1, gk2, gg, eC] <;> repeat with_reducible refine And.intro (by first | omega | decide) ?_
          refine go 2 (fun _ => false) mixed ?_
          simp (disch := omega) only [↓reduceIte, go_sem, hlk, orf4, oo4, hfl, gk1, gk2, gg, eC] <;> repeat with_reducible refine And.intro (by first | omega | decide) ?_
          refine go 2 (fun _ => false) mixed ?_
          simp (disch := omega) only [↓reduceIte, go_sem, hlk, orf4, oo4, hfl, gk1, gk2, gg, eC] <;> repeat with_reducible refine And.intro (by first | omega | decide) ?_
          refine go 2 (fun _ => false) mixed ?_
          simp (disch := omega) only [↓reduceIte, go_sem, hlk, orf4, oo4, hfl, gk1, gk2, gg, eC] <;> repeat with_reducible refine And.intro (by first | omega | decide) ?_
          refine go 2 (fun _ => false) mixed ?_
          simp (disch := omega) only [↓reduceIte, go_sem, hlk, orf4, oo4, hfl, gk1, gk2, gg, eC] <;> repeat with_reducible refine And.intro (by first | omega | decide) ?_
          refine go 2 (fun _ => false) mixed ?_
          simp (disch := omega) only [↓reduceIte, go_sem, hlk, orf4, oo4, hfl, gk1, gk2, gg, eC] <;> repeat with_reducible refine And.intro (by first | omega | decide) ?_
          refine go 2 (fun _ => false) mixed ?_
          simp (disch := omega) only [↓reduceIte, go_sem, hlk, orf4, oo4, hfl, gk1, gk2, gg, eC] <;> repeat with_reducible refine And.intro (by first | omega | decide) ?_
          refine go 2 (fun _ => false) mixed ?_
          simp (disch := omega) only [↓reduceIte, go_sem, hlk, orf4, oo4, hfl, gk1, gk2, gg, eC] <;> repeat with_reducible refine And.intro (by first | omega | decide) ?_
          refine go 200 (fun _ => false) mixed ?_
          simp (disch := omega) only [↓reduceIte, go_sem] <;> repeat with_reducible refine And.intro (by first | omega | decide) ?_
          exact rnd_next (k + 1) hlk (by show gs2.length - (k + 1) < gs2.length - k; omega) rfl rfl
        · simp (disch := omega) only [↓reduceIte, go_sem, hlk] <;> repeat with_reducible refine And.intro (by first | omega | decide) ?_
          refine go 200 (fun _ => false) mixed ?_
          simp (disch := omega) only [↓reduceIte, go_sem, hlk] <;> repeat with_reducible refine And.intro (by first | omega | decide) ?_
          refine go 200 (fun _ => false) mixed ?_
          simp (disch := omega) only [↓reduceIte, go_sem] <;> repeat with_reducible refine And.intro (by first | omega | decide) ?_
          exact rnd_next ⟨H4, es2, gs2, now2, n + 1⟩ ⟨hB4, hs2, hrf4, hkk, hlt, h50, n2a, n2b⟩ (by show l.length - (n + 1) < l.length - n; omega) rfl rfl
    · have hexit : n = 50 := by omega
      subst hexit
      simp (disch := omega) only [↓reduceIte, go_sem, hlt] <;> repeat with_reducible refine And.intro (by first | omega | decide) ?_
      refine go 200 (fun _ => false) mixed ?_
      simp (disch := omega) only [↓reduceIte, go_sem] <;> repeat with_reducible refine And.intro (by first | omega | decide) ?_
      refine c_abatislaw10_lives.on (go 200 (fun _ => false) mixed ?_)
      simp (disch := omega) only [↓reduceIte, go_sem] <;> repeat with_reducible refine And.intro (by first | omega | decide) ?_
      obtain ⟨L, rfl⟩ : ∃ L, K = H ++ L := hkeep.nil_split
      exact fin_drop (.inr rfl) hb rfl (by simp)
  · simp (disch := omega) only [↓reduceIte, go_sem, hlt] <;> repeat with_reducible refine And.intro (by first | omega | decide) ?_
    refine go 200 (fun _ => false) mixed ?_
    simp (disch := omega) only [↓reduceIte, go_sem] <;> repeat with_reducible refine And.intro (by first | omega | decide) ?_
    refine c_abatislaw10_lives.on (go 200 (fun _ => false) mixed ?_)
    simp (disch := omega) only [↓reduceIte, go_sem] <;> repeat with_reducible refine And.intro (by first | omega | decide) ?_
    obtain ⟨L, rfl⟩ : ∃ L, K = H ++ L := hkeep.nil_split
    exact fin_drop (.inr rfl) hb rfl (by simp)
end Go.Proofs.GoC
