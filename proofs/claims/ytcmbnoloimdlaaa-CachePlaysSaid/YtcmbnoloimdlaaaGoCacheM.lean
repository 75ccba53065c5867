/-
  The law CacheTells. No claim by itself.
-/
import Derived.Test.YtcmbnoloimdlaaaGoCacheD
import Derived.Test.YtcmbnoloimdlaaaGoCache9
import Derived.Test.YtcmbnoloimdlaaaSlView
import Derived.Test.YtcmbnoloimdlaaaSlArgS
namespace Go.Proofs.GoC
open Go Go.Proofs.SL
set_option linter.unusedSimpArgs false
set_option linter.unusedVariables false
set_option maxRecDepth 10000
set_option maxHeartbeats 4000000

theorem lowF_low (l : List UInt8) : lowF (lowF l) = lowF l := by
  unfold lowF
  rw [List.map_map]
  refine List.map_congr_left fun b _ => ?_
  show lowB (lowB b) = lowB b
  unfold lowB
  by_cases h : 65 ≤ b.toNat ∧ b.toNat ≤ 90
  · rw [if_pos h, if_neg (by rw [low_add h.2]; omega)]
  · rw [if_neg h, if_neg h]
theorem ads_of {ys : List (List PV)} (h : ∀ y ∈ ys, y.map tagP = ([.i .i64, .i .u8, .i .u8, .i .u8, .i .u8, .i .u8, .i .u8, .i .u8, .i .u8, .i .u8, .i .u8, .i .u8, .i .u8, .i .u8, .i .u8, .i .u8, .i .u8] : List Tag).map some ∧ ∀ q ∈ y, wfP q) : ∃ l : Ads, ys.map (wrapE true) = adsV l ∧ l.length = ys.length ∧ ∀ a ∈ l, AdOk a := by
  induction ys with
  | nil => exact ⟨[], rfl, rfl, by simp⟩
  | cons y ys ih =>
    obtain ⟨l, hB, hl, hm⟩ := ih fun z hz => h z (List.mem_cons_of_mem _ hz)
    obtain ⟨h0, hw⟩ := h y (by simp)
    obtain ⟨q1, x1, rfl, g1, w1, h1, hw1⟩ := cells_cons h0 hw
    obtain ⟨n9, rfl, l9, b9⟩ := cells_u8s_end 16 h1 hw1
    obtain ⟨n1, rfl, b1⟩ := cell_i64 g1 w1
    refine ⟨(n1, n9) :: l, ?_, by simp [hl], fun a ha => ?_⟩
    · rw [List.map_cons, hB]; rfl
    · rcases List.mem_cons.mp ha with rfl | ha
      · exact ⟨l9, b9⟩
      · exact hm a ha

/-- A copy, as memory of its own. -/
theorem clone_buf {H : Heap} (l : Ads) (hl : AdsOk l) (h0 : l.length ≠ 0) : SCall Try.prog 30 [.sl 17 (adsV l)] H fun r H' => r = .buf H.length 1 0 l.length 17 true ∧ H' = H ++ [some (.cells 1 (flat (adsV l)))] := by
  refine scall_of (T := tdOf Try.prog) (ord := fun _ => []) (rs := [2]) Try.func30 rfl (by kernel_rfl) (by kernel_rfl) (by kernel_rfl) Try.ntmps30 fun hb hargs => go 200 (fun t => t == 5) mixed ?_
  have et : List.take l.length l = l := List.take_length
  have hfl := adsV_flat hl
  have hlen := hl.len
  simp (disch := omega) only [↓reduceIte, go_sem, most, et, hfl, h0] <;> repeat with_reducible refine And.intro (by first | omega | decide) ?_
  exact Ends.same (.inr rfl) ⟨rfl, rfl⟩

/-- What is told, as memory of its own. -/
theorem get_buf {H : Heap} {i j : Nat} {room : Int} {es : Ents} (h : CaAt H i j room es) (name : List UInt8) (hn : name.length < 1000000) (kind now : Int) {e : Ent} (hf : findA (⟨lowF name, kind⟩ : CKey) es = some e) (hl : AdsOk e.l) (h0 : e.l.length ≠ 0) (ht : ¬ e.til ≤ now) :
    SCall Try.prog 20 [.ptr i 0 0, .str (bs name), .int .i64 kind, .int .i64 now] H fun r H' => ∃ ob, r = .tup [.buf ob 1 0 e.l.length 17 true, .bool true] ∧ H'[ob]? = some (some (.cells 1 (flat (adsV e.l)))) ∧ Keeps [] H H' ∧ H.length ≤ ob := by
  have hi := lt_of_get h.cell
  have hj := lt_of_get h.map
  have oc := obj_of h.cell
  have om := h.map
  have hk := c_cache_key name hn kind
  have kb := @keysB_ck es
  have lm := fun z => ca_has z hf
  dsimp only at lm
  refine scall_of (ord := ordCG) (rs := [8, 9]) Try.func20 rfl (by kernel_rfl) (by kernel_rfl) (by kernel_rfl) Try.ntmps20 fun hb hargs => go 200 (fun _ => false) mixed ?_
  simp (disch := omega) only [↓reduceIte, go_sem, ordCG_1, oc] <;> repeat with_reducible refine And.intro (by first | omega | decide) ?_
  refine ⟨_, fun L => hk _, go 200 (fun _ => false) mixed ?_⟩
  simp (disch := omega) only [↓reduceIte, go_sem, om, oc, kb, lm, entV, entC, ht] <;> repeat with_reducible refine And.intro (by first | omega | decide) ?_
  refine (clone_buf e.l hl h0).mono fun r H1 ⟨e1, e2⟩ => ?_
  rw [e1, e2]
  refine go 200 (fun _ => false) mixed ?_
  simp (disch := omega) only [↓reduceIte, go_sem] <;> repeat with_reducible refine And.intro (by first | omega | decide) ?_
  refine Ends.same (.inr rfl) ⟨_, rfl, by rw [get_tail]; rfl, Keeps.app, by omega⟩

theorem same_buf {H : Heap} {ob : Nat} (a b : Ads) (ha : AdsOk a) (hbk : AdsOk b) (ho : H[ob]? = some (some (.cells 1 (flat (adsV a))))) : SCall Try.prog 22 [.buf ob 1 0 a.length 17 true, .sl 17 (adsV b)] H fun r H' => r = .bool (decide (a = b)) ∧ H' = H := by
  refine PCall.view (c_abatisref10_SameAddrs a b ha hbk) (.cons (.buf ho ?_ adsV_len (adsV_cells ha) adsV_bdd) (.cons (.same (.sl _ _ adsV_bdd)) .nil)) ?_
  · unfold subCells
    rw [List.drop_zero]
    exact (List.take_of_length_le (by rw [adsV_flat ha]; exact Nat.le_refl _)).symm
  · exact .bool _

structure TS where
  H : Heap
  cs : List PV
  k : Nat
theorem adsV_nil : adsV [] = [] := rfl
theorem c_abatislaw10_CacheTells (name : List UInt8) (kind : Int) (l0 : Ads) (hl0 : ∀ a ∈ l0, AdOk a) (hlen : l0.length ≤ 9223372036854775807) (ttl0 now0 : Int) (t1 : -9223372036854775808 ≤ ttl0) (t2 : ttl0 ≤ 9223372036854775807) (w1 : -9223372036854775808 ≤ now0) (w2 : now0 ≤ 9223372036854775807) (k1 : -9223372036854775808 ≤ kind) (k2 : kind ≤ 9223372036854775807) :
    GCall 6 [.str (bs name), .int .i64 kind, .sl 17 (adsV l0), .int .i64 ttl0, .int .i64 now0] (.bool true) := by
  intro H hG
  refine scall_of (T := tdOf Try.prog) (ord := ordCQ) (rs := [10]) Try.func6 rfl (by kernel_rfl) (by kernel_rfl) (by kernel_rfl) Try.ntmps6 fun hb hargs => ?_
  refine go 200 (fun _ => false) mixed ?_
  simp (disch := omega) only [↓reduceIte, go_sem] <;> repeat with_reducible refine And.intro (by first | omega | decide) ?_
  refine (c_abatisref01_Few name 20).on (go 3 (fun _ => false) mixed ?_)
  simp (disch := omega) only [↓reduceIte, go_sem] <;> repeat with_reducible refine And.intro (by first | omega | decide) ?_
  have hnl : (name.take 20).length < 1000000 := by rw [List.length_take]; omega
  generalize name.take 20 = nm at *
  refine go 1 (fun _ => false) mixed ?_
  simp (disch := omega) only [↓reduceIte, go_sem] <;> repeat with_reducible refine And.intro (by first | omega | decide) ?_
  refine runs_cut [true, true, true, true, true, false, false, false, false, false, true]
    (fun σ K => ∃ l : Ads, AdsOk l ∧ l.length ≤ 3 ∧ σ = slots 158 [.str (bs nm), .int .i64 kind, .sl 17 (adsV l), .int .i64 ttl0, .int .i64 now0, .any, .any, .any, .any, .any, .bool false] ∧ K = H) (by rfl) ?_ ?_
  · refine go 200 (fun _ => false) mixed ?_
    by_cases h3 : 3 < l0.length
    · simp (disch := omega) only [↓reduceIte, go_sem, h3] <;> repeat with_reducible refine And.intro (by first | omega | decide) ?_
      exact mid_to ⟨l0.take 3, ⟨fun a ha => hl0 a (List.mem_of_mem_take ha), by rw [List.length_take]; omega⟩, by rw [List.length_take]; omega, rfl, rfl⟩
    · simp (disch := omega) only [↓reduceIte, go_sem, h3] <;> repeat with_reducible refine And.intro (by first | omega | decide) ?_
      exact mid_to ⟨l0, ⟨hl0, by omega⟩, by omega, rfl, rfl⟩
  rintro σ K ⟨l, hl, hl3, rfl, rfl⟩
  refine go 200 (fun _ => false) mixed ?_
  simp (disch := omega) only [↓reduceIte, go_sem] <;> repeat with_reducible refine And.intro (by first | omega | decide) ?_
  refine (c_abatisref01_Around now0 w1 w2 1099511627777 (by decide)).on (go 4 (fun _ => false) mixed ?_)
  have hnw := aroundF_lt now0 (by decide : 0 < 1099511627777)
  generalize aroundF now0 1099511627777 = nw at *
  simp (disch := omega) only [↓reduceIte, go_sem] <;> repeat with_reducible refine And.intro (by first | omega | decide) ?_
  refine runs_cut [true, true, true, true, true, false, false, false, false, false, true]
    (fun σ K' => ∃ ttl : Int, 1 ≤ ttl ∧ ttl ≤ 9223372036854775807 ∧ σ = slots 158 [.str (bs nm), .int .i64 kind, .sl 17 (adsV l), .int .i64 ttl, .int .i64 nw, .any, .any, .any, .any, .any, .bool false] ∧ K' = K) (by rfl) ?_ ?_
  · refine go 200 (fun _ => false) mixed ?_
    by_cases ht : ttl0 < 1
    · simp (disch := omega) only [↓reduceIte, go_sem, ht] <;> repeat with_reducible refine And.intro (by first | omega | decide) ?_
      refine (c_abatisref01_Around ttl0 t1 t2 1000 (by decide)).on (go 200 (fun _ => false) mixed ?_)
      have ha := aroundF_lt ttl0 (by decide : 0 < 1000)
      simp (disch := omega) only [↓reduceIte, go_sem] <;> repeat with_reducible refine And.intro (by first | omega | decide) ?_
      exact mid_to ⟨((1 + aroundF ttl0 1000 : Nat) : Int), by omega, by omega, rfl, rfl⟩
    · simp (disch := omega) only [↓reduceIte, go_sem, ht] <;> repeat with_reducible refine And.intro (by first | omega | decide) ?_
      exact mid_to ⟨ttl0, by omega, t2, rfl, rfl⟩
  rintro σ K2 ⟨ttl, ht1, ht2, rfl, rfl⟩
  have hw := capTil (now := (nw : Int)) ht1 (by omega) (by omega)
  refine go 200 (fun _ => false) mixed ?_
  simp (disch := omega) only [↓reduceIte, go_sem] <;> repeat with_reducible refine And.intro (by first | omega | decide) ?_
  refine (c_cache_New 2).mono fun r H1 ⟨e1, e2⟩ => ?_
  rw [e1, e2]
  have h4 : cutS 2 64 = 2 := by decide
  rw [h4]
  refine go 200 (fun _ => false) mixed ?_
  simp (disch := omega) only [↓reduceIte, go_sem] <;> repeat with_reducible refine And.intro (by first | omega | decide) ?_
  have hB0 : CaAt (K2 ++ [some (.map []), some (.cells 0 [.int .i64 2, .mp K2.length])]) (K2.length + 1) K2.length 2 [] := ⟨by rw [get_tail]; rfl, by rw [get_tail0]; rfl, by intro e he; cases he⟩
  refine (putC_room' hB0 nm hnl kind l hl hl.len ttl (nw : Int) ht1 (by omega) (by omega) (.inl (by decide))).mono fun r H2 ⟨_, hB2, k2'⟩ => ?_
  have htil : ∃ T : Int, T = (nw : Int) + if 604800 < ttl then 604800 else ttl := ⟨_, rfl⟩
  obtain ⟨T, hT⟩ := htil
  rw [← hT] at hw
  have hT1 : (nw : Int) < T := by rw [hT]; split <;> omega
  have hT2 : T ≤ nw + 604800 := by rw [hT]; split <;> omega
  have hent : entP l ttl (nw : Int) = ⟨l, T⟩ := by unfold entP; rw [hT]
  rw [hent] at hB2
  have hf : ∀ k : CKey, findA k (putA (⟨lowF nm, kind⟩ : CKey) (⟨l, T⟩ : Ent) []) = if k = ⟨lowF nm, kind⟩ then some ⟨l, T⟩ else none := fun k => by rw [put_find]; rfl
  have hnd : ((putA (⟨lowF nm, kind⟩ : CKey) (⟨l, T⟩ : Ent) []).map (·.1)).Nodup := put_nodup List.nodup_nil
  generalize putA (⟨lowF nm, kind⟩ : CKey) (⟨l, T⟩ : Ent) [] = es at *
  have hfk := hf ⟨lowF nm, kind⟩
  rw [if_pos rfl] at hfk
  have hsz := fun e he => (hB2.ok e he).len
  have hkw : ∃ kw : Int, IntKind.i64.wrap (kind + 1) = kw ∧ kw ≠ kind := by
    by_cases h : kind = 9223372036854775807
    · subst h; exact ⟨_, rfl, by decide⟩
    · exact ⟨kind + 1, w64 (by omega) (by omega), by omega⟩
  obtain ⟨kw, hkw, hkne⟩ := hkw
  have hnone : findA (⟨lowF nm, kw⟩ : CKey) es = none := by rw [hf, if_neg (fun h => hkne (by injection h))]
  have gv : ∀ now : Int, getF ⟨lowF nm, kind⟩ now es = if T ≤ now then ([], false) else (l, true) := fun now => by unfold getF; rw [hfk]
  have gn : getF ⟨lowF nm, kw⟩ (nw : Int) es = ([], false) := by unfold getF; rw [hnone]
  have hun := c_cache_Cache_Until hB2 nm hnl kind
  have htf : tilF ⟨lowF nm, kind⟩ es = (T, true) := by unfold tilF; rw [hfk]
  rw [htf] at hun
  have hlown : (lowF nm).length < 1000000 := by rw [lowF_len]; exact hnl
  have kk2 : Keeps [] K2 H2 := (Keeps.app.trans k2').mono (by simp)
  have hw1 : IntKind.i64.wrap (T - 1) = T - 1 := w64 (by omega) (by omega)
  have hsame := c_abatisref10_SameAddrs l l hl hl
  rw [decide_eq_true rfl] at hsame
  refine go 4 (fun _ => false) mixed ?_
  simp (disch := omega) only [↓reduceIte, go_sem] <;> repeat with_reducible refine And.intro (by first | omega | decide) ?_
  refine go 200 (fun _ => false) mixed ?_
  simp (disch := omega) only [↓reduceIte, go_sem, ← hT, hw] <;> repeat with_reducible refine And.intro (by first | omega | decide) ?_
  refine (c_abatisref01_Lower nm hnl).on (go 200 (fun _ => false) mixed ?_)
  simp (disch := omega) only [↓reduceIte, go_sem] <;> repeat with_reducible refine And.intro (by first | omega | decide) ?_
  by_cases h0 : l.length = 0
  · have hB3 := hB2
    have hBa := hB2
    have hl0' : l = [] := List.eq_nil_of_length_eq_zero h0
    have g1 := c_cache_Cache_Get hBa (lowF nm) hlown kind (nw : Int) hsz hnd
    rw [lowF_low, gv, if_neg (by omega)] at g1
    refine g1.mono fun r _ ⟨e3, e4⟩ => ?_
    rw [e3, e4]
    have g2 := c_cache_Cache_Get hBa nm hnl kind (T - 1) hsz hnd
    have g3 := c_cache_Cache_Get hBa nm hnl kind T hsz hnd
    have g4 := c_cache_Cache_Get hBa nm hnl kw (nw : Int) hsz hnd
    rw [gv, if_neg (by omega)] at g2
    rw [gv, if_pos (Int.le_refl _)] at g3
    rw [gn] at g4
    have hun := c_cache_Cache_Until hBa nm hnl kind
    rw [htf] at hun
    refine go 200 (fun _ => false) mixed ?_
    simp (disch := omega) only [↓reduceIte, go_sem, hw1] <;> repeat with_reducible refine And.intro (by first | omega | decide) ?_
    refine g2.mono fun r _ ⟨e3, e4⟩ => ?_
    rw [e3, e4]
    refine go 200 (fun _ => false) mixed ?_
    simp (disch := omega) only [↓reduceIte, go_sem] <;> repeat with_reducible refine And.intro (by first | omega | decide) ?_
    refine g3.mono fun r _ ⟨e3, e4⟩ => ?_
    rw [e3, e4]
    refine go 200 (fun _ => false) mixed ?_
    simp (disch := omega) only [↓reduceIte, go_sem, hkw] <;> repeat with_reducible refine And.intro (by first | omega | decide) ?_
    refine g4.mono fun r _ ⟨e3, e4⟩ => ?_
    rw [e3, e4]
    refine go 200 (fun _ => false) mixed ?_
    simp (disch := omega) only [↓reduceIte, go_sem] <;> repeat with_reducible refine And.intro (by first | omega | decide) ?_
    refine hun.mono fun r _ ⟨e3, e4⟩ => ?_
    rw [e3, e4]
    refine go 200 (fun _ => false) mixed ?_
    simp (disch := omega) only [↓reduceIte, go_sem, adsV_nil] <;> repeat with_reducible refine And.intro (by first | omega | decide) ?_
    refine hsame.on (go 200 (fun _ => false) mixed ?_)
    simp (disch := omega) only [↓reduceIte, go_sem] <;> repeat with_reducible refine And.intro (by first | omega | decide) ?_
    refine hsame.on (go 200 (fun _ => false) mixed ?_)
    simp (disch := omega) only [↓reduceIte, go_sem] <;> repeat with_reducible refine And.intro (by first | omega | decide) ?_
    refine runs_loopA (fun k : Nat => k = 0) (fun k => 0) [true, true, true, false, true, false, false, false, false, false, true, true, false, true, false, false, false, false, false, false, false, false, false, true]
      (fun k => slots 158 [.str (bs nm), .int .i64 kind, .sl 17 (adsV l), .any, .int .i64 nw, .any, .any, .any, .any, .any, .bool false, .ptr (K2.length + 1) 0 0, .any, .sl 17 (adsV l), .any, .any, .any, .any, .any, .any, .any, .any, .any, .int .i64 0]) (fun _ => H2) (by rfl) 0 rfl rfl rfl ?_
    intro k hk
    refine go 200 (fun _ => false) mixed ?_
    simp (disch := omega) only [↓reduceIte, go_sem, h0] <;> repeat with_reducible refine And.intro (by first | omega | decide) ?_
    have g5 := c_cache_Cache_Get hBa nm hnl kind (nw : Int) hsz hnd
    rw [gv, if_neg (by omega)] at g5
    refine go 200 (fun _ => false) mixed ?_
    simp (disch := omega) only [↓reduceIte, go_sem] <;> repeat with_reducible refine And.intro (by first | omega | decide) ?_
    refine g5.mono fun r _ ⟨e3, e4⟩ => ?_
    rw [e3, e4]
    refine go 200 (fun _ => false) mixed ?_
    simp (disch := omega) only [↓reduceIte, go_sem] <;> repeat with_reducible refine And.intro (by first | omega | decide) ?_
    refine hsame.on (go 200 (fun _ => false) mixed ?_)
    simp (disch := omega) only [↓reduceIte, go_sem] <;> repeat with_reducible refine And.intro (by first | omega | decide) ?_
    refine c_abatislaw10_lives.on (go 200 (fun _ => false) mixed ?_)
    simp (disch := omega) only [↓reduceIte, go_sem] <;> repeat with_reducible refine And.intro (by first | omega | decide) ?_
    obtain ⟨L, rfl⟩ : ∃ L, H2 = K2 ++ L := kk2.nil_split
    exact fin_drop (.inr rfl) hb rfl (by simp)
  · have hB3 := hB2
    have hg1 := get_buf hB2 (lowF nm) hlown kind (nw : Int) (e := ⟨l, T⟩) (by rw [lowF_low]; exact hfk) hl h0 (by show ¬ T ≤ (nw : Int); omega)
    refine hg1.mono fun r H3 ⟨ob, e3, hob, k3, hol⟩ => ?_
    rw [e3]
    have hBa : CaAt H3 (K2.length + 1) K2.length 2 es := ⟨k3.get hB2.cell (by simp), k3.get hB2.map (by simp), hB2.ok⟩
    have hobl := lt_of_get hob
    have hmi := lt_of_get hB2.cell
    dsimp only at hob
    have g2 := c_cache_Cache_Get hBa nm hnl kind (T - 1) hsz hnd
    have g3 := c_cache_Cache_Get hBa nm hnl kind T hsz hnd
    have g4 := c_cache_Cache_Get hBa nm hnl kw (nw : Int) hsz hnd
    rw [gv, if_neg (by omega)] at g2
    rw [gv, if_pos (Int.le_refl _)] at g3
    rw [gn] at g4
    have hun := c_cache_Cache_Until hBa nm hnl kind
    rw [htf] at hun
    refine go 200 (fun _ => false) mixed ?_
    simp (disch := omega) only [↓reduceIte, go_sem, hw1] <;> repeat with_reducible refine And.intro (by first | omega | decide) ?_
    refine g2.mono fun r _ ⟨e3, e4⟩ => ?_
    rw [e3, e4]
    refine go 200 (fun _ => false) mixed ?_
    simp (disch := omega) only [↓reduceIte, go_sem] <;> repeat with_reducible refine And.intro (by first | omega | decide) ?_
    refine g3.mono fun r _ ⟨e3, e4⟩ => ?_
    rw [e3, e4]
    refine go 200 (fun _ => false) mixed ?_
    simp (disch := omega) only [↓reduceIte, go_sem, hkw] <;> repeat with_reducible refine And.intro (by first | omega | decide) ?_
    refine g4.mono fun r _ ⟨e3, e4⟩ => ?_
    rw [e3, e4]
    refine go 200 (fun _ => false) mixed ?_
    simp (disch := omega) only [↓reduceIte, go_sem] <;> repeat with_reducible refine And.intro (by first | omega | decide) ?_
    refine hun.mono fun r _ ⟨e3, e4⟩ => ?_
    rw [e3, e4]
    refine go 200 (fun _ => false) mixed ?_
    simp (disch := omega) only [↓reduceIte, go_sem, adsV_nil] <;> repeat with_reducible refine And.intro (by first | omega | decide) ?_
    have hsb := same_buf l l hl hl hob
    rw [decide_eq_true rfl] at hsb
    refine hsb.mono fun r _ ⟨e3, e4⟩ => ?_
    rw [e3, e4]
    refine go 200 (fun _ => false) mixed ?_
    simp (disch := omega) only [↓reduceIte, go_sem] <;> repeat with_reducible refine And.intro (by first | omega | decide) ?_
    refine hsame.on (go 200 (fun _ => false) mixed ?_)
    simp (disch := omega) only [↓reduceIte, go_sem] <;> repeat with_reducible refine And.intro (by first | omega | decide) ?_
    refine runs_loopA (fun a : TS => a.H[ob]? = some (some (.cells 1 a.cs)) ∧ a.cs.length = l.length * 17 ∧ Keeps [ob] H3 a.H ∧ a.k ≤ l.length) (fun a => l.length - a.k) [true, true, true, false, true, false, false, false, false, false, true, true, false, true, false, false, false, false, false, false, false, false, false, true]
      (fun a => slots 158 [.str (bs nm), .int .i64 kind, .sl 17 (adsV l), .any, .int .i64 nw, .any, .any, .any, .any, .any, .bool false, .ptr (K2.length + 1) 0 0, .any, .buf ob 1 0 l.length 17 true, .any, .any, .any, .any, .any, .any, .any, .any, .any, .int .i64 a.k]) (fun a => a.H) (by rfl) ⟨H3, flat (adsV l), 0⟩ ⟨hob, adsV_flat hl, Keeps.refl, Nat.zero_le _⟩ rfl rfl ?_
    rintro ⟨Ha, cs, k⟩ ⟨ha1, ha2, ha3, ha4⟩
    dsimp only at ha1 ha2 ha3 ha4 ⊢
    have oa := obj_of ha1
    have hal := lt_of_get ha1
    refine go 200 (fun _ => false) mixed ?_
    by_cases hlk : k < l.length
    · simp (disch := omega) only [↓reduceIte, go_sem, hlk, oa, ha2] <;> repeat with_reducible refine And.intro (by first | omega | decide) ?_
      refine rnd_next ⟨_, _, k + 1⟩ ⟨get_set_self hal, ?_, ha3.trans (Keeps.setF (by simp)), hlk⟩ (by show l.length - (k + 1) < l.length - k; omega) rfl rfl
      simp only [List.length_append, List.length_take, List.length_drop, List.length_cons, List.length_nil, ha2]
      omega
    · have hBe : CaAt Ha (K2.length + 1) K2.length 2 es := ⟨ha3.get hBa.cell (by simp; omega), ha3.get hBa.map (by simp; omega), hB2.ok⟩
      simp (disch := omega) only [↓reduceIte, go_sem, hlk] <;> repeat with_reducible refine And.intro (by first | omega | decide) ?_
      have g5 := c_cache_Cache_Get hBe nm hnl kind (nw : Int) hsz hnd
      rw [gv, if_neg (by omega)] at g5
      refine go 200 (fun _ => false) mixed ?_
      simp (disch := omega) only [↓reduceIte, go_sem] <;> repeat with_reducible refine And.intro (by first | omega | decide) ?_
      refine g5.mono fun r _ ⟨e3, e4⟩ => ?_
      rw [e3, e4]
      refine go 200 (fun _ => false) mixed ?_
      simp (disch := omega) only [↓reduceIte, go_sem] <;> repeat with_reducible refine And.intro (by first | omega | decide) ?_
      refine hsame.on (go 200 (fun _ => false) mixed ?_)
      simp (disch := omega) only [↓reduceIte, go_sem] <;> repeat with_reducible refine And.intro (by first | omega | decide) ?_
      refine c_abatislaw10_lives.on (go 200 (fun _ => false) mixed ?_)
      simp (disch := omega) only [↓reduceIte, go_sem] <;> repeat with_reducible refine And.intro (by first | omega | decide) ?_
      obtain ⟨L, rfl⟩ : ∃ L, Ha = K2 ++ L := ((kk2.mono (G := [ob]) (by simp)).trans ((k3.mono (by simp)).trans ha3)).split (by simp; have := kk2.1; omega)
      exact fin_drop (.inr rfl) hb rfl (by simp)
end Go.Proofs.GoC
