/-
  The law GrantDrops. No claim by itself.
-/
import Derived.Test.YtjjkidldccebjaaGoGrantG
namespace Go.Proofs.GoC
open Go Go.Proofs.SL
set_option linter.unusedSimpArgs false
set_option linter.unusedVariables false
set_option maxRecDepth 10000
set_option maxHeartbeats 4000000

/-- Keys, as a slice holds them. -/
def ksV (l : List GKey) : List PV := l.map keyV
@[go_sem] theorem ksV_len {l : List GKey} : (ksV l).length = l.length := List.length_map ..
theorem ksV_get {l : List GKey} {n : Nat} (h : n < l.length) : (ksV l).getD n .any = .agg (keyC (l.getD n key0)) := by
  simp [ksV, keyV, List.getD_eq_getElem?_getD, h]
@[go_sem] theorem ksV_take {l : List GKey} {n : Nat} : List.take n (ksV l) = ksV (l.take n) := by simp [ksV, List.map_take]
theorem orgC_drop {o : Org} : List.drop 3 (orgC o) = [] := rfl
theorem key_mem {l : List GKey} (h : ∀ k ∈ l, KeyOk k) {n : Nat} (hn : n < l.length) : KeyOk (l.getD n key0) := h _ (by rw [List.getD_eq_getElem?_getD, List.getElem?_eq_getElem hn]; exact List.getElem_mem hn)

def ordGD : Nat → List Nat
  | 13 => [2012]
  | 16 => [0, 1, 3, 2, 4, 5, 6, 8, 19, 11, 7, 9, 10, 11, 12, 13, 14, 15, 16, 17, 18, 9, 10, 7, 11, 12, 13, 14, 15, 16, 17, 18]
  | _ => []
theorem ordGD_13 : ordGD 13 = [2012] := rfl
theorem ordGD_16 : ordGD 16 = [0, 1, 3, 2, 4, 5, 6, 8, 19, 11, 7, 9, 10, 11, 12, 13, 14, 15, 16, 17, 18, 9, 10, 7, 11, 12, 13, 14, 15, 16, 17, 18] := rfl
theorem ordGD_21 : ordGD 21 = [] := rfl

structure GD where
  K : Heap
  es : Grants
  gs : Grants
  n : Nat
structure GDI (H : Heap) (l : List GKey) (o : Org) (a : GD) : Prop where
  bk : BkAt a.K (H.length + 2) (H.length + 1) 64 a.es
  same : Same2 a.es a.gs
  org : a.K[H.length]? = some (some (.cells 0 (orgC o)))
  rf : a.K[H.length + 3]? = some (some (.cells 0 [.int .i64 64, .sl 25 (gsV a.gs)]))
  keep : Keeps [] H a.K
  le : a.n ≤ l.length
  len : a.es.length ≤ a.n
  has : ∀ k ∈ l.take a.n, findA k a.es = some 5

theorem c_abatislaw18_GrantDrops (l0 : List GKey) (hl0 : ∀ k ∈ l0, KeyOk k) (hlen0 : l0.length ≤ 9223372036854775807) (o0 : Org) (at_ : Int) (a1 : -9223372036854775808 ≤ at_) (a2 : at_ ≤ 9223372036854775807) :
    GCall 6 [.sl 24 (ksV l0), .agg (orgC o0), .int .i64 at_] (.bool true) := by
  intro H hG
  refine scall_of (T := tdOf Try.prog) (ord := ordGD) (rs := [6]) Try.func6 rfl (by kernel_rfl) (by kernel_rfl) (by kernel_rfl) Try.ntmps6 fun hb hargs => go 8 (fun _ => false) mixed ?_
  simp (disch := omega) only [↓reduceIte, go_sem, orgC_one] <;> repeat with_reducible refine And.intro (by first | omega | decide) ?_
  refine runs_cut [true, false, true, false, true, false, true]
    (fun σ K => ∃ l : List GKey, (∀ k ∈ l, KeyOk k) ∧ l.length ≤ 20 ∧ σ = slots 110 [.sl 24 (ksV l), .any, .int .i64 at_, .any, .ptr H.length 0 0, .any, .bool false] ∧ K = H ++ [some (.cells 0 (orgC o0))]) (by rfl) ?_ ?_
  · refine go 200 (fun _ => false) mixed ?_
    by_cases h20 : 20 < l0.length
    · have h20i : (20 : Int) < l0.length := by omega
      simp (disch := omega) only [↓reduceIte, go_sem, h20, h20i] <;> repeat with_reducible refine And.intro (by first | omega | decide) ?_
      exact mid_to ⟨l0.take 20, fun k hk => hl0 k (List.mem_of_mem_take hk), by rw [List.length_take]; omega, rfl, rfl⟩
    · have h20i : ¬ (20 : Int) < l0.length := by omega
      simp (disch := omega) only [↓reduceIte, go_sem, h20, h20i] <;> repeat with_reducible refine And.intro (by first | omega | decide) ?_
      exact mid_to ⟨l0, hl0, by omega, rfl, rfl⟩
  · rintro σ K ⟨l, hl, hlen, rfl, rfl⟩
    refine go 1 (fun _ => false) mixed ?_
    simp (disch := omega) only [↓reduceIte, go_sem] <;> repeat with_reducible refine And.intro (by first | omega | decide) ?_
    refine runs_cut [true, false, true, false, true, false, true]
      (fun σ K => ∃ o : Org, σ = slots 110 [.sl 24 (ksV l), .any, .int .i64 at_, .any, .ptr H.length 0 0, .any, .bool false] ∧ K = H ++ [some (.cells 0 (orgC o))]) (by rfl) ?_ ?_
    · refine go 200 (fun _ => false) mixed ?_
      by_cases h0 : 0 < l.length
      · by_cases h2 : at_.tmod 2 = 0
        · have hx := aroundF_lt at_ h0
          have g := ksV_get hx
          have hk := key_mem hl hx
          have kl := keyC_len hk
          simp (disch := omega) only [↓reduceIte, go_sem, h0, h2] <;> repeat with_reducible refine And.intro (by first | omega | decide) ?_
          refine (c_abatisref01_Around at_ a1 a2 l.length h0).on (go 200 (fun _ => false) mixed ?_)
          simp (disch := omega) only [↓reduceIte, go_sem, hx, g, kl, keyC_page, orgC_len, orgC_take, orgC_one, orgC_drop] <;> repeat with_reducible refine And.intro (by first | omega | decide) ?_
          exact mid_to ⟨(l.getD (aroundF at_ l.length) key0).page, rfl, rfl⟩
        · simp (disch := omega) only [↓reduceIte, go_sem, h0, h2] <;> repeat with_reducible refine And.intro (by first | omega | decide) ?_
          exact mid_to ⟨o0, rfl, rfl⟩
      · simp (disch := omega) only [↓reduceIte, go_sem, h0] <;> repeat with_reducible refine And.intro (by first | omega | decide) ?_
        exact mid_to ⟨o0, rfl, rfl⟩
    · rintro σ K ⟨o, rfl, rfl⟩
      refine go 200 (fun _ => false) mixed ?_
      simp (disch := omega) only [↓reduceIte, go_sem] <;> repeat with_reducible refine And.intro (by first | omega | decide) ?_
      refine (c_grant_New 64).mono fun r H1 ⟨e1, e2⟩ => ?_
      rw [e1, e2]
      refine go 200 (fun _ => false) mixed ?_
      have e3 : (H ++ [some (OB.cells 0 (orgC o))]).length = H.length + 1 := by simp
      simp only [e3]
      simp (disch := omega) only [↓reduceIte, go_sem] <;> repeat with_reducible refine And.intro (by first | omega | decide) ?_
      refine (c_abatisref18_New 64).on (go 200 (fun _ => false) mixed ?_)
      simp (disch := omega) only [↓reduceIte, go_sem, rbV] <;> repeat with_reducible refine And.intro (by first | omega | decide) ?_
      have hr64 : roomF 64 = 64 := by decide
      rw [hr64]
      refine runs_loopA (GDI H l o) (fun a => l.length - a.n) [true, false, false, false, true, false, true, true, true, true]
        (fun a => slots 110 [.sl 24 (ksV l), .any, .any, .any, .ptr H.length 0 0, .any, .bool false, .ptr (H.length + 2) 0 0, .ptr (H.length + 3) 0 0, .int .i64 a.n]) (fun a => a.K) (by rfl) ⟨_, [], [], 0⟩
        ⟨⟨by show _ = _; rw [get_tail]; rfl, by show _ = _; rw [get_tail]; rfl, by intro e he; cases he⟩, Same2.nil, by show _ = _; rw [get_tail0]; rfl, by show _ = _; rw [get_tail]; rfl, Keeps.app, Nat.zero_le _, Nat.le_refl _, by intro k hk; simp at hk⟩ rfl rfl ?_
      rintro ⟨K, es, gs, n⟩ ⟨hbk, hsame, horg, hrf, hkeep, hle, hes, hhas⟩
      dsimp only at hbk hsame horg hrf hkeep hle hes hhas ⊢
      have oorg := obj_of horg
      have orf := obj_of hrf
      refine go 200 (fun _ => false) mixed ?_
      by_cases hlt : n < l.length
      · have g := ksV_get hlt
        have hk := key_mem hl hlt
        have hget : l.getD n key0 = l[n] := by simp [List.getD_eq_getElem?_getD, hlt]
        have htk : l.take (n + 1) = l.take n ++ [l.getD n key0] := by rw [List.take_succ_eq_append_getElem hlt, hget]
        generalize l.getD n key0 = k at *
        have kl := keyC_len hk
        have kt := keyC_take hk
        simp (disch := omega) only [↓reduceIte, go_sem, hlt, g, kl, kt] <;> repeat with_reducible refine And.intro (by first | omega | decide) ?_
        refine (put_room hbk k hk 5 0 (.inl (by omega))).mono fun r K1 ⟨e4, hB, hK1⟩ => ?_
        rw [e4]
        rw [if_neg (by decide)] at hB
        have hl3 : H.length + 3 < K1.length := by
          have := (List.getElem?_eq_some_iff.mp (hK1.get hrf (by simp))).1; exact this
        have hl0' : H.length < K1.length := by omega
        have hrf1 : K1[H.length + 3]? = some (some (.cells 0 [.int .i64 64, .sl 25 (gsV gs)])) := hK1.get hrf (by simp)
        have orf1 := obj_of hrf1
        have hgl : gs.length < 1000000 := by rw [← hsame.len]; omega
        have hput := c_abatisref18_Put 64 (by decide) gs hsame.ok2 hgl k hk 5 0
        have hs2 := hsame.put (room := 64) (u := 5) (now := 0) hk (by decide) (.inr (by rw [← hsame.len]; omega))
        have hnone := (putR_room (room := 64) (u := 5) (now := 0) (k := k) hsame.nodup2 (by decide) (.inr (by rw [← hsame.len]; omega))).2
        generalize putR 64 gs k 5 0 = pr at *
        obtain ⟨gs1, pk, pb⟩ := pr
        simp only [Prod.mk.injEq] at hnone
        obtain ⟨rfl, rfl⟩ := hnone
        have k0 := keyC_len key0_ok
        have k0t := keyC_take key0_ok
        refine go 200 (fun _ => false) mixed ?_
        simp (disch := omega) only [↓reduceIte, go_sem, ordGD_13, orf1, g, hlt, kl, kt] <;> repeat with_reducible refine And.intro (by first | omega | decide) ?_
        refine ⟨_, fun L => hput _, go 200 (fun _ => false) mixed ?_⟩
        simp (disch := omega) only [↓reduceIte, go_sem, orf1, rbV, k0, k0t, keyC_one] <;> repeat with_reducible refine And.intro (by first | omega | decide) ?_
        refine rnd_next ⟨List.set K1 (H.length + 3) (some (.cells 0 [.int .i64 64, .sl 25 (gsV gs1)])) ++ [none, none, none, none, none, none, none, none, none, none, some (.cells 1 [.int .i64 64, .sl 25 (gsV gs1)]), some (.cells 1 (keyC key0))], putA k 5 es, gs1, n + 1⟩ ⟨?_, hs2, ?_, ?_, ?_, ?_, ?_, ?_⟩ (by show l.length - (n + 1) < l.length - n; omega) rfl ?_
        · refine ⟨?_, ?_, hB.ok⟩
          · rw [get_app_lt (by simp; omega), get_set_ne (by omega)]; exact hB.cell
          · rw [get_app_lt (by simp; omega), get_set_ne (by omega)]; exact hB.map
        · rw [get_app_lt (by simp; omega), get_set_ne (by omega)]; exact hK1.get horg (by simp)
        · rw [get_app_lt (by simp; omega), get_set_self (by omega)]
        · exact ((hkeep.mono (G := [H.length + 1, H.length + 3]) (by simp)).trans ((hK1.mono (G := [H.length + 1, H.length + 3]) (by simp)).trans ((Keeps.setF (i := H.length + 3) (F := [H.length + 1, H.length + 3]) (by simp)).trans Keeps.app))).mono (by simp)
        · show n + 1 ≤ l.length; omega
        · show (putA k 5 es).length ≤ n + 1
          have := put_len (k := k) (x := (5 : Int)) (l := es); omega
        · intro k' hk'
          show findA k' (putA k 5 es) = some 5
          rw [put_find]
          have hk'' : k' ∈ l.take (n + 1) := hk'
          rw [htk] at hk''
          rcases List.mem_append.mp hk'' with h | h
          · split
            · rfl
            · exact hhas k' h
          · rw [List.mem_singleton.mp h, if_pos rfl]
        · rfl
      · have hn : n = l.length := by omega
        subst hn
        rw [List.take_length] at hhas
        have hl3 : H.length + 3 < K.length := (List.getElem?_eq_some_iff.mp hrf).1
        have hl0' : H.length < K.length := by omega
        simp (disch := omega) only [↓reduceIte, go_sem, hlt] <;> repeat with_reducible refine And.intro (by first | omega | decide) ?_
        refine go 1 (fun _ => false) mixed ?_
        have hgl : gs.length < 1000000 := by rw [← hsame.len]; omega
        have hdr := c_abatisref18_Drop 64 gs hsame.ok2 hgl o
        simp (disch := omega) only [↓reduceIte, go_sem] <;> repeat with_reducible refine And.intro (by first | omega | decide) ?_
        refine go 1 (fun _ => false) mixed ?_
        simp (disch := omega) only [↓reduceIte, go_sem, orf, oorg, orgC_len] <;> repeat with_reducible refine And.intro (by first | omega | decide) ?_
        refine go 200 (fun _ => false) mixed ?_
        simp (disch := omega) only [↓reduceIte, go_sem, orf, oorg, orgC_len, orgC_take, orgC_one, rbV] <;> repeat with_reducible refine And.intro (by first | omega | decide) ?_
        refine hdr.on (go 1 (fun _ => false) mixed ?_)
        simp (disch := omega) only [↓reduceIte, go_sem, rbV] <;> repeat with_reducible refine And.intro (by first | omega | decide) ?_
        refine go 1 (fun _ => false) mixed ?_
        simp (disch := omega) only [↓reduceIte, go_sem] <;> repeat with_reducible refine And.intro (by first | omega | decide) ?_
        refine go 200 (fun _ => false) mixed ?_
        simp (disch := omega) only [↓reduceIte, go_sem, ordGD_16, oorg, orgC_len, orgC_take] <;> repeat with_reducible refine And.intro (by first | omega | decide) ?_
        have hp : (es.filter fun e : GKey × Int => !decide (e.1.page = o)).Perm (keepG o gs) := hsame.perm.filter _
        have hpl := hp.length_eq
        have hb1 : BkAt (K ++ [some (.cells 0 [.int .i64 64, .sl 25 (gsV (keepG o gs))])]) (H.length + 2) (H.length + 1) 64 es := hbk.app
        have hel : es.length = gs.length := hsame.len
        refine (c_grant_Book_Drop hb1 hsame.nodup (by omega) o).mono fun r K3 ⟨e5, hB3, hK3⟩ => ?_
        rw [e5, hpl, hel]
        have horg3 : K3[H.length]? = some (some (.cells 0 (orgC o))) := hK3.get (get_app horg) (by simp)
        have hnx3 : K3[K.length]? = some (some (.cells 0 [.int .i64 64, .sl 25 (gsV (keepG o gs))])) := hK3.get (by rw [get_tail0]; rfl) (by simp; omega)
        have oorg3 := obj_of horg3
        have onx3 := obj_of hnx3
        have hn3 : ((es.filter fun e : GKey × Int => !decide (e.1.page = o)).map (·.1)).Nodup := hsame.nodup.sublist ((List.filter_sublist).map _)
        have hl3' : (es.filter fun e : GKey × Int => !decide (e.1.page = o)).length < 1000000 := by
          have := List.length_filter_le (fun e : GKey × Int => !decide (e.1.page = o)) es; omega
        have hlen3 := c_grant_Book_Len hB3
        have hdr3 := c_grant_Book_Drop hB3 hn3 hl3' o
        have hff : ((es.filter fun e : GKey × Int => !decide (e.1.page = o)).filter fun e : GKey × Int => !decide (e.1.page = o)) = es.filter fun e : GKey × Int => !decide (e.1.page = o) := by
          rw [List.filter_filter]; congr 1; funext e; simp
        have hfind : ∀ k ∈ l, holdsF k 0 (es.filter fun e : GKey × Int => !decide (e.1.page = o)) = !decide (k.page = o) := fun k hk => by
          have h1 := find_filter (p := fun (k : GKey) (_ : Int) => !decide (k.page = o)) (k := k) hsame.nodup
          rw [hhas k hk] at h1
          unfold holdsF untilF
          by_cases hpg : k.page = o
          · simp only [hpg, decide_true, Bool.not_true, Bool.false_eq_true, if_false] at h1
            rw [h1]; simp [hpg]
          · simp only [hpg, decide_false, Bool.not_false, if_true] at h1
            rw [h1]; simp [hpg]
        rw [hff] at hdr3
        generalize hes2 : (es.filter fun e : GKey × Int => !decide (e.1.page = o)) = es2 at *
        have hl20 : gs.length ≤ 20 := by omega
        have hkl : (keepG o gs).length ≤ gs.length := by unfold keepG; exact List.length_filter_le _ _
        refine go 200 (fun _ => false) mixed ?_
        simp (disch := omega) only [↓reduceIte, go_sem, oorg3, orgC_len, orgC_take] <;> repeat with_reducible refine And.intro (by first | omega | decide) ?_
        refine runs_fork (l1 := [7, 9, 10, 11, 12, 13, 14, 15, 16, 17, 18]) (l2 := [9, 10, 7, 11, 12, 13, 14, 15, 16, 17, 18]) rfl rfl (go 200 (fun _ => false) mixed ?_) (go 200 (fun _ => false) mixed ?_)
        all_goals
          simp (disch := omega) only [↓reduceIte, go_sem, onx3] <;> repeat with_reducible refine And.intro (by first | omega | decide) ?_
          refine hlen3.mono fun r _ ⟨e6, e7⟩ => ?_
          rw [e6, e7, hpl]
          refine go 200 (fun _ => false) mixed ?_
          simp (disch := omega) only [↓reduceIte, go_sem, onx3, oorg3, orgC_len, orgC_take] <;> repeat with_reducible refine And.intro (by first | omega | decide) ?_
          refine hdr3.mono fun r K4 ⟨e8, hB4, hK4⟩ => ?_
          have horg4 : K4[H.length]? = some (some (.cells 0 (orgC o))) := hK4.get horg3 (by simp)
          have oorg4 := obj_of horg4
          rw [e8]
          refine go 200 (fun _ => false) mixed ?_
          simp (disch := omega) only [↓reduceIte, go_sem, hpl] <;> repeat with_reducible refine And.intro (by first | omega | decide) ?_
          intro _
          refine runs_loopA (fun n : Nat => n ≤ l.length) (fun n => l.length - n) [true, false, false, false, true, false, true, true, false, false, false, false, false, false, false, true]
            (fun n => slots 110 [.sl 24 (ksV l), .any, .any, .any, .ptr H.length 0 0, .any, .bool false, .ptr (H.length + 2) 0 0, .any, .any, .any, .any, .any, .any, .any, .int .i64 n]) (fun _ => K4) (by rfl) 0 (Nat.zero_le _) rfl rfl ?_
          intro n hn
          refine go 200 (fun _ => false) mixed ?_
          by_cases hlt : n < l.length
          · have g := ksV_get hlt
            have hk := key_mem hl hlt
            have hkm : l.getD n key0 ∈ l := by rw [List.getD_eq_getElem?_getD, List.getElem?_eq_getElem hlt]; exact List.getElem_mem hlt
            have hfk := hfind _ hkm
            generalize l.getD n key0 = k at *
            have kl := keyC_len hk
            have kt := keyC_take hk
            have hh := c_grant_Book_Holds hB4 k hk 0
            rw [hfk] at hh
            simp (disch := omega) only [↓reduceIte, go_sem, hlt, g, kl, kt, ordGD_21] <;> repeat with_reducible refine And.intro (by first | omega | decide) ?_
            refine hh.onq (go 200 (fun _ => false) mixed ?_)
            have hpd : (orgC k.page = orgC o) = (k.page = o) := propext orgC_inj
            by_cases hpg : k.page = o
            · simp (disch := omega) only [↓reduceIte, go_sem, hlt, g, kl, kt, oorg4, orgC_len, orgC_take, keyC_page, orgC_tag, hpd, hpg] <;> repeat with_reducible refine And.intro (by first | omega | decide) ?_
              refine rnd_next (n + 1) ?_ (by show l.length - (n + 1) < l.length - n; omega) rfl rfl; exact hlt
            · simp (disch := omega) only [↓reduceIte, go_sem, hlt, g, kl, kt, oorg4, orgC_len, orgC_take, keyC_page, orgC_tag, hpd, hpg] <;> repeat with_reducible refine And.intro (by first | omega | decide) ?_
              refine rnd_next (n + 1) ?_ (by show l.length - (n + 1) < l.length - n; omega) rfl rfl; exact hlt
          · simp (disch := omega) only [↓reduceIte, go_sem, hlt] <;> repeat with_reducible refine And.intro (by first | omega | decide) ?_
            refine go 200 (fun _ => false) mixed ?_
            simp (disch := omega) only [↓reduceIte, go_sem] <;> repeat with_reducible refine And.intro (by first | omega | decide) ?_
            refine c_abatislaw18_lives.on (go 200 (fun _ => false) mixed ?_)
            simp (disch := omega) only [↓reduceIte, go_sem] <;> repeat with_reducible refine And.intro (by first | omega | decide) ?_
            obtain ⟨L, rfl⟩ : ∃ L, K4 = H ++ L := ((hkeep.mono (G := [H.length + 1]) (by simp)).trans (Keeps.app.trans (hK3.trans hK4))).split (by simp)
            exact fin_drop (.inr rfl) hb rfl (by simp)
end Go.Proofs.GoC
