/-
  The document's example of chapter 10; the law CacheSweeps. No claim by itself.
-/
import Derived.Test.YtcmbnoloimdlaaaGoCache8
import Derived.Test.YtcmbnoloimdlaaaGoInts
namespace Go.Proofs.GoC
open Go Go.Proofs.SL
set_option linter.unusedSimpArgs false
set_option linter.unusedVariables false
set_option maxRecDepth 10000
set_option maxHeartbeats 4000000

theorem ads_nil : AdsOk [] := ⟨(by intro a h; cases h), by decide⟩
theorem Three.nil' {room : Int} (h : 0 ≤ room) : Three room [] [] := Three.nil h
/-- Put with no list. -/
theorem put_nils {H : Heap} {i j : Nat} {room : Int} {es gs : Ents} (h : CaAt H i j room es) (hs : Three room es gs) (r1 : 1 ≤ room) (r2 : room ≤ 64) (name : List UInt8) (hn : name.length < 1000000) (kind : Int) (ttl now : Int) (ht : 1 ≤ ttl) (n1 : 0 ≤ now) (n2 : now ≤ 2199023255552) :
    SCall Try.prog 13 [.ptr i 0 0, .str (bs name), .int .i64 kind, .nils, .int .i64 ttl, .int .i64 now] H fun r H' => ∃ es', r = .tup [.agg (ckC (putC room gs ⟨lowF name, kind⟩ (entP [] ttl now) now).2.1.1), .bool (putC room gs ⟨lowF name, kind⟩ (entP [] ttl now) now).2.2] ∧ CaAt H' i j room es' ∧ Three room es' (putC room gs ⟨lowF name, kind⟩ (entP [] ttl now) now).1 ∧ Keeps [j] H H' :=
  SCall.nils [.ptr i 0 0, .str (bs name), .int .i64 kind] 17 (c_cache_Cache_Put h hs r1 r2 name hn kind [] ads_nil ttl now ht n1 n2)

theorem c_abatislaw10_lives : PCall Try.prog 16 [] (.bool true) := by
  intro H
  refine scall_of (ord := fun _ => []) (rs := [0]) Try.func16 rfl (by kernel_rfl) (by kernel_rfl) (by kernel_rfl) Try.ntmps16 fun hb hargs => go 200 (fun _ => false) mixed ?_
  simp (disch := omega) only [↓reduceIte, go_sem] <;> repeat with_reducible refine And.intro (by first | omega | decide) ?_
  refine (c_cache_New 1).mono fun r H1 ⟨e1, e2⟩ => ?_
  rw [e1, e2]
  have h1 : cutS 1 64 = 1 := by decide
  rw [h1]
  refine go 200 (fun _ => false) mixed ?_
  simp (disch := omega) only [↓reduceIte, go_sem] <;> repeat with_reducible refine And.intro (by first | omega | decide) ?_
  have hB0 : CaAt (H ++ [some (.map []), some (.cells 0 [.int .i64 1, .mp H.length])]) (H.length + 1) H.length 1 [] := ⟨by rw [get_tail]; rfl, by rw [get_tail0]; rfl, by intro e he; cases he⟩
  refine (put_nils (gs := []) hB0 (Three.nil (by decide)) (by decide) (by decide) [97] (by decide) 1 60 0 (by decide) (by decide) (by decide)).mono fun r H2 ⟨es2, _, hB2, hs2, k2⟩ => ?_
  refine go 200 (fun _ => false) mixed ?_
  simp (disch := omega) only [↓reduceIte, go_sem] <;> repeat with_reducible refine And.intro (by first | omega | decide) ?_
  refine (put_nils hB2 hs2 (by decide) (by decide) [98] (by decide) 1 60 1 (by decide) (by decide) (by decide)).mono fun r H3 ⟨es3, e3, hB3, hs3, k3⟩ => ?_
  have hg : (putC 1 (putC 1 [] ⟨lowF [97], 1⟩ (entP [] 60 0) 0).1 ⟨lowF [98], 1⟩ (entP [] 60 1) 1).2.1.1 = ⟨[97], 1⟩ := by decide
  have hb3 : (putC 1 (putC 1 [] ⟨lowF [97], 1⟩ (entP [] 60 0) 0).1 ⟨lowF [98], 1⟩ (entP [] 60 1) 1).2.2 = true := by decide
  rw [hg, hb3] at e3
  rw [e3]
  refine go 200 (fun _ => false) mixed ?_
  simp (disch := omega) only [↓reduceIte, go_sem, ckC] <;> repeat with_reducible refine And.intro (by first | omega | decide) ?_
  obtain ⟨L, rfl⟩ : ∃ L, H3 = H ++ L := (Keeps.app.trans (k2.trans k3)).split (by simp)
  rw [List.append_assoc]
  exact fin_drop (.inr rfl) hb rfl (by simp)

theorem lowF_dec (n : Nat) : lowF (decF n) = decF n := by
  unfold lowF
  conv => rhs; rw [← List.map_id (decF n)]
  refine List.map_congr_left fun c hc => ?_
  have h := decF_digits n c hc
  unfold lowB
  rw [if_neg (by omega)]; rfl
def dk (n : Nat) : CKey := ⟨decF n, 1⟩
theorem dk_inj {m n : Nat} (h : dk m = dk n) : m = n := decF_inj (by injection h)
theorem putA_new {K X : Type} [DecidableEq K] {k : K} {x : X} : ∀ {l : List (K × X)}, k ∉ l.map (·.1) → putA k x l = l ++ [(k, x)]
  | [], _ => rfl
  | e :: l, h => by
    rw [List.map_cons, List.mem_cons, not_or] at h
    rw [putA, if_neg h.1, putA_new h.2]; rfl

/-- The entries of the names 0, 1, .. -/
def dkE (tt : Nat → Int) (n : Nat) : Ents := (List.range n).map fun m => (dk m, ⟨[], tt m⟩)
theorem dkE_len {tt : Nat → Int} {n : Nat} : (dkE tt n).length = n := by simp [dkE]
theorem dkE_keys {tt : Nat → Int} {n : Nat} : (dkE tt n).map (·.1) = (List.range n).map dk := by simp [dkE]
theorem dkE_not {tt : Nat → Int} {n : Nat} : dk n ∉ (dkE tt n).map (·.1) := fun h => by
  rw [dkE_keys] at h
  obtain ⟨m, hm, e⟩ := List.mem_map.mp h
  have := dk_inj e
  have := List.mem_range.mp hm
  omega
theorem dkE_nodup {tt : Nat → Int} {n : Nat} : ((dkE tt n).map (·.1)).Nodup := by
  rw [dkE_keys]
  exact List.pairwise_map.mpr (List.nodup_range.imp fun h e => h (dk_inj e))
theorem dkE_step {tt : Nat → Int} {n : Nat} : putA (dk n) ⟨[], tt n⟩ (dkE tt n) = dkE tt (n + 1) := by
  rw [putA_new dkE_not]
  simp [dkE, List.range_succ]
/-- How many are over. -/
def overN (tt : Nat → Int) (now : Int) : Nat → Nat
  | 0 => 0
  | n + 1 => overN tt now n + if tt n ≤ now then 1 else 0
theorem live_step {tt : Nat → Int} {now : Int} {n : Nat} : liveC now (dkE tt (n + 1)) = liveC now (dkE tt n) ++ if tt n ≤ now then [] else [(dk n, ⟨[], tt n⟩)] := by
  have : dkE tt (n + 1) = dkE tt n ++ [(dk n, ⟨[], tt n⟩)] := by simp [dkE, List.range_succ]
  rw [this]
  unfold liveC
  rw [List.filter_append]
  congr 1
  by_cases h : tt n ≤ now
  · simp [h]
  · simp [h, show now < tt n by omega]
theorem over_live {tt : Nat → Int} {now : Int} : ∀ {n : Nat}, (liveC now (dkE tt n)).length + overN tt now n = n
  | 0 => rfl
  | n + 1 => by
    have ih := over_live (tt := tt) (now := now) (n := n)
    rw [live_step, List.length_append]
    unfold overN
    by_cases h : tt n ≤ now
    · simp [h]; omega
    · simp [h]; omega
theorem live_live {now : Int} {es : Ents} : liveC now (liveC now es) = liveC now es := by
  unfold liveC; rw [List.filter_filter]; congr 1; funext e; simp
theorem til_live {tt : Nat → Int} {now : Int} {n i : Nat} (h : i < n) : (tilF (dk i) (liveC now (dkE tt n))).2 = decide (now < tt i) := by
  have hf : findA (dk i) (dkE tt n) = some ⟨[], tt i⟩ := (find_mem dkE_nodup).mpr (List.mem_map.mpr ⟨i, List.mem_range.mpr h, rfl⟩)
  have h1 := find_filter (p := fun (k : CKey) (e : Ent) => decide (now < e.til)) (k := dk i) (l := dkE tt n) dkE_nodup
  rw [hf] at h1
  unfold tilF liveC
  rw [h1]
  by_cases hn : now < tt i <;> simp [hn]

structure CS where
  K : Heap
  n : Nat
structure CSI (H : Heap) (tt : Nat → Int) (N : Nat) (a : CS) : Prop where
  ca : CaAt a.K (H.length + 1) H.length 64 (dkE tt a.n)
  keep : Keeps [] H a.K
  le : a.n ≤ N

theorem put_dk {H : Heap} {i j n : Nat} {tt : Nat → Int} (h : CaAt H i j 64 (dkE tt n)) (hn : n ≤ 20) (ht : 1 ≤ tt n) (ht2 : tt n ≤ 1000) :
    SCall Try.prog 13 [.ptr i 0 0, .str (bs (decF n)), .int .i64 1, .nils, .int .i64 (tt n), .int .i64 0] H fun r H' => r = .tup [.agg (ckC ck0), .bool false] ∧ CaAt H' i j 64 (dkE tt (n + 1)) ∧ Keeps [j] H H' := by
  have hd : (decF n).length < 1000000 := by have := decF_len n 1 (by omega); omega
  have hp := putC_room' h (decF n) hd 1 [] ads_nil (by decide) (tt n) 0 ht (by decide) (by decide) (.inl (by rw [dkE_len]; omega))
  rw [lowF_dec] at hp
  have e : entP [] (tt n) 0 = ⟨[], tt n⟩ := by unfold entP; rw [if_neg (by omega), Int.zero_add]
  rw [e] at hp
  exact SCall.nils [.ptr i 0 0, .str (bs (decF n)), .int .i64 1] 17 (hp.mono fun r H' ⟨e1, e2, e3⟩ => ⟨e1, by rw [← dkE_step]; exact e2, e3⟩)

theorem c_abatislaw10_CacheSweeps (l : List Int) (hl : ∀ x ∈ l, -9223372036854775808 ≤ x ∧ x ≤ 9223372036854775807) (hlen : l.length ≤ 9223372036854775807) (now0 : Int) (w1 : -9223372036854775808 ≤ now0) (w2 : now0 ≤ 9223372036854775807) :
    GCall 4 [.sl 1 (intsV l), .int .i64 now0] (.bool true) := by
  intro H hG
  refine scall_of (ord := ordCQ) (rs := [4]) Try.func4 rfl (by kernel_rfl) (by kernel_rfl) (by kernel_rfl) Try.ntmps4 fun hb hargs => go 200 (fun _ => false) mixed ?_
  simp (disch := omega) only [↓reduceIte, go_sem] <;> repeat with_reducible refine And.intro (by first | omega | decide) ?_
  refine (c_cache_New 64).mono fun r H1 ⟨e1, e2⟩ => ?_
  rw [e1, e2]
  have h64 : cutS 64 64 = 64 := by decide
  rw [h64]
  refine go 200 (fun _ => false) mixed ?_
  simp (disch := omega) only [↓reduceIte, go_sem] <;> repeat with_reducible refine And.intro (by first | omega | decide) ?_
  refine (c_abatisref01_Around now0 w1 w2 120 (by decide)).on (go 200 (fun _ => false) mixed ?_)
  have hnw := aroundF_lt now0 (by decide : 0 < 120)
  generalize aroundF now0 120 = nw at *
  have hN : ∃ N : Nat, N ≤ 20 ∧ N ≤ l.length ∧ (if 20 < l.length then (20 : Int) else (l.length : Int)) = (N : Nat) := by
    by_cases h : 20 < l.length
    · exact ⟨20, by omega, by omega, by rw [if_pos h]; rfl⟩
    · exact ⟨l.length, by omega, by omega, by rw [if_neg h]⟩
  obtain ⟨N, hN20, hNl, hNe⟩ := hN
  simp (disch := omega) only [↓reduceIte, go_sem, hNe] <;> repeat with_reducible refine And.intro (by first | omega | decide) ?_
  have htt : ∃ tt : Nat → Int, ∀ m, tt m = 1 + (aroundF (l.getD m 0) 100 : Nat) := ⟨_, fun _ => rfl⟩
  obtain ⟨tt, htt⟩ := htt
  have ht1 : ∀ m, 1 ≤ tt m ∧ tt m ≤ 100 := fun m => by
    have := aroundF_lt (l.getD m 0) (by decide : 0 < 100)
    rw [htt]; omega
  refine runs_loopA (CSI H tt N) (fun a => N - a.n) [true, true, false, false, true, true, true, true, true]
    (fun a => slots 86 [.sl 1 (intsV l), .int .i64 nw, .any, .any, .bool false, .ptr (H.length + 1) 0 0, .int .i64 (overN tt nw a.n : Nat), .int .i64 N, .int .i64 a.n]) (fun a => a.K) (by rfl) ⟨_, 0⟩
    ⟨⟨by show _ = _; rw [get_tail]; rfl, by show _ = _; rw [get_tail0]; rfl, by intro e he; cases he⟩, Keeps.app, Nat.zero_le _⟩ rfl rfl ?_
  rintro ⟨K, n⟩ ⟨hca, hkeep, hle⟩
  dsimp only at hca hkeep hle ⊢
  refine go 200 (fun _ => false) mixed ?_
  by_cases hlt : n < N
  · have hltl : n < l.length := by omega
    have dg := intsV_get hltl
    have hb_ := hl (l.getD n 0) (by rw [List.getD_eq_getElem?_getD, List.getElem?_eq_getElem hltl]; exact List.getElem_mem hltl)
    have hw1 : IntKind.i64.wrap ((1 + aroundF (l.getD n 0) 100 : Nat) : Int) = tt n := by rw [htt]; have := aroundF_lt (l.getD n 0) (by decide : 0 < 100); rw [w64 (by omega) (by omega)]; omega
    simp (disch := omega) only [↓reduceIte, go_sem, hlt, hltl, dg] <;> repeat with_reducible refine And.intro (by first | omega | decide) ?_
    refine (c_abatisref01_Around (l.getD n 0) hb_.1 hb_.2 100 (by decide)).on (go 200 (fun _ => false) mixed ?_)
    simp (disch := omega) only [↓reduceIte, go_sem, hw1] <;> repeat with_reducible refine And.intro (by first | omega | decide) ?_
    refine (c_abatisref01_Decimal n (by omega)).on (go 200 (fun _ => false) mixed ?_)
    simp (disch := omega) only [↓reduceIte, go_sem] <;> repeat with_reducible refine And.intro (by first | omega | decide) ?_
    refine (put_dk hca (by omega) (ht1 n).1 (by have := (ht1 n).2; omega)).mono fun r H2 ⟨_, hB2, k2⟩ => ?_
    have ht1n := ht1 n
    have hkk : Keeps [] H H2 := ((hkeep.mono (G := [H.length]) (by simp)).trans k2).mono (by simp)
    by_cases hto : tt n ≤ nw
    · have hov : overN tt nw (n + 1) = overN tt nw n + 1 := by rw [overN, if_pos hto]
      have hol := over_live (tt := tt) (now := nw) (n := n)
      refine go 200 (fun _ => false) mixed ?_
      simp (disch := omega) only [↓reduceIte, go_sem, hto] <;> repeat with_reducible refine And.intro (by first | omega | decide) ?_
      exact rnd_next ⟨H2, n + 1⟩ ⟨hB2, hkk, hlt⟩ (by show N - (n + 1) < N - n; omega) (by rw [hov]; rfl) rfl
    · have hov : overN tt nw (n + 1) = overN tt nw n := by rw [overN, if_neg hto]; rfl
      refine go 200 (fun _ => false) mixed ?_
      simp (disch := omega) only [↓reduceIte, go_sem, hto] <;> repeat with_reducible refine And.intro (by first | omega | decide) ?_
      exact rnd_next ⟨H2, n + 1⟩ ⟨hB2, hkk, hlt⟩ (by show N - (n + 1) < N - n; omega) (by rw [hov]; rfl) rfl
  · have hnN : n = N := by omega
    subst hnN
    have hsw := c_cache_Cache_Sweep hca dkE_nodup (by rw [dkE_len]; omega) nw
    have hol := over_live (tt := tt) (now := nw) (n := n)
    rw [dkE_len] at hsw
    simp (disch := omega) only [↓reduceIte, go_sem, hlt] <;> repeat with_reducible refine And.intro (by first | omega | decide) ?_
    refine go 200 (fun _ => false) mixed ?_
    simp (disch := omega) only [↓reduceIte, go_sem] <;> repeat with_reducible refine And.intro (by first | omega | decide) ?_
    refine hsw.mono fun r H2 ⟨e1, hB2, k2⟩ => ?_
    rw [e1]
    have hsw2 := c_cache_Cache_Sweep hB2 (dkE_nodup.sublist ((List.filter_sublist).map _)) (by omega) nw
    rw [live_live] at hsw2
    have hz : ((n : Int) - (liveC (nw : Int) (dkE tt n)).length) = (overN tt nw n : Nat) := by omega
    rw [hz]
    refine go 200 (fun _ => false) mixed ?_
    simp (disch := omega) only [↓reduceIte, go_sem] <;> repeat with_reducible refine And.intro (by first | omega | decide) ?_
    refine hsw2.mono fun r H3 ⟨e2, hB3, k3⟩ => ?_
    rw [e2, Int.sub_self]
    have hll : ((liveC (nw : Int) (dkE tt n)).length : Int) = (n : Int) - (overN tt nw n : Nat) := by omega
    have hlen3 := c_cache_Cache_Len hB3
    rw [hll] at hlen3
    have hw : IntKind.i64.wrap ((n : Int) - (overN tt nw n : Nat)) = (n : Int) - (overN tt nw n : Nat) := w64 (by omega) (by omega)
    have hkk : Keeps [] H H3 := ((hkeep.mono (G := [H.length]) (by simp)).trans (k2.trans k3)).mono (by simp)
    refine go 200 (fun _ => false) mixed ?_
    simp (disch := omega) only [↓reduceIte, go_sem] <;> repeat with_reducible refine And.intro (by first | omega | decide) ?_
    refine hlen3.mono fun r H4 ⟨e3, e4⟩ => ?_
    rw [e3, e4]
    refine go 200 (fun _ => false) mixed ?_
    simp (disch := omega) only [↓reduceIte, go_sem, hw] <;> repeat with_reducible refine And.intro (by first | omega | decide) ?_
    refine runs_loopA (fun k : Nat => k ≤ n) (fun k => n - k) [true, true, false, false, true, true, false, true, false, false, true]
      (fun k => slots 86 [.sl 1 (intsV l), .int .i64 nw, .any, .any, .bool false, .ptr (H.length + 1) 0 0, .any, .int .i64 n, .any, .any, .int .i64 k]) (fun _ => H3) (by rfl) 0 (Nat.zero_le _) rfl rfl ?_
    intro k hk
    refine go 200 (fun _ => false) mixed ?_
    by_cases hlk : k < n
    · have hltl : k < l.length := by omega
      have dg := intsV_get hltl
      have hb_ := hl (l.getD k 0) (by rw [List.getD_eq_getElem?_getD, List.getElem?_eq_getElem hltl]; exact List.getElem_mem hltl)
      have hw1 : IntKind.i64.wrap ((1 + aroundF (l.getD k 0) 100 : Nat) : Int) = tt k := by rw [htt]; have := aroundF_lt (l.getD k 0) (by decide : 0 < 100); rw [w64 (by omega) (by omega)]; omega
      have hd : (decF k).length < 1000000 := by have := decF_len k 1 (by omega); omega
      have hun := c_cache_Cache_Until hB3 (decF k) hd 1
      rw [lowF_dec] at hun
      have htl := til_live (tt := tt) (now := nw) hlk
      unfold dk at htl
      rw [htl] at hun
      simp (disch := omega) only [↓reduceIte, go_sem, hlk, hltl, dg] <;> repeat with_reducible refine And.intro (by first | omega | decide) ?_
      refine (c_abatisref01_Around (l.getD k 0) hb_.1 hb_.2 100 (by decide)).on (go 200 (fun _ => false) mixed ?_)
      simp (disch := omega) only [↓reduceIte, go_sem, hw1] <;> repeat with_reducible refine And.intro (by first | omega | decide) ?_
      refine (c_abatisref01_Decimal k (by omega)).on (go 200 (fun _ => false) mixed ?_)
      simp (disch := omega) only [↓reduceIte, go_sem] <;> repeat with_reducible refine And.intro (by first | omega | decide) ?_
      refine hun.mono fun r H5 ⟨e5, e6⟩ => ?_
      rw [e5, e6]
      by_cases hto : (nw : Int) < tt k
      · refine go 200 (fun _ => false) mixed ?_
        simp (disch := omega) only [↓reduceIte, go_sem, hto] <;> repeat with_reducible refine And.intro (by first | omega | decide) ?_
        exact rnd_next (k + 1) hlk (by show n - (k + 1) < n - k; omega) rfl rfl
      · refine go 200 (fun _ => false) mixed ?_
        simp (disch := omega) only [↓reduceIte, go_sem, hto] <;> repeat with_reducible refine And.intro (by first | omega | decide) ?_
        exact rnd_next (k + 1) hlk (by show n - (k + 1) < n - k; omega) rfl rfl
    · simp (disch := omega) only [↓reduceIte, go_sem, hlk] <;> repeat with_reducible refine And.intro (by first | omega | decide) ?_
      refine go 200 (fun _ => false) mixed ?_
      simp (disch := omega) only [↓reduceIte, go_sem] <;> repeat with_reducible refine And.intro (by first | omega | decide) ?_
      refine c_abatislaw10_lives.on (go 200 (fun _ => false) mixed ?_)
      simp (disch := omega) only [↓reduceIte, go_sem] <;> repeat with_reducible refine And.intro (by first | omega | decide) ?_
      obtain ⟨L, rfl⟩ : ∃ L, H3 = H ++ L := hkk.nil_split
      exact fin_drop (.inr rfl) hb rfl (by simp)
end Go.Proofs.GoC
