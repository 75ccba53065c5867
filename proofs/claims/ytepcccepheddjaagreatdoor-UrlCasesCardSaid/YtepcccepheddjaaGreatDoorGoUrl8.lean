/-
  What the document's functions compute: references, addresses made; the law UrlJoins. No claim by itself.
-/
import Derived.Test.YtepcccepheddjaaGreatDoorGoUrl7
namespace Go.Proofs.GoC
open Go Go.Proofs.SL
set_option linter.unusedSimpArgs false
set_option linter.unusedVariables false
set_option maxRecDepth 10000
set_option maxHeartbeats 8000000

theorem prefix_iff (s p : List UInt8) : Lib.hasPrefix s p = true ↔ s.take p.length = p := by
  unfold Lib.hasPrefix
  rw [List.isPrefixOf_iff_prefix, List.prefix_iff_eq_take]
  exact eq_comm

theorem c_abatisref13_Join (u : Ur) (ref : List UInt8) (hl : u.sch.length + u.host.length + ref.length < 800000) (hp : u.port ≤ 1099511627776) : PCall Tryz.prog 22 [urV u, .str (bs ref)] (parseUV (joinU u ref)) := by
  intro H
  have ht := textU_len u hp
  have hp2 : Lib.hasPrefix ref [47, 47] = true ↔ ref.take 2 = [47, 47] := prefix_iff ref [47, 47]
  have hp1 : Lib.hasPrefix ref [47] = true ↔ ref.take 1 = [47] := prefix_iff ref [47]
  unfold joinU
  refine scall_ofc (ord := fun _ => []) (tdOf_ok _) (rs := [.cell 4 24, .tmp 5]) Tryz.func22 rfl (by kernel_rfl) (by kernel_rfl) (by kernel_rfl) Tryz.ntmps22 fun hb hargs => go 200 (fun _ => false) mixed ?_
  simp (disch := omega) only [↓reduceIte, go_sem, urV, urC] <;> repeat with_reducible refine And.intro (by first | omega | decide) ?_
  refine (c_abatisref13_scheme ref (by omega)).on (go 200 (fun _ => false) mixed ?_)
  rcases scheme_cut ref with ⟨hbad, hsf⟩ | ⟨a0, b, hs, hcut, hpos, hlen, hsf⟩
  · rw [if_neg (fun h => by rcases hbad with h' | h'; rw [h'] at h; exact nomatch h.1; omega), hsf]
    simp (disch := omega) only [↓reduceIte, go_sem] <;> repeat with_reducible refine And.intro (by first | omega | decide) ?_
    by_cases h2 : 2 ≤ ref.length ∧ ref.take 2 = [47, 47]
    · obtain ⟨h2l, h2t⟩ := h2
      rw [if_pos (hp2.mpr h2t)]
      simp (disch := omega) only [↓reduceIte, go_sem, h2l, h2t] <;> repeat with_reducible refine And.intro (by first | omega | decide) ?_
      obtain ⟨v, e, hv⟩ := parseUV_two (parseU (u.sch ++ 58 :: ref))
      have hap : u.sch ++ [58] ++ ref = u.sch ++ 58 :: ref := by simp
      have hc := c_abatisref13_Parse (u.sch ++ 58 :: ref) (by simp only [List.length_append, List.length_cons]; omega)
      rw [hv] at hc ⊢
      simp (disch := omega) only [↓reduceIte, go_sem, List.length_append, List.length_cons, hap] <;> repeat with_reducible refine And.intro (by first | omega | decide) ?_
      refine hc.on (go 200 (fun _ => false) mixed ?_)
      simp (disch := omega) only [↓reduceIte, go_sem, urV, urC] <;> repeat with_reducible refine And.intro (by first | omega | decide) ?_
      refine fin_c (.inr rfl) hb ?_ (hv ▸ parseUV_bdd (parseU (u.sch ++ 58 :: ref)))
      simp (disch := omega) only [↓reduceIte, go_sem] <;> repeat with_reducible refine And.intro (by first | omega | decide) ?_
      all_goals rfl
    · have h2n : ¬ Lib.hasPrefix ref [47, 47] = true := fun h => h2 ⟨by have h2 := congrArg List.length (hp2.mp h); rw [List.length_take] at h2; simp at h2; omega, hp2.mp h⟩
      rw [if_neg h2n]
      by_cases h2l : 2 ≤ ref.length
      · have h2t : ¬ ref.take 2 = [47, 47] := fun h => h2 ⟨h2l, h⟩
        by_cases h1 : 1 ≤ ref.length ∧ ref.take 1 = [47]
        · obtain ⟨h1l, h1t⟩ := h1
          rw [if_pos (hp1.mpr h1t)]
          simp (disch := omega) only [↓reduceIte, go_sem, h1l, h1t, h2l, h2t] <;> repeat with_reducible refine And.intro (by first | omega | decide) ?_
          refine (c_abatisref13_Origin u).on (go 200 (fun _ => false) mixed ?_)
          simp (disch := omega) only [↓reduceIte, go_sem] <;> repeat with_reducible refine And.intro (by first | omega | decide) ?_
          refine (c_abatisref13_Text u (by omega) hp).on (go 200 (fun _ => false) mixed ?_)
          obtain ⟨v, e, hv⟩ := parseUV_two (parseU (textU u ++ ref))
          have hc := c_abatisref13_Parse (textU u ++ ref) (by simp only [List.length_append]; omega)
          rw [hv] at hc ⊢
          simp (disch := omega) only [↓reduceIte, go_sem, List.length_append, List.length_cons] <;> repeat with_reducible refine And.intro (by first | omega | decide) ?_
          refine hc.on (go 200 (fun _ => false) mixed ?_)
          simp (disch := omega) only [↓reduceIte, go_sem, urV, urC] <;> repeat with_reducible refine And.intro (by first | omega | decide) ?_
          refine fin_c (.inr rfl) hb ?_ (hv ▸ parseUV_bdd (parseU (textU u ++ ref)))
          simp (disch := omega) only [↓reduceIte, go_sem] <;> repeat with_reducible refine And.intro (by first | omega | decide) ?_
          all_goals rfl
        · have h1n : ¬ Lib.hasPrefix ref [47] = true := fun h => h1 ⟨by have h2 := congrArg List.length (hp1.mp h); rw [List.length_take] at h2; simp at h2; omega, hp1.mp h⟩
          rw [if_neg h1n]
          by_cases h1l : 1 ≤ ref.length
          · have h1t : ¬ ref.take 1 = [47] := fun h => h1 ⟨h1l, h⟩
            simp (disch := omega) only [↓reduceIte, go_sem, h1l, h1t, h2l, h2t] <;> repeat with_reducible refine And.intro (by first | omega | decide) ?_
            refine fin_c (.inr rfl) hb ?_ (parseUV_bdd (.error 2))
            simp (disch := omega) only [↓reduceIte, go_sem] <;> repeat with_reducible refine And.intro (by first | omega | decide) ?_
            all_goals rfl
          · exfalso; omega
      · by_cases h1 : 1 ≤ ref.length ∧ ref.take 1 = [47]
        · obtain ⟨h1l, h1t⟩ := h1
          rw [if_pos (hp1.mpr h1t)]
          simp (disch := omega) only [↓reduceIte, go_sem, h1l, h1t, h2l] <;> repeat with_reducible refine And.intro (by first | omega | decide) ?_
          refine (c_abatisref13_Origin u).on (go 200 (fun _ => false) mixed ?_)
          simp (disch := omega) only [↓reduceIte, go_sem] <;> repeat with_reducible refine And.intro (by first | omega | decide) ?_
          refine (c_abatisref13_Text u (by omega) hp).on (go 200 (fun _ => false) mixed ?_)
          obtain ⟨v, e, hv⟩ := parseUV_two (parseU (textU u ++ ref))
          have hc := c_abatisref13_Parse (textU u ++ ref) (by simp only [List.length_append]; omega)
          rw [hv] at hc ⊢
          simp (disch := omega) only [↓reduceIte, go_sem, List.length_append, List.length_cons] <;> repeat with_reducible refine And.intro (by first | omega | decide) ?_
          refine hc.on (go 200 (fun _ => false) mixed ?_)
          simp (disch := omega) only [↓reduceIte, go_sem, urV, urC] <;> repeat with_reducible refine And.intro (by first | omega | decide) ?_
          refine fin_c (.inr rfl) hb ?_ (hv ▸ parseUV_bdd (parseU (textU u ++ ref)))
          simp (disch := omega) only [↓reduceIte, go_sem] <;> repeat with_reducible refine And.intro (by first | omega | decide) ?_
          all_goals rfl
        · have h1n : ¬ Lib.hasPrefix ref [47] = true := fun h => h1 ⟨by have h2 := congrArg List.length (hp1.mp h); rw [List.length_take] at h2; simp at h2; omega, hp1.mp h⟩
          rw [if_neg h1n]
          by_cases h1l : 1 ≤ ref.length
          · have h1t : ¬ ref.take 1 = [47] := fun h => h1 ⟨h1l, h⟩
            simp (disch := omega) only [↓reduceIte, go_sem, h1l, h1t, h2l] <;> repeat with_reducible refine And.intro (by first | omega | decide) ?_
            refine fin_c (.inr rfl) hb ?_ (parseUV_bdd (.error 2))
            simp (disch := omega) only [↓reduceIte, go_sem] <;> repeat with_reducible refine And.intro (by first | omega | decide) ?_
            all_goals rfl
          · simp (disch := omega) only [↓reduceIte, go_sem, h1l, h2l] <;> repeat with_reducible refine And.intro (by first | omega | decide) ?_
            refine fin_c (.inr rfl) hb ?_ (parseUV_bdd (.error 2))
            simp (disch := omega) only [↓reduceIte, go_sem] <;> repeat with_reducible refine And.intro (by first | omega | decide) ?_
            all_goals rfl
  · rw [hcut, hsf, if_pos ⟨rfl, hpos⟩]
    simp (disch := omega) only [↓reduceIte, go_sem] <;> repeat with_reducible refine And.intro (by first | omega | decide) ?_
    obtain ⟨v, e, hv⟩ := parseUV_two (parseU (ref))
    have hc := c_abatisref13_Parse (ref) (by omega)
    rw [hv] at hc ⊢
    refine hc.on (go 200 (fun _ => false) mixed ?_)
    simp (disch := omega) only [↓reduceIte, go_sem, urV, urC] <;> repeat with_reducible refine And.intro (by first | omega | decide) ?_
    refine fin_c (.inr rfl) hb ?_ (hv ▸ parseUV_bdd (parseU (ref)))
    simp (disch := omega) only [↓reduceIte, go_sem] <;> repeat with_reducible refine And.intro (by first | omega | decide) ?_
    all_goals rfl

/-! Addresses made of any text. -/
def letF (l : List UInt8) : List UInt8 := l.filter fun b => decide (97 ≤ b.toNat ∧ b.toNat ≤ 122)
def xtest : List UInt8 := [120, 46, 116, 101, 115, 116]
def goodU (s : List UInt8) : Ur := match parseU s with
  | .ok u => u
  | .error _ => ⟨httpT, xtest, 80 + s.length % 3, 47 :: letF (s.take 9), []⟩
theorem letF_step {s : List UInt8} {k : Nat} (hk : k < s.length) : letF (s.take (k + 1)) = letF (s.take k) ++ (if 97 ≤ (s.getD k 0).toNat ∧ (s.getD k 0).toNat ≤ 122 then [s.getD k 0] else []) := by
  rw [List.take_succ_eq_append_getElem hk, ← getD_of hk]
  unfold letF
  rw [List.filter_append]
  congr 1
  by_cases h : 97 ≤ (s.getD k 0).toNat ∧ (s.getD k 0).toNat ≤ 122
  · rw [if_pos h, List.filter_cons_of_pos (by simpa using h)]; rfl
  · rw [if_neg h, List.filter_cons_of_neg (by simpa using h)]; rfl
theorem letF_len (l : List UInt8) : (letF l).length ≤ l.length := List.length_filter_le ..

theorem c_abatisref13_Good (s : List UInt8) (hl : s.length < 900000) : PCall Tryz.prog 12 [.str (bs s)] (urV (goodU s)) := by
  intro H
  have hc := c_abatisref13_Parse s hl
  unfold goodU
  refine scall_ofc (ord := fun _ => []) (tdOf_ok _) (rs := [.cell 2 24]) Tryz.func12 rfl (by kernel_rfl) (by kernel_rfl) (by kernel_rfl) Tryz.ntmps12 fun hb hargs => go 200 (fun _ => false) mixed ?_
  cases hpu : parseU s with
  | ok u =>
    rw [hpu] at hc
    simp only [parseUV, urV, urC] at hc ⊢
    simp (disch := omega) only [↓reduceIte, go_sem] <;> repeat with_reducible refine And.intro (by first | omega | decide) ?_
    refine hc.on (go 200 (fun _ => false) mixed ?_)
    simp (disch := omega) only [↓reduceIte, go_sem] <;> repeat with_reducible refine And.intro (by first | omega | decide) ?_
    exact fin_c (.inr rfl) hb (by simp only [go_sem] <;> rfl) (bdd_ur (u := u))
  | error e =>
    have he : ((e : Nat) : Int) ≠ 0 := by
      have : e = 2 ∨ e = 3 := by
        unfold parseU at hpu
        split at hpu
        · cases hpu; exact .inr rfl
        · split at hpu
          · cases hpu; exact .inl rfl
          · unfold parseR at hpu
            split at hpu
            · cases hpu
            · cases hpu; exact .inl rfl
      omega
    have he' : ¬ e = 0 := by omega
    rw [hpu] at hc
    simp only [parseUV, urV, urC, urZ] at hc ⊢
    simp (disch := omega) only [↓reduceIte, go_sem] <;> repeat with_reducible refine And.intro (by first | omega | decide) ?_
    refine hc.on (go 200 (fun _ => false) mixed ?_)
    simp (disch := omega) only [↓reduceIte, go_sem, he, he'] <;> repeat with_reducible refine And.intro (by first | omega | decide) ?_
    refine runs_loopA (fun k : Nat => k ≤ s.length ∧ k ≤ 9) (fun k => s.length - k) [true, false, true, false, false, true, true]
      (fun k => slots 48 [.str (bs s), .any, .ptr H.length 0 0, .any, .any, .str (bs (47 :: letF (s.take k))), .int .i64 k])
      (fun _ => H ++ [some (.cells 0 (urC urZ)), some (.cells 0 (urC urZ))]) (by rfl) 0 ⟨Nat.zero_le _, by omega⟩ rfl rfl ?_
    rintro k ⟨hk, hk9⟩
    refine go 200 (fun _ => false) mixed ?_
    have hll := letF_len (s.take k)
    rw [List.length_take] at hll
    by_cases hlt : k < s.length
    · by_cases hlt9 : k < 9
      · have hst := letF_step hlt
        have hone := one_at hlt
        generalize hb' : s.getD k 0 = x at *
        by_cases h1 : 97 ≤ x.toNat
        · by_cases h2 : x.toNat ≤ 122
          · rw [if_pos ⟨h1, h2⟩] at hst
            simp (disch := omega) only [↓reduceIte, go_sem, hlt, hlt9, hb', h1, h2, hone, List.length_append, List.length_cons, List.length_nil] <;> repeat with_reducible refine And.intro (by first | omega | decide) ?_
            exact rnd_next (k + 1) ⟨by omega, by omega⟩ (by show s.length - (k + 1) < s.length - k; omega) (by rw [hst]; rfl) rfl
          · rw [if_neg (fun h => h2 h.2), List.append_nil] at hst
            simp (disch := omega) only [↓reduceIte, go_sem, hlt, hlt9, hb', h1, h2] <;> repeat with_reducible refine And.intro (by first | omega | decide) ?_
            exact rnd_next (k + 1) ⟨by omega, by omega⟩ (by show s.length - (k + 1) < s.length - k; omega) (by rw [hst]; rfl) rfl
        · rw [if_neg (fun h => h1 h.1), List.append_nil] at hst
          simp (disch := omega) only [↓reduceIte, go_sem, hlt, hlt9, hb', h1] <;> repeat with_reducible refine And.intro (by first | omega | decide) ?_
          exact rnd_next (k + 1) ⟨by omega, by omega⟩ (by show s.length - (k + 1) < s.length - k; omega) (by rw [hst]; rfl) rfl
      · have hk9' : k = 9 := by omega
        subst hk9'
        simp (disch := omega) only [↓reduceIte, go_sem, hlt] <;> repeat with_reducible refine And.intro (by first | omega | decide) ?_
        refine go 200 (fun _ => false) mixed ?_
        have e1 : ((s.length : Nat) : Int).tmod 3 = ((s.length % 3 : Nat) : Int) := by rw [Int.tmod_eq_emod_of_nonneg (by omega)]; omega
        simp (disch := omega) only [↓reduceIte, go_sem, e1] <;> repeat with_reducible refine And.intro (by first | omega | decide) ?_
        exact fin_c (.inr rfl) hb (by simp only [go_sem] <;> rfl) (bdd_ur (u := ⟨httpT, xtest, 80 + s.length % 3, 47 :: letF (s.take 9), []⟩))
    · have e0 : s.take k = s.take 9 := by rw [List.take_of_length_le (by omega), List.take_of_length_le (by omega)]
      rw [e0]
      simp (disch := omega) only [↓reduceIte, go_sem, hlt] <;> repeat with_reducible refine And.intro (by first | omega | decide) ?_
      refine go 200 (fun _ => false) mixed ?_
      have e1 : ((s.length : Nat) : Int).tmod 3 = ((s.length % 3 : Nat) : Int) := by rw [Int.tmod_eq_emod_of_nonneg (by omega)]; omega
      simp (disch := omega) only [↓reduceIte, go_sem, e1] <;> repeat with_reducible refine And.intro (by first | omega | decide) ?_
      exact fin_c (.inr rfl) hb (by simp only [go_sem] <;> rfl) (bdd_ur (u := ⟨httpT, xtest, 80 + s.length % 3, 47 :: letF (s.take 9), []⟩))

/-! How long the parts are. -/
theorem hostN_len {t h : List UInt8} (hh : hostN t = some h) : h.length ≤ t.length + 15 := by
  unfold hostN at hh
  split at hh
  · rename_i n hn
    cases hh
    have := printF_len n (looseK_le hn)
    omega
  · cases hh
  · split at hh
    · cases hh; omega
    · cases hh
theorem hostF_len {s h : List UInt8} (hh : hostF s = some h) : h.length ≤ s.length + 110 := by
  unfold hostF at hh
  split at hh
  · rename_i gs hg
    cases hh
    unfold brF at hg
    split at hg
    · have := print6_len4 gs (parse2_len hg) (parseF_le hg)
      simp only [List.length_cons, List.length_append, List.length_nil]; omega
    · cases hg
  · split at hh
    · cases hh
    · have := hostN_len hh
      rw [lowF_len] at this; omega
theorem portF_ok {a : List UInt8} {own : List UInt8} (hl : a.length < 1000000) (h : (portF a (portI own)).2.2 = true) : (portF a (portI own)).2.1.toNat ≤ 65535 := by
  have hp := portI_in own
  unfold portF at h ⊢
  split
  · simp only; omega
  · split
    · simp only; omega
    · rename_i h1 h2
      rw [if_neg h1, if_neg h2] at h
      split
      · rename_i n hn
        rw [hn] at h
        simp only [Bool.and_eq_true, decide_eq_true_eq] at h
        simp only; omega
      · simp
theorem parseR_len {own rest : List UInt8} {u : Ur} (hl : rest.length < 900000) (h : parseR own rest = .ok u) : u.sch = own ∧ u.host.length + u.path.length + u.query.length ≤ rest.length + 111 ∧ u.port ≤ 65535 := by
  unfold parseR at h
  have l1 := tw_len [35] rest
  have l2 := tw_len [47, 63] (tw [35] rest)
  have l3 := tw_len [63] (dw [47, 63] (tw [35] rest))
  have l4 := portF_len (tw [47, 63] (tw [35] rest)) (portI own)
  have hok := portF_ok (a := tw [47, 63] (tw [35] rest)) (own := own) (by omega)
  generalize portF (tw [47, 63] (tw [35] rest)) (portI own) = pf at *
  split at h
  · rename_i hst hok' hh
    cases h
    have l5 := hostF_len hh
    refine ⟨rfl, ?_, hok hok'⟩
    simp only
    split
    · simp only [List.length_cons, List.length_nil]; omega
    · omega
  · cases h
theorem parseU_len {s : List UInt8} {u : Ur} (h : parseU s = .ok u) : (u.sch = httpT ∨ u.sch = httpsT) ∧ u.host.length + u.path.length + u.query.length ≤ s.length + 111 ∧ u.port ≤ 65535 := by
  unfold parseU at h
  split at h
  · cases h
  · split at h
    · cases h
    · rename_i h1 h2
      have hc := cut_sub s sep3
      obtain ⟨e1, e2, e3⟩ := parseR_len (by omega) h
      refine ⟨?_, by omega, e3⟩
      rw [e1]
      refine portI_pos.mp ?_
      have := portI_in (lowF (Lib.cut s sep3).1)
      have h3 : ¬ portI (lowF (Lib.cut s sep3).1) = 0 := fun h => h2 (.inr (.inl h))
      omega
theorem goodU_len (s : List UInt8) : ((goodU s).sch = httpT ∨ (goodU s).sch = httpsT) ∧ (goodU s).host.length + (goodU s).path.length + (goodU s).query.length ≤ s.length + 111 ∧ (goodU s).port ≤ 65535 := by
  unfold goodU
  cases h : parseU s with
  | ok u => exact parseU_len h
  | error e =>
    have := letF_len (s.take 9)
    rw [List.length_take] at this
    refine ⟨.inl rfl, ?_, by simp only; omega⟩
    simp only [xtest, List.length_cons, List.length_nil]; omega
theorem sch_len {t : List UInt8} (h : t = httpT ∨ t = httpsT) : t.length ≤ 5 := by rcases h with rfl | rfl <;> decide

theorem c_abatislaw13_UrlJoins (l ref : List UInt8) : GCall 7 [.str (bs l), .str (bs ref)] (.bool true) := by
  intro H hG
  refine scall_of (ord := fun _ => []) (rs := [4]) Tryz.func7 rfl (by kernel_rfl) (by kernel_rfl) (by kernel_rfl) Tryz.ntmps7 fun hb hargs => go 200 (fun _ => false) mixed ?_
  simp (disch := omega) only [↓reduceIte, go_sem] <;> repeat with_reducible refine And.intro (by first | omega | decide) ?_
  refine (c_abatisref01_Few l 100).on (go 200 (fun _ => false) mixed ?_)
  have hl : (l.take 100).length ≤ 100 := by rw [List.length_take]; omega
  generalize l.take 100 = s at *
  simp (disch := omega) only [↓reduceIte, go_sem] <;> repeat with_reducible refine And.intro (by first | omega | decide) ?_
  refine (c_abatisref13_Good s (by omega)).on (go 200 (fun _ => false) mixed ?_)
  obtain ⟨hsch, hlen, hport⟩ := goodU_len s
  have hsl := sch_len hsch
  generalize goodU s = u at *
  simp (disch := omega) only [↓reduceIte, go_sem, urV, urC] <;> repeat with_reducible refine And.intro (by first | omega | decide) ?_
  refine (c_abatisref01_Few ref 200).on (go 200 (fun _ => false) mixed ?_)
  have hrl : (ref.take 200).length ≤ 200 := by rw [List.length_take]; omega
  generalize ref.take 200 = r at *
  have j1 := c_url_Join u r (by omega) (by omega)
  have j2 := c_abatisref13_Join u r (by omega) (by omega)
  have j3 := c_url_Join u (u.path ++ u.query) (by rw [List.length_append]; omega) (by omega)
  have j4 := c_abatisref13_Join u (u.path ++ u.query) (by rw [List.length_append]; omega) (by omega)
  obtain ⟨v, e, hv⟩ := parseUV_two (joinU u r)
  obtain ⟨p, g, hp⟩ := parseUV_two (joinU u (u.path ++ u.query))
  rw [hv] at j1 j2
  rw [hp] at j3 j4
  simp only [urV, urC] at j1 j2 j3 j4
  simp (disch := omega) only [↓reduceIte, go_sem] <;> repeat with_reducible refine And.intro (by first | omega | decide) ?_
  refine j1.on hG.app (go 200 (fun _ => false) mixed ?_)
  simp (disch := omega) only [↓reduceIte, go_sem] <;> repeat with_reducible refine And.intro (by first | omega | decide) ?_
  refine j2.on (go 200 (fun _ => false) mixed ?_)
  simp (disch := omega) only [↓reduceIte, go_sem, List.length_append] <;> repeat with_reducible refine And.intro (by first | omega | decide) ?_
  refine j3.on hG.app (go 200 (fun _ => false) mixed ?_)
  simp (disch := omega) only [↓reduceIte, go_sem, List.length_append] <;> repeat with_reducible refine And.intro (by first | omega | decide) ?_
  refine j4.on (go 200 (fun _ => false) mixed ?_)
  simp (disch := omega) only [↓reduceIte, go_sem] <;> repeat with_reducible refine And.intro (by first | omega | decide) ?_
  refine c_abatislaw13_lives.on hG.app (go 200 (fun _ => false) mixed ?_)
  simp (disch := omega) only [↓reduceIte, go_sem] <;> repeat with_reducible refine And.intro (by first | omega | decide) ?_
  exact fin_drop (.inr rfl) hb rfl (by simp)
end Go.Proofs.GoC
