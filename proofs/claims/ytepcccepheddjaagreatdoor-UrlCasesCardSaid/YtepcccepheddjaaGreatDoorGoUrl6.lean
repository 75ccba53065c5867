/-
  What the document's functions compute: addresses of the web. No claim by itself.
-/
import Derived.Test.YtepcccepheddjaaGreatDoorGoUrl5
namespace Go.Proofs.GoC
open Go Go.Proofs.SL
set_option linter.unusedSimpArgs false
set_option linter.unusedVariables false
set_option maxRecDepth 10000
set_option maxHeartbeats 8000000

theorem suffix_get {A : List UInt8} {k : Nat} (h : k + 1 = A.length) : Lib.hasSuffix A [93] = true ↔ A.getD k 0 = 93 := by
  rcases List.eq_nil_or_concat A with rfl | ⟨q, z, rfl⟩
  · simp at h
  · rw [List.concat_eq_append] at *
    simp at h
    subst h
    rw [suffix_one, decide_eq_true_iff]
    simp [List.getD_eq_getElem?_getD]
def colonF (a : List UInt8) : Int := if Lib.hasSuffix a [93] = true then -1 else lastI 58 a

theorem c_abatisref13_Parse (s : List UInt8) (hl : s.length < 900000) : PCall Tryz.prog 10 [.str (bs s)] (parseUV (parseU s)) := by
  intro H
  have hpln := c_abatisref01_Plain s (by omega)
  have hsch := c_abatisref13_scheme s hl
  unfold parseU
  refine scall_ofc (ord := fun _ => []) (tdOf_ok _) (rs := [.cell 2 24, .tmp 3]) Tryz.func10 rfl (by kernel_rfl) (by kernel_rfl) (by kernel_rfl) Tryz.ntmps10 fun hb hargs => go 200 (fun _ => false) mixed ?_
  by_cases h2 : 2000 < s.length
  · rw [if_pos h2]
    simp (disch := omega) only [↓reduceIte, go_sem, h2] <;> repeat with_reducible refine And.intro (by first | omega | decide) ?_
    refine fin_c (.inr rfl) hb ?_ (parseUV_bdd (.error 3))
    simp (disch := omega) only [↓reduceIte, go_sem] <;> repeat with_reducible refine And.intro (by first | omega | decide) ?_
    all_goals rfl
  rw [if_neg h2]
  simp (disch := omega) only [↓reduceIte, go_sem, h2] <;> repeat with_reducible refine And.intro (by first | omega | decide) ?_
  refine hpln.on (go 200 (fun _ => false) mixed ?_)
  simp (disch := omega) only [↓reduceIte, go_sem] <;> repeat with_reducible refine And.intro (by first | omega | decide) ?_
  refine hsch.on (go 200 (fun _ => false) mixed ?_)
  cases hpl : plainF s with
  | false =>
    rw [if_pos (.inr (.inr rfl))]
    simp (disch := omega) only [↓reduceIte, go_sem] <;> repeat with_reducible refine And.intro (by first | omega | decide) ?_
    refine fin_c (.inr rfl) hb ?_ (parseUV_bdd (.error 2))
    simp (disch := omega) only [↓reduceIte, go_sem] <;> repeat with_reducible refine And.intro (by first | omega | decide) ?_
    all_goals rfl
  | true =>
  rcases scheme_cut s with ⟨hbad, hsf⟩ | ⟨a0, b, hs, hcut, hpos, hlen, hsf⟩
  · rw [if_pos (by rcases hbad with h | h; exact .inl h; exact .inr (.inl h)), hsf]
    simp (disch := omega) only [↓reduceIte, go_sem] <;> repeat with_reducible refine And.intro (by first | omega | decide) ?_
    refine fin_c (.inr rfl) hb ?_ (parseUV_bdd (.error 2))
    simp (disch := omega) only [↓reduceIte, go_sem] <;> repeat with_reducible refine And.intro (by first | omega | decide) ?_
    all_goals rfl
  have hp0 : ¬ portI (lowF a0) = 0 := by omega
  rw [hcut, hsf, if_neg (by rintro (h | h | h); exact nomatch h; exact hp0 h; exact nomatch h)]
  simp only
  have hdrop : s.drop (a0.length + 3) = b := by
    rw [hs, ← List.append_assoc, show a0.length + 3 = (a0 ++ sep3).length by simp [sep3], drop_app]
  have hsl : s.length = a0.length + 3 + b.length := by rw [hs]; simp [sep3]; omega
  have hPort := c_abatisref13_Port (lowF a0)
  unfold parseR
  obtain ⟨m, hm, hm2⟩ := portF_nn (tw [47, 63] (tw [35] b)) (lowF a0) (by have h1 := tw_len [47, 63] (tw [35] b); have h2 := tw_len [35] b; omega)
  have hpd : ∃ pd : Nat, portI (lowF a0) = pd := ⟨(portI (lowF a0)).toNat, by omega⟩
  obtain ⟨pd, hpd⟩ := hpd
  rw [hpd] at hm hPort hp0 ⊢
  rw [tw_tw] at hm
  rw [tw_tw, dw_tw]
  rw [show ([47, 63] ++ [35] : List UInt8) = [47, 63, 35] from rfl] at hm ⊢
  have hf1 := c_abatisref13_first s (a0.length + 3) [47, 63, 35] (by omega) (by omega) (by decide)
  rw [hdrop] at hf1
  have hAl := tw_len [47, 63, 35] b
  have hAd := tw_dw [47, 63, 35] b
  have hslA : List.drop (a0.length + 3) (List.take (a0.length + 3 + (tw [47, 63, 35] b).length) s) = tw [47, 63, 35] b := by
    rw [List.drop_take, hdrop, Nat.add_sub_cancel_left, tw_take]
  have hdropE : s.drop (a0.length + 3 + (tw [47, 63, 35] b).length) = dw [47, 63, 35] b := by
    rw [← List.drop_drop, hdrop, tw_drop]
  generalize tw [47, 63, 35] b = A at *
  generalize dw [47, 63, 35] b = R at *
  generalize hE : a0.length + 3 + A.length = E at *
  have hRl : R.length = s.length - E := by rw [← hdropE, List.length_drop]
  have hEle : E ≤ s.length := by omega
  have hstop := c_abatisref13_first s E [35] (by omega) hEle (by decide)
  have hquery := c_abatisref13_first s E [63] (by omega) hEle (by decide)
  rw [hdropE] at hstop hquery
  have hpath : List.drop E (List.take (E + min (tw [63] R).length (tw [35] R).length) s) = tw [63] (tw [35] R) := by
    rw [List.drop_take, hdropE, Nat.add_sub_cancel_left, ← tw_of_take, tw_take]
  have hqry : List.drop (E + min (tw [63] R).length (tw [35] R).length) (List.take (E + (tw [35] R).length) s) = dw [63] (tw [35] R) := by
    rw [List.drop_take, ← List.drop_drop, hdropE, show E + (tw [35] R).length - (E + min (tw [63] R).length (tw [35] R).length) = (tw [35] R).length - min (tw [63] R).length (tw [35] R).length by omega, ← List.drop_take, tw_take]
    have h1 := tw_of_take [63] R (tw [35] R).length
    rw [tw_take] at h1
    have h2 : (tw [63] (tw [35] R)).length = min (tw [63] R).length (tw [35] R).length := by
      have h3 := tw_len [35] R
      rw [h1, List.length_take]; omega
    rw [← h2, tw_drop]
  have hql := tw_len [35] R
  have hpl2 := tw_len [63] R
  generalize tw [63] (tw [35] R) = pa at *
  generalize dw [63] (tw [35] R) = qu at *
  generalize hq0 : (tw [35] R).length = q at *
  generalize hp0' : (tw [63] R).length = p at *
  have haE : a0.length + 3 ≤ E := by omega
  have hAlen : A.length < 900000 := by omega
  have hcast : ((a0.length + 3 : Nat) : Int) = (a0.length : Int) + 3 := by omega
  generalize lowF a0 = own at *
  simp (disch := omega) only [↓reduceIte, go_sem] <;> repeat with_reducible refine And.intro (by first | omega | decide) ?_
  refine hPort.on (go 200 (fun _ => false) mixed ?_)
  simp (disch := omega) only [↓reduceIte, go_sem] <;> repeat with_reducible refine And.intro (by first | omega | decide) ?_
  refine hf1.on (go 200 (fun _ => false) mixed ?_)
  simp (disch := omega) only [↓reduceIte, go_sem, hslA, haE, hEle] <;> repeat with_reducible refine And.intro (by first | omega | decide) ?_
  have hend : ∀ c : Int, (if A.length = A.length ∧ Lib.hasSuffix A [93] = true then c = -1 else IsLast 58 (A.take A.length) c) → c = colonF A := fun c hc => by
    unfold colonF
    rw [List.take_length] at hc
    by_cases hs : Lib.hasSuffix A [93] = true
    · rw [if_pos ⟨rfl, hs⟩] at hc
      rw [if_pos hs]; exact hc
    · rw [if_neg (fun h => hs h.2)] at hc
      rw [if_neg hs]; exact isLast_unique hc (lastI_cases 58 A)
  refine runs_loopA (fun x : Nat × Int => x.1 ≤ A.length ∧ -1 ≤ x.2 ∧ x.2 ≤ 900000 ∧ (if x.1 = A.length ∧ Lib.hasSuffix A [93] = true then x.2 = -1 else IsLast 58 (A.take x.1) x.2)) (fun x => A.length - x.1) [true, false, true, true, false, false, false, true, true, true, true, true]
    (fun x => slots 137 [.str (bs s), .any, .ptr H.length 0 0, .int .i64 0, .any, .any, .any, .ptr (H.length + 1) 0 0, .int .i64 E, .str (bs A), .int .i64 x.2, .int .i64 x.1])
    (fun _ => H ++ [some (.cells 0 (urC urZ)), some (.cells 0 (urC ⟨own, [], pd, [], []⟩))]) (by rfl) (0, -1) ⟨Nat.zero_le _, by omega, by omega, ?_⟩ rfl rfl ?_
  · by_cases h0 : 0 = A.length ∧ Lib.hasSuffix A [93] = true
    · exact absurd h0.2 (by rw [List.eq_nil_of_length_eq_zero h0.1.symm]; decide)
    · rw [if_neg h0]; exact .inl ⟨by simp, rfl⟩
  rintro ⟨k, c⟩ ⟨hk, hc0, hc1, hnum⟩
  have hk : k ≤ A.length := hk
  have hc0 : -1 ≤ c := hc0
  have hc1 : c ≤ 900000 := hc1
  have hnum : if k = A.length ∧ Lib.hasSuffix A [93] = true then c = -1 else IsLast 58 (A.take k) c := hnum
  refine go 200 (fun _ => false) mixed ?_
  by_cases hlt : k < A.length
  · rw [if_neg (fun h => by omega)] at hnum
    have hst := isLast_step hlt hnum
    have hsx := fun h => suffix_get (A := A) (k := k) h
    generalize hb' : A.getD k 0 = x at *
    have hnx : ∀ c' : Int, (c' = if x = 58 then (k : Int) else c) → (¬ (x = 93 ∧ k + 1 = A.length)) → (if k + 1 = A.length ∧ Lib.hasSuffix A [93] = true then c' = -1 else IsLast 58 (A.take (k + 1)) c') := fun c' e hn => by
      rw [if_neg (fun h => hn ⟨(hsx h.1).mp h.2, h.1⟩), e]; exact hst
    by_cases h58 : x = 58
    · subst h58
      have h93 : ¬ ((58 : UInt8) = 93) := by decide
      have hx := hnx k (by rw [if_pos rfl]) (fun h => h93 h.1)
      simp (disch := omega) only [↓reduceIte, go_sem, hlt, hb', show UInt8.toNat 58 = 58 from rfl] <;> repeat with_reducible refine And.intro (by first | omega | decide) ?_
      exact rnd_next (k + 1, (k : Int)) ⟨by omega, by simp only; omega, by simp only; omega, hx⟩ (by simp only; omega) rfl rfl
    · have h58' : ¬ x.toNat = 58 := fun h => h58 (UInt8.toNat_inj.mp (by simpa using h))
      by_cases h93 : x = 93
      · subst h93
        by_cases hkl : k + 1 = A.length
        · have hx : if k + 1 = A.length ∧ Lib.hasSuffix A [93] = true then (-1 : Int) = -1 else IsLast 58 (A.take (k + 1)) (-1) := by
            rw [if_pos ⟨hkl, (hsx hkl).mpr rfl⟩]
          have hklT : (k + 1 = A.length) = True := eq_true hkl
          simp (disch := omega) only [↓reduceIte, go_sem, hlt, hb', hklT, show UInt8.toNat 93 = 93 from rfl] <;> repeat with_reducible refine And.intro (by first | omega | decide) ?_
          exact rnd_next (k + 1, -1) ⟨by omega, by simp only; omega, by simp only; omega, hx⟩ (by simp only; omega) rfl rfl
        · have hx := hnx c (by rw [if_neg h58]) (fun h => hkl h.2)
          simp (disch := omega) only [↓reduceIte, go_sem, hlt, hb', hkl, show UInt8.toNat 93 = 93 from rfl] <;> repeat with_reducible refine And.intro (by first | omega | decide) ?_
          exact rnd_next (k + 1, c) ⟨by omega, by simp only; omega, by simp only; omega, hx⟩ (by simp only; omega) rfl rfl
      · have h93' : ¬ x.toNat = 93 := fun h => h93 (UInt8.toNat_inj.mp (by simpa using h))
        have hx := hnx c (by rw [if_neg h58]) (fun h => h93 h.1)
        simp (disch := omega) only [↓reduceIte, go_sem, hlt, hb', h58, h58', h93, h93'] <;> repeat with_reducible refine And.intro (by first | omega | decide) ?_
        exact rnd_next (k + 1, c) ⟨by omega, by simp only; omega, by simp only; omega, hx⟩ (by simp only; omega) rfl rfl
  have hkA : k = A.length := by omega
  subst hkA
  have hcF := hend c hnum
  simp (disch := omega) only [↓reduceIte, go_sem] <;> repeat with_reducible refine And.intro (by first | omega | decide) ?_
  refine go 200 (fun _ => false) mixed ?_
  unfold portF at hm ⊢
  by_cases hneg : lastI 58 A < 0 ∨ Lib.hasSuffix A [93] = true
  · have hcn : c < 0 := by
      rw [hcF]; unfold colonF
      split
      · omega
      · rename_i h; exact hneg.resolve_right h
    rw [if_pos hneg] at hm ⊢
    simp only at hm ⊢
    have hpm : pd = m := by omega
    subst hpm
    simp only [Int.toNat_natCast]
    have hcn' : ¬ 0 ≤ c := by omega
    simp (disch := omega) only [↓reduceIte, go_sem, hcn', urC, urZ] <;> repeat with_reducible refine And.intro (by first | omega | decide) ?_
    refine (c_abatisref13_Host A (by omega)).on (go 200 (fun _ => false) mixed ?_)
    cases hh : hostF A with
    | none =>
      simp only [hostV]
      simp (disch := omega) only [↓reduceIte, go_sem] <;> repeat with_reducible refine And.intro (by first | omega | decide) ?_
      refine fin_c (.inr rfl) hb ?_ (parseUV_bdd (.error 2))
      simp (disch := omega) only [↓reduceIte, go_sem] <;> repeat with_reducible refine And.intro (by first | omega | decide) ?_
      all_goals rfl
    | some hst =>
      simp only [hostV]
      simp (disch := omega) only [↓reduceIte, go_sem] <;> repeat with_reducible refine And.intro (by first | omega | decide) ?_
      refine hstop.on (go 200 (fun _ => false) mixed ?_)
      simp (disch := omega) only [↓reduceIte, go_sem] <;> repeat with_reducible refine And.intro (by first | omega | decide) ?_
      refine hquery.on (go 200 (fun _ => false) mixed ?_)
      by_cases hmn : E + q < E + p
      · have hmin : min p q = q := by omega
        rw [hmin] at hpath hqry
        simp (disch := omega) only [↓reduceIte, go_sem, hmn, hpath, hqry] <;> repeat with_reducible refine And.intro (by first | omega | decide) ?_
        by_cases hpa : pa = []
        · rw [if_pos hpa]
          simp (disch := omega) only [↓reduceIte, go_sem, hpa] <;> repeat with_reducible refine And.intro (by first | omega | decide) ?_
          refine fin_c (.inr rfl) hb ?_ (parseUV_bdd (.ok ⟨own, hst, pd, [47], qu⟩))
          simp (disch := omega) only [↓reduceIte, go_sem] <;> repeat with_reducible refine And.intro (by first | omega | decide) ?_
          all_goals rfl
        · rw [if_neg hpa]
          simp (disch := omega) only [↓reduceIte, go_sem, hpa] <;> repeat with_reducible refine And.intro (by first | omega | decide) ?_
          refine fin_c (.inr rfl) hb ?_ (parseUV_bdd (.ok ⟨own, hst, pd, pa, qu⟩))
          simp (disch := omega) only [↓reduceIte, go_sem] <;> repeat with_reducible refine And.intro (by first | omega | decide) ?_
          all_goals rfl
      · have hmin : min p q = p := by omega
        rw [hmin] at hpath hqry
        simp (disch := omega) only [↓reduceIte, go_sem, hmn, hpath, hqry] <;> repeat with_reducible refine And.intro (by first | omega | decide) ?_
        by_cases hpa : pa = []
        · rw [if_pos hpa]
          simp (disch := omega) only [↓reduceIte, go_sem, hpa] <;> repeat with_reducible refine And.intro (by first | omega | decide) ?_
          refine fin_c (.inr rfl) hb ?_ (parseUV_bdd (.ok ⟨own, hst, pd, [47], qu⟩))
          simp (disch := omega) only [↓reduceIte, go_sem] <;> repeat with_reducible refine And.intro (by first | omega | decide) ?_
          all_goals rfl
        · rw [if_neg hpa]
          simp (disch := omega) only [↓reduceIte, go_sem, hpa] <;> repeat with_reducible refine And.intro (by first | omega | decide) ?_
          refine fin_c (.inr rfl) hb ?_ (parseUV_bdd (.ok ⟨own, hst, pd, pa, qu⟩))
          simp (disch := omega) only [↓reduceIte, go_sem] <;> repeat with_reducible refine And.intro (by first | omega | decide) ?_
          all_goals rfl
  have hcA : c = lastI 58 A := by
    rw [hcF]; unfold colonF; rw [if_neg (fun h => hneg (.inr h))]
  rw [if_neg hneg] at hm ⊢
  rw [← hcA] at hm ⊢
  rcases lastI_cases 58 A with ⟨_, e⟩ | ⟨h, d, hAe, hd, e⟩
  · exact absurd (.inl (by omega)) hneg
  rw [← hcA] at e
  subst e
  have ta : List.take ((h.length : Nat) : Int).toNat A = h := by rw [hAe]; simp
  have td : List.drop (((h.length : Nat) : Int).toNat + 1) A = d := by rw [hAe]; simp
  have ta' : List.take h.length A = h := by rw [hAe]; simp
  have hAln : A.length = h.length + (d.length + 1) := by rw [hAe]; simp
  have td2 : List.drop (h.length + 1) (List.take (h.length + (d.length + 1)) A) = d := by rw [← hAln, List.take_length, hAe]; simp
  have td3 : List.drop (h.length + 1) A = d := by rw [hAe]; simp
  rw [ta, td] at hm ⊢
  have hnc : ¬ ((h.length : Nat) : Int) < 0 := by omega
  simp (disch := omega) only [↓reduceIte, go_sem, hnc, urC, urZ, td2, td3, hAln] <;> repeat with_reducible refine And.intro (by first | omega | decide) ?_
  refine (c_abatisref01_Number d 10 (by omega) (by omega) (by omega)).on (go 200 (fun _ => false) mixed ?_)
  unfold numV
  by_cases hd0 : d = []
  · subst hd0
    rw [if_pos rfl] at hm ⊢
    simp only at hm ⊢
    have hpm : pd = m := by omega
    subst hpm
    simp only [Int.toNat_natCast, numF]
    simp (disch := omega) only [↓reduceIte, go_sem, urC, urZ, ta', hAln] <;> repeat with_reducible refine And.intro (by first | omega | decide) ?_
    refine (c_abatisref13_Host h (by omega)).on (go 200 (fun _ => false) mixed ?_)
    cases hh : hostF h with
    | none =>
      simp only [hostV]
      simp (disch := omega) only [↓reduceIte, go_sem] <;> repeat with_reducible refine And.intro (by first | omega | decide) ?_
      refine fin_c (.inr rfl) hb ?_ (parseUV_bdd (.error 2))
      simp (disch := omega) only [↓reduceIte, go_sem] <;> repeat with_reducible refine And.intro (by first | omega | decide) ?_
      all_goals rfl
    | some hst =>
      simp only [hostV]
      simp (disch := omega) only [↓reduceIte, go_sem] <;> repeat with_reducible refine And.intro (by first | omega | decide) ?_
      refine hstop.on (go 200 (fun _ => false) mixed ?_)
      simp (disch := omega) only [↓reduceIte, go_sem] <;> repeat with_reducible refine And.intro (by first | omega | decide) ?_
      refine hquery.on (go 200 (fun _ => false) mixed ?_)
      by_cases hmn : E + q < E + p
      · have hmin : min p q = q := by omega
        rw [hmin] at hpath hqry
        simp (disch := omega) only [↓reduceIte, go_sem, hmn, hpath, hqry] <;> repeat with_reducible refine And.intro (by first | omega | decide) ?_
        by_cases hpa : pa = []
        · rw [if_pos hpa]
          simp (disch := omega) only [↓reduceIte, go_sem, hpa] <;> repeat with_reducible refine And.intro (by first | omega | decide) ?_
          refine fin_c (.inr rfl) hb ?_ (parseUV_bdd (.ok ⟨own, hst, pd, [47], qu⟩))
          simp (disch := omega) only [↓reduceIte, go_sem] <;> repeat with_reducible refine And.intro (by first | omega | decide) ?_
          all_goals rfl
        · rw [if_neg hpa]
          simp (disch := omega) only [↓reduceIte, go_sem, hpa] <;> repeat with_reducible refine And.intro (by first | omega | decide) ?_
          refine fin_c (.inr rfl) hb ?_ (parseUV_bdd (.ok ⟨own, hst, pd, pa, qu⟩))
          simp (disch := omega) only [↓reduceIte, go_sem] <;> repeat with_reducible refine And.intro (by first | omega | decide) ?_
          all_goals rfl
      · have hmin : min p q = p := by omega
        rw [hmin] at hpath hqry
        simp (disch := omega) only [↓reduceIte, go_sem, hmn, hpath, hqry] <;> repeat with_reducible refine And.intro (by first | omega | decide) ?_
        by_cases hpa : pa = []
        · rw [if_pos hpa]
          simp (disch := omega) only [↓reduceIte, go_sem, hpa] <;> repeat with_reducible refine And.intro (by first | omega | decide) ?_
          refine fin_c (.inr rfl) hb ?_ (parseUV_bdd (.ok ⟨own, hst, pd, [47], qu⟩))
          simp (disch := omega) only [↓reduceIte, go_sem] <;> repeat with_reducible refine And.intro (by first | omega | decide) ?_
          all_goals rfl
        · rw [if_neg hpa]
          simp (disch := omega) only [↓reduceIte, go_sem, hpa] <;> repeat with_reducible refine And.intro (by first | omega | decide) ?_
          refine fin_c (.inr rfl) hb ?_ (parseUV_bdd (.ok ⟨own, hst, pd, pa, qu⟩))
          simp (disch := omega) only [↓reduceIte, go_sem] <;> repeat with_reducible refine And.intro (by first | omega | decide) ?_
          all_goals rfl
  rw [if_neg hd0] at hm ⊢
  have hdl : decide (0 < d.length) = true := by simp [List.length_pos_iff.mpr hd0]
  cases hN : numF 10 d 0 with
  | none =>
    simp (disch := omega) only [↓reduceIte, go_sem, hd0] <;> repeat with_reducible refine And.intro (by first | omega | decide) ?_
    refine fin_c (.inr rfl) hb ?_ (parseUV_bdd (.error 2))
    simp (disch := omega) only [↓reduceIte, go_sem] <;> repeat with_reducible refine And.intro (by first | omega | decide) ?_
    all_goals rfl
  | some n =>
  rw [hN] at hm
  simp only at hm ⊢
  subst hm
  simp only [Int.toNat_natCast, hdl]
  by_cases h5 : d.length ≤ 5
  · by_cases h6 : m ≤ 65535
    · have h6' : ((m : Nat) : Int) ≤ 65535 := by omega
      rw [decide_eq_true h5, decide_eq_true h6']
      have h5' : ¬ 5 < d.length := by omega
      have h6'' : ¬ 65535 < m := by omega
      simp only [Bool.and_self]
      simp (disch := omega) only [↓reduceIte, go_sem, hd0, h5', h6'', urC, urZ, ta', hAln] <;> repeat with_reducible refine And.intro (by first | omega | decide) ?_
      refine (c_abatisref13_Host h (by omega)).on (go 200 (fun _ => false) mixed ?_)
      cases hh : hostF h with
      | none =>
        simp only [hostV]
        simp (disch := omega) only [↓reduceIte, go_sem] <;> repeat with_reducible refine And.intro (by first | omega | decide) ?_
        refine fin_c (.inr rfl) hb ?_ (parseUV_bdd (.error 2))
        simp (disch := omega) only [↓reduceIte, go_sem] <;> repeat with_reducible refine And.intro (by first | omega | decide) ?_
        all_goals rfl
      | some hst =>
        simp only [hostV]
        simp (disch := omega) only [↓reduceIte, go_sem] <;> repeat with_reducible refine And.intro (by first | omega | decide) ?_
        refine hstop.on (go 200 (fun _ => false) mixed ?_)
        simp (disch := omega) only [↓reduceIte, go_sem] <;> repeat with_reducible refine And.intro (by first | omega | decide) ?_
        refine hquery.on (go 200 (fun _ => false) mixed ?_)
        by_cases hmn : E + q < E + p
        · have hmin : min p q = q := by omega
          rw [hmin] at hpath hqry
          simp (disch := omega) only [↓reduceIte, go_sem, hmn, hpath, hqry] <;> repeat with_reducible refine And.intro (by first | omega | decide) ?_
          by_cases hpa : pa = []
          · rw [if_pos hpa]
            simp (disch := omega) only [↓reduceIte, go_sem, hpa] <;> repeat with_reducible refine And.intro (by first | omega | decide) ?_
            refine fin_c (.inr rfl) hb ?_ (parseUV_bdd (.ok ⟨own, hst, m, [47], qu⟩))
            simp (disch := omega) only [↓reduceIte, go_sem] <;> repeat with_reducible refine And.intro (by first | omega | decide) ?_
            all_goals rfl
          · rw [if_neg hpa]
            simp (disch := omega) only [↓reduceIte, go_sem, hpa] <;> repeat with_reducible refine And.intro (by first | omega | decide) ?_
            refine fin_c (.inr rfl) hb ?_ (parseUV_bdd (.ok ⟨own, hst, m, pa, qu⟩))
            simp (disch := omega) only [↓reduceIte, go_sem] <;> repeat with_reducible refine And.intro (by first | omega | decide) ?_
            all_goals rfl
        · have hmin : min p q = p := by omega
          rw [hmin] at hpath hqry
          simp (disch := omega) only [↓reduceIte, go_sem, hmn, hpath, hqry] <;> repeat with_reducible refine And.intro (by first | omega | decide) ?_
          by_cases hpa : pa = []
          · rw [if_pos hpa]
            simp (disch := omega) only [↓reduceIte, go_sem, hpa] <;> repeat with_reducible refine And.intro (by first | omega | decide) ?_
            refine fin_c (.inr rfl) hb ?_ (parseUV_bdd (.ok ⟨own, hst, m, [47], qu⟩))
            simp (disch := omega) only [↓reduceIte, go_sem] <;> repeat with_reducible refine And.intro (by first | omega | decide) ?_
            all_goals rfl
          · rw [if_neg hpa]
            simp (disch := omega) only [↓reduceIte, go_sem, hpa] <;> repeat with_reducible refine And.intro (by first | omega | decide) ?_
            refine fin_c (.inr rfl) hb ?_ (parseUV_bdd (.ok ⟨own, hst, m, pa, qu⟩))
            simp (disch := omega) only [↓reduceIte, go_sem] <;> repeat with_reducible refine And.intro (by first | omega | decide) ?_
            all_goals rfl
    · have h6' : ¬ ((m : Nat) : Int) ≤ 65535 := by omega
      rw [decide_eq_false h6', Bool.and_false]
      have h5' : ¬ 5 < d.length := by omega
      have h6'' : 65535 < m := by omega
      simp (disch := omega) only [↓reduceIte, go_sem, hd0, h5', h6''] <;> repeat with_reducible refine And.intro (by first | omega | decide) ?_
      refine fin_c (.inr rfl) hb ?_ (parseUV_bdd (.error 2))
      simp (disch := omega) only [↓reduceIte, go_sem] <;> repeat with_reducible refine And.intro (by first | omega | decide) ?_
      all_goals rfl
  · rw [decide_eq_false h5, Bool.false_and]
    have h5' : 5 < d.length := by omega
    simp (disch := omega) only [↓reduceIte, go_sem, hd0, h5'] <;> repeat with_reducible refine And.intro (by first | omega | decide) ?_
    refine fin_c (.inr rfl) hb ?_ (parseUV_bdd (.error 2))
    simp (disch := omega) only [↓reduceIte, go_sem] <;> repeat with_reducible refine And.intro (by first | omega | decide) ?_
    all_goals rfl
end Go.Proofs.GoC
