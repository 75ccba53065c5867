/-
  What the document's functions compute: hosts, schemes, addresses of the web. No claim by itself.
-/
import Derived.Test.YtepcccepheddjaaGreatDoorGoUrl3
namespace Go.Proofs.GoC
open Go Go.Proofs.SL
set_option linter.unusedSimpArgs false
set_option linter.unusedVariables false
set_option maxRecDepth 10000
set_option maxHeartbeats 4000000

theorem suffix_one (q : List UInt8) (z c : UInt8) : Lib.hasSuffix (q ++ [z]) [c] = decide (z = c) := by
  simp only [Lib.hasSuffix, List.isSuffixOf, List.reverse_append, List.reverse_cons, List.reverse_nil, List.nil_append, List.cons_append, List.isPrefixOf, Bool.and_true]
  by_cases h : z = c
  · subst h; rw [decide_eq_true rfl]; exact beq_self_eq_true z
  · rw [decide_eq_false h]; exact beq_eq_false_iff_ne.mpr (Ne.symm h)
theorem suffix_nil (c : UInt8) : Lib.hasSuffix [] [c] = false := rfl
theorem c_abatisref13_bracketed (s : List UInt8) (hl : s.length < 900000) : PCall Tryz.prog 56 [.str (bs s)] (parseV (brF s)) := by
  intro H
  unfold brF
  refine scall_ofc (ord := fun _ => []) (tdOf_ok _) (rs := [.cell 2 61, .tmp 3]) Tryz.func56 rfl (by kernel_rfl) (by kernel_rfl) (by kernel_rfl) Tryz.ntmps56 fun hb hargs => go 200 (fun _ => false) mixed ?_
  rcases s with _ | ⟨a, r⟩
  · rw [if_neg (fun h => nomatch h.1)]
    simp (disch := omega) only [↓reduceIte, go_sem] <;> repeat with_reducible refine And.intro (by first | omega | decide) ?_
    exact fin_c (.inr rfl) hb (by simp only [go_sem] <;> rfl) (parseV_bdd none)
  · rcases List.eq_nil_or_concat r with rfl | ⟨q, z, rfl⟩
    · rw [if_neg (fun h => nomatch h.2)]
      simp (disch := omega) only [↓reduceIte, go_sem] <;> repeat with_reducible refine And.intro (by first | omega | decide) ?_
      exact fin_c (.inr rfl) hb (by simp only [go_sem] <;> rfl) (parseV_bdd none)
    · rw [List.concat_eq_append] at *
      have hd1 : List.drop 1 (a :: (q ++ [z])) = q ++ [z] := rfl
      have ht1 : List.take 1 (a :: (q ++ [z])) = [a] := rfl
      rw [hd1, ht1, suffix_one]
      have hlen : (a :: (q ++ [z])).length = q.length + 2 := by simp
      have hg : (a :: (q ++ [z])).getD (q.length + 1) 0 = z := by simp [List.getD_eq_getElem?_getD]
      have htk : List.take ((q ++ [z]).length - 1) (q ++ [z]) = q := by simp
      have hsl : List.drop 1 (List.take (q.length + 1) (a :: (q ++ [z]))) = q := by simp
      rw [htk]
      rw [hlen] at hl
      have htq : ∀ z, List.take q.length (q ++ [z]) = q := fun z => by simp
      have n2 : ¬ (q.length + 2 < 2) := by omega
      have e21 : q.length + 2 - 1 = q.length + 1 := by omega
      by_cases ha : a = 91
      · by_cases hz : z = 93
        · subst ha hz
          rw [if_pos ⟨rfl, by decide⟩]
          simp (disch := omega) only [↓reduceIte, go_sem, hlen, n2, e21, hg, hsl, htq, show UInt8.toNat 91 = 91 from rfl, show UInt8.toNat 93 = 93 from rfl] <;> repeat with_reducible refine And.intro (by first | omega | decide) ?_
          refine (c_abatisref03_Parse q (by omega)).on (go 200 (fun _ => false) mixed ?_)
          cases hp : parseF q with
          | none =>
            simp only [parseV]
            simp (disch := omega) only [↓reduceIte, go_sem, u16s] <;> repeat with_reducible refine And.intro (by first | omega | decide) ?_
            exact fin_c (.inr rfl) hb (by simp only [go_sem] <;> rfl) (parseV_bdd none)
          | some gs =>
            have h8 := parse2_len hp
            have t8 : List.take 8 (u16s gs) = u16s gs := List.take_of_length_le (by rw [u16s_len]; omega)
            simp only [parseV]
            simp (disch := omega) only [↓reduceIte, go_sem, h8, t8] <;> repeat with_reducible refine And.intro (by first | omega | decide) ?_
            exact fin_c (.inr rfl) hb (by simp only [go_sem, h8, t8] <;> rfl) (parseV_bdd (some gs))
        · have hz' : ¬ z.toNat = 93 := fun h => hz (UInt8.toNat_inj.mp (by simpa using h))
          rw [if_neg (show ¬ ([a] = [91] ∧ decide (z = 93) = true) from fun h => hz (of_decide_eq_true h.2))]
          subst ha
          simp (disch := omega) only [↓reduceIte, go_sem, hlen, n2, e21, hg, hz, hz', show UInt8.toNat 91 = 91 from rfl] <;> repeat with_reducible refine And.intro (by first | omega | decide) ?_
          exact fin_c (.inr rfl) hb (by simp only [go_sem] <;> rfl) (parseV_bdd none)
      · have ha' : ¬ a.toNat = 91 := fun h => ha (UInt8.toNat_inj.mp (by simpa using h))
        rw [if_neg (show ¬ ([a] = [91] ∧ decide (z = 93) = true) from fun h => ha (by have := h.1; injection this))]
        simp (disch := omega) only [↓reduceIte, go_sem, hlen, n2, e21, hg, ha, ha'] <;> repeat with_reducible refine And.intro (by first | omega | decide) ?_
        exact fin_c (.inr rfl) hb (by simp only [go_sem] <;> rfl) (parseV_bdd none)

theorem okI_byte (b : UInt8) : okI (b.toNat : Nat) = true ∨ okI (b.toNat : Nat) = false := by cases okI (b.toNat : Nat) <;> simp

theorem c_abatisref13_Host (s : List UInt8) (hl : s.length < 900000) : PCall Tryz.prog 33 [.str (bs s)] (hostV (hostF s)) := by
  intro H
  have hbr := c_abatisref13_bracketed s hl
  unfold hostF
  refine scall_of (ord := fun _ => []) (rs := [2, 3]) Tryz.func33 rfl (by kernel_rfl) (by kernel_rfl) (by kernel_rfl) Tryz.ntmps33 fun hb hargs => go 200 (fun _ => false) mixed ?_
  simp (disch := omega) only [↓reduceIte, go_sem] <;> repeat with_reducible refine And.intro (by first | omega | decide) ?_
  refine hbr.on (go 200 (fun _ => false) mixed ?_)
  cases hB : brF s with
  | some gs =>
    have hgs : gs.length = 8 ∧ ∀ g ∈ gs, g ≤ 65535 := by
      unfold brF at hB
      split at hB
      · exact ⟨parse2_len hB, parseF_le hB⟩
      · cases hB
    obtain ⟨h8, hle⟩ := hgs
    have hpl := print6_len4 gs h8 hle
    have t8 : List.take 8 (u16s gs) = u16s gs := List.take_of_length_le (by rw [u16s_len]; omega)
    simp only [parseV]
    simp (disch := omega) only [↓reduceIte, go_sem, h8, t8] <;> repeat with_reducible refine And.intro (by first | omega | decide) ?_
    refine (c_abatisref03_Print gs h8 hle).on (go 200 (fun _ => false) mixed ?_)
    simp (disch := omega) only [↓reduceIte, go_sem, List.length_append, List.length_cons] <;> repeat with_reducible refine And.intro (by first | omega | decide) ?_
    exact fin_drop (.inr rfl) hb rfl (hostV_bdd (some (91 :: (print6 gs ++ [93]))))
  | none =>
    have hodd : (s.take 1 = [91] ∨ oddF (lowF s) = true) ↔ oddF (lowF s) = true := by
      constructor
      · rintro (h | h)
        · rcases s with _ | ⟨a, r⟩
          · cases h
          · simp at h
            subst h
            simp [lowF, oddF, lowB, okI]
        · exact h
      · exact .inr
    simp only [hodd]
    have hll := lowF_len s
    simp only [parseV]
    simp (disch := omega) only [↓reduceIte, go_sem, u16s] <;> repeat with_reducible refine And.intro (by first | omega | decide) ?_
    refine (c_abatisref01_Lower s (by omega)).on (go 200 (fun _ => false) mixed ?_)
    generalize lowF s = t at *
    simp (disch := omega) only [↓reduceIte, go_sem] <;> repeat with_reducible refine And.intro (by first | omega | decide) ?_
    refine runs_loopA (fun k : Nat => k ≤ t.length ∧ oddF t = oddF (t.drop k)) (fun k => t.length - k) [true, false, false, false, false, false, true]
      (fun k => slots 81 [.str (bs t), .any, .any, .any, .any, .any, .int .i64 k])
      (fun k => H ++ [some (.cells 0 (u16s [0, 0, 0, 0, 0, 0, 0, 0]))]) (by rfl) 0 ⟨Nat.zero_le _, rfl⟩ rfl rfl ?_
    rintro k ⟨hk, hall⟩
    refine go 200 (fun _ => false) mixed ?_
    by_cases hlt : k < t.length
    · rw [List.drop_eq_getElem_cons hlt, ← getD_of hlt, oddF_cons] at hall
      generalize hb' : t.getD k 0 = b at *
      cases hc : okI (b.toNat : Nat) with
      | false =>
        obtain ⟨h1, h2, h3, h4, h5⟩ := okI_false hc
        rw [hc, Bool.not_false, Bool.true_or] at hall
        rw [if_pos hall]
        have h3' : ¬ b.toNat = 45 := by omega
        have h4' : ¬ b.toNat = 95 := by omega
        have h5' : ¬ b.toNat = 46 := by omega
        have i3 : ¬ b = 45 := fun h => h3' (by rw [h]; rfl)
        have i4 : ¬ b = 95 := fun h => h4' (by rw [h]; rfl)
        have i5 : ¬ b = 46 := fun h => h5' (by rw [h]; rfl)
        by_cases a1 : 97 ≤ b.toNat
        · have a2 : ¬ b.toNat ≤ 122 := by omega
          have a3 : 48 ≤ b.toNat := by omega
          have a4 : ¬ b.toNat ≤ 57 := by omega
          simp (disch := omega) only [↓reduceIte, go_sem, hlt, hb', a1, a2, a3, a4, h3', h4', h5', i3, i4, i5] <;> repeat with_reducible refine And.intro (by first | omega | decide) ?_
          exact fin_drop (.inr rfl) hb rfl (hostV_bdd none)
        · by_cases a3 : 48 ≤ b.toNat
          · have a4 : ¬ b.toNat ≤ 57 := by omega
            simp (disch := omega) only [↓reduceIte, go_sem, hlt, hb', a1, a3, a4, h3', h4', h5', i3, i4, i5] <;> repeat with_reducible refine And.intro (by first | omega | decide) ?_
            exact fin_drop (.inr rfl) hb rfl (hostV_bdd none)
          · simp (disch := omega) only [↓reduceIte, go_sem, hlt, hb', a1, a3, h3', h4', h5', i3, i4, i5] <;> repeat with_reducible refine And.intro (by first | omega | decide) ?_
            exact fin_drop (.inr rfl) hb rfl (hostV_bdd none)
      | true =>
        rw [hc, Bool.not_true, Bool.false_or] at hall
        by_cases a1 : 97 ≤ b.toNat
        · have a2 : b.toNat ≤ 122 := by have := okI_true hc; omega
          simp (disch := omega) only [↓reduceIte, go_sem, hlt, hb', a1, a2] <;> repeat with_reducible refine And.intro (by first | omega | decide) ?_
          exact rnd_next (k + 1) ⟨by omega, hall⟩ (by show t.length - (k + 1) < t.length - k; omega) rfl rfl
        · by_cases a3 : 48 ≤ b.toNat
          · by_cases a4 : b.toNat ≤ 57
            · simp (disch := omega) only [↓reduceIte, go_sem, hlt, hb', a1, a3, a4] <;> repeat with_reducible refine And.intro (by first | omega | decide) ?_
              exact rnd_next (k + 1) ⟨by omega, hall⟩ (by show t.length - (k + 1) < t.length - k; omega) rfl rfl
            · have a5 : b.toNat = 95 := by have := okI_true hc; omega
              have a6 : b = 95 := UInt8.toNat_inj.mp (by simpa using a5)
              subst a6
              simp (disch := omega) only [↓reduceIte, go_sem, hlt, hb', show UInt8.toNat 95 = 95 from rfl] <;> repeat with_reducible refine And.intro (by first | omega | decide) ?_
              exact rnd_next (k + 1) ⟨by omega, hall⟩ (by show t.length - (k + 1) < t.length - k; omega) rfl rfl
          · have a5 : b.toNat = 45 ∨ b.toNat = 46 := by have := okI_true hc; omega
            rcases a5 with a5 | a5
            · have a6 : b = 45 := UInt8.toNat_inj.mp (by simpa using a5)
              subst a6
              simp (disch := omega) only [↓reduceIte, go_sem, hlt, hb', show UInt8.toNat 45 = 45 from rfl] <;> repeat with_reducible refine And.intro (by first | omega | decide) ?_
              exact rnd_next (k + 1) ⟨by omega, hall⟩ (by show t.length - (k + 1) < t.length - k; omega) rfl rfl
            · have a6 : b = 46 := UInt8.toNat_inj.mp (by simpa using a5)
              subst a6
              simp (disch := omega) only [↓reduceIte, go_sem, hlt, hb', show UInt8.toNat 46 = 46 from rfl] <;> repeat with_reducible refine And.intro (by first | omega | decide) ?_
              exact rnd_next (k + 1) ⟨by omega, hall⟩ (by show t.length - (k + 1) < t.length - k; omega) rfl rfl
    · rw [List.drop_eq_nil_of_le (by omega)] at hall
      have hno : ¬ oddF t = true := by rw [hall]; decide
      rw [if_neg hno]
      simp (disch := omega) only [↓reduceIte, go_sem, hlt] <;> repeat with_reducible refine And.intro (by first | omega | decide) ?_
      refine go 200 (fun _ => false) mixed ?_
      simp (disch := omega) only [↓reduceIte, go_sem] <;> repeat with_reducible refine And.intro (by first | omega | decide) ?_
      refine (c_abatisref02_Loose t (by omega)).on (go 200 (fun _ => false) mixed ?_)
      rw [looseV_K]
      unfold hostN
      cases hkk : looseK t with
      | none =>
        simp only [looseKV]
        simp (disch := omega) only [↓reduceIte, go_sem] <;> repeat with_reducible refine And.intro (by first | omega | decide) ?_
        refine (c_abatisref08_May t (by omega)).on (go 200 (fun _ => false) mixed ?_)
        cases hm : mayN t with
        | true =>
          by_cases ht : t = []
          · subst ht
            simp (disch := omega) only [↓reduceIte, go_sem] <;> repeat with_reducible refine And.intro (by first | omega | decide) ?_
            exact fin_drop (.inr rfl) hb rfl (hostV_bdd none)
          · simp only [ne_eq, ht, not_false_eq_true, true_and, ↓reduceIte]
            simp (disch := omega) only [↓reduceIte, go_sem, ht] <;> repeat with_reducible refine And.intro (by first | omega | decide) ?_
            exact fin_drop (.inr rfl) hb rfl (hostV_bdd (some t))
        | false =>
          simp only [Bool.false_eq_true, and_false, ↓reduceIte]
          simp (disch := omega) only [↓reduceIte, go_sem] <;> repeat with_reducible refine And.intro (by first | omega | decide) ?_
          exact fin_drop (.inr rfl) hb rfl (hostV_bdd none)
      | some o =>
        cases o with
        | none =>
          simp only [looseKV]
          simp (disch := omega) only [↓reduceIte, go_sem] <;> repeat with_reducible refine And.intro (by first | omega | decide) ?_
          refine (c_abatisref08_May t (by omega)).on (go 200 (fun _ => false) mixed ?_)
          simp (disch := omega) only [↓reduceIte, go_sem] <;> repeat with_reducible refine And.intro (by first | omega | decide) ?_
          exact fin_drop (.inr rfl) hb rfl (hostV_bdd none)
        | some n =>
          have hn := looseK_le hkk
          simp only [looseKV]
          simp (disch := omega) only [↓reduceIte, go_sem] <;> repeat with_reducible refine And.intro (by first | omega | decide) ?_
          refine (c_abatisref02_Print n hn).on (go 200 (fun _ => false) mixed ?_)
          simp (disch := omega) only [↓reduceIte, go_sem] <;> repeat with_reducible refine And.intro (by first | omega | decide) ?_
          exact fin_drop (.inr rfl) hb rfl (hostV_bdd (some (printF n)))

theorem c_abatisref13_first (s : List UInt8) (f : Nat) (c : List UInt8) (hl : s.length < 1000000) (hf : f ≤ s.length) (hc : c.length < 1000000) :
    PCall Tryz.prog 31 [.str (bs s), .int .i64 f, .str (bs c)] (.int .i64 (f + (tw c (s.drop f)).length : Nat)) := by
  intro H
  refine scall_of (ord := fun _ => []) (rs := [6]) Tryz.func31 rfl (by kernel_rfl) (by kernel_rfl) (by kernel_rfl) Tryz.ntmps31 fun hb hargs => go 200 (fun _ => false) mixed ?_
  simp (disch := omega) only [↓reduceIte, go_sem] <;> repeat with_reducible refine And.intro (by first | omega | decide) ?_
  refine runs_loopA (fun k : Nat => f ≤ k ∧ k ≤ s.length ∧ f + (tw c (s.drop f)).length = k + (tw c (s.drop k)).length) (fun k => s.length - k) [true, false, true, false, false, false, false, true]
    (fun k => slots 23 [.str (bs s), .any, .str (bs c), .any, .any, .any, .any, .int .i64 k]) (fun k => H) (by rfl) f ⟨Nat.le_refl _, hf, rfl⟩ rfl rfl ?_
  rintro k ⟨hfk, hk, hall⟩
  refine go 200 (fun _ => false) mixed ?_
  by_cases hlt : k < s.length
  · rw [List.drop_eq_getElem_cons hlt, ← getD_of hlt] at hall
    generalize hb' : s.getD k 0 = b at *
    simp (disch := omega) only [↓reduceIte, go_sem, hlt, hb'] <;> repeat with_reducible refine And.intro (by first | omega | decide) ?_
    refine (c_abatisref01_Has c b hc).on (go 200 (fun _ => false) mixed ?_)
    cases hh : c.contains b with
    | true =>
      have e : tw c (b :: List.drop (k + 1) s) = [] := List.takeWhile_cons_of_neg (by rw [hh]; decide)
      rw [e] at hall
      rw [hall]
      simp (disch := omega) only [↓reduceIte, go_sem] <;> repeat with_reducible refine And.intro (by first | omega | decide) ?_
      exact fin rfl rfl
    | false =>
      have e : tw c (b :: List.drop (k + 1) s) = b :: tw c (List.drop (k + 1) s) := List.takeWhile_cons_of_pos (by rw [hh]; decide)
      rw [e, List.length_cons] at hall
      simp (disch := omega) only [↓reduceIte, go_sem] <;> repeat with_reducible refine And.intro (by first | omega | decide) ?_
      exact rnd_next (k + 1) ⟨by omega, by omega, by omega⟩ (by show s.length - (k + 1) < s.length - k; omega) rfl rfl
  · rw [List.drop_eq_nil_of_le (show s.length ≤ k by omega)] at hall
    have hk' : k = s.length := by omega
    subst hk'
    rw [hall]
    simp (disch := omega) only [↓reduceIte, go_sem] <;> repeat with_reducible refine And.intro (by first | omega | decide) ?_
    refine go 200 (fun _ => false) mixed ?_
    simp (disch := omega) only [↓reduceIte, go_sem] <;> repeat with_reducible refine And.intro (by first | omega | decide) ?_
    exact fin rfl rfl

def sch1 (s : List UInt8) : Prop := 7 ≤ s.length ∧ 0 < portI (lowF (s.take 4)) ∧ (s.take 7).drop 4 = sep3
def sch2 (s : List UInt8) : Prop := 8 ≤ s.length ∧ 0 < portI (lowF (s.take 5)) ∧ (s.take 8).drop 5 = sep3
open Classical in
noncomputable def schemeF (s : List UInt8) : List UInt8 × Nat :=
  if sch1 s then (lowF (s.take 4), 7) else if sch2 s then (lowF (s.take 5), 8) else ([], 0)

theorem c_abatisref13_scheme (s : List UInt8) (hl : s.length < 900000) : PCall Tryz.prog 30 [.str (bs s)] (.tup [.str (bs (schemeF s).1), .int .i64 (schemeF s).2]) := by
  intro H
  unfold schemeF
  refine scall_of (ord := fun _ => []) (rs := [2, 3]) Tryz.func30 rfl (by kernel_rfl) (by kernel_rfl) (by kernel_rfl) Tryz.ntmps30 fun hb hargs => go 200 (fun _ => false) mixed ?_
  simp (disch := omega) only [↓reduceIte, go_sem] <;> repeat with_reducible refine And.intro (by first | omega | decide) ?_
  refine runs_loopA (fun n : Nat => n = 4 ∨ (n = 5 ∧ ¬ sch1 s) ∨ (n = 6 ∧ ¬ sch1 s ∧ ¬ sch2 s)) (fun n => 6 - n) [true, false, false, false, true]
    (fun n => slots 35 [.str (bs s), .any, .any, .any, .int .i64 n]) (fun n => H) (by rfl) 4 (.inl rfl) rfl rfl ?_
  intro n hn
  rcases hn with rfl | ⟨rfl, h1⟩ | ⟨rfl, h1, h2⟩
  · refine go 200 (fun _ => false) mixed ?_
    by_cases hlt : 7 ≤ s.length
    · have hlt' : 4 ≤ s.length := by omega
      simp (disch := omega) only [↓reduceIte, go_sem, hlt, hlt'] <;> repeat with_reducible refine And.intro (by first | omega | decide) ?_
      have htl : (s.take 4).length < 1000000 := by rw [List.length_take]; omega
      refine (c_abatisref01_Lower _ htl).on (go 200 (fun _ => false) mixed ?_)
      simp (disch := omega) only [↓reduceIte, go_sem] <;> repeat with_reducible refine And.intro (by first | omega | decide) ?_
      refine (c_abatisref13_Port _).on (go 200 (fun _ => false) mixed ?_)
      by_cases hp : 0 < portI (lowF (s.take 4))
      · by_cases hs : (s.take 7).drop 4 = sep3
        · rw [if_pos (show sch1 s from ⟨hlt, hp, hs⟩)]
          unfold sep3 at hs
          simp (disch := omega) only [↓reduceIte, go_sem, hlt, hlt', hp, hs] <;> repeat with_reducible refine And.intro (by first | omega | decide) ?_
          exact fin rfl rfl
        · have h1 : ¬ sch1 s := fun h => hs h.2.2
          unfold sep3 at hs
          simp (disch := omega) only [↓reduceIte, go_sem, hlt, hlt', hp, hs] <;> repeat with_reducible refine And.intro (by first | omega | decide) ?_
          exact rnd_next 5 (.inr (.inl ⟨rfl, h1⟩)) (by decide) rfl rfl
      · have h1 : ¬ sch1 s := fun h => hp h.2.1
        simp (disch := omega) only [↓reduceIte, go_sem, hlt, hlt', hp] <;> repeat with_reducible refine And.intro (by first | omega | decide) ?_
        exact rnd_next 5 (.inr (.inl ⟨rfl, h1⟩)) (by decide) rfl rfl
    · rw [if_neg (fun h => hlt h.1), if_neg (fun h => hlt (by have := h.1; omega))]
      simp (disch := omega) only [↓reduceIte, go_sem, hlt] <;> repeat with_reducible refine And.intro (by first | omega | decide) ?_
      refine go 200 (fun _ => false) mixed ?_
      simp (disch := omega) only [↓reduceIte, go_sem] <;> repeat with_reducible refine And.intro (by first | omega | decide) ?_
      exact fin rfl rfl
  · rw [if_neg h1]
    refine go 200 (fun _ => false) mixed ?_
    by_cases hlt : 8 ≤ s.length
    · have hlt' : 5 ≤ s.length := by omega
      simp (disch := omega) only [↓reduceIte, go_sem, hlt, hlt'] <;> repeat with_reducible refine And.intro (by first | omega | decide) ?_
      have htl : (s.take 5).length < 1000000 := by rw [List.length_take]; omega
      refine (c_abatisref01_Lower _ htl).on (go 200 (fun _ => false) mixed ?_)
      simp (disch := omega) only [↓reduceIte, go_sem] <;> repeat with_reducible refine And.intro (by first | omega | decide) ?_
      refine (c_abatisref13_Port _).on (go 200 (fun _ => false) mixed ?_)
      by_cases hp : 0 < portI (lowF (s.take 5))
      · by_cases hs : (s.take 8).drop 5 = sep3
        · rw [if_pos (show sch2 s from ⟨hlt, hp, hs⟩)]
          unfold sep3 at hs
          simp (disch := omega) only [↓reduceIte, go_sem, hlt, hlt', hp, hs] <;> repeat with_reducible refine And.intro (by first | omega | decide) ?_
          exact fin rfl rfl
        · have h2 : ¬ sch2 s := fun h => hs h.2.2
          unfold sep3 at hs
          simp (disch := omega) only [↓reduceIte, go_sem, hlt, hlt', hp, hs] <;> repeat with_reducible refine And.intro (by first | omega | decide) ?_
          exact rnd_next 6 (.inr (.inr ⟨rfl, h1, h2⟩)) (by decide) rfl rfl
      · have h2 : ¬ sch2 s := fun h => hp h.2.1
        simp (disch := omega) only [↓reduceIte, go_sem, hlt, hlt', hp] <;> repeat with_reducible refine And.intro (by first | omega | decide) ?_
        exact rnd_next 6 (.inr (.inr ⟨rfl, h1, h2⟩)) (by decide) rfl rfl
    · rw [if_neg (fun h => hlt h.1)]
      simp (disch := omega) only [↓reduceIte, go_sem, hlt] <;> repeat with_reducible refine And.intro (by first | omega | decide) ?_
      refine go 200 (fun _ => false) mixed ?_
      simp (disch := omega) only [↓reduceIte, go_sem] <;> repeat with_reducible refine And.intro (by first | omega | decide) ?_
      exact fin rfl rfl
  · rw [if_neg h1, if_neg h2]
    refine go 200 (fun _ => false) mixed ?_
    simp (disch := omega) only [↓reduceIte, go_sem] <;> repeat with_reducible refine And.intro (by first | omega | decide) ?_
    refine go 200 (fun _ => false) mixed ?_
    simp (disch := omega) only [↓reduceIte, go_sem] <;> repeat with_reducible refine And.intro (by first | omega | decide) ?_
    exact fin rfl rfl
end Go.Proofs.GoC
