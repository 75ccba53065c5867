/-
  The law SixRuns; the document's text of an address of 128 bits. No claim by itself.
-/
import Derived.Test.YtepcccepheddjaaGreatDoorGoM2
import Derived.Test.YtepcccepheddjaaGreatDoorGoM1
namespace Go.Proofs.GoC
open Go Go.Proofs.SL
set_option linter.unusedSimpArgs false
set_option linter.unusedVariables false
set_option maxRecDepth 10000
set_option maxHeartbeats 2000000

theorem lives_print : print6 [8193, 3512, 0, 0, 1, 0, 0, 1] = [50, 48, 48, 49, 58, 100, 98, 56, 58, 58, 49, 58, 48, 58, 48, 58, 49] := by decide +kernel

@[go_sem] theorem up_max1 {a : Nat} : max (a : Int) 1 = ((max a 1 : Nat) : Int) := by omega

theorem m10 : (if (1 : Int) > 0 then (1 : Int) else 0) = 1 := rfl

def runsOk : List Bool → Nat → Nat → Nat → Nat → Bool
  | [], _, _, _, _ => true
  | z :: zs, i, run, at', n =>
    let run := if z then run + 1 else 0
    if max n 1 < run ∨ (run = n ∧ 0 < n ∧ i + 1 - run < at') then false
    else if at' ≤ i ∧ i < at' + n ∧ z = false then false
    else runsOk zs (i + 1) run at' n

def runsLaw (zs : List Bool) : Bool :=
  let r := runF zs
  decide (r.2 ≠ 1 ∧ r.2 ≤ 8 ∧ r.1 + r.2 ≤ 8 ∧ ¬ (r.2 = 0 ∧ r.1 ≠ 0)) && runsOk zs 0 0 r.1 r.2
theorem runs_law8 : ∀ a b c d e f g h : Bool, runsLaw [a, b, c, d, e, f, g, h] = true := by decide +kernel
theorem runs_law (zs : List Bool) (hl : zs.length = 8) : ((runF zs).2 ≠ 1 ∧ (runF zs).2 ≤ 8 ∧ (runF zs).1 + (runF zs).2 ≤ 8 ∧ ¬ ((runF zs).2 = 0 ∧ (runF zs).1 ≠ 0)) ∧ runsOk zs 0 0 (runF zs).1 (runF zs).2 = true := by
  obtain ⟨a, b, c, d, e, f, g, h, rfl⟩ := len8 hl
  have := runs_law8 a b c d e f g h
  simpa only [runsLaw, Bool.and_eq_true, decide_eq_true_eq] using this

end Go.Proofs.GoC

/-
  What the functions compute: strict texts of addresses of 32 bits. No claim by itself.
-/
namespace Go.Proofs.GoC
open Go Go.Proofs.SL
set_option linter.unusedSimpArgs false
set_option linter.unusedVariables false
set_option maxRecDepth 10000
set_option maxHeartbeats 1000000

def octF (p : List UInt8) : Option Nat :=
  match numF 10 p 0 with
  | none => none
  | some n => if p ≠ [] ∧ n ≤ 255 ∧ decF n.toNat = p then some n.toNat else none

def octs : List (List UInt8) → Option (List Nat)
  | [] => some []
  | p :: ps => match octF p with
    | none => none
    | some n => (octs ps).map (n :: ·)

def fold4 (ns : List Nat) : Nat := ns.foldl (fun a n => a * 256 + n) 0

/-- The address of a strict text. -/
def strictF (l : List UInt8) : Option Nat := if (splitA 46 l [] []).length = 4 then (octs (splitA 46 l [] [])).map fold4 else none

def strictV : Option Nat → PV
  | some n => .tup [.int .u32 (n : Nat), .bool true]
  | none => .tup [.int .u32 0, .bool false]

theorem numF_in (base : Int) (hb : 0 ≤ base) : ∀ (p : List UInt8) (n m : Int), 0 ≤ n → numF base p n = some m → n ≤ 1099511627776 → 0 ≤ m ∧ m ≤ 1099511627776
  | [], n, m, h0, h, h1 => by simp only [numF, Option.some.injEq] at h; omega
  | b :: p, n, m, h0, h, h1 => by
    simp only [numF] at h
    split at h
    · cases h
    · split at h
      · cases h
      · rename_i h2 h3
        have := Int.mul_nonneg h0 hb
        exact numF_in base hb p _ m (by omega) h (by omega)

theorem numF_app (base : Int) : ∀ (l m : List UInt8) (n : Int), numF base (l ++ m) n = match numF base l n with
    | some k => numF base m k
    | none => none
  | [], m, n => rfl
  | b :: l, m, n => by
    simp only [List.cons_append, numF]
    split
    · rfl
    · split
      · rfl
      · exact numF_app base l m _

theorem digit10 {b : UInt8} (h : ¬ (digitV b.toNat < 0 ∨ 10 ≤ digitV b.toNat)) : 48 ≤ b.toNat ∧ b.toNat ≤ 57 ∧ digitV b.toNat = (b.toNat : Int) - 48 := by
  unfold digitV at h ⊢
  (repeat' split at h) <;> (repeat' split) <;> omega

/-- Digits without a nought ahead are their number's. -/
theorem dec_num : ∀ (k : Nat) (p : List UInt8) (n : Int), p.length = k + 1 → numF 10 p 0 = some n → (1 < p.length → p.getD 0 0 ≠ 48) → decF n.toNat = p ∧ (p.getD 0 0 ≠ 48 → 1 ≤ n)
  | 0, p, n, hl, h, _ => by
    obtain ⟨b, rfl⟩ := List.length_eq_one_iff.mp hl
    simp only [numF] at h
    split at h
    · cases h
    · rename_i hd
      obtain ⟨d1, d2, d3⟩ := digit10 hd
      split at h
      · cases h
      · simp only [Option.some.injEq] at h
        subst h
        rw [d3]
        have e : (0 * 10 + ((b.toNat : Int) - 48)).toNat = b.toNat - 48 := by omega
        rw [e, decF.eq_1, if_pos (by omega)]
        have e2 : 48 + (b.toNat - 48) % 10 = b.toNat := by omega
        rw [e2, UInt8.ofNat_toNat]
        refine ⟨rfl, fun hb => ?_⟩
        have : b.toNat ≠ 48 := fun h => hb (by simp only [List.getD_cons_zero]; exact UInt8.toNat_inj.mp h)
        omega
  | k + 1, p, n, hl, h, h0 => by
    have hne : p ≠ [] := by rintro rfl; simp at hl
    have hp : p.dropLast ++ [p.getLast hne] = p := List.dropLast_concat_getLast hne
    have hlq : p.dropLast.length = k + 1 := by rw [List.length_dropLast]; omega
    generalize p.dropLast = q at *
    generalize p.getLast hne = b at *
    subst hp
    rw [numF_app] at h
    split at h
    · rename_i m hm
      have hg : (q ++ [b]).getD 0 0 = q.getD 0 0 := by
        cases q with
        | nil => simp at hlq
        | cons a q => rfl
      have hq0 : q.getD 0 0 ≠ 48 := by rw [← hg]; exact h0 (by rw [hl]; omega)
      obtain ⟨e, hm1⟩ := dec_num k q m hlq hm (fun _ => hq0)
      have hm1 := hm1 hq0
      simp only [numF] at h
      split at h
      · cases h
      · rename_i hd
        obtain ⟨d1, d2, d3⟩ := digit10 hd
        split at h
        · cases h
        · simp only [Option.some.injEq] at h
          subst h
          rw [d3]
          refine ⟨?_, fun _ => by omega⟩
          have e1 : (m * 10 + ((b.toNat : Int) - 48)).toNat / 10 = m.toNat := by omega
          have e2 : 48 + (m * 10 + ((b.toNat : Int) - 48)).toNat % 10 = b.toNat := by omega
          rw [decF.eq_1, if_neg (by omega), e1, e2, UInt8.ofNat_toNat, e]
    · cases h

theorem dec_iff (p : List UInt8) (n : Int) (hne : p ≠ []) (h : numF 10 p 0 = some n) : decF n.toNat = p ↔ ¬ (1 < p.length ∧ p.getD 0 0 = 48) := by
  obtain ⟨k, hk⟩ : ∃ k, p.length = k + 1 := ⟨p.length - 1, by have := List.length_pos_iff.mpr hne; omega⟩
  constructor
  · rintro e ⟨h1, h2⟩
    rcases Nat.eq_zero_or_pos n.toNat with h0 | h0
    · rw [h0, decF.eq_1, if_pos (by omega)] at e
      rw [← e] at h1
      simp at h1
    · obtain ⟨a, t, ea, ha⟩ := decF_head _ h0
      rw [ea] at e
      rw [← e] at h2
      exact ha h2
  · intro hno
    exact (dec_num k p n hk h (fun h1 h2 => hno ⟨h1, h2⟩)).1

def u8s (ns : List Nat) : List PV := ns.map fun n => .int .u8 (n : Nat)

@[go_sem] theorem u8s_len {ns : List Nat} : (u8s ns).length = ns.length := List.length_map ..

theorem fill_set {ps : List PV} {z v : PV} {k n : Nat} (h : ps.length = k) (hk : k < n) : (ps ++ List.replicate (n - k) z).set k v = (ps ++ [v]) ++ List.replicate (n - (k + 1)) z := by
  rw [show n - k = (n - (k + 1)) + 1 by omega, List.replicate_succ, List.set_append_right _ _ (by omega), h, Nat.sub_self]
  simp

theorem u8s_snoc {ns : List Nat} {m : Nat} : u8s ns ++ [PV.int .u8 (m : Nat)] = u8s (ns ++ [m]) := by simp [u8s]

theorem len4 {α : Type} {l : List α} (h : l.length = 4) : ∃ a b c d, l = [a, b, c, d] := by
  match l, h with
  | [a, b, c, d], _ => exact ⟨a, b, c, d, rfl⟩

theorem octs_step {ps : List (List UInt8)} {k : Nat} (hk : k < ps.length) : octs (ps.drop k) = match octF (ps.getD k []) with
    | none => none
    | some n => (octs (ps.drop (k + 1))).map (n :: ·) := by
  rw [List.drop_eq_getElem_cons hk, ← getDL_of hk]; rfl

theorem c_four_Strict (l : List UInt8) (hl : l.length < 1000000) : GCall 118 [.str (bs l)] (strictV (strictF l)) := by
  intro H hG
  refine scall_of (ord := fun _ => []) (rs := [2, 3]) Tryz.func118 rfl (by kernel_rfl) (by kernel_rfl) (by kernel_rfl) Tryz.ntmps118 fun hb hargs => go 200 (fun _ => false) mixed ?_
  simp (disch := omega) only [↓reduceIte, go_sem] <;> repeat with_reducible refine And.intro (by first | omega | decide) ?_
  refine (c_text_Split l 46 hl).on (go 200 (fun _ => false) mixed ?_)
  have hshort := splitA_short 46 l.length l [] [] (by simp) (by simp)
  unfold strictF
  generalize splitA 46 l [] [] = ps at *
  by_cases h4 : ps.length = 4
  · rw [if_pos h4]
    simp (disch := omega) only [↓reduceIte, go_sem, h4] <;> repeat with_reducible refine And.intro (by first | omega | decide) ?_
    obtain ⟨R, hR⟩ : ∃ R, R = octs ps := ⟨_, rfl⟩
    rw [← hR]
    refine runs_loopA (fun x : Nat × List Nat => x.1 ≤ 4 ∧ x.2.length = x.1 ∧ (∀ n ∈ x.2, n ≤ 255) ∧ (octs (ps.drop x.1)).map (x.2 ++ ·) = R) (fun x => 4 - x.1)
      [true, false, true, true, true, true, false, false, false, false, false, false, false, false, false, true, true, true]
      (fun x => slots 46 [.str (bs l), .any, .int .u32 0, .bool false, .sl 1 (strs ps), .ptr H.length 0 0, .any, .any, .any, .any, .any, .any, .any, .any, .any, .sl 1 (strs ps), .int .i64 4, .int .i64 x.1])
      (fun x => H ++ [some (.cells 0 (u8s x.2 ++ List.replicate (4 - x.1) (.int .u8 0)))]) (by rfl) (0, []) ⟨by omega, rfl, by simp, by simp [hR]⟩ rfl rfl ?_
    rintro ⟨k, ns⟩ ⟨hk, hn, hle, hgo⟩
    have hk : k ≤ 4 := hk
    have hn : ns.length = k := hn
    have hle : ∀ n ∈ ns, n ≤ 255 := hle
    have hgo : (octs (ps.drop k)).map (ns ++ ·) = R := hgo
    refine go 200 (fun _ => false) mixed ?_
    by_cases hlt : k < 4
    · have gk := strs_getD (l := ps) (k := k) (by omega)
      have hsk : (ps.getD k []).length < 1000000 := by rw [getDL_of (by omega)]; have := hshort _ (List.getElem_mem (show k < ps.length by omega)); omega
      rw [octs_step (by omega)] at hgo
      generalize ps.getD k [] = p at *
      simp (disch := omega) only [↓reduceIte, go_sem, hlt, gk, h4] <;> repeat with_reducible refine And.intro (by first | omega | decide) ?_
      refine (c_text_Number p 10 (by omega) (by omega) hsk).on (go 200 (fun _ => false) mixed ?_)
      unfold octF at hgo
      unfold numV
      cases hp : numF 10 p 0 with
      | none =>
        rw [hp] at hgo
        simp only [Option.map_none] at hgo
        simp (disch := omega) only [↓reduceIte, go_sem] <;> repeat with_reducible refine And.intro (by first | omega | decide) ?_
        rw [← hgo]
        exact fin_drop (.inr rfl) hb rfl (by simp [strictV])
      | some n =>
        rw [hp] at hgo
        simp only at hgo
        have hin := numF_in 10 (by omega) p 0 n (by omega) hp (by omega)
        by_cases hne : p = []
        · rw [if_neg (fun h => h.1 hne)] at hgo
          simp only [Option.map_none] at hgo
          subst hne
          simp (disch := omega) only [↓reduceIte, go_sem] <;> repeat with_reducible refine And.intro (by first | omega | decide) ?_
          rw [← hgo]
          exact fin_drop (.inr rfl) hb rfl (by simp [strictV])
        · have hpl : 0 < p.length := List.length_pos_iff.mpr hne
          by_cases h255 : 255 < n
          · rw [if_neg (fun h => by omega)] at hgo
            simp only [Option.map_none] at hgo
            simp (disch := omega) only [↓reduceIte, go_sem, hpl, h255] <;> repeat with_reducible refine And.intro (by first | omega | decide) ?_
            rw [← hgo]
            exact fin_drop (.inr rfl) hb rfl (by simp [strictV])
          · obtain ⟨m, rfl⟩ : ∃ m : Nat, n = m := ⟨n.toNat, by omega⟩
            have h255' : ¬ 255 < m := by omega
            simp (disch := omega) only [↓reduceIte, go_sem, hpl, h255'] <;> repeat with_reducible refine And.intro (by first | omega | decide) ?_
            refine (c_text_Decimal m (by omega)).on hG.app (go 200 (fun _ => false) mixed ?_)
            by_cases hd : decF m = p
            · rw [if_pos ⟨hne, by omega, by simpa using hd⟩] at hgo
              simp only [Int.toNat_natCast] at hgo
              have g1 : k < (u8s ns ++ List.replicate (4 - k) (PV.int .u8 0)).length := by rw [List.length_append, u8s_len, List.length_replicate]; omega
              simp (disch := omega) only [↓reduceIte, go_sem, hd, hn, List.length_append, List.length_replicate, Nat.zero_add, Nat.mul_one] <;> repeat with_reducible refine And.intro (by first | omega | decide) ?_
              refine rnd_next (k + 1, ns ++ [m]) ⟨by show k + 1 ≤ 4; omega, by simp [hn], ?_, ?_⟩ (by show 4 - (k + 1) < 4 - k; omega) rfl ?_
              · intro n hn'
                rcases List.mem_append.mp hn' with h | h
                · exact hle n h
                · simp only [List.mem_singleton] at h; omega
              · rw [← hgo, Option.map_map]
                congr 1
                funext x
                simp
              · show _ = H ++ [some (.cells 0 (u8s (ns ++ [m]) ++ List.replicate (4 - (k + 1)) (.int .u8 0)))]
                rw [fill_set (by rw [u8s_len]; exact hn) hlt, u8s_snoc]
            · rw [if_neg (fun h => hd (by simpa using h.2.2))] at hgo
              simp only [Option.map_none] at hgo
              simp (disch := omega) only [↓reduceIte, go_sem, hd] <;> repeat with_reducible refine And.intro (by first | omega | decide) ?_
              rw [← hgo]
              exact fin_drop (.inr rfl) hb rfl (by simp [strictV])
    · obtain rfl : k = 4 := by omega
      obtain ⟨a, b, c, d, rfl⟩ := len4 hn
      rw [List.drop_eq_nil_of_le (by omega)] at hgo
      simp only [octs, Option.map_some, List.append_nil] at hgo
      have ha := hle a (by simp)
      have hb' := hle b (by simp)
      have hc := hle c (by simp)
      have hd := hle d (by simp)
      simp (disch := omega) only [↓reduceIte, go_sem, u8s] <;> repeat with_reducible refine And.intro (by first | omega | decide) ?_
      refine go 200 (fun _ => false) mixed ?_
      simp (disch := omega) only [↓reduceIte, go_sem] <;> repeat with_reducible refine And.intro (by first | omega | decide) ?_
      refine (c_four_Of a b c d ha hb' hc hd).on (go 200 (fun _ => false) mixed ?_)
      simp (disch := omega) only [↓reduceIte, go_sem] <;> repeat with_reducible refine And.intro (by first | omega | decide) ?_
      rw [← hgo]
      exact fin_drop (.inr rfl) hb (by simp [retV, strictV, fold4, of4]) (by simp [strictV])
  · rw [if_neg h4]
    simp (disch := omega) only [↓reduceIte, go_sem, h4] <;> repeat with_reducible refine And.intro (by first | omega | decide) ?_
    exact fin_drop (.inr rfl) hb rfl (by simp [strictV])

theorem c_abatisref02_Strict (l : List UInt8) (hl : l.length < 1000000) : PCall Tryz.prog 122 [.str (bs l)] (strictV (strictF l)) := by
  intro H
  refine scall_of (ord := fun _ => []) (rs := [2, 3]) Tryz.func122 rfl (by kernel_rfl) (by kernel_rfl) (by kernel_rfl) Tryz.ntmps122 fun hb hargs => go 200 (fun _ => false) mixed ?_
  simp (disch := omega) only [↓reduceIte, go_sem] <;> repeat with_reducible refine And.intro (by first | omega | decide) ?_
  refine (c_abatisref01_Split l 46 hl).on (go 200 (fun _ => false) mixed ?_)
  have hshort := splitA_short 46 l.length l [] [] (by simp) (by simp)
  unfold strictF
  generalize splitA 46 l [] [] = ps at *
  by_cases h4 : ps.length = 4
  · rw [if_pos h4]
    simp (disch := omega) only [↓reduceIte, go_sem, h4] <;> repeat with_reducible refine And.intro (by first | omega | decide) ?_
    obtain ⟨R, hR⟩ : ∃ R, R = octs ps := ⟨_, rfl⟩
    rw [← hR]
    refine runs_loopA (fun x : Nat × List Nat => x.1 ≤ 4 ∧ x.2.length = x.1 ∧ fold4 x.2 * room x.1 < 4294967296 ∧ (octs (ps.drop x.1)).map (x.2 ++ ·) = R) (fun x => 4 - x.1)
      [true, false, true, true, true, true, true]
      (fun x => slots 54 [.str (bs l), .any, .int .u32 0, .bool false, .sl 1 (strs ps), .int .u32 (fold4 x.2 : Nat), .int .i64 x.1])
      (fun x => H) (by rfl) (0, []) ⟨by omega, rfl, by decide, by simp [hR]⟩ rfl rfl ?_
    rintro ⟨k, ns⟩ ⟨hk, hn, hle, hgo⟩
    dsimp only at hk hn hle hgo
    refine go 200 (fun _ => false) mixed ?_
    by_cases hlt : k < 4
    · have hkp : k < ps.length := by omega
      have gk := strs_getD (l := ps) (k := k) hkp
      have hsk : (ps.getD k []).length < 1000000 := by rw [getDL_of hkp]; have := hshort _ (List.getElem_mem hkp); omega
      rw [octs_step hkp] at hgo
      generalize ps.getD k [] = p at *
      simp (disch := omega) only [↓reduceIte, go_sem, hlt, gk, h4] <;> repeat with_reducible refine And.intro (by first | omega | decide) ?_
      refine (c_abatisref01_Number p 10 (by omega) (by omega) hsk).on (go 200 (fun _ => false) mixed ?_)
      unfold octF at hgo
      unfold numV
      cases hp : numF 10 p 0 with
      | none =>
        rw [hp] at hgo
        simp only [Option.map_none] at hgo
        simp (disch := omega) only [↓reduceIte, go_sem] <;> repeat with_reducible refine And.intro (by first | omega | decide) ?_
        exact fin (by rw [← hgo]; rfl) rfl
      | some n =>
        rw [hp] at hgo
        simp only at hgo
        have hin := numF_in 10 (by omega) p 0 n (by omega) hp (by omega)
        by_cases hne : p = []
        · rw [if_neg (fun h => h.1 hne)] at hgo
          simp only [Option.map_none] at hgo
          subst hne
          simp (disch := omega) only [↓reduceIte, go_sem] <;> repeat with_reducible refine And.intro (by first | omega | decide) ?_
          exact fin (by rw [← hgo]; rfl) rfl
        · have hpl : 0 < p.length := List.length_pos_iff.mpr hne
          have hiff := dec_iff p n hne hp
          by_cases h255 : 255 < n
          · rw [if_neg (fun h => by omega)] at hgo
            simp only [Option.map_none] at hgo
            simp (disch := omega) only [↓reduceIte, go_sem, hpl, h255] <;> repeat with_reducible refine And.intro (by first | omega | decide) ?_
            exact fin (by rw [← hgo]; rfl) rfl
          · obtain ⟨m, rfl⟩ : ∃ m : Nat, n = m := ⟨n.toNat, by omega⟩
            have h255' : ¬ 255 < m := by omega
            have u : (p.getD 0 0).toNat = 48 ↔ p.getD 0 0 = 48 := ⟨fun h => UInt8.toNat_inj.mp h, fun h => by rw [h]; rfl⟩
            have hr := room_next (n := m) hlt hle (by omega)
            have hrm := room_in (k + 1)
            have hacc : fold4 ns * 256 + m < 4294967296 := Nat.lt_of_le_of_lt (Nat.le_mul_of_pos_right _ (by omega)) hr
            have hf : fold4 (ns ++ [m]) = fold4 ns * 256 + m := by simp [fold4]
            by_cases h1 : 1 < p.length
            · by_cases h48 : p.getD 0 0 = 48
              · rw [if_neg (fun h => (hiff.mp h.2.2) ⟨h1, h48⟩)] at hgo
                simp only [Option.map_none] at hgo
                have h48' := u.mpr h48
                simp (disch := omega) only [↓reduceIte, go_sem, hpl, h255', h1, hkp, gk, h48'] <;> repeat with_reducible refine And.intro (by first | omega | decide) ?_
                exact fin (by rw [← hgo]; rfl) rfl
              · rw [if_pos ⟨hne, by omega, hiff.mpr (fun h => h48 h.2)⟩] at hgo
                simp only [Int.toNat_natCast] at hgo
                simp (disch := omega) only [↓reduceIte, go_sem, hpl, h255', h1, hkp, gk, u, h48] <;> repeat with_reducible refine And.intro (by first | omega | decide) ?_
                refine rnd_next (k + 1, ns ++ [m]) ⟨by show k + 1 ≤ 4; omega, by simp [hn], by rw [hf]; exact hr, ?_⟩ (by show 4 - (k + 1) < 4 - k; omega) ?_ rfl
                · rw [← hgo, Option.map_map]
                  congr 1
                  funext x
                  simp
                · simp only [hf]; rfl
            · rw [if_pos ⟨hne, by omega, hiff.mpr (fun h => h1 h.1)⟩] at hgo
              simp only [Int.toNat_natCast] at hgo
              simp (disch := omega) only [↓reduceIte, go_sem, hpl, h255', h1, hkp, gk] <;> repeat with_reducible refine And.intro (by first | omega | decide) ?_
              refine rnd_next (k + 1, ns ++ [m]) ⟨by show k + 1 ≤ 4; omega, by simp [hn], by rw [hf]; exact hr, ?_⟩ (by show 4 - (k + 1) < 4 - k; omega) ?_ rfl
              · rw [← hgo, Option.map_map]
                congr 1
                funext x
                simp
              · simp only [hf]; rfl
    · obtain rfl : k = 4 := by omega
      rw [List.drop_eq_nil_of_le (by omega)] at hgo
      simp only [octs, Option.map_some, List.append_nil] at hgo
      simp (disch := omega) only [↓reduceIte, go_sem] <;> repeat with_reducible refine And.intro (by first | omega | decide) ?_
      refine go 200 (fun _ => false) mixed ?_
      simp (disch := omega) only [↓reduceIte, go_sem] <;> repeat with_reducible refine And.intro (by first | omega | decide) ?_
      exact fin (by rw [← hgo]; rfl) rfl
  · rw [if_neg h4]
    simp (disch := omega) only [↓reduceIte, go_sem, h4] <;> repeat with_reducible refine And.intro (by first | omega | decide) ?_
    exact fin rfl rfl
end Go.Proofs.GoC

/-
  What the functions compute: bytes of addresses of 128 bits; the law SixBytes. No claim by itself.
-/
namespace Go.Proofs.GoC
open Go Go.Proofs.SL
set_option linter.unusedSimpArgs false
set_option linter.unusedVariables false
set_option maxRecDepth 10000
set_option maxHeartbeats 2000000

/-- An address's bytes, the higher one first. -/
def bytes6 : List Nat → List Nat
  | [] => []
  | n :: l => n / 256 :: n % 256 :: bytes6 l
def of6 : List Nat → List Nat
  | a :: b :: l => (a * 256 + b) :: of6 l
  | _ => []

theorem bytes6_len : ∀ gs : List Nat, (bytes6 gs).length = 2 * gs.length
  | [] => rfl
  | n :: l => by simp only [bytes6, List.length_cons, bytes6_len l]; omega
theorem bytes6_app : ∀ a b : List Nat, bytes6 (a ++ b) = bytes6 a ++ bytes6 b
  | [], b => rfl
  | n :: l, b => by simp only [List.cons_append, bytes6, bytes6_app l b]
theorem bytes6_get : ∀ (gs : List Nat) (k : Nat), k < gs.length → (bytes6 gs).getD (2 * k) 0 = gs.getD k 0 / 256 ∧ (bytes6 gs).getD (2 * k + 1) 0 = gs.getD k 0 % 256
  | [], k, h => by simp at h
  | n :: l, 0, _ => ⟨rfl, rfl⟩
  | n :: l, k + 1, h => by
    have := bytes6_get l k (by simpa using h)
    simpa only [bytes6, show 2 * (k + 1) = 2 * k + 1 + 1 by omega, List.getD_cons_succ] using this
theorem bytes6_le : ∀ gs : List Nat, (∀ g ∈ gs, g ≤ 65535) → ∀ b ∈ bytes6 gs, b ≤ 255
  | [], _ => by simp [bytes6]
  | n :: l, h => by
    have h1 := h n (by simp)
    have h2 := bytes6_le l (fun g hg => h g (List.mem_cons_of_mem _ hg))
    intro b hb
    simp only [bytes6, List.mem_cons] at hb
    rcases hb with rfl | rfl | hb
    · omega
    · omega
    · exact h2 b hb
theorem of6_bytes6 : ∀ gs : List Nat, of6 (bytes6 gs) = gs
  | [] => rfl
  | n :: l => by simp only [bytes6, of6, of6_bytes6 l]; congr 1; omega
theorem of6_len : ∀ (l : List Nat) (k : Nat), l.length = 2 * k → (of6 l).length = k
  | [], k, h => by simp only [List.length_nil] at h; simp only [of6, List.length_nil]; omega
  | [a], k, h => by simp only [List.length_cons, List.length_nil] at h; omega
  | a :: b :: l, 0, h => by simp at h
  | a :: b :: l, k + 1, h => by simp only [of6, List.length_cons] at *; rw [of6_len l k (by omega)]
theorem of6_get : ∀ (l : List Nat) (k : Nat), 2 * k + 1 < l.length → (of6 l).getD k 0 = l.getD (2 * k) 0 * 256 + l.getD (2 * k + 1) 0
  | [], k, h => by simp at h
  | [a], k, h => by simp at h
  | a :: b :: l, 0, _ => rfl
  | a :: b :: l, k + 1, h => by
    have := of6_get l k (by simp only [List.length_cons] at h; omega)
    simpa only [of6, show 2 * (k + 1) = 2 * k + 1 + 1 by omega, List.getD_cons_succ] using this
theorem bytes6_of6 : ∀ (l : List Nat) (k : Nat), l.length = 2 * k → (∀ b ∈ l, b ≤ 255) → bytes6 (of6 l) = l
  | [], _, _, _ => rfl
  | [a], k, h, _ => by simp only [List.length_cons, List.length_nil] at h; omega
  | a :: b :: l, 0, h, _ => by simp at h
  | a :: b :: l, k + 1, h, hb => by
    have h1 := hb a (by simp)
    have h2 := hb b (by simp)
    simp only [of6, bytes6]
    rw [bytes6_of6 l k (by simp only [List.length_cons] at h; omega) (fun x hx => hb x (by simp [hx]))]
    congr 1
    · omega
    · congr 1; omega
theorem of6_le : ∀ (l : List Nat), (∀ b ∈ l, b ≤ 255) → ∀ g ∈ of6 l, g ≤ 65535
  | [], _ => by simp [of6]
  | [a], _ => by simp [of6]
  | a :: b :: l, hb => by
    have h1 := hb a (by simp)
    have h2 := hb b (by simp)
    intro g hg
    simp only [of6, List.mem_cons] at hg
    rcases hg with rfl | hg
    · omega
    · exact of6_le l (fun x hx => hb x (by simp [hx])) g hg

theorem u8s_get {ns : List Nat} {k : Nat} (h : k < ns.length) : (u8s ns).getD k .any = .int .u8 (ns.getD k 0 : Nat) := by
  simp [u8s, List.getD_eq_getElem?_getD, h]
@[go_sem] theorem u8s_one {gs : List Nat} : (u8s gs).all PV.one = true := by simp [u8s, PV.one]
@[go_sem] theorem or_u16 {a b : Nat} (hb : b < 256) (h : a * 256 + b < 65536) : bitOp .or .u16 ((a * 256 : Nat) : Int) (b : Int) = ((a * 256 + b : Nat) : Int) := or_addk (k := .u16) (s := 8) hb rfl h
end Go.Proofs.GoC

/-
  What an address of 128 bits is read as: the plain law. No claim by itself.
-/
namespace Go.Proofs.GoC
open Go Go.Proofs.SL
set_option linter.unusedSimpArgs false
set_option linter.unusedVariables false
set_option maxRecDepth 10000
set_option maxHeartbeats 2000000

def hexP (p : List UInt8) : Option Nat :=
  match numF 16 p 0 with
  | some n => if p ≠ [] ∧ p.length ≤ 4 then some n.toNat else none
  | none => none

/-- A part's groups. -/
def part6 (last : Bool) (p : List UInt8) : Option (List Nat) :=
  match hexP p with
  | some n => some [n]
  | none => if last then (strictF p).map fun v => [v / 65536, v % 65536] else none

def groupsGo (last : Bool) : List (List UInt8) → Option (List Nat)
  | [] => some []
  | p :: ps => match part6 (last && ps.isEmpty) p with
    | none => none
    | some l => (groupsGo last ps).map (l ++ ·)

def groupsF (last : Bool) (s : List UInt8) : Option (List Nat) := if s = [] then some [] else groupsGo last (splitA 58 s [] [])

def parse2 (c : Bool) (a b : Option (List Nat)) : Option (List Nat) :=
  match a, b with
  | some a, some b => if (if c then a.length + b.length < 8 else a.length + b.length = 8) then some (a ++ List.replicate (8 - (a.length + b.length)) 0 ++ b) else none
  | _, _ => none

/-- The address of a text. -/
def parseF (s : List UInt8) : Option (List Nat) :=
  parse2 (Lib.cut s [58, 58]).2.2 (groupsF (!(Lib.cut s [58, 58]).2.2) (Lib.cut s [58, 58]).1) (groupsF true (Lib.cut s [58, 58]).2.1)

def parseV : Option (List Nat) → PV
  | some gs => .tup [.agg (u16s gs), .bool true]
  | none => .tup [.agg (u16s [0, 0, 0, 0, 0, 0, 0, 0]), .bool false]

theorem numF_room (base : Nat) : ∀ (p : List UInt8) (n : Nat) (m : Int) (k : Nat), n < base ^ k → numF base p n = some m → 0 ≤ m ∧ m < (base ^ (k + p.length) : Nat)
  | [], n, m, k, h0, h => by
    simp only [numF, Option.some.injEq] at h
    subst h
    exact ⟨by omega, by rw [List.length_nil, Nat.add_zero]; exact Int.ofNat_lt.mpr h0⟩
  | b :: p, n, m, k, h0, h => by
    simp only [numF] at h
    split at h
    · cases h
    · split at h
      · cases h
      · rename_i h2 h3
        obtain ⟨d, hd⟩ : ∃ d : Nat, digitV b.toNat = d := ⟨(digitV b.toNat).toNat, by omega⟩
        rw [hd] at h h2
        have hdb : d < base := by omega
        have e : (n : Int) * base + d = ((n * base + d : Nat) : Int) := by simp
        rw [e] at h
        have hlt : n * base + d < base ^ (k + 1) := by
          rw [Nat.pow_succ]
          have : (n + 1) * base ≤ base ^ k * base := Nat.mul_le_mul_right _ h0
          rw [Nat.add_mul] at this; omega
        have := numF_room base p (n * base + d) m (k + 1) hlt h
        rw [List.length_cons, show k + (p.length + 1) = k + 1 + p.length by omega]
        exact this

theorem num16_le {p : List UInt8} {n : Int} (h : numF 16 p 0 = some n) (hl : p.length ≤ 4) : 0 ≤ n ∧ n ≤ 65535 := by
  have := numF_room 16 p 0 n 0 (by simp) h
  have h2 : 16 ^ (0 + p.length) ≤ 16 ^ 4 := Nat.pow_le_pow_right (by omega) (by omega)
  omega

theorem hexP_le {p : List UInt8} {n : Nat} (h : hexP p = some n) : n ≤ 65535 := by
  unfold hexP at h
  split at h
  · rename_i m hm
    split at h
    · rename_i hc
      have := num16_le hm hc.2
      cases h; omega
    · cases h
  · cases h

theorem fold4_lt : ∀ {ps : List (List UInt8)} {ns : List Nat}, octs ps = some ns → ns.length = ps.length ∧ ∀ n ∈ ns, n ≤ 255
  | [], ns, h => by simp only [octs, Option.some.injEq] at h; subst h; simp
  | p :: ps, ns, h => by
    simp only [octs] at h
    split at h
    · cases h
    · rename_i n hn
      cases ho : octs ps with
      | none => rw [ho] at h; cases h
      | some ms =>
        rw [ho] at h
        simp only [Option.map_some, Option.some.injEq] at h
        subst h
        obtain ⟨h1, h2⟩ := fold4_lt ho
        refine ⟨by simp [h1], fun x hx => ?_⟩
        rcases List.mem_cons.mp hx with rfl | hx
        · unfold octF at hn
          split at hn
          · cases hn
          · split at hn
            · rename_i m _ hc
              cases hn
              have := hc.2.1
              omega
            · cases hn
        · exact h2 x hx

theorem strictF_le {p : List UInt8} {v : Nat} (h : strictF p = some v) : v ≤ 4294967295 := by
  unfold strictF at h
  split at h
  · rename_i h4
    cases ho : octs (splitA 46 p [] []) with
    | none => rw [ho] at h; cases h
    | some ns =>
      rw [ho] at h
      simp only [Option.map_some, Option.some.injEq] at h
      obtain ⟨h1, h2⟩ := fold4_lt ho
      obtain ⟨a, b, c, d, rfl⟩ := len4 (h1.trans h4)
      have ha := h2 a (by simp); have hb := h2 b (by simp); have hc := h2 c (by simp); have hd := h2 d (by simp)
      subst h
      simp only [fold4, List.foldl]; omega
  · cases h

/-- No point: no strict text. -/
theorem splitA_no (sep : UInt8) : ∀ (l : List UInt8) (acc : List (List UInt8)) (cur : List UInt8), sep ∉ l → splitA sep l acc cur = acc ++ [cur ++ l]
  | [], acc, cur, _ => by simp [splitA]
  | b :: l, acc, cur, h => by
    simp only [List.mem_cons, not_or] at h
    simp only [splitA]
    rw [if_neg (fun e => h.1 e.symm), splitA_no sep l acc _ h.2]
    simp

theorem strict_no {p : List UInt8} (h : (46 : UInt8) ∉ p) : strictF p = none := by
  unfold strictF
  rw [splitA_no 46 p [] [] h]
  simp

theorem numF_no (base : Int) (b : UInt8) (hb : digitV b.toNat < 0) : ∀ (p : List UInt8) (n : Int), b ∈ p → numF base p n = none
  | [], _, h => by simp at h
  | c :: p, n, h => by
    simp only [numF]
    split
    · rfl
    · rename_i h1
      split
      · rfl
      · rcases List.mem_cons.mp h with rfl | h
        · exact absurd (.inl hb) h1
        · exact numF_no base b hb p _ h

theorem hexP_no {p : List UInt8} (h : (46 : UInt8) ∈ p) : hexP p = none := by
  unfold hexP
  rw [numF_no 16 46 (by decide) p 0 h]
end Go.Proofs.GoC

/-
  What the functions compute: the groups of a text's parts. No claim by itself.
-/
namespace Go.Proofs.GoC
open Go Go.Proofs.SL
set_option linter.unusedSimpArgs false
set_option linter.unusedVariables false
set_option maxRecDepth 10000
set_option maxHeartbeats 2000000

/-- The end of a function that gives a slice that it grew, and something else. -/
theorem fin_freeze2 {H0 L : Heap} {Q : PV → Heap → Prop} {σ : Env} {x : AEx} {t u i ver off len m : Nat} {tip : Bool} {cs xs : List PV} {q : PV} (hx : x = .normal ∨ x = .ret) (hb : HB H0.length H0) (ht : σ[t]? = some (.buf i ver off len m tip))
    (hu : σ[u]? = some q) (htu : t ≠ u) (hq : Bdd H0.length q)
    (hi : H0.length ≤ i) (ho : (H0 ++ L)[i]? = some (some (.cells ver cs))) (hfx : flat xs = subCells cs off (len * m)) (hl : xs.length = len) (hm : ∀ x ∈ xs, x.cells.length = m) (hbd : ∀ x ∈ xs, Bdd H0.length x) (h : Q (.tup [.sl m xs, q]) H0) :
    SL.Ends H0 [t, u] Q x σ (H0 ++ L) := by
  have hlt : t < σ.length := by
    rcases Nat.lt_or_ge t σ.length with h | h
    · exact h
    · rw [List.getElem?_eq_none h] at ht; cases ht
  have g := Ghost.freeze (H0 := H0) ht ho hfx hl hm
  have e : (H0 ++ L).set i none = H0 ++ L.set (i - H0.length) none := List.set_append_right _ _ hi
  rw [e] at g
  have hg : (σ.set t (.sl m xs)).getD t .any = .sl m xs := by simp [List.getD_eq_getElem?_getD, hlt]
  have hg2 : (σ.set t (.sl m xs)).getD u .any = q := by simp [List.getD_eq_getElem?_getD, List.getElem?_set_ne htu, hu]
  have hd := SL.Ends.drop (Q := Q) (rs := [t, u]) (σ := σ.set t (.sl m xs)) (L := L.set (i - H0.length) none) hx hb (by
    intro t' ht'
    simp only [List.mem_cons, List.not_mem_nil, or_false] at ht'
    rcases ht' with rfl | rfl
    · rw [hg]; exact bdd_sl.mpr hbd
    · rw [hg2]; exact hq) (by simp only [retV, List.map_cons, List.map_nil]; rw [hg, hg2]; exact h)
  obtain ⟨h1, σ', H', g', hq⟩ := hd
  exact ⟨h1, σ', H', g.trans g', hq⟩

theorem c_strings_Contains (l : List UInt8) (c : UInt8) : PCall Tryz.prog 117 [.str (bs l), .str (bs [c])] (.bool (decide (c ∈ l))) := by
  intro H
  refine scall_lift Tryz.func117 rfl (by kernel_rfl) fun β w vs hI hs hv => ?_
  obtain ⟨v, u, rfl, h1, h2⟩ := vals2 hs hv
  rw [h1.str_inv, h2.str_inv]
  refine (Tryz.strings_Contains_one (bs l) c w).mono fun e w' ⟨he, hw⟩ => ⟨_, he, hw ▸ Below.same, fun β' w2 => ?_⟩
  have : decide (0 ≤ Lib.indexByte (bs l).data.toList c) = decide (c ∈ l) := by
    rw [show (bs l).data.toList = l by simp [bs]]
    by_cases hc : c ∈ l
    · have h1 : 0 ≤ Lib.indexByte l c := by
        rcases Int.lt_or_le (Lib.indexByte l c) 0 with h | h
        · have h2 := Lib.indexByte_ge l c
          obtain ⟨k, hk, hkc⟩ := List.getElem_of_mem hc
          exact absurd (by rw [List.getElem?_eq_getElem hk, hkc]) (Lib.indexByte_none (by omega) k)
        · exact h
      simp [hc, h1]
    · have h1 : ¬ 0 ≤ Lib.indexByte l c := fun h => by
        obtain ⟨h2, _⟩ := Lib.indexByte_some (l := l) (c := c) (o := (Lib.indexByte l c).toNat) (by omega)
        exact hc (List.mem_of_getElem? h2)
      simp [hc, h1]
  rw [this]
  exact .bool _

def partV : Option (List Nat) → PV
  | some l => .sl 1 (u16s l)
  | none => .nils

theorem c_six_part (last : Bool) (p : List UInt8) (hl : p.length < 1000000) : GCall 102 [.str (bs p), .bool last] (partV (part6 last p)) := by
  intro H hG
  refine scall_of (ord := fun _ => []) (rs := [4]) Tryz.func102 rfl (by kernel_rfl) (by kernel_rfl) (by kernel_rfl) Tryz.ntmps102 fun hb hargs => go 200 (fun _ => false) mixed ?_
  cases last with
  | true =>
    simp (disch := omega) only [↓reduceIte, go_sem] <;> repeat with_reducible refine And.intro (by first | omega | decide) ?_
    refine (c_strings_Contains p 46).on (go 200 (fun _ => false) mixed ?_)
    by_cases hd : (46 : UInt8) ∈ p
    · have hx := hexP_no hd
      simp (disch := omega) only [↓reduceIte, go_sem, hd] <;> repeat with_reducible refine And.intro (by first | omega | decide) ?_
      refine (c_four_Strict p hl).on hG (go 200 (fun _ => false) mixed ?_)
      cases hv : strictF p with
      | none =>
        simp only [strictV]
        simp (disch := omega) only [↓reduceIte, go_sem] <;> repeat with_reducible refine And.intro (by first | omega | decide) ?_
        exact fin (by simp [retV, part6, hx, partV, hv]) rfl
      | some v =>
        have hvl := strictF_le hv
        simp only [strictV]
        simp (disch := omega) only [↓reduceIte, go_sem] <;> repeat with_reducible refine And.intro (by first | omega | decide) ?_
        exact fin (by simp [retV, part6, hx, partV, hv, u16s, mw_u16]) rfl
    · have hno := strict_no hd
      simp (disch := omega) only [↓reduceIte, go_sem, hd] <;> repeat with_reducible refine And.intro (by first | omega | decide) ?_
      refine (c_text_Number p 16 (by omega) (by omega) hl).on (go 200 (fun _ => false) mixed ?_)
      have hx : hexP p = match numF 16 p 0 with
        | some n => if p ≠ [] ∧ p.length ≤ 4 then some n.toNat else none
        | none => none := rfl
      unfold numV
      cases hn : numF 16 p 0 with
      | none =>
        rw [hn] at hx
        simp (disch := omega) only [↓reduceIte, go_sem] <;> repeat with_reducible refine And.intro (by first | omega | decide) ?_
        exact fin (by simp [retV, part6, hx, partV, hno]) rfl
      | some n =>
        rw [hn] at hx
        simp only at hx
        by_cases h0 : 0 < p.length
        · by_cases h4 : 4 < p.length
          · rw [if_neg (fun h => by omega)] at hx
            simp (disch := omega) only [↓reduceIte, go_sem, h0, h4] <;> repeat with_reducible refine And.intro (by first | omega | decide) ?_
            exact fin (by simp [retV, part6, hx, partV, hno]) rfl
          · rw [if_pos ⟨List.length_pos_iff.mp h0, by omega⟩] at hx
            obtain ⟨h1, h2⟩ := num16_le hn (by omega)
            obtain ⟨m, rfl⟩ : ∃ m : Nat, n = m := ⟨n.toNat, by omega⟩
            simp (disch := omega) only [↓reduceIte, go_sem, h0, h4] <;> repeat with_reducible refine And.intro (by first | omega | decide) ?_
            exact fin (by simp [retV, part6, hx, partV, u16s]) rfl
        · rw [if_neg (fun h => h0 (List.length_pos_iff.mpr h.1))] at hx
          simp (disch := omega) only [↓reduceIte, go_sem, h0] <;> repeat with_reducible refine And.intro (by first | omega | decide) ?_
          exact fin (by simp [retV, part6, hx, partV, hno]) rfl
  | false =>
    simp (disch := omega) only [↓reduceIte, go_sem] <;> repeat with_reducible refine And.intro (by first | omega | decide) ?_
    refine (c_text_Number p 16 (by omega) (by omega) hl).on (go 200 (fun _ => false) mixed ?_)
    have hx : hexP p = match numF 16 p 0 with
      | some n => if p ≠ [] ∧ p.length ≤ 4 then some n.toNat else none
      | none => none := rfl
    unfold numV
    cases hn : numF 16 p 0 with
    | none =>
      rw [hn] at hx
      simp (disch := omega) only [↓reduceIte, go_sem] <;> repeat with_reducible refine And.intro (by first | omega | decide) ?_
      exact fin (by simp [retV, part6, hx, partV]) rfl
    | some n =>
      rw [hn] at hx
      simp only at hx
      by_cases h0 : 0 < p.length
      · by_cases h4 : 4 < p.length
        · rw [if_neg (fun h => by omega)] at hx
          simp (disch := omega) only [↓reduceIte, go_sem, h0, h4] <;> repeat with_reducible refine And.intro (by first | omega | decide) ?_
          exact fin (by simp [retV, part6, hx, partV]) rfl
        · rw [if_pos ⟨List.length_pos_iff.mp h0, by omega⟩] at hx
          obtain ⟨h1, h2⟩ := num16_le hn (by omega)
          obtain ⟨m, rfl⟩ : ∃ m : Nat, n = m := ⟨n.toNat, by omega⟩
          simp (disch := omega) only [↓reduceIte, go_sem, h0, h4] <;> repeat with_reducible refine And.intro (by first | omega | decide) ?_
          exact fin (by simp [retV, part6, hx, partV, u16s]) rfl
      · rw [if_neg (fun h => h0 (List.length_pos_iff.mpr h.1))] at hx
        simp (disch := omega) only [↓reduceIte, go_sem, h0] <;> repeat with_reducible refine And.intro (by first | omega | decide) ?_
        exact fin (by simp [retV, part6, hx, partV]) rfl

theorem u16s_cells {l : List Nat} : ∀ x ∈ u16s l, x.cells.length = 1 := by
  intro x hx
  obtain ⟨s, _, rfl⟩ := List.mem_map.mp hx
  rfl
theorem u16s_bdd {l : List Nat} {n : Nat} : ∀ x ∈ u16s l, Bdd n x := by
  intro x hx
  obtain ⟨s, _, rfl⟩ := List.mem_map.mp hx
  exact .int _ _
@[go_sem] theorem flat_u16s (l : List Nat) : flat (u16s l) = u16s l := by
  induction l with
  | nil => rfl
  | cons a l ih => simp only [u16s, flat, List.map_cons, List.flatMap_cons, PV.cells] at ih ⊢; rw [ih]; rfl

def rowV : Option (List Nat) → PV
  | some [] => .tup [.nils, .bool true]
  | some l => .tup [.sl 1 (u16s l), .bool true]
  | none => .tup [.nils, .bool false]

theorem part6_ne {last : Bool} {p : List UInt8} {l : List Nat} (h : part6 last p = some l) : l ≠ [] ∧ l.length ≤ 2 := by
  unfold part6 at h
  split at h
  · cases h; simp
  · split at h
    · cases hs : strictF p with
      | none => rw [hs] at h; cases h
      | some v => rw [hs] at h; cases h; simp
    · cases h

theorem groups_step (last : Bool) {ps : List (List UInt8)} {k : Nat} (hk : k < ps.length) : groupsGo last (ps.drop k) = match part6 (last && decide (k + 1 = ps.length)) (ps.getD k []) with
    | none => none
    | some l => (groupsGo last (ps.drop (k + 1))).map (l ++ ·) := by
  rw [List.drop_eq_getElem_cons hk, ← getDL_of hk]
  have e : (ps.drop (k + 1)).isEmpty = decide (k + 1 = ps.length) := by
    rw [Bool.eq_iff_iff, List.isEmpty_iff, List.drop_eq_nil_iff, decide_eq_true_eq]; omega
  rw [groupsGo, e]
  all_goals rfl

theorem c_six_row (last : Bool) (s : List UInt8) (hl : s.length < 1000000) : GCall 73 [.str (bs s), .bool last] (rowV (groupsF last s)) := by
  intro H hG
  refine scall_of (ord := fun _ => []) (rs := [4, 5]) Tryz.func73 rfl (by kernel_rfl) (by kernel_rfl) (by kernel_rfl) Tryz.ntmps73 fun hb hargs => go 200 (fun _ => false) mixed ?_
  by_cases h0 : s = []
  · subst h0
    simp (disch := omega) only [↓reduceIte, go_sem] <;> repeat with_reducible refine And.intro (by first | omega | decide) ?_
    exact fin (by simp [retV, groupsF, rowV]) rfl
  have hg : groupsF last s = groupsGo last (splitA 58 s [] []) := by rw [groupsF, if_neg h0]
  have hshort := splitA_short 58 s.length s [] [] (by simp) (by simp)
  have hlen := splitA_len 58 s [] []
  rw [hg]
  simp (disch := omega) only [↓reduceIte, go_sem, h0] <;> repeat with_reducible refine And.intro (by first | omega | decide) ?_
  refine (c_text_Split s 58 hl).on (go 200 (fun _ => false) mixed ?_)
  generalize splitA 58 s [] [] = ps at *
  have hlen2 : ps.length ≤ 1000000 := by have := hlen.2; simp only [List.length_nil] at this; omega
  simp (disch := omega) only [↓reduceIte, go_sem, strs_len] <;> repeat with_reducible refine And.intro (by first | omega | decide) ?_
  obtain ⟨R, hR⟩ : ∃ R, R = groupsGo last ps := ⟨_, rfl⟩
  rw [← hR]
  cases last with
  | true =>
    refine Runs.ghost (by rfl) (Ghost.grow (t := 6) (m := 1) rfl) ?_
    refine runs_loopA (fun x : Nat × Nat × List Nat => x.1 ≤ ps.length ∧ x.2.2.length ≤ 2 * x.1 ∧ x.1 ≤ x.2.2.length ∧ (groupsGo true (ps.drop x.1)).map (x.2.2 ++ ·) = R) (fun x => ps.length - x.1)
      [true, true, false, false, true, true, true, true, false, false, false, false, false, false, false, true, true, true]
      (fun x => slots 39 [.str (bs s), .bool true, .any, .any, .nils, .bool false, .buf H.length x.2.1 0 x.2.2.length 1 true, .sl 1 (strs ps), .any, .any, .any, .any, .any, .any, .any, .sl 1 (strs ps), .int .i64 ps.length, .int .i64 x.1])
      (fun x => H ++ [some (.cells x.2.1 (u16s x.2.2))]) (by rfl) (0, 0, []) ⟨by simp, by simp, by simp, by simp [hR]⟩ rfl rfl ?_
    rintro ⟨k, ver, ns⟩ ⟨hk, hn, hn1, hgo⟩
    dsimp only at hk hn hn1 hgo
    refine go 200 (fun _ => false) mixed ?_
    by_cases hlt : k < ps.length
    · have gk := strs_getD (l := ps) (k := k) hlt
      have hsl : k < (strs ps).length := by rw [strs_len]; exact hlt
      have hsk : (ps.getD k []).length < 1000000 := by rw [getDL_of hlt]; have := hshort _ (List.getElem_mem hlt); omega
      rw [groups_step _ hlt] at hgo
      by_cases e : k + 1 = ps.length
      · have e2 : (k = ps.length - 1) = True := eq_true (by omega)
        rw [decide_eq_true e, Bool.true_and] at hgo
        simp (disch := omega) only [↓reduceIte, go_sem, hlt, hsl, gk, e2] <;> repeat with_reducible refine And.intro (by first | omega | decide) ?_
        refine (c_six_part true (ps.getD k []) hsk).on hG.app (go 200 (fun _ => false) mixed ?_)
        cases hp : part6 true (ps.getD k []) with
        | none =>
          rw [hp] at hgo
          simp only [Option.map_none] at hgo
          simp only [partV]
          simp (disch := omega) only [↓reduceIte, go_sem] <;> repeat with_reducible refine And.intro (by first | omega | decide) ?_
          rw [← hgo]
          exact fin_drop (.inr rfl) hb rfl (by simp [rowV])
        | some m =>
          rw [hp] at hgo
          obtain ⟨m1, m2⟩ := part6_ne hp
          have m0 : 0 < m.length := List.length_pos_iff.mpr m1
          simp only [partV]
          simp (disch := omega) only [↓reduceIte, go_sem, m0, m1] <;> repeat with_reducible refine And.intro (by first | omega | decide) ?_
          refine ⟨⟨by unfold most; omega, by unfold most; omega⟩, ?_⟩
          refine rnd_next (k + 1, ver + 1, ns ++ m) ⟨by show k + 1 ≤ ps.length; omega, by show (ns ++ m).length ≤ 2 * (k + 1); rw [List.length_append]; omega, by show k + 1 ≤ (ns ++ m).length; rw [List.length_append]; omega, ?_⟩ (by show ps.length - (k + 1) < ps.length - k; omega) ?_ ?_
          · rw [← hgo, Option.map_map]
            congr 1
            funext x
            simp
          · simp only [List.length_append]; rfl
          · simp only [u16s, List.map_append]
      · have e2 : ¬ k = ps.length - 1 := by omega
        rw [decide_eq_false e, Bool.true_and] at hgo
        simp (disch := omega) only [↓reduceIte, go_sem, hlt, hsl, gk, e2] <;> repeat with_reducible refine And.intro (by first | omega | decide) ?_
        refine (c_six_part false (ps.getD k []) hsk).on hG.app (go 200 (fun _ => false) mixed ?_)
        cases hp : part6 false (ps.getD k []) with
        | none =>
          rw [hp] at hgo
          simp only [Option.map_none] at hgo
          simp only [partV]
          simp (disch := omega) only [↓reduceIte, go_sem] <;> repeat with_reducible refine And.intro (by first | omega | decide) ?_
          rw [← hgo]
          exact fin_drop (.inr rfl) hb rfl (by simp [rowV])
        | some m =>
          rw [hp] at hgo
          obtain ⟨m1, m2⟩ := part6_ne hp
          have m0 : 0 < m.length := List.length_pos_iff.mpr m1
          simp only [partV]
          simp (disch := omega) only [↓reduceIte, go_sem, m0, m1] <;> repeat with_reducible refine And.intro (by first | omega | decide) ?_
          refine ⟨⟨by unfold most; omega, by unfold most; omega⟩, ?_⟩
          refine rnd_next (k + 1, ver + 1, ns ++ m) ⟨by show k + 1 ≤ ps.length; omega, by show (ns ++ m).length ≤ 2 * (k + 1); rw [List.length_append]; omega, by show k + 1 ≤ (ns ++ m).length; rw [List.length_append]; omega, ?_⟩ (by show ps.length - (k + 1) < ps.length - k; omega) ?_ ?_
          · rw [← hgo, Option.map_map]
            congr 1
            funext x
            simp
          · simp only [List.length_append]; rfl
          · simp only [u16s, List.map_append]
    · simp (disch := omega) only [↓reduceIte, go_sem, hlt] <;> repeat with_reducible refine And.intro (by first | omega | decide) ?_
      have hk2 : k = ps.length := by omega
      subst hk2
      rw [List.drop_length] at hgo
      simp only [groupsGo, Option.map_some, List.append_nil] at hgo
      refine go 200 (fun _ => false) mixed ?_
      simp (disch := omega) only [↓reduceIte, go_sem] <;> repeat with_reducible refine And.intro (by first | omega | decide) ?_
      rw [← hgo]
      have hne : ns ≠ [] := by
        rintro rfl
        simp only [List.length_nil] at hn1 hlen; omega
      have hrv : rowV (some ns) = .tup [.sl 1 (u16s ns), .bool true] := by
        cases ns with
        | nil => exact absurd rfl hne
        | cons a l => rfl
      rw [hrv]
      refine fin_freeze2 (i := H.length) (cs := u16s ns) (xs := u16s ns) (u := 5) (q := .bool true) (.inr rfl) hb rfl rfl (by decide) (.bool _) (Nat.le_refl _) (by rw [get_tail0]; rfl) ?_ (u16s_len) u16s_cells u16s_bdd ⟨rfl, rfl⟩
      rw [flat_u16s]
      have : (u16s ns).length = ns.length * 1 := by rw [u16s_len, Nat.mul_one]
      rw [← this]; simp [subCells]
  | false =>
    refine Runs.ghost (by rfl) (Ghost.grow (t := 6) (m := 1) rfl) ?_
    refine runs_loopA (fun x : Nat × Nat × List Nat => x.1 ≤ ps.length ∧ x.2.2.length ≤ 2 * x.1 ∧ x.1 ≤ x.2.2.length ∧ (groupsGo false (ps.drop x.1)).map (x.2.2 ++ ·) = R) (fun x => ps.length - x.1)
      [true, true, false, false, true, true, true, true, false, false, false, false, false, false, false, true, true, true]
      (fun x => slots 39 [.str (bs s), .bool false, .any, .any, .nils, .bool false, .buf H.length x.2.1 0 x.2.2.length 1 true, .sl 1 (strs ps), .any, .any, .any, .any, .any, .any, .any, .sl 1 (strs ps), .int .i64 ps.length, .int .i64 x.1])
      (fun x => H ++ [some (.cells x.2.1 (u16s x.2.2))]) (by rfl) (0, 0, []) ⟨by simp, by simp, by simp, by simp [hR]⟩ rfl rfl ?_
    rintro ⟨k, ver, ns⟩ ⟨hk, hn, hn1, hgo⟩
    dsimp only at hk hn hn1 hgo
    refine go 200 (fun _ => false) mixed ?_
    by_cases hlt : k < ps.length
    · have gk := strs_getD (l := ps) (k := k) hlt
      have hsl : k < (strs ps).length := by rw [strs_len]; exact hlt
      have hsk : (ps.getD k []).length < 1000000 := by rw [getDL_of hlt]; have := hshort _ (List.getElem_mem hlt); omega
      rw [groups_step _ hlt] at hgo
      rw [Bool.false_and] at hgo
      simp (disch := omega) only [↓reduceIte, go_sem, hlt, hsl, gk] <;> repeat with_reducible refine And.intro (by first | omega | decide) ?_
      refine (c_six_part false (ps.getD k []) hsk).on hG.app (go 200 (fun _ => false) mixed ?_)
      cases hp : part6 false (ps.getD k []) with
      | none =>
        rw [hp] at hgo
        simp only [Option.map_none] at hgo
        simp only [partV]
        simp (disch := omega) only [↓reduceIte, go_sem] <;> repeat with_reducible refine And.intro (by first | omega | decide) ?_
        rw [← hgo]
        exact fin_drop (.inr rfl) hb rfl (by simp [rowV])
      | some m =>
        rw [hp] at hgo
        obtain ⟨m1, m2⟩ := part6_ne hp
        have m0 : 0 < m.length := List.length_pos_iff.mpr m1
        simp only [partV]
        simp (disch := omega) only [↓reduceIte, go_sem, m0, m1] <;> repeat with_reducible refine And.intro (by first | omega | decide) ?_
        refine ⟨⟨by unfold most; omega, by unfold most; omega⟩, ?_⟩
        refine rnd_next (k + 1, ver + 1, ns ++ m) ⟨by show k + 1 ≤ ps.length; omega, by show (ns ++ m).length ≤ 2 * (k + 1); rw [List.length_append]; omega, by show k + 1 ≤ (ns ++ m).length; rw [List.length_append]; omega, ?_⟩ (by show ps.length - (k + 1) < ps.length - k; omega) ?_ ?_
        · rw [← hgo, Option.map_map]
          congr 1
          funext x
          simp
        · simp only [List.length_append]; rfl
        · simp only [u16s, List.map_append]
    · simp (disch := omega) only [↓reduceIte, go_sem, hlt] <;> repeat with_reducible refine And.intro (by first | omega | decide) ?_
      have hk2 : k = ps.length := by omega
      subst hk2
      rw [List.drop_length] at hgo
      simp only [groupsGo, Option.map_some, List.append_nil] at hgo
      refine go 200 (fun _ => false) mixed ?_
      simp (disch := omega) only [↓reduceIte, go_sem] <;> repeat with_reducible refine And.intro (by first | omega | decide) ?_
      rw [← hgo]
      have hne : ns ≠ [] := by
        rintro rfl
        simp only [List.length_nil] at hn1 hlen; omega
      have hrv : rowV (some ns) = .tup [.sl 1 (u16s ns), .bool true] := by
        cases ns with
        | nil => exact absurd rfl hne
        | cons a l => rfl
      rw [hrv]
      refine fin_freeze2 (i := H.length) (cs := u16s ns) (xs := u16s ns) (u := 5) (q := .bool true) (.inr rfl) hb rfl rfl (by decide) (.bool _) (Nat.le_refl _) (by rw [get_tail0]; rfl) ?_ (u16s_len) u16s_cells u16s_bdd ⟨rfl, rfl⟩
      rw [flat_u16s]
      have : (u16s ns).length = ns.length * 1 := by rw [u16s_len, Nat.mul_one]
      rw [← this]; simp [subCells]
end Go.Proofs.GoC

/-
  What the functions compute: the document's groups of a text. No claim by itself.
-/
namespace Go.Proofs.GoC
open Go Go.Proofs.SL
set_option linter.unusedSimpArgs false
set_option linter.unusedVariables false
set_option maxRecDepth 10000
set_option maxHeartbeats 2000000

def i64s (ns : List Nat) : List PV := ns.map fun n => .int .i64 (n : Nat)
@[go_sem] theorem i64s_len {ns : List Nat} : (i64s ns).length = ns.length := List.length_map ..
theorem i64s_get {ns : List Nat} {k : Nat} (h : k < ns.length) : (i64s ns).getD k .any = .int .i64 (ns.getD k 0 : Nat) := by
  simp [i64s, List.getD_eq_getElem?_getD, h]
theorem i64s_cells {l : List Nat} : ∀ x ∈ i64s l, x.cells.length = 1 := by
  intro x hx
  obtain ⟨s, _, rfl⟩ := List.mem_map.mp hx
  rfl
theorem i64s_bdd {l : List Nat} {n : Nat} : ∀ x ∈ i64s l, Bdd n x := by
  intro x hx
  obtain ⟨s, _, rfl⟩ := List.mem_map.mp hx
  exact .int _ _
@[go_sem] theorem flat_i64s (l : List Nat) : flat (i64s l) = i64s l := by
  induction l with
  | nil => rfl
  | cons a l ih => simp only [i64s, flat, List.map_cons, List.flatMap_cons, PV.cells] at ih ⊢; rw [ih]; rfl

def hexV : Option Nat → PV
  | some n => .int .i64 (n : Nat)
  | none => .int .i64 (-1)

theorem c_abatisref03_hex (p : List UInt8) (hl : p.length < 1000000) : PCall Tryz.prog 121 [.str (bs p)] (hexV (hexP p)) := by
  intro H
  refine scall_of (ord := fun _ => []) (rs := [2]) Tryz.func121 rfl (by kernel_rfl) (by kernel_rfl) (by kernel_rfl) Tryz.ntmps121 fun hb hargs => go 200 (fun _ => false) mixed ?_
  simp (disch := omega) only [↓reduceIte, go_sem] <;> repeat with_reducible refine And.intro (by first | omega | decide) ?_
  refine (c_abatisref01_Number p 16 (by omega) (by omega) hl).on (go 200 (fun _ => false) mixed ?_)
  unfold numV hexP
  cases hn : numF 16 p 0 with
  | none =>
    simp only
    simp (disch := omega) only [↓reduceIte, go_sem] <;> repeat with_reducible refine And.intro (by first | omega | decide) ?_
    exact fin rfl rfl
  | some n =>
    simp only
    by_cases h0 : 0 < p.length
    · have h1 : p ≠ [] := List.length_pos_iff.mp h0
      by_cases h4 : 4 < p.length
      · rw [if_neg (fun h => by omega)]
        simp (disch := omega) only [↓reduceIte, go_sem, h0, h4] <;> repeat with_reducible refine And.intro (by first | omega | decide) ?_
        exact fin rfl rfl
      · rw [if_pos ⟨h1, by omega⟩]
        obtain ⟨m1, m2⟩ := num16_le hn (by omega)
        obtain ⟨m, rfl⟩ : ∃ m : Nat, n = m := ⟨n.toNat, by omega⟩
        simp (disch := omega) only [↓reduceIte, go_sem, h0, h4] <;> repeat with_reducible refine And.intro (by first | omega | decide) ?_
        exact fin rfl rfl
    · rw [if_neg (fun h => h0 (List.length_pos_iff.mpr h.1))]
      simp (disch := omega) only [↓reduceIte, go_sem, h0] <;> repeat with_reducible refine And.intro (by first | omega | decide) ?_
      exact fin rfl rfl

def groupsV : Option (List Nat) → PV
  | some [] => .tup [.nils, .bool true]
  | some l => .tup [.sl 1 (i64s l), .bool true]
  | none => .tup [.nils, .bool false]

theorem c_abatisref03_Groups (last : Bool) (s : List UInt8) (hl : s.length < 1000000) : PCall Tryz.prog 111 [.str (bs s), .bool last] (groupsV (groupsF last s)) := by
  intro H
  refine scall_of (ord := fun _ => []) (rs := [4, 5]) Tryz.func111 rfl (by kernel_rfl) (by kernel_rfl) (by kernel_rfl) Tryz.ntmps111 fun hb hargs => go 200 (fun _ => false) mixed ?_
  by_cases h0 : s = []
  · subst h0
    simp (disch := omega) only [↓reduceIte, go_sem] <;> repeat with_reducible refine And.intro (by first | omega | decide) ?_
    exact fin (by simp [retV, groupsF, groupsV]) rfl
  have hg : groupsF last s = groupsGo last (splitA 58 s [] []) := by rw [groupsF, if_neg h0]
  have hshort := splitA_short 58 s.length s [] [] (by simp) (by simp)
  have hlen := splitA_len 58 s [] []
  rw [hg]
  simp (disch := omega) only [↓reduceIte, go_sem, h0] <;> repeat with_reducible refine And.intro (by first | omega | decide) ?_
  refine (c_abatisref01_Split s 58 hl).on (go 200 (fun _ => false) mixed ?_)
  generalize splitA 58 s [] [] = ps at *
  have hlen2 : ps.length ≤ 1000000 := by have := hlen.2; simp only [List.length_nil] at this; omega
  simp (disch := omega) only [↓reduceIte, go_sem, strs_len] <;> repeat with_reducible refine And.intro (by first | omega | decide) ?_
  obtain ⟨R, hR⟩ : ∃ R, R = groupsGo last ps := ⟨_, rfl⟩
  rw [← hR]
  refine Runs.ghost (by rfl) (Ghost.grow (t := 6) (m := 1) rfl) ?_
  refine runs_loopA (fun x : Nat × Nat × List Nat => x.1 ≤ ps.length ∧ x.2.2.length ≤ 2 * x.1 ∧ x.1 ≤ x.2.2.length ∧ (groupsGo last (ps.drop x.1)).map (x.2.2 ++ ·) = R) (fun x => ps.length - x.1)
    [true, true, false, false, true, true, true, true, true]
    (fun x => slots 65 [.str (bs s), .bool last, .any, .any, .nils, .bool false, .buf H.length x.2.1 0 x.2.2.length 1 true, .sl 1 (strs ps), .int .i64 x.1])
    (fun x => H ++ [some (.cells x.2.1 (i64s x.2.2))]) (by rfl) (0, 0, []) ⟨by simp, by simp, by simp, by simp [hR]⟩ rfl rfl ?_
  rintro ⟨k, ver, ns⟩ ⟨hk, hn, hn1, hgo⟩
  dsimp only at hk hn hn1 hgo
  refine go 200 (fun _ => false) mixed ?_
  by_cases hlt : k < ps.length
  · have gk := strs_getD (l := ps) (k := k) hlt
    have hsl : k < (strs ps).length := by rw [strs_len]; exact hlt
    have hsk : (ps.getD k []).length < 1000000 := by rw [getDL_of hlt]; have := hshort _ (List.getElem_mem hlt); omega
    rw [groups_step _ hlt] at hgo
    generalize ps.getD k [] = p at *
    simp (disch := omega) only [↓reduceIte, go_sem, hlt, hsl, gk] <;> repeat with_reducible refine And.intro (by first | omega | decide) ?_
    refine (c_abatisref03_hex p hsk).on (go 200 (fun _ => false) mixed ?_)
    cases hp : hexP p with
    | some n =>
      have hn16 := hexP_le hp
      simp only [part6, hp, Option.map_map] at hgo
      simp only [hexV]
      simp (disch := omega) only [↓reduceIte, go_sem] <;> repeat with_reducible refine And.intro (by first | omega | decide) ?_
      refine ⟨⟨by unfold most; omega, by unfold most; omega⟩, ?_⟩
      refine rnd_next (k + 1, ver + 1, ns ++ [n]) ⟨by show k + 1 ≤ ps.length; omega, by show (ns ++ [n]).length ≤ 2 * (k + 1); rw [List.length_append]; simp only [List.length_cons, List.length_nil]; omega, by show k + 1 ≤ (ns ++ [n]).length; rw [List.length_append]; simp only [List.length_cons, List.length_nil]; omega, ?_⟩ (by show ps.length - (k + 1) < ps.length - k; omega) ?_ ?_
      · rw [← hgo]
        try rw [Option.map_map]
        congr 1
        funext x
        simp
      · simp only [List.length_append]; rfl
      · simp only [i64s, List.map_append]; rfl
    | none =>
      simp only [hexV]
      simp (disch := omega) only [↓reduceIte, go_sem, hlt, hsl, gk] <;> repeat with_reducible refine And.intro (by first | omega | decide) ?_
      refine (c_abatisref02_Strict p hsk).on (go 200 (fun _ => false) mixed ?_)
      cases hs : strictF p with
      | none =>
        simp only [part6, hp, hs, Option.map_none, ite_self] at hgo
        simp only [strictV]
        simp (disch := omega) only [↓reduceIte, go_sem] <;> repeat with_reducible refine And.intro (by first | omega | decide) ?_
        rw [← hgo]
        exact fin_drop (.inr rfl) hb rfl (by simp [groupsV])
      | some v =>
        have hvl := strictF_le hs
        simp only [strictV]
        cases last with
        | false =>
          simp only [part6, hp, Bool.false_and, Bool.false_eq_true, if_false, Option.map_none] at hgo
          simp (disch := omega) only [↓reduceIte, go_sem] <;> repeat with_reducible refine And.intro (by first | omega | decide) ?_
          rw [← hgo]
          exact fin_drop (.inr rfl) hb rfl (by simp [groupsV])
        | true =>
          by_cases e : k + 1 = ps.length
          · have e2 : ¬ k + 1 < ps.length := by omega
            simp only [part6, hp, hs, decide_eq_true e, Bool.true_and, if_true, Option.map_some] at hgo
            simp (disch := omega) only [↓reduceIte, go_sem, e2] <;> repeat with_reducible refine And.intro (by first | omega | decide) ?_
            refine ⟨⟨by unfold most; omega, by unfold most; omega⟩, ?_⟩
            refine rnd_next (k + 1, ver + 1, ns ++ [v / 65536, v % 65536]) ⟨by show k + 1 ≤ ps.length; omega, by show (ns ++ [v / 65536, v % 65536]).length ≤ 2 * (k + 1); rw [List.length_append]; simp only [List.length_cons, List.length_nil]; omega, by show k + 1 ≤ (ns ++ [v / 65536, v % 65536]).length; rw [List.length_append]; simp only [List.length_cons, List.length_nil]; omega, ?_⟩ (by show ps.length - (k + 1) < ps.length - k; omega) ?_ ?_
            · rw [← hgo]
              try rw [Option.map_map]
              congr 1
              funext x
              simp
            · simp only [List.length_append]; rfl
            · simp only [i64s, List.map_append]; rfl
          · have e2 : k + 1 < ps.length := by omega
            simp only [part6, hp, decide_eq_false e, Bool.true_and, Bool.false_eq_true, if_false, Option.map_none] at hgo
            simp (disch := omega) only [↓reduceIte, go_sem, e2] <;> repeat with_reducible refine And.intro (by first | omega | decide) ?_
            rw [← hgo]
            exact fin_drop (.inr rfl) hb rfl (by simp [groupsV])
  · simp (disch := omega) only [↓reduceIte, go_sem, hlt] <;> repeat with_reducible refine And.intro (by first | omega | decide) ?_
    have hk2 : k = ps.length := by omega
    subst hk2
    rw [List.drop_length] at hgo
    simp only [groupsGo, Option.map_some, List.append_nil] at hgo
    refine go 200 (fun _ => false) mixed ?_
    simp (disch := omega) only [↓reduceIte, go_sem] <;> repeat with_reducible refine And.intro (by first | omega | decide) ?_
    rw [← hgo]
    have hne : ns ≠ [] := by
      rintro rfl
      simp only [List.length_nil] at hn1 hlen; omega
    have hrv : groupsV (some ns) = .tup [.sl 1 (i64s ns), .bool true] := by
      cases ns with
      | nil => exact absurd rfl hne
      | cons a l => rfl
    rw [hrv]
    refine fin_freeze2 (i := H.length) (cs := i64s ns) (xs := i64s ns) (u := 5) (q := .bool true) (.inr rfl) hb rfl rfl (by decide) (.bool _) (Nat.le_refl _) (by rw [get_tail0]; rfl) ?_ (i64s_len) i64s_cells i64s_bdd ⟨rfl, rfl⟩
    rw [flat_i64s]
    have : (i64s ns).length = ns.length * 1 := by rw [i64s_len, Nat.mul_one]
    rw [← this]; simp [subCells]

/-- Where two colons stand first. -/
theorem index_drop (sub l : List UInt8) (hs : sub ≠ []) : ∀ k, k ≤ l.length → (∀ j, j < k → sub.isPrefixOf (l.drop j) = false) → Lib.index l sub = if Lib.index (l.drop k) sub = -1 then -1 else Lib.index (l.drop k) sub + k
  | 0, _, _ => by simp only [List.drop_zero]; split <;> simp_all
  | k + 1, hk, h => by
    have ih := index_drop sub l hs k (by omega) (fun j hj => h j (by omega))
    have hkl : k < l.length := by omega
    have h0 := h k (by omega)
    rw [List.drop_eq_getElem_cons hkl] at h0 ih
    rw [ih]
    have hge := Lib.index_ge (l.drop (k + 1)) sub
    simp only [Lib.index, h0, Bool.false_eq_true, if_false, beq_iff_eq]
    split
    · simp_all
    · rename_i h1
      rw [if_neg (by omega)]; omega

theorem pre2 (l : List UInt8) (k : Nat) : ([58, 58] : List UInt8).isPrefixOf (l.drop k) = (decide (k + 1 < l.length) && (l.getD k 0 == 58) && (l.getD (k + 1) 0 == 58)) := by
  rcases Nat.lt_or_ge k l.length with h1 | h1
  · rw [List.drop_eq_getElem_cons h1, ← getD_of h1]
    rcases Nat.lt_or_ge (k + 1) l.length with h2 | h2
    · rw [List.drop_eq_getElem_cons h2, ← getD_of h2]
      simp only [List.isPrefixOf, h2, decide_true, Bool.true_and, Bool.and_true]
      rw [show (58 == l.getD k 0) = (l.getD k 0 == 58) from Bool.beq_comm, show (58 == l.getD (k + 1) 0) = (l.getD (k + 1) 0 == 58) from Bool.beq_comm]
    · rw [List.drop_eq_nil_of_le h2]
      simp [List.isPrefixOf, show ¬ k + 1 < l.length by omega]
  · rw [List.drop_eq_nil_of_le h1]
    simp [List.isPrefixOf, show ¬ k + 1 < l.length by omega]

theorem c_abatisref03_gap (l : List UInt8) (hl : l.length < 1000000) : PCall Tryz.prog 110 [.str (bs l)] (.int .i64 (Lib.index l [58, 58])) := by
  intro H
  refine scall_of (ord := fun _ => []) (rs := [2]) Tryz.func110 rfl (by kernel_rfl) (by kernel_rfl) (by kernel_rfl) Tryz.ntmps110 fun hb hargs => go 200 (fun _ => false) mixed ?_
  simp (disch := omega) only [↓reduceIte, go_sem] <;> repeat with_reducible refine And.intro (by first | omega | decide) ?_
  refine runs_loopA (fun k : Nat => k ≤ l.length ∧ ∀ j, j < k → ([58, 58] : List UInt8).isPrefixOf (l.drop j) = false) (fun k => l.length - k)
    [true, false, false, true]
    (fun k => slots 23 [.str (bs l), .any, .any, .int .i64 k])
    (fun _ => H) (by rfl) 0 ⟨Nat.zero_le _, fun j hj => absurd hj (Nat.not_lt_zero _)⟩ rfl rfl ?_
  rintro k ⟨hk, hno⟩
  refine go 200 (fun _ => false) mixed ?_
  have hix := index_drop [58, 58] l (by simp) k hk hno
  have hp := pre2 l k
  by_cases hlt : k + 1 < l.length
  · have hlt2 : k < l.length := by omega
    rw [decide_eq_true hlt, Bool.true_and] at hp
    have u1 : (l.getD k 0).toNat = 58 ↔ l.getD k 0 = 58 := ⟨fun h => UInt8.toNat_inj.mp h, fun h => by rw [h]; rfl⟩
    have u2 : (l.getD (k + 1) 0).toNat = 58 ↔ l.getD (k + 1) 0 = 58 := ⟨fun h => UInt8.toNat_inj.mp h, fun h => by rw [h]; rfl⟩
    by_cases h1 : l.getD k 0 = 58
    · have g1 := u1.mpr h1
      by_cases h2 : l.getD (k + 1) 0 = 58
      · have g2 := u2.mpr h2
        simp (disch := omega) only [↓reduceIte, go_sem, hlt, hlt2, g1, g2] <;> repeat with_reducible refine And.intro (by first | omega | decide) ?_
        rw [h1, h2] at hp
        have h0 : Lib.index (l.drop k) [58, 58] = 0 := by
          rw [List.drop_eq_getElem_cons hlt2] at hp ⊢
          rw [Lib.index, if_pos (by rw [hp]; rfl)]
        rw [h0] at hix
        exact fin (by simp [retV, hix]) rfl
      · simp (disch := omega) only [↓reduceIte, go_sem, hlt, hlt2, g1, u2, h2] <;> repeat with_reducible refine And.intro (by first | omega | decide) ?_
        refine rnd_next (k + 1) ⟨by omega, fun j hj => ?_⟩ (by show l.length - (k + 1) < l.length - k; omega) rfl rfl
        rcases Nat.lt_or_ge j k with h | h
        · exact hno j h
        · obtain rfl : j = k := by omega
          rw [hp, beq_eq_false_iff_ne.mpr h2, Bool.and_false]
    · simp (disch := omega) only [↓reduceIte, go_sem, hlt, hlt2, u1, h1] <;> repeat with_reducible refine And.intro (by first | omega | decide) ?_
      refine rnd_next (k + 1) ⟨by omega, fun j hj => ?_⟩ (by show l.length - (k + 1) < l.length - k; omega) rfl rfl
      rcases Nat.lt_or_ge j k with h | h
      · exact hno j h
      · obtain rfl : j = k := by omega
        rw [hp, beq_eq_false_iff_ne.mpr h1, Bool.false_and]
  · simp (disch := omega) only [↓reduceIte, go_sem, hlt] <;> repeat with_reducible refine And.intro (by first | omega | decide) ?_
    refine go 200 (fun _ => false) mixed ?_
    simp (disch := omega) only [↓reduceIte, go_sem] <;> repeat with_reducible refine And.intro (by first | omega | decide) ?_
    have hall : ∀ j, j < l.length → ([58, 58] : List UInt8).isPrefixOf (l.drop j) = false := fun j hj => by
      rcases Nat.lt_or_ge j k with h | h
      · exact hno j h
      · rw [pre2]; simp [show ¬ j + 1 < l.length by omega]
    have := index_drop [58, 58] l (by simp) l.length (Nat.le_refl _) hall
    rw [List.drop_length] at this
    simp [Lib.index] at this
    exact fin (by simp [retV, this]) rfl
end Go.Proofs.GoC
