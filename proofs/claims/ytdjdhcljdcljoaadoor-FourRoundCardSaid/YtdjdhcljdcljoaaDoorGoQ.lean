/-
  What the functions compute: strict texts of addresses of 32 bits. No claim by itself.
-/
import Derived.Test.YtdjdhcljdcljoaaDoorGoP
import Derived.Test.YtdjdhcljdcljoaaDoorGoL
namespace Go.Proofs.GoC
open Go Go.Proofs.SL
set_option linter.unusedSimpArgs false
set_option linter.unusedVariables false
set_option maxRecDepth 10000
set_option maxHeartbeats 1000000

def octF (p : List UInt8) : Option Nat :=
  match numF 10 p 0 with
  | none => none
  | some n => if p ≠ [] ∧ n ≤ 255 ∧ decF n.toNat = p then some n.toNat else none

def octs : List (List UInt8) → Option (List Nat)
  | [] => some []
  | p :: ps => match octF p with
    | none => none
    | some n => (octs ps).map (n :: ·)

def fold4 (ns : List Nat) : Nat := ns.foldl (fun a n => a * 256 + n) 0

/-- The address of a strict text. -/
def strictF (l : List UInt8) : Option Nat := if (splitA 46 l [] []).length = 4 then (octs (splitA 46 l [] [])).map fold4 else none

def strictV : Option Nat → PV
  | some n => .tup [.int .u32 (n : Nat), .bool true]
  | none => .tup [.int .u32 0, .bool false]

theorem numF_in (base : Int) (hb : 0 ≤ base) : ∀ (p : List UInt8) (n m : Int), 0 ≤ n → numF base p n = some m → n ≤ 1099511627776 → 0 ≤ m ∧ m ≤ 1099511627776
  | [], n, m, h0, h, h1 => by simp only [numF, Option.some.injEq] at h; omega
  | b :: p, n, m, h0, h, h1 => by
    simp only [numF] at h
    split at h
    · cases h
    · split at h
      · cases h
      · rename_i h2 h3
        have := Int.mul_nonneg h0 hb
        exact numF_in base hb p _ m (by omega) h (by omega)

theorem numF_app (base : Int) : ∀ (l m : List UInt8) (n : Int), numF base (l ++ m) n = match numF base l n with
    | some k => numF base m k
    | none => none
  | [], m, n => rfl
  | b :: l, m, n => by
    simp only [List.cons_append, numF]
    split
    · rfl
    · split
      · rfl
      · exact numF_app base l m _

theorem digit10 {b : UInt8} (h : ¬ (digitV b.toNat < 0 ∨ 10 ≤ digitV b.toNat)) : 48 ≤ b.toNat ∧ b.toNat ≤ 57 ∧ digitV b.toNat = (b.toNat : Int) - 48 := by
  unfold digitV at h ⊢
  (repeat' split at h) <;> (repeat' split) <;> omega

/-- Digits without a nought ahead are their number's. -/
theorem dec_num : ∀ (k : Nat) (p : List UInt8) (n : Int), p.length = k + 1 → numF 10 p 0 = some n → (1 < p.length → p.getD 0 0 ≠ 48) → decF n.toNat = p ∧ (p.getD 0 0 ≠ 48 → 1 ≤ n)
  | 0, p, n, hl, h, _ => by
    obtain ⟨b, rfl⟩ := List.length_eq_one_iff.mp hl
    simp only [numF] at h
    split at h
    · cases h
    · rename_i hd
      obtain ⟨d1, d2, d3⟩ := digit10 hd
      split at h
      · cases h
      · simp only [Option.some.injEq] at h
        subst h
        rw [d3]
        have e : (0 * 10 + ((b.toNat : Int) - 48)).toNat = b.toNat - 48 := by omega
        rw [e, decF.eq_1, if_pos (by omega)]
        have e2 : 48 + (b.toNat - 48) % 10 = b.toNat := by omega
        rw [e2, UInt8.ofNat_toNat]
        refine ⟨rfl, fun hb => ?_⟩
        have : b.toNat ≠ 48 := fun h => hb (by simp only [List.getD_cons_zero]; exact UInt8.toNat_inj.mp h)
        omega
  | k + 1, p, n, hl, h, h0 => by
    have hne : p ≠ [] := by rintro rfl; simp at hl
    have hp : p.dropLast ++ [p.getLast hne] = p := List.dropLast_concat_getLast hne
    have hlq : p.dropLast.length = k + 1 := by rw [List.length_dropLast]; omega
    generalize p.dropLast = q at *
    generalize p.getLast hne = b at *
    subst hp
    rw [numF_app] at h
    split at h
    · rename_i m hm
      have hg : (q ++ [b]).getD 0 0 = q.getD 0 0 := by
        cases q with
        | nil => simp at hlq
        | cons a q => rfl
      have hq0 : q.getD 0 0 ≠ 48 := by rw [← hg]; exact h0 (by rw [hl]; omega)
      obtain ⟨e, hm1⟩ := dec_num k q m hlq hm (fun _ => hq0)
      have hm1 := hm1 hq0
      simp only [numF] at h
      split at h
      · cases h
      · rename_i hd
        obtain ⟨d1, d2, d3⟩ := digit10 hd
        split at h
        · cases h
        · simp only [Option.some.injEq] at h
          subst h
          rw [d3]
          refine ⟨?_, fun _ => by omega⟩
          have e1 : (m * 10 + ((b.toNat : Int) - 48)).toNat / 10 = m.toNat := by omega
          have e2 : 48 + (m * 10 + ((b.toNat : Int) - 48)).toNat % 10 = b.toNat := by omega
          rw [decF.eq_1, if_neg (by omega), e1, e2, UInt8.ofNat_toNat, e]
    · cases h

theorem dec_iff (p : List UInt8) (n : Int) (hne : p ≠ []) (h : numF 10 p 0 = some n) : decF n.toNat = p ↔ ¬ (1 < p.length ∧ p.getD 0 0 = 48) := by
  obtain ⟨k, hk⟩ : ∃ k, p.length = k + 1 := ⟨p.length - 1, by have := List.length_pos_iff.mpr hne; omega⟩
  constructor
  · rintro e ⟨h1, h2⟩
    rcases Nat.eq_zero_or_pos n.toNat with h0 | h0
    · rw [h0, decF.eq_1, if_pos (by omega)] at e
      rw [← e] at h1
      simp at h1
    · obtain ⟨a, t, ea, ha⟩ := decF_head _ h0
      rw [ea] at e
      rw [← e] at h2
      exact ha h2
  · intro hno
    exact (dec_num k p n hk h (fun h1 h2 => hno ⟨h1, h2⟩)).1

def u8s (ns : List Nat) : List PV := ns.map fun n => .int .u8 (n : Nat)

@[go_sem] theorem u8s_len {ns : List Nat} : (u8s ns).length = ns.length := List.length_map ..

theorem fill_set {ps : List PV} {z v : PV} {k n : Nat} (h : ps.length = k) (hk : k < n) : (ps ++ List.replicate (n - k) z).set k v = (ps ++ [v]) ++ List.replicate (n - (k + 1)) z := by
  rw [show n - k = (n - (k + 1)) + 1 by omega, List.replicate_succ, List.set_append_right _ _ (by omega), h, Nat.sub_self]
  simp

theorem u8s_snoc {ns : List Nat} {m : Nat} : u8s ns ++ [PV.int .u8 (m : Nat)] = u8s (ns ++ [m]) := by simp [u8s]

theorem len4 {α : Type} {l : List α} (h : l.length = 4) : ∃ a b c d, l = [a, b, c, d] := by
  match l, h with
  | [a, b, c, d], _ => exact ⟨a, b, c, d, rfl⟩

theorem octs_step {ps : List (List UInt8)} {k : Nat} (hk : k < ps.length) : octs (ps.drop k) = match octF (ps.getD k []) with
    | none => none
    | some n => (octs (ps.drop (k + 1))).map (n :: ·) := by
  rw [List.drop_eq_getElem_cons hk, ← getDL_of hk]; rfl

theorem c_four_Strict (l : List UInt8) (hl : l.length < 1000000) : GCall 7 [.str (bs l)] (strictV (strictF l)) := by
  intro H hG
  refine scall_of (ord := fun _ => []) (rs := [2, 3]) Tryd.func7 rfl (by kernel_rfl) (by kernel_rfl) (by kernel_rfl) Tryd.ntmps7 fun hb hargs => go 200 (fun _ => false) mixed ?_
  simp (disch := omega) only [↓reduceIte, go_sem] <;> repeat with_reducible refine And.intro (by first | omega | decide) ?_
  refine (c_text_Split l 46 hl).on (go 200 (fun _ => false) mixed ?_)
  have hshort := splitA_short 46 l.length l [] [] (by simp) (by simp)
  unfold strictF
  generalize splitA 46 l [] [] = ps at *
  by_cases h4 : ps.length = 4
  · rw [if_pos h4]
    simp (disch := omega) only [↓reduceIte, go_sem, h4] <;> repeat with_reducible refine And.intro (by first | omega | decide) ?_
    obtain ⟨R, hR⟩ : ∃ R, R = octs ps := ⟨_, rfl⟩
    rw [← hR]
    refine runs_loopA (fun x : Nat × List Nat => x.1 ≤ 4 ∧ x.2.length = x.1 ∧ (∀ n ∈ x.2, n ≤ 255) ∧ (octs (ps.drop x.1)).map (x.2 ++ ·) = R) (fun x => 4 - x.1)
      [true, false, true, true, true, true, false, false, false, false, false, false, false, false, false, true, true, true]
      (fun x => slots 46 [.str (bs l), .any, .int .u32 0, .bool false, .sl 1 (strs ps), .ptr H.length 0 0, .any, .any, .any, .any, .any, .any, .any, .any, .any, .sl 1 (strs ps), .int .i64 4, .int .i64 x.1])
      (fun x => H ++ [some (.cells 0 (u8s x.2 ++ List.replicate (4 - x.1) (.int .u8 0)))]) (by rfl) (0, []) ⟨by omega, rfl, by simp, by simp [hR]⟩ rfl rfl ?_
    rintro ⟨k, ns⟩ ⟨hk, hn, hle, hgo⟩
    have hk : k ≤ 4 := hk
    have hn : ns.length = k := hn
    have hle : ∀ n ∈ ns, n ≤ 255 := hle
    have hgo : (octs (ps.drop k)).map (ns ++ ·) = R := hgo
    refine go 200 (fun _ => false) mixed ?_
    by_cases hlt : k < 4
    · have gk := strs_getD (l := ps) (k := k) (by omega)
      have hsk : (ps.getD k []).length < 1000000 := by rw [getDL_of (by omega)]; have := hshort _ (List.getElem_mem (show k < ps.length by omega)); omega
      rw [octs_step (by omega)] at hgo
      generalize ps.getD k [] = p at *
      simp (disch := omega) only [↓reduceIte, go_sem, hlt, gk, h4] <;> repeat with_reducible refine And.intro (by first | omega | decide) ?_
      refine (c_text_Number p 10 (by omega) (by omega) hsk).on (go 200 (fun _ => false) mixed ?_)
      unfold octF at hgo
      unfold numV
      cases hp : numF 10 p 0 with
      | none =>
        rw [hp] at hgo
        simp only [Option.map_none] at hgo
        simp (disch := omega) only [↓reduceIte, go_sem] <;> repeat with_reducible refine And.intro (by first | omega | decide) ?_
        rw [← hgo]
        exact fin_drop (.inr rfl) hb rfl (by simp [strictV])
      | some n =>
        rw [hp] at hgo
        simp only at hgo
        have hin := numF_in 10 (by omega) p 0 n (by omega) hp (by omega)
        by_cases hne : p = []
        · rw [if_neg (fun h => h.1 hne)] at hgo
          simp only [Option.map_none] at hgo
          subst hne
          simp (disch := omega) only [↓reduceIte, go_sem] <;> repeat with_reducible refine And.intro (by first | omega | decide) ?_
          rw [← hgo]
          exact fin_drop (.inr rfl) hb rfl (by simp [strictV])
        · have hpl : 0 < p.length := List.length_pos_iff.mpr hne
          by_cases h255 : 255 < n
          · rw [if_neg (fun h => by omega)] at hgo
            simp only [Option.map_none] at hgo
            simp (disch := omega) only [↓reduceIte, go_sem, hpl, h255] <;> repeat with_reducible refine And.intro (by first | omega | decide) ?_
            rw [← hgo]
            exact fin_drop (.inr rfl) hb rfl (by simp [strictV])
          · obtain ⟨m, rfl⟩ : ∃ m : Nat, n = m := ⟨n.toNat, by omega⟩
            have h255' : ¬ 255 < m := by omega
            simp (disch := omega) only [↓reduceIte, go_sem, hpl, h255'] <;> repeat with_reducible refine And.intro (by first | omega | decide) ?_
            refine (c_text_Decimal m (by omega)).on hG.app (go 200 (fun _ => false) mixed ?_)
            by_cases hd : decF m = p
            · rw [if_pos ⟨hne, by omega, by simpa using hd⟩] at hgo
              simp only [Int.toNat_natCast] at hgo
              have g1 : k < (u8s ns ++ List.replicate (4 - k) (PV.int .u8 0)).length := by rw [List.length_append, u8s_len, List.length_replicate]; omega
              simp (disch := omega) only [↓reduceIte, go_sem, hd, hn, List.length_append, List.length_replicate, Nat.zero_add, Nat.mul_one] <;> repeat with_reducible refine And.intro (by first | omega | decide) ?_
              refine rnd_next (k + 1, ns ++ [m]) ⟨by show k + 1 ≤ 4; omega, by simp [hn], ?_, ?_⟩ (by show 4 - (k + 1) < 4 - k; omega) rfl ?_
              · intro n hn'
                rcases List.mem_append.mp hn' with h | h
                · exact hle n h
                · simp only [List.mem_singleton] at h; omega
              · rw [← hgo, Option.map_map]
                congr 1
                funext x
                simp
              · show _ = H ++ [some (.cells 0 (u8s (ns ++ [m]) ++ List.replicate (4 - (k + 1)) (.int .u8 0)))]
                rw [fill_set (by rw [u8s_len]; exact hn) hlt, u8s_snoc]
            · rw [if_neg (fun h => hd (by simpa using h.2.2))] at hgo
              simp only [Option.map_none] at hgo
              simp (disch := omega) only [↓reduceIte, go_sem, hd] <;> repeat with_reducible refine And.intro (by first | omega | decide) ?_
              rw [← hgo]
              exact fin_drop (.inr rfl) hb rfl (by simp [strictV])
    · obtain rfl : k = 4 := by omega
      obtain ⟨a, b, c, d, rfl⟩ := len4 hn
      rw [List.drop_eq_nil_of_le (by omega)] at hgo
      simp only [octs, Option.map_some, List.append_nil] at hgo
      have ha := hle a (by simp)
      have hb' := hle b (by simp)
      have hc := hle c (by simp)
      have hd := hle d (by simp)
      simp (disch := omega) only [↓reduceIte, go_sem, u8s] <;> repeat with_reducible refine And.intro (by first | omega | decide) ?_
      refine go 200 (fun _ => false) mixed ?_
      simp (disch := omega) only [↓reduceIte, go_sem] <;> repeat with_reducible refine And.intro (by first | omega | decide) ?_
      refine (c_four_Of a b c d ha hb' hc hd).on (go 200 (fun _ => false) mixed ?_)
      simp (disch := omega) only [↓reduceIte, go_sem] <;> repeat with_reducible refine And.intro (by first | omega | decide) ?_
      rw [← hgo]
      exact fin_drop (.inr rfl) hb (by simp [retV, strictV, fold4, of4]) (by simp [strictV])
  · rw [if_neg h4]
    simp (disch := omega) only [↓reduceIte, go_sem, h4] <;> repeat with_reducible refine And.intro (by first | omega | decide) ?_
    exact fin_drop (.inr rfl) hb rfl (by simp [strictV])

theorem c_abatisref02_Strict (l : List UInt8) (hl : l.length < 1000000) : PCall Tryd.prog 8 [.str (bs l)] (strictV (strictF l)) := by
  intro H
  refine scall_of (ord := fun _ => []) (rs := [2, 3]) Tryd.func8 rfl (by kernel_rfl) (by kernel_rfl) (by kernel_rfl) Tryd.ntmps8 fun hb hargs => go 200 (fun _ => false) mixed ?_
  simp (disch := omega) only [↓reduceIte, go_sem] <;> repeat with_reducible refine And.intro (by first | omega | decide) ?_
  refine (c_abatisref01_Split l 46 hl).on (go 200 (fun _ => false) mixed ?_)
  have hshort := splitA_short 46 l.length l [] [] (by simp) (by simp)
  unfold strictF
  generalize splitA 46 l [] [] = ps at *
  by_cases h4 : ps.length = 4
  · rw [if_pos h4]
    simp (disch := omega) only [↓reduceIte, go_sem, h4] <;> repeat with_reducible refine And.intro (by first | omega | decide) ?_
    obtain ⟨R, hR⟩ : ∃ R, R = octs ps := ⟨_, rfl⟩
    rw [← hR]
    refine runs_loopA (fun x : Nat × List Nat => x.1 ≤ 4 ∧ x.2.length = x.1 ∧ fold4 x.2 * room x.1 < 4294967296 ∧ (octs (ps.drop x.1)).map (x.2 ++ ·) = R) (fun x => 4 - x.1)
      [true, false, true, true, true, true, true]
      (fun x => slots 54 [.str (bs l), .any, .int .u32 0, .bool false, .sl 1 (strs ps), .int .u32 (fold4 x.2 : Nat), .int .i64 x.1])
      (fun x => H) (by rfl) (0, []) ⟨by omega, rfl, by decide, by simp [hR]⟩ rfl rfl ?_
    rintro ⟨k, ns⟩ ⟨hk, hn, hle, hgo⟩
    dsimp only at hk hn hle hgo
    refine go 200 (fun _ => false) mixed ?_
    by_cases hlt : k < 4
    · have hkp : k < ps.length := by omega
      have gk := strs_getD (l := ps) (k := k) hkp
      have hsk : (ps.getD k []).length < 1000000 := by rw [getDL_of hkp]; have := hshort _ (List.getElem_mem hkp); omega
      rw [octs_step hkp] at hgo
      generalize ps.getD k [] = p at *
      simp (disch := omega) only [↓reduceIte, go_sem, hlt, gk, h4] <;> repeat with_reducible refine And.intro (by first | omega | decide) ?_
      refine (c_abatisref01_Number p 10 (by omega) (by omega) hsk).on (go 200 (fun _ => false) mixed ?_)
      unfold octF at hgo
      unfold numV
      cases hp : numF 10 p 0 with
      | none =>
        rw [hp] at hgo
        simp only [Option.map_none] at hgo
        simp (disch := omega) only [↓reduceIte, go_sem] <;> repeat with_reducible refine And.intro (by first | omega | decide) ?_
        exact fin (by rw [← hgo]; rfl) rfl
      | some n =>
        rw [hp] at hgo
        simp only at hgo
        have hin := numF_in 10 (by omega) p 0 n (by omega) hp (by omega)
        by_cases hne : p = []
        · rw [if_neg (fun h => h.1 hne)] at hgo
          simp only [Option.map_none] at hgo
          subst hne
          simp (disch := omega) only [↓reduceIte, go_sem] <;> repeat with_reducible refine And.intro (by first | omega | decide) ?_
          exact fin (by rw [← hgo]; rfl) rfl
        · have hpl : 0 < p.length := List.length_pos_iff.mpr hne
          have hiff := dec_iff p n hne hp
          by_cases h255 : 255 < n
          · rw [if_neg (fun h => by omega)] at hgo
            simp only [Option.map_none] at hgo
            simp (disch := omega) only [↓reduceIte, go_sem, hpl, h255] <;> repeat with_reducible refine And.intro (by first | omega | decide) ?_
            exact fin (by rw [← hgo]; rfl) rfl
          · obtain ⟨m, rfl⟩ : ∃ m : Nat, n = m := ⟨n.toNat, by omega⟩
            have h255' : ¬ 255 < m := by omega
            have u : (p.getD 0 0).toNat = 48 ↔ p.getD 0 0 = 48 := ⟨fun h => UInt8.toNat_inj.mp h, fun h => by rw [h]; rfl⟩
            have hr := room_next (n := m) hlt hle (by omega)
            have hrm := room_in (k + 1)
            have hacc : fold4 ns * 256 + m < 4294967296 := Nat.lt_of_le_of_lt (Nat.le_mul_of_pos_right _ (by omega)) hr
            have hf : fold4 (ns ++ [m]) = fold4 ns * 256 + m := by simp [fold4]
            by_cases h1 : 1 < p.length
            · by_cases h48 : p.getD 0 0 = 48
              · rw [if_neg (fun h => (hiff.mp h.2.2) ⟨h1, h48⟩)] at hgo
                simp only [Option.map_none] at hgo
                have h48' := u.mpr h48
                simp (disch := omega) only [↓reduceIte, go_sem, hpl, h255', h1, hkp, gk, h48'] <;> repeat with_reducible refine And.intro (by first | omega | decide) ?_
                exact fin (by rw [← hgo]; rfl) rfl
              · rw [if_pos ⟨hne, by omega, hiff.mpr (fun h => h48 h.2)⟩] at hgo
                simp only [Int.toNat_natCast] at hgo
                simp (disch := omega) only [↓reduceIte, go_sem, hpl, h255', h1, hkp, gk, u, h48] <;> repeat with_reducible refine And.intro (by first | omega | decide) ?_
                refine rnd_next (k + 1, ns ++ [m]) ⟨by show k + 1 ≤ 4; omega, by simp [hn], by rw [hf]; exact hr, ?_⟩ (by show 4 - (k + 1) < 4 - k; omega) ?_ rfl
                · rw [← hgo, Option.map_map]
                  congr 1
                  funext x
                  simp
                · simp only [hf]; rfl
            · rw [if_pos ⟨hne, by omega, hiff.mpr (fun h => h1 h.1)⟩] at hgo
              simp only [Int.toNat_natCast] at hgo
              simp (disch := omega) only [↓reduceIte, go_sem, hpl, h255', h1, hkp, gk] <;> repeat with_reducible refine And.intro (by first | omega | decide) ?_
              refine rnd_next (k + 1, ns ++ [m]) ⟨by show k + 1 ≤ 4; omega, by simp [hn], by rw [hf]; exact hr, ?_⟩ (by show 4 - (k + 1) < 4 - k; omega) ?_ rfl
              · rw [← hgo, Option.map_map]
                congr 1
                funext x
                simp
              · simp only [hf]; rfl
    · obtain rfl : k = 4 := by omega
      rw [List.drop_eq_nil_of_le (by omega)] at hgo
      simp only [octs, Option.map_some, List.append_nil] at hgo
      simp (disch := omega) only [↓reduceIte, go_sem] <;> repeat with_reducible refine And.intro (by first | omega | decide) ?_
      refine go 200 (fun _ => false) mixed ?_
      simp (disch := omega) only [↓reduceIte, go_sem] <;> repeat with_reducible refine And.intro (by first | omega | decide) ?_
      exact fin (by rw [← hgo]; rfl) rfl
  · rw [if_neg h4]
    simp (disch := omega) only [↓reduceIte, go_sem, h4] <;> repeat with_reducible refine And.intro (by first | omega | decide) ?_
    exact fin rfl rfl
end Go.Proofs.GoC
