/-
  Plain laws: what is printed of an address is read as it was. No claim by itself.
-/
import Derived.Test.YtepcccepheddjaaGreatDoorGoUrl8
import Derived.Test.YtepcccepheddjaaGreatDoorGoM5
namespace Go.Proofs.GoC
open Go Go.Proofs.SL
set_option linter.unusedSimpArgs false
set_option linter.unusedVariables false
set_option maxRecDepth 10000
set_option maxHeartbeats 4000000

/-! Signs. -/
def plB (b : UInt8) : Prop := 32 < b.toNat ∧ b.toNat ≤ 126 ∧ b.toNat ≠ 35 ∧ b.toNat ≠ 47 ∧ b.toNat ≠ 63
def sxB (b : UInt8) : Prop := b.toNat = 46 ∨ (48 ≤ b.toNat ∧ b.toNat ≤ 58) ∨ (97 ≤ b.toNat ∧ b.toNat ≤ 102)
theorem sx_pl {b : UInt8} (h : sxB b) : plB b := by unfold sxB at h; unfold plB; omega
theorem dec_dig (n : Nat) : ∀ c ∈ decF n, 48 ≤ c.toNat ∧ c.toNat ≤ 57 := by
  induction n using Nat.strongRecOn with
  | _ n ih =>
    have hx : ∀ c : UInt8, c = UInt8.ofNat (48 + n % 10) → 48 ≤ c.toNat ∧ c.toNat ≤ 57 := fun c hc => by
      rw [hc, show (UInt8.ofNat (48 + n % 10)).toNat = (48 + n % 10) % 256 from rfl]; omega
    rw [decF.eq_1]
    split
    · intro c hc
      exact hx c (by simpa using hc)
    · intro c hc
      rcases List.mem_append.mp hc with h | h
      · exact ih (n / 10) (by omega) c h
      · exact hx c (by simpa using h)
theorem printF_ch (n : Nat) : ∀ c ∈ printF n, c.toNat = 46 ∨ (48 ≤ c.toNat ∧ c.toNat ≤ 57) := fun c hc => by
  simp only [printF, dot4, List.mem_append, List.mem_singleton] at hc
  rcases hc with (((((h | h) | h) | h) | h) | h) | h
  · exact .inr (dec_dig _ c h)
  · subst h; exact .inl rfl
  · exact .inr (dec_dig _ c h)
  · subst h; exact .inl rfl
  · exact .inr (dec_dig _ c h)
  · subst h; exact .inl rfl
  · exact .inr (dec_dig _ c h)
theorem hexd_ch : ∀ k : Fin 16, (48 ≤ (hexd k.val).toNat ∧ (hexd k.val).toNat ≤ 57) ∨ (97 ≤ (hexd k.val).toNat ∧ (hexd k.val).toNat ≤ 102) := by decide +kernel
theorem hexF_ch (n : Nat) : ∀ c ∈ hexF n, sxB c := by
  induction n using Nat.strongRecOn with
  | _ n ih =>
    have hx : ∀ k : Nat, k < 16 → sxB (hexd k) := fun k hk => by
      have := hexd_ch ⟨k, hk⟩
      unfold sxB; simp only at this; omega
    rw [hexF.eq_1]
    split
    · rename_i h
      intro c hc
      obtain rfl : c = hexd n := by simpa using hc
      exact hx n h
    · intro c hc
      rcases List.mem_append.mp hc with h | h
      · exact ih (n / 16) (by omega) c h
      · obtain rfl : c = hexd (n % 16) := by simpa using h
        exact hx _ (by omega)
theorem joinL_mem (ps : List (List UInt8)) (c : UInt8) (h : c ∈ joinL [58] ps) : c = 58 ∨ ∃ p ∈ ps, c ∈ p := by
  induction ps with
  | nil => simp [joinL, List.intercalate] at h
  | cons p ps ih =>
    cases ps with
    | nil => right; exact ⟨p, by simp, by simpa [joinL, List.intercalate, List.intersperse] using h⟩
    | cons q ps =>
      have e : joinL [58] (p :: q :: ps) = p ++ ([58] ++ joinL [58] (q :: ps)) := by simp [joinL, List.intercalate, List.intersperse]
      rw [e] at h
      rcases List.mem_append.mp h with h | h
      · exact .inr ⟨p, by simp, h⟩
      · rcases List.mem_append.mp h with h | h
        · exact .inl (by simpa using h)
        · rcases ih h with h | ⟨p', h1, h2⟩
          · exact .inl h
          · exact .inr ⟨p', List.mem_cons_of_mem _ h1, h2⟩
theorem rowF_ch (gs : List Nat) : ∀ c ∈ rowF gs, sxB c := fun c hc => by
  rcases joinL_mem _ c hc with rfl | ⟨p, h1, h2⟩
  · exact .inr (.inl (by decide))
  · obtain ⟨g, _, rfl⟩ := List.mem_map.mp h1
    exact hexF_ch g c h2
theorem print6_ch (gs : List Nat) : ∀ c ∈ print6 gs, sxB c := fun c hc => by
  unfold print6 at hc
  split at hc
  · rcases List.mem_append.mp hc with h | h
    · simp only [List.mem_cons, List.not_mem_nil, or_false] at h
      rcases h with rfl | rfl | rfl | rfl | rfl | rfl | rfl <;> (unfold sxB; decide)
    · have := printF_ch _ c h
      unfold sxB; omega
  · split at hc
    · exact rowF_ch _ c hc
    · rcases List.mem_append.mp hc with h | h
      · rcases List.mem_append.mp h with h | h
        · exact rowF_ch _ c h
        · simp only [List.mem_cons, List.not_mem_nil, or_false] at h
          rcases h with rfl | rfl <;> (unfold sxB; decide)
      · exact rowF_ch _ c h

/-! Ends. -/
theorem suffix_app {d : List UInt8} (hd : d ≠ []) (a : List UInt8) (c : UInt8) : Lib.hasSuffix (a ++ d) [c] = Lib.hasSuffix d [c] := by
  rcases List.eq_nil_or_concat d with rfl | ⟨q, z, rfl⟩
  · exact absurd rfl hd
  · rw [List.concat_eq_append, ← List.append_assoc, suffix_one, suffix_one]
theorem suffix_mem {d : List UInt8} {c : UInt8} (h : Lib.hasSuffix d [c] = true) : c ∈ d := by
  rcases List.eq_nil_or_concat d with rfl | ⟨q, z, rfl⟩
  · exact nomatch h
  · rw [List.concat_eq_append, suffix_one, decide_eq_true_iff] at h
    subst h; simp
theorem suffix_no {d : List UInt8} {c : UInt8} (h : c ∉ d) : Lib.hasSuffix d [c] = false := by
  cases hs : Lib.hasSuffix d [c] with
  | false => rfl
  | true => exact absurd (suffix_mem hs) h

/-! Hosts. -/
structure GoodH (h : List UInt8) : Prop where
  id : hostF h = some h
  pl : ∀ b ∈ h, plB b
  kind : ((58 : UInt8) ∉ h ∧ Lib.hasSuffix h [93] = false) ∨ Lib.hasSuffix h [93] = true
theorem low_same {l : List UInt8} (h : ∀ b ∈ l, ¬ (65 ≤ b.toNat ∧ b.toNat ≤ 90)) : lowF l = l := by
  unfold lowF
  conv => rhs; rw [← List.map_id l]
  exact List.map_congr_left fun b hb => if_neg (h b hb)
theorem even_host {l : List UInt8} (h : ∀ b ∈ l, okI b.toNat = true) : brF l = none ∧ ¬ (l.take 1 = [91] ∨ oddF (lowF l) = true) ∧ lowF l = l := by
  have hlow : lowF l = l := low_same fun b hb => by have := okI_true (h b hb); omega
  have h91 : ¬ l.take 1 = [91] := fun h1 => by
    have hm : (91 : UInt8) ∈ l := List.mem_of_mem_take (i := 1) (by rw [h1]; simp)
    have := h 91 hm
    revert this; decide
  refine ⟨by unfold brF; rw [if_neg (fun h => h91 h.1)], ?_, hlow⟩
  rintro (h1 | h1)
  · exact h91 h1
  · rw [hlow] at h1
    unfold oddF at h1
    obtain ⟨b, hb, hb2⟩ := List.any_eq_true.mp h1
    rw [h b hb] at hb2
    exact nomatch hb2
theorem ok_pl {b : UInt8} (h : okI b.toNat = true) : plB b ∧ b ≠ 58 ∧ b ≠ 93 := by
  have h1 := okI_true h
  refine ⟨by unfold plB; omega, ?_, ?_⟩
  · rintro rfl; revert h; decide
  · rintro rfl; revert h; decide
theorem even_good {l : List UInt8} (h : ∀ b ∈ l, okI b.toNat = true) (hn : hostN l = some l) : GoodH l := by
  obtain ⟨e1, e2, e3⟩ := even_host h
  refine ⟨by unfold hostF; rw [e1]; simp only; rw [if_neg e2, e3]; exact hn, fun b hb => (ok_pl (h b hb)).1, .inl ⟨fun hm => (ok_pl (h 58 hm)).2.1 rfl, suffix_no fun hm => (ok_pl (h 93 hm)).2.2 rfl⟩⟩
theorem looseK_print {n : Nat} (h : n ≤ 4294967295) : looseK (printF n) = some (some n) := by
  obtain ⟨h3, h2, h1, h0⟩ := by_in n h
  have hp : piecesF (printF n) = [decF (by3 n), decF (by2 n), decF (by1 n), decF (by0 n)] := pieces4 _ _ _ _
  have hlo := loose4 _ _ _ _ h3 h2 h1 h0
  rw [by_of n h, ← hp, looseV_K] at hlo
  cases hk : looseK (printF n) with
  | none => rw [hk] at hlo; simp [looseKV] at hlo
  | some o =>
    cases o with
    | none => rw [hk] at hlo; simp [looseKV] at hlo
    | some m =>
      rw [hk] at hlo
      simp [looseKV] at hlo
      rw [show m = n by omega]
theorem brF_br (gs : List Nat) (h8 : gs.length = 8) (hle : ∀ g ∈ gs, g ≤ 65535) : brF (91 :: (print6 gs ++ [93])) = some gs := by
  unfold brF
  have e1 : List.take 1 (91 :: (print6 gs ++ [93])) = [91] := rfl
  have e2 : List.drop 1 (91 :: (print6 gs ++ [93])) = print6 gs ++ [93] := rfl
  rw [e1, e2, suffix_one, if_pos ⟨rfl, by decide⟩]
  have e3 : List.take ((print6 gs ++ [93]).length - 1) (print6 gs ++ [93]) = print6 gs := by simp
  rw [e3]
  exact parse_print gs h8 hle
theorem hostF_good {x h : List UInt8} (hh : hostF x = some h) : GoodH h := by
  unfold hostF at hh
  split at hh
  · rename_i gs hg
    cases hh
    have hgs : gs.length = 8 ∧ ∀ g ∈ gs, g ≤ 65535 := by
      unfold brF at hg
      split at hg
      · exact ⟨parse2_len hg, parseF_le hg⟩
      · cases hg
    refine ⟨by unfold hostF; rw [brF_br gs hgs.1 hgs.2], ?_, .inr ?_⟩
    · intro b hb
      simp only [List.mem_cons, List.mem_append, List.not_mem_nil, or_false] at hb
      rcases hb with rfl | hb | rfl
      · unfold plB; decide
      · exact sx_pl (print6_ch gs b hb)
      · unfold plB; decide
    · have : (91 :: (print6 gs ++ [93]) : List UInt8) = (91 :: print6 gs) ++ [93] := rfl
      rw [this, suffix_one]; decide
  · split at hh
    · cases hh
    · rename_i hno
      unfold hostN at hh
      split at hh
      · rename_i n hn
        cases hh
        have hle := looseK_le hn
        refine even_good (fun b hb => ?_) ?_
        · have := printF_ch _ b hb
          unfold okI; simp; omega
        · unfold hostN; rw [looseK_print hle]
      · cases hh
      · rename_i hk
        split at hh
        · rename_i hm
          cases hh
          refine even_good (fun b hb => ?_) ?_
          · cases hc : okI b.toNat with
            | true => rfl
            | false =>
              refine absurd (.inr ?_) hno
              exact List.any_eq_true.mpr ⟨b, hb, by rw [hc]; rfl⟩
          · unfold hostN; rw [hk]; exact if_pos hm
        · cases hh

/-! Ports. -/
def ppF (own : List UInt8) (port : Nat) : List UInt8 := if (port : Int) = portI own then [] else 58 :: decF port
theorem portF_host {h : List UInt8} (hk : ((58 : UInt8) ∉ h ∧ Lib.hasSuffix h [93] = false) ∨ Lib.hasSuffix h [93] = true) {port : Nat} (hp : port ≤ 65535) (own : List UInt8) : portF (h ++ ppF own port) (portI own) = (h, (port : Int), true) := by
  unfold ppF
  by_cases he : (port : Int) = portI own
  · rw [if_pos he, List.append_nil]
    unfold portF
    rw [if_pos, he]
    rcases hk with ⟨h1, h2⟩ | h1
    · left
      have : lastI 58 h = -1 := isLast_unique (lastI_cases 58 h) (.inl ⟨h1, rfl⟩)
      omega
    · exact .inr h1
  · rw [if_neg he]
    have hI : lastI 58 (h ++ 58 :: decF port) = (h.length : Nat) := isLast_unique (lastI_cases 58 _) (.inr ⟨_, _, rfl, dec_no58 port, rfl⟩)
    have hs : Lib.hasSuffix (h ++ 58 :: decF port) [93] = false := by
      have : h ++ 58 :: decF port = (h ++ [58]) ++ decF port := by simp
      rw [this, suffix_app (decF_ne port)]
      exact suffix_no fun hm => by have := dec_dig port 93 hm; revert this; decide
    unfold portF
    rw [hI, hs, if_neg (by rintro (h | h); omega; exact nomatch h)]
    have td : List.drop (((h.length : Nat) : Int).toNat + 1) (h ++ 58 :: decF port) = decF port := by simp
    have ta : List.take ((h.length : Nat) : Int).toNat (h ++ 58 :: decF port) = h := by simp
    have hdl := decF_len port 4 (by omega)
    rw [td, ta, if_neg (decF_ne port), num_dec port (by omega)]
    simp only
    rw [decide_eq_true (by omega), decide_eq_true (by omega)]
    rfl

/-! The whole. -/
theorem tw_stop {c a t : List UInt8} (ha : ∀ b ∈ a, c.contains b = false) (ht : t = [] ∨ ∃ x r, t = x :: r ∧ c.contains x = true) : tw c (a ++ t) = a ∧ dw c (a ++ t) = t := by
  induction a with
  | nil =>
    rcases ht with rfl | ⟨x, r, rfl, hx⟩
    · exact ⟨rfl, rfl⟩
    · rw [List.nil_append, tw_cons, dw_cons, if_pos hx, if_pos hx]; exact ⟨rfl, rfl⟩
  | cons b a ih =>
    obtain ⟨i1, i2⟩ := ih fun b hb => ha b (List.mem_cons_of_mem _ hb)
    have hb := ha b (by simp)
    rw [List.cons_append, tw_cons, dw_cons, if_neg (by rw [hb]; decide), if_neg (by rw [hb]; decide), i1, i2]
    exact ⟨rfl, rfl⟩
theorem cut_at {a b : List UInt8} (ha : (58 : UInt8) ∉ a) : Lib.cut (a ++ (sep3 ++ b)) sep3 = (a, b, true) := by
  rcases cut_cases (a ++ (sep3 ++ b)) with ⟨_, hno⟩ | ⟨a', b', hs, hc, hmin⟩
  · exact absurd rfl (hno a b)
  · have h1 := hmin a b rfl
    have h2 := first58 hs ha
    obtain ⟨e1, e2⟩ := app_inj hs (by omega)
    rw [hc, ← e1, ← List.append_cancel_left e2]
theorem low_plain {b : UInt8} (h : plainI (lowB b).toNat = true) : plainI b.toNat = true := by
  unfold lowB at h
  split at h
  · rename_i hb
    unfold plainI; simp; omega
  · exact h
theorem pl_plain {b : UInt8} (h : plB b) : plainI b.toNat = true := by unfold plB at h; unfold plainI; simp; omega
theorem pl_no {b : UInt8} (h : plB b) : ([35] : List UInt8).contains b = false ∧ ([47, 63] : List UInt8).contains b = false := by
  unfold plB at h
  have h1 : b ≠ 35 := by rintro rfl; revert h; decide
  have h2 : b ≠ 47 := by rintro rfl; revert h; decide
  have h3 : b ≠ 63 := by rintro rfl; revert h; decide
  constructor
  · rw [← Bool.not_eq_true, List.contains_iff_mem]; simp [h1]
  · rw [← Bool.not_eq_true, List.contains_iff_mem]; simp [h2, h3]
theorem pp_pl (own : List UInt8) (port : Nat) : ∀ b ∈ ppF own port, plB b := fun b hb => by
  unfold ppF at hb
  split at hb
  · simp at hb
  · simp only [List.mem_cons] at hb
    rcases hb with rfl | hb
    · unfold plB; decide
    · have := dec_dig port b hb
      unfold plB; omega
theorem pp_len (own : List UInt8) {port : Nat} (hp : port ≤ 65535) : (ppF own port).length ≤ 6 := by
  have hdl := decF_len port 4 (by omega)
  unfold ppF
  split
  · simp
  · simp only [List.length_cons]; omega

theorem parse_gen {sch host own h t : List UInt8} {port : Nat} (hown : lowF sch = own) (ho : own = httpT ∨ own = httpsT) (hh : hostF host = some h) (hpl : ∀ b ∈ host, plB b)
    (hk : ((58 : UInt8) ∉ host ∧ Lib.hasSuffix host [93] = false) ∨ Lib.hasSuffix host [93] = true) (hp : port ≤ 65535) (ht : t = [] ∨ ∃ x r, t = x :: r ∧ ([47, 63] : List UInt8).contains x = true)
    (htp : ∀ b ∈ t, plainI b.toNat = true) (ht35 : (35 : UInt8) ∉ t) (hl : host.length + t.length ≤ 1900) :
    parseU (sch ++ (sep3 ++ (host ++ (ppF own port ++ t)))) = .ok ⟨own, h, port, if tw [63] t = [] then [47] else tw [63] t, dw [63] t⟩ := by
  have hpos : 0 < portI (lowF sch) := by rw [hown]; exact portI_pos.mpr ho
  obtain ⟨hsl, h58⟩ := port_len hpos
  have hppl := pp_len own hp
  have hlen : (sch ++ (sep3 ++ (host ++ (ppF own port ++ t)))).length ≤ 2000 := by
    simp only [List.length_append, sep3, List.length_cons, List.length_nil]; omega
  have hplain : plainF (sch ++ (sep3 ++ (host ++ (ppF own port ++ t)))) = true := by
    refine List.all_eq_true.mpr fun b hb => ?_
    simp only [List.mem_append] at hb
    rcases hb with hb | hb | hb | hb | hb
    · refine low_plain ?_
      have hm : lowB b ∈ own := by rw [← hown]; exact List.mem_map.mpr ⟨b, hb, rfl⟩
      rcases ho with rfl | rfl
      · revert hm; generalize lowB b = c; intro hm
        simp only [httpT, List.mem_cons, List.not_mem_nil, or_false] at hm
        rcases hm with rfl | rfl | rfl | rfl <;> decide
      · revert hm; generalize lowB b = c; intro hm
        simp only [httpsT, List.mem_cons, List.not_mem_nil, or_false] at hm
        rcases hm with rfl | rfl | rfl | rfl | rfl <;> decide
    · simp only [sep3, List.mem_cons, List.not_mem_nil, or_false] at hb
      rcases hb with rfl | rfl | rfl <;> decide
    · exact pl_plain (hpl b hb)
    · exact pl_plain (pp_pl own port b hb)
    · exact htp b hb
  unfold parseU
  rw [if_neg (by omega), cut_at h58, if_neg (by rintro (h | h | h); exact nomatch h; simp only at h; omega; rw [hplain] at h; exact nomatch h)]
  simp only
  rw [hown]
  unfold parseR
  have hA : ∀ b ∈ host ++ ppF own port, plB b := fun b hb => by
    rcases List.mem_append.mp hb with hb | hb
    · exact hpl b hb
    · exact pp_pl own port b hb
  have e35 : tw [35] (host ++ (ppF own port ++ t)) = host ++ (ppF own port ++ t) := by
    have h1 := tw_stop (c := [35]) (a := host ++ (ppF own port ++ t)) (t := []) (fun b hb => by
      rw [← List.append_assoc] at hb
      rcases List.mem_append.mp hb with hb | hb
      · exact (pl_no (hA b hb)).1
      · rw [← Bool.not_eq_true, List.contains_iff_mem]
        intro hm
        have : b = 35 := by simpa using hm
        exact ht35 (this ▸ hb)) (.inl rfl)
    rw [List.append_nil] at h1
    exact h1.1
  obtain ⟨e1, e2⟩ := tw_stop (c := [47, 63]) (a := host ++ ppF own port) (t := t) (fun b hb => (pl_no (hA b hb)).2) ht
  rw [List.append_assoc] at e1 e2
  rw [e35, e1, e2, portF_host hk hp own]
  simp only [hh]
  rfl

structure GoodU (u : Ur) : Prop where
  sch : u.sch = httpT ∨ u.sch = httpsT
  host : GoodH u.host
  port : u.port ≤ 65535
  path : ∃ r, u.path = 47 :: r
  pno : (63 : UInt8) ∉ u.path
  query : u.query = [] ∨ ∃ r, u.query = 63 :: r
  plain : ∀ b ∈ u.path ++ u.query, plainI b.toNat = true
  no35 : (35 : UInt8) ∉ u.path ++ u.query
theorem low_sch {t : List UInt8} (h : t = httpT ∨ t = httpsT) : lowF t = t := by rcases h with rfl | rfl <;> kernel_rfl
theorem textU_eq (u : Ur) (t : List UInt8) : textU u ++ t = u.sch ++ (sep3 ++ (u.host ++ (ppF u.sch u.port ++ t))) := by
  unfold textU ppF; simp only [List.append_assoc]
theorem parse_text {u : Ur} (hu : GoodU u) {t : List UInt8} (ht : t = [] ∨ ∃ x r, t = x :: r ∧ ([47, 63] : List UInt8).contains x = true)
    (htp : ∀ b ∈ t, plainI b.toNat = true) (ht35 : (35 : UInt8) ∉ t) (hl : u.host.length + t.length ≤ 1900) :
    parseU (textU u ++ t) = .ok ⟨u.sch, u.host, u.port, if tw [63] t = [] then [47] else tw [63] t, dw [63] t⟩ := by
  rw [textU_eq]
  exact parse_gen (low_sch hu.sch) hu.sch hu.host.id hu.host.pl hu.host.kind hu.port ht htp ht35 hl
theorem pq_split {u : Ur} (hu : GoodU u) : tw [63] (u.path ++ u.query) = u.path ∧ dw [63] (u.path ++ u.query) = u.query := by
  refine tw_stop (fun b hb => ?_) ?_
  · rw [← Bool.not_eq_true, List.contains_iff_mem]
    intro hm
    have : b = 63 := by simpa using hm
    exact hu.pno (this ▸ hb)
  · rcases hu.query with h | ⟨r, h⟩
    · exact .inl h
    · exact .inr ⟨63, r, h, by decide⟩
theorem pq_head {u : Ur} (hu : GoodU u) (l : List UInt8) : ∃ x r, u.path ++ l = x :: r ∧ ([47, 63] : List UInt8).contains x = true := by
  obtain ⟨r, h⟩ := hu.path
  exact ⟨47, r ++ l, by rw [h]; rfl, by decide⟩
theorem path_ne {u : Ur} (hu : GoodU u) : u.path ≠ [] := by obtain ⟨r, h⟩ := hu.path; rw [h]; simp
theorem parse_printU {u : Ur} (hu : GoodU u) (hl : u.host.length + u.path.length + u.query.length ≤ 1900) : parseU (printU u) = .ok u := by
  have h := parse_text hu (t := u.path ++ u.query) (.inr (pq_head hu _)) hu.plain hu.no35 (by rw [List.length_append]; omega)
  obtain ⟨e1, e2⟩ := pq_split hu
  rw [e1, e2, if_neg (path_ne hu)] at h
  exact h

theorem tw_no {c l : List UInt8} {b : UInt8} (h : b ∈ tw c l) : c.contains b = false := by
  induction l with
  | nil => exact absurd h (by simp [tw])
  | cons a l ih =>
    rw [tw_cons] at h
    by_cases hc : c.contains a = true
    · rw [if_pos hc] at h; exact absurd h (by simp)
    · rw [if_neg hc] at h
      rcases List.mem_cons.mp h with rfl | h
      · exact Bool.eq_false_iff.mpr hc
      · exact ih h
theorem dw_head (c : List UInt8) : ∀ l : List UInt8, dw c l = [] ∨ ∃ x r, dw c l = x :: r ∧ c.contains x = true
  | [] => .inl rfl
  | b :: l => by
    rw [dw_cons]
    by_cases h : c.contains b = true
    · rw [if_pos h]; exact .inr ⟨b, l, rfl, h⟩
    · rw [if_neg h]; exact dw_head c l
theorem parseU_good {s : List UInt8} {u : Ur} (h : parseU s = .ok u) : GoodU u := by
  obtain ⟨hs, _, hpo⟩ := parseU_len h
  unfold parseU at h
  split at h
  · cases h
  split at h
  · cases h
  rename_i h1 h2
  have hplain : plainF s = true := by
    cases hp : plainF s with
    | true => rfl
    | false => exact absurd (.inr (.inr hp)) h2
  have hmem := (cut_sub s sep3).1
  generalize (Lib.cut s sep3).2.1 = rest at *
  unfold parseR at h
  have hall : ∀ b ∈ dw [47, 63] (tw [35] rest), plainI b.toNat = true ∧ b ≠ 35 := fun b hb => by
    have hb2 := dw_mem hb
    refine ⟨List.all_eq_true.mp hplain b (hmem b (tw_mem hb2)), fun e => ?_⟩
    have := tw_no hb2
    rw [e] at this
    exact nomatch this
  have hhead := dw_head [47, 63] (tw [35] rest)
  generalize portF (tw [47, 63] (tw [35] rest)) (portI (lowF (Lib.cut s sep3).1)) = pf at *
  generalize dw [47, 63] (tw [35] rest) = tl at *
  split at h
  · rename_i hst hok hh
    cases h
    have hpath : ∃ r, (if tw [63] tl = [] then [47] else tw [63] tl) = 47 :: r := by
      by_cases hp : tw [63] tl = []
      · rw [if_pos hp]; exact ⟨[], rfl⟩
      · rw [if_neg hp]
        rcases hhead with rfl | ⟨x, r, rfl, hx⟩
        · exact absurd rfl hp
        · rw [tw_cons] at hp ⊢
          by_cases h63 : ([63] : List UInt8).contains x = true
          · rw [if_pos h63] at hp; exact absurd rfl hp
          · rw [if_neg h63]
            have hxm : x = 47 ∨ x = 63 := by simpa [List.contains_iff_mem] using hx
            rcases hxm with rfl | rfl
            · exact ⟨_, rfl⟩
            · exact absurd (by decide) h63
    have hpm : ∀ b ∈ (if tw [63] tl = [] then [47] else tw [63] tl), plainI b.toNat = true ∧ b ≠ 35 ∧ b ≠ 63 := fun b hb => by
      split at hb
      · obtain rfl : b = 47 := by simpa using hb
        decide
      · obtain ⟨a1, a2⟩ := hall b (tw_mem hb)
        refine ⟨a1, a2, fun e => ?_⟩
        have := tw_no hb
        rw [e] at this
        exact nomatch this
    refine ⟨hs, hostF_good hh, hpo, hpath, fun hm => (hpm 63 hm).2.2 rfl, ?_, fun b hb => ?_, fun hm => ?_⟩
    · rcases dw_head [63] tl with h | ⟨x, r, h, hx⟩
      · exact .inl h
      · have : x = 63 := by simpa [List.contains_iff_mem] using hx
        exact .inr ⟨r, show dw [63] tl = 63 :: r by rw [h, this]⟩
    · rcases List.mem_append.mp hb with hb | hb
      · exact (hpm b hb).1
      · exact (hall b (dw_mem hb)).1
    · rcases List.mem_append.mp hm with hb | hb
      · exact (hpm 35 hb).2.1 rfl
      · exact (hall 35 (dw_mem hb)).2 rfl
  · cases h
theorem hostF_x : hostF xtest = some xtest := by kernel_rfl
theorem goodU_good (s : List UInt8) : GoodU (goodU s) := by
  unfold goodU
  cases h : parseU s with
  | ok u => exact parseU_good h
  | error e =>
    have hlet : ∀ b ∈ letF (s.take 9), 97 ≤ b.toNat ∧ b.toNat ≤ 122 := fun b hb => by simpa using (List.mem_filter.mp hb).2
    have hall : ∀ b ∈ (47 :: letF (s.take 9)), plainI b.toNat = true ∧ b ≠ 35 ∧ b ≠ 63 := fun b hb => by
      rcases List.mem_cons.mp hb with rfl | hb
      · decide
      · have := hlet b hb
        refine ⟨by unfold plainI; simp; omega, ?_, ?_⟩ <;> (rintro rfl; revert this; decide)
    refine ⟨.inl rfl, hostF_good hostF_x, by show 80 + s.length % 3 ≤ 65535; omega, ⟨_, rfl⟩, fun hm => (hall 63 hm).2.2 rfl, .inl rfl, fun b hb => ?_, fun hm => ?_⟩
    · rw [show (⟨httpT, xtest, 80 + s.length % 3, 47 :: letF (s.take 9), []⟩ : Ur).path ++ (⟨httpT, xtest, 80 + s.length % 3, 47 :: letF (s.take 9), []⟩ : Ur).query = 47 :: letF (s.take 9) by simp] at hb
      exact (hall b hb).1
    · rw [show (⟨httpT, xtest, 80 + s.length % 3, 47 :: letF (s.take 9), []⟩ : Ur).path ++ (⟨httpT, xtest, 80 + s.length % 3, 47 :: letF (s.take 9), []⟩ : Ur).query = 47 :: letF (s.take 9) by simp] at hm
      exact (hall 35 hm).2.1 rfl
end Go.Proofs.GoC
