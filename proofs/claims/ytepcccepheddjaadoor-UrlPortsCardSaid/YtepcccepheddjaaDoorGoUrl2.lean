/-
  What the functions compute: ports and hosts of addresses of the web. No claim by itself.
-/
import Derived.Test.YtepcccepheddjaaDoorGoUrl1
import Derived.Test.YtepcccepheddjaaDoorGoParseLe
namespace Go.Proofs.GoC
open Go Go.Proofs.SL
set_option linter.unusedSimpArgs false
set_option linter.unusedVariables false
set_option maxRecDepth 10000
set_option maxHeartbeats 4000000

def portF (s : List UInt8) (own : Int) : List UInt8 × Int × Bool :=
  if lastI 58 s < 0 ∨ Lib.hasSuffix s [93] = true then (s, own, true)
  else if s.drop ((lastI 58 s).toNat + 1) = [] then (s.take (lastI 58 s).toNat, own, true)
  else match numF 10 (s.drop ((lastI 58 s).toNat + 1)) 0 with
    | some n => (s.take (lastI 58 s).toNat, n, decide ((s.drop ((lastI 58 s).toNat + 1)).length ≤ 5) && decide (n ≤ 65535))
    | none => (s.take (lastI 58 s).toNat, 0, false)
def portV (p : List UInt8 × Int × Bool) : PV := .tup [.str (bs p.1), .int .i64 p.2.1, .bool p.2.2]

def ordPort : Nat → List Nat
  | 6 => [0, 1, 2, 3, 4, 5, 6, 7]
  | _ => []
theorem ordPort6 : ordPort 6 = [0, 1, 2, 3, 4, 5, 6, 7] := rfl

theorem c_url_port (s own : List UInt8) (hl : s.length < 1000000) : PCall Tryd.prog 14 [.str (bs s), .str (bs own)] (portV (portF s (portI own))) := by
  intro H
  have hP := c_url_Port own
  generalize portI own = O at *
  refine scall_of (ord := ordPort) (rs := [4, 5, 6]) Tryd.func14 rfl (by kernel_rfl) (by kernel_rfl) (by kernel_rfl) Tryd.ntmps14 fun hb hargs => go 200 (fun _ => false) mixed ?_
  simp (disch := omega) only [↓reduceIte, go_sem] <;> repeat with_reducible refine And.intro (by first | omega | decide) ?_
  refine (c_strings_LastIndexByte s 58 (by omega)).on (go 200 (fun _ => false) mixed ?_)
  unfold portF
  rcases lastI_cases 58 s with ⟨_, e⟩ | ⟨a, d, rfl, hd, e⟩
  · rw [e, if_pos (.inl (by decide))]
    simp (disch := omega) only [↓reduceIte, go_sem] <;> repeat with_reducible refine And.intro (by first | omega | decide) ?_
    refine hP.on (go 200 (fun _ => false) mixed ?_)
    simp (disch := omega) only [↓reduceIte, go_sem] <;> repeat with_reducible refine And.intro (by first | omega | decide) ?_
    exact fin rfl rfl
  · rw [e]
    have hsf := c_strings_HasSuffix (a ++ 58 :: d) [93] hl
    have ta : List.take ((a.length : Nat) : Int).toNat (a ++ 58 :: d) = a := by simp
    have td : List.drop (((a.length : Nat) : Int).toNat + 1) (a ++ 58 :: d) = d := by simp
    have ta' : List.take a.length (a ++ 58 :: d) = a := by simp
    have td' : List.drop (a.length + 1) (a ++ 58 :: d) = d := by simp
    have td2 : List.drop (a.length + 1) (List.take (a.length + (d.length + 1)) (a ++ 58 :: d)) = d := by rw [List.take_of_length_le (by simp), td']
    rw [ta, td]
    rw [List.length_append, List.length_cons] at hl
    simp (disch := omega) only [↓reduceIte, go_sem] <;> repeat with_reducible refine And.intro (by first | omega | decide) ?_
    refine hsf.on (go 200 (fun _ => false) mixed ?_)
    cases hs : Lib.hasSuffix (a ++ 58 :: d) [93] with
    | true =>
      rw [if_pos (.inr rfl)]
      simp (disch := omega) only [↓reduceIte, go_sem] <;> repeat with_reducible refine And.intro (by first | omega | decide) ?_
      refine hP.on (go 200 (fun _ => false) mixed ?_)
      simp (disch := omega) only [↓reduceIte, go_sem] <;> repeat with_reducible refine And.intro (by first | omega | decide) ?_
      exact fin rfl rfl
    | false =>
      rw [if_neg (by rintro (h | h); omega; exact nomatch h)]
      simp (disch := omega) only [↓reduceIte, go_sem, ordPort6, List.length_append, List.length_cons, td2, ta'] <;> repeat with_reducible refine And.intro (by first | omega | decide) ?_
      by_cases hd0 : d = []
      · rw [if_pos hd0]
        simp (disch := omega) only [↓reduceIte, go_sem, hd0, ordPort6, ta', List.length_append, List.length_cons] <;> repeat with_reducible refine And.intro (by first | omega | decide) ?_
        refine hP.on (go 200 (fun _ => false) mixed ?_)
        simp (disch := omega) only [↓reduceIte, go_sem] <;> repeat with_reducible refine And.intro (by first | omega | decide) ?_
        exact fin rfl rfl
      · rw [if_neg hd0]
        simp (disch := omega) only [↓reduceIte, go_sem, hd0] <;> repeat with_reducible refine And.intro (by first | omega | decide) ?_
        refine (c_text_Number d 10 (by omega) (by omega) (by omega)).on (go 200 (fun _ => false) mixed ?_)
        have hdl : decide (0 < d.length) = true := by simp [List.length_pos_iff.mpr hd0]
        unfold numV
        cases hN : numF 10 d 0 with
        | none =>
          simp (disch := omega) only [↓reduceIte, go_sem, ta', List.length_append, List.length_cons] <;> repeat with_reducible refine And.intro (by first | omega | decide) ?_
          exact fin rfl rfl
        | some n =>
          simp only [hdl]
          by_cases h5 : d.length ≤ 5
          · by_cases h6 : n ≤ 65535
            · rw [decide_eq_true h5, decide_eq_true h6]
              simp (disch := omega) only [↓reduceIte, go_sem, ta', List.length_append, List.length_cons, h5, h6] <;> repeat with_reducible refine And.intro (by first | omega | decide) ?_
              exact fin rfl rfl
            · rw [decide_eq_true h5, decide_eq_false h6]
              simp (disch := omega) only [↓reduceIte, go_sem, ta', List.length_append, List.length_cons, h5, h6] <;> repeat with_reducible refine And.intro (by first | omega | decide) ?_
              exact fin rfl rfl
          · rw [decide_eq_false h5]
            simp (disch := omega) only [↓reduceIte, go_sem, ta', List.length_append, List.length_cons, h5] <;> repeat with_reducible refine And.intro (by first | omega | decide) ?_
            exact fin rfl rfl

/-! Hosts. -/
def looseK (t : List UInt8) : Option (Option Nat) := if endsF (piecesF t) = true then (if 4 < (piecesF t).length then some none else some ((looseGo (piecesF t) 0 0).map (· % 4294967296))) else none
def looseKV : Option (Option Nat) → PV
  | none => .tup [.int .u32 0, .int .i64 0]
  | some none => .tup [.int .u32 0, .int .i64 1]
  | some (some n) => .tup [.int .u32 (n : Nat), .int .i64 2]
theorem looseV_K (t : List UInt8) : looseV (piecesF t) = looseKV (looseK t) := by
  unfold looseV looseK
  split
  · split
    · rfl
    · cases looseGo (piecesF t) 0 0 with
      | none => rfl
      | some n =>
        simp only [Option.map_some, looseKV]
        rw [IntKind.wrap_u32]
        congr 3
  · rfl
theorem looseK_le {t : List UInt8} {n : Nat} (h : looseK t = some (some n)) : n ≤ 4294967295 := by
  unfold looseK at h
  split at h
  · split at h
    · cases h
    · cases hg : looseGo (piecesF t) 0 0 with
      | none => rw [hg] at h; cases h
      | some m => rw [hg] at h; simp at h; omega
  · cases h

def hostN (t : List UInt8) : Option (List UInt8) := match looseK t with
  | some (some n) => some (printF n)
  | some none => none
  | none => if t ≠ [] ∧ mayN t = true then some t else none
def brF (s : List UInt8) : Option (List Nat) := if s.take 1 = [91] ∧ Lib.hasSuffix (s.drop 1) [93] = true then parseF ((s.drop 1).take ((s.drop 1).length - 1)) else none
def hostF (s : List UInt8) : Option (List UInt8) := match brF s with
  | some gs => some (91 :: (print6 gs ++ [93]))
  | none => if s.take 1 = [91] ∨ oddF (lowF s) = true then none else hostN (lowF s)
def hostV : Option (List UInt8) → PV
  | some h => .tup [.str (bs h), .bool true]
  | none => .tup [.str (bs []), .bool false]
theorem hostV_bdd {n : Nat} (x : Option (List UInt8)) : Bdd n (hostV x) := by
  cases x <;> refine .tup _ fun p hp => ?_ <;> simp only [List.mem_cons, List.not_mem_nil, or_false] at hp <;> rcases hp with rfl | rfl <;> first | exact .str _ | exact .bool _

theorem c_url_Host (s : List UInt8) (hl : s.length < 900000) : GCall 15 [.str (bs s)] (hostV (hostF s)) := by
  intro H hG
  unfold hostF brF
  refine scall_of (ord := fun _ => []) (rs := [2, 3]) Tryd.func15 rfl (by kernel_rfl) (by kernel_rfl) (by kernel_rfl) Tryd.ntmps15 fun hb hargs => go 200 (fun _ => false) mixed ?_
  simp (disch := omega) only [↓reduceIte, go_sem] <;> repeat with_reducible refine And.intro (by first | omega | decide) ?_
  refine (c_strings_CutPrefix s [91] (by omega) (by simp)).on (go 200 (fun _ => false) mixed ?_)
  by_cases h1 : s.take 1 = [91]
  · have h1' : List.take [(91 : UInt8)].length s = [91] := h1
    rw [if_pos h1']
    have hdl : (s.drop 1).length < 900000 := by rw [List.length_drop]; omega
    have hd1 : List.drop [(91 : UInt8)].length s = s.drop 1 := rfl
    rw [hd1]
    generalize s.drop 1 = r at *
    simp (disch := omega) only [↓reduceIte, go_sem] <;> repeat with_reducible refine And.intro (by first | omega | decide) ?_
    refine (c_strings_CutSuffix r [93] (by omega)).on (go 200 (fun _ => false) mixed ?_)
    cases hs : Lib.hasSuffix r [93] with
    | false =>
      have ht : Lib.trimSuffix r [93] = r := by unfold Lib.trimSuffix; rw [hs]; rfl
      rw [ht, if_neg (fun h => nomatch h.2)]
      simp (disch := omega) only [↓reduceIte, go_sem] <;> repeat with_reducible refine And.intro (by first | omega | decide) ?_
      refine (c_six_Parse r (by omega)).on hG (go 200 (fun _ => false) mixed ?_)
      cases hp : parseF r with
      | none =>
        simp only [parseV]
        simp (disch := omega) only [↓reduceIte, go_sem, h1, u16s] <;> repeat with_reducible refine And.intro (by first | omega | decide) ?_
        exact fin_drop (.inr rfl) hb rfl (hostV_bdd none)
      | some gs =>
        have h8 := parse2_len hp
        have t8 : List.take 8 (u16s gs) = u16s gs := List.take_of_length_le (by rw [u16s_len]; omega)
        simp only [parseV]
        simp (disch := omega) only [↓reduceIte, go_sem, h1, h8, t8] <;> repeat with_reducible refine And.intro (by first | omega | decide) ?_
        exact fin_drop (.inr rfl) hb rfl (hostV_bdd none)
    | true =>
      have ht : Lib.trimSuffix r [93] = r.take (r.length - 1) := by unfold Lib.trimSuffix; rw [hs]; rfl
      rw [ht, if_pos ⟨h1, rfl⟩]
      have hql : (r.take (r.length - 1)).length < 900000 := by rw [List.length_take]; omega
      generalize r.take (r.length - 1) = q at *
      simp (disch := omega) only [↓reduceIte, go_sem] <;> repeat with_reducible refine And.intro (by first | omega | decide) ?_
      refine (c_six_Parse q (by omega)).on hG (go 200 (fun _ => false) mixed ?_)
      cases hp : parseF q with
      | none =>
        simp only [parseV]
        simp (disch := omega) only [↓reduceIte, go_sem, h1, u16s] <;> repeat with_reducible refine And.intro (by first | omega | decide) ?_
        exact fin_drop (.inr rfl) hb rfl (hostV_bdd none)
      | some gs =>
        have h8 := parse2_len hp
        have hle := parseF_le hp
        have hpl := print6_len4 gs h8 hle
        have t8 : List.take 8 (u16s gs) = u16s gs := List.take_of_length_le (by rw [u16s_len]; omega)
        simp only [parseV]
        simp (disch := omega) only [↓reduceIte, go_sem, h1, h8, t8] <;> repeat with_reducible refine And.intro (by first | omega | decide) ?_
        refine (c_six_Print gs h8 hle).on hG.app (go 200 (fun _ => false) mixed ?_)
        simp (disch := omega) only [↓reduceIte, go_sem, List.length_append, List.length_cons] <;> repeat with_reducible refine And.intro (by first | omega | decide) ?_
        exact fin_drop (.inr rfl) hb rfl (hostV_bdd (some (91 :: (print6 gs ++ [93]))))
  · have h1' : ¬ List.take [(91 : UInt8)].length s = [91] := h1
    rw [if_neg h1', if_neg (fun h => h1 h.1)]
    have hll := lowF_len s
    simp (disch := omega) only [↓reduceIte, go_sem] <;> repeat with_reducible refine And.intro (by first | omega | decide) ?_
    refine (c_text_Lower s (by omega)).on (go 200 (fun _ => false) mixed ?_)
    generalize lowF s = t at *
    simp (disch := omega) only [↓reduceIte, go_sem] <;> repeat with_reducible refine And.intro (by first | omega | decide) ?_
    refine (c_four_Loose t (by omega)).on (go 200 (fun _ => false) mixed ?_)
    rw [looseV_K]
    cases ho : oddF t with
    | true =>
      simp only [h1, false_or, ↓reduceIte]
      obtain ⟨x, k, hxk⟩ : ∃ (x k : Int), looseKV (looseK t) = .tup [.int .u32 x, .int .i64 k] := by
        rcases looseK t with _ | _ | n
        · exact ⟨_, _, rfl⟩
        · exact ⟨_, _, rfl⟩
        · exact ⟨_, _, rfl⟩
      rw [hxk]
      simp (disch := omega) only [↓reduceIte, go_sem] <;> repeat with_reducible refine And.intro (by first | omega | decide) ?_
      refine (c_url_odd t (by omega)).on (go 200 (fun _ => false) mixed ?_)
      rw [ho]
      simp (disch := omega) only [↓reduceIte, go_sem] <;> repeat with_reducible refine And.intro (by first | omega | decide) ?_
      exact fin rfl rfl
    | false =>
      simp only [h1, false_or, Bool.false_eq_true, ↓reduceIte]
      unfold hostN
      cases hk : looseK t with
      | none =>
        simp only [looseKV]
        simp (disch := omega) only [↓reduceIte, go_sem] <;> repeat with_reducible refine And.intro (by first | omega | decide) ?_
        refine (c_url_odd t (by omega)).on (go 200 (fun _ => false) mixed ?_)
        rw [ho]
        by_cases ht : t = []
        · subst ht
          simp (disch := omega) only [↓reduceIte, go_sem] <;> repeat with_reducible refine And.intro (by first | omega | decide) ?_
          exact fin rfl rfl
        · simp (disch := omega) only [↓reduceIte, go_sem, ht] <;> repeat with_reducible refine And.intro (by first | omega | decide) ?_
          refine (c_label_May t (by omega)).on (go 200 (fun _ => false) mixed ?_)
          cases hm : mayN t with
          | true =>
            simp only [ne_eq, ht, not_false_eq_true, true_and, ↓reduceIte]
            simp (disch := omega) only [↓reduceIte, go_sem] <;> repeat with_reducible refine And.intro (by first | omega | decide) ?_
            exact fin rfl rfl
          | false =>
            simp only [Bool.false_eq_true, and_false, ↓reduceIte]
            simp (disch := omega) only [↓reduceIte, go_sem] <;> repeat with_reducible refine And.intro (by first | omega | decide) ?_
            exact fin rfl rfl
      | some o =>
        cases o with
        | none =>
          simp only [looseKV]
          simp (disch := omega) only [↓reduceIte, go_sem] <;> repeat with_reducible refine And.intro (by first | omega | decide) ?_
          refine (c_url_odd t (by omega)).on (go 200 (fun _ => false) mixed ?_)
          rw [ho]
          simp (disch := omega) only [↓reduceIte, go_sem] <;> repeat with_reducible refine And.intro (by first | omega | decide) ?_
          exact fin rfl rfl
        | some n =>
          have hn := looseK_le hk
          simp only [looseKV]
          simp (disch := omega) only [↓reduceIte, go_sem] <;> repeat with_reducible refine And.intro (by first | omega | decide) ?_
          refine (c_url_odd t (by omega)).on (go 200 (fun _ => false) mixed ?_)
          rw [ho]
          simp (disch := omega) only [↓reduceIte, go_sem] <;> repeat with_reducible refine And.intro (by first | omega | decide) ?_
          refine (c_four_Print n hn).on hG (go 200 (fun _ => false) mixed ?_)
          simp (disch := omega) only [↓reduceIte, go_sem] <;> repeat with_reducible refine And.intro (by first | omega | decide) ?_
          exact fin rfl rfl
end Go.Proofs.GoC
