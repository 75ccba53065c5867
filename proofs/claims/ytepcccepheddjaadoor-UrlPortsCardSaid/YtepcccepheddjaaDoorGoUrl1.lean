/-
  What the functions compute: hosts of addresses of the web. No claim by itself.
-/
import Derived.Test.YtepcccepheddjaaDoorGoM5
import Derived.Test.YtepcccepheddjaaDoorGoLabel1
import Derived.Test.YtepcccepheddjaaDoorGoSixF
import Derived.Test.YtepcccepheddjaaDoorGoLast
namespace Go.Proofs.GoC
open Go Go.Proofs.SL
set_option linter.unusedSimpArgs false
set_option linter.unusedVariables false
set_option maxRecDepth 10000
set_option maxHeartbeats 2000000

/-! Go's library. -/
theorem c_strings_HasSuffix (s p : List UInt8) (hl : s.length < 1000000) : PCall Tryd.prog 24 [.str (bs s), .str (bs p)] (.bool (Lib.hasSuffix s p)) := by
  intro H
  refine scall_lift Tryd.func24 rfl (by kernel_rfl) fun β w vs hI hs hv => ?_
  obtain ⟨v, u, rfl, h1, h2⟩ := vals2 hs hv
  rw [h1.str_inv, h2.str_inv]
  exact (Tryd.strings_HasSuffix (bs s) (bs p) w (by rw [bs_size]; omega)).mono fun e w' ⟨he, hw⟩ => ⟨_, he, hw ▸ Below.same, fun β' w2 => by rw [show (bs s).data.toList = s by simp [bs], show (bs p).data.toList = p by simp [bs]]; exact .bool _⟩
theorem c_strings_CutSuffix (s p : List UInt8) (hl : s.length < 1000000) : PCall Tryd.prog 27 [.str (bs s), .str (bs p)] (.tup [.str (bs (Lib.trimSuffix s p)), .bool (Lib.hasSuffix s p)]) := by
  intro H
  refine scall_lift Tryd.func27 rfl (by kernel_rfl) fun β w vs hI hs hv => ?_
  obtain ⟨v, u, rfl, h1, h2⟩ := vals2 hs hv
  rw [h1.str_inv, h2.str_inv]
  refine (Tryd.strings_CutSuffix (bs s) (bs p) w (by rw [bs_size]; omega)).mono fun e w' ⟨he, hw⟩ => ⟨_, he, hw ▸ Below.same, fun β' w2 => ?_⟩
  rw [show (bs s).data.toList = s by simp [bs], show (bs p).data.toList = p by simp [bs]]
  refine .tup _ _ rfl fun i v p hv hp => ?_
  rcases i with _ | _ | i
  · cases hv; cases hp; exact .str _
  · cases hv; cases hp; exact .bool _
  · simp at hv
theorem c_strings_IndexAny (s p : List UInt8) (hl : s.length < 1000000) (hp : p.length < 1000000) (ha : ∀ b ∈ s, b.toNat < 128) (hb : ∀ b ∈ p, b.toNat < 128) : PCall Tryd.prog 22 [.str (bs s), .str (bs p)] (.int .i64 (Lib.indexAny s p)) := by
  intro H
  refine scall_lift Tryd.func22 rfl (by kernel_rfl) fun β w vs hI hs hv => ?_
  obtain ⟨v, u, rfl, h1, h2⟩ := vals2 hs hv
  rw [h1.str_inv, h2.str_inv]
  refine (Tryd.strings_IndexAny (fun w => (Go.zero_of_info (show (Tryd.prog.info? 67).map (fun i => (i.zero, i.size)) = some (some (.agg (Array.replicate 256 (.bool false))), 256) by kernel_rfl)).1 w) (bs s) (bs p) w (by rw [bs_size]; omega) (by rw [bs_size]; omega)
    (fun j b hj => ha b (by rw [show (bs s).data.toList = s by simp [bs]] at hj; exact List.mem_of_getElem? hj)) (fun j b hj => hb b (by rw [show (bs p).data.toList = p by simp [bs]] at hj; exact List.mem_of_getElem? hj))).mono fun e w' ⟨he, hw⟩ => ⟨_, he, hw, fun β' w2 => ?_⟩
  rw [show (bs s).data.toList = s by simp [bs], show (bs p).data.toList = p by simp [bs]]
  exact .int _ _

/-! Texts up to the first of some signs. -/
def tw (c : List UInt8) (s : List UInt8) : List UInt8 := s.takeWhile fun b => !c.contains b
def dw (c : List UInt8) (s : List UInt8) : List UInt8 := s.dropWhile fun b => !c.contains b
theorem tw_dw (c s : List UInt8) : tw c s ++ dw c s = s := List.takeWhile_append_dropWhile
theorem tw_len (c s : List UInt8) : (tw c s).length + (dw c s).length = s.length := by rw [← List.length_append, tw_dw]
theorem take_app {a b : List UInt8} : (a ++ b).take a.length = a := List.take_left' rfl
theorem drop_app {a b : List UInt8} : (a ++ b).drop a.length = b := List.drop_left' rfl
theorem tw_take (c s : List UInt8) : s.take (tw c s).length = tw c s := by
  have h := take_app (a := tw c s) (b := dw c s)
  rwa [tw_dw] at h
theorem tw_drop (c s : List UInt8) : s.drop (tw c s).length = dw c s := by
  have h := drop_app (a := tw c s) (b := dw c s)
  rwa [tw_dw] at h
theorem idx_tw (c : List UInt8) : ∀ s : List UInt8, (Lib.indexAny s c = -1 ∧ dw c s = []) ∨ (Lib.indexAny s c = ((tw c s).length : Nat) ∧ dw c s ≠ [])
  | [] => .inl ⟨rfl, rfl⟩
  | b :: l => by
    unfold Lib.indexAny tw dw
    by_cases h : c.contains b = true
    · rw [if_pos h]
      right
      rw [List.takeWhile_cons_of_neg (by rw [h]; decide), List.dropWhile_cons_of_neg (by rw [h]; decide)]
      exact ⟨rfl, by simp⟩
    · rw [if_neg h]
      have h := Bool.eq_false_iff.mpr h
      rw [List.takeWhile_cons_of_pos (by rw [h]; decide), List.dropWhile_cons_of_pos (by rw [h]; decide)]
      rcases idx_tw c l with ⟨h1, h2⟩ | ⟨h1, h2⟩
      · left; rw [h1]; exact ⟨rfl, h2⟩
      · right
        rw [h1]
        refine ⟨?_, h2⟩
        rw [if_neg (by simp)]
        simp [tw]

def ordUp : Nat → List Nat
  | 4 => [0, 1, 2, 3, 4, 5, 6, 7]
  | _ => []
theorem ordUp4 : ordUp 4 = [0, 1, 2, 3, 4, 5, 6, 7] := rfl
theorem c_url_upto (s c : List UInt8) (hl : s.length < 1000000) (hc : c.length < 1000000) (ha : ∀ b ∈ s, b.toNat < 128) (hb' : ∀ b ∈ c, b.toNat < 128) : PCall Tryd.prog 13 [.str (bs s), .str (bs c)] (.tup [.str (bs (tw c s)), .str (bs (dw c s))]) := by
  intro H
  have ht := tw_take c s
  have hd := tw_drop c s
  have hn := tw_len c s
  have hi := idx_tw c s
  have he := tw_dw c s
  have key := c_strings_IndexAny s c hl hc ha hb'
  generalize tw c s = a at *
  generalize dw c s = d at *
  generalize Lib.indexAny s c = i at *
  refine scall_of (ord := ordUp) (rs := [4, 5]) Tryd.func13 rfl (by kernel_rfl) (by kernel_rfl) (by kernel_rfl) Tryd.ntmps13 fun hb hargs => go 200 (fun _ => false) mixed ?_
  simp (disch := omega) only [↓reduceIte, go_sem] <;> repeat with_reducible refine And.intro (by first | omega | decide) ?_
  refine key.on (go 200 (fun _ => false) mixed ?_)
  rcases hi with ⟨rfl, rfl⟩ | ⟨rfl, _⟩
  · rw [List.append_nil] at he
    subst he
    simp (disch := omega) only [↓reduceIte, go_sem] <;> repeat with_reducible refine And.intro (by first | omega | decide) ?_
    exact fin rfl rfl
  · have hal : a.length ≤ s.length := by omega
    have hd2 : List.drop a.length (List.take s.length s) = d := by rw [List.take_length]; exact hd
    simp (disch := omega) only [↓reduceIte, go_sem, ordUp4, ht, hd, hal, hd2] <;> repeat with_reducible refine And.intro (by first | omega | decide) ?_
    exact fin rfl rfl

/-! Ports. -/
def httpT : List UInt8 := [104, 116, 116, 112]
def httpsT : List UInt8 := [104, 116, 116, 112, 115]
def portI (s : List UInt8) : Int := if s = httpT then 80 else if s = httpsT then 443 else 0
theorem c_url_Port (s : List UInt8) : PCall Tryd.prog 11 [.str (bs s)] (.int .i64 (portI s)) := by
  intro H
  refine scall_of (ord := fun _ => []) (rs := [2]) Tryd.func11 rfl (by kernel_rfl) (by kernel_rfl) (by kernel_rfl) Tryd.ntmps11 fun hb hargs => go 200 (fun _ => false) mixed ?_
  unfold portI httpT httpsT
  by_cases h1 : s = [104, 116, 116, 112]
  · subst h1
    simp (disch := omega) only [↓reduceIte, go_sem] <;> repeat with_reducible refine And.intro (by first | omega | decide) ?_
    exact fin rfl rfl
  · rw [if_neg h1]
    by_cases h2 : s = [104, 116, 116, 112, 115]
    · subst h2
      have hne : ¬ ([104, 116, 116, 112, 115] : List UInt8) = [104, 116, 116, 112] := by decide
      simp (disch := omega) only [↓reduceIte, go_sem, hne] <;> repeat with_reducible refine And.intro (by first | omega | decide) ?_
      exact fin rfl rfl
    · rw [if_neg h2]
      simp (disch := omega) only [↓reduceIte, go_sem, h1, h2] <;> repeat with_reducible refine And.intro (by first | omega | decide) ?_
      exact fin rfl rfl
/-! Signs that are none of a host's. -/
def okI (c : Int) : Bool := decide (97 ≤ c ∧ c ≤ 122) || decide (48 ≤ c ∧ c ≤ 57) || decide (c = 45) || decide (c = 95) || decide (c = 46)
def oddF (l : List UInt8) : Bool := l.any fun b => !okI b.toNat
theorem oddF_cons (a : UInt8) (l : List UInt8) : oddF (a :: l) = (!okI a.toNat || oddF l) := rfl
theorem okI_high {c : Int} (h : 128 ≤ c) : okI c = false := by unfold okI; simp; omega
theorem okI_true {c : Int} (h : okI c = true) : (97 ≤ c ∧ c ≤ 122) ∨ (48 ≤ c ∧ c ≤ 57) ∨ c = 45 ∨ c = 95 ∨ c = 46 := by
  unfold okI at h; simp at h; omega
theorem okI_false {c : Int} (h : okI c = false) : ¬ (97 ≤ c ∧ c ≤ 122) ∧ ¬ (48 ≤ c ∧ c ≤ 57) ∧ ¬ c = 45 ∧ ¬ c = 95 ∧ ¬ c = 46 := by
  unfold okI at h; simp at h; omega

theorem c_url_odd (l : List UInt8) (hl : l.length < 1000000) : PCall Tryd.prog 31 [.str (bs l)] (.bool (oddF l)) := by
  intro H
  refine scall_of (ord := fun _ => []) (rs := [2]) Tryd.func31 rfl (by kernel_rfl) (by kernel_rfl) (by kernel_rfl) Tryd.ntmps31 fun hb hargs => go 200 (fun _ => false) mixed ?_
  simp (disch := omega) only [↓reduceIte, go_sem] <;> repeat with_reducible refine And.intro (by first | omega | decide) ?_
  refine runs_loopA (fun k : Nat => k ≤ l.length ∧ oddF l = oddF (l.drop k)) (fun k => l.length - k) [true, false, false, false, false, false, false, true]
    (fun k => slots 39 [.str (bs l), .any, .any, .any, .any, .any, .any, .ptr H.length 0 0]) (fun k => H ++ [some (.striter (bs l) k)]) (by rfl) 0 ⟨Nat.zero_le _, rfl⟩ rfl rfl ?_
  rintro k ⟨hk, hall⟩
  refine go 200 (fun _ => false) mixed ?_
  by_cases hlt : k < l.length
  · have hle := dec_le l k
    rw [List.drop_eq_getElem_cons hlt, ← getD_of hlt, oddF_cons] at hall
    have hcase : ∀ c : Int, 0 ≤ c → okI c = false → ¬ (97 ≤ c ∧ c ≤ 122) ∧ ¬ (48 ≤ c ∧ c ≤ 57) ∧ ¬ c = 45 ∧ ¬ c = 95 ∧ ¬ c = 46 := fun c _ h => okI_false h
    have hok : okI ((l.getD k 0).toNat : Nat) = okI ((Utf8.decode (bs l) k).1 : Nat) ∧ (okI ((l.getD k 0).toNat : Nat) = true → (Utf8.decode (bs l) k).2 = 1) := by
      by_cases hlow : (l.getD k 0).toNat < 128
      · rw [dec_low hlt hlow]; exact ⟨rfl, fun _ => rfl⟩
      · have h1 := (dec_high hlt (by omega)).1
        rw [okI_high (show (128 : Int) ≤ ((Utf8.decode (bs l) k).1 : Nat) by omega), okI_high (show (128 : Int) ≤ ((l.getD k 0).toNat : Nat) by omega)]
        exact ⟨rfl, fun h => nomatch h⟩
    obtain ⟨hok1, hok2⟩ := hok
    rw [hok1] at hok2 hall
    generalize hC : (Utf8.decode (bs l) k).1 = C at *
    generalize hW : (Utf8.decode (bs l) k).2 = W at *
    cases hc : okI (C : Nat) with
    | false =>
      obtain ⟨h1, h2, h3, h4, h5⟩ := okI_false hc
      rw [hc, Bool.not_false, Bool.true_or] at hall
      rw [hall]
      have h3' : ¬ C = 45 := by omega
      have h4' : ¬ C = 95 := by omega
      have h5' : ¬ C = 46 := by omega
      by_cases a1 : 97 ≤ C
      · have a2 : ¬ C ≤ 122 := by omega
        have a3 : 48 ≤ C := by omega
        have a4 : ¬ C ≤ 57 := by omega
        simp (disch := omega) only [↓reduceIte, go_sem, hlt, hC, hW, a1, a2, a3, a4, h3', h4', h5'] <;> repeat with_reducible refine And.intro (by first | omega | decide) ?_
        exact fin_drop (.inr rfl) hb rfl (by simp)
      · by_cases a3 : 48 ≤ C
        · have a4 : ¬ C ≤ 57 := by omega
          simp (disch := omega) only [↓reduceIte, go_sem, hlt, hC, hW, a1, a3, a4, h3', h4', h5'] <;> repeat with_reducible refine And.intro (by first | omega | decide) ?_
          exact fin_drop (.inr rfl) hb rfl (by simp)
        · simp (disch := omega) only [↓reduceIte, go_sem, hlt, hC, hW, a1, a3, h3', h4', h5'] <;> repeat with_reducible refine And.intro (by first | omega | decide) ?_
          exact fin_drop (.inr rfl) hb rfl (by simp)
    | true =>
      have hW1 := hok2 hc
      subst hW1
      rw [hc, Bool.not_true, Bool.false_or] at hall
      have hnx : ∀ σ : Env, True := fun _ => trivial
      by_cases a1 : 97 ≤ C
      · have a2 : C ≤ 122 := by have := okI_true hc; omega
        simp (disch := omega) only [↓reduceIte, go_sem, hlt, hC, hW, a1, a2] <;> repeat with_reducible refine And.intro (by first | omega | decide) ?_
        exact rnd_next (k + 1) ⟨by omega, hall⟩ (by show l.length - (k + 1) < l.length - k; omega) rfl rfl
      · by_cases a3 : 48 ≤ C
        · by_cases a4 : C ≤ 57
          · simp (disch := omega) only [↓reduceIte, go_sem, hlt, hC, hW, a1, a3, a4] <;> repeat with_reducible refine And.intro (by first | omega | decide) ?_
            exact rnd_next (k + 1) ⟨by omega, hall⟩ (by show l.length - (k + 1) < l.length - k; omega) rfl rfl
          · have a5 : C = 95 := by have := okI_true hc; omega
            subst a5
            simp (disch := omega) only [↓reduceIte, go_sem, hlt, hC, hW] <;> repeat with_reducible refine And.intro (by first | omega | decide) ?_
            exact rnd_next (k + 1) ⟨by omega, hall⟩ (by show l.length - (k + 1) < l.length - k; omega) rfl rfl
        · have a5 : C = 45 ∨ C = 46 := by have := okI_true hc; omega
          rcases a5 with rfl | rfl
          · simp (disch := omega) only [↓reduceIte, go_sem, hlt, hC, hW] <;> repeat with_reducible refine And.intro (by first | omega | decide) ?_
            exact rnd_next (k + 1) ⟨by omega, hall⟩ (by show l.length - (k + 1) < l.length - k; omega) rfl rfl
          · simp (disch := omega) only [↓reduceIte, go_sem, hlt, hC, hW] <;> repeat with_reducible refine And.intro (by first | omega | decide) ?_
            exact rnd_next (k + 1) ⟨by omega, hall⟩ (by show l.length - (k + 1) < l.length - k; omega) rfl rfl
  · rw [List.drop_eq_nil_of_le (by omega)] at hall
    rw [hall]
    simp (disch := omega) only [↓reduceIte, go_sem, hlt] <;> repeat with_reducible refine And.intro (by first | omega | decide) ?_
    refine go 200 (fun _ => false) mixed ?_
    simp (disch := omega) only [↓reduceIte, go_sem] <;> repeat with_reducible refine And.intro (by first | omega | decide) ?_
    exact fin_drop (.inr rfl) hb rfl (by simp)
end Go.Proofs.GoC
