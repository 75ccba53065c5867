/-
  What the functions compute: names, their parents, which are under which, their bytes. No claim by itself.
-/
import Derived.Test.YtmgemdgbffmnjaaGoLabel1
import Derived.Test.YtmgemdgbffmnjaaSlHp
namespace Go.Proofs.GoC
open Go Go.Proofs.SL
set_option linter.unusedSimpArgs false
set_option linter.unusedVariables false
set_option maxRecDepth 10000
set_option maxHeartbeats 4000000

/-! A name behind its first dot. -/
def dotR : List UInt8 → List UInt8
  | [] => []
  | b :: l => if b = 46 then l else dotR l
def dotL : List UInt8 → List UInt8
  | [] => []
  | b :: l => if b = 46 then [] else b :: dotL l
def dotN : Nat → List UInt8 → List UInt8
  | 0, s => s
  | n + 1, s => dotN n (dotR s)
theorem dotR_len : ∀ l : List UInt8, (dotR l).length ≤ l.length
  | [] => Nat.le_refl _
  | b :: l => by
    unfold dotR
    split
    · simp
    · have := dotR_len l; simp; omega
theorem dotR_lt {l : List UInt8} (h : l ≠ []) : (dotR l).length < l.length := by
  cases l with
  | nil => exact absurd rfl h
  | cons b l =>
    unfold dotR
    split
    · simp
    · have := dotR_len l; simp; omega
theorem dotR_no : ∀ {l : List UInt8}, (46 : UInt8) ∉ l → dotR l = []
  | [], _ => rfl
  | b :: l, h => by
    simp only [List.mem_cons, not_or] at h
    unfold dotR
    rw [if_neg (fun e => h.1 e.symm), dotR_no h.2]
theorem dotR_app : ∀ {a b : List UInt8}, (46 : UInt8) ∉ a → dotR (a ++ 46 :: b) = b
  | [], b, _ => by simp [dotR]
  | x :: a, b, h => by
    simp only [List.mem_cons, not_or] at h
    rw [List.cons_append]
    unfold dotR
    rw [if_neg (fun e => h.1 e.symm), dotR_app h.2]
theorem dot_split : ∀ l : List UInt8, ((46 : UInt8) ∉ l ∧ dotL l = l ∧ dotR l = []) ∨ ((46 : UInt8) ∉ dotL l ∧ l = dotL l ++ 46 :: dotR l)
  | [] => .inl ⟨by simp, rfl, rfl⟩
  | b :: l => by
    unfold dotL dotR
    by_cases h : b = 46
    · subst h; right; simp
    · rw [if_neg h, if_neg h]
      rcases dot_split l with ⟨h1, h2, h3⟩ | ⟨h1, h2⟩
      · left; exact ⟨by simp only [List.mem_cons, not_or]; exact ⟨fun e => h e.symm, h1⟩, by rw [h2], h3⟩
      · right; exact ⟨by simp only [List.mem_cons, not_or]; exact ⟨fun e => h e.symm, h1⟩, by rw [List.cons_append, ← h2]⟩
theorem dotN_nil : ∀ n, dotN n [] = []
  | 0 => rfl
  | n + 1 => dotN_nil n
theorem dotN_len : ∀ (n : Nat) (l : List UInt8), (dotN n l).length ≤ l.length
  | 0, l => Nat.le_refl _
  | n + 1, l => Nat.le_trans (dotN_len n (dotR l)) (dotR_len l)
theorem dotN_succ : ∀ (n : Nat) (l : List UInt8), dotN (n + 1) l = dotR (dotN n l)
  | 0, l => rfl
  | n + 1, l => dotN_succ n (dotR l)

theorem cut_dot (s : List UInt8) : (Lib.cut s [46]).2.1 = dotR s ∧ (Lib.cut s [46]).1.length ≤ s.length := by
  rcases Lib.index_spec s [46] with ⟨h1, h2⟩ | ⟨i, h1, h2, h3, h4⟩
  · have hno : (46 : UInt8) ∉ s := fun hm => by
      obtain ⟨k, hk, e⟩ := List.getElem_of_mem hm
      have := h2 k (by omega)
      unfold Lib.occAt at this
      rw [List.drop_eq_getElem_cons hk, e] at this
      simp at this
    unfold Lib.cut
    rw [h1, if_neg (by decide)]
    exact ⟨(dotR_no hno).symm, Nat.le_refl _⟩
  · obtain ⟨b, hb⟩ := List.isPrefixOf_iff_prefix.mp h3
    have hl : (s.take i).length = i := by rw [List.length_take]; omega
    have hs : s = s.take i ++ (46 :: b) := by
      have : (46 : UInt8) :: b = s.drop i := by rw [← hb]; rfl
      rw [this, List.take_append_drop]
    have hno : (46 : UInt8) ∉ s.take i := fun hm => by
      obtain ⟨k, hk, e⟩ := List.getElem_of_mem hm
      have hk' : k < i := by omega
      have := h4 k hk'
      have hks : k < s.length := by omega
      unfold Lib.occAt at this
      rw [List.drop_eq_getElem_cons hks] at this
      rw [List.getElem_take] at e
      rw [e] at this
      simp at this
    unfold Lib.cut
    rw [h1, if_pos (by omega)]
    refine ⟨?_, by simp; omega⟩
    simp only [Int.toNat_natCast, List.length_cons, List.length_nil]
    have e1 : dotR s = b := by
      conv => lhs; rw [hs]
      exact dotR_app hno
    rw [e1]
    have : s.drop (i + 1) = (s.drop i).drop 1 := by rw [List.drop_drop]
    rw [show i + (0 + 1) = i + 1 by omega, this, ← hb]; rfl

theorem split_dot (s : List UInt8) : splitA 46 s [] [] = dotL s :: (if (46 : UInt8) ∈ s then splitA 46 (dotR s) [] [] else []) := by
  rcases dot_split s with ⟨h1, h2, h3⟩ | ⟨h1, h2⟩
  · rw [if_neg h1, h2, splitA_no 46 s [] [] h1]; simp
  · have hm : (46 : UInt8) ∈ s := by rw [h2]; simp
    rw [if_pos hm]
    conv => lhs; rw [h2]
    rw [split_pc 46 _ _ [] [] h1]
    simp only [List.nil_append]
    generalize dotR s = r
    generalize dotL s = a
    have key : ∀ (l : List UInt8) (acc : List (List UInt8)) (cur : List UInt8), splitA 46 l (a :: acc) cur = a :: splitA 46 l acc cur := by
      intro l
      induction l with
      | nil => intro acc cur; simp [splitA]
      | cons x l ih =>
        intro acc cur
        unfold splitA
        split
        · rw [List.cons_append, ih]
        · rw [ih]
    exact key r [] []

theorem join_split (n : Nat) : ∀ s : List UInt8, joinL [46] ((splitA 46 s [] []).drop n) = dotN n s := by
  induction n with
  | zero =>
    intro s
    obtain ⟨k, hk⟩ : ∃ k, s.length = k := ⟨_, rfl⟩
    induction k using Nat.strongRecOn generalizing s with
    | _ k ih =>
      rw [List.drop_zero, split_dot]
      rcases dot_split s with ⟨h1, h2, h3⟩ | ⟨h1, h2⟩
      · rw [if_neg h1, h2]; simp [joinL, dotN]
      · have hm : (46 : UInt8) ∈ s := by rw [h2]; simp
        rw [if_pos hm, joinL_cons _ _ _ (by rw [split_dot]; simp)]
        have hne : s ≠ [] := fun h => by rw [h] at hm; simp at hm
        have := ih _ (by rw [← hk]; exact dotR_lt hne) (dotR s) rfl
        rw [List.drop_zero] at this
        rw [this]
        simp only [dotN]
        conv => rhs; rw [h2]
        simp
  | succ n ih =>
    intro s
    rw [split_dot, List.drop_succ_cons]
    by_cases hm : (46 : UInt8) ∈ s
    · rw [if_pos hm, ih]; rfl
    · rw [if_neg hm]
      simp only [dotN]
      rw [dotR_no hm, dotN_nil]; simp [joinL]
theorem rest_eq (s : List UInt8) (n : Nat) : joinL [46] ((labF s).drop n) = dotN n s := by
  unfold labF
  by_cases h : s = []
  · subst h; rw [if_pos rfl, dotN_nil]; simp [joinL]
  · rw [if_neg h, join_split]
theorem join_lab (s : List UInt8) : joinL [46] (labF s) = s := rest_eq s 0
theorem dotN_all (s : List UInt8) : dotN (labF s).length s = [] := by
  rw [← rest_eq, List.drop_length]; simp [joinL]

theorem c_label_Parent (s : List UInt8) (hl : s.length < 1100000) : GCall 65 [.str (bs s)] (.str (bs (dotR s))) := by
  intro H hG
  have hc := (cut_dot s).1
  refine scall_of (ord := fun _ => []) (rs := [2]) Try.func65 rfl (by kernel_rfl) (by kernel_rfl) (by kernel_rfl) Try.ntmps65 fun hb hargs => go 200 (fun _ => false) mixed ?_
  simp (disch := omega) only [↓reduceIte, go_sem] <;> repeat with_reducible refine And.intro (by first | omega | decide) ?_
  refine (c_strings_Cut s [46] hl).on hG (go 200 (fun _ => false) mixed ?_)
  simp (disch := omega) only [↓reduceIte, go_sem, cutV, hc] <;> repeat with_reducible refine And.intro (by first | omega | decide) ?_
  exact fin rfl rfl

/-! Join, of a slice that is read. -/
theorem join_sl (l : List (List UInt8)) (sep : List UInt8) (hlen : (joinL sep l).length ≤ 140737488355328) (hsh : l.length ≤ 1000000000) :
    PCall Try.prog 48 [.sl 1 (strs l), .str (bs sep)] (.str (bs (joinL sep l))) := by
  intro H
  refine scall_of (ord := fun _ => []) (rs := [4]) Try.func48 rfl (by kernel_rfl) (by kernel_rfl) (by kernel_rfl) Try.ntmps48 fun hb hargs => go 200 (fun _ => false) mixed ?_
  simp (disch := omega) only [↓reduceIte, go_sem] <;> repeat with_reducible refine And.intro (by first | omega | decide) ?_
  refine runs_loopA (fun k : Nat => k ≤ l.length) (fun k => l.length - k) [true, true, false, false, false, true, true]
    (fun k => slots 25 [.sl 1 (strs l), .str (bs sep), .any, .any, .any, .str (bs (joinL sep (l.take k))), .int .i64 k])
    (fun _ => H) (by rfl) 0 (Nat.zero_le _) rfl rfl ?_
  intro k hk
  refine go 200 (fun _ => false) mixed ?_
  by_cases hlt : k < l.length
  · have g := strs_getD hlt
    have t1 := joinL_take sep l k
    have t2 := joinL_take sep l (k + 1)
    rcases Nat.eq_zero_or_pos k with h0 | h0
    · subst h0
      have e := joinL_one sep l hlt
      rw [e] at t2
      have e0 : joinL sep [] = [] := by simp [joinL]
      have e1 : joinL sep (l.take 1) = l.getD 0 [] := e
      simp (disch := omega) only [↓reduceIte, go_sem, hlt, g, e0, List.length_nil, List.nil_append, strs_len] <;> repeat with_reducible refine And.intro (by first | omega | decide) ?_
      refine rnd_next 1 (by show 1 ≤ l.length; omega) (by show l.length - 1 < l.length - 0; omega) (by rw [e1]; rfl) rfl
    · have e := joinL_snoc sep l k hlt h0
      rw [e] at t2
      simp only [List.length_append] at t2
      simp (disch := omega) only [↓reduceIte, go_sem, hlt, g, h0, List.length_append, strs_len] <;> repeat with_reducible refine And.intro (by first | omega | decide) ?_
      exact rnd_next (k + 1) (by show k + 1 ≤ l.length; omega) (by show l.length - (k + 1) < l.length - k; omega) (by rw [e]; rfl) rfl
  · simp (disch := omega) only [↓reduceIte, go_sem, hlt] <;> repeat with_reducible refine And.intro (by first | omega | decide) ?_
    have hk2 : k = l.length := by have : k ≤ l.length := hk; omega
    subst hk2
    refine go 200 (fun _ => false) mixed ?_
    simp (disch := omega) only [↓reduceIte, go_sem] <;> repeat with_reducible refine And.intro (by first | omega | decide) ?_
    exact fin (by simp [retV]) rfl

/-- A name's labels, nil or not. -/
theorem labV_sl (s : List UInt8) : noNil 1 (labV s) = .sl 1 (strs (labF s)) := by
  rcases labV_or s with ⟨h, h2⟩ | h
  · rw [h, h2]; rfl
  · rw [h]; rfl
theorem labels_sl (s : List UInt8) (hl : s.length < 1100000) : PCall Try.prog 64 [.str (bs s)] (.sl 1 (strs (labF s))) := labV_sl s ▸ (c_label_Labels s hl).noNil 1
theorem rlabels_sl (s : List UInt8) (hl : s.length < 1100000) : PCall Try.prog 46 [.str (bs s)] (.sl 1 (strs (labF s))) := labV_sl s ▸ (c_abatisref08_Labels s hl).noNil 1

theorem c_abatisref08_Rest (s : List UInt8) (n : Nat) (hn : n < 2000000) (hl : s.length < 1100000) : PCall Try.prog 74 [.str (bs s), .int .i64 n] (.str (bs (dotN n s))) := by
  intro H
  have hR := rest_eq s n
  have hL := rlabels_sl s hl
  have hlen := labF_len s
  have hN := dotN_len n s
  have hJ := join_sl ((labF s).drop n) [46] (by rw [hR]; omega) (by rw [List.length_drop]; omega)
  rw [hR] at hJ
  generalize labF s = l at *
  refine scall_of (ord := fun _ => []) (rs := [4]) Try.func74 rfl (by kernel_rfl) (by kernel_rfl) (by kernel_rfl) Try.ntmps74 fun hb hargs => go 200 (fun _ => false) mixed ?_
  simp (disch := omega) only [↓reduceIte, go_sem] <;> repeat with_reducible refine And.intro (by first | omega | decide) ?_
  refine hL.on (go 200 (fun _ => false) mixed ?_)
  by_cases h : l.length ≤ n
  · have e : dotN n s = [] := by rw [← hR, List.drop_eq_nil_of_le h]; simp [joinL]
    simp (disch := omega) only [↓reduceIte, go_sem, h] <;> repeat with_reducible refine And.intro (by first | omega | decide) ?_
    exact fin (by rw [e]; rfl) rfl
  · have h2 : n ≤ l.length := by omega
    have et : List.drop n (List.take l.length (strs l)) = strs (l.drop n) := by
      rw [List.take_of_length_le (by rw [strs_len]; exact Nat.le_refl _), strs_drop]
    simp (disch := omega) only [↓reduceIte, go_sem, h, h2, et] <;> repeat with_reducible refine And.intro (by first | omega | decide) ?_
    refine hJ.on (go 200 (fun _ => false) mixed ?_)
    simp (disch := omega) only [↓reduceIte, go_sem] <;> repeat with_reducible refine And.intro (by first | omega | decide) ?_
    exact fin rfl rfl

/-! Which is like which, and under which. -/
def likeF (a b : List UInt8) : Bool := decide (lowF a = lowF b)
/-- Whether a name, or one of its so many parents, is like another one. -/
def underN : Nat → List UInt8 → List UInt8 → Bool
  | 0, s, o => likeF s o
  | n + 1, s, o => likeF s o || underN n (dotR s) o
theorem underN_more : ∀ (n : Nat) (s o : List UInt8), dotN n s = [] → underN (n + 1) s o = underN n s o
  | 0, s, o, h => by
    have h : s = [] := h
    subst h
    show (likeF [] o || likeF [] o) = _
    simp [underN]
  | n + 1, s, o, h => by
    show (likeF s o || underN (n + 1) (dotR s) o) = (likeF s o || underN n (dotR s) o)
    rw [underN_more n (dotR s) o h]
theorem underN_le : ∀ (n k : Nat) (s o : List UInt8), dotN n s = [] → underN (n + k) s o = underN n s o
  | n, 0, _, _, _ => rfl
  | n, k + 1, s, o, h => by
    have h2 : dotN (n + k) s = [] := by
      clear o
      induction k with
      | zero => exact h
      | succ k ih => rw [← Nat.add_assoc, dotN_succ, ih]; rfl
    rw [← Nat.add_assoc, underN_more _ _ _ h2, underN_le n k s o h]
def underF (s o : List UInt8) : Bool := underN s.length s o
theorem dotN_length : ∀ (n : Nat) (s : List UInt8), s.length ≤ n → dotN n s = []
  | 0, s, h => List.eq_nil_of_length_eq_zero (Nat.le_zero.mp h)
  | n + 1, s, h => by
    show dotN n (dotR s) = []
    by_cases hs : s = []
    · subst hs; exact dotN_nil n
    · have := dotR_lt hs
      exact dotN_length n _ (by omega)
theorem underF_eq (s o : List UInt8) (n : Nat) (h : dotN n s = []) : underF s o = underN n s o := by
  unfold underF
  have h1 := dotN_length s.length s (Nat.le_refl _)
  rcases Nat.le_total s.length n with h2 | h2
  · obtain ⟨k, rfl⟩ := Nat.exists_eq_add_of_le h2
    rw [underN_le _ _ _ _ h1]
  · obtain ⟨k, hk⟩ := Nat.exists_eq_add_of_le h2
    rw [hk, underN_le _ _ _ _ h]
theorem underF_nil (o : List UInt8) : underF [] o = likeF [] o := rfl
theorem underF_step {s : List UInt8} (o : List UInt8) (h : s ≠ []) : underF s o = (likeF s o || underF (dotR s) o) := by
  obtain ⟨k, hk⟩ : ∃ k, s.length = k + 1 := ⟨s.length - 1, by have : s.length ≠ 0 := fun h2 => h (List.eq_nil_of_length_eq_zero h2); omega⟩
  have hl := dotR_lt h
  rw [underF_eq (dotR s) o k (dotN_length k _ (by omega))]
  unfold underF
  rw [hk]; rfl

end Go.Proofs.GoC
