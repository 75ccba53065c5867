/-
  What the functions compute: rows of groups, as texts. No claim by itself.
-/
import Derived.Test.YtdgikagnkbphoaaDoorGoRun2
import Derived.Test.YtdgikagnkbphoaaDoorGoP
namespace Go.Proofs.GoC
open Go Go.Proofs.SL
set_option linter.unusedSimpArgs false
set_option linter.unusedVariables false
set_option maxRecDepth 10000
set_option maxHeartbeats 2000000

/-- A row of groups, as a text. -/
def rowF (gs : List Nat) : List UInt8 := joinL [58] (gs.map hexF)

/-- A slice of groups of an array. -/
structure Grp (H : Heap) (i off : Nat) (gs : List Nat) : Prop where
  cs : ∃ cs, H[i]? = some (some (.cells 0 cs)) ∧ off + gs.length ≤ cs.length ∧ ∀ k, k < gs.length → cs.getD (off + k) .any = .int .u16 (gs.getD k 0 : Nat)
  le : ∀ k, k < gs.length → gs.getD k 0 ≤ 65535
  short : gs.length ≤ 8

theorem hexF_len (n : Nat) (h : n ≤ 65535) : (hexF n).length ≤ 4 := by
  by_cases h1 : n < 16
  · rw [hexF1 n h1]; simp
  by_cases h2 : n < 256
  · rw [hexF2 n (by omega) h2]; simp
  by_cases h3 : n < 4096
  · rw [hexF3 n (by omega) h3]; simp
  · rw [hexF4 n (by omega) (by omega)]; simp

theorem joinL_cons (sep a : List UInt8) (l : List (List UInt8)) (h : l ≠ []) : joinL sep (a :: l) = a ++ sep ++ joinL sep l := by
  cases l with
  | nil => exact absurd rfl h
  | cons b l => simp [joinL, List.intercalate, List.intersperse]

theorem joinL_len (sep : List UInt8) (m : Nat) : ∀ l : List (List UInt8), (∀ p ∈ l, p.length ≤ m) → (joinL sep l).length ≤ l.length * (m + sep.length)
  | [], _ => by simp [joinL]
  | [a], h => by have := h a (by simp); simp [joinL]; omega
  | a :: b :: l, h => by
    have h1 := h a (by simp)
    have h2 := joinL_len sep m (b :: l) (fun p hp => h p (List.mem_cons_of_mem _ hp))
    rw [joinL_cons _ _ _ (by simp)]
    simp only [List.length_append, List.length_cons] at *
    rw [Nat.add_mul _ 1]; omega

theorem take_snoc {α : Type} {l : List α} {k : Nat} {d : α} (h : k < l.length) : l.take (k + 1) = l.take k ++ [l.getD k d] := by
  rw [List.take_add_one, List.getElem?_eq_getElem h]; simp [List.getD_eq_getElem?_getD, h]

theorem c_six_hex {H : Heap} (hG : GTab H) {i off : Nat} {gs : List Nat} (hg : Grp H i off gs) : SCall Tryd.prog 28 [.buf i 0 off gs.length 1 false] H fun r' H' => r' = .str (bs (rowF gs)) ∧ H' = H := by
  obtain ⟨⟨cs, hi, hoff, hget⟩, hle, hsh⟩ := hg
  have hiL : ∀ L : Heap, obj (H ++ L) i 0 = some cs := fun L => by
    have : (H ++ L)[i]? = some (some (.cells 0 cs)) := (List.getElem?_append_left (Alive.lt ⟨_, hi⟩)).trans hi
    simp [obj, this]
  refine scall_of (ord := fun _ => []) (rs := [2]) Tryd.func28 rfl (by kernel_rfl) (by kernel_rfl) (by kernel_rfl) Tryd.ntmps28 fun hb hargs => go 200 (fun _ => false) mixed ?_
  simp (disch := omega) only [↓reduceIte, go_sem] <;> repeat with_reducible refine And.intro (by first | omega | decide) ?_
  refine Runs.ghost (by rfl) (Ghost.grow (t := 3) (m := 1) rfl) ?_
  refine runs_loopA (fun x : Nat × Nat => x.1 ≤ gs.length) (fun x => gs.length - x.1) [true, false, false, true, false, false, true, true, true]
    (fun x => slots 21 [.buf i 0 off gs.length 1 false, .any, .any, .buf H.length x.2 0 x.1 1 true, .any, .any, .buf i 0 off gs.length 1 false, .int .i64 gs.length, .int .i64 x.1])
    (fun x => H ++ [some (.cells x.2 (strs ((gs.take x.1).map hexF)))]) (by rfl) (0, 0) (Nat.zero_le _) rfl rfl ?_
  rintro ⟨k, ver⟩ hk
  dsimp only at hk
  refine go 200 (fun _ => false) mixed ?_
  by_cases hlt : k < gs.length
  · have g := hget k hlt
    have gl := hle k hlt
    have gb : off + k < cs.length := by omega
    simp (disch := omega) only [↓reduceIte, go_sem, hlt, hiL, g, gb] <;> repeat with_reducible refine And.intro (by first | omega | decide) ?_
    refine (c_strconv_FormatInt (gs.getD k 0) gl).on hG.app (go 200 (fun _ => false) mixed ?_)
    simp (disch := omega) only [↓reduceIte, go_sem, strs_len, List.length_map, List.length_take, Nat.min_eq_left] <;> repeat with_reducible refine And.intro (by first | omega | decide) ?_
    refine ⟨by unfold most; omega, ?_⟩
    refine rnd_next (k + 1, ver + 1) (by show k + 1 ≤ gs.length; omega) (by show gs.length - (k + 1) < gs.length - k; omega) rfl ?_
    show _ = H ++ [some (.cells (ver + 1) (strs ((gs.take (k + 1)).map hexF)))]
    rw [take_snoc (d := 0) hlt]; simp [strs]
  · simp (disch := omega) only [↓reduceIte, go_sem, hlt] <;> repeat with_reducible refine And.intro (by first | omega | decide) ?_
    have hk2 : k = gs.length := by omega
    subst hk2
    refine go 200 (fun _ => false) mixed ?_
    simp (disch := omega) only [↓reduceIte, go_sem] <;> repeat with_reducible refine And.intro (by first | omega | decide) ?_
    rw [List.take_length]
    have hlen : (joinL [58] (gs.map hexF)).length ≤ 140737488355328 := by
      have := joinL_len [58] 4 (gs.map hexF) (fun p hp => by
        obtain ⟨n, hn, rfl⟩ := List.mem_map.mp hp
        obtain ⟨j, hj, rfl⟩ := List.getElem_of_mem hn
        have := hle j hj
        simp only [List.getD_eq_getElem?_getD, hj, List.getElem?_eq_getElem, Option.getD_some] at this
        exact hexF_len _ this)
      simp only [List.length_map, List.length_singleton] at this; omega
    refine (c_strings_Join (gs.map hexF) [58] _ (.inr (.inr ⟨H.length, ver, true, by rw [List.length_map], by rw [get_tail0]; rfl⟩)) (by rw [List.length_map]; omega) hlen).mono ?_
    rintro r' H' ⟨rfl, rfl⟩
    refine go 200 (fun _ => false) mixed ?_
    simp (disch := omega) only [↓reduceIte, go_sem] <;> repeat with_reducible refine And.intro (by first | omega | decide) ?_
    exact fin_drop (.inr rfl) hb rfl (by simp)

theorem hexd_str (n : Nat) (h : n < 16) : List.drop n (48 :: List.take n ([49, 50, 51, 52, 53, 54, 55, 56, 57, 97, 98, 99, 100, 101, 102] : List UInt8)) = [hexd n] := by
  have : ∀ n : Fin 16, List.drop n.val (48 :: List.take n.val ([49, 50, 51, 52, 53, 54, 55, 56, 57, 97, 98, 99, 100, 101, 102] : List UInt8)) = [hexd n.val] := by decide +kernel
  exact this ⟨n, h⟩

theorem c_abatisref03_group : ∀ (n : Nat), n ≤ 65535 → PCall Tryd.prog 42 [.int .u16 n] (.str (bs (hexF n))) := by
  intro n
  induction n using Nat.strongRecOn with
  | _ n ih =>
    intro h H
    have hs := hexd_str (n % 16) (by omega)
    refine scall_of (ord := fun _ => []) (rs := [2]) Tryd.func42 rfl (by kernel_rfl) (by kernel_rfl) (by kernel_rfl) Tryd.ntmps42 fun hb hargs => go 200 (fun _ => false) mixed ?_
    by_cases h1 : n < 16
    · simp (disch := omega) only [↓reduceIte, go_sem, h1, hs] <;> repeat with_reducible refine And.intro (by first | omega | decide) ?_
      exact fin (by simp [retV, hexF1 n h1, Nat.mod_eq_of_lt h1]) rfl
    · simp (disch := omega) only [↓reduceIte, go_sem, h1, hs] <;> repeat with_reducible refine And.intro (by first | omega | decide) ?_
      refine (ih (n / 16) (by omega) (by omega)).on (go 200 (fun _ => false) mixed ?_)
      have := hexF_len (n / 16) (by omega)
      simp (disch := omega) only [↓reduceIte, go_sem, hs, List.length_cons, List.length_nil] <;> repeat with_reducible refine And.intro (by first | omega | decide) ?_
      refine fin ?_ rfl
      rw [hexF.eq_1 n, if_neg h1]; rfl

theorem joinL_app (sep : List UInt8) : ∀ (a b : List (List UInt8)), a ≠ [] → b ≠ [] → joinL sep (a ++ b) = joinL sep a ++ sep ++ joinL sep b
  | [], _, h, _ => absurd rfl h
  | [x], b, _, hb => by rw [List.singleton_append, joinL_cons _ _ _ hb]; simp [joinL]
  | x :: y :: a, b, _, hb => by
    rw [List.cons_append, joinL_cons _ _ _ (by simp), joinL_app sep (y :: a) b (by simp) hb, joinL_cons _ _ (y :: a) (by simp)]
    simp

theorem joinL_take (sep : List UInt8) (l : List (List UInt8)) (k : Nat) : (joinL sep (l.take k)).length ≤ (joinL sep l).length := by
  by_cases h1 : l.take k = []
  · rw [h1]; simp [joinL]
  by_cases h2 : l.drop k = []
  · rw [List.take_of_length_le (List.drop_eq_nil_iff.mp h2)]; exact Nat.le_refl _
  · have := joinL_app sep (l.take k) (l.drop k) h1 h2
    rw [List.take_append_drop] at this
    rw [this]; simp only [List.length_append]; omega

theorem joinL_snoc (sep : List UInt8) (l : List (List UInt8)) (k : Nat) (hk : k < l.length) (h0 : 0 < k) : joinL sep (l.take (k + 1)) = joinL sep (l.take k) ++ sep ++ l.getD k [] := by
  rw [take_snoc (d := []) hk, joinL_app _ _ _ (by
    intro h
    have := congrArg List.length h
    simp only [List.length_take, List.length_nil] at this; omega) (by simp)]
  simp [joinL]
theorem joinL_one (sep : List UInt8) (l : List (List UInt8)) (h : 0 < l.length) : joinL sep (l.take (0 + 1)) = l.getD 0 [] := by
  rw [take_snoc (d := []) h]; simp [joinL]

/-- Join, of a slice that was grown. -/
theorem c_abatisref01_Join {H : Heap} (l : List (List UInt8)) (sep : List UInt8) (i ver : Nat) (tip : Bool) (cs : List (List UInt8)) (hi : H[i]? = some (some (.cells ver (strs cs)))) (hl : l.length ≤ cs.length) (hcs : ∀ k, k < l.length → cs.getD k [] = l.getD k [])
    (hlen : (joinL sep l).length ≤ 140737488355328) (hsh : l.length ≤ 1000000000) :
    SCall Tryd.prog 20 [.buf i ver 0 l.length 1 tip, .str (bs sep)] H fun r' H' => r' = .str (bs (joinL sep l)) ∧ H' = H := by
  have ho : obj H i ver = some (strs cs) := by simp [obj, hi]
  refine scall_of (ord := fun _ => []) (rs := [4]) Tryd.func20 rfl (by kernel_rfl) (by kernel_rfl) (by kernel_rfl) Tryd.ntmps20 fun hb hargs => go 200 (fun _ => false) mixed ?_
  simp (disch := omega) only [↓reduceIte, go_sem] <;> repeat with_reducible refine And.intro (by first | omega | decide) ?_
  refine runs_loopA (fun k : Nat => k ≤ l.length) (fun k => l.length - k) [true, true, false, false, false, true, true]
    (fun k => slots 25 [.buf i ver 0 l.length 1 tip, .str (bs sep), .any, .any, .any, .str (bs (joinL sep (l.take k))), .int .i64 k])
    (fun _ => H) (by rfl) 0 (Nat.zero_le _) rfl rfl ?_
  intro k hk
  refine go 200 (fun _ => false) mixed ?_
  by_cases hlt : k < l.length
  · have g : (strs cs).getD k .any = .str (bs (l.getD k [])) := by
      rw [strs_getD (by omega), hcs k hlt]
    have gb : k < (strs cs).length := by rw [strs_len]; omega
    have hkl : k < cs.length := by omega
    have t1 := joinL_take sep l k
    have t2 := joinL_take sep l (k + 1)
    rcases Nat.eq_zero_or_pos k with h0 | h0
    · subst h0
      have e := joinL_one sep l hlt
      rw [e] at t2
      have e0 : joinL sep [] = [] := by simp [joinL]
      have e1 : joinL sep (l.take 1) = l.getD 0 [] := e
      simp (disch := omega) only [↓reduceIte, go_sem, hlt, ho, g, gb, hkl, e0, List.length_nil, List.nil_append, strs_len] <;> repeat with_reducible refine And.intro (by first | omega | decide) ?_
      refine rnd_next 1 (by show 1 ≤ l.length; omega) (by show l.length - 1 < l.length - 0; omega) (by rw [e1]; rfl) rfl
    · have e := joinL_snoc sep l k hlt h0
      rw [e] at t2
      simp only [List.length_append] at t2
      simp (disch := omega) only [↓reduceIte, go_sem, hlt, ho, g, gb, h0, hkl, List.length_append, strs_len] <;> repeat with_reducible refine And.intro (by first | omega | decide) ?_
      exact rnd_next (k + 1) (by show k + 1 ≤ l.length; omega) (by show l.length - (k + 1) < l.length - k; omega) (by rw [e]; rfl) rfl
  · simp (disch := omega) only [↓reduceIte, go_sem, hlt] <;> repeat with_reducible refine And.intro (by first | omega | decide) ?_
    have hk2 : k = l.length := by omega
    subst hk2
    refine go 200 (fun _ => false) mixed ?_
    simp (disch := omega) only [↓reduceIte, go_sem] <;> repeat with_reducible refine And.intro (by first | omega | decide) ?_
    exact fin (by simp [retV]) rfl

theorem c_abatisref03_row {H : Heap} {i off : Nat} {gs : List Nat} (hg : Grp H i off gs) : SCall Tryd.prog 31 [.buf i 0 off gs.length 1 false] H fun r' H' => r' = .str (bs (rowF gs)) ∧ H' = H := by
  obtain ⟨⟨cs, hi, hoff, hget⟩, hle, hsh⟩ := hg
  have hiL : ∀ L : Heap, obj (H ++ L) i 0 = some cs := fun L => by
    have : (H ++ L)[i]? = some (some (.cells 0 cs)) := (List.getElem?_append_left (Alive.lt ⟨_, hi⟩)).trans hi
    simp [obj, this]
  refine scall_of (ord := fun _ => []) (rs := [2]) Tryd.func31 rfl (by kernel_rfl) (by kernel_rfl) (by kernel_rfl) Tryd.ntmps31 fun hb hargs => go 200 (fun _ => false) mixed ?_
  simp (disch := omega) only [↓reduceIte, go_sem] <;> repeat with_reducible refine And.intro (by first | omega | decide) ?_
  refine Runs.ghost (by rfl) (Ghost.grow (t := 3) (m := 1) rfl) ?_
  refine runs_loopA (fun x : Nat × Nat => x.1 ≤ gs.length) (fun x => gs.length - x.1) [true, false, false, true, true]
    (fun x => slots 21 [.buf i 0 off gs.length 1 false, .any, .any, .buf H.length x.2 0 x.1 1 true, .int .i64 x.1])
    (fun x => H ++ [some (.cells x.2 (strs ((gs.take x.1).map hexF)))]) (by rfl) (0, 0) (Nat.zero_le _) rfl rfl ?_
  rintro ⟨k, ver⟩ hk
  dsimp only at hk
  refine go 200 (fun _ => false) mixed ?_
  by_cases hlt : k < gs.length
  · have g := hget k hlt
    have gl := hle k hlt
    have gb : off + k < cs.length := by omega
    simp (disch := omega) only [↓reduceIte, go_sem, hlt, hiL, g, gb] <;> repeat with_reducible refine And.intro (by first | omega | decide) ?_
    refine (c_abatisref03_group (gs.getD k 0) gl).on (go 200 (fun _ => false) mixed ?_)
    simp (disch := omega) only [↓reduceIte, go_sem, strs_len, List.length_map, List.length_take, Nat.min_eq_left] <;> repeat with_reducible refine And.intro (by first | omega | decide) ?_
    refine ⟨by unfold most; omega, ?_⟩
    refine rnd_next (k + 1, ver + 1) (by show k + 1 ≤ gs.length; omega) (by show gs.length - (k + 1) < gs.length - k; omega) rfl ?_
    show _ = H ++ [some (.cells (ver + 1) (strs ((gs.take (k + 1)).map hexF)))]
    rw [take_snoc (d := 0) hlt]; simp [strs]
  · simp (disch := omega) only [↓reduceIte, go_sem, hlt] <;> repeat with_reducible refine And.intro (by first | omega | decide) ?_
    have hk2 : k = gs.length := by omega
    subst hk2
    refine go 200 (fun _ => false) mixed ?_
    simp (disch := omega) only [↓reduceIte, go_sem] <;> repeat with_reducible refine And.intro (by first | omega | decide) ?_
    rw [List.take_length]
    have hlen : (joinL [58] (gs.map hexF)).length ≤ 140737488355328 := by
      have := joinL_len [58] 4 (gs.map hexF) (fun p hp => by
        obtain ⟨n, hn, rfl⟩ := List.mem_map.mp hp
        obtain ⟨j, hj, rfl⟩ := List.getElem_of_mem hn
        have := hle j hj
        simp only [List.getD_eq_getElem?_getD, hj, List.getElem?_eq_getElem, Option.getD_some] at this
        exact hexF_len _ this)
      simp only [List.length_map, List.length_singleton] at this; omega
    have hj := c_abatisref01_Join (H := H ++ [some (.cells ver (strs (gs.map hexF)))]) (gs.map hexF) [58] H.length ver true (gs.map hexF) (by rw [get_tail0]; rfl) (Nat.le_refl _) (fun k _ => rfl) hlen (by rw [List.length_map]; omega)
    rw [List.length_map] at hj
    refine hj.mono ?_
    rintro r' H' ⟨rfl, rfl⟩
    refine go 200 (fun _ => false) mixed ?_
    simp (disch := omega) only [↓reduceIte, go_sem] <;> repeat with_reducible refine And.intro (by first | omega | decide) ?_
    exact fin_drop (.inr rfl) hb rfl (by simp)
end Go.Proofs.GoC
