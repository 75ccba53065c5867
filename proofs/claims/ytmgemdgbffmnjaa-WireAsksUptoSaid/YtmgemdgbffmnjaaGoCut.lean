/-
  The library's Cut and Contains at this program, as contracts of SL; the end of a function that gives a slice that it grew, and something else. No claim by itself.
-/
import Derived.Test.YtmgemdgbffmnjaaGoM1
import Derived.Test.YtmgemdgbffmnjaaGoStd
namespace Go.Proofs.GoC
open Go Go.Proofs.SL
set_option linter.unusedSimpArgs false
set_option linter.unusedVariables false
set_option maxRecDepth 10000
set_option maxHeartbeats 2000000

theorem GTab.maxLen {H : Heap} (h : GTab H) {β : Nat → Option Nat} {w : World} (hI : SL.Inv β H w) : ∃ m, w.cell? ⟨0, 0, none⟩ = some (.int .i64 m) := by
  obtain ⟨cs, t, fz, ⟨m, rfl⟩, h2⟩ := h.len 0 (by kernel_rfl)
  exact ⟨m, by simp [World.cell?, h2.block hI]⟩

def cutV (x : List UInt8 × List UInt8 × Bool) : PV := .tup [.str (bs x.1), .str (bs x.2.1), .bool x.2.2]

theorem c_strings_Cut (l sep : List UInt8) (hl : l.length < 1100000) : GCall 89 [.str (bs l), .str (bs sep)] (cutV (Lib.cut l sep)) := by
  intro H hG
  refine scall_lift Try.func89 rfl (by kernel_rfl) fun β w vs hI hs hv => ?_
  obtain ⟨v, u, rfl, h1, h2⟩ := vals2 hs hv
  rw [h1.str_inv, h2.str_inv]
  obtain ⟨m, hm⟩ := hG.maxLen hI
  refine (Try.strings_Cut (bs l) (bs sep) m w (by rw [bs_size]; omega) hm).mono fun e w' ⟨he, n, hw⟩ => ⟨_, he, ?_, fun β' w2 => ?_⟩
  · rw [hw]; exact ⟨rfl, rfl, rfl, Nat.le_refl _, fun _ _ => rfl⟩
  · rw [show (bs l).data.toList = l by simp [bs], show (bs sep).data.toList = sep by simp [bs]]
    refine .tup _ _ rfl fun i v p hv hp => ?_
    rcases i with _ | _ | _ | i
    · cases hv; cases hp; exact .str _
    · cases hv; cases hp; exact .str _
    · cases hv; cases hp; exact .bool _
    · simp at hv

/-- The end of a function that gives a slice that it grew, and something else. -/
theorem fin_freeze2 {H0 L : Heap} {Q : PV → Heap → Prop} {σ : Env} {x : AEx} {t u i ver off len m : Nat} {tip : Bool} {cs xs : List PV} {q : PV} (hx : x = .normal ∨ x = .ret) (hb : HB H0.length H0) (ht : σ[t]? = some (.buf i ver off len m tip))
    (hu : σ[u]? = some q) (htu : t ≠ u) (hq : Bdd H0.length q)
    (hi : H0.length ≤ i) (ho : (H0 ++ L)[i]? = some (some (.cells ver cs))) (hfx : flat xs = subCells cs off (len * m)) (hl : xs.length = len) (hm : ∀ x ∈ xs, x.cells.length = m) (hbd : ∀ x ∈ xs, Bdd H0.length x) (h : Q (.tup [.sl m xs, q]) H0) :
    SL.Ends H0 [t, u] Q x σ (H0 ++ L) := by
  have hlt : t < σ.length := by
    rcases Nat.lt_or_ge t σ.length with h | h
    · exact h
    · rw [List.getElem?_eq_none h] at ht; cases ht
  have g := Ghost.freeze (H0 := H0) ht ho hfx hl hm
  have e : (H0 ++ L).set i none = H0 ++ L.set (i - H0.length) none := List.set_append_right _ _ hi
  rw [e] at g
  have hg : (σ.set t (.sl m xs)).getD t .any = .sl m xs := by simp [List.getD_eq_getElem?_getD, hlt]
  have hg2 : (σ.set t (.sl m xs)).getD u .any = q := by simp [List.getD_eq_getElem?_getD, List.getElem?_set_ne htu, hu]
  have hd := SL.Ends.drop (Q := Q) (rs := [t, u]) (σ := σ.set t (.sl m xs)) (L := L.set (i - H0.length) none) hx hb (by
    intro t' ht'
    simp only [List.mem_cons, List.not_mem_nil, or_false] at ht'
    rcases ht' with rfl | rfl
    · rw [hg]; exact bdd_sl.mpr hbd
    · rw [hg2]; exact hq) (by simp only [retV, List.map_cons, List.map_nil]; rw [hg, hg2]; exact h)
  obtain ⟨h1, σ', H', g', hq⟩ := hd
  exact ⟨h1, σ', H', g.trans g', hq⟩

theorem c_strings_Contains (l : List UInt8) (c : UInt8) : PCall Try.prog 94 [.str (bs l), .str (bs [c])] (.bool (decide (c ∈ l))) := by
  intro H
  refine scall_lift Try.func94 rfl (by kernel_rfl) fun β w vs hI hs hv => ?_
  obtain ⟨v, u, rfl, h1, h2⟩ := vals2 hs hv
  rw [h1.str_inv, h2.str_inv]
  refine (Try.strings_Contains_one (bs l) c w).mono fun e w' ⟨he, hw⟩ => ⟨_, he, hw ▸ Below.same, fun β' w2 => ?_⟩
  have : decide (0 ≤ Lib.indexByte (bs l).data.toList c) = decide (c ∈ l) := by
    rw [show (bs l).data.toList = l by simp [bs]]
    by_cases hc : c ∈ l
    · have h1 : 0 ≤ Lib.indexByte l c := by
        rcases Int.lt_or_le (Lib.indexByte l c) 0 with h | h
        · have h2 := Lib.indexByte_ge l c
          obtain ⟨k, hk, hkc⟩ := List.getElem_of_mem hc
          exact absurd (by rw [List.getElem?_eq_getElem hk, hkc]) (Lib.indexByte_none (by omega) k)
        · exact h
      simp [hc, h1]
    · have h1 : ¬ 0 ≤ Lib.indexByte l c := fun h => by
        obtain ⟨h2, _⟩ := Lib.indexByte_some (l := l) (c := c) (o := (Lib.indexByte l c).toNat) (by omega)
        exact hc (List.mem_of_getElem? h2)
      simp [hc, h1]
  rw [this]
  exact .bool _

theorem joinL_cons (sep a : List UInt8) (l : List (List UInt8)) (h : l ≠ []) : joinL sep (a :: l) = a ++ sep ++ joinL sep l := by
  cases l with
  | nil => exact absurd rfl h
  | cons b l => simp [joinL, List.intercalate, List.intersperse]

theorem joinL_len (sep : List UInt8) (m : Nat) : ∀ l : List (List UInt8), (∀ p ∈ l, p.length ≤ m) → (joinL sep l).length ≤ l.length * (m + sep.length)
  | [], _ => by simp [joinL]
  | [a], h => by have := h a (by simp); simp [joinL]; omega
  | a :: b :: l, h => by
    have h1 := h a (by simp)
    have h2 := joinL_len sep m (b :: l) (fun p hp => h p (List.mem_cons_of_mem _ hp))
    rw [joinL_cons _ _ _ (by simp)]
    simp only [List.length_append, List.length_cons] at *
    rw [Nat.add_mul _ 1]; omega

theorem take_snoc {α : Type} {l : List α} {k : Nat} {d : α} (h : k < l.length) : l.take (k + 1) = l.take k ++ [l.getD k d] := by
  rw [List.take_add_one, List.getElem?_eq_getElem h]; simp [List.getD_eq_getElem?_getD, h]

theorem joinL_app (sep : List UInt8) : ∀ (a b : List (List UInt8)), a ≠ [] → b ≠ [] → joinL sep (a ++ b) = joinL sep a ++ sep ++ joinL sep b
  | [], _, h, _ => absurd rfl h
  | [x], b, _, hb => by rw [List.singleton_append, joinL_cons _ _ _ hb]; simp [joinL]
  | x :: y :: a, b, _, hb => by
    rw [List.cons_append, joinL_cons _ _ _ (by simp), joinL_app sep (y :: a) b (by simp) hb, joinL_cons _ _ (y :: a) (by simp)]
    simp

theorem joinL_take (sep : List UInt8) (l : List (List UInt8)) (k : Nat) : (joinL sep (l.take k)).length ≤ (joinL sep l).length := by
  by_cases h1 : l.take k = []
  · rw [h1]; simp [joinL]
  by_cases h2 : l.drop k = []
  · rw [List.take_of_length_le (List.drop_eq_nil_iff.mp h2)]; exact Nat.le_refl _
  · have := joinL_app sep (l.take k) (l.drop k) h1 h2
    rw [List.take_append_drop] at this
    rw [this]; simp only [List.length_append]; omega

theorem joinL_snoc (sep : List UInt8) (l : List (List UInt8)) (k : Nat) (hk : k < l.length) (h0 : 0 < k) : joinL sep (l.take (k + 1)) = joinL sep (l.take k) ++ sep ++ l.getD k [] := by
  rw [take_snoc (d := []) hk, joinL_app _ _ _ (by
    intro h
    have := congrArg List.length h
    simp only [List.length_take, List.length_nil] at this; omega) (by simp)]
  simp [joinL]
theorem joinL_one (sep : List UInt8) (l : List (List UInt8)) (h : 0 < l.length) : joinL sep (l.take (0 + 1)) = l.getD 0 [] := by
  rw [take_snoc (d := []) h]; simp [joinL]

/-- Join, of a slice that was grown. -/
theorem c_abatisref01_Join {H : Heap} (l : List (List UInt8)) (sep : List UInt8) (i ver : Nat) (tip : Bool) (cs : List (List UInt8)) (hi : H[i]? = some (some (.cells ver (strs cs)))) (hl : l.length ≤ cs.length) (hcs : ∀ k, k < l.length → cs.getD k [] = l.getD k [])
    (hlen : (joinL sep l).length ≤ 140737488355328) (hsh : l.length ≤ 1000000000) :
    SCall Try.prog 48 [.buf i ver 0 l.length 1 tip, .str (bs sep)] H fun r' H' => r' = .str (bs (joinL sep l)) ∧ H' = H := by
  have ho : obj H i ver = some (strs cs) := by simp [obj, hi]
  refine scall_of (ord := fun _ => []) (rs := [4]) Try.func48 rfl (by kernel_rfl) (by kernel_rfl) (by kernel_rfl) Try.ntmps48 fun hb hargs => go 200 (fun _ => false) mixed ?_
  simp (disch := omega) only [↓reduceIte, go_sem] <;> repeat with_reducible refine And.intro (by first | omega | decide) ?_
  refine runs_loopA (fun k : Nat => k ≤ l.length) (fun k => l.length - k) [true, true, false, false, false, true, true]
    (fun k => slots 25 [.buf i ver 0 l.length 1 tip, .str (bs sep), .any, .any, .any, .str (bs (joinL sep (l.take k))), .int .i64 k])
    (fun _ => H) (by rfl) 0 (Nat.zero_le _) rfl rfl ?_
  intro k hk
  refine go 200 (fun _ => false) mixed ?_
  by_cases hlt : k < l.length
  · have g : (strs cs).getD k .any = .str (bs (l.getD k [])) := by
      rw [strs_getD (by omega), hcs k hlt]
    have gb : k < (strs cs).length := by rw [strs_len]; omega
    have hkl : k < cs.length := by omega
    have t1 := joinL_take sep l k
    have t2 := joinL_take sep l (k + 1)
    rcases Nat.eq_zero_or_pos k with h0 | h0
    · subst h0
      have e := joinL_one sep l hlt
      rw [e] at t2
      have e0 : joinL sep [] = [] := by simp [joinL]
      have e1 : joinL sep (l.take 1) = l.getD 0 [] := e
      simp (disch := omega) only [↓reduceIte, go_sem, hlt, ho, g, gb, hkl, e0, List.length_nil, List.nil_append, strs_len] <;> repeat with_reducible refine And.intro (by first | omega | decide) ?_
      refine rnd_next 1 (by show 1 ≤ l.length; omega) (by show l.length - 1 < l.length - 0; omega) (by rw [e1]; rfl) rfl
    · have e := joinL_snoc sep l k hlt h0
      rw [e] at t2
      simp only [List.length_append] at t2
      simp (disch := omega) only [↓reduceIte, go_sem, hlt, ho, g, gb, h0, hkl, List.length_append, strs_len] <;> repeat with_reducible refine And.intro (by first | omega | decide) ?_
      exact rnd_next (k + 1) (by show k + 1 ≤ l.length; omega) (by show l.length - (k + 1) < l.length - k; omega) (by rw [e]; rfl) rfl
  · simp (disch := omega) only [↓reduceIte, go_sem, hlt] <;> repeat with_reducible refine And.intro (by first | omega | decide) ?_
    have hk2 : k = l.length := by omega
    subst hk2
    refine go 200 (fun _ => false) mixed ?_
    simp (disch := omega) only [↓reduceIte, go_sem] <;> repeat with_reducible refine And.intro (by first | omega | decide) ?_
    exact fin (by simp [retV]) rfl

theorem splitA_no (sep : UInt8) : ∀ (l : List UInt8) (acc : List (List UInt8)) (cur : List UInt8), sep ∉ l → splitA sep l acc cur = acc ++ [cur ++ l]
  | [], acc, cur, _ => by simp [splitA]
  | b :: l, acc, cur, h => by
    simp only [List.mem_cons, not_or] at h
    simp only [splitA]
    rw [if_neg (fun e => h.1 e.symm), splitA_no sep l acc _ h.2]
    simp

theorem split_pc (sep : UInt8) : ∀ (p rest : List UInt8) (acc : List (List UInt8)) (cur : List UInt8), sep ∉ p → splitA sep (p ++ sep :: rest) acc cur = splitA sep rest (acc ++ [cur ++ p]) []
  | [], rest, acc, cur, _ => by simp [splitA]
  | b :: p, rest, acc, cur, h => by
    simp only [List.mem_cons, not_or] at h
    simp only [List.cons_append, splitA]
    rw [if_neg (fun e => h.1 e.symm), split_pc sep p rest acc _ h.2]
    simp

end Go.Proofs.GoC
