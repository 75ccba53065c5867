/-
  What the functions compute: the last one of a byte. No claim by itself.
-/
import Derived.Test.YtepcccepheddjaaDoorGoStd
namespace Go.Proofs.GoC
open Go Go.Proofs.SL
set_option linter.unusedSimpArgs false
set_option linter.unusedVariables false
set_option maxRecDepth 10000
set_option maxHeartbeats 2000000

/-! Texts. -/
def lastI (c : UInt8) (l : List UInt8) : Int := Lib.lastIndexByte (bs l) c.toNat

theorem c_strings_LastIndexByte (l : List UInt8) (c : UInt8) (hl : l.length < 1000000) : PCall Tryd.prog 23 [.str (bs l), .int .u8 (c.toNat : Nat)] (.int .i64 (lastI c l)) := by
  intro H
  refine scall_lift Tryd.func23 rfl (by kernel_rfl) fun β w vs hI hs hv => ?_
  obtain ⟨v, u, rfl, h1, h2⟩ := vals2 hs hv
  rw [h1.str_inv, h2.int_inv]
  exact (Tryd.strings_LastIndexByte (bs l) (c.toNat : Nat) (by rw [bs_size]; omega) w).mono fun e w' ⟨he, hw⟩ => ⟨_, he, hw ▸ Below.same, fun β' w2 => .int _ _⟩

theorem lastI_cases (c : UInt8) (l : List UInt8) : (c ∉ l ∧ lastI c l = -1) ∨ ∃ a d, l = a ++ c :: d ∧ c ∉ d ∧ lastI c l = (a.length : Nat) := by
  have hget : ∀ j, j < l.length → (((bs l).data[j]!).toNat : Int) = ((l.getD j 0).toNat : Int) := fun j hj => by
    simp [bs, hj, List.getD_eq_getElem?_getD]
  have hc : ∀ j, j < l.length → ((((bs l).data[j]!).toNat : Int) = (c.toNat : Int) ↔ l.getD j 0 = c) := fun j hj => by
    rw [hget j hj]
    constructor
    · intro h; exact UInt8.toNat_inj.mp (by omega)
    · intro h; rw [h]
  rcases Lib.lastIdx_spec (bs l) c.toNat l.length with ⟨e, hn⟩ | ⟨i, hi, e, hci, hn⟩
  · left
    refine ⟨fun hm => ?_, ?_⟩
    · obtain ⟨j, hj, rfl⟩ := List.getElem_of_mem hm
      exact hn j hj ((hc j hj).mpr (by simp [List.getD_eq_getElem?_getD, hj]))
    · unfold lastI Lib.lastIndexByte; rw [bs_size]; exact e
  · right
    have hci' := (hc i hi).mp hci
    refine ⟨l.take i, l.drop (i + 1), ?_, fun hm => ?_, ?_⟩
    · have : l[i] = c := by simpa [List.getD_eq_getElem?_getD, hi] using hci'
      rw [← this, ← List.drop_eq_getElem_cons hi, List.take_append_drop]
    · obtain ⟨j, hj, hjc⟩ := List.getElem_of_mem hm
      rw [List.length_drop] at hj
      rw [List.getElem_drop] at hjc
      exact hn (i + 1 + j) (by omega) (by omega) ((hc _ (by omega)).mpr (by simp [List.getD_eq_getElem?_getD, show i + 1 + j < l.length by omega, hjc]))
    · unfold lastI Lib.lastIndexByte; rw [bs_size, e, List.length_take]; congr 1; omega

def IsLast (c : UInt8) (l : List UInt8) (at' : Int) : Prop := (c ∉ l ∧ at' = -1) ∨ ∃ a d, l = a ++ c :: d ∧ c ∉ d ∧ at' = (a.length : Nat)
theorem split_last {c : UInt8} {a d a' d' : List UInt8} (hd : c ∉ d) (hd' : c ∉ d') (h : a ++ c :: d = a' ++ c :: d') : a = a' ∧ d = d' := by
  rcases List.append_eq_append_iff.mp h with ⟨m, e1, e2⟩ | ⟨m, e1, e2⟩
  · cases m with
    | nil => simp at e1 e2; exact ⟨e1.symm, e2⟩
    | cons x m => simp at e2; exact absurd (by rw [e2.2]; simp) hd
  · cases m with
    | nil => simp at e1 e2; exact ⟨e1, e2.symm⟩
    | cons x m => simp at e2; exact absurd (by rw [e2.2]; simp) hd'
theorem isLast_unique {c : UInt8} {l : List UInt8} {i j : Int} (h : IsLast c l i) (h' : IsLast c l j) : i = j := by
  rcases h with ⟨h1, rfl⟩ | ⟨a, d, rfl, h2, rfl⟩ <;> rcases h' with ⟨h1', rfl⟩ | ⟨a', d', e, h2', rfl⟩
  · rfl
  · exact absurd (by rw [e]; simp) h1
  · exact absurd (by simp) h1'
  · rw [(split_last h2 h2' e).1]
theorem isLast_step {c : UInt8} {l : List UInt8} {k : Nat} (hk : k < l.length) {i : Int} (h : IsLast c (l.take k) i) : IsLast c (l.take (k + 1)) (if l.getD k 0 = c then (k : Int) else i) := by
  have hg : l[k] = l.getD k 0 := by simp [List.getD_eq_getElem?_getD, hk]
  have hgk := List.take_succ_eq_append_getElem hk
  rw [hgk, hg]
  generalize l.getD k 0 = x
  by_cases hc : x = c
  · rw [if_pos hc, hc]
    exact .inr ⟨l.take k, [], rfl, by simp, by rw [List.length_take]; omega⟩
  · rw [if_neg hc]
    rcases h with ⟨h1, rfl⟩ | ⟨a, d, e, h2, rfl⟩
    · exact .inl ⟨by simp only [List.mem_append, List.mem_singleton, not_or]; exact ⟨h1, Ne.symm hc⟩, rfl⟩
    · exact .inr ⟨a, d ++ [x], by rw [e]; simp, by simp only [List.mem_append, List.mem_singleton, not_or]; exact ⟨h2, Ne.symm hc⟩, rfl⟩
end Go.Proofs.GoC
