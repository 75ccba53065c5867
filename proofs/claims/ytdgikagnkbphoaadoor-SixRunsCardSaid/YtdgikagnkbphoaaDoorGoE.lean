/-
  What the functions compute, part four: a part's number, in the code and in the reference. No claim by itself.
-/
import Derived.Test.YtdgikagnkbphoaaDoorGoD
namespace Go.Proofs.GoC
open Go Go.Proofs.SL
set_option linter.unusedSimpArgs false
set_option linter.unusedVariables false
set_option maxRecDepth 10000

/-- A part's number; none: there is none. -/
def partF : List UInt8 → Option Int
  | [] => none
  | [a] => digF 10 [a] 0
  | a :: b :: t => if a = 48 then (if b = 120 ∨ b = 88 then digF 16 t 0 else digF 8 (b :: t) 0) else digF 10 (a :: b :: t) 0

theorem behind2 (p : List UInt8) : behindF p [[48, 120], [48, 88]] = if (p.take 2 = [48, 120] ∨ p.take 2 = [48, 88]) ∧ 1 < p.length then .tup [.str (bs (p.drop 2)), .bool true] else .tup [.str (bs []), .bool false] := by
  simp only [behindF, List.length_cons, List.length_nil]
  by_cases h1 : p.take 2 = [48, 120] <;> by_cases h2 : p.take 2 = [48, 88] <;> by_cases h3 : 1 < p.length <;> simp [h1, h2, h3]

theorem behind1 (p : List UInt8) : behindF p [[48]] = if p.take 1 = [48] ∧ 1 < p.length then .tup [.str (bs (p.drop 1)), .bool true] else .tup [.str (bs []), .bool false] := by
  simp only [behindF, List.length_cons, List.length_nil]

theorem partF_2 (p : List UInt8) (h : (p.take 2 = [48, 120] ∨ p.take 2 = [48, 88]) ∧ 1 < p.length) : partF p = digF 16 (p.drop 2) 0 := by
  rcases p with _ | ⟨a, _ | ⟨b, t⟩⟩
  · simp at h
  · simp at h
  · simp only [List.take_succ_cons, List.take_zero, List.cons.injEq, and_true] at h
    rcases h.1 with ⟨rfl, rfl⟩ | ⟨rfl, rfl⟩ <;> simp [partF]

theorem partF_1 (p : List UInt8) (h2 : ¬ ((p.take 2 = [48, 120] ∨ p.take 2 = [48, 88]) ∧ 1 < p.length)) (h : p.take 1 = [48] ∧ 1 < p.length) : partF p = digF 8 (p.drop 1) 0 := by
  rcases p with _ | ⟨a, _ | ⟨b, t⟩⟩
  · simp at h
  · simp at h
  · simp only [List.take_succ_cons, List.take_zero, List.cons.injEq, and_true, List.length_cons] at h h2
    have ha := h.1
    subst ha
    have hb : ¬ (b = 120 ∨ b = 88) := fun hb => h2 ⟨by rcases hb with rfl | rfl <;> simp, by omega⟩
    simp [partF, hb]

theorem partF_0 (p : List UInt8) (h0 : p ≠ []) (h2 : ¬ ((p.take 2 = [48, 120] ∨ p.take 2 = [48, 88]) ∧ 1 < p.length)) (h : ¬ (p.take 1 = [48] ∧ 1 < p.length)) : partF p = digF 10 p 0 := by
  rcases p with _ | ⟨a, _ | ⟨b, t⟩⟩
  · exact absurd rfl h0
  · rfl
  · simp only [List.take_succ_cons, List.take_zero, List.cons.injEq, and_true, List.length_cons] at h h2
    have ha : ¬ a = 48 := fun ha => h ⟨ha, by omega⟩
    simp [partF, ha]

theorem bdd_resV (n : Nat) (o : Option Int) : Bdd n (resV o) := by cases o <;> simp [resV]

end Go.Proofs.GoC
