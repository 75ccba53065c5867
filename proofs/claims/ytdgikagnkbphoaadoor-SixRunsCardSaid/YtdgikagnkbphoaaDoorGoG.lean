/-
  What the functions compute, part six: a loose text's parts, and whether they end in a number. No claim by itself.
-/
import Derived.Test.YtdgikagnkbphoaaDoorGoF
namespace Go.Proofs.GoC
open Go Go.Proofs.SL
set_option linter.unusedSimpArgs false
set_option linter.unusedVariables false
set_option maxRecDepth 10000

theorem splitA_len (sep : UInt8) : ∀ (l : List UInt8) (acc : List (List UInt8)) (cur : List UInt8), acc.length + 1 ≤ (splitA sep l acc cur).length ∧ (splitA sep l acc cur).length ≤ acc.length + 1 + l.length
  | [], acc, cur => by simp [splitA]
  | b :: l, acc, cur => by
    unfold splitA
    split
    · have := splitA_len sep l (acc ++ [cur]) []
      simp only [List.length_append, List.length_cons, List.length_nil] at this ⊢
      omega
    · have := splitA_len sep l acc (cur ++ [b])
      simp only [List.length_cons] at this ⊢
      omega

/-- Every piece is no longer than the text. -/
theorem splitA_short (sep : UInt8) (N : Nat) : ∀ (l : List UInt8) (acc : List (List UInt8)) (cur : List UInt8), (∀ p ∈ acc, p.length ≤ N) → cur.length + l.length ≤ N → ∀ p ∈ splitA sep l acc cur, p.length ≤ N
  | [], acc, cur, h1, h2, p, hp => by
    simp only [splitA, List.mem_append, List.mem_singleton] at hp
    rcases hp with hp | rfl
    · exact h1 p hp
    · simpa using h2
  | b :: l, acc, cur, h1, h2, p, hp => by
    unfold splitA at hp
    simp only [List.length_cons] at h2
    split at hp
    · refine splitA_short sep N l _ _ (fun q hq => ?_) (by simp; omega) p hp
      simp only [List.mem_append, List.mem_singleton] at hq
      rcases hq with hq | rfl
      · exact h1 q hq
      · omega
    · exact splitA_short sep N l _ _ h1 (by simp; omega) p hp

def lastF (ps : List (List UInt8)) : List UInt8 := ps.getD (ps.length - 1) []

/-- The parts, without an empty last one (if there is another one). -/
def piecesF (l : List UInt8) : List (List UInt8) :=
  if 1 < (splitA 46 l [] []).length ∧ lastF (splitA 46 l [] []) = [] then (splitA 46 l [] []).take ((splitA 46 l [] []).length - 1) else splitA 46 l [] []

theorem piecesF_len (l : List UInt8) : 1 ≤ (piecesF l).length ∧ (piecesF l).length ≤ l.length + 1 := by
  have := splitA_len 46 l [] []
  simp only [List.length_nil] at this
  unfold piecesF
  split
  · simp; omega
  · omega

theorem piecesF_short (l : List UInt8) : ∀ p ∈ piecesF l, p.length ≤ l.length := by
  have h := splitA_short 46 l.length l [] [] (by simp) (by simp)
  unfold piecesF
  split
  · exact fun p hp => h p (List.mem_of_mem_take hp)
  · exact h

theorem digF_in (base : Int) (hb : 0 ≤ base) : ∀ (l : List UInt8) (n m : Int), 0 ≤ n → n ≤ 4294967296 → digF base l n = some m → 0 ≤ m ∧ m ≤ 4294967296
  | [], n, m, h0, h1, h => by simp only [digF, Option.some.injEq] at h; omega
  | b :: l, n, m, h0, h1, h => by
    unfold digF at h
    split at h
    · cases h
    · rename_i hv
      have hm : 0 ≤ n * base := Int.mul_nonneg h0 hb
      refine digF_in base hb l _ m ?_ ?_ h <;> split <;> omega

theorem partF_in (p : List UInt8) (m : Int) (h : partF p = some m) : 0 ≤ m ∧ m ≤ 4294967296 := by
  unfold partF at h
  split at h
  · cases h
  · exact digF_in 10 (by omega) _ _ _ (by omega) (by omega) h
  · split at h
    · split at h
      · exact digF_in 16 (by omega) _ _ _ (by omega) (by omega) h
      · exact digF_in 8 (by omega) _ _ _ (by omega) (by omega) h
    · exact digF_in 10 (by omega) _ _ _ (by omega) (by omega) h

/-- Whether parts end in a number. -/
def endsF (ps : List (List UInt8)) : Bool := (partF (lastF ps)).isSome || ((digF 10 (lastF ps) 0).isSome && !decide (lastF ps = []))

end Go.Proofs.GoC
