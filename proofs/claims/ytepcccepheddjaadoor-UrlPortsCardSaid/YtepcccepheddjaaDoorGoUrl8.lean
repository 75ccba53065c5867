/-
  What the document's functions compute: references, addresses made; the law UrlJoins. No claim by itself.
-/
import Derived.Test.YtepcccepheddjaaDoorGoUrl7
namespace Go.Proofs.GoC
open Go Go.Proofs.SL
set_option linter.unusedSimpArgs false
set_option linter.unusedVariables false
set_option maxRecDepth 10000
set_option maxHeartbeats 8000000

theorem prefix_iff (s p : List UInt8) : Lib.hasPrefix s p = true ↔ s.take p.length = p := by
  unfold Lib.hasPrefix
  rw [List.isPrefixOf_iff_prefix, List.prefix_iff_eq_take]
  exact eq_comm

/-! Addresses made of any text. -/
def letF (l : List UInt8) : List UInt8 := l.filter fun b => decide (97 ≤ b.toNat ∧ b.toNat ≤ 122)
def xtest : List UInt8 := [120, 46, 116, 101, 115, 116]
def goodU (s : List UInt8) : Ur := match parseU s with
  | .ok u => u
  | .error _ => ⟨httpT, xtest, 80 + s.length % 3, 47 :: letF (s.take 9), []⟩
theorem letF_step {s : List UInt8} {k : Nat} (hk : k < s.length) : letF (s.take (k + 1)) = letF (s.take k) ++ (if 97 ≤ (s.getD k 0).toNat ∧ (s.getD k 0).toNat ≤ 122 then [s.getD k 0] else []) := by
  rw [List.take_succ_eq_append_getElem hk, ← getD_of hk]
  unfold letF
  rw [List.filter_append]
  congr 1
  by_cases h : 97 ≤ (s.getD k 0).toNat ∧ (s.getD k 0).toNat ≤ 122
  · rw [if_pos h, List.filter_cons_of_pos (by simpa using h)]; rfl
  · rw [if_neg h, List.filter_cons_of_neg (by simpa using h)]; rfl
theorem letF_len (l : List UInt8) : (letF l).length ≤ l.length := List.length_filter_le ..

/-! How long the parts are. -/
theorem hostN_len {t h : List UInt8} (hh : hostN t = some h) : h.length ≤ t.length + 15 := by
  unfold hostN at hh
  split at hh
  · rename_i n hn
    cases hh
    have := printF_len n (looseK_le hn)
    omega
  · cases hh
  · split at hh
    · cases hh; omega
    · cases hh
theorem hostF_len {s h : List UInt8} (hh : hostF s = some h) : h.length ≤ s.length + 110 := by
  unfold hostF at hh
  split at hh
  · rename_i gs hg
    cases hh
    unfold brF at hg
    split at hg
    · have := print6_len4 gs (parse2_len hg) (parseF_le hg)
      simp only [List.length_cons, List.length_append, List.length_nil]; omega
    · cases hg
  · split at hh
    · cases hh
    · have := hostN_len hh
      rw [lowF_len] at this; omega
theorem portF_ok {a : List UInt8} {own : List UInt8} (hl : a.length < 1000000) (h : (portF a (portI own)).2.2 = true) : (portF a (portI own)).2.1.toNat ≤ 65535 := by
  have hp := portI_in own
  unfold portF at h ⊢
  split
  · simp only; omega
  · split
    · simp only; omega
    · rename_i h1 h2
      rw [if_neg h1, if_neg h2] at h
      split
      · rename_i n hn
        rw [hn] at h
        simp only [Bool.and_eq_true, decide_eq_true_eq] at h
        simp only; omega
      · simp
theorem parseR_len {own rest : List UInt8} {u : Ur} (hl : rest.length < 900000) (h : parseR own rest = .ok u) : u.sch = own ∧ u.host.length + u.path.length + u.query.length ≤ rest.length + 111 ∧ u.port ≤ 65535 := by
  unfold parseR at h
  have l1 := tw_len [35] rest
  have l2 := tw_len [47, 63] (tw [35] rest)
  have l3 := tw_len [63] (dw [47, 63] (tw [35] rest))
  have l4 := portF_len (tw [47, 63] (tw [35] rest)) (portI own)
  have hok := portF_ok (a := tw [47, 63] (tw [35] rest)) (own := own) (by omega)
  generalize portF (tw [47, 63] (tw [35] rest)) (portI own) = pf at *
  split at h
  · rename_i hst hok' hh
    cases h
    have l5 := hostF_len hh
    refine ⟨rfl, ?_, hok hok'⟩
    simp only
    split
    · simp only [List.length_cons, List.length_nil]; omega
    · omega
  · cases h
theorem parseU_len {s : List UInt8} {u : Ur} (h : parseU s = .ok u) : (u.sch = httpT ∨ u.sch = httpsT) ∧ u.host.length + u.path.length + u.query.length ≤ s.length + 111 ∧ u.port ≤ 65535 := by
  unfold parseU at h
  split at h
  · cases h
  · split at h
    · cases h
    · rename_i h1 h2
      have hc := cut_sub s sep3
      obtain ⟨e1, e2, e3⟩ := parseR_len (by omega) h
      refine ⟨?_, by omega, e3⟩
      rw [e1]
      refine portI_pos.mp ?_
      have := portI_in (lowF (Lib.cut s sep3).1)
      have h3 : ¬ portI (lowF (Lib.cut s sep3).1) = 0 := fun h => h2 (.inr (.inl h))
      omega
theorem goodU_len (s : List UInt8) : ((goodU s).sch = httpT ∨ (goodU s).sch = httpsT) ∧ (goodU s).host.length + (goodU s).path.length + (goodU s).query.length ≤ s.length + 111 ∧ (goodU s).port ≤ 65535 := by
  unfold goodU
  cases h : parseU s with
  | ok u => exact parseU_len h
  | error e =>
    have := letF_len (s.take 9)
    rw [List.length_take] at this
    refine ⟨.inl rfl, ?_, by simp only; omega⟩
    simp only [xtest, List.length_cons, List.length_nil]; omega
theorem sch_len {t : List UInt8} (h : t = httpT ∨ t = httpsT) : t.length ≤ 5 := by rcases h with rfl | rfl <;> decide

end Go.Proofs.GoC
