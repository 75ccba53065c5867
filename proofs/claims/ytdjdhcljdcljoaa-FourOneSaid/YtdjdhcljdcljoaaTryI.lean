/-
  What the functions compute, part eight: a loose text's address in the reference. No claim by itself.
-/
import Derived.Test.YtdjdhcljdcljoaaTryH
namespace Go.Proofs.TryC
open Go Go.Proofs.SL
set_option linter.unusedSimpArgs false
set_option linter.unusedVariables false
set_option maxRecDepth 10000
set_option maxHeartbeats 1000000

theorem room_step (k : Nat) (hk : k < 4) : room k = 256 * room (k + 1) := by
  have hk4 : k = 0 ∨ k = 1 ∨ k = 2 ∨ k = 3 := by omega
  rcases hk4 with rfl | rfl | rfl | rfl <;> rfl

theorem room_top (k : Nat) (hk : k ≤ 4) : 256 ^ k * room k = 4294967296 := by
  have hk4 : k = 0 ∨ k = 1 ∨ k = 2 ∨ k = 3 ∨ k = 4 := by omega
  rcases hk4 with rfl | rfl | rfl | rfl | rfl <;> rfl

theorem room_next {k acc n : Nat} (hk : k < 4) (h : acc * room k < 4294967296) (hn : n ≤ 255) : (acc * 256 + n) * room (k + 1) < 4294967296 := by
  rw [← room_top k (by omega)] at h
  rw [← room_top (k + 1) (by omega)]
  have h1 : acc < 256 ^ k := Nat.lt_of_mul_lt_mul_right h
  have h2 : acc * 256 + n < 256 ^ (k + 1) := by
    rw [Nat.pow_succ]
    generalize 256 ^ k = X at *
    omega
  exact Nat.mul_lt_mul_of_pos_right h2 (by have := (room_in (k + 1)).1; omega)

theorem last_drop (ps : List (List UInt8)) (k : Nat) (h : k + 1 = ps.length) : ps.drop k = [lastF ps] := by
  have hk : k < ps.length := by omega
  rw [List.drop_eq_getElem_cons hk, List.drop_eq_nil_of_le (by omega), ← getDL_of hk]
  unfold lastF
  rw [show ps.length - 1 = k by omega]

theorem c8 (l : List UInt8) (hl : l.length < 900000) : PCall Try.prog 8 [.str (bs l)] (looseV (piecesF l)) := by
  intro H
  refine scall_of (ord := fun _ => []) (rs := [2, 3]) Try.func8 rfl (by kernel_rfl) (by kernel_rfl) (by kernel_rfl) Try.ntmps8 fun hb hargs => go 200 (fun t => false) mixed ?_
  simp only [↓reduceIte, go_sem]
  refine (c14 l 46 (by omega)).on (go 4 (fun _ => false) mixed ?_)
  have hlen := piecesF_len l
  have hshort := piecesF_short l
  have hlen0 := splitA_len 46 l [] []
  obtain ⟨ps, hps⟩ : ∃ ps, ps = piecesF l := ⟨_, rfl⟩
  rw [← hps] at hlen hshort ⊢
  unfold piecesF at hps
  generalize splitA 46 l [] [] = qs at *
  simp only [List.length_nil] at hlen0
  simp only [↓reduceIte, go_sem]
  refine runs_cut [true, false, true, true, true] (fun σ H' => σ = slots 97 [.str (bs l), .any, .int .u32 0, .int .i64 0, .sl 1 (strs ps)] ∧ H = H') (by rfl) ?_ ?_
  · have e1' : IntKind.i64.wrap ((qs.length : Int) - 1) = ((qs.length - 1 : Nat) : Int) := by rw [w64 (by omega) (by omega)]; omega
    have g' := strs_getD (l := qs) (k := qs.length - 1) (by omega)
    have el' : qs.getD (qs.length - 1) [] = lastF qs := rfl
    rw [el'] at g'
    have g2' : qs.length - 1 < qs.length := by omega
    have g3' : qs.length - 1 ≤ qs.length := by omega
    refine go 200 (fun _ => false) mixed ?_
    by_cases h1 : (1 : Int) < (qs.length : Int)
    · by_cases h2 : lastF qs = []
      · rw [if_pos ⟨by omega, h2⟩] at hps
        simp only [↓reduceIte, go_sem, e1', g', g2', g3', h1, h2, strs_take, ← hps]
        exact mid_to ⟨rfl, rfl⟩
      · rw [if_neg (fun h => h2 h.2)] at hps
        subst hps
        simp only [↓reduceIte, go_sem, e1', g', g2', h1, h2]
        exact mid_to ⟨rfl, rfl⟩
    · rw [if_neg (fun h => h1 (by omega))] at hps
      subst hps
      simp only [↓reduceIte, go_sem, e1', g', g2', h1]
      exact mid_to ⟨rfl, rfl⟩
  rintro _ _ ⟨rfl, rfl⟩
  clear hps hlen0
  have e1 : IntKind.i64.wrap ((ps.length : Int) - 1) = ((ps.length - 1 : Nat) : Int) := by rw [w64 (by omega) (by omega)]; omega
  have g := strs_getD (l := ps) (k := ps.length - 1) (by omega)
  have el : ps.getD (ps.length - 1) [] = lastF ps := rfl
  rw [el] at g
  have g2 : ps.length - 1 < ps.length := by omega
  have hlast : (lastF ps).length < 1000000 := by
    unfold lastF
    rw [getDL_of g2]
    have := hshort _ (List.getElem_mem g2); omega
  obtain ⟨R, hR⟩ : ∃ R, R = looseV ps := ⟨_, rfl⟩
  rw [← hR]
  unfold looseV at hR
  refine go 18 (fun _ => false) mixed ?_
  simp only [↓reduceIte, go_sem, e1, g, g2]
  refine runs_cut [true, false, true, true, true, true] (fun σ H' => σ = slots 97 [.str (bs l), .any, .int .u32 0, .int .i64 0, .sl 1 (strs ps), .str (bs (lastF ps))] ∧ H = H' ∧ endsF ps = true) (by rfl) ?_ ?_
  · refine go 200 (fun _ => false) mixed ?_
    simp only [↓reduceIte, go_sem]
    refine (c15 (lastF ps) hlast).on (go 200 (fun _ => false) mixed ?_)
    cases hp : partF (lastF ps) with
    | some n =>
      have hn : ¬ n < 0 := by have := partF_in _ _ hp; omega
      simp only [↓reduceIte, go_sem, hn]
      exact mid_to ⟨rfl, rfl, by unfold endsF; rw [hp]; rfl⟩
    | none =>
      by_cases hnil : lastF ps = []
      · have he : ¬ endsF ps = true := by unfold endsF; rw [hp, hnil]; simp
        rw [if_neg he] at hR
        simp only [↓reduceIte, go_sem, hnil, hR]
        exact fin rfl rfl
      · simp only [↓reduceIte, go_sem, hnil]
        refine (c16 (lastF ps) 10 (by omega) (by omega) hlast).on (go 200 (fun _ => false) mixed ?_)
        cases hd : digF 10 (lastF ps) 0 with
        | some n =>
          have hn : ¬ n < 0 := by have := digF_in 10 (by omega) _ _ _ (by omega) (by omega) hd; omega
          simp only [↓reduceIte, go_sem, hn]
          exact mid_to ⟨rfl, rfl, by unfold endsF; rw [hp, hd]; simp [hnil]⟩
        | none =>
          have he : ¬ endsF ps = true := by unfold endsF; rw [hp, hd]; simp
          rw [if_neg he] at hR
          simp only [↓reduceIte, go_sem, hR]
          exact fin rfl rfl
  rintro _ _ ⟨rfl, rfl, he⟩
  rw [if_pos he] at hR
  refine go 200 (fun _ => false) mixed ?_
  by_cases h4 : 4 < ps.length
  · rw [if_pos h4] at hR
    have h4' : (4 : Int) < (ps.length : Int) := by omega
    simp only [↓reduceIte, go_sem, h4', hR]
    exact fin rfl rfl
  rw [if_neg h4] at hR
  have h4' : ¬ (4 : Int) < (ps.length : Int) := by omega
  simp only [↓reduceIte, go_sem, h4']
  obtain ⟨G, hG⟩ : ∃ G, G = looseGo ps 0 0 := ⟨_, rfl⟩
  rw [← hG] at hR
  refine runs_loopA (fun x : Nat × Nat => x.1 < ps.length ∧ x.2 * room x.1 < 4294967296 ∧ looseGo (ps.drop x.1) x.2 x.1 = G) (fun x => ps.length - x.1)
    [true, false, true, true, true, true, true, true]
    (fun x => slots 97 [.str (bs l), .any, .int .u32 0, .int .i64 0, .sl 1 (strs ps), .str (bs (lastF ps)), .int .i64 x.2, .int .i64 x.1])
    (fun x => H) (by rfl) (0, 0) ⟨hlen.1, by show 0 * _ < _; omega, hG.symm⟩ rfl rfl ?_
  rintro ⟨k, acc⟩ ⟨hk, hacc, hgo⟩
  have hk : k < ps.length := hk
  have hacc : acc * room k < 4294967296 := hacc
  have hgo : looseGo (ps.drop k) acc k = G := hgo
  have e3 : IntKind.i64.wrap ((k : Int) + 1) = ((k + 1 : Nat) : Int) := by rw [w64 (by omega) (by omega)]; omega
  have gk := strs_getD (l := ps) (k := k) hk
  refine go 200 (fun _ => false) mixed ?_
  by_cases hlt : k + 1 < ps.length
  · simp only [↓reduceIte, go_sem, e3, hlt, gk, hk]
    refine (c15 (ps.getD k []) (by rw [getDL_of hk]; have := hshort _ (List.getElem_mem hk); omega)).on (go 200 (fun _ => false) mixed ?_)
    rw [List.drop_eq_getElem_cons hk, List.drop_eq_getElem_cons hlt, ← getDL_of hk] at hgo
    simp only [looseGo] at hgo
    cases hp : partF (ps.getD k []) with
    | none =>
      rw [hp] at hgo
      simp only at hgo
      rw [← hgo] at hR
      simp only [↓reduceIte, go_sem, hR]
      exact fin rfl rfl
    | some n =>
      rw [hp] at hgo
      simp only at hgo
      have hn := partF_in _ _ hp
      have hn0 : ¬ n < 0 := by omega
      by_cases hr : 255 < n
      · rw [if_pos hr] at hgo
        rw [← hgo] at hR
        simp only [↓reduceIte, go_sem, hR, hn0, hr]
        exact fin rfl rfl
      · rw [if_neg hr] at hgo
        have hb := room_in k
        have ha : acc < 4294967296 := Nat.lt_of_le_of_lt (Nat.le_mul_of_pos_right acc (by omega)) hacc
        have f1 : IntKind.i64.wrap ((acc : Int) * 256) = (acc : Int) * 256 := w64 (by omega) (by omega)
        have f2 : IntKind.i64.wrap ((acc : Int) * 256 + n) = ((acc * 256 + n.toNat : Nat) : Int) := by rw [w64 (by omega) (by omega)]; omega
        simp only [↓reduceIte, go_sem, hn0, hr, f1, f2, e3]
        refine rnd_next (k + 1, acc * 256 + n.toNat) ⟨hlt, room_next (by omega) hacc (by omega), ?_⟩ (by show ps.length - (k + 1) < _; omega) rfl rfl
        show looseGo (ps.drop (k + 1)) _ _ = G
        rw [List.drop_eq_getElem_cons hlt]
        exact hgo
  · simp only [↓reduceIte, go_sem, e3, hlt]
    have hkl : k + 1 = ps.length := by omega
    rw [last_drop ps k hkl] at hgo
    refine go 200 (fun _ => false) mixed ?_
    simp only [↓reduceIte, go_sem]
    refine runs_loopA (fun x : Nat => k + 1 ≤ x ∧ x ≤ 5) (fun x => 5 - x)
      [true, false, true, true, true, true, true, false, false, true, true]
      (fun x => slots 97 [.str (bs l), .any, .int .u32 0, .int .i64 0, .sl 1 (strs ps), .str (bs (lastF ps)), .int .i64 acc, .any, .any, .int .i64 (room (k + 5 - x)), .int .i64 x])
      (fun x => H) (by rfl) ps.length ⟨by omega, by omega⟩ ?_ rfl ?_
    · rw [show k + 5 - ps.length = 4 by omega]; rfl
    rintro x ⟨hx1, hx2⟩
    refine go 200 (fun _ => false) mixed ?_
    by_cases hx : (x : Int) ≤ 4
    · have hs := room_step (k + 5 - (x + 1)) (by omega)
      rw [show k + 5 - (x + 1) + 1 = k + 5 - x by omega] at hs
      have hb := room_in (k + 5 - (x + 1))
      have f1 : IntKind.i64.wrap ((room (k + 5 - x) : Int) * 256) = (room (k + 5 - (x + 1)) : Int) := by rw [w64 (by omega) (by omega)]; omega
      have f2 : IntKind.i64.wrap ((x : Int) + 1) = ((x + 1 : Nat) : Int) := by rw [w64 (by omega) (by omega)]; omega
      simp only [↓reduceIte, go_sem, hx, f1, f2]
      exact rnd_next (x + 1) ⟨by omega, by omega⟩ (by show 5 - (x + 1) < 5 - x; omega) rfl rfl
    · have hx5 : x = 5 := by omega
      subst hx5
      rw [show k + 5 - 5 = k by omega]
      simp only [↓reduceIte, go_sem, hx]
      refine go 200 (fun _ => false) mixed ?_
      simp only [↓reduceIte, go_sem]
      refine (c15 (lastF ps) hlast).on (go 200 (fun _ => false) mixed ?_)
      simp only [looseGo] at hgo
      cases hp : partF (lastF ps) with
      | none =>
        rw [hp] at hgo
        simp only at hgo
        rw [← hgo] at hR
        simp only [↓reduceIte, go_sem, hR]
        exact fin rfl rfl
      | some n =>
        rw [hp] at hgo
        simp only at hgo
        have hn := partF_in _ _ hp
        have hn0 : ¬ n < 0 := by omega
        by_cases hr : (room k : Int) ≤ n
        · rw [if_pos hr] at hgo
          rw [← hgo] at hR
          simp only [↓reduceIte, go_sem, hR, hn0, hr]
          exact fin rfl rfl
        · rw [if_neg hr] at hgo
          rw [← hgo] at hR
          have hb := room_in k
          have f1 : IntKind.i64.wrap ((acc : Int) * (room k : Int)) = ((acc * room k : Nat) : Int) := by rw [← Int.natCast_mul, w64 (by omega) (by omega)]
          have f2 : IntKind.i64.wrap (((acc * room k : Nat) : Int) + n) = ((acc * room k + n.toNat : Nat) : Int) := by rw [w64 (by omega) (by omega)]; omega
          simp only [↓reduceIte, go_sem, hn0, hr, f1, f2, hR]
          exact fin rfl rfl
end Go.Proofs.TryC
