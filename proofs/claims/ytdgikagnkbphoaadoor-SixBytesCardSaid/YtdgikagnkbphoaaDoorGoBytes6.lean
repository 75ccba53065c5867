/-
  What the functions compute: bytes of addresses of 128 bits; the law SixBytes. No claim by itself.
-/
import Derived.Test.YtdgikagnkbphoaaDoorGoM3
namespace Go.Proofs.GoC
open Go Go.Proofs.SL
set_option linter.unusedSimpArgs false
set_option linter.unusedVariables false
set_option maxRecDepth 10000
set_option maxHeartbeats 2000000

theorem bdd_u8s {n : Nat} {l : List Nat} : Bdd n (.agg (u8s l)) := .agg _ fun p hp => by
  obtain ⟨x, _, rfl⟩ := List.mem_map.mp hp
  exact .int _ _
theorem bdd_u16s {n : Nat} {l : List Nat} : Bdd n (.agg (u16s l)) := .agg _ fun p hp => by
  obtain ⟨x, _, rfl⟩ := List.mem_map.mp hp
  exact .int _ _
theorem mem_get8 {gs : List Nat} (hle : ∀ g ∈ gs, g ≤ 255) (k : Nat) : gs.getD k 0 ≤ 255 := by
  rw [List.getD_eq_getElem?_getD]
  rcases Nat.lt_or_ge k gs.length with h | h
  · rw [List.getElem?_eq_getElem h]; exact hle _ (List.getElem_mem h)
  · rw [List.getElem?_eq_none h]; exact Nat.zero_le _
theorem u8s_tag {l : List Nat} {n : Nat} (hl : l.length = n) : List.map tagP (u8s l) = List.replicate n (some (Tag.i IntKind.u8)) := by
  subst hl
  induction l with
  | nil => rfl
  | cons a l ih => simp only [u8s, List.map_cons, List.length_cons, List.replicate_succ] at ih ⊢; rw [ih]; rfl

def ordSB : Nat → List Nat
  | 5 => [0, 1, 2, 3, 4, 5, 6, 7, 8, 9, 10, 11, 14, 18, 5, 12, 13, 15, 16, 17, 15, 12, 13, 16, 17]
  | _ => []
theorem ordSB_5 : ordSB 5 = [0, 1, 2, 3, 4, 5, 6, 7, 8, 9, 10, 11, 14, 18, 5, 12, 13, 15, 16, 17, 15, 12, 13, 16, 17] := rfl
def ordSO : Nat → List Nat
  | 5 => [0, 1, 2, 3, 4, 5, 6, 7, 8, 9, 10, 11, 12, 13, 14, 15]
  | _ => []
theorem ordSO_5 : ordSO 5 = [0, 1, 2, 3, 4, 5, 6, 7, 8, 9, 10, 11, 12, 13, 14, 15] := rfl

theorem c_six_Bytes (gs : List Nat) (hl : gs.length = 8) (hle : ∀ g ∈ gs, g ≤ 65535) : PCall Tryd.prog 12 [.agg (u16s gs)] (.agg (u8s (bytes6 gs))) := by
  intro H
  have t8 : List.take 8 (u16s gs) = u16s gs := List.take_of_length_le (by rw [u16s_len]; omega)
  refine scall_ofc (ord := ordSB) (tdOf_ok _) (rs := [.cell 2 28]) Tryd.func12 rfl (by kernel_rfl) (by kernel_rfl) (by kernel_rfl) Tryd.ntmps12 fun hb hargs => go 200 (fun t => t == 5) mixed ?_
  simp (disch := omega) only [↓reduceIte, go_sem, hl, t8] <;> repeat with_reducible refine And.intro (by first | omega | decide) ?_
  refine runs_loopA (fun k : Nat => k ≤ 8) (fun k => 8 - k)
    [false, true, true, true, false, true]
    (fun k => slots 26 [.any, .ptr H.length 0 0, .ptr (H.length + 1) 0 0, .ptr (H.length + 2) 0 0, .any, .int .i64 k])
    (fun k => H ++ [some (.cells 0 (u16s gs)), some (.cells 0 (List.replicate 16 (PV.int .u8 0))), some (.cells 0 (u8s (bytes6 (gs.take k)) ++ List.replicate (16 - 2 * k) (PV.int .u8 0)))]) (by rfl) 0 (Nat.zero_le _) rfl rfl ?_
  intro k hk
  refine go 200 (fun t => t == 5) mixed ?_
  by_cases hlt : k < 8
  · have g := u16s_get (ns := gs) (k := k) (by omega)
    have gl := mem_get hle k
    have hlen : (u8s (bytes6 (gs.take k))).length = 2 * k := by rw [u8s_len, bytes6_len, List.length_take]; omega
    have e0 : IntKind.u8.wrap ((gs.getD k 0 : Nat) : Int) = ((gs.getD k 0 % 256 : Nat) : Int) := mw_u8
    have f1 := fill_set (z := PV.int .u8 0) (v := PV.int .u8 ((gs.getD k 0 / 256 : Nat) : Int)) (n := 16) hlen (by omega)
    have f2 := fill_set (ps := u8s (bytes6 (gs.take k)) ++ [PV.int .u8 ((gs.getD k 0 / 256 : Nat) : Int)]) (z := PV.int .u8 0) (v := PV.int .u8 ((gs.getD k 0 % 256 : Nat) : Int)) (k := 2 * k + 1) (n := 16) (by rw [List.length_append, hlen]; rfl) (by omega)
    have b1 : (u8s (bytes6 (gs.take k)) ++ List.replicate (16 - 2 * k) (PV.int .u8 0)).length = 16 := by rw [List.length_append, hlen, List.length_replicate]; omega
    have b2 : (u8s (bytes6 (gs.take k)) ++ [PV.int IntKind.u8 ((gs.getD k 0 / 256 : Nat) : Int)] ++ List.replicate (16 - (2 * k + 1)) (PV.int IntKind.u8 0)).length = 16 := by rw [List.length_append, List.length_append, hlen, List.length_replicate]; simp only [List.length_singleton]; omega
    simp (disch := omega) only [↓reduceIte, go_sem, hlt, hl, g, e0, b1, ordSB_5, List.getElem?_nil] <;> repeat with_reducible refine And.intro (by first | omega | decide) ?_
    have hnext : u8s (bytes6 (gs.take k)) ++ [PV.int .u8 ((gs.getD k 0 / 256 : Nat) : Int)] ++ [PV.int .u8 ((gs.getD k 0 % 256 : Nat) : Int)] ++ List.replicate (16 - (2 * k + 1 + 1)) (PV.int .u8 0) = u8s (bytes6 (gs.take (k + 1))) ++ List.replicate (16 - 2 * (k + 1)) (PV.int .u8 0) := by
      rw [take_snoc (d := 0) (show k < gs.length by omega), bytes6_app, show 2 * k + 1 + 1 = 2 * (k + 1) by omega]
      simp [bytes6, u8s]
    refine runs_fork (l1 := [12, 13, 15, 16, 17]) (l2 := [15, 12, 13, 16, 17]) rfl rfl (go 200 (fun t => t == 5) mixed ?_) (go 200 (fun t => t == 5) mixed ?_)
    · simp (disch := omega) only [↓reduceIte, go_sem, hlt, hl, g, e0, b1, b2, f1, f2] <;> repeat with_reducible refine And.intro (by first | omega | decide) ?_
      refine rnd_next (k + 1) (by omega) (by show 8 - (k + 1) < 8 - k; omega) rfl ?_
      rw [hnext]
    · simp (disch := omega) only [↓reduceIte, go_sem, hlt, hl, g, e0, b1, b2, f1, f2] <;> repeat with_reducible refine And.intro (by first | omega | decide) ?_
      refine rnd_next (k + 1) (by omega) (by show 8 - (k + 1) < 8 - k; omega) rfl ?_
      rw [hnext]
  · simp (disch := omega) only [↓reduceIte, go_sem, hlt] <;> repeat with_reducible refine And.intro (by first | omega | decide) ?_
    have hk8 : k = 8 := by omega
    subst hk8
    have b16 : (u8s (bytes6 gs)).length = 16 := by rw [u8s_len, bytes6_len]; omega
    have t16 : List.take 16 (u8s (bytes6 gs)) = u8s (bytes6 gs) := List.take_of_length_le (by omega)
    have tg : List.take 8 gs = gs := List.take_of_length_le (by omega)
    refine go 200 (fun t => t == 5) mixed ?_
    simp (disch := omega) only [↓reduceIte, go_sem, tg, b16, t16] <;> repeat with_reducible refine And.intro (by first | omega | decide) ?_
    exact fin_c (.inr rfl) hb (by simp only [go_sem, t16, b16]) bdd_u8s

theorem c_six_Of (bs' : List Nat) (hl : bs'.length = 16) (hle : ∀ b ∈ bs', b ≤ 255) : PCall Tryd.prog 13 [.agg (u8s bs')] (.agg (u16s (of6 bs'))) := by
  intro H
  have t16 : List.take 16 (u8s bs') = u8s bs' := List.take_of_length_le (by rw [u8s_len]; omega)
  have ol := of6_len bs' 8 (by omega)
  refine scall_ofc (ord := ordSO) (tdOf_ok _) (rs := [.cell 2 23]) Tryd.func13 rfl (by kernel_rfl) (by kernel_rfl) (by kernel_rfl) Tryd.ntmps13 fun hb hargs => go 200 (fun t => t == 5) mixed ?_
  simp (disch := omega) only [↓reduceIte, go_sem, hl, t16] <;> repeat with_reducible refine And.intro (by first | omega | decide) ?_
  refine runs_loopA (fun k : Nat => k ≤ 8) (fun k => 8 - k)
    [false, true, true, true, false, true]
    (fun k => slots 25 [.any, .ptr H.length 0 0, .ptr (H.length + 1) 0 0, .ptr (H.length + 2) 0 0, .any, .int .i64 k])
    (fun k => H ++ [some (.cells 0 (u8s bs')), some (.cells 0 (List.replicate 8 (PV.int .u16 0))), some (.cells 0 (u16s ((of6 bs').take k) ++ List.replicate (8 - k) (PV.int .u16 0)))]) (by rfl) 0 (Nat.zero_le _) rfl rfl ?_
  intro k hk
  refine go 200 (fun t => t == 5) mixed ?_
  by_cases hlt : k < 8
  · have ga := u8s_get (ns := bs') (k := 2 * k) (by omega)
    have gb := u8s_get (ns := bs') (k := 2 * k + 1) (by omega)
    have la := mem_get8 hle (2 * k)
    have lb := mem_get8 hle (2 * k + 1)
    have hlen : (u16s ((of6 bs').take k)).length = k := by rw [u16s_len, List.length_take]; omega
    have hg := of6_get bs' k (by omega)
    have f1 := fill_set (z := PV.int .u16 0) (v := PV.int .u16 (((of6 bs').getD k 0 : Nat) : Int)) (n := 8) hlen (by omega)
    have b1 : (u16s ((of6 bs').take k) ++ List.replicate (8 - k) (PV.int .u16 0)).length = 8 := by rw [List.length_append, hlen, List.length_replicate]; omega
    rw [hg] at f1
    generalize bs'.getD (2 * k) 0 = x at *
    generalize bs'.getD (2 * k + 1) 0 = y at *
    have hnext : u16s ((of6 bs').take k) ++ [PV.int .u16 ((x * 256 + y : Nat) : Int)] ++ List.replicate (8 - (k + 1)) (PV.int .u16 0) = u16s ((of6 bs').take (k + 1)) ++ List.replicate (8 - (k + 1)) (PV.int .u16 0) := by
      rw [take_snoc (d := 0) (show k < (of6 bs').length by omega), hg]
      simp [u16s]
    simp (disch := omega) only [↓reduceIte, go_sem, hlt, hl, ga, gb, b1, f1, ordSO_5] <;> repeat with_reducible refine And.intro (by first | omega | decide) ?_
    refine rnd_next (k + 1) (by omega) (by show 8 - (k + 1) < 8 - k; omega) rfl ?_
    rw [hnext]
  · simp (disch := omega) only [↓reduceIte, go_sem, hlt] <;> repeat with_reducible refine And.intro (by first | omega | decide) ?_
    have hk8 : k = 8 := by omega
    subst hk8
    have b8 : (u16s (of6 bs')).length = 8 := by rw [u16s_len]; omega
    have t8 : List.take 8 (u16s (of6 bs')) = u16s (of6 bs') := List.take_of_length_le (by omega)
    have tg : List.take 8 (of6 bs') = of6 bs' := List.take_of_length_le (by omega)
    refine go 200 (fun t => t == 5) mixed ?_
    simp (disch := omega) only [↓reduceIte, go_sem, tg, b8, t8] <;> repeat with_reducible refine And.intro (by first | omega | decide) ?_
    exact fin_c (.inr rfl) hb (by simp only [go_sem, t8, b8]) bdd_u16s

theorem c_abatislaw03_SixBytes (gs : List Nat) (hl : gs.length = 8) (hle : ∀ g ∈ gs, g ≤ 65535) (bs' : List Nat) (bl : bs'.length = 16) (ble : ∀ b ∈ bs', b ≤ 255) : GCall 4 [.agg (u16s gs), .agg (u8s bs')] (.bool true) := by
  intro H hG
  have t8 : List.take 8 (u16s gs) = u16s gs := List.take_of_length_le (by rw [u16s_len]; omega)
  have t16 : List.take 16 (u8s bs') = u8s bs' := List.take_of_length_le (by rw [u8s_len]; omega)
  have b16 : (bytes6 gs).length = 16 := by rw [bytes6_len]; omega
  have t6 : List.take 16 (u8s (bytes6 gs)) = u8s (bytes6 gs) := List.take_of_length_le (by rw [u8s_len]; omega)
  have tg := u16s_tag hl
  have tb := u8s_tag bl
  simp only [go_sem] at tb
  refine scall_of (ord := fun _ => []) (rs := [4]) Tryd.func4 rfl (by kernel_rfl) (by kernel_rfl) (by kernel_rfl) Tryd.ntmps4 fun hb hargs => go 200 (fun _ => false) mixed ?_
  simp (disch := omega) only [↓reduceIte, go_sem, hl, t8, bl, t16] <;> repeat with_reducible refine And.intro (by first | omega | decide) ?_
  refine (c_six_Bytes gs hl hle).on (go 200 (fun _ => false) mixed ?_)
  simp (disch := omega) only [↓reduceIte, go_sem, hl, t8, b16, t6] <;> repeat with_reducible refine And.intro (by first | omega | decide) ?_
  refine runs_loopA (fun k : Nat => k ≤ 8) (fun k => 8 - k)
    [false, false, true, true, true, true, true]
    (fun k => slots 44 [.any, .any, .ptr H.length 0 0, .ptr (H.length + 1) 0 0, .bool false, .ptr (H.length + 2) 0 0, .int .i64 k])
    (fun k => H ++ [some (.cells 0 (u16s gs)), some (.cells 0 (u8s bs')), some (.cells 0 (u8s (bytes6 gs)))]) (by rfl) 0 (Nat.zero_le _) rfl rfl ?_
  intro k hk
  refine go 200 (fun _ => false) mixed ?_
  by_cases hlt : k < 8
  · have g := u16s_get (ns := gs) (k := k) (by omega)
    have gl := mem_get hle k
    obtain ⟨e1, e2⟩ := bytes6_get gs k (by omega)
    have ga := u8s_get (ns := bytes6 gs) (k := 2 * k) (by omega)
    have gb := u8s_get (ns := bytes6 gs) (k := 2 * k + 1) (by omega)
    rw [e1] at ga
    rw [e2] at gb
    generalize gs.getD k 0 = x at *
    have e3 : x / 256 * 256 + x % 256 = x := by omega
    simp (disch := omega) only [↓reduceIte, go_sem, hlt, hl, b16, g, ga, gb, e3] <;> repeat with_reducible refine And.intro (by first | omega | decide) ?_
    exact rnd_next (k + 1) (by omega) (by show 8 - (k + 1) < 8 - k; omega) rfl rfl
  · simp (disch := omega) only [↓reduceIte, go_sem, hlt] <;> repeat with_reducible refine And.intro (by first | omega | decide) ?_
    have hk8 : k = 8 := by omega
    subst hk8
    refine go 200 (fun _ => false) mixed ?_
    simp (disch := omega) only [↓reduceIte, go_sem, t6, b16] <;> repeat with_reducible refine And.intro (by first | omega | decide) ?_
    refine (c_six_Of (bytes6 gs) b16 (bytes6_le gs hle)).onq (go 200 (fun _ => false) mixed ?_)
    rw [of6_bytes6]
    simp (disch := omega) only [↓reduceIte, go_sem, tg, t8, hl, t16, bl] <;> repeat with_reducible refine And.intro (by first | omega | decide) ?_
    refine (c_six_Of bs' bl ble).onq (go 200 (fun _ => false) mixed ?_)
    simp (disch := omega) only [↓reduceIte, go_sem] <;> repeat with_reducible refine And.intro (by first | omega | decide) ?_
    refine (c_six_Bytes (of6 bs') (of6_len bs' 8 (by omega)) (of6_le bs' ble)).onq (go 200 (fun _ => false) mixed ?_)
    rw [bytes6_of6 bs' 8 (by omega) ble]
    simp (disch := omega) only [↓reduceIte, go_sem, tb, t16, bl] <;> repeat with_reducible refine And.intro (by first | omega | decide) ?_
    refine ⟨_, c_abatislaw03_lives _ hG.app, go 200 (fun _ => false) mixed ?_⟩
    simp (disch := omega) only [↓reduceIte, go_sem] <;> repeat with_reducible refine And.intro (by first | omega | decide) ?_
    exact fin_drop (.inr rfl) hb rfl (by simp)
end Go.Proofs.GoC
