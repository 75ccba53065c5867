/-
  The laws SixWhole, SixGaps, SixDots. No claim by itself.
-/
import Derived.Test.YtdgikagnkbphoaaDoorGoSixF
namespace Go.Proofs.GoC
open Go Go.Proofs.SL
set_option linter.unusedSimpArgs false
set_option linter.unusedVariables false
set_option maxRecDepth 10000
set_option maxHeartbeats 4000000

theorem hexU_str (n : Nat) (h : n < 16) : List.drop n (48 :: List.take n ([49, 50, 51, 52, 53, 54, 55, 56, 57, 65, 66, 67, 68, 69, 70] : List UInt8)) = [hexU n] := by
  have : ∀ n : Fin 16, List.drop n.val (48 :: List.take n.val ([49, 50, 51, 52, 53, 54, 55, 56, 57, 65, 66, 67, 68, 69, 70] : List UInt8)) = [hexU n.val] := by decide +kernel
  exact this ⟨n, h⟩

theorem wholeF_len (gs : List Nat) : (wholeF gs).length ≤ gs.length * 5 := by
  have := joinL_len [58] 4 (gs.map (hexW 4)) (fun p hp => by
    obtain ⟨n, _, rfl⟩ := List.mem_map.mp hp
    rw [hexW_len]; exact Nat.le_refl _)
  simpa [wholeF] using this

def z8 : List Nat := [0, 0, 0, 0, 0, 0, 0, 0]
theorem parseV_none : parseV none = .tup [.agg (u16s z8), .bool false] := rfl
theorem parseV_some (gs : List Nat) : parseV (some gs) = .tup [.agg (u16s gs), .bool true] := rfl
@[go_sem] theorem take_z8 : List.take 8 (u16s z8) = u16s z8 := rfl
@[go_sem] theorem len_z8 : z8.length = 8 := rfl

theorem c_abatislaw03_SixWhole (gs : List Nat) (hl : gs.length = 8) (hle : ∀ g ∈ gs, g ≤ 65535) : GCall 7 [.agg (u16s gs)] (.bool true) := by
  intro H hG
  have t8 : List.take 8 (u16s gs) = u16s gs := List.take_of_length_le (by rw [u16s_len]; omega)
  have tg := u16s_tag hl
  have wl := wholeF_len gs
  have hml : (gs.map (hexW 4)).length = 8 := by rw [List.length_map, hl]
  refine scall_of (ord := fun _ => []) (rs := [2]) Tryd.func7 rfl (by kernel_rfl) (by kernel_rfl) (by kernel_rfl) Tryd.ntmps7 fun hb hargs => go 200 (fun _ => false) mixed ?_
  simp (disch := omega) only [↓reduceIte, go_sem, hl, t8] <;> repeat with_reducible refine And.intro (by first | omega | decide) ?_
  refine Runs.ghost (by rfl) (Ghost.grow (t := 3) (m := 1) rfl) ?_
  refine runs_loopA (fun x : Nat × Nat => x.1 ≤ 8) (fun x => 8 - x.1) [false, true, true, true, true]
    (fun x => slots 113 [.any, .ptr H.length 0 0, .bool false, .buf (H.length + 1) x.2 0 x.1 1 true, .int .i64 x.1])
    (fun x => H ++ [some (.cells 0 (u16s gs)), some (.cells x.2 (strs ((gs.map (hexW 4)).take x.1)))]) (by rfl) (0, 0) (Nat.zero_le _) (by simp only [List.length_append, List.length_cons, List.length_nil, Nat.zero_add]; rfl) (by simp only [app_app]; rfl) ?_
  rintro ⟨k, ver⟩ hk
  dsimp only at hk
  refine go 200 (fun _ => false) mixed ?_
  by_cases hlt : k < 8
  · have g := u16s_get (ns := gs) (k := k) (by omega)
    have gl := mem_get hle k
    have hgm : (gs.map (hexW 4)).getD k [] = hexW 4 (gs.getD k 0) := by
      simp [List.getD_eq_getElem?_getD, show k < gs.length by omega]
    generalize gs.getD k 0 = x at *
    simp (disch := omega) only [↓reduceIte, go_sem, hlt, hl, g] <;> repeat with_reducible refine And.intro (by first | omega | decide) ?_
    refine runs_loopA (fun y : Nat × Nat × List UInt8 => y.1 ≤ 4 ∧ y.2.2.length = y.1 ∧ y.2.1 ≤ 65535 ∧ hexW (4 - y.1) y.2.1 ++ y.2.2 = hexW 4 x) (fun y => 4 - y.1)
      [false, true, true, true, true, true, true, true]
      (fun y => slots 113 [.any, .ptr H.length 0 0, .bool false, .buf (H.length + 1) ver 0 k 1 true, .int .i64 k, .int .u16 y.2.1, .str (bs y.2.2), .int .i64 y.1])
      (fun _ => H ++ [some (.cells 0 (u16s gs)), some (.cells ver (strs ((gs.map (hexW 4)).take k)))]) (by rfl) (0, x, []) ⟨by simp, by simp, gl, by simp⟩ rfl rfl ?_
    rintro ⟨j, n, s⟩ ⟨hj, hsl, hn, hs⟩
    dsimp only at hj hsl hn hs
    refine go 200 (fun _ => false) mixed ?_
    by_cases hjt : j < 4
    · have hd := hexU_str (n % 16) (by omega)
      simp (disch := omega) only [↓reduceIte, go_sem, hjt, hd, List.length_cons, List.length_nil] <;> repeat with_reducible refine And.intro (by first | omega | decide) ?_
      refine rnd_next (j + 1, n / 16, hexU (n % 16) :: s) ⟨by omega, by simp [hsl], by show n / 16 ≤ 65535; omega, ?_⟩ (by show 4 - (j + 1) < 4 - j; omega) rfl rfl
      show hexW (4 - (j + 1)) (n / 16) ++ hexU (n % 16) :: s = hexW 4 x
      rw [← hs, show 4 - j = (4 - (j + 1)) + 1 by omega, hexW]
      simp
    · have hj4 : j = 4 := by omega
      subst hj4
      have hs' : s = hexW 4 x := by simpa [hexW] using hs
      subst hs'
      simp (disch := omega) only [↓reduceIte, go_sem, hjt] <;> repeat with_reducible refine And.intro (by first | omega | decide) ?_
      refine go 200 (fun _ => false) mixed ?_
      have hlk : ((gs.map (hexW 4)).take k).length = k := by rw [List.length_take, hml]; omega
      simp (disch := omega) only [↓reduceIte, go_sem, strs_len, hlk] <;> repeat with_reducible refine And.intro (by first | omega | decide) ?_
      refine ⟨by unfold most; omega, ?_⟩
      refine rnd_next (k + 1, ver + 1) (by show k + 1 ≤ 8; omega) (by show 8 - (k + 1) < 8 - k; omega) rfl ?_
      show _ = H ++ [some (.cells 0 (u16s gs)), some (.cells (ver + 1) (strs ((gs.map (hexW 4)).take (k + 1))))]
      rw [take_snoc (d := []) (show k < (gs.map (hexW 4)).length by omega), hgm]; simp [strs]
  · simp (disch := omega) only [↓reduceIte, go_sem, hlt] <;> repeat with_reducible refine And.intro (by first | omega | decide) ?_
    have hk8 : k = 8 := by omega
    subst hk8
    have htk : (gs.map (hexW 4)).take 8 = gs.map (hexW 4) := List.take_of_length_le (by omega)
    rw [htk]
    refine go 200 (fun _ => false) mixed ?_
    simp (disch := omega) only [↓reduceIte, go_sem] <;> repeat with_reducible refine And.intro (by first | omega | decide) ?_
    have hj := c_abatisref01_Join (H := H ++ [some (.cells 0 (u16s gs)), some (.cells ver (strs (gs.map (hexW 4))))]) (gs.map (hexW 4)) [58] (H.length + 1) ver true (gs.map (hexW 4)) (by rw [get_tail]; rfl) (Nat.le_refl _) (fun k _ => rfl) (by show (wholeF gs).length ≤ _; omega) (by omega)
    rw [hml] at hj
    refine hj.mono ?_
    rintro r' H' ⟨rfl, rfl⟩
    rw [show joinL [58] (gs.map (hexW 4)) = wholeF gs from rfl]
    refine go 200 (fun _ => false) mixed ?_
    simp (disch := omega) only [↓reduceIte, go_sem] <;> repeat with_reducible refine And.intro (by first | omega | decide) ?_
    refine (c_six_Parse (wholeF gs) (by omega)).on hG.app (go 200 (fun _ => false) mixed ?_)
    rw [whole_ok gs hl hle, parseV_some]
    simp (disch := omega) only [↓reduceIte, go_sem, hl, t8] <;> repeat with_reducible refine And.intro (by first | omega | decide) ?_
    refine (c_six_Parse (wholeF gs ++ [58, 48]) (by simp; omega)).on hG.app (go 200 (fun _ => false) mixed ?_)
    rw [whole_more gs hl hle, parseV_none]
    simp (disch := omega) only [↓reduceIte, go_sem, hl, t8] <;> repeat with_reducible refine And.intro (by first | omega | decide) ?_
    have hj2 := fun L : Heap => c_abatisref01_Join (H := H ++ (some (.cells 0 (u16s gs)) :: some (.cells ver (strs (gs.map (hexW 4)))) :: L)) ((gs.map (hexW 4)).take 7) [58] (H.length + 1) ver true (gs.map (hexW 4)) (by rw [get_tail]; rfl) (by rw [List.length_take]; omega) (fun k hk => by
      rw [List.length_take] at hk
      simp only [List.getD_eq_getElem?_getD, List.getElem?_take]
      rw [if_pos (by omega)]) (by
        have := joinL_take [58] (gs.map (hexW 4)) 7
        have h2 : (joinL [58] (gs.map (hexW 4))).length = (wholeF gs).length := rfl
        omega) (by rw [List.length_take]; omega)
    rw [show ((gs.map (hexW 4)).take 7).length = 7 by rw [List.length_take]; omega] at hj2
    refine (hj2 _).mono ?_
    rintro r' H' ⟨rfl, rfl⟩
    refine go 200 (fun _ => false) mixed ?_
    simp (disch := omega) only [↓reduceIte, go_sem] <;> repeat with_reducible refine And.intro (by first | omega | decide) ?_
    refine (c_six_Parse (joinL [58] ((gs.map (hexW 4)).take 7)) (by
      have := joinL_take [58] (gs.map (hexW 4)) 7
      have h2 : (joinL [58] (gs.map (hexW 4))).length = (wholeF gs).length := rfl
      omega)).on hG.app (go 200 (fun _ => false) mixed ?_)
    rw [whole_less gs hl hle, parseV_none]
    simp (disch := omega) only [↓reduceIte, go_sem, hl, t8] <;> repeat with_reducible refine And.intro (by first | omega | decide) ?_
    refine (c_six_Parse (48 :: wholeF gs) (by simp; omega)).on hG.app (go 200 (fun _ => false) mixed ?_)
    rw [whole_long gs hl, parseV_none]
    simp (disch := omega) only [↓reduceIte, go_sem, hl, t8] <;> repeat with_reducible refine And.intro (by first | omega | decide) ?_
    refine (c_six_Parse (58 :: wholeF gs) (by simp; omega)).on hG.app (go 200 (fun _ => false) mixed ?_)
    rw [whole_ahead gs hl, parseV_none]
    simp (disch := omega) only [↓reduceIte, go_sem, hl, t8] <;> repeat with_reducible refine And.intro (by first | omega | decide) ?_
    refine (c_six_Parse (wholeF gs ++ [58]) (by simp; omega)).on hG.app (go 200 (fun _ => false) mixed ?_)
    rw [whole_behind gs hl, parseV_none]
    simp (disch := omega) only [↓reduceIte, go_sem, hl, t8, tg] <;> repeat with_reducible refine And.intro (by first | omega | decide) ?_
    refine c_abatislaw03_lives.on hG.app (go 200 (fun _ => false) mixed ?_)
    simp (disch := omega) only [↓reduceIte, go_sem] <;> repeat with_reducible refine And.intro (by first | omega | decide) ?_
    exact fin_drop (.inr rfl) hb rfl (by simp)
end Go.Proofs.GoC
