/-
  The laws LabelNames, LabelUnder, LabelParents, LabelReads, LabelLoops, LabelRound. No claim by itself.
-/
import Derived.Test.YthphhllgpmageaaGoLabA
namespace Go.Proofs.GoC
open Go Go.Proofs.SL
set_option linter.unusedSimpArgs false
set_option linter.unusedVariables false
set_option maxRecDepth 10000
set_option maxHeartbeats 4000000

theorem wr1 : wrN [97, 46, 98] [] [] = ([1, 97, 1, 98, 0], [([97, 46, 98], 0), ([98], 2)]) := by decide +kernel
theorem wr2 : wrN [99, 46, 98] [1, 97, 1, 98, 0] [([97, 46, 98], 0), ([98], 2)] = ([1, 97, 1, 98, 0, 1, 99, 192, 2], [([97, 46, 98], 0), ([98], 2), ([99, 46, 98], 5)]) := by decide +kernel
theorem WAt.fresh {H : Heap} : WAt (H ++ [some (.cells 0 [.nils, .nilm])]) H.length .nils .nilm [] [] :=
  ⟨by rw [get_tail0]; rfl, .inl ⟨rfl, rfl⟩, by simp [bufI], .inl ⟨rfl, rfl⟩, by simp [Far]⟩
theorem WStep.split {H H' : Heap} {x : Option OB} {bv mv : PV} (h : WStep (H ++ [x]) H.length .nils .nilm H' bv mv) : ∃ L, H' = H ++ L := by
  have h1 := (Keeps.app (F := [H.length]) (H := H) (L := [x])).trans (h.1.mono (G := [H.length]) fun j hj => .inl (by simpa [bufI, mapI] using hj))
  exact h1.split fun j hj => by simp only [List.mem_singleton] at hj; omega

theorem c_abatislaw08_lives : GCall 19 [] (.bool true) := by
  intro H hG
  refine scall_of (ord := fun _ => []) (rs := [0]) Try.func19 rfl (by kernel_rfl) (by kernel_rfl) (by kernel_rfl) Try.ntmps19 fun hb hargs => go 200 (fun _ => false) mixed ?_
  simp (disch := omega) only [↓reduceIte, go_sem] <;> repeat with_reducible refine And.intro (by first | omega | decide) ?_
  refine (name_yes WAt.fresh hG.app [97, 46, 98] (by decide) (by decide) (by decide +kernel)).mono fun r H1 ⟨e1, bv1, mv1, hW1, hS1⟩ => ?_
  subst e1
  rw [wr1] at hW1
  refine go 200 (fun _ => false) mixed ?_
  simp (disch := omega) only [↓reduceIte, go_sem] <;> repeat with_reducible refine And.intro (by first | omega | decide) ?_
  refine (name_yes hW1 (hG.app.wstep WAt.fresh hS1) [99, 46, 98] (by decide) (by decide) (by decide +kernel)).mono fun r H2 ⟨e2, bv2, mv2, hW2, hS2⟩ => ?_
  subst e2
  rw [wr2] at hW2
  have hS := hS1.trans hS2
  refine go 200 (fun _ => false) mixed ?_
  simp (disch := omega) only [↓reduceIte, go_sem] <;> repeat with_reducible refine And.intro (by first | omega | decide) ?_
  refine (c_label_Writer_Bytes hW2 (by decide)).mono fun r H3 ⟨e3, e4⟩ => ?_
  subst e3 e4
  obtain ⟨L, hL⟩ := hS.split
  refine go 200 (fun _ => false) mixed ?_
  simp (disch := omega) only [↓reduceIte, go_sem] <;> repeat with_reducible refine And.intro (by first | omega | decide) ?_
  have hs := c_abatisref08_SameBytes [1, 97, 1, 98, 0, 1, 99, 192, 2] [1, 97, 1, 98, 0, 1, 99, 192, 2]
  rw [decide_eq_true rfl] at hs
  refine hs.on (go 200 (fun _ => false) mixed ?_)
  simp (disch := omega) only [↓reduceIte, go_sem] <;> repeat with_reducible refine And.intro (by first | omega | decide) ?_
  subst hL
  exact fin_drop (.inr rfl) hb rfl (by simp)

theorem c_abatislaw08_LabelNames (l : List UInt8) : GCall 3 [.str (bs l)] (.bool true) := by
  intro H hG
  refine scall_of (ord := fun _ => []) (rs := [2]) Try.func3 rfl (by kernel_rfl) (by kernel_rfl) (by kernel_rfl) Try.ntmps3 fun hb hargs => go 200 (fun _ => false) mixed ?_
  simp (disch := omega) only [↓reduceIte, go_sem] <;> repeat with_reducible refine And.intro (by first | omega | decide) ?_
  refine (c_abatisref01_Few l 300).on (go 200 (fun _ => false) mixed ?_)
  have hs : (l.take 300).length ≤ 300 := by rw [List.length_take]; omega
  generalize l.take 300 = s at *
  have hll := labF_len s
  have hSame := c_abatisref01_Same (labF s) (labF s) (by omega) (by omega)
  rw [decide_eq_true rfl] at hSame
  have hB := c_label_Bytes s (by omega)
  simp (disch := omega) only [↓reduceIte, go_sem] <;> repeat with_reducible refine And.intro (by first | omega | decide) ?_
  refine (c_abatisref08_May s (by omega)).on (go 200 (fun _ => false) mixed ?_)
  simp (disch := omega) only [↓reduceIte, go_sem] <;> repeat with_reducible refine And.intro (by first | omega | decide) ?_
  refine hB.on (go 200 (fun _ => false) mixed ?_)
  cases hmay : mayN s with
  | true =>
    have hMay := c_label_May s (by omega)
    rw [hmay] at hMay
    have hSB := c_abatisref08_SameBytes (bytesN (labF s)) (bytesN (labF s))
    rw [decide_eq_true rfl] at hSB
    simp (disch := omega) only [↓reduceIte, go_sem] <;> repeat with_reducible refine And.intro (by first | omega | decide) ?_
    refine hMay.on (go 200 (fun _ => false) mixed ?_)
    simp (disch := omega) only [↓reduceIte, go_sem] <;> repeat with_reducible refine And.intro (by first | omega | decide) ?_
    refine (labels_sl s (by omega)).on (go 200 (fun _ => false) mixed ?_)
    simp (disch := omega) only [↓reduceIte, go_sem] <;> repeat with_reducible refine And.intro (by first | omega | decide) ?_
    refine (rlabels_sl s (by omega)).on (go 200 (fun _ => false) mixed ?_)
    simp (disch := omega) only [↓reduceIte, go_sem] <;> repeat with_reducible refine And.intro (by first | omega | decide) ?_
    refine hSame.on (go 200 (fun _ => false) mixed ?_)
    simp (disch := omega) only [↓reduceIte, go_sem] <;> repeat with_reducible refine And.intro (by first | omega | decide) ?_
    refine (c_label_Parent s (by omega)).on hG (go 200 (fun _ => false) mixed ?_)
    simp (disch := omega) only [↓reduceIte, go_sem] <;> repeat with_reducible refine And.intro (by first | omega | decide) ?_
    refine (c_abatisref08_Rest s 1 (by omega) (by omega)).on (go 200 (fun _ => false) mixed ?_)
    rw [show dotN 1 s = dotR s from rfl]
    simp (disch := omega) only [↓reduceIte, go_sem] <;> repeat with_reducible refine And.intro (by first | omega | decide) ?_
    refine (c_abatisref08_Bytes s (by omega)).on (go 200 (fun _ => false) mixed ?_)
    simp (disch := omega) only [↓reduceIte, go_sem] <;> repeat with_reducible refine And.intro (by first | omega | decide) ?_
    refine hSB.on (go 200 (fun _ => false) mixed ?_)
    simp (disch := omega) only [↓reduceIte, go_sem] <;> repeat with_reducible refine And.intro (by first | omega | decide) ?_
    refine c_abatislaw08_lives.on hG (go 200 (fun _ => false) mixed ?_)
    simp (disch := omega) only [↓reduceIte, go_sem] <;> repeat with_reducible refine And.intro (by first | omega | decide) ?_
    exact fin rfl rfl
  | false =>
    have hMay := c_label_May s (by omega)
    rw [hmay] at hMay
    simp (disch := omega) only [↓reduceIte, go_sem] <;> repeat with_reducible refine And.intro (by first | omega | decide) ?_
    refine hMay.on (go 200 (fun _ => false) mixed ?_)
    simp (disch := omega) only [↓reduceIte, go_sem] <;> repeat with_reducible refine And.intro (by first | omega | decide) ?_
    refine (labels_sl s (by omega)).on (go 200 (fun _ => false) mixed ?_)
    simp (disch := omega) only [↓reduceIte, go_sem] <;> repeat with_reducible refine And.intro (by first | omega | decide) ?_
    refine (rlabels_sl s (by omega)).on (go 200 (fun _ => false) mixed ?_)
    simp (disch := omega) only [↓reduceIte, go_sem] <;> repeat with_reducible refine And.intro (by first | omega | decide) ?_
    refine hSame.on (go 200 (fun _ => false) mixed ?_)
    simp (disch := omega) only [↓reduceIte, go_sem] <;> repeat with_reducible refine And.intro (by first | omega | decide) ?_
    refine (c_label_Parent s (by omega)).on hG (go 200 (fun _ => false) mixed ?_)
    simp (disch := omega) only [↓reduceIte, go_sem] <;> repeat with_reducible refine And.intro (by first | omega | decide) ?_
    refine (c_abatisref08_Rest s 1 (by omega) (by omega)).on (go 200 (fun _ => false) mixed ?_)
    rw [show dotN 1 s = dotR s from rfl]
    simp (disch := omega) only [↓reduceIte, go_sem] <;> repeat with_reducible refine And.intro (by first | omega | decide) ?_
    refine c_abatislaw08_lives.on hG (go 200 (fun _ => false) mixed ?_)
    simp (disch := omega) only [↓reduceIte, go_sem] <;> repeat with_reducible refine And.intro (by first | omega | decide) ?_
    exact fin rfl rfl

theorem c_abatislaw08_LabelUnder (x y : List UInt8) : GCall 4 [.str (bs x), .str (bs y)] (.bool true) := by
  intro H hG
  refine scall_of (ord := fun _ => []) (rs := [4]) Try.func4 rfl (by kernel_rfl) (by kernel_rfl) (by kernel_rfl) Try.ntmps4 fun hb hargs => go 200 (fun _ => false) mixed ?_
  simp (disch := omega) only [↓reduceIte, go_sem] <;> repeat with_reducible refine And.intro (by first | omega | decide) ?_
  refine (c_abatisref01_Few x 60).on (go 200 (fun _ => false) mixed ?_)
  have ha : (x.take 60).length ≤ 60 := by rw [List.length_take]; omega
  simp (disch := omega) only [↓reduceIte, go_sem] <;> repeat with_reducible refine And.intro (by first | omega | decide) ?_
  refine (c_abatisref01_Few y 60).on (go 200 (fun _ => false) mixed ?_)
  have hy : (y.take 60).length ≤ 60 := by rw [List.length_take]; omega
  generalize x.take 60 = a at *
  generalize y.take 60 = b at *
  have hc : (a ++ [46] ++ b).length ≤ 121 := by simp; omega
  have hn := c_label_Under a [] (by omega) (by decide)
  rw [under_nil] at hn
  have hself := c_label_Under a a (by omega) (by omega)
  rw [under_self] at hself
  simp (disch := omega) only [↓reduceIte, go_sem, List.length_append, List.length_cons, List.length_nil] <;> repeat with_reducible refine And.intro (by first | omega | decide) ?_
  refine (c_label_Under a b (by omega) (by omega)).on hG (go 200 (fun _ => false) mixed ?_)
  simp (disch := omega) only [↓reduceIte, go_sem] <;> repeat with_reducible refine And.intro (by first | omega | decide) ?_
  refine (c_abatisref08_Under a b (by omega) (by omega)).on (go 200 (fun _ => false) mixed ?_)
  simp (disch := omega) only [↓reduceIte, go_sem] <;> repeat with_reducible refine And.intro (by first | omega | decide) ?_
  refine (c_label_Under (a ++ [46] ++ b) b (by omega) (by omega)).on hG (go 200 (fun _ => false) mixed ?_)
  simp (disch := omega) only [↓reduceIte, go_sem] <;> repeat with_reducible refine And.intro (by first | omega | decide) ?_
  refine (c_abatisref08_Under (a ++ [46] ++ b) b (by omega) (by omega)).on (go 200 (fun _ => false) mixed ?_)
  simp (disch := omega) only [↓reduceIte, go_sem] <;> repeat with_reducible refine And.intro (by first | omega | decide) ?_
  refine hn.on hG (go 200 (fun _ => false) mixed ?_)
  simp (disch := omega) only [↓reduceIte, go_sem] <;> repeat with_reducible refine And.intro (by first | omega | decide) ?_
  refine hself.on hG (go 200 (fun _ => false) mixed ?_)
  simp (disch := omega) only [↓reduceIte, go_sem] <;> repeat with_reducible refine And.intro (by first | omega | decide) ?_
  refine c_abatislaw08_lives.on hG (go 200 (fun _ => false) mixed ?_)
  simp (disch := omega) only [↓reduceIte, go_sem] <;> repeat with_reducible refine And.intro (by first | omega | decide) ?_
  exact fin rfl rfl

theorem c_abatislaw08_LabelParents (x : List UInt8) : GCall 5 [.str (bs x)] (.bool true) := by
  intro H hG
  refine scall_of (ord := fun _ => []) (rs := [2]) Try.func5 rfl (by kernel_rfl) (by kernel_rfl) (by kernel_rfl) Try.ntmps5 fun hb hargs => go 200 (fun _ => false) mixed ?_
  simp (disch := omega) only [↓reduceIte, go_sem] <;> repeat with_reducible refine And.intro (by first | omega | decide) ?_
  refine (c_abatisref01_Few x 100).on (go 200 (fun _ => false) mixed ?_)
  have ha : (x.take 100).length ≤ 100 := by rw [List.length_take]; omega
  generalize x.take 100 = y at *
  simp (disch := omega) only [↓reduceIte, go_sem] <;> repeat with_reducible refine And.intro (by first | omega | decide) ?_
  refine (c_abatisref08_Good y (by omega)).on (go 200 (fun _ => false) mixed ?_)
  have hmay := good_may y
  generalize goodN y = s at *
  have hsl := may_len hmay
  simp (disch := omega) only [↓reduceIte, go_sem] <;> repeat with_reducible refine And.intro (by first | omega | decide) ?_
  refine (labels_sl s (by omega)).on (go 200 (fun _ => false) mixed ?_)
  simp (disch := omega) only [↓reduceIte, go_sem] <;> repeat with_reducible refine And.intro (by first | omega | decide) ?_
  refine runs_loopA (fun k : Nat => k ≤ (labF s).length) (fun k => (labF s).length - k) [true, false, false, true, true, true]
    (fun k => slots 58 [.str (bs s), .any, .any, .sl 1 (strs (labF s)), .str (bs (dotN k s)), .int .i64 k]) (fun _ => H) (by rfl) 0 (Nat.zero_le _) rfl rfl ?_
  intro k hk
  change k ≤ (labF s).length at hk
  have hll := labF_len s
  refine go 200 (fun _ => false) mixed ?_
  have hdl := dotN_len k s
  by_cases hlt : k < (labF s).length
  · have hne := may_at hmay hlt
    have hdr := dotR_lt hne
    have hu1 := c_label_Under s (dotN (k + 1) s) (by omega) (by rw [dotN_succ]; omega)
    rw [under_dot, dotN_succ] at hu1
    have hm1 := c_label_May (dotN (k + 1) s) (by rw [dotN_succ]; omega)
    rw [may_dotN hmay, dotN_succ] at hm1
    have hu2 := c_label_Under (dotR (dotN k s)) (dotN k s) (by omega) (by omega)
    rw [under_short hdr] at hu2
    have hge : ¬ (dotN k s).length ≤ (dotR (dotN k s)).length := by omega
    simp (disch := omega) only [↓reduceIte, go_sem, hlt] <;> repeat with_reducible refine And.intro (by first | omega | decide) ?_
    refine (c_label_Parent (dotN k s) (by omega)).on hG (go 200 (fun _ => false) mixed ?_)
    simp (disch := omega) only [↓reduceIte, go_sem] <;> repeat with_reducible refine And.intro (by first | omega | decide) ?_
    refine hu1.on hG (go 200 (fun _ => false) mixed ?_)
    simp (disch := omega) only [↓reduceIte, go_sem, hge] <;> repeat with_reducible refine And.intro (by first | omega | decide) ?_
    refine hm1.on (go 200 (fun _ => false) mixed ?_)
    simp (disch := omega) only [↓reduceIte, go_sem] <;> repeat with_reducible refine And.intro (by first | omega | decide) ?_
    refine hu2.on hG (go 200 (fun _ => false) mixed ?_)
    simp (disch := omega) only [↓reduceIte, go_sem] <;> repeat with_reducible refine And.intro (by first | omega | decide) ?_
    exact rnd_next (k + 1) hlt (by show (labF s).length - (k + 1) < (labF s).length - k; omega) (by rw [dotN_succ]; rfl) rfl
  · have hk2 : k = (labF s).length := by omega
    have e0 : dotN k s = [] := by rw [hk2, dotN_all]
    rw [e0]
    have hp := c_label_Parent [] (by decide)
    rw [show dotR [] = [] from rfl] at hp
    simp (disch := omega) only [↓reduceIte, go_sem, hlt] <;> repeat with_reducible refine And.intro (by first | omega | decide) ?_
    refine go 200 (fun _ => false) mixed ?_
    simp (disch := omega) only [↓reduceIte, go_sem] <;> repeat with_reducible refine And.intro (by first | omega | decide) ?_
    refine hp.on hG (go 200 (fun _ => false) mixed ?_)
    simp (disch := omega) only [↓reduceIte, go_sem] <;> repeat with_reducible refine And.intro (by first | omega | decide) ?_
    refine c_abatislaw08_lives.on hG (go 200 (fun _ => false) mixed ?_)
    simp (disch := omega) only [↓reduceIte, go_sem] <;> repeat with_reducible refine And.intro (by first | omega | decide) ?_
    exact fin rfl rfl

theorem c_abatislaw08_LabelReads (X : List UInt8) (hX : X.length ≤ 9223372036854775807) (n : Int) (h1 : -9223372036854775808 ≤ n) (h2 : n ≤ 9223372036854775807) : GCall 6 [.sl 1 (bys X), .int .i64 n] (.bool true) := by
  intro H hG
  refine scall_of (ord := fun _ => []) (rs := [4]) Try.func6 rfl (by kernel_rfl) (by kernel_rfl) (by kernel_rfl) Try.ntmps6 fun hb hargs => go 200 (fun _ => false) mixed ?_
  simp (disch := omega) only [↓reduceIte, go_sem] <;> repeat with_reducible refine And.intro (by first | omega | decide) ?_
  refine (c_abatislaw08_few X 400 (by omega) (by decide)).on (go 200 (fun _ => false) mixed ?_)
  have ha : (X.take 400).length ≤ 400 := by rw [List.length_take]; omega
  generalize X.take 400 = B at *
  simp (disch := omega) only [↓reduceIte, go_sem] <;> repeat with_reducible refine And.intro (by first | omega | decide) ?_
  refine (c_abatisref01_Around n h1 h2 (B.length + 1) (by omega)).on (go 200 (fun _ => false) mixed ?_)
  have hat := aroundF_lt n (show 0 < B.length + 1 by omega)
  generalize aroundF n (B.length + 1) = k at *
  have hR := c_label_Read B k (by omega) (by omega)
  have hRR := c_abatisref08_Read B k (by omega) (by omega)
  have hok := fun l n h => rdF_ok B k (B.length - k) k k 0 [] rfl rfl (by simp) (by decide) (l := l) (n := n) h
  simp (disch := omega) only [↓reduceIte, go_sem] <;> repeat with_reducible refine And.intro (by first | omega | decide) ?_
  refine hR.on (go 200 (fun _ => false) mixed ?_)
  cases hr : rdF B k k 0 [] with
  | form =>
    rw [hr] at hRR
    simp (disch := omega) only [↓reduceIte, go_sem, rdV] <;> repeat with_reducible refine And.intro (by first | omega | decide) ?_
    refine hRR.on (go 200 (fun _ => false) mixed ?_)
    simp (disch := omega) only [↓reduceIte, go_sem, rdV] <;> repeat with_reducible refine And.intro (by first | omega | decide) ?_
    refine c_abatislaw08_lives.on hG (go 200 (fun _ => false) mixed ?_)
    simp (disch := omega) only [↓reduceIte, go_sem] <;> repeat with_reducible refine And.intro (by first | omega | decide) ?_
    exact fin rfl rfl
  | long =>
    rw [hr] at hRR
    simp (disch := omega) only [↓reduceIte, go_sem, rdV] <;> repeat with_reducible refine And.intro (by first | omega | decide) ?_
    refine hRR.on (go 200 (fun _ => false) mixed ?_)
    simp (disch := omega) only [↓reduceIte, go_sem, rdV] <;> repeat with_reducible refine And.intro (by first | omega | decide) ?_
    refine c_abatislaw08_lives.on hG (go 200 (fun _ => false) mixed ?_)
    simp (disch := omega) only [↓reduceIte, go_sem] <;> repeat with_reducible refine And.intro (by first | omega | decide) ?_
    exact fin rfl rfl
  | ok l m =>
    obtain ⟨g1, g2, g3, _⟩ := hok l m hr
    obtain ⟨g4, g5⟩ := g3 rfl
    rw [hr] at hRR
    have hjl := joinL_sum l
    have hm := c_abatisref08_May (joinL [46] l) (by omega)
    rw [may_join g1 g2] at hm
    simp (disch := omega) only [↓reduceIte, go_sem, rdV] <;> repeat with_reducible refine And.intro (by first | omega | decide) ?_
    refine hRR.on (go 200 (fun _ => false) mixed ?_)
    simp (disch := omega) only [↓reduceIte, go_sem, rdV] <;> repeat with_reducible refine And.intro (by first | omega | decide) ?_
    refine hm.on (go 200 (fun _ => false) mixed ?_)
    simp (disch := omega) only [↓reduceIte, go_sem, g4, g5] <;> repeat with_reducible refine And.intro (by first | omega | decide) ?_
    refine c_abatislaw08_lives.on hG (go 200 (fun _ => false) mixed ?_)
    simp (disch := omega) only [↓reduceIte, go_sem] <;> repeat with_reducible refine And.intro (by first | omega | decide) ?_
    exact fin rfl rfl
end Go.Proofs.GoC
