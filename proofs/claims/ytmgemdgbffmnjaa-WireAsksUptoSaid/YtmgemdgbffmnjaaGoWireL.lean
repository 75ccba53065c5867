/-
  What the functions compute: messages copied, and compared; what asks, and answers. No claim by itself.
-/
import Derived.Test.YtmgemdgbffmnjaaGoWireJ
namespace Go.Proofs.GoC
open Go Go.Proofs.SL
set_option linter.unusedSimpArgs false
set_option linter.unusedVariables false
set_option maxRecDepth 10000
set_option maxHeartbeats 4000000

theorem bdd_qus {n : Nat} (l : List Qu) : Bdd n (.sl 3 (qusV l)) := by
  rw [bdd_sl]; intro p hp
  obtain ⟨r, _, rfl⟩ := List.mem_map.mp hp
  simp [quV, quC]
theorem quC_inj {x y : Qu} (h : quC x = quC y) : x = y := by
  obtain ⟨a, b, c⟩ := x
  obtain ⟨a', b', c'⟩ := y
  simp only [quC, List.cons.injEq, PV.str.injEq, PV.int.injEq, bs_inj, true_and, and_true] at h
  obtain ⟨rfl, rfl, rfl⟩ := h
  rfl
theorem rcC_inj {x y : Rc} (hx : x.ab.length = 16) (hy : y.ab.length = 16) (h : rcC x = rcC y) : x = y := by
  obtain ⟨a, b, c, d, e, f, g, i⟩ := x
  obtain ⟨a', b', c', d', e', f', g', i'⟩ := y
  simp only [rcC, List.cons.injEq, PV.str.injEq, PV.int.injEq, bs_inj, true_and] at h
  obtain ⟨rfl, rfl, rfl, rfl, rfl, h⟩ := h
  obtain ⟨h1, h2⟩ := List.append_inj h (by rw [u8s_len, u8s_len]; exact hx.trans hy.symm)
  simp only [List.cons.injEq, PV.str.injEq, bs_inj, and_true] at h2
  obtain ⟨rfl, rfl⟩ := h2
  rw [u8s_inj.mp h1]
theorem rcC_tag {x : Rc} (hx : x.ab.length = 16) : List.map tagP (rcC x) = [some .s, some (.i .i64), some (.i .i64), some (.i .i64), some (.i .i64), some (.i .u8), some (.i .u8), some (.i .u8), some (.i .u8), some (.i .u8), some (.i .u8), some (.i .u8), some (.i .u8), some (.i .u8), some (.i .u8), some (.i .u8), some (.i .u8), some (.i .u8), some (.i .u8), some (.i .u8), some (.i .u8), some .s, some .s] := by
  simp only [rcC, List.map_cons, List.map_append, List.map_nil, u8s_tag hx, tagP]
  rfl
theorem run_slnil_q (a : Option Addr) (c : Nat) (w : World) : (Go.binOp .eql 22 (.slice a 0 c) (.slice none 0 0)).run Try.prog w = .ok (.bool a.isNone) w := by
  obtain ⟨u, hu, hk, _, _⟩ := (tdOf_ok Try.prog 22 _ Try.td22).und
  have hund := run_underlying hu
  obtain ⟨dd, hd⟩ : ∃ dd, Op.maxDepth = dd + 1 := ⟨9999, rfl⟩
  have hb := (SL.binOp_eql (t := 22) (x := .slice a 0 c) (y := .slice none 0 0) (by simp) (by simp) (by simp) (by simp)).1
  rw [hb]
  cases u <;> simp only [kOk] at hk
  unfold Op.equal
  rw [hd]
  simp only [Op.equalIn, Sem.run_bind, hund, Result.andThen_ok]
  cases a <;> rfl
section
attribute [-go_sem] up_add up_add1 up_add2
theorem clone_empty_q {H : Heap} : SCall Try.prog 49 [.sl 3 []] H fun r H' => r = .sl 3 [] ∧ H' = H := by
  refine scall_lift Try.func49 rfl (by kernel_rfl) fun β w vs hI hv1 hv2 => ?_
  obtain ⟨x, rfl, hx⟩ := vals1 hv1 hv2
  obtain ⟨a, c, rfl⟩ : ∃ a c, x = .slice a 0 c := by
    cases hx with
    | sl0 a c m => exact ⟨a, c, rfl⟩
    | sl => exact ⟨_, _, rfl⟩
  refine Calls.mono (?_ : Calls Try.prog 49 #[.slice a 0 c] w fun e w' => (∃ a' c', e = .returned (.slice a' 0 c')) ∧ Go.RowKit.Below w.heap.size w w') fun e w' ⟨⟨a', c', he⟩, hw⟩ => ⟨_, he, hw, fun β' w2 => .sl0 _ _ _⟩
  cases a with
  | none =>
    go_enter Try.func49, Try.ntmps49
    go_wp2
    rw [run_slnil_q]
    go_wp2
    go_ret
    exact ⟨⟨_, _, rfl⟩, Go.RowKit.Below.refl _ _⟩
  | some a =>
    go_enter Try.func49, Try.ntmps49
    go_wp2
    rw [run_slnil_q]
    go_wp2
    go_ret
    exact ⟨⟨_, _, rfl⟩, (Go.RowKit.Below.refl _ _).alloc (Nat.le_refl _) _⟩
end
theorem c_slices_Clone_api_Question_api_Question (l : List Qu) (_h : True) (hlen : l.length < 1100000) : PCall Try.prog 49 [.sl 3 (qusV l)] (.sl 3 (qusV l)) := by
  intro H
  by_cases h0 : l.length = 0
  · obtain rfl := List.eq_nil_of_length_eq_zero h0
    exact clone_empty_q
  refine scall_of (T := tdOf Try.prog) (ord := fun _ => []) (rs := [2]) Try.func49 rfl (by kernel_rfl) (by kernel_rfl) (by kernel_rfl) Try.ntmps49 fun hb hargs => go 200 (fun t => t == 5) mixed ?_
  have et : List.take l.length (qusV l) = qusV l := List.take_of_length_le (by rw [qusV_len]; exact Nat.le_refl _)
  have hfl := flat_qus l
  simp (disch := omega) only [↓reduceIte, go_sem, most, et, hfl, h0] <;> repeat with_reducible refine And.intro (by first | omega | decide) ?_
  exact fin_frz 2 (qusV l) (.inr rfl) hb rfl (Nat.le_refl _) (by rw [get_tail0]; rfl) (sub_all _ _ hfl) qusV_len (fun x hx => by obtain ⟨r, hr, rfl⟩ := List.mem_map.mp hx; exact rfl) (fun u hu => by
    simp only [List.mem_singleton] at hu; subst hu; exact bdd_qus _) ⟨rfl, rfl⟩
theorem run_slnil_r (a : Option Addr) (c : Nat) (w : World) : (Go.binOp .eql 23 (.slice a 0 c) (.slice none 0 0)).run Try.prog w = .ok (.bool a.isNone) w := by
  obtain ⟨u, hu, hk, _, _⟩ := (tdOf_ok Try.prog 23 _ Try.td23).und
  have hund := run_underlying hu
  obtain ⟨dd, hd⟩ : ∃ dd, Op.maxDepth = dd + 1 := ⟨9999, rfl⟩
  have hb := (SL.binOp_eql (t := 23) (x := .slice a 0 c) (y := .slice none 0 0) (by simp) (by simp) (by simp) (by simp)).1
  rw [hb]
  cases u <;> simp only [kOk] at hk
  unfold Op.equal
  rw [hd]
  simp only [Op.equalIn, Sem.run_bind, hund, Result.andThen_ok]
  cases a <;> rfl
section
attribute [-go_sem] up_add up_add1 up_add2
theorem clone_empty_r {H : Heap} : SCall Try.prog 50 [.sl 23 []] H fun r H' => r = .sl 23 [] ∧ H' = H := by
  refine scall_lift Try.func50 rfl (by kernel_rfl) fun β w vs hI hv1 hv2 => ?_
  obtain ⟨x, rfl, hx⟩ := vals1 hv1 hv2
  obtain ⟨a, c, rfl⟩ : ∃ a c, x = .slice a 0 c := by
    cases hx with
    | sl0 a c m => exact ⟨a, c, rfl⟩
    | sl => exact ⟨_, _, rfl⟩
  refine Calls.mono (?_ : Calls Try.prog 50 #[.slice a 0 c] w fun e w' => (∃ a' c', e = .returned (.slice a' 0 c')) ∧ Go.RowKit.Below w.heap.size w w') fun e w' ⟨⟨a', c', he⟩, hw⟩ => ⟨_, he, hw, fun β' w2 => .sl0 _ _ _⟩
  cases a with
  | none =>
    go_enter Try.func50, Try.ntmps50
    go_wp2
    rw [run_slnil_r]
    go_wp2
    go_ret
    exact ⟨⟨_, _, rfl⟩, Go.RowKit.Below.refl _ _⟩
  | some a =>
    go_enter Try.func50, Try.ntmps50
    go_wp2
    rw [run_slnil_r]
    go_wp2
    go_ret
    exact ⟨⟨_, _, rfl⟩, (Go.RowKit.Below.refl _ _).alloc (Nat.le_refl _) _⟩
end
theorem c_slices_Clone_api_Record_api_Record (l : List Rc) (hab : ∀ r ∈ l, r.ab.length = 16) (hlen : l.length < 1100000) : PCall Try.prog 50 [.sl 23 (rcsV l)] (.sl 23 (rcsV l)) := by
  intro H
  by_cases h0 : l.length = 0
  · obtain rfl := List.eq_nil_of_length_eq_zero h0
    exact clone_empty_r
  refine scall_of (T := tdOf Try.prog) (ord := fun _ => []) (rs := [2]) Try.func50 rfl (by kernel_rfl) (by kernel_rfl) (by kernel_rfl) Try.ntmps50 fun hb hargs => go 200 (fun t => t == 5) mixed ?_
  have et : List.take l.length (rcsV l) = rcsV l := List.take_of_length_le (by rw [rcsV_len]; exact Nat.le_refl _)
  have hfl := flat_rcs l hab
  simp (disch := omega) only [↓reduceIte, go_sem, most, et, hfl, h0] <;> repeat with_reducible refine And.intro (by first | omega | decide) ?_
  exact fin_frz 2 (rcsV l) (.inr rfl) hb rfl (Nat.le_refl _) (by rw [get_tail0]; rfl) (sub_all _ _ hfl) rcsV_len (fun x hx => by obtain ⟨r, hr, rfl⟩ := List.mem_map.mp hx; exact rcC_len (hab r hr)) (fun u hu => by
    simp only [List.mem_singleton] at hu; subst hu; exact bdd_rcs _) ⟨rfl, rfl⟩
theorem c_slices_Equal_api_Question_api_Question (a b : List Qu) (ha : a.length < 1100000) (hbl : b.length < 1100000) : PCall Try.prog 52 [.sl 3 (qusV a), .sl 3 (qusV b)] (.bool (decide (a = b))) := by
  intro H
  refine scall_of (ord := fun _ => []) (rs := [4]) Try.func52 rfl (by kernel_rfl) (by kernel_rfl) (by kernel_rfl) Try.ntmps52 fun hb hargs => go 200 (fun _ => false) mixed ?_
  by_cases hl : a.length = b.length
  · simp (disch := omega) only [↓reduceIte, go_sem, eq_true hl] <;> repeat with_reducible refine And.intro (by first | omega | decide) ?_
    refine runs_loopA (fun i : Nat => i ≤ a.length ∧ a.take i = b.take i) (fun i => a.length - i) [true, true, false, false, false, false, false, false, false, false, false, false, true, true]
      (fun i => slots 26 [.sl 3 (qusV a), .sl 3 (qusV b), .any, .any, .any, .any, .any, .any, .any, .any, .any, .any, .int .i64 a.length, .int .i64 (i : Nat)]) (fun _ => H) (by rfl) 0 ⟨Nat.zero_le _, rfl⟩ rfl rfl ?_
    rintro i ⟨hi, hpre⟩
    change i ≤ a.length at hi
    change a.take i = b.take i at hpre
    refine go 200 (fun _ => false) mixed ?_
    by_cases hlt : i < a.length
    · have hltb : i < b.length := by omega
      have g1 := qusV_getD hlt
      have g2 := qusV_getD hltb
      have ea : a.take (i + 1) = a.take i ++ [a.getD i qu0] := take_snoc hlt
      have eb : b.take (i + 1) = b.take i ++ [b.getD i qu0] := take_snoc hltb
      have hag : a = b → a.getD i qu0 = b.getD i qu0 := fun h => by rw [h]
      generalize a.getD i qu0 = x at *
      generalize b.getD i qu0 = y at *
      by_cases hxy : x = y
      · subst hxy
        simp (disch := omega) only [↓reduceIte, go_sem, hlt, hltb, eq_true hl, g1, g2, quV, quC] <;> repeat with_reducible refine And.intro (by first | omega | decide) ?_
        exact rnd_next (i + 1) ⟨by omega, by rw [ea, eb, hpre]⟩ (by show a.length - (i + 1) < a.length - i; omega) rfl rfl
      · have he : (quC x = quC y) = False := eq_false fun h => hxy (quC_inj h)
        have hne : decide (a = b) = false := decide_eq_false fun h => hxy (hag h)
        rw [hne]
        simp only [quC] at he
        simp (disch := omega) only [↓reduceIte, go_sem, hlt, hltb, eq_true hl, g1, g2, quV, quC, he] <;> repeat with_reducible refine And.intro (by first | omega | decide) ?_
        exact fin rfl rfl
    · have hab2 : a = b := by
        rw [List.take_of_length_le (by omega), List.take_of_length_le (by omega)] at hpre
        exact hpre
      simp (disch := omega) only [↓reduceIte, go_sem, hlt, eq_true hl] <;> repeat with_reducible refine And.intro (by first | omega | decide) ?_
      refine go 200 (fun _ => false) mixed ?_
      simp (disch := omega) only [↓reduceIte, go_sem] <;> repeat with_reducible refine And.intro (by first | omega | decide) ?_
      exact fin (by simp [hab2, retV]) rfl
  · have hne : decide (a = b) = false := decide_eq_false fun h => hl (by rw [h])
    rw [hne]
    simp (disch := omega) only [↓reduceIte, go_sem, hl] <;> repeat with_reducible refine And.intro (by first | omega | decide) ?_
    exact fin rfl rfl
theorem c_slices_Equal_api_Record_api_Record (a b : List Rc) (hab : ∀ r ∈ a, r.ab.length = 16) (hbb : ∀ r ∈ b, r.ab.length = 16) (ha : a.length < 1100000) (hbl : b.length < 1100000) : PCall Try.prog 55 [.sl 23 (rcsV a), .sl 23 (rcsV b)] (.bool (decide (a = b))) := by
  intro H
  refine scall_of (ord := fun _ => []) (rs := [4]) Try.func55 rfl (by kernel_rfl) (by kernel_rfl) (by kernel_rfl) Try.ntmps55 fun hb hargs => go 200 (fun _ => false) mixed ?_
  by_cases hl : a.length = b.length
  · simp (disch := omega) only [↓reduceIte, go_sem, eq_true hl] <;> repeat with_reducible refine And.intro (by first | omega | decide) ?_
    refine runs_loopA (fun i : Nat => i ≤ a.length ∧ a.take i = b.take i) (fun i => a.length - i) [true, true, false, false, false, false, false, false, false, false, false, false, true, true]
      (fun i => slots 26 [.sl 23 (rcsV a), .sl 23 (rcsV b), .any, .any, .any, .any, .any, .any, .any, .any, .any, .any, .int .i64 a.length, .int .i64 (i : Nat)]) (fun _ => H) (by rfl) 0 ⟨Nat.zero_le _, rfl⟩ rfl rfl ?_
    rintro i ⟨hi, hpre⟩
    change i ≤ a.length at hi
    change a.take i = b.take i at hpre
    refine go 200 (fun _ => false) mixed ?_
    by_cases hlt : i < a.length
    · have hltb : i < b.length := by omega
      have g1 := rcsV_getD hlt
      have g2 := rcsV_getD hltb
      have ea : a.take (i + 1) = a.take i ++ [a.getD i rc0] := take_snoc hlt
      have eb : b.take (i + 1) = b.take i ++ [b.getD i rc0] := take_snoc hltb
      have hag : a = b → a.getD i rc0 = b.getD i rc0 := fun h => by rw [h]
      have m1 := hab _ (getDm (d := rc0) hlt).2
      have m2 := hbb _ (getDm (d := rc0) hltb).2
      generalize a.getD i rc0 = x at *
      generalize b.getD i rc0 = y at *
      have l1 := rcC_len m1
      have l2 := rcC_len m2
      have t1 := rcC_tag m1
      have t2 := rcC_tag m2
      by_cases hxy : x = y
      · subst hxy
        simp (disch := omega) only [↓reduceIte, go_sem, hlt, hltb, eq_true hl, g1, g2, rcV, l1, l2, t1, t2] <;> repeat with_reducible refine And.intro (by first | omega | decide) ?_
        exact rnd_next (i + 1) ⟨by omega, by rw [ea, eb, hpre]⟩ (by show a.length - (i + 1) < a.length - i; omega) rfl rfl
      · have he : (rcC x = rcC y) = False := eq_false fun h => hxy (rcC_inj m1 m2 h)
        have hne : decide (a = b) = false := decide_eq_false fun h => hxy (hag h)
        rw [hne]
        simp (disch := omega) only [↓reduceIte, go_sem, hlt, hltb, eq_true hl, g1, g2, rcV, l1, l2, t1, t2, he] <;> repeat with_reducible refine And.intro (by first | omega | decide) ?_
        exact fin rfl rfl
    · have hab2 : a = b := by
        rw [List.take_of_length_le (by omega), List.take_of_length_le (by omega)] at hpre
        exact hpre
      simp (disch := omega) only [↓reduceIte, go_sem, hlt, eq_true hl] <;> repeat with_reducible refine And.intro (by first | omega | decide) ?_
      refine go 200 (fun _ => false) mixed ?_
      simp (disch := omega) only [↓reduceIte, go_sem] <;> repeat with_reducible refine And.intro (by first | omega | decide) ?_
      exact fin (by simp [hab2, retV]) rfl
  · have hne : decide (a = b) = false := decide_eq_false fun h => hl (by rw [h])
    rw [hne]
    simp (disch := omega) only [↓reduceIte, go_sem, hl] <;> repeat with_reducible refine And.intro (by first | omega | decide) ?_
    exact fin rfl rfl
theorem c_abatisref09_sameRecords (a b : List Rc) (hab : ∀ r ∈ a, r.ab.length = 16) (hbb : ∀ r ∈ b, r.ab.length = 16) (ha : a.length < 1100000) (hbl : b.length < 1100000) : PCall Try.prog 51 [.sl 23 (rcsV a), .sl 23 (rcsV b)] (.bool (decide (a = b))) := by
  intro H
  refine scall_of (ord := fun _ => []) (rs := [4]) Try.func51 rfl (by kernel_rfl) (by kernel_rfl) (by kernel_rfl) Try.ntmps51 fun hb hargs => go 200 (fun _ => false) mixed ?_
  by_cases hl : a.length = b.length
  · simp (disch := omega) only [↓reduceIte, go_sem, eq_true hl] <;> repeat with_reducible refine And.intro (by first | omega | decide) ?_
    refine runs_loopA (fun i : Nat => i ≤ a.length ∧ a.take i = b.take i) (fun i => a.length - i) [true, true, false, false, false, true]
      (fun i => slots 26 [.sl 23 (rcsV a), .sl 23 (rcsV b), .any, .any, .any, .int .i64 (i : Nat)]) (fun _ => H) (by rfl) 0 ⟨Nat.zero_le _, rfl⟩ rfl rfl ?_
    rintro i ⟨hi, hpre⟩
    change i ≤ a.length at hi
    change a.take i = b.take i at hpre
    refine go 200 (fun _ => false) mixed ?_
    by_cases hlt : i < a.length
    · have hltb : i < b.length := by omega
      have g1 := rcsV_getD hlt
      have g2 := rcsV_getD hltb
      have ea : a.take (i + 1) = a.take i ++ [a.getD i rc0] := take_snoc hlt
      have eb : b.take (i + 1) = b.take i ++ [b.getD i rc0] := take_snoc hltb
      have hag : a = b → a.getD i rc0 = b.getD i rc0 := fun h => by rw [h]
      have m1 := hab _ (getDm (d := rc0) hlt).2
      have m2 := hbb _ (getDm (d := rc0) hltb).2
      generalize a.getD i rc0 = x at *
      generalize b.getD i rc0 = y at *
      have l1 := rcC_len m1
      have l2 := rcC_len m2
      have t1 := rcC_tag m1
      have t2 := rcC_tag m2
      by_cases hxy : x = y
      · subst hxy
        simp (disch := omega) only [↓reduceIte, go_sem, hlt, hltb, eq_true hl, g1, g2, rcV, l1, l2, t1, t2] <;> repeat with_reducible refine And.intro (by first | omega | decide) ?_
        exact rnd_next (i + 1) ⟨by omega, by rw [ea, eb, hpre]⟩ (by show a.length - (i + 1) < a.length - i; omega) rfl rfl
      · have he : (rcC x = rcC y) = False := eq_false fun h => hxy (rcC_inj m1 m2 h)
        have hne : decide (a = b) = false := decide_eq_false fun h => hxy (hag h)
        rw [hne]
        simp (disch := omega) only [↓reduceIte, go_sem, hlt, hltb, eq_true hl, g1, g2, rcV, l1, l2, t1, t2, he] <;> repeat with_reducible refine And.intro (by first | omega | decide) ?_
        exact fin rfl rfl
    · have hab2 : a = b := by
        rw [List.take_of_length_le (by omega), List.take_of_length_le (by omega)] at hpre
        exact hpre
      simp (disch := omega) only [↓reduceIte, go_sem, hlt, eq_true hl] <;> repeat with_reducible refine And.intro (by first | omega | decide) ?_
      refine go 200 (fun _ => false) mixed ?_
      simp (disch := omega) only [↓reduceIte, go_sem] <;> repeat with_reducible refine And.intro (by first | omega | decide) ?_
      exact fin (by simp [hab2, retV]) rfl
  · have hne : decide (a = b) = false := decide_eq_false fun h => hl (by rw [h])
    rw [hne]
    simp (disch := omega) only [↓reduceIte, go_sem, hl] <;> repeat with_reducible refine And.intro (by first | omega | decide) ?_
    exact fin rfl rfl

def sameM (a b : Ms) : Bool := decide (a.id = b.id) && (decide (a.fl = b.fl) && (decide (a.qs = b.qs) && (decide (a.an = b.an) && (decide (a.au = b.au) && decide (a.mo = b.mo)))))
theorem sameM_iff {a b : Ms} : sameM a b = true ↔ a = b := by
  obtain ⟨a1, a2, a3, a4, a5, a6⟩ := a
  obtain ⟨b1, b2, b3, b4, b5, b6⟩ := b
  simp [sameM]
/-- What is asked of a message to be compared. -/
structure MsC (m : Ms) : Prop where
  qs : m.qs.length < 1100000
  an : m.an.length < 1100000 ∧ ∀ r ∈ m.an, r.ab.length = 16
  au : m.au.length < 1100000 ∧ ∀ r ∈ m.au, r.ab.length = 16
  mo : m.mo.length < 1100000 ∧ ∀ r ∈ m.mo, r.ab.length = 16
theorem MsOk.c {m : Ms} (h : MsOk m) : MsC m := by
  obtain ⟨_, _, _, h1, h2, h3, l0, l1, l2, l3⟩ := h
  exact ⟨l0, ⟨l1, fun r hr => (h1 r hr).2.2.2.2.1⟩, ⟨l2, fun r hr => (h2 r hr).2.2.2.2.1⟩, ⟨l3, fun r hr => (h3 r hr).2.2.2.2.1⟩⟩

theorem c_abatisref09_Same (a b : Ms) (ha : MsC a) (hbk : MsC b) : PCall Try.prog 21 [msV a, msV b] (.bool (sameM a b)) := by
  intro H
  have k1 := c_abatisref09_sameRecords a.an b.an ha.an.2 hbk.an.2 ha.an.1 hbk.an.1
  have k2 := c_abatisref09_sameRecords a.au b.au ha.au.2 hbk.au.2 ha.au.1 hbk.au.1
  have k3 := c_abatisref09_sameRecords a.mo b.mo ha.mo.2 hbk.mo.2 ha.mo.1 hbk.mo.1
  have hqa := ha.qs
  have hqb := hbk.qs
  unfold sameM
  generalize decide (a.an = b.an) = r1 at *
  generalize decide (a.au = b.au) = r2 at *
  generalize decide (a.mo = b.mo) = r3 at *
  refine scall_of (ord := fun _ => []) (rs := [4]) Try.func21 rfl (by kernel_rfl) (by kernel_rfl) (by kernel_rfl) Try.ntmps21 fun hb hargs => go 10 (fun _ => false) mixed ?_
  simp (disch := omega) only [↓reduceIte, go_sem, msV, msC] <;> repeat with_reducible refine And.intro (by first | omega | decide) ?_
  refine go 60 (fun _ => false) mixed ?_
  by_cases h1 : a.id = b.id
  · by_cases h2 : a.fl = b.fl
    · by_cases h3 : a.qs.length = b.qs.length
      · simp (disch := omega) only [↓reduceIte, go_sem, eq_true h1, eq_true h2, eq_true h3] <;> repeat with_reducible refine And.intro (by first | omega | decide) ?_
        refine Runs.ghost (by rfl) (Ghost.keep [false, false, true, true, true, true]) ?_
        refine go 200 (fun _ => false) mixed ?_
        simp (disch := omega) only [↓reduceIte, go_sem] <;> repeat with_reducible refine And.intro (by first | omega | decide) ?_
        refine runs_loopA (fun i : Nat => i ≤ a.qs.length ∧ a.qs.take i = b.qs.take i) (fun i => a.qs.length - i) [false, false, true, true, false, true]
          (fun i => slots 64 [.any, .any, .ptr H.length 0 0, .ptr (H.length + 1) 0 0, .any, .int .i64 (i : Nat)]) (fun _ => H ++ [some (.cells 0 (msC a)), some (.cells 0 (msC b))]) (by rfl) 0 ⟨Nat.zero_le _, rfl⟩ rfl rfl ?_
        rintro i ⟨hi, hpre⟩
        change i ≤ a.qs.length at hi
        change a.qs.take i = b.qs.take i at hpre
        refine go 11 (fun _ => false) mixed ?_
        by_cases hlt : i < a.qs.length
        · have hltb : i < b.qs.length := by omega
          have g1 := qusV_getD hlt
          have g2 := qusV_getD hltb
          have ea : a.qs.take (i + 1) = a.qs.take i ++ [a.qs.getD i qu0] := take_snoc hlt
          have eb : b.qs.take (i + 1) = b.qs.take i ++ [b.qs.getD i qu0] := take_snoc hltb
          have hag : a.qs = b.qs → a.qs.getD i qu0 = b.qs.getD i qu0 := fun h => by rw [h]
          generalize a.qs.getD i qu0 = x at *
          generalize b.qs.getD i qu0 = y at *
          by_cases hxy : x = y
          · subst hxy
            simp (disch := omega) only [↓reduceIte, go_sem, hlt, msC] <;> repeat with_reducible refine And.intro (by first | omega | decide) ?_
            refine go 200 (fun _ => false) mixed ?_
            simp (disch := omega) only [↓reduceIte, go_sem, hlt, hltb, msC, g1, g2, quV, quC] <;> repeat with_reducible refine And.intro (by first | omega | decide) ?_
            exact rnd_next (i + 1) ⟨by omega, by rw [ea, eb, hpre]⟩ (by show a.qs.length - (i + 1) < a.qs.length - i; omega) rfl rfl
          · have he : (quC x = quC y) = False := eq_false fun h => hxy (quC_inj h)
            have hne : decide (a.qs = b.qs) = false := decide_eq_false fun h => hxy (hag h)
            rw [hne]
            simp only [quC] at he
            simp (disch := omega) only [↓reduceIte, go_sem, hlt, msC] <;> repeat with_reducible refine And.intro (by first | omega | decide) ?_
            refine go 200 (fun _ => false) mixed ?_
            simp (disch := omega) only [↓reduceIte, go_sem, hlt, hltb, msC, g1, g2, quV, quC, he] <;> repeat with_reducible refine And.intro (by first | omega | decide) ?_
            exact fin_drop (.inr rfl) hb (by simp [retV]) (by simp)
        · have hab2 : a.qs = b.qs := by
            rw [List.take_of_length_le (by omega), List.take_of_length_le (by omega)] at hpre
            exact hpre
          rw [decide_eq_true hab2]
          simp (disch := omega) only [↓reduceIte, go_sem, hlt, msC] <;> repeat with_reducible refine And.intro (by first | omega | decide) ?_
          refine go 200 (fun _ => false) mixed ?_
          simp (disch := omega) only [↓reduceIte, go_sem, hlt, msC] <;> repeat with_reducible refine And.intro (by first | omega | decide) ?_
          refine go 200 (fun _ => false) mixed ?_
          simp (disch := omega) only [↓reduceIte, go_sem, msC] <;> repeat with_reducible refine And.intro (by first | omega | decide) ?_
          refine k1.on (go 200 (fun _ => false) mixed ?_)
          cases r1 with
          | false =>
            simp (disch := omega) only [↓reduceIte, go_sem] <;> repeat with_reducible refine And.intro (by first | omega | decide) ?_
            exact fin_drop (.inr rfl) hb rfl (by simp)
          | true =>
          simp (disch := omega) only [↓reduceIte, go_sem] <;> repeat with_reducible refine And.intro (by first | omega | decide) ?_
          refine k2.on (go 200 (fun _ => false) mixed ?_)
          cases r2 with
          | false =>
            simp (disch := omega) only [↓reduceIte, go_sem] <;> repeat with_reducible refine And.intro (by first | omega | decide) ?_
            exact fin_drop (.inr rfl) hb rfl (by simp)
          | true =>
          simp (disch := omega) only [↓reduceIte, go_sem] <;> repeat with_reducible refine And.intro (by first | omega | decide) ?_
          refine k3.on (go 200 (fun _ => false) mixed ?_)
          simp (disch := omega) only [↓reduceIte, go_sem] <;> repeat with_reducible refine And.intro (by first | omega | decide) ?_
          exact fin_drop (.inr rfl) hb (by simp [retV]) (by simp)
      · have hne : decide (a.qs = b.qs) = false := decide_eq_false fun h => h3 (by rw [h])
        rw [hne]
        simp (disch := omega) only [↓reduceIte, go_sem, eq_true h1, eq_true h2, h3] <;> repeat with_reducible refine And.intro (by first | omega | decide) ?_
        exact fin_drop (.inr rfl) hb (by simp [retV]) (by simp)
    · rw [decide_eq_false h2]
      simp (disch := omega) only [↓reduceIte, go_sem, eq_true h1, h2] <;> repeat with_reducible refine And.intro (by first | omega | decide) ?_
      exact fin_drop (.inr rfl) hb (by simp [retV]) (by simp)
  · rw [decide_eq_false h1]
    simp (disch := omega) only [↓reduceIte, go_sem, h1] <;> repeat with_reducible refine And.intro (by first | omega | decide) ?_
    exact fin_drop (.inr rfl) hb (by simp [retV]) (by simp)

theorem c_wire_Answer (q : Ms) (l : List Rc) (hq : q.qs.length < 1100000) (hl : l.length < 1100000) (hab : ∀ r ∈ l, r.ab.length = 16) :
    PCall Try.prog 19 [msV q, .sl 23 (rcsV l)] (msV ⟨q.id, 33152, q.qs, l, [], []⟩) := by
  have key : PCall Try.prog 19 [msV q, .sl 23 (rcsV l)] (.agg [.int .i64 q.id, .int .i64 33152, .sl 3 (qusV q.qs), .sl 23 (rcsV l), .nils, .nils]) := by
    intro H
    have k1 := c_slices_Clone_api_Question_api_Question q.qs trivial hq
    have k2 := c_slices_Clone_api_Record_api_Record l hab hl
    refine scall_ofc (ord := fun _ => []) (tdOf_ok _) (rs := [.cell 4 25]) Try.func19 rfl (by kernel_rfl) (by kernel_rfl) (by kernel_rfl) Try.ntmps19 fun hb hargs => go 200 (fun _ => false) mixed ?_
    simp (disch := omega) only [↓reduceIte, go_sem, msV, msC] <;> repeat with_reducible refine And.intro (by first | omega | decide) ?_
    refine k1.onq (go 200 (fun _ => false) mixed ?_)
    simp (disch := omega) only [↓reduceIte, go_sem] <;> repeat with_reducible refine And.intro (by first | omega | decide) ?_
    refine k2.onq (go 200 (fun _ => false) mixed ?_)
    simp (disch := omega) only [↓reduceIte, go_sem] <;> repeat with_reducible refine And.intro (by first | omega | decide) ?_
    exact fin_c (.inr rfl) hb (by (simp (disch := omega) only [↓reduceIte, go_sem] <;> repeat with_reducible refine And.intro (by first | omega | decide) ?_) <;> rfl) (by
      have h1 := bdd_qus (n := H.length) q.qs
      have h2 := bdd_rcs (n := H.length) l
      rw [bdd_sl] at h1 h2
      simp only [bdd_agg, bdd_sl, List.mem_cons, List.not_mem_nil, or_false, forall_eq_or_imp, forall_eq, bdd_int, bdd_nils, true_and, and_true]
      exact ⟨h1, h2⟩)
  exact PCall.fixM key
end Go.Proofs.GoC
