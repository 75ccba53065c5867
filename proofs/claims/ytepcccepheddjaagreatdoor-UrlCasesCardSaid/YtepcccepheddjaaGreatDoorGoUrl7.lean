/-
  What the document's functions compute: texts of addresses, references; the law UrlParse. No claim by itself.
-/
import Derived.Test.YtepcccepheddjaaGreatDoorGoUrl6
namespace Go.Proofs.GoC
open Go Go.Proofs.SL
set_option linter.unusedSimpArgs false
set_option linter.unusedVariables false
set_option maxRecDepth 10000
set_option maxHeartbeats 8000000

theorem c_abatisref13_Origin (u : Ur) : PCall Tryz.prog 17 [urV u] (orV u) := by
  intro H
  refine scall_ofc (ord := fun _ => []) (tdOf_ok _) (rs := [.cell 2 33]) Tryz.func17 rfl (by kernel_rfl) (by kernel_rfl) (by kernel_rfl) Tryz.ntmps17 fun hb hargs => go 200 (fun _ => false) mixed ?_
  simp (disch := omega) only [↓reduceIte, go_sem, urV, urC] <;> repeat with_reducible refine And.intro (by first | omega | decide) ?_
  exact fin_c (.inr rfl) hb (by simp only [go_sem, orV, orC] <;> rfl) bdd_or
theorem c_abatisref13_Text (u : Ur) (hl : u.sch.length + u.host.length < 1000000) (hp : u.port ≤ 1099511627776) : PCall Tryz.prog 18 [orV u] (.str (bs (textU u))) := by
  intro H
  have hdl := decF_len u.port 17 (by omega)
  have hP := c_abatisref13_Port u.sch
  refine scall_of (ord := fun _ => []) (rs := [2]) Tryz.func18 rfl (by kernel_rfl) (by kernel_rfl) (by kernel_rfl) Tryz.ntmps18 fun hb hargs => go 200 (fun _ => false) mixed ?_
  unfold textU
  by_cases h : (u.port : Int) = portI u.sch
  · rw [if_pos h]
    rw [← h] at hP
    simp (disch := omega) only [↓reduceIte, go_sem, orV, orC, List.length_append, List.length_cons] <;> repeat with_reducible refine And.intro (by first | omega | decide) ?_
    refine hP.onq (go 200 (fun _ => false) mixed ?_)
    simp (disch := omega) only [↓reduceIte, go_sem, orV, orC, List.length_append, List.length_cons] <;> repeat with_reducible refine And.intro (by first | omega | decide) ?_
    exact fin_drop (.inr rfl) hb (by simp [sep3]; rfl) (by simp)
  · rw [if_neg h]
    simp (disch := omega) only [↓reduceIte, go_sem, orV, orC, List.length_append, List.length_cons] <;> repeat with_reducible refine And.intro (by first | omega | decide) ?_
    refine hP.onq (go 200 (fun _ => false) mixed ?_)
    simp (disch := omega) only [↓reduceIte, go_sem, orV, orC, h, List.length_append, List.length_cons] <;> repeat with_reducible refine And.intro (by first | omega | decide) ?_
    refine (c_abatisref01_Decimal u.port (by omega)).onq (go 200 (fun _ => false) mixed ?_)
    simp (disch := omega) only [↓reduceIte, go_sem, orV, orC, List.length_append, List.length_cons] <;> repeat with_reducible refine And.intro (by first | omega | decide) ?_
    exact fin_drop (.inr rfl) hb (by simp [sep3]; rfl) (by simp)
theorem c_abatisref13_Print (u : Ur) (hl : u.sch.length + u.host.length + (u.path.length + u.query.length) < 1000000) (hp : u.port ≤ 1099511627776) : PCall Tryz.prog 16 [urV u] (.str (bs (printU u))) := by
  intro H
  have ht := textU_len u hp
  refine scall_of (ord := fun _ => []) (rs := [2]) Tryz.func16 rfl (by kernel_rfl) (by kernel_rfl) (by kernel_rfl) Tryz.ntmps16 fun hb hargs => go 200 (fun _ => false) mixed ?_
  simp (disch := omega) only [↓reduceIte, go_sem, urV, urC] <;> repeat with_reducible refine And.intro (by first | omega | decide) ?_
  refine (c_abatisref13_Origin u).onq (go 200 (fun _ => false) mixed ?_)
  simp (disch := omega) only [↓reduceIte, go_sem] <;> repeat with_reducible refine And.intro (by first | omega | decide) ?_
  refine (c_abatisref13_Text u (by omega) hp).onq (go 200 (fun _ => false) mixed ?_)
  simp (disch := omega) only [↓reduceIte, go_sem, List.length_append, List.length_cons] <;> repeat with_reducible refine And.intro (by first | omega | decide) ?_
  exact fin_drop (.inr rfl) hb (by simp [printU]; rfl) (by simp)

theorem lives_U : parseU [72, 84, 84, 80, 58, 47, 47, 48, 120, 55, 102, 46, 49, 58, 56, 48, 47, 97, 63, 98, 35, 99] = .ok ⟨httpT, [49, 50, 55, 46, 48, 46, 48, 46, 49], 80, [47, 97], [63, 98]⟩ := by kernel_rfl
theorem c_abatislaw13_lives : GCall 11 [] (.bool true) := by
  intro H hG
  refine scall_of (ord := fun _ => []) (rs := [0]) Tryz.func11 rfl (by kernel_rfl) (by kernel_rfl) (by kernel_rfl) Tryz.ntmps11 fun hb hargs => go 200 (fun _ => false) mixed ?_
  simp (disch := omega) only [↓reduceIte, go_sem] <;> repeat with_reducible refine And.intro (by first | omega | decide) ?_
  refine (c_url_Parse [72, 84, 84, 80, 58, 47, 47, 48, 120, 55, 102, 46, 49, 58, 56, 48, 47, 97, 63, 98, 35, 99] (by decide)).on hG (go 200 (fun _ => false) mixed ?_)
  rw [lives_U]
  simp only [parseUV]
  have hpr : printU ⟨httpT, [49, 50, 55, 46, 48, 46, 48, 46, 49], 80, [47, 97], [63, 98]⟩ = [104, 116, 116, 112, 58, 47, 47, 49, 50, 55, 46, 48, 46, 48, 46, 49, 47, 97, 63, 98] := by kernel_rfl
  have key := c_url_Print ⟨httpT, [49, 50, 55, 46, 48, 46, 48, 46, 49], 80, [47, 97], [63, 98]⟩ (by decide) (by decide)
  rw [hpr] at key
  simp only [urV, urC] at key ⊢
  simp (disch := omega) only [↓reduceIte, go_sem] <;> repeat with_reducible refine And.intro (by first | omega | decide) ?_
  refine key.on hG.app (go 200 (fun _ => false) mixed ?_)
  simp (disch := omega) only [↓reduceIte, go_sem] <;> repeat with_reducible refine And.intro (by first | omega | decide) ?_
  exact fin_drop (.inr rfl) hb rfl (by simp)

theorem c_abatislaw13_UrlParse (l : List UInt8) : GCall 3 [.str (bs l)] (.bool true) := by
  intro H hG
  refine scall_of (ord := fun _ => []) (rs := [2]) Tryz.func3 rfl (by kernel_rfl) (by kernel_rfl) (by kernel_rfl) Tryz.ntmps3 fun hb hargs => go 200 (fun _ => false) mixed ?_
  simp (disch := omega) only [↓reduceIte, go_sem] <;> repeat with_reducible refine And.intro (by first | omega | decide) ?_
  refine (c_abatisref01_Few l 2100).on (go 200 (fun _ => false) mixed ?_)
  have hl : (l.take 2100).length < 900000 := by rw [List.length_take]; omega
  generalize l.take 2100 = s at *
  simp (disch := omega) only [↓reduceIte, go_sem] <;> repeat with_reducible refine And.intro (by first | omega | decide) ?_
  refine (c_url_Parse s hl).on hG (go 200 (fun _ => false) mixed ?_)
  obtain ⟨u, e, hue⟩ := parseUV_two (parseU s)
  rw [hue]
  simp only [urV, urC]
  simp (disch := omega) only [↓reduceIte, go_sem] <;> repeat with_reducible refine And.intro (by first | omega | decide) ?_
  have hr := c_abatisref13_Parse s hl
  rw [hue] at hr
  simp only [urV, urC] at hr
  refine hr.on (go 200 (fun _ => false) mixed ?_)
  simp (disch := omega) only [↓reduceIte, go_sem] <;> repeat with_reducible refine And.intro (by first | omega | decide) ?_
  refine c_abatislaw13_lives.on hG.app (go 200 (fun _ => false) mixed ?_)
  simp (disch := omega) only [↓reduceIte, go_sem] <;> repeat with_reducible refine And.intro (by first | omega | decide) ?_
  exact fin_drop (.inr rfl) hb rfl (by simp)
end Go.Proofs.GoC
