/-
  What the document's functions compute: texts of addresses, references; the law UrlParse. No claim by itself.
-/
import Derived.Test.YtepcccepheddjaaDoorGoUrl6
namespace Go.Proofs.GoC
open Go Go.Proofs.SL
set_option linter.unusedSimpArgs false
set_option linter.unusedVariables false
set_option maxRecDepth 10000
set_option maxHeartbeats 8000000

theorem lives_U : parseU [72, 84, 84, 80, 58, 47, 47, 48, 120, 55, 102, 46, 49, 58, 56, 48, 47, 97, 63, 98, 35, 99] = .ok ⟨httpT, [49, 50, 55, 46, 48, 46, 48, 46, 49], 80, [47, 97], [63, 98]⟩ := by kernel_rfl
theorem c_abatislaw13_lives : GCall 7 [] (.bool true) := by
  intro H hG
  refine scall_of (ord := fun _ => []) (rs := [0]) Tryd.func7 rfl (by kernel_rfl) (by kernel_rfl) (by kernel_rfl) Tryd.ntmps7 fun hb hargs => go 200 (fun _ => false) mixed ?_
  simp (disch := omega) only [↓reduceIte, go_sem] <;> repeat with_reducible refine And.intro (by first | omega | decide) ?_
  refine (c_url_Parse [72, 84, 84, 80, 58, 47, 47, 48, 120, 55, 102, 46, 49, 58, 56, 48, 47, 97, 63, 98, 35, 99] (by decide)).on hG (go 200 (fun _ => false) mixed ?_)
  rw [lives_U]
  simp only [parseUV]
  have hpr : printU ⟨httpT, [49, 50, 55, 46, 48, 46, 48, 46, 49], 80, [47, 97], [63, 98]⟩ = [104, 116, 116, 112, 58, 47, 47, 49, 50, 55, 46, 48, 46, 48, 46, 49, 47, 97, 63, 98] := by kernel_rfl
  have key := c_url_Print ⟨httpT, [49, 50, 55, 46, 48, 46, 48, 46, 49], 80, [47, 97], [63, 98]⟩ (by decide) (by decide)
  rw [hpr] at key
  simp only [urV, urC] at key ⊢
  simp (disch := omega) only [↓reduceIte, go_sem] <;> repeat with_reducible refine And.intro (by first | omega | decide) ?_
  refine key.on hG.app (go 200 (fun _ => false) mixed ?_)
  simp (disch := omega) only [↓reduceIte, go_sem] <;> repeat with_reducible refine And.intro (by first | omega | decide) ?_
  exact fin_drop (.inr rfl) hb rfl (by simp)

end Go.Proofs.GoC
