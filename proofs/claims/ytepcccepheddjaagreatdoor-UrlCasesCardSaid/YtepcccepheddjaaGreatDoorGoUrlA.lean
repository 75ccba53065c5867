/-
  The laws UrlRound, UrlOrigins. No claim by itself.
-/
import Derived.Test.YtepcccepheddjaaGreatDoorGoUrl9
namespace Go.Proofs.GoC
open Go Go.Proofs.SL
set_option linter.unusedSimpArgs false
set_option linter.unusedVariables false
set_option maxRecDepth 10000
set_option maxHeartbeats 8000000

theorem parse_textU {u : Ur} (hu : GoodU u) (hl : u.host.length ≤ 1900) : parseU (textU u) = .ok ⟨u.sch, u.host, u.port, [47], []⟩ := by
  have h := parse_text hu (t := []) (.inl rfl) (by simp) (by simp) (by simpa using hl)
  rw [List.append_nil] at h
  exact h

theorem c_abatislaw13_UrlRound (l : List UInt8) : GCall 4 [.str (bs l)] (.bool true) := by
  intro H hG
  refine scall_of (ord := fun _ => []) (rs := [2]) Tryz.func4 rfl (by kernel_rfl) (by kernel_rfl) (by kernel_rfl) Tryz.ntmps4 fun hb hargs => go 200 (fun _ => false) mixed ?_
  simp (disch := omega) only [↓reduceIte, go_sem] <;> repeat with_reducible refine And.intro (by first | omega | decide) ?_
  refine (c_abatisref01_Few l 200).on (go 200 (fun _ => false) mixed ?_)
  have hl : (l.take 200).length ≤ 200 := by rw [List.length_take]; omega
  generalize l.take 200 = s at *
  simp (disch := omega) only [↓reduceIte, go_sem] <;> repeat with_reducible refine And.intro (by first | omega | decide) ?_
  refine (c_abatisref13_Good s (by omega)).on (go 200 (fun _ => false) mixed ?_)
  obtain ⟨hsch, hlen, hport⟩ := goodU_len s
  have hu := goodU_good s
  have hsl := sch_len hsch
  generalize goodU s = u at *
  have hpr := c_url_Print u (by omega) (by omega)
  have hpr2 := c_abatisref13_Print u (by omega) (by omega)
  have htl := textU_len u (by omega)
  have hplen : (printU u).length < 900000 := by unfold printU; simp only [List.length_append]; omega
  have hpa := c_url_Parse (printU u) hplen
  rw [parse_printU hu (by omega)] at hpa
  have hpb := c_url_Parse (textU u) (by omega)
  rw [parse_textU hu (by omega)] at hpb
  have hor := c_url_Origin u
  have hor2 := c_abatisref13_Origin u
  have hor3 := c_url_Origin ⟨u.sch, u.host, u.port, [47], []⟩
  have htx := c_url_Text u (by omega) (by omega)
  have htx2 := c_abatisref13_Text u (by omega) (by omega)
  have hp1 := c_url_Port u.sch
  have hp2 := c_abatisref13_Port u.sch
  have hp3 := c_url_Port l
  have hp4 := c_abatisref13_Port l
  simp only [parseUV, urV, urC, orV, orC] at hpr hpr2 hpa hpb hor hor2 hor3 htx htx2 ⊢
  simp (disch := omega) only [↓reduceIte, go_sem] <;> repeat with_reducible refine And.intro (by first | omega | decide) ?_
  refine hpr.on hG.app (go 200 (fun _ => false) mixed ?_)
  simp (disch := omega) only [↓reduceIte, go_sem] <;> repeat with_reducible refine And.intro (by first | omega | decide) ?_
  refine hpa.on hG.app (go 200 (fun _ => false) mixed ?_)
  simp (disch := omega) only [↓reduceIte, go_sem] <;> repeat with_reducible refine And.intro (by first | omega | decide) ?_
  refine hor.on (go 200 (fun _ => false) mixed ?_)
  simp (disch := omega) only [↓reduceIte, go_sem] <;> repeat with_reducible refine And.intro (by first | omega | decide) ?_
  refine htx.on hG.app (go 200 (fun _ => false) mixed ?_)
  simp (disch := omega) only [↓reduceIte, go_sem] <;> repeat with_reducible refine And.intro (by first | omega | decide) ?_
  refine hpb.on hG.app (go 200 (fun _ => false) mixed ?_)
  simp (disch := omega) only [↓reduceIte, go_sem, List.append_eq] <;> repeat with_reducible refine And.intro (by first | omega | decide) ?_
  refine hpr2.onq (go 200 (fun _ => false) mixed ?_)
  simp (disch := omega) only [↓reduceIte, go_sem] <;> repeat with_reducible refine And.intro (by first | omega | decide) ?_
  refine hor2.onq (go 200 (fun _ => false) mixed ?_)
  simp (disch := omega) only [↓reduceIte, go_sem] <;> repeat with_reducible refine And.intro (by first | omega | decide) ?_
  refine ⟨_, htx _ hG.app, go 200 (fun _ => false) mixed ?_⟩
  simp (disch := omega) only [↓reduceIte, go_sem] <;> repeat with_reducible refine And.intro (by first | omega | decide) ?_
  refine htx2.onq (go 200 (fun _ => false) mixed ?_)
  simp (disch := omega) only [↓reduceIte, go_sem] <;> repeat with_reducible refine And.intro (by first | omega | decide) ?_
  refine hor3.onq (go 200 (fun _ => false) mixed ?_)
  simp (disch := omega) only [↓reduceIte, go_sem] <;> repeat with_reducible refine And.intro (by first | omega | decide) ?_
  refine hp1.onq (go 200 (fun _ => false) mixed ?_)
  simp (disch := omega) only [↓reduceIte, go_sem] <;> repeat with_reducible refine And.intro (by first | omega | decide) ?_
  refine hp2.onq (go 200 (fun _ => false) mixed ?_)
  simp (disch := omega) only [↓reduceIte, go_sem] <;> repeat with_reducible refine And.intro (by first | omega | decide) ?_
  refine hp3.onq (go 200 (fun _ => false) mixed ?_)
  simp (disch := omega) only [↓reduceIte, go_sem] <;> repeat with_reducible refine And.intro (by first | omega | decide) ?_
  refine hp4.onq (go 200 (fun _ => false) mixed ?_)
  simp (disch := omega) only [↓reduceIte, go_sem] <;> repeat with_reducible refine And.intro (by first | omega | decide) ?_
  refine ⟨_, c_abatislaw13_lives _ hG.app, go 200 (fun _ => false) mixed ?_⟩
  simp (disch := omega) only [↓reduceIte, go_sem] <;> repeat with_reducible refine And.intro (by first | omega | decide) ?_
  exact fin_drop (.inr rfl) hb rfl (by simp)

theorem origin_text {u v : Ur} (hu : GoodU u) (hv : GoodU v) (h1 : u.host.length ≤ 1900) (h2 : v.host.length ≤ 1900) : textU u = textU v ↔ (u.sch = v.sch ∧ u.host = v.host ∧ u.port = v.port) := by
  constructor
  · intro h
    have e1 := parse_textU hu h1
    rw [h, parse_textU hv h2] at e1
    injection e1 with e1
    injection e1 with a b c d e
    exact ⟨a.symm, b.symm, c.symm⟩
  · rintro ⟨a, b, c⟩
    unfold textU
    rw [a, b, c]

theorem c_abatislaw13_UrlOrigins (l m : List UInt8) : GCall 5 [.str (bs l), .str (bs m)] (.bool true) := by
  intro H hG
  refine scall_of (ord := fun _ => []) (rs := [4]) Tryz.func5 rfl (by kernel_rfl) (by kernel_rfl) (by kernel_rfl) Tryz.ntmps5 fun hb hargs => go 200 (fun _ => false) mixed ?_
  simp (disch := omega) only [↓reduceIte, go_sem] <;> repeat with_reducible refine And.intro (by first | omega | decide) ?_
  refine (c_abatisref01_Few l 100).on (go 200 (fun _ => false) mixed ?_)
  have hl : (l.take 100).length ≤ 100 := by rw [List.length_take]; omega
  have hm : (m.take 100).length ≤ 100 := by rw [List.length_take]; omega
  generalize l.take 100 = s at *
  simp (disch := omega) only [↓reduceIte, go_sem] <;> repeat with_reducible refine And.intro (by first | omega | decide) ?_
  refine (c_abatisref13_Good s (by omega)).on (go 200 (fun _ => false) mixed ?_)
  obtain ⟨hsch, hlen, hport⟩ := goodU_len s
  have hu := goodU_good s
  have hsl := sch_len hsch
  generalize goodU s = u at *
  simp only [urV, urC]
  simp (disch := omega) only [↓reduceIte, go_sem] <;> repeat with_reducible refine And.intro (by first | omega | decide) ?_
  refine (c_abatisref01_Few m 100).on (go 200 (fun _ => false) mixed ?_)
  generalize m.take 100 = r at *
  simp (disch := omega) only [↓reduceIte, go_sem] <;> repeat with_reducible refine And.intro (by first | omega | decide) ?_
  have hgr := c_abatisref13_Good r (by omega)
  obtain ⟨hsch2, hlen2, hport2⟩ := goodU_len r
  have hv := goodU_good r
  have hsl2 := sch_len hsch2
  generalize goodU r = v at *
  have ho1 := c_url_Origin u
  have ho2 := c_url_Origin v
  have ht1 := c_url_Text u (by omega) (by omega)
  have ht2 := c_url_Text v (by omega) (by omega)
  have hiff := origin_text hu hv (by omega) (by omega)
  simp only [urV, urC, orV, orC] at hgr ho1 ho2 ht1 ht2
  refine hgr.on (go 200 (fun _ => false) mixed ?_)
  simp (disch := omega) only [↓reduceIte, go_sem] <;> repeat with_reducible refine And.intro (by first | omega | decide) ?_
  refine ho1.onq (go 200 (fun _ => false) mixed ?_)
  simp (disch := omega) only [↓reduceIte, go_sem] <;> repeat with_reducible refine And.intro (by first | omega | decide) ?_
  refine ho2.onq (go 200 (fun _ => false) mixed ?_)
  simp (disch := omega) only [↓reduceIte, go_sem] <;> repeat with_reducible refine And.intro (by first | omega | decide) ?_
  refine ho1.onq (go 200 (fun _ => false) mixed ?_)
  simp (disch := omega) only [↓reduceIte, go_sem] <;> repeat with_reducible refine And.intro (by first | omega | decide) ?_
  refine ⟨_, ht1 _ hG.app, go 200 (fun _ => false) mixed ?_⟩
  simp (disch := omega) only [↓reduceIte, go_sem] <;> repeat with_reducible refine And.intro (by first | omega | decide) ?_
  refine ho2.onq (go 200 (fun _ => false) mixed ?_)
  simp (disch := omega) only [↓reduceIte, go_sem] <;> repeat with_reducible refine And.intro (by first | omega | decide) ?_
  refine ⟨_, ht2 _ hG.app, go 200 (fun _ => false) mixed ?_⟩
  by_cases he : textU u = textU v
  · obtain ⟨a, b, c⟩ := hiff.mp he
    have cI : (u.port : Int) = (v.port : Int) := by rw [c]
    simp (disch := omega) only [↓reduceIte, go_sem, he, a, b, c, cI] <;> repeat with_reducible refine And.intro (by first | omega | decide) ?_
    refine ⟨_, c_abatislaw13_lives _ hG.app, go 200 (fun _ => false) mixed ?_⟩
    simp (disch := omega) only [↓reduceIte, go_sem] <;> repeat with_reducible refine And.intro (by first | omega | decide) ?_
    exact fin_drop (.inr rfl) hb rfl (by simp)
  · have hne : ¬ (u.sch = v.sch ∧ u.host = v.host ∧ u.port = v.port) := fun h => he (hiff.mpr h)
    have hneI : ¬ (u.sch = v.sch ∧ u.host = v.host ∧ (u.port : Int) = (v.port : Int)) := fun h => hne ⟨h.1, h.2.1, by omega⟩
    have hneL : ¬ ([PV.str (bs u.sch), PV.str (bs u.host), PV.int IntKind.i64 (u.port : Nat)] = [PV.str (bs v.sch), PV.str (bs v.host), PV.int IntKind.i64 (v.port : Nat)]) := fun h => by
      simp [bs] at h
      exact hne ⟨h.1, h.2.1, by omega⟩
    simp (disch := omega) only [↓reduceIte, go_sem, he, hne, hneI, hneL] <;> repeat with_reducible refine And.intro (by first | omega | decide) ?_
    refine ⟨_, c_abatislaw13_lives _ hG.app, go 200 (fun _ => false) mixed ?_⟩
    simp (disch := omega) only [↓reduceIte, go_sem] <;> repeat with_reducible refine And.intro (by first | omega | decide) ?_
    exact fin_drop (.inr rfl) hb rfl (by simp)
end Go.Proofs.GoC
