/-
  What the functions compute: names that a writer writes, and the document's; the document's example. No claim by itself.
-/
import Derived.Test.YtmgemdgbffmnjaaGoWrite1
namespace Go.Proofs.GoC
open Go Go.Proofs.SL
set_option linter.unusedSimpArgs false
set_option linter.unusedVariables false
set_option maxRecDepth 10000
set_option maxHeartbeats 4000000

theorem BufAt.lenV {H : Heap} {bv : PV} {B : List UInt8} (h : BufAt H bv B) : SL.lenV (tdOf Try.prog) [35] [bv] = (true, .int .i64 (B.length : Nat)) := by
  rcases h with ⟨rfl, rfl⟩ | ⟨iB, vB, rfl, hB, hBn⟩
  · simp only [↓reduceIte, go_sem]
  · simp only [↓reduceIte, go_sem]

/-- A name is noted. -/
theorem WAt.put {H : Heap} {i iM : Nat} {bv : PV} {B : List UInt8} {es es' : Names} (h : WAt H i bv (.mp iM) B es) (hf : Far es') :
    WAt (H.set iM (some (.map (namesV es')))) i bv (.mp iM) B es' ∧ WStep H i bv (.mp iM) (H.set iM (some (.map (namesV es')))) bv (.mp iM) := by
  have hM : H[iM]? = some (some (.map (namesV es))) := by
    rcases h.map with ⟨h1, _⟩ | ⟨j, h1, h2⟩
    · cases h1
    · cases h1; exact h2
  have k : Keeps [iM] H (H.set iM (some (.map (namesV es')))) := Keeps.setF (by simp)
  have ni : i ∉ [iM] := by
    intro hj; simp only [List.mem_singleton] at hj; subst hj
    have := h.own; rw [hM] at this; cases this
  refine ⟨⟨k.get h.own ni, h.buf.keep k fun j hj hm => ?_, h.nb, .inr ⟨iM, rfl, List.getElem?_set_self (lt_of_get hM)⟩, hf⟩, k.mono fun j hj => .inl (by simp only [List.mem_singleton] at hj; subst hj; simp [mapI]), fun j hj => .inl hj⟩
  simp only [List.mem_singleton] at hm
  subst hm
  rcases h.buf with ⟨h1, _⟩ | ⟨iB, vB, h1, h2, _⟩
  · rw [h1] at hj; cases hj
  · rw [h1] at hj; simp only [bufI, List.mem_singleton] at hj; subst hj; rw [hM] at h2; cases h2

structure NS where
  H : Heap
  bv : PV
  iM : Nat
  s : List UInt8
  B : List UInt8
  es : Names

def ordWN : Nat → List Nat
  | 11 => [0, 1, 2, 3, 4, 5, 6, 7, 8, 9, 10]
  | _ => []
theorem ordWN_11 : ordWN 11 = [0, 1, 2, 3, 4, 5, 6, 7, 8, 9, 10] := rfl
theorem bys_cons1 (n : Nat) : bys [UInt8.ofNat n] = [PV.int .u8 ((n % 256 : Nat) : Int)] := by simp [bys]
theorem bys_ptr {p : Nat} (h : p < 16384) : bys [UInt8.ofNat (192 + p / 256), UInt8.ofNat (p % 256)] = [PV.int .u8 ((192 + p / 256 : Nat) : Int), PV.int .u8 ((p % 256 : Nat) : Int)] := by
  have h1 : (192 + p / 256) % 256 = 192 + p / 256 := Nat.mod_eq_of_lt (by omega)
  have h2 : p % 256 % 256 = p % 256 := Nat.mod_eq_of_lt (by omega)
  simp only [bys, List.map_cons, List.map_nil, UInt8.toNat_ofNat', h1, h2]

theorem name_no {H : Heap} {i : Nat} (s : List UInt8) (hs : s.length < 1100000) (hmay : mayN s = false) :
    SCall Try.prog 30 [.ptr i 0 0, .str (bs s)] H fun r H' => r = .bool false ∧ H' = H := by
  have hMay := c_label_May s hs
  rw [hmay] at hMay
  refine scall_of (ord := ordWN) (rs := [4]) Try.func30 rfl (by kernel_rfl) (by kernel_rfl) (by kernel_rfl) Try.ntmps30 fun hb hargs => go 200 (fun _ => false) mixed ?_
  simp (disch := omega) only [↓reduceIte, go_sem] <;> repeat with_reducible refine And.intro (by first | omega | decide) ?_
  refine hMay.on (go 200 (fun _ => false) mixed ?_)
  simp (disch := omega) only [↓reduceIte, go_sem] <;> repeat with_reducible refine And.intro (by first | omega | decide) ?_
  exact fin rfl rfl

theorem name_yes {H : Heap} {i : Nat} {bv mv : PV} {B : List UInt8} {es : Names} (h : WAt H i bv mv B es) (hG : GTab H) (s : List UInt8) (hs : s.length < 1100000) (hl : B.length ≤ 900000000) (hmay : mayN s = true) :
    SCall Try.prog 30 [.ptr i 0 0, .str (bs s)] H fun r H' => r = .bool true ∧ ∃ bv' mv', WAt H' i bv' mv' (wrN s B es).1 (wrN s B es).2 ∧ WStep H i bv mv H' bv' mv' := by
  have hMay := c_label_May s hs
  rw [hmay] at hMay
  have hs2 : s.length ≤ 253 := by
    unfold mayN at hmay
    simp only [Bool.and_eq_true, decide_eq_true_eq] at hmay
    exact hmay.1
  have o1 := obj_of h.own
  have l1 := lt_of_get h.own
  refine scall_of (ord := ordWN) (rs := [4]) Try.func30 rfl (by kernel_rfl) (by kernel_rfl) (by kernel_rfl) Try.ntmps30 fun hb hargs => go 200 (fun _ => false) mixed ?_
  simp (disch := omega) only [↓reduceIte, go_sem] <;> repeat with_reducible refine And.intro (by first | omega | decide) ?_
  refine hMay.on (go 200 (fun _ => false) mixed ?_)
  have go1 : ∃ (H1 : Heap) (iM : Nat), WAt H1 i bv (.mp iM) B es ∧ WStep H i bv mv H1 bv (.mp iM) ∧ ((mv = .nilm ∧ iM = H.length ∧ H1 = H.set i (some (.cells 0 [bv, .mp H.length])) ++ [some (.map [])]) ∨ (mv = .mp iM ∧ H1 = H)) := by
    rcases h.map with ⟨rfl, rfl⟩ | ⟨iM, rfl, hM⟩
    · have k : Keeps [i] H (H.set i (some (.cells 0 [bv, .mp H.length])) ++ [some (.map [])]) := (Keeps.setF (by simp)).trans Keeps.app
      refine ⟨_, H.length, ⟨?_, h.buf.keep k fun j hj hm => ?_, h.nb, .inr ⟨_, rfl, by rw [get_tail0s]; rfl⟩, h.far⟩, ⟨k.mono fun j hj => .inl (by simp only [List.mem_singleton] at hj; subst hj; simp), fun j hj => ?_⟩, .inl ⟨rfl, rfl, rfl⟩⟩
      · rw [List.getElem?_append_left (by simpa using l1), List.getElem?_set_self l1]
      · simp only [List.mem_singleton] at hm; subst hm; exact h.nb hj
      · rcases List.mem_append.mp hj with hj | hj
        · exact .inl (List.mem_append_left _ hj)
        · simp only [mapI, List.mem_singleton] at hj; subst hj; exact .inr (Nat.le_refl _)
    · exact ⟨H, iM, h, WStep.refl, .inr ⟨rfl, rfl⟩⟩
  obtain ⟨H1, iM, hW, hS, hc⟩ := go1
  rcases hc with ⟨hm, hiM, hH1⟩ | ⟨hm, hH1⟩
  all_goals rw [hm] at o1
  all_goals simp (disch := omega) only [↓reduceIte, go_sem, o1] <;> repeat with_reducible refine And.intro (by first | omega | decide) ?_
  all_goals try rw [← hiM, ← hH1]
  all_goals
    refine runs_loopA (fun a : NS => WAt a.H i a.bv (.mp a.iM) a.B a.es ∧ WStep H i bv mv a.H a.bv (.mp a.iM) ∧ wrN s B es = wrN a.s a.B a.es ∧ a.s.length ≤ 253 ∧ a.B.length + 2 * a.s.length ≤ 900001000) (fun a => a.s.length) [true, true]
      (fun a => slots 76 [.ptr i 0 0, .str (bs a.s)]) (fun a => a.H) (by rfl) ⟨H1, bv, iM, s, B, es⟩ ⟨hW, hS, rfl, hs2, by show B.length + 2 * s.length ≤ _; omega⟩ rfl (by first | rfl | exact hH1.symm) ?_
    rintro ⟨Ha, bva, iMa, sa, Ba, esa⟩ ⟨hWa, hSa, hall, hsl, hbl⟩
    have hWa : WAt Ha i bva (.mp iMa) Ba esa := hWa
    have hSa : WStep H i bv mv Ha bva (.mp iMa) := hSa
    have hall : wrN s B es = wrN sa Ba esa := hall
    have hsl : sa.length ≤ 253 := hsl
    have hbl : Ba.length + 2 * sa.length ≤ 900001000 := hbl
    have hMa : Ha[iMa]? = some (some (.map (namesV esa))) := by
      rcases hWa.map with ⟨h1, _⟩ | ⟨j, h1, h2⟩
      · cases h1
      · cases h1; exact h2
    have oa := obj_of hWa.own
    have la := lt_of_get hWa.own
    have lM := lt_of_get hMa
    have hlen := hWa.buf.lenV
    have hkeys := namesV_keys esa
    refine go 200 (fun _ => false) mixed ?_
    by_cases hsa : sa = []
    · subst hsa
      rw [wrN_nil] at hall
      simp (disch := omega) only [↓reduceIte, go_sem] <;> repeat with_reducible refine And.intro (by first | omega | decide) ?_
      refine go 200 (fun _ => false) mixed ?_
      simp (disch := omega) only [↓reduceIte, go_sem] <;> repeat with_reducible refine And.intro (by first | omega | decide) ?_
      have hR := c_label_Writer_Raw hWa [0] (by simp only [List.length_cons, List.length_nil]; omega) (by simp)
      refine hR.mono fun r H' ⟨bv', hW', hS'⟩ => ?_
      refine go 200 (fun _ => false) mixed ?_
      simp (disch := omega) only [↓reduceIte, go_sem] <;> repeat with_reducible refine And.intro (by first | omega | decide) ?_
      refine SL.Ends.same (.inr rfl) ⟨rfl, bv', .mp iMa, ?_, hSa.trans hS'⟩
      rw [hall]; exact hW'
    · cases hfi : findN sa esa with
      | some p =>
        have hp := findN_far hWa.far hfi
        rw [wrN_some hsa hfi] at hall
        have hlk := look_some (.int .i64 0) hfi
        have hpm : p / 256 % 256 = p / 256 := Nat.mod_eq_of_lt (by omega)
        have hor := or192 ⟨p / 256, by omega⟩
        have hor : bitOp .or .u8 ((p / 256 : Nat) : Int) 192 = ((192 + p / 256 : Nat) : Int) := hor
        have hR := c_label_Writer_Raw hWa [UInt8.ofNat (192 + p / 256), UInt8.ofNat (p % 256)] (by simp only [List.length_cons, List.length_nil]; omega) (by simp)
        rw [bys_ptr hp] at hR
        simp (disch := omega) only [↓reduceIte, go_sem, hsa, oa, hMa, hkeys, hlk, hor, mw_u8, hpm] <;> repeat with_reducible refine And.intro (by first | omega | decide) ?_
        refine hR.mono fun r H' ⟨bv', hW', hS'⟩ => ?_
        refine go 200 (fun _ => false) mixed ?_
        simp (disch := omega) only [↓reduceIte, go_sem] <;> repeat with_reducible refine And.intro (by first | omega | decide) ?_
        refine SL.Ends.same (.inr rfl) ⟨rfl, bv', .mp iMa, ?_, hSa.trans hS'⟩
        rw [hall]; exact hW'
      | none =>
        rw [wrN_none hsa hfi] at hall
        have hlk := look_none (.int .i64 0) hfi
        have hpn := put_none Ba.length hfi
        have hLab := labels_sl sa (by omega)
        obtain ⟨hl0, hl1⟩ := lab_first hsa
        have g0 : (strs (labF sa)).getD 0 .any = .str (bs (dotL sa)) := by rw [strs_getD hl1, hl0]
        have hdl := dotLR_len sa
        have hdr := dotR_lt hsa
        -- the name is noted, or not
        have noted : ∃ Hb, (Hb = if Ba.length < 16384 then Ha.set iMa (some (.map (namesV (esa ++ [(sa, Ba.length)])))) else Ha) ∧ WAt Hb i bva (.mp iMa) Ba (if Ba.length < 16384 then esa ++ [(sa, Ba.length)] else esa) ∧ WStep Ha i bva (.mp iMa) Hb bva (.mp iMa) := by
          by_cases h16 : Ba.length < 16384
          · rw [if_pos h16, if_pos h16]
            have hF := hWa.far.step sa Ba
            rw [if_pos h16] at hF
            obtain ⟨a, b⟩ := hWa.put hF
            exact ⟨_, rfl, a, b⟩
          · rw [if_neg h16, if_neg h16]
            exact ⟨_, rfl, hWa, WStep.refl⟩
        obtain ⟨Hb, hHb, hWb, hSb⟩ := noted
        have hR1 := c_label_Writer_Raw hWb [UInt8.ofNat (dotL sa).length] (by simp only [List.length_cons, List.length_nil]; omega) (by simp)
        rw [bys_cons1] at hR1
        have hbuf := hWa.buf
        have hpn0 : putM (.str (bs sa)) (.int .i64 0) (namesV esa) = namesV (esa ++ [(sa, 0)]) := put_none 0 hfi
        by_cases h16 : Ba.length < 16384
        all_goals
          first | rw [if_pos h16] at hHb | rw [if_neg h16] at hHb
          rcases hbuf with ⟨hbv, hB0⟩ | ⟨iB, vB, hbv, hBH, hBn⟩
          all_goals try (rw [hB0] at h16; exfalso; simp only [List.length_nil] at h16; omega)
          all_goals
            rw [hbv] at oa
            try
              rw [hB0] at h16 hHb
              simp only [List.length_nil] at h16 hHb
            simp (disch := omega) only [↓reduceIte, go_sem, hsa, oa, hMa, hkeys, hlk, ordWN_11, hpn, hpn0, h16] <;> repeat with_reducible refine And.intro (by first | omega | decide) ?_
            refine hLab.on (go 200 (fun _ => false) mixed ?_)
            simp (disch := omega) only [↓reduceIte, go_sem, g0, hl1, mw_u8] <;> repeat with_reducible refine And.intro (by first | omega | decide) ?_
            rw [← hHb]
            refine hR1.mono fun r1 H2 ⟨bv2, hW2, hS2⟩ => ?_
            refine go 200 (fun _ => false) mixed ?_
            simp (disch := omega) only [↓reduceIte, go_sem] <;> repeat with_reducible refine And.intro (by first | omega | decide) ?_
            refine (c_label_Writer_Raw hW2 (dotL sa) (by simp only [List.length_append, List.length_cons, List.length_nil]; omega) (by simp)).mono fun r3 H3 ⟨bv3, hW3, hS3⟩ => ?_
            refine go 200 (fun _ => false) mixed ?_
            simp (disch := omega) only [↓reduceIte, go_sem] <;> repeat with_reducible refine And.intro (by first | omega | decide) ?_
            have hSt := ((hSa.trans hSb).trans hS2).trans hS3
            refine (c_label_Parent sa (by omega)).on (hG.wstep h hSt) (go 200 (fun _ => false) mixed ?_)
            simp (disch := omega) only [↓reduceIte, go_sem] <;> repeat with_reducible refine And.intro (by first | omega | decide) ?_
            rw [List.append_assoc] at hW3
            refine rnd_next ⟨H3, bv3, iMa, dotR sa, Ba ++ lab1 (dotL sa), if Ba.length < 16384 then esa ++ [(sa, Ba.length)] else esa⟩ ⟨hW3, hSt, hall, by show (dotR sa).length ≤ 253; omega, ?_⟩ hdr rfl rfl
            show (Ba ++ lab1 (dotL sa)).length + 2 * (dotR sa).length ≤ 900001000
            have h4 : (Ba ++ lab1 (dotL sa)).length = Ba.length + ((dotL sa).length + 1) := by rw [List.length_append]; rfl
            omega
end Go.Proofs.GoC
