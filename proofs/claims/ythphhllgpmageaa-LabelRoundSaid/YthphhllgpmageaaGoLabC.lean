/-
  The laws LabelLoops, LabelRound. No claim by itself.
-/
import Derived.Test.YthphhllgpmageaaGoLabB
namespace Go.Proofs.GoC
open Go Go.Proofs.SL
set_option linter.unusedSimpArgs false
set_option linter.unusedVariables false
set_option maxRecDepth 10000
set_option maxHeartbeats 4000000

theorem view_bys {H : Heap} {i ver : Nat} {tip : Bool} {B : List UInt8} (ho : H[i]? = some (some (.cells ver (bys B)))) : View H (.buf i ver 0 B.length 1 tip) (.sl 1 (bys B)) :=
  .buf ho (by rw [flat_bys, sub_bys]) bys_len bys_cells bys_bdd
theorem rdV_plain (r : RdR) : Plain (rdV r) := by
  cases r <;> refine .tup _ fun p hp => ?_ <;> simp only [List.mem_cons, List.not_mem_nil, or_false] at hp <;> rcases hp with rfl | rfl | rfl <;> constructor

theorem c_abatislaw08_LabelLoops (X : List UInt8) (hX : X.length ≤ 9223372036854775807) (n : Int) (h1 : -9223372036854775808 ≤ n) (h2 : n ≤ 9223372036854775807) : GCall 7 [.sl 1 (bys X), .int .i64 n] (.bool true) := by
  intro H hG
  refine scall_of (ord := fun _ => []) (rs := [4]) Try.func7 rfl (by kernel_rfl) (by kernel_rfl) (by kernel_rfl) Try.ntmps7 fun hb hargs => go 200 (fun t => t == 19) mixed ?_
  simp (disch := omega) only [↓reduceIte, go_sem] <;> repeat with_reducible refine And.intro (by first | omega | decide) ?_
  refine (c_abatislaw08_few X 50 (by omega) (by decide)).on (go 200 (fun t => t == 19) mixed ?_)
  have ha : (X.take 50).length ≤ 50 := by rw [List.length_take]; omega
  generalize X.take 50 = A at *
  have hat := aroundF_lt n (show 0 < 10000 by omega)
  simp (disch := omega) only [↓reduceIte, go_sem] <;> repeat with_reducible refine And.intro (by first | omega | decide) ?_
  refine (c_abatisref01_Around n h1 h2 10000 (by decide)).on (go 200 (fun t => t == 19) mixed ?_)
  generalize aroundF n 10000 = k at *
  have hq : (A.length + k) / 256 ≤ 39 := by omega
  have eB : bys A ++ [PV.int .u8 ((192 + (A.length + k) / 256 : Nat) : Int), PV.int .u8 (((A.length + k) % 256 : Nat) : Int), PV.int .u8 0] = bys (A ++ [UInt8.ofNat (192 + (A.length + k) / 256), UInt8.ofNat ((A.length + k) % 256), 0]) := by
    have e1 : (192 + (A.length + k) / 256) % 256 = 192 + (A.length + k) / 256 := Nat.mod_eq_of_lt (by omega)
    have e2 : (A.length + k) % 256 % 256 = (A.length + k) % 256 := Nat.mod_eq_of_lt (by omega)
    simp only [bys, List.map_append, List.map_cons, List.map_nil, UInt8.toNat_ofNat', e1, e2]
    rfl
  simp (disch := omega) only [↓reduceIte, go_sem, most, eB] <;> repeat with_reducible refine And.intro (by first | omega | decide) ?_
  -- what is read there
  have hrd : rdF (A ++ [UInt8.ofNat (192 + (A.length + k) / 256), UInt8.ofNat ((A.length + k) % 256), 0]) A.length A.length 0 [] = .form := by
    have hl : (A ++ [UInt8.ofNat (192 + (A.length + k) / 256), UInt8.ofNat ((A.length + k) % 256), 0]).length = A.length + 3 := by simp
    have a1 : atB (A ++ [UInt8.ofNat (192 + (A.length + k) / 256), UInt8.ofNat ((A.length + k) % 256), 0]) A.length = 192 + (A.length + k) / 256 := by
      unfold atB
      rw [List.getD_eq_getElem?_getD, List.getElem?_append_right (Nat.le_refl _), Nat.sub_self]
      simp only [List.getElem?_cons_zero, Option.getD_some, UInt8.toNat_ofNat']
      omega
    have a2 : atB (A ++ [UInt8.ofNat (192 + (A.length + k) / 256), UInt8.ofNat ((A.length + k) % 256), 0]) (A.length + 1) = (A.length + k) % 256 := by
      unfold atB
      rw [List.getD_eq_getElem?_getD, List.getElem?_append_right (by omega), Nat.add_sub_cancel_left]
      simp only [List.getElem?_cons_succ, List.getElem?_cons_zero, Option.getD_some, UInt8.toNat_ofNat']
      omega
    have hp : ptrB (A ++ [UInt8.ofNat (192 + (A.length + k) / 256), UInt8.ofNat ((A.length + k) % 256), 0]) A.length = A.length + k := by
      unfold ptrB; rw [a1, a2]; omega
    rw [rdF, dif_neg (by omega), if_neg (by omega), if_pos (by omega), if_neg (by omega), dif_pos (by omega)]
  have hR := c_label_Read (A ++ [UInt8.ofNat (192 + (A.length + k) / 256), UInt8.ofNat ((A.length + k) % 256), 0]) A.length (by simp) (by simp; omega)
  rw [hrd] at hR
  have hv := hR.view (H := H ++ [some (.cells 1 (bys (A ++ [UInt8.ofNat (192 + (A.length + k) / 256), UInt8.ofNat ((A.length + k) % 256), 0])))]) (.cons (view_bys (i := H.length) (ver := 1) (tip := true) (by rw [get_tail0]; rfl)) (.cons (.same (.int _ _)) .nil)) (rdV_plain _)
  rw [show (A ++ [UInt8.ofNat (192 + (A.length + k) / 256), UInt8.ofNat ((A.length + k) % 256), 0]).length = A.length + 3 by simp] at hv
  refine hv.mono fun r H' ⟨e1, e2⟩ => ?_
  subst e1 e2
  refine go 200 (fun _ => false) mixed ?_
  simp (disch := omega) only [↓reduceIte, go_sem, rdV] <;> repeat with_reducible refine And.intro (by first | omega | decide) ?_
  refine c_abatislaw08_lives.on hG.app (go 200 (fun _ => false) mixed ?_)
  simp (disch := omega) only [↓reduceIte, go_sem] <;> repeat with_reducible refine And.intro (by first | omega | decide) ?_
  exact fin_drop (.inr rfl) hb rfl (by simp)

theorem c_abatislaw08_LabelRound (x X Y : List UInt8) (hX : X.length ≤ 9223372036854775807) (hY : Y.length ≤ 9223372036854775807) : GCall 9 [.str (bs x), .sl 1 (bys X), .sl 1 (bys Y)] (.bool true) := by
  intro H hG
  refine scall_of (ord := fun _ => []) (rs := [6]) Try.func9 rfl (by kernel_rfl) (by kernel_rfl) (by kernel_rfl) Try.ntmps9 fun hb hargs => go 200 (fun t => t == 25) mixed ?_
  simp (disch := omega) only [↓reduceIte, go_sem] <;> repeat with_reducible refine And.intro (by first | omega | decide) ?_
  refine (c_abatisref01_Few x 100).on (go 200 (fun t => t == 25) mixed ?_)
  have ha : (x.take 100).length ≤ 100 := by rw [List.length_take]; omega
  generalize x.take 100 = y at *
  simp (disch := omega) only [↓reduceIte, go_sem] <;> repeat with_reducible refine And.intro (by first | omega | decide) ?_
  refine (c_abatisref08_Good y (by omega)).on (go 200 (fun t => t == 25) mixed ?_)
  have hmay := good_may y
  generalize goodN y = s at *
  have hsl := may_len hmay
  simp (disch := omega) only [↓reduceIte, go_sem] <;> repeat with_reducible refine And.intro (by first | omega | decide) ?_
  refine (c_abatislaw08_few X 50 (by omega) (by decide)).on (go 200 (fun t => t == 25) mixed ?_)
  have ha : (X.take 50).length ≤ 50 := by rw [List.length_take]; omega
  generalize X.take 50 = A at *
  have hBy := c_label_Bytes s (by omega)
  rw [hmay] at hBy
  have hbl := bytesN_len (labF s)
  have hms := may_sum hmay
  have hrd := rd_bytes (A := A) (C := Y.take 50) (may_gd hmay) hms
  have hjl := join_lab s
  have hb0 : ¬ (bytesN (labF s)).length = 0 := by omega
  simp (disch := omega) only [↓reduceIte, go_sem] <;> repeat with_reducible refine And.intro (by first | omega | decide) ?_
  refine hBy.on (go 200 (fun t => t == 25) mixed ?_)
  generalize hown : bytesN (labF s) = own at *
  simp (disch := omega) only [↓reduceIte, go_sem, most, bys_app] <;> repeat with_reducible refine And.intro (by first | omega | decide) ?_
  refine (c_abatislaw08_few Y 50 (by omega) (by decide)).on (go 200 (fun t => t == 25) mixed ?_)
  have hC : (Y.take 50).length ≤ 50 := by rw [List.length_take]; omega
  generalize Y.take 50 = C at *
  have hR := c_label_Read (A ++ (own ++ C)) A.length (by simp) (by simp; omega)
  rw [hrd] at hR
  have hv := fun ver => hR.view (H := H ++ [some (.cells ver (bys (A ++ (own ++ C))))]) (.cons (view_bys (i := H.length) (ver := ver) (tip := true) (by rw [get_tail0]; rfl)) (.cons (.same (.int _ _)) .nil)) (rdV_plain _)
  rw [show (A ++ (own ++ C)).length = A.length + own.length + C.length by simp; omega] at hv
  simp (disch := omega) only [↓reduceIte, go_sem, most, bys_app, hb0, List.append_assoc, List.length_append] <;> repeat with_reducible refine And.intro (by first | omega | decide) ?_
  refine (hv _).mono fun r H' ⟨e1, e2⟩ => ?_
  subst e1 e2
  refine go 200 (fun _ => false) mixed ?_
  simp (disch := omega) only [↓reduceIte, go_sem, rdV, hjl] <;> repeat with_reducible refine And.intro (by first | omega | decide) ?_
  refine c_abatislaw08_lives.on hG.app (go 200 (fun _ => false) mixed ?_)
  simp (disch := omega) only [↓reduceIte, go_sem] <;> repeat with_reducible refine And.intro (by first | omega | decide) ?_
  exact fin_drop (.inr rfl) hb rfl (by simp)
end Go.Proofs.GoC
