/-
  What the functions compute: which messages may be. No claim by itself.
-/
import Derived.Test.YtmgemdgbffmnjaaGoWireA
import Derived.Test.YtmgemdgbffmnjaaGoAddrS
namespace Go.Proofs.GoC
open Go Go.Proofs.SL
set_option linter.unusedSimpArgs false
set_option linter.unusedVariables false
set_option maxRecDepth 10000
set_option maxHeartbeats 4000000

def addr0 (f : Int) (l : List Nat) : Bool := decide (f = 0) && decide (l = z16)
/-- Whether a record may be. -/
def mayR (r : Rc) : Bool := mayN r.name && (inAll 65535 [r.ty, r.cl, r.dat.length] && (inAll 2147483647 [r.ttl] &&
  (if r.ty = 1 then mayA r.fam r.ab && (decide (r.fam = 4) && (decide (r.tgt = []) && decide (r.dat = [])))
   else if r.ty = 28 then mayA r.fam r.ab && (decide (r.fam = 6) && (decide (r.tgt = []) && decide (r.dat = [])))
   else if r.ty = 5 then mayN r.tgt && (addr0 r.fam r.ab && decide (r.dat = []))
   else addr0 r.fam r.ab && decide (r.tgt = []))))

theorem u8s_take {l : List Nat} {L : List PV} (h : l.length = 16) : List.take 16 (u8s l ++ L) = u8s l := by
  rw [List.take_append_of_le_length (by rw [u8s_len]; omega)]; exact u8s_take16 h
theorem u8s_at {l : List Nat} {L : List PV} {k : Nat} (h : l.length = 16) : (u8s l ++ L).getD (16 + k) .any = L.getD k .any := by
  rw [List.getD_eq_getElem?_getD, List.getElem?_append_right (by rw [u8s_len]; omega), u8s_len, h, List.getD_eq_getElem?_getD]
  congr 2; omega
theorem keysB_cons {d : TD} {e : PV × PV} {es : List (PV × PV)} : keysB d (e :: es) = (isKeyP d e.1 && keysB d es) := rfl
theorem keysB_nil0 {d : TD} : keysB d [] = true := rfl
theorem keyB_int {k : IntKind} {a b : Int} : keyB (.int k a) (.int k b) = decide (a = b) := by
  show decide (k = k ∧ a = b) = decide (a = b)
  rw [decide_eq_decide]; exact ⟨fun h => h.2, fun h => ⟨rfl, h⟩⟩
theorem fams_look (t : Int) (z : PV) : lookM (.int .i64 t) z [(.int .i64 1, .int .i64 4), (.int .i64 28, .int .i64 6)] = if t = 1 then (.int .i64 4, true) else if t = 28 then (.int .i64 6, true) else (z, false) := by
  simp only [lookM_cons, keyB_int, decide_eq_true_eq]
  rfl
theorem fams_put1 : putM (.int .i64 1) (.int .i64 4) [] = [(.int .i64 1, .int .i64 4)] := rfl
theorem fams_put2 : putM (.int .i64 28) (.int .i64 6) [(.int .i64 1, .int .i64 4)] = [(.int .i64 1, .int .i64 4), (.int .i64 28, .int .i64 6)] := by
  rw [putM_cons, keyB_int, if_neg (by decide)]
  rfl

theorem c_wire_record (r : Rc) (hr : RcOk r) : PCall Try.prog 36 [rcV r] (.bool (mayR r)) := by
  intro H
  obtain ⟨hty, hcl, httl, hfam, hab, hle, hname, htgt, hdat⟩ := hr
  have hMay := c_label_May r.name hname
  have hw1 := c_wire_within 65535 [r.ty, r.cl, (r.dat.length : Int)] (by simp)
  have hw2 := c_wire_within 2147483647 [r.ttl] (by simp)
  have hA := c_addr_May r.fam r.ab hab hle
  have hT := c_label_May r.tgt htgt
  simp only [intsV, List.map_cons, List.map_nil] at hw1 hw2
  unfold mayR
  have t16 := @u8s_take r.ab
  have a16 := @u8s_at r.ab
  have tu := u8s_tag16 hab
  generalize mayN r.name = b1 at *
  generalize inAll 65535 [r.ty, r.cl, (r.dat.length : Int)] = b2 at *
  generalize inAll 2147483647 [r.ttl] = b3 at *
  have ho : ∀ x y : ByteArray, (u8s r.ab ++ [PV.str x, PV.str y]).all PV.one = true := fun x y => by simp [u8s_one, PV.one]
  have g0 : ∀ x y : PV, (u8s r.ab ++ [x, y]).getD 16 .any = x := fun x y => a16 (k := 0) hab
  have g1 : ∀ x y : PV, (u8s r.ab ++ [x, y]).getD 17 .any = y := fun x y => a16 (k := 1) hab
  have t0 : ∀ L : List PV, List.take 16 (u8s r.ab ++ L) = u8s r.ab := fun L => t16 hab
  have ln : ∀ x y : PV, (u8s r.ab ++ [x, y]).length = 18 := fun x y => by simp [u8s_len, hab]
  refine scall_of (ord := fun _ => []) (rs := [2]) Try.func36 rfl (by kernel_rfl) (by kernel_rfl) (by kernel_rfl) Try.ntmps36 fun hb hargs => go 200 (fun _ => false) mixed ?_
  simp (disch := omega) only [↓reduceIte, go_sem, rcV, rcC, ho, g0, g1, ln] <;> repeat with_reducible refine And.intro (by first | omega | decide) ?_
  refine hMay.on (go 200 (fun _ => false) mixed ?_)
  cases b1 with
  | false =>
    simp (disch := omega) only [↓reduceIte, go_sem, rcV, rcC, ho, g0, g1, ln] <;> repeat with_reducible refine And.intro (by first | omega | decide) ?_
    exact fin_drop (.inr rfl) hb rfl (by simp)
  | true =>
  simp (disch := omega) only [↓reduceIte, go_sem, rcV, rcC, ho, g0, g1, ln, t0] <;> repeat with_reducible refine And.intro (by first | omega | decide) ?_
  refine hw1.on (go 200 (fun _ => false) mixed ?_)
  cases b2 with
  | false =>
    simp (disch := omega) only [↓reduceIte, go_sem, rcV, rcC, ho, g0, g1, ln] <;> repeat with_reducible refine And.intro (by first | omega | decide) ?_
    exact fin_drop (.inr rfl) hb rfl (by simp)
  | true =>
  simp (disch := omega) only [↓reduceIte, go_sem, rcV, rcC, ho, g0, g1, ln, t0] <;> repeat with_reducible refine And.intro (by first | omega | decide) ?_
  refine hw2.on (go 200 (fun _ => false) mixed ?_)
  cases b3 with
  | false =>
    simp (disch := omega) only [↓reduceIte, go_sem, rcV, rcC, ho, g0, g1, ln] <;> repeat with_reducible refine And.intro (by first | omega | decide) ?_
    exact fin_drop (.inr rfl) hb rfl (by simp)
  | true =>
  rw [Bool.true_and]
  by_cases h1 : r.ty = 1
  · have hlk : ∀ z, lookM (.int .i64 r.ty) z [(.int .i64 1, .int .i64 4), (.int .i64 28, .int .i64 6)] = (.int .i64 4, true) := fun z => by rw [fams_look, if_pos h1]
    rw [if_pos h1]
    simp (disch := omega) only [↓reduceIte, go_sem, rcV, rcC, ho, g0, g1, ln, t0, keysB_cons, keysB_nil0, fams_put1, fams_put2, hlk] <;> repeat with_reducible refine And.intro (by first | omega | decide) ?_
    refine hA.on (go 200 (fun _ => false) mixed ?_)
    cases mayA r.fam r.ab with
    | false =>
      simp (disch := omega) only [↓reduceIte, go_sem, rcV, rcC, ho, g0, g1, ln, t0, keysB_cons, keysB_nil0, fams_put1, fams_put2, hlk] <;> repeat with_reducible refine And.intro (by first | omega | decide) ?_
      exact fin_drop (.inr rfl) hb rfl (by simp)
    | true =>
    by_cases hf : r.fam = 4
    · by_cases ht : r.tgt = []
      · by_cases hd : r.dat = []
        · simp (disch := omega) only [↓reduceIte, go_sem, rcV, rcC, ho, g0, g1, ln, t0, keysB_cons, keysB_nil0, fams_put1, fams_put2, hlk, hf, ht, hd] <;> repeat with_reducible refine And.intro (by first | omega | decide) ?_
          exact fin_drop (.inr rfl) hb (by simp [go_sem, hf, ht, hd]) (by simp)
        · simp (disch := omega) only [↓reduceIte, go_sem, rcV, rcC, ho, g0, g1, ln, t0, keysB_cons, keysB_nil0, fams_put1, fams_put2, hlk, hf, ht, hd] <;> repeat with_reducible refine And.intro (by first | omega | decide) ?_
          exact fin_drop (.inr rfl) hb (by simp [go_sem, hf, ht, hd]) (by simp)
      · simp (disch := omega) only [↓reduceIte, go_sem, rcV, rcC, ho, g0, g1, ln, t0, keysB_cons, keysB_nil0, fams_put1, fams_put2, hlk, hf, ht] <;> repeat with_reducible refine And.intro (by first | omega | decide) ?_
        exact fin_drop (.inr rfl) hb (by simp [go_sem, hf, ht]) (by simp)
    · simp (disch := omega) only [↓reduceIte, go_sem, rcV, rcC, ho, g0, g1, ln, t0, keysB_cons, keysB_nil0, fams_put1, fams_put2, hlk, hf] <;> repeat with_reducible refine And.intro (by first | omega | decide) ?_
      exact fin_drop (.inr rfl) hb (by simp [go_sem, hf]) (by simp)
  by_cases h28 : r.ty = 28
  · have hlk : ∀ z, lookM (.int .i64 r.ty) z [(.int .i64 1, .int .i64 4), (.int .i64 28, .int .i64 6)] = (.int .i64 6, true) := fun z => by rw [fams_look, if_neg h1, if_pos h28]
    rw [if_neg h1, if_pos h28]
    simp (disch := omega) only [↓reduceIte, go_sem, rcV, rcC, ho, g0, g1, ln, t0, keysB_cons, keysB_nil0, fams_put1, fams_put2, hlk] <;> repeat with_reducible refine And.intro (by first | omega | decide) ?_
    refine hA.on (go 200 (fun _ => false) mixed ?_)
    cases mayA r.fam r.ab with
    | false =>
      simp (disch := omega) only [↓reduceIte, go_sem, rcV, rcC, ho, g0, g1, ln, t0, keysB_cons, keysB_nil0, fams_put1, fams_put2, hlk] <;> repeat with_reducible refine And.intro (by first | omega | decide) ?_
      exact fin_drop (.inr rfl) hb rfl (by simp)
    | true =>
    by_cases hf : r.fam = 6
    · by_cases ht : r.tgt = []
      · by_cases hd : r.dat = []
        · simp (disch := omega) only [↓reduceIte, go_sem, rcV, rcC, ho, g0, g1, ln, t0, keysB_cons, keysB_nil0, fams_put1, fams_put2, hlk, hf, ht, hd] <;> repeat with_reducible refine And.intro (by first | omega | decide) ?_
          exact fin_drop (.inr rfl) hb (by simp [go_sem, hf, ht, hd]) (by simp)
        · simp (disch := omega) only [↓reduceIte, go_sem, rcV, rcC, ho, g0, g1, ln, t0, keysB_cons, keysB_nil0, fams_put1, fams_put2, hlk, hf, ht, hd] <;> repeat with_reducible refine And.intro (by first | omega | decide) ?_
          exact fin_drop (.inr rfl) hb (by simp [go_sem, hf, ht, hd]) (by simp)
      · simp (disch := omega) only [↓reduceIte, go_sem, rcV, rcC, ho, g0, g1, ln, t0, keysB_cons, keysB_nil0, fams_put1, fams_put2, hlk, hf, ht] <;> repeat with_reducible refine And.intro (by first | omega | decide) ?_
        exact fin_drop (.inr rfl) hb (by simp [go_sem, hf, ht]) (by simp)
    · simp (disch := omega) only [↓reduceIte, go_sem, rcV, rcC, ho, g0, g1, ln, t0, keysB_cons, keysB_nil0, fams_put1, fams_put2, hlk, hf] <;> repeat with_reducible refine And.intro (by first | omega | decide) ?_
      exact fin_drop (.inr rfl) hb (by simp [go_sem, hf]) (by simp)
  have hlk : ∀ z, lookM (.int .i64 r.ty) z [(.int .i64 1, .int .i64 4), (.int .i64 28, .int .i64 6)] = (z, false) := fun z => by rw [fams_look, if_neg h1, if_neg h28]
  rw [if_neg h1, if_neg h28]
  by_cases h5 : r.ty = 5
  · rw [if_pos h5]
    have h5 : (r.ty = 5) = True := eq_true h5
    simp (disch := omega) only [↓reduceIte, go_sem, rcV, rcC, ho, g0, g1, ln, t0, keysB_cons, keysB_nil0, fams_put1, fams_put2, hlk, h5] <;> repeat with_reducible refine And.intro (by first | omega | decide) ?_
    refine hT.on (go 200 (fun _ => false) mixed ?_)
    cases mayN r.tgt with
    | false =>
      simp (disch := omega) only [↓reduceIte, go_sem, rcV, rcC, ho, g0, g1, ln, t0, keysB_cons, keysB_nil0, fams_put1, fams_put2, hlk] <;> repeat with_reducible refine And.intro (by first | omega | decide) ?_
      exact fin_drop (.inr rfl) hb rfl (by simp)
    | true =>
    by_cases ha : r.fam = 0 ∧ r.ab = z16
    · have e0 : addr0 r.fam r.ab = true := by simp [addr0, ha.1, ha.2]
      have ha : (r.fam = 0 ∧ r.ab = z16) = True := eq_true ha
      by_cases hd : r.dat = []
      · simp (disch := omega) only [↓reduceIte, go_sem, rcV, rcC, ho, g0, g1, ln, t0, keysB_cons, keysB_nil0, fams_put1, fams_put2, hlk, tu, ha, hd] <;> repeat with_reducible refine And.intro (by first | omega | decide) ?_
        exact fin_drop (.inr rfl) hb (by simp [go_sem, e0, hd]) (by simp)
      · simp (disch := omega) only [↓reduceIte, go_sem, rcV, rcC, ho, g0, g1, ln, t0, keysB_cons, keysB_nil0, fams_put1, fams_put2, hlk, tu, ha, hd] <;> repeat with_reducible refine And.intro (by first | omega | decide) ?_
        exact fin_drop (.inr rfl) hb (by simp [go_sem, e0, hd]) (by simp)
    · have e0 : addr0 r.fam r.ab = false := by simpa [addr0] using ha
      have ha : (r.fam = 0 ∧ r.ab = z16) = False := eq_false ha
      simp (disch := omega) only [↓reduceIte, go_sem, rcV, rcC, ho, g0, g1, ln, t0, keysB_cons, keysB_nil0, fams_put1, fams_put2, hlk, tu, ha] <;> repeat with_reducible refine And.intro (by first | omega | decide) ?_
      exact fin_drop (.inr rfl) hb (by simp [go_sem, e0]) (by simp)
  · rw [if_neg h5]
    by_cases ha : r.fam = 0 ∧ r.ab = z16
    · have e0 : addr0 r.fam r.ab = true := by simp [addr0, ha.1, ha.2]
      have ha : (r.fam = 0 ∧ r.ab = z16) = True := eq_true ha
      by_cases hd : r.tgt = []
      · simp (disch := omega) only [↓reduceIte, go_sem, rcV, rcC, ho, g0, g1, ln, t0, keysB_cons, keysB_nil0, fams_put1, fams_put2, hlk, h5, tu, ha, hd] <;> repeat with_reducible refine And.intro (by first | omega | decide) ?_
        exact fin_drop (.inr rfl) hb (by simp [go_sem, e0, hd]) (by simp)
      · simp (disch := omega) only [↓reduceIte, go_sem, rcV, rcC, ho, g0, g1, ln, t0, keysB_cons, keysB_nil0, fams_put1, fams_put2, hlk, h5, tu, ha, hd] <;> repeat with_reducible refine And.intro (by first | omega | decide) ?_
        exact fin_drop (.inr rfl) hb (by simp [go_sem, e0, hd]) (by simp)
    · have e0 : addr0 r.fam r.ab = false := by simpa [addr0] using ha
      have ha : (r.fam = 0 ∧ r.ab = z16) = False := eq_false ha
      simp (disch := omega) only [↓reduceIte, go_sem, rcV, rcC, ho, g0, g1, ln, t0, keysB_cons, keysB_nil0, fams_put1, fams_put2, hlk, h5, tu, ha] <;> repeat with_reducible refine And.intro (by first | omega | decide) ?_
      exact fin_drop (.inr rfl) hb (by simp [go_sem, e0]) (by simp)
end Go.Proofs.GoC
