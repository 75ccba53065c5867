/-
  What the functions compute: which messages may be. No claim by itself.
-/
import Derived.Test.YtmgemdgbffmnjaaGoWireB
import Derived.Test.YtmgemdgbffmnjaaGoWireC
namespace Go.Proofs.GoC
open Go Go.Proofs.SL
set_option linter.unusedSimpArgs false
set_option linter.unusedVariables false
set_option maxRecDepth 10000
set_option maxHeartbeats 4000000

/-- Where the first one is for which a function is true. -/
def idxX {α : Type} (p : α → Bool) : List α → Int → Int
  | [], _ => -1
  | a :: l, i => if p a then i else idxX p l (i + 1)
theorem idxX_any {α : Type} (p : α → Bool) : ∀ (l : List α) (i : Int), 0 ≤ i → (0 ≤ idxX p l i ↔ l.any p = true)
  | [], i, h => by simp [idxX]
  | a :: l, i, h => by
    unfold idxX
    by_cases hp : p a = true
    · rw [if_pos hp]; simp [hp, h]
    · rw [if_neg hp, idxX_any p l (i + 1) (by omega)]; simp [hp]
theorem getDm {α : Type} {l : List α} {k : Nat} {d : α} (h : k < l.length) : l[k] = l.getD k d ∧ l.getD k d ∈ l := by
  have e : l[k] = l.getD k d := by simp [List.getD_eq_getElem?_getD, h]
  exact ⟨e, e ▸ List.getElem_mem h⟩

theorem c_slices_IndexFunc_api_Record_api_Record (f : Nat) (p : Rc → Bool) (l : List Rc) (hp : ∀ a ∈ l, PCall Try.prog f [rcV a] (.bool (p a))) (hab : ∀ a ∈ l, a.ab.length = 16) (hl : l.length < 9223372036854775807) :
    PCall Try.prog 68 [.sl 23 (rcsV l), .func (.func f) [] []] (.int .i64 (idxX p l 0)) := by
  intro H
  refine scall_of (ord := fun _ => []) (rs := [4]) Try.func68 rfl (by kernel_rfl) (by kernel_rfl) (by kernel_rfl) Try.ntmps68 fun hb hargs => go 200 (fun _ => false) mixed ?_
  simp (disch := omega) only [↓reduceIte, go_sem] <;> repeat with_reducible refine And.intro (by first | omega | decide) ?_
  refine runs_loopA (fun k : Nat => k ≤ l.length ∧ idxX p l 0 = idxX p (l.drop k) k) (fun k => l.length - k) [true, true, false, false, false, false, false, true, true]
    (fun k => slots 19 [.sl 23 (rcsV l), .func (.func f) [] [], .any, .any, .any, .any, .any, .int .i64 l.length, .int .i64 k]) (fun k => H) (by rfl) 0 ⟨Nat.zero_le _, rfl⟩ rfl rfl ?_
  rintro k ⟨hk, hall⟩
  refine go 200 (fun _ => false) mixed ?_
  by_cases hlt : k < l.length
  · obtain ⟨eg, hm⟩ := getDm (d := rc0) hlt
    rw [List.drop_eq_getElem_cons hlt, eg, idxX] at hall
    have hpk := hp _ hm
    have hget := rcsV_getD hlt
    have hlen := rcC_len (hab _ hm)
    generalize l.getD k rc0 = r at *
    simp (disch := omega) only [↓reduceIte, go_sem, hlt, hget, rcV, hlen] <;> repeat with_reducible refine And.intro (by first | omega | decide) ?_
    refine hpk.on (go 200 (fun _ => false) mixed ?_)
    cases hc : p r with
    | true =>
      rw [if_pos hc] at hall
      simp (disch := omega) only [↓reduceIte, go_sem, hlt, hget] <;> repeat with_reducible refine And.intro (by first | omega | decide) ?_
      exact fin (by rw [hall]; rfl) rfl
    | false =>
      rw [if_neg (by rw [hc]; decide)] at hall
      simp (disch := omega) only [↓reduceIte, go_sem, hlt, hget] <;> repeat with_reducible refine And.intro (by first | omega | decide) ?_
      exact rnd_next (k + 1) ⟨by omega, by rw [hall]; rfl⟩ (by show l.length - (k + 1) < l.length - k; omega) rfl rfl
  · rw [List.drop_eq_nil_of_le (by omega), idxX] at hall
    simp (disch := omega) only [↓reduceIte, go_sem, hlt] <;> repeat with_reducible refine And.intro (by first | omega | decide) ?_
    refine go 200 (fun _ => false) mixed ?_
    simp (disch := omega) only [↓reduceIte, go_sem] <;> repeat with_reducible refine And.intro (by first | omega | decide) ?_
    exact fin (by rw [hall]; rfl) rfl

theorem c_slices_ContainsFunc_api_Record_api_Record (f : Nat) (p : Rc → Bool) (l : List Rc) (hp : ∀ a ∈ l, PCall Try.prog f [rcV a] (.bool (p a))) (hab : ∀ a ∈ l, a.ab.length = 16) (hl : l.length < 9223372036854775807) :
    PCall Try.prog 37 [.sl 23 (rcsV l), .func (.func f) [] []] (.bool (l.any p)) := by
  intro H
  have hi := idxX_any p l 0 (by omega)
  have key := c_slices_IndexFunc_api_Record_api_Record f p l hp hab hl
  refine scall_of (ord := fun _ => []) (rs := [4]) Try.func37 rfl (by kernel_rfl) (by kernel_rfl) (by kernel_rfl) Try.ntmps37 fun hb hargs => go 200 (fun _ => false) mixed ?_
  generalize idxX p l 0 = i at *
  simp (disch := omega) only [↓reduceIte, go_sem] <;> repeat with_reducible refine And.intro (by first | omega | decide) ?_
  refine key.on (go 200 (fun _ => false) mixed ?_)
  cases ha : l.any p with
  | true =>
    have := hi.mpr ha
    simp (disch := omega) only [↓reduceIte, go_sem, this] <;> repeat with_reducible refine And.intro (by first | omega | decide) ?_
    exact fin rfl rfl
  | false =>
    have : ¬ 0 ≤ i := fun h => by rw [hi.mp h] at ha; exact nomatch ha
    simp (disch := omega) only [↓reduceIte, go_sem, this] <;> repeat with_reducible refine And.intro (by first | omega | decide) ?_
    exact fin rfl rfl

theorem c_slices_IndexFunc_api_Question_api_Question (f : Nat) (p : Qu → Bool) (l : List Qu) (hp : ∀ a ∈ l, PCall Try.prog f [quV a] (.bool (p a))) (hl : l.length < 9223372036854775807) :
    PCall Try.prog 71 [.sl 3 (qusV l), .func (.func f) [] []] (.int .i64 (idxX p l 0)) := by
  intro H
  refine scall_of (ord := fun _ => []) (rs := [4]) Try.func71 rfl (by kernel_rfl) (by kernel_rfl) (by kernel_rfl) Try.ntmps71 fun hb hargs => go 200 (fun _ => false) mixed ?_
  simp (disch := omega) only [↓reduceIte, go_sem] <;> repeat with_reducible refine And.intro (by first | omega | decide) ?_
  refine runs_loopA (fun k : Nat => k ≤ l.length ∧ idxX p l 0 = idxX p (l.drop k) k) (fun k => l.length - k) [true, true, false, false, false, false, false, true, true]
    (fun k => slots 19 [.sl 3 (qusV l), .func (.func f) [] [], .any, .any, .any, .any, .any, .int .i64 l.length, .int .i64 k]) (fun k => H) (by rfl) 0 ⟨Nat.zero_le _, rfl⟩ rfl rfl ?_
  rintro k ⟨hk, hall⟩
  refine go 200 (fun _ => false) mixed ?_
  by_cases hlt : k < l.length
  · obtain ⟨eg, hm⟩ := getDm (d := qu0) hlt
    rw [List.drop_eq_getElem_cons hlt, eg, idxX] at hall
    have hpk := hp _ hm
    have hget := qusV_getD hlt
    generalize l.getD k qu0 = r at *
    simp (disch := omega) only [↓reduceIte, go_sem, hlt, hget, quV, quC] <;> repeat with_reducible refine And.intro (by first | omega | decide) ?_
    refine hpk.on (go 200 (fun _ => false) mixed ?_)
    cases hc : p r with
    | true =>
      rw [if_pos hc] at hall
      simp (disch := omega) only [↓reduceIte, go_sem, hlt, hget] <;> repeat with_reducible refine And.intro (by first | omega | decide) ?_
      exact fin (by rw [hall]; rfl) rfl
    | false =>
      rw [if_neg (by rw [hc]; decide)] at hall
      simp (disch := omega) only [↓reduceIte, go_sem, hlt, hget] <;> repeat with_reducible refine And.intro (by first | omega | decide) ?_
      exact rnd_next (k + 1) ⟨by omega, by rw [hall]; rfl⟩ (by show l.length - (k + 1) < l.length - k; omega) rfl rfl
  · rw [List.drop_eq_nil_of_le (by omega), idxX] at hall
    simp (disch := omega) only [↓reduceIte, go_sem, hlt] <;> repeat with_reducible refine And.intro (by first | omega | decide) ?_
    refine go 200 (fun _ => false) mixed ?_
    simp (disch := omega) only [↓reduceIte, go_sem] <;> repeat with_reducible refine And.intro (by first | omega | decide) ?_
    exact fin (by rw [hall]; rfl) rfl

theorem c_slices_ContainsFunc_api_Question_api_Question (f : Nat) (p : Qu → Bool) (l : List Qu) (hp : ∀ a ∈ l, PCall Try.prog f [quV a] (.bool (p a))) (hl : l.length < 9223372036854775807) :
    PCall Try.prog 39 [.sl 3 (qusV l), .func (.func f) [] []] (.bool (l.any p)) := by
  intro H
  have hi := idxX_any p l 0 (by omega)
  have key := c_slices_IndexFunc_api_Question_api_Question f p l hp hl
  refine scall_of (ord := fun _ => []) (rs := [4]) Try.func39 rfl (by kernel_rfl) (by kernel_rfl) (by kernel_rfl) Try.ntmps39 fun hb hargs => go 200 (fun _ => false) mixed ?_
  generalize idxX p l 0 = i at *
  simp (disch := omega) only [↓reduceIte, go_sem] <;> repeat with_reducible refine And.intro (by first | omega | decide) ?_
  refine key.on (go 200 (fun _ => false) mixed ?_)
  cases ha : l.any p with
  | true =>
    have := hi.mpr ha
    simp (disch := omega) only [↓reduceIte, go_sem, this] <;> repeat with_reducible refine And.intro (by first | omega | decide) ?_
    exact fin rfl rfl
  | false =>
    have : ¬ 0 ≤ i := fun h => by rw [hi.mp h] at ha; exact nomatch ha
    simp (disch := omega) only [↓reduceIte, go_sem, this] <;> repeat with_reducible refine And.intro (by first | omega | decide) ?_
    exact fin rfl rfl

theorem c_wire_May_1 (r : Rc) (hr : RcOk r) : PCall Try.prog 35 [rcV r] (.bool (!mayR r)) := by
  intro H
  have key := c_wire_record r hr
  have ho : ∀ x y : ByteArray, (u8s r.ab ++ [PV.str x, PV.str y]).all PV.one = true := fun x y => by simp [u8s_one, PV.one]
  have hlen := rcC_len hr.2.2.2.2.1
  generalize mayR r = o at *
  have hone : (rcC r).all PV.one = true := by simp [rcC, u8s_one, PV.one]
  have ht : List.take 23 (rcC r) = rcC r := List.take_of_length_le (by omega)
  unfold rcV at *
  generalize rcC r = cs at *
  refine scall_of (ord := fun _ => []) (rs := [2]) Try.func35 rfl (by kernel_rfl) (by kernel_rfl) (by kernel_rfl) Try.ntmps35 fun hb hargs => go 200 (fun _ => false) mixed ?_
  simp (disch := omega) only [↓reduceIte, go_sem, hone, hlen, ht] <;> repeat with_reducible refine And.intro (by first | omega | decide) ?_
  refine key.on (go 200 (fun _ => false) mixed ?_)
  simp (disch := omega) only [↓reduceIte, go_sem] <;> repeat with_reducible refine And.intro (by first | omega | decide) ?_
  exact fin_drop (.inr rfl) hb rfl (by simp)

/-- Whether a question may be. -/
def mayQ (q : Qu) : Bool := mayN q.name && inAll 65535 [q.ty, q.cl]
theorem c_wire_May_2 (q : Qu) (hq : QuOk q) : PCall Try.prog 40 [quV q] (.bool (!mayQ q)) := by
  intro H
  obtain ⟨hty, hcl, hn⟩ := hq
  have hM := c_label_May q.name hn
  have hw := c_wire_within 65535 [q.ty, q.cl] (by simp)
  simp only [intsV, List.map_cons, List.map_nil] at hw
  unfold mayQ
  generalize mayN q.name = b1 at *
  generalize inAll 65535 [q.ty, q.cl] = b2 at *
  refine scall_of (ord := fun _ => []) (rs := [2]) Try.func40 rfl (by kernel_rfl) (by kernel_rfl) (by kernel_rfl) Try.ntmps40 fun hb hargs => go 200 (fun _ => false) mixed ?_
  simp (disch := omega) only [↓reduceIte, go_sem, quV, quC] <;> repeat with_reducible refine And.intro (by first | omega | decide) ?_
  refine hM.on (go 200 (fun _ => false) mixed ?_)
  cases b1 with
  | false =>
    simp (disch := omega) only [↓reduceIte, go_sem, quV, quC] <;> repeat with_reducible refine And.intro (by first | omega | decide) ?_
    exact fin_drop (.inr rfl) hb rfl (by simp)
  | true =>
    simp (disch := omega) only [↓reduceIte, go_sem, quV, quC] <;> repeat with_reducible refine And.intro (by first | omega | decide) ?_
    refine hw.on (go 200 (fun _ => false) mixed ?_)
    simp (disch := omega) only [↓reduceIte, go_sem, quV, quC] <;> repeat with_reducible refine And.intro (by first | omega | decide) ?_
    exact fin_drop (.inr rfl) hb (by simp [retV]) (by simp)

theorem c_wire_lists {H : Heap} {i : Nat} : SCall Try.prog 31 [.ptr i 0 0] H fun r H' => r = .sl 1 [.ptr i 0 3, .ptr i 0 4, .ptr i 0 5] ∧ H' = H := by
  refine scall_of (ord := fun _ => []) (rs := [2]) Try.func31 rfl (by kernel_rfl) (by kernel_rfl) (by kernel_rfl) Try.ntmps31 fun hb hargs => go 200 (fun _ => false) mixed ?_
  simp (disch := omega) only [↓reduceIte, go_sem] <;> repeat with_reducible refine And.intro (by first | omega | decide) ?_
  exact fin rfl rfl

def MsOk (m : Ms) : Prop := I64 m.id ∧ I64 m.fl ∧ (∀ q ∈ m.qs, QuOk q) ∧ (∀ r ∈ m.an, RcOk r) ∧ (∀ r ∈ m.au, RcOk r) ∧ (∀ r ∈ m.mo, RcOk r) ∧ m.qs.length < 1100000 ∧ m.an.length < 1100000 ∧ m.au.length < 1100000 ∧ m.mo.length < 1100000
/-- Whether a message may be. -/
def mayM (m : Ms) : Bool := m.an.all mayR && (m.au.all mayR && (m.mo.all mayR && (inAll 65535 [m.id, m.fl] && m.qs.all mayQ)))
theorem any_not {α : Type} (p : α → Bool) (l : List α) : l.any (fun a => !p a) = !l.all p := by
  induction l with
  | nil => rfl
  | cons a l ih => simp [ih, Bool.not_and]

theorem c_wire_May (m : Ms) (hm : MsOk m) : PCall Try.prog 14 [msV m] (.bool (mayM m)) := by
  intro H
  obtain ⟨_, _, hq, h1, h2, h3, l0, l1, l2, l3⟩ := hm
  have c1 := c_slices_ContainsFunc_api_Record_api_Record 35 (fun r => !mayR r) m.an (fun r hr => c_wire_May_1 r (h1 r hr)) (fun r hr => (h1 r hr).2.2.2.2.1) (by omega)
  have c2 := c_slices_ContainsFunc_api_Record_api_Record 35 (fun r => !mayR r) m.au (fun r hr => c_wire_May_1 r (h2 r hr)) (fun r hr => (h2 r hr).2.2.2.2.1) (by omega)
  have c3 := c_slices_ContainsFunc_api_Record_api_Record 35 (fun r => !mayR r) m.mo (fun r hr => c_wire_May_1 r (h3 r hr)) (fun r hr => (h3 r hr).2.2.2.2.1) (by omega)
  have c4 := c_slices_ContainsFunc_api_Question_api_Question 40 (fun q => !mayQ q) m.qs (fun q hr => c_wire_May_2 q (hq q hr)) (by omega)
  have c5 := c_wire_within 65535 [m.id, m.fl] (by simp)
  simp only [intsV, List.map_cons, List.map_nil] at c5
  rw [any_not] at c1 c2 c3 c4
  unfold mayM
  generalize m.an.all mayR = b1 at *
  generalize m.au.all mayR = b2 at *
  generalize m.mo.all mayR = b3 at *
  generalize m.qs.all mayQ = b4 at *
  generalize inAll 65535 [m.id, m.fl] = b5 at *
  have hL := c_wire_lists (H := H ++ [some (.cells 0 (msC m))]) (i := H.length)
  refine scall_of (ord := fun _ => []) (rs := [2]) Try.func14 rfl (by kernel_rfl) (by kernel_rfl) (by kernel_rfl) Try.ntmps14 fun hb hargs => go 200 (fun _ => false) mixed ?_
  simp (disch := omega) only [↓reduceIte, go_sem, msV, msC] <;> repeat with_reducible refine And.intro (by first | omega | decide) ?_
  refine hL.mono fun r H1 ⟨e1, e2⟩ => ?_
  rw [e1, e2]
  refine go 200 (fun _ => false) mixed ?_
  simp (disch := omega) only [↓reduceIte, go_sem, msV, msC] <;> repeat with_reducible refine And.intro (by first | omega | decide) ?_
  refine runs_rounds 4 (by rfl) (ru_go [false, true, true, true, false, false, true, true, true] (go 200 (fun _ => false) mixed ?_))
  simp (disch := omega) only [↓reduceIte, go_sem, msV, msC] <;> repeat with_reducible refine And.intro (by first | omega | decide) ?_
  refine c1.on (go 200 (fun _ => false) mixed ?_)
  cases b1 with
  | false =>
    simp (disch := omega) only [↓reduceIte, go_sem, msV, msC] <;> repeat with_reducible refine And.intro (by first | omega | decide) ?_
    exact fin_drop (.inr rfl) hb rfl (by simp)
  | true =>
  simp (disch := omega) only [↓reduceIte, go_sem, msV, msC] <;> repeat with_reducible refine And.intro (by first | omega | decide) ?_
  refine ru_go [false, true, true, true, false, false, true, true, true] (go 200 (fun _ => false) mixed ?_)
  simp (disch := omega) only [↓reduceIte, go_sem, msV, msC] <;> repeat with_reducible refine And.intro (by first | omega | decide) ?_
  refine c2.on (go 200 (fun _ => false) mixed ?_)
  cases b2 with
  | false =>
    simp (disch := omega) only [↓reduceIte, go_sem, msV, msC] <;> repeat with_reducible refine And.intro (by first | omega | decide) ?_
    exact fin_drop (.inr rfl) hb rfl (by simp)
  | true =>
  simp (disch := omega) only [↓reduceIte, go_sem, msV, msC] <;> repeat with_reducible refine And.intro (by first | omega | decide) ?_
  refine ru_go [false, true, true, true, false, false, true, true, true] (go 200 (fun _ => false) mixed ?_)
  simp (disch := omega) only [↓reduceIte, go_sem, msV, msC] <;> repeat with_reducible refine And.intro (by first | omega | decide) ?_
  refine c3.on (go 200 (fun _ => false) mixed ?_)
  cases b3 with
  | false =>
    simp (disch := omega) only [↓reduceIte, go_sem, msV, msC] <;> repeat with_reducible refine And.intro (by first | omega | decide) ?_
    exact fin_drop (.inr rfl) hb rfl (by simp)
  | true =>
  simp (disch := omega) only [↓reduceIte, go_sem, msV, msC] <;> repeat with_reducible refine And.intro (by first | omega | decide) ?_
  refine ru_go [false, true, true, true, false, false, true, true, true] (go 200 (fun _ => false) mixed ?_)
  simp (disch := omega) only [↓reduceIte, go_sem, msV, msC] <;> repeat with_reducible refine And.intro (by first | omega | decide) ?_
  refine go 200 (fun _ => false) mixed ?_
  simp (disch := omega) only [↓reduceIte, go_sem, msV, msC] <;> repeat with_reducible refine And.intro (by first | omega | decide) ?_
  refine c5.on (go 200 (fun _ => false) mixed ?_)
  cases b5 with
  | false =>
    simp (disch := omega) only [↓reduceIte, go_sem, msV, msC] <;> repeat with_reducible refine And.intro (by first | omega | decide) ?_
    exact fin_drop (.inr rfl) hb rfl (by simp)
  | true =>
  simp (disch := omega) only [↓reduceIte, go_sem, msV, msC] <;> repeat with_reducible refine And.intro (by first | omega | decide) ?_
  refine c4.on (go 200 (fun _ => false) mixed ?_)
  simp (disch := omega) only [↓reduceIte, go_sem, msV, msC] <;> repeat with_reducible refine And.intro (by first | omega | decide) ?_
  exact fin_drop (.inr rfl) hb (by simp [retV]) (by simp)
end Go.Proofs.GoC
