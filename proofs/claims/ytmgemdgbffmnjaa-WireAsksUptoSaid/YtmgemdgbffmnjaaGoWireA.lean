/-
  Messages, as values. No claim by itself.
-/
import Derived.Test.YtmgemdgbffmnjaaGoWrite4
import Derived.Test.YtmgemdgbffmnjaaGoAdr
import Derived.Test.YtmgemdgbffmnjaaGoMaps
namespace Go.Proofs.GoC
open Go Go.Proofs.SL
set_option linter.unusedSimpArgs false
set_option linter.unusedVariables false
set_option maxRecDepth 10000
set_option maxHeartbeats 2000000

/-- A record, as it comes. -/
structure Rc where
  name : List UInt8
  ty : Int
  cl : Int
  ttl : Int
  fam : Int
  ab : List Nat
  tgt : List UInt8
  dat : List UInt8
  deriving DecidableEq
/-- A question. -/
structure Qu where
  name : List UInt8
  ty : Int
  cl : Int
  deriving DecidableEq
structure Ms where
  id : Int
  fl : Int
  qs : List Qu
  an : List Rc
  au : List Rc
  mo : List Rc

def I64 (n : Int) : Prop := -9223372036854775808 ≤ n ∧ n ≤ 9223372036854775807
def RcOk (r : Rc) : Prop := I64 r.ty ∧ I64 r.cl ∧ I64 r.ttl ∧ I64 r.fam ∧ r.ab.length = 16 ∧ (∀ b ∈ r.ab, b ≤ 255) ∧ r.name.length < 1100000 ∧ r.tgt.length < 1100000 ∧ r.dat.length < 1100000
def QuOk (q : Qu) : Prop := I64 q.ty ∧ I64 q.cl ∧ q.name.length < 1100000

def rcC (r : Rc) : List PV := .str (bs r.name) :: .int .i64 r.ty :: .int .i64 r.cl :: .int .i64 r.ttl :: .int .i64 r.fam :: (u8s r.ab ++ [.str (bs r.tgt), .str (bs r.dat)])
def rcV (r : Rc) : PV := .agg (rcC r)
def quC (q : Qu) : List PV := [.str (bs q.name), .int .i64 q.ty, .int .i64 q.cl]
def quV (q : Qu) : PV := .agg (quC q)
def rcsV (l : List Rc) : List PV := l.map rcV
def qusV (l : List Qu) : List PV := l.map quV
@[go_sem] theorem rcsV_len {l : List Rc} : (rcsV l).length = l.length := List.length_map ..
@[go_sem] theorem qusV_len {l : List Qu} : (qusV l).length = l.length := List.length_map ..
def msC (m : Ms) : List PV := [.int .i64 m.id, .int .i64 m.fl, .sl 3 (qusV m.qs), .sl 23 (rcsV m.an), .sl 23 (rcsV m.au), .sl 23 (rcsV m.mo)]
def msV (m : Ms) : PV := .agg (msC m)
def rc0 : Rc := ⟨[], 0, 0, 0, 0, z16, [], []⟩
def qu0 : Qu := ⟨[], 0, 0⟩
theorem rcsV_getD {l : List Rc} {k : Nat} (h : k < l.length) : (rcsV l).getD k .any = rcV (l.getD k rc0) := by
  simp [rcsV, List.getD_eq_getElem?_getD, h]
theorem qusV_getD {l : List Qu} {k : Nat} (h : k < l.length) : (qusV l).getD k .any = quV (l.getD k qu0) := by
  simp [qusV, List.getD_eq_getElem?_getD, h]
theorem rcC_len {r : Rc} (h : r.ab.length = 16) : (rcC r).length = 23 := by simp [rcC, u8s_len, h]

/-! A record's cells. -/
def intsV (l : List Int) : List PV := l.map fun n => .int .i64 n
@[go_sem] theorem intsV_len {l : List Int} : (intsV l).length = l.length := List.length_map ..
theorem intsV_getD {l : List Int} {k : Nat} (h : k < l.length) : (intsV l).getD k .any = .int .i64 (l.getD k 0) := by
  simp [intsV, List.getD_eq_getElem?_getD, h]

/-! Numbers within bounds. -/
def outN (most n : Int) : Bool := decide (n < 0) || decide (most < n)
def inAll (most : Int) (l : List Int) : Bool := !(l.any (outN most))
theorem inAll_iff {most : Int} {l : List Int} : inAll most l = true ↔ ∀ n ∈ l, 0 ≤ n ∧ n ≤ most := by
  simp [inAll, outN, List.any_eq_true]

theorem c_wire_within_1 {H : Heap} {bx : Nat} {most : Int} (hbx : H[bx]? = some (some (.cells 0 [.int .i64 most]))) (n : Int) :
    SCall Try.prog 70 [.int .i64 n, .ptr bx 0 0] H fun r H' => r = .bool (outN most n) ∧ H' = H := by
  have o1 := obj_of hbx
  unfold outN
  refine scall_of (ord := fun _ => []) (rs := [3]) Try.func70 rfl (by kernel_rfl) (by kernel_rfl) (by kernel_rfl) Try.ntmps70 fun hb hargs => go 200 (fun _ => false) mixed ?_
  by_cases h0 : n < 0
  · simp (disch := omega) only [↓reduceIte, go_sem, o1, h0] <;> repeat with_reducible refine And.intro (by first | omega | decide) ?_
    exact fin (by simp [go_sem, h0]) rfl
  · by_cases h1 : most < n
    · simp (disch := omega) only [↓reduceIte, go_sem, o1, h0, h1] <;> repeat with_reducible refine And.intro (by first | omega | decide) ?_
      exact fin (by simp [go_sem, h0, h1]) rfl
    · simp (disch := omega) only [↓reduceIte, go_sem, o1, h0, h1] <;> repeat with_reducible refine And.intro (by first | omega | decide) ?_
      exact fin (by simp [go_sem, h0, h1]) rfl

/-- Where the first one is for which a function is true. -/
def idxI (p : Int → Bool) : List Int → Int → Int
  | [], _ => -1
  | a :: l, i => if p a then i else idxI p l (i + 1)
theorem idxI_any (p : Int → Bool) : ∀ (l : List Int) (i : Int), 0 ≤ i → (0 ≤ idxI p l i ↔ l.any p = true)
  | [], i, h => by simp [idxI]
  | a :: l, i, h => by
    unfold idxI
    by_cases hp : p a = true
    · rw [if_pos hp]; simp [hp, h]
    · rw [if_neg hp, idxI_any p l (i + 1) (by omega)]; simp [hp]

theorem c_slices_IndexFunc_int_int {H : Heap} {f : Nat} {caps : List PV} {p : Int → Bool} {l : List Int} (hl : l.length < 1100002)
    (hf : ∀ y, SCall Try.prog f (.int .i64 y :: caps) H fun r H' => r = .bool (p y) ∧ H' = H) :
    SCall Try.prog 92 [.sl 1 (intsV l), .func (.func f) [] caps] H fun r H' => r = .int .i64 (idxI p l 0) ∧ H' = H := by
  refine scall_of (ord := fun _ => []) (rs := [4]) Try.func92 rfl (by kernel_rfl) (by kernel_rfl) (by kernel_rfl) Try.ntmps92 fun hb hargs => go 200 (fun _ => false) mixed ?_
  simp (disch := omega) only [↓reduceIte, go_sem] <;> repeat with_reducible refine And.intro (by first | omega | decide) ?_
  refine runs_loopA (fun k : Nat => k ≤ l.length ∧ idxI p l 0 = idxI p (l.drop k) k) (fun k => l.length - k) [true, true, false, false, false, false, false, true, true]
    (fun k => slots 19 [.sl 1 (intsV l), .func (.func f) [] caps, .any, .any, .any, .any, .any, .int .i64 l.length, .int .i64 k]) (fun k => H) (by rfl) 0 ⟨Nat.zero_le _, rfl⟩ rfl rfl ?_
  rintro k ⟨hk, hall⟩
  refine go 200 (fun _ => false) mixed ?_
  by_cases hlt : k < l.length
  · rw [List.drop_eq_getElem_cons hlt, show l[k] = l.getD k 0 by simp [List.getD_eq_getElem?_getD, hlt], idxI] at hall
    have hpk := hf (l.getD k 0)
    have hget := intsV_getD hlt
    simp (disch := omega) only [↓reduceIte, go_sem, hlt, hget] <;> repeat with_reducible refine And.intro (by first | omega | decide) ?_
    refine hpk.mono fun r H1 ⟨e1, e2⟩ => ?_
    rw [e1, e2]
    refine go 200 (fun _ => false) mixed ?_
    cases hc : p (l.getD k 0) with
    | true =>
      rw [if_pos hc] at hall
      simp (disch := omega) only [↓reduceIte, go_sem, hlt, hget] <;> repeat with_reducible refine And.intro (by first | omega | decide) ?_
      exact fin (by rw [hall]; rfl) rfl
    | false =>
      rw [if_neg (by rw [hc]; decide)] at hall
      simp (disch := omega) only [↓reduceIte, go_sem, hlt, hget] <;> repeat with_reducible refine And.intro (by first | omega | decide) ?_
      exact rnd_next (k + 1) ⟨by omega, by rw [hall]; rfl⟩ (by show l.length - (k + 1) < l.length - k; omega) rfl rfl
  · rw [List.drop_eq_nil_of_le (by omega), idxI] at hall
    simp (disch := omega) only [↓reduceIte, go_sem, hlt] <;> repeat with_reducible refine And.intro (by first | omega | decide) ?_
    refine go 200 (fun _ => false) mixed ?_
    simp (disch := omega) only [↓reduceIte, go_sem] <;> repeat with_reducible refine And.intro (by first | omega | decide) ?_
    exact fin (by rw [hall]; rfl) rfl

theorem c_slices_ContainsFunc_int_int {H : Heap} {f : Nat} {caps : List PV} {p : Int → Bool} {l : List Int} (hl : l.length < 1100002)
    (hf : ∀ y, SCall Try.prog f (.int .i64 y :: caps) H fun r H' => r = .bool (p y) ∧ H' = H) :
    SCall Try.prog 69 [.sl 1 (intsV l), .func (.func f) [] caps] H fun r H' => r = .bool (l.any p) ∧ H' = H := by
  have hi := idxI_any p l 0 (by omega)
  have key := c_slices_IndexFunc_int_int (l := l) hl hf
  refine scall_of (ord := fun _ => []) (rs := [4]) Try.func69 rfl (by kernel_rfl) (by kernel_rfl) (by kernel_rfl) Try.ntmps69 fun hb hargs => go 200 (fun _ => false) mixed ?_
  generalize idxI p l 0 = i at *
  simp (disch := omega) only [↓reduceIte, go_sem] <;> repeat with_reducible refine And.intro (by first | omega | decide) ?_
  refine key.mono fun r H1 ⟨e1, e2⟩ => ?_
  rw [e1, e2]
  refine go 200 (fun _ => false) mixed ?_
  cases ha : l.any p with
  | true =>
    have := hi.mpr ha
    simp (disch := omega) only [↓reduceIte, go_sem, this] <;> repeat with_reducible refine And.intro (by first | omega | decide) ?_
    exact fin rfl rfl
  | false =>
    have : ¬ 0 ≤ i := fun h => by rw [hi.mp h] at ha; exact nomatch ha
    simp (disch := omega) only [↓reduceIte, go_sem, this] <;> repeat with_reducible refine And.intro (by first | omega | decide) ?_
    exact fin rfl rfl

theorem c_wire_within (most : Int) (l : List Int) (hl : l.length < 1100000) : PCall Try.prog 38 [.int .i64 most, .sl 1 (intsV l)] (.bool (inAll most l)) := by
  intro H
  have key := c_slices_ContainsFunc_int_int (H := H ++ [some (.cells 0 [.int .i64 most])]) (f := 70) (caps := [.ptr H.length 0 0]) (p := outN most) (l := l) (by omega)
    (fun y => c_wire_within_1 (by rw [get_tail0]; rfl) y)
  unfold inAll
  generalize l.any (outN most) = o at *
  refine scall_of (ord := fun _ => []) (rs := [4]) Try.func38 rfl (by kernel_rfl) (by kernel_rfl) (by kernel_rfl) Try.ntmps38 fun hb hargs => go 200 (fun _ => false) mixed ?_
  simp (disch := omega) only [↓reduceIte, go_sem] <;> repeat with_reducible refine And.intro (by first | omega | decide) ?_
  refine key.mono fun r H1 ⟨e1, e2⟩ => ?_
  rw [e1, e2]
  refine go 200 (fun _ => false) mixed ?_
  simp (disch := omega) only [↓reduceIte, go_sem] <;> repeat with_reducible refine And.intro (by first | omega | decide) ?_
  exact fin_drop (.inr rfl) hb rfl (by simp)
end Go.Proofs.GoC
