/-
  What the functions compute: a solver's small ones. No claim by itself.
-/
import Derived.Test.YtcohhicfpghdpaaGoSolve1
namespace Go.Proofs.GoC
open Go Go.Proofs.SL
set_option linter.unusedSimpArgs false
set_option linter.unusedVariables false
set_option maxRecDepth 10000
set_option maxHeartbeats 4000000

def cutS (n most : Int) : Int := let m := if 1 > n then 1 else n; if most < m then most else m
theorem cutS_le {n most : Int} (h : 1 ≤ most) : 1 ≤ cutS n most ∧ cutS n most ≤ most := by unfold cutS; simp only; constructor <;> split <;> (try split) <;> (try split at *) <;> omega

theorem c_solve_cut (n most : Int) : PCall Try.prog 13 [.int .i64 n, .int .i64 most] (.int .i64 (cutS n most)) := by
  intro H
  refine scall_of (ord := fun _ => []) (rs := [4]) Try.func13 rfl (by kernel_rfl) (by kernel_rfl) (by kernel_rfl) Try.ntmps13 fun hb hargs => go 200 (fun _ => false) mixed ?_
  simp (disch := omega) only [↓reduceIte, go_sem] <;> repeat with_reducible refine And.intro (by first | omega | decide) ?_
  exact fin rfl rfl

theorem c_solve_id (n : Int) (h1 : -9223372036854775808 ≤ n) (h2 : n ≤ 9223372036854775807) : PCall Try.prog 29 [.int .i64 n] (.int .i64 (aroundF n 65536 : Nat)) := by
  intro H
  refine scall_of (ord := fun _ => []) (rs := [2]) Try.func29 rfl (by kernel_rfl) (by kernel_rfl) (by kernel_rfl) Try.ntmps29 fun hb hargs => go 200 (fun _ => false) mixed ?_
  by_cases h0 : n < 0
  · obtain ⟨k, hk⟩ : ∃ k : Nat, -(n + 1) = k := ⟨(-(n + 1)).toNat, by omega⟩
    have e0 : (0 : Int) - (n + 1) = k := by omega
    have e1 : aroundF n 65536 = k % 65536 := by unfold aroundF; rw [if_pos h0, hk]; rfl
    rw [e1]
    simp (disch := omega) only [↓reduceIte, go_sem, h0, e0] <;> repeat with_reducible refine And.intro (by first | omega | decide) ?_
    exact fin rfl rfl
  · obtain ⟨k, rfl⟩ : ∃ k : Nat, n = k := ⟨n.toNat, by omega⟩
    have e1 : aroundF k 65536 = k % 65536 := by unfold aroundF; rw [if_neg (by omega)]; rfl
    rw [e1]
    simp (disch := omega) only [↓reduceIte, go_sem] <;> repeat with_reducible refine And.intro (by first | omega | decide) ?_
    exact fin rfl rfl

theorem c_cache_New {H : Heap} (n : Int) : SCall Try.prog 12 [.int .i64 n] H fun r H' => r = .ptr (H.length + 1) 0 0 ∧ H' = H ++ [some (.map []), some (.cells 0 [.int .i64 (cutS n 64), .mp H.length])] := by
  refine scall_of (ord := fun _ => []) (rs := [2]) Try.func12 rfl (by kernel_rfl) (by kernel_rfl) (by kernel_rfl) Try.ntmps12 fun hb hargs => go 200 (fun _ => false) mixed ?_
  simp (disch := omega) only [↓reduceIte, go_sem] <;> repeat with_reducible refine And.intro (by first | omega | decide) ?_
  exact Ends.same (.inr rfl) ⟨rfl, by simp [cutS]⟩

theorem c_cache_Cache_Room {H : Heap} {i : Nat} {room : Int} {q : PV} (h : H[i]? = some (some (.cells 0 [.int .i64 room, q]))) : SCall Try.prog 14 [.ptr i 0 0] H fun r H' => r = .int .i64 room ∧ H' = H := by
  have oc := obj_of h
  refine scall_of (ord := fun _ => []) (rs := [2]) Try.func14 rfl (by kernel_rfl) (by kernel_rfl) (by kernel_rfl) Try.ntmps14 fun hb hargs => go 200 (fun _ => false) mixed ?_
  simp (disch := omega) only [↓reduceIte, go_sem, oc] <;> repeat with_reducible refine And.intro (by first | omega | decide) ?_
  exact fin rfl rfl

theorem c_cache_key (name : List UInt8) (hn : name.length < 1000000) (kind : Int) : PCall Try.prog 25 [.str (bs name), .int .i64 kind] (.agg [.str (bs (lowF name)), .int .i64 kind]) := by
  intro H
  refine scall_ofc (ord := fun _ => []) (tdOf_ok _) (rs := [.cell 4 70]) Try.func25 rfl (by kernel_rfl) (by kernel_rfl) (by kernel_rfl) Try.ntmps25 fun hb hargs => go 200 (fun _ => false) mixed ?_
  simp (disch := omega) only [↓reduceIte, go_sem] <;> repeat with_reducible refine And.intro (by first | omega | decide) ?_
  refine (c_text_Lower name hn).on (go 200 (fun _ => false) mixed ?_)
  simp (disch := omega) only [↓reduceIte, go_sem] <;> repeat with_reducible refine And.intro (by first | omega | decide) ?_
  exact fin_c (.inr rfl) hb (by simp (disch := omega) only [↓reduceIte, go_sem] <;> repeat with_reducible refine And.intro (by first | omega | decide) ?_ <;> rfl) (bdd_agg.mpr fun p hp => by simp only [List.mem_cons, List.not_mem_nil, or_false] at hp; rcases hp with rfl | rfl <;> simp)

def ordNS : Nat → List Nat
  | 2 => [1014]
  | _ => []
theorem ordNS_2 : ordNS 2 = [1014] := rfl
def ordCG : Nat → List Nat
  | 1 => [2012]
  | _ => []
theorem ordCG_1 : ordCG 1 = [2012] := rfl
theorem lookM_nil {p z : PV} : lookM p z [] = (z, false) := rfl
theorem keysB_nil {d : TD} : keysB d [] = true := rfl

theorem get_none {H : Heap} {i j : Nat} {room : Int} (h : H[i]? = some (some (.cells 0 [.int .i64 room, .mp j]))) (hm : H[j]? = some (some (.map []))) (name : List UInt8) (hn : name.length < 1000000) (kind now : Int) :
    SCall Try.prog 17 [.ptr i 0 0, .str (bs name), .int .i64 kind, .int .i64 now] H fun r H' => r = .tup [.nils, .bool false] ∧ H' = H := by
  have hi := lt_of_get h
  have hj := lt_of_get hm
  have oc := obj_of h
  have hk := c_cache_key name hn kind
  refine scall_of (ord := ordCG) (rs := [8, 9]) Try.func17 rfl (by kernel_rfl) (by kernel_rfl) (by kernel_rfl) Try.ntmps17 fun hb hargs => go 200 (fun _ => false) mixed ?_
  simp (disch := omega) only [↓reduceIte, go_sem, ordCG_1, oc] <;> repeat with_reducible refine And.intro (by first | omega | decide) ?_
  refine ⟨_, fun L => hk _, go 200 (fun _ => false) mixed ?_⟩
  simp (disch := omega) only [↓reduceIte, go_sem, hm, oc, lookM_nil, keysB_nil] <;> repeat with_reducible refine And.intro (by first | omega | decide) ?_
  exact fin_drop (.inr rfl) hb rfl (by simp)

/-- A solver's limits, a lookup. -/
structure SCfg where
  sv : Int
  tr : Int
  wt : Int
  rm : Int
structure Lk where
  n : Int
  sent : Int
  til : Int
  steps : Int
  ttl : Int
  name : List UInt8
  qi : Int
  qn : List UInt8
  qt : Int
  qs : Int
def cfgC (c : SCfg) : List PV := [.int .i64 c.sv, .int .i64 c.tr, .int .i64 c.wt, .int .i64 c.rm]
def qC (i : Int) (n : List UInt8) (t s : Int) : List PV := [.int .i64 i, .str (bs n), .int .i64 t, .int .i64 s]
def lkC (x : Lk) : List PV := [.int .i64 x.n, .int .i64 x.sent, .int .i64 x.til, .int .i64 x.steps, .int .i64 x.ttl, .str (bs x.name), .int .i64 x.qi, .str (bs x.qn), .int .i64 x.qt, .int .i64 x.qs]
/-- An event of no addresses. -/
def evC (kind lookup : Int) (i : Int) (n : List UInt8) (t s : Int) (e : Int) : List PV := [.int .i64 kind, .int .i64 lookup, .int .i64 i, .str (bs n), .int .i64 t, .int .i64 s, .nils, .int .i64 e]

/-- Nil pointers, as they stand behind a list that was made shorter. -/
def nilsV (n : Nat) : List PV := List.replicate n .nilp
/-- Pointers that a slice in a cell has. -/
def PtrsAt (H : Heap) (i : Nat) (s : PV) (L : List Nat) : Prop :=
  (s = .nils ∧ L = []) ∨ ∃ j vj n, s = .buf j vj 0 L.length 1 true ∧ H[j]? = some (some (.cells vj (ptrsV L ++ nilsV n))) ∧ 0 < L.length + n ∧ j ≠ i
theorem PtrsAt.keep {H H' : Heap} {i : Nat} {F : List Nat} {s : PV} {L : List Nat} (h : PtrsAt H i s L) (k : Keeps F H H') (hF : ∀ j ∈ bufN s, j ∉ F) : PtrsAt H' i s L := by
  rcases h with h | ⟨j, vj, J, rfl, h2, h3, h4⟩
  · exact .inl h
  · exact .inr ⟨j, vj, J, rfl, k.get h2 (hF j (by simp [bufN])), h3, h4⟩
/-- A solver in the heap, of which nothing is in the cache. -/
structure SvAt (H : Heap) (i : Nat) (ic im : Nat) (s : PV) (c : SCfg) (many : Int) (L : List Nat) : Prop where
  own : H[i]? = some (some (.cells 0 [.ptr ic 0 0, .int .i64 c.sv, .int .i64 c.tr, .int .i64 c.wt, .int .i64 c.rm, s, .int .i64 many]))
  cache : H[ic]? = some (some (.cells 0 [.int .i64 c.rm, .mp im]))
  map : H[im]? = some (some (.map []))
  arr : PtrsAt H i s L
  nodup : L.Nodup
  lks : ∀ p ∈ L, ∃ x : Lk, H[p]? = some (some (.cells 0 (lkC x)))
section
variable {H : Heap} {i ic im : Nat} {s : PV} {c : SCfg} {many : Int} {L : List Nat}
theorem SvAt.ne_ic (h : SvAt H i ic im s c many L) : ic ≠ i := fun e => by
  have := h.own; rw [← e, h.cache] at this; cases this
theorem SvAt.ne_im (h : SvAt H i ic im s c many L) : im ≠ i := fun e => by
  have := h.own; rw [← e, h.map] at this; cases this
theorem SvAt.lk_i (h : SvAt H i ic im s c many L) {p : Nat} {x : Lk} (hp : H[p]? = some (some (.cells 0 (lkC x)))) : p ≠ i := fun e => by
  have := h.own; rw [← e, hp] at this; simp [lkC] at this
theorem ptrs_no {v : Nat} {n : Nat} {o : List PV} (h : 0 < L.length + n) (he : (OB.cells 0 o) = OB.cells v (ptrsV L ++ nilsV n)) : ∃ q, o.head? = some q ∧ (q = .nilp ∨ ∃ p, q = .ptr p 0 0) := by
  simp only [OB.cells.injEq] at he
  rw [he.2]
  cases L with
  | nil =>
    cases n with
    | zero => simp at h
    | succ n => exact ⟨_, rfl, .inl rfl⟩
  | cons a L => exact ⟨_, rfl, .inr ⟨_, rfl⟩⟩
theorem SvAt.lk_b (h : SvAt H i ic im s c many L) {p : Nat} {x : Lk} (hp : H[p]? = some (some (.cells 0 (lkC x)))) : ∀ j ∈ bufN s, p ≠ j := by
  rcases h.arr with ⟨rfl, _⟩ | ⟨j, vj, n, rfl, h2, h3, h4⟩
  · intro j hj; cases hj
  · intro j' hj' e
    simp only [bufN, List.mem_singleton] at hj'
    subst hj'
    subst e
    rw [hp] at h2
    simp only [Option.some.injEq] at h2
    obtain ⟨q, hq, h5⟩ := ptrs_no h3 h2
    simp only [lkC, List.head?_cons, Option.some.injEq] at hq
    subst hq
    rcases h5 with h5 | ⟨_, h5⟩ <;> cases h5
theorem SvAt.ic_b (h : SvAt H i ic im s c many L) : ∀ j ∈ bufN s, ic ≠ j := by
  rcases h.arr with ⟨rfl, _⟩ | ⟨j, vj, n, rfl, h2, h3, h4⟩
  · intro j hj; cases hj
  · intro j' hj' e
    simp only [bufN, List.mem_singleton] at hj'
    subst hj'
    subst e
    rw [h.cache] at h2
    simp only [Option.some.injEq] at h2
    obtain ⟨q, hq, h5⟩ := ptrs_no h3 h2
    simp only [List.head?_cons, Option.some.injEq] at hq
    subst hq
    rcases h5 with h5 | ⟨_, h5⟩ <;> cases h5
theorem SvAt.im_b (h : SvAt H i ic im s c many L) : ∀ j ∈ bufN s, im ≠ j := by
  rcases h.arr with ⟨rfl, _⟩ | ⟨j, vj, n, rfl, h2, h3, h4⟩
  · intro j hj; cases hj
  · intro j' hj' e
    simp only [bufN, List.mem_singleton] at hj'
    subst hj'
    subst e
    rw [h.map] at h2
    cases h2
theorem SvAt.i_b (h : SvAt H i ic im s c many L) : ∀ j ∈ bufN s, i ≠ j := by
  rcases h.arr with ⟨rfl, _⟩ | ⟨j, vj, n, rfl, h2, h3, h4⟩
  · intro j hj; cases hj
  · intro j' hj' e
    simp only [bufN, List.mem_singleton] at hj'
    subst hj'
    exact h4 e.symm
theorem lk_ic {p : Nat} {x : Lk} (h : SvAt H i ic im s c many L) (hp : H[p]? = some (some (.cells 0 (lkC x)))) : p ≠ ic := fun e => by
  have := h.cache; rw [← e, hp] at this; simp [lkC] at this
theorem lk_im {p : Nat} {x : Lk} (h : SvAt H i ic im s c many L) (hp : H[p]? = some (some (.cells 0 (lkC x)))) : p ≠ im := fun e => by
  have := h.map; rw [← e, hp] at this; cases this
/-- What changes nothing that a solver has, keeps it. -/
theorem SvAt.keep {H' : Heap} {F : List Nat} (h : SvAt H i ic im s c many L) (k : Keeps F H H') (hi : i ∉ F) (hic : ic ∉ F) (him : im ∉ F) (hb : ∀ j ∈ bufN s, j ∉ F) (hl : ∀ p ∈ L, p ∈ F → ∃ x : Lk, H'[p]? = some (some (.cells 0 (lkC x)))) : SvAt H' i ic im s c many L :=
  ⟨k.get h.own hi, k.get h.cache hic, k.get h.map him, h.arr.keep k hb, h.nodup, fun p hp => by
    by_cases hF : p ∈ F
    · exact hl p hp hF
    · obtain ⟨x, hx⟩ := h.lks p hp
      exact ⟨x, k.get hx hF⟩⟩
end

theorem c_solve_New {H : Heap} (a b c d : Int) : SCall Try.prog 6 [.agg [.int .i64 a, .int .i64 b, .int .i64 c, .int .i64 d]] H fun r H' =>
    ∃ i ic im, r = .ptr i 0 0 ∧ SvAt H' i ic im .nils ⟨cutS a 4, cutS b 5, cutS c 1000, cutS d 64⟩ 0 [] ∧ Keeps [] H H' ∧ H.length ≤ i := by
  refine scall_of (ord := ordNS) (rs := [2]) Try.func6 rfl (by kernel_rfl) (by kernel_rfl) (by kernel_rfl) Try.ntmps6 fun hb hargs => go 200 (fun _ => false) mixed ?_
  simp (disch := omega) only [↓reduceIte, go_sem, ordNS_2] <;> repeat with_reducible refine And.intro (by first | omega | decide) ?_
  refine (c_cache_New d).mono fun r H1 ⟨e1, e2⟩ => ?_
  rw [e1, e2]
  have hl1 : (H ++ [some (OB.cells 0 [.int .i64 a, .int .i64 b, .int .i64 c, .int .i64 d])]).length = H.length + 1 := by simp
  rw [hl1]
  refine go 200 (fun _ => false) mixed ?_
  simp (disch := omega) only [↓reduceIte, go_sem, ordNS_2] <;> repeat with_reducible refine And.intro (by first | omega | decide) ?_
  refine (c_solve_cut a 4).onq (go 200 (fun _ => false) mixed ?_)
  simp (disch := omega) only [↓reduceIte, go_sem] <;> repeat with_reducible refine And.intro (by first | omega | decide) ?_
  refine (c_solve_cut b 5).onq (go 200 (fun _ => false) mixed ?_)
  simp (disch := omega) only [↓reduceIte, go_sem] <;> repeat with_reducible refine And.intro (by first | omega | decide) ?_
  refine (c_solve_cut c 1000).onq (go 200 (fun _ => false) mixed ?_)
  simp (disch := omega) only [↓reduceIte, go_sem] <;> repeat with_reducible refine And.intro (by first | omega | decide) ?_
  refine (c_cache_Cache_Room (i := H.length + 1 + 1) (room := cutS d 64) (q := .mp (H.length + 1)) (by rw [Nat.add_assoc, get_tail]; rfl)).onq (go 200 (fun _ => false) mixed ?_)
  simp (disch := omega) only [↓reduceIte, go_sem] <;> repeat with_reducible refine And.intro (by first | omega | decide) ?_
  exact Ends.same (.inr rfl) ⟨H.length + 3, H.length + 2, H.length + 1, rfl, ⟨by rw [get_tail]; rfl, by rw [get_tail]; rfl, by rw [get_tail]; rfl, .inl ⟨rfl, rfl⟩, List.nodup_nil, by intro p hp; cases hp⟩, Keeps.app, by omega⟩

theorem evC_len {k l a : Int} {n : List UInt8} {t s e : Int} : (evC k l a n t s e).length = 8 := rfl
theorem lkC_len {x : Lk} : (lkC x).length = 10 := rfl

def ordSQ (_ : Nat) : List Nat := []

/-- A lookup that ends. -/
theorem c_solve_Solver_over {H : Heap} {i ic im : Nat} {s : PV} {c : SCfg} {many : Int} {L : List Nat} (h : SvAt H i ic im s c many L) (hl : L.length < 1000000) {p : Nat} {x : Lk} (hp : H[p]? = some (some (.cells 0 (lkC x))))
    (k l a : Int) (n : List UInt8) (t sv e : Int) :
    SCall Try.prog 18 [.ptr i 0 0, .ptr p 0 0, .agg (evC k l a n t sv e)] H fun r H' => r = .agg (evC k x.n a n t sv e) ∧ ∃ s', SvAt H' i ic im s' c many (remP p L) ∧ (s' = .nils ∨ bufN s' = bufN s) ∧ Keeps (i :: bufN s) H H' := by
  have hi := lt_of_get h.own
  have hpl := lt_of_get hp
  have oc := obj_of h.own
  have op := obj_of hp
  refine scall_ofd (ord := ordSQ) (tdOf_ok _) (rs := [.cell 6 32]) Try.func18 rfl (by kernel_rfl) (by kernel_rfl) (by kernel_rfl) Try.ntmps18 fun hb hargs => go 200 (fun _ => false) mixed ?_
  simp (disch := omega) only [↓reduceIte, go_sem, evC, oc, op, lkC] <;> repeat with_reducible refine And.intro (by first | omega | decide) ?_
  have hdel := c_slices_DeleteFunc_solve_lookup_solve_lookup (H := H ++ [some (.cells 0 [.ptr p 0 0]), some (.cells 0 [.int .i64 k, .int .i64 l, .int .i64 a, .str (bs n), .int .i64 t, .int .i64 sv, .nils, .int .i64 e]), some (.cells 0 [.int .i64 0, .int .i64 0, .int .i64 0, .str (bs []), .int .i64 0, .int .i64 0, .nils, .int .i64 0])])
    (f := 28) (caps := [.ptr H.length 0 0]) (x := p) (L := L) (s := s) (by omega) h.nodup (by
      rcases h.arr with h | ⟨j, vj, m, rfl, h2, _⟩
      · exact .inl h
      · exact .inr ⟨j, vj, nilsV m, rfl, get_app h2⟩) (fun j hj Hc hK y hy => by
      have hjl : j < H.length := by
        rcases h.arr with ⟨rfl, _⟩ | ⟨j', vj, m, rfl, h2, _⟩
        · cases hj
        · simp only [bufN, List.mem_singleton] at hj; subst hj; exact lt_of_get h2
      obtain ⟨xy, hxy⟩ := h.lks y hy
      refine c_solve_Solver_over_1 (hK.get (by rw [get_tail0]; rfl) ?_) (hK.get (get_app hp) ?_) (hK.get (get_app hxy) ?_)
      · simp only [List.mem_singleton]; omega
      · simpa using h.lk_b hp j hj
      · simpa using h.lk_b hxy j hj)
  refine hdel.mono fun r H3 hr => ?_
  have hip : i ≠ p := (h.lk_i hp).symm
  rcases hr with ⟨hpn, rfl, rfl⟩ | ⟨hpm, j, vj, J, rfl, hj, rfl, rfl⟩
  · have hs : (r = .nils ∨ ∃ j vj, r = .buf j vj 0 L.length 1 true) := by
      rcases h.arr with ⟨rfl, _⟩ | ⟨j, vj, m, rfl, _⟩
      · exact .inl rfl
      · exact .inr ⟨_, _, rfl⟩
    have hend : ∀ L' : Heap, SvAt (H.set i (some (.cells 0 [.ptr ic 0 0, .int .i64 c.sv, .int .i64 c.tr, .int .i64 c.wt, .int .i64 c.rm, r, .int .i64 many])) ++ L') i ic im r c many (remP p L) ∧ Keeps (i :: bufN r) H (H.set i (some (.cells 0 [.ptr ic 0 0, .int .i64 c.sv, .int .i64 c.tr, .int .i64 c.wt, .int .i64 c.rm, r, .int .i64 many])) ++ L') := fun L' => by
      rw [set_same h.own, remP_not hpn]
      exact ⟨h.keep (F := []) Keeps.app (by simp) (by simp) (by simp) (by simp) (by simp), (Keeps.app (F := [])).mono (by simp)⟩
    refine go 200 (fun _ => false) mixed ?_
    rcases hs with rfl | ⟨j, vj, rfl⟩
    · simp (disch := omega) only [↓reduceIte, go_sem, oc, op, lkC] <;> repeat with_reducible refine And.intro (by first | omega | decide) ?_
      refine EndsD.same (.inr rfl) (r := .agg (evC k x.n a n t sv e)) ?_ ?_
      · simp (disch := omega) only [↓reduceIte, go_sem, evC] <;> repeat with_reducible refine And.intro (by first | omega | decide) ?_ <;> rfl
      · exact ⟨rfl, _, (hend _).1, .inl rfl, (hend _).2⟩
    · simp (disch := omega) only [↓reduceIte, go_sem, oc, op, lkC] <;> repeat with_reducible refine And.intro (by first | omega | decide) ?_
      refine EndsD.same (.inr rfl) (r := .agg (evC k x.n a n t sv e)) ?_ ?_
      · simp (disch := omega) only [↓reduceIte, go_sem, evC] <;> repeat with_reducible refine And.intro (by first | omega | decide) ?_ <;> rfl
      · exact ⟨rfl, _, (hend _).1, .inr rfl, (hend _).2⟩
  · have hji : j ≠ i := h.i_b j (by simp [bufN]) |>.symm
    have hjp : j ≠ p := (h.lk_b hp j (by simp [bufN])).symm
    obtain ⟨vj', m, hbe, hjJ, hjm⟩ : ∃ vj' m, vj' = vj ∧ H[j]? = some (some (.cells vj (ptrsV L ++ nilsV m))) ∧ 0 < L.length + m := by
      rcases h.arr with ⟨h1, _⟩ | ⟨j', vj', m, h1, h2, h3, _⟩
      · cases h1
      · cases h1; exact ⟨_, m, rfl, h2, h3⟩
    have hjl := lt_of_get hjJ
    obtain rfl : J = nilsV m := by
      rw [get_app_lt hjl, hjJ] at hj
      simp only [Option.some.injEq, OB.cells.injEq, List.append_cancel_left_eq, true_and] at hj
      exact hj.symm
    rw [set_app_lt hjl]
    have hKl : (H.set j (some (.cells vj (ptrsV (remP p L) ++ (.nilp :: nilsV m))))).length = H.length := by simp
    have hKo : (H.set j (some (.cells vj (ptrsV (remP p L) ++ (.nilp :: nilsV m)))))[i]? = H[i]? := List.getElem?_set_ne hji
    have hKp : (H.set j (some (.cells vj (ptrsV (remP p L) ++ (.nilp :: nilsV m)))))[p]? = H[p]? := List.getElem?_set_ne hjp
    have hKj : (H.set j (some (.cells vj (ptrsV (remP p L) ++ (.nilp :: nilsV m)))))[j]? = some (some (.cells vj (ptrsV (remP p L) ++ nilsV (m + 1)))) := List.getElem?_set_self hjl
    have hKk : Keeps [j] H (H.set j (some (.cells vj (ptrsV (remP p L) ++ (.nilp :: nilsV m))))) := Keeps.setF (by simp)
    rw [h.own] at hKo
    rw [hp] at hKp
    generalize H.set j (some (.cells vj (ptrsV (remP p L) ++ (.nilp :: nilsV m)))) = K at *
    have oc3 := obj_of hKo
    have op3 := obj_of hKp
    rw [← hKl]
    have hi3 := lt_of_get hKo
    have hp3 := lt_of_get hKp
    have hj3 := lt_of_get hKj
    refine go 200 (fun _ => false) mixed ?_
    simp (disch := omega) only [↓reduceIte, go_sem, oc3, op3, lkC] <;> repeat with_reducible refine And.intro (by first | omega | decide) ?_
    refine EndsD.same (.inr rfl) (r := .agg (evC k x.n a n t sv e)) ?_ ?_
    · simp (disch := omega) only [↓reduceIte, go_sem, evC] <;> repeat with_reducible refine And.intro (by first | omega | decide) ?_ <;> rfl
    · refine ⟨rfl, .buf j vj 0 (remP p L).length 1 true, ⟨?_, ?_, ?_, .inr ⟨j, vj, m + 1, rfl, ?_, by omega, hji⟩, remP_nodup h.nodup, fun y hy => ?_⟩, .inr rfl, ?_⟩
      · rw [get_set_app hi3, get_set_self hi3]
      · rw [get_set_app (lt_of_get (hKk.get h.cache (by simpa using h.ic_b j (by simp [bufN])))), get_set_ne h.ne_ic.symm]
        exact hKk.get h.cache (by simpa using h.ic_b j (by simp [bufN]))
      · rw [get_set_app (lt_of_get (hKk.get h.map (by simpa using h.im_b j (by simp [bufN])))), get_set_ne h.ne_im.symm]
        exact hKk.get h.map (by simpa using h.im_b j (by simp [bufN]))
      · rw [get_set_app hj3, get_set_ne hji.symm]; exact hKj
      · obtain ⟨xy, hxy⟩ := h.lks y (List.mem_filter.mp hy).1
        have hKy := hKk.get hxy (by simpa using h.lk_b hxy j (by simp [bufN]))
        exact ⟨xy, by rw [get_set_app (lt_of_get hKy), get_set_ne (h.lk_i hxy).symm]; exact hKy⟩
      · exact (hKk.mono (by simp [bufN])).trans ((Keeps.setF (i := i) (F := i :: bufN (.buf j vj 0 L.length 1 true)) (by simp)).trans Keeps.app)
end Go.Proofs.GoC
