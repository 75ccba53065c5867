/-
  What the functions compute: a message, read. No claim by itself.
-/
import Derived.Test.YtmgemdgbffmnjaaGoReadC
import Derived.Test.YtmgemdgbffmnjaaSlFz2
namespace Go.Proofs.GoC
open Go Go.Proofs.SL
set_option linter.unusedSimpArgs false
set_option linter.unusedVariables false
set_option maxRecDepth 10000
set_option maxHeartbeats 8000000

def queR (B : List UInt8) (s : RSt) : Qu × RSt :=
  (⟨(nameS B s).1, ((numS B 2 (nameS B s).2).1 : Nat), ((numS B 2 (numS B 2 (nameS B s).2).2).1 : Nat)⟩, (numS B 2 (numS B 2 (nameS B s).2).2).2)
def quesR (B : List UInt8) : Nat → RSt → List Qu → List Qu × RSt
  | 0, s, acc => (acc, s)
  | n + 1, s, acc => if s.2 = 0 then quesR B n (queR B s).2 (acc ++ [(queR B s).1]) else (acc, s)
def recsR (B : List UInt8) : Nat → RSt → List Rc → List Rc × RSt
  | 0, s, acc => (acc, s)
  | n + 1, s, acc => if s.2 = 0 then recsR B n (recS B s).2 (acc ++ [(recS B s).1]) else (acc, s)
def allR (B : List UInt8) : List Nat → RSt → List (List Rc) → List (List Rc) × RSt
  | [], s, acc => (acc, s)
  | c :: cs, s, acc => allR B cs (recsR B c s []).2 (acc ++ [(recsR B c s []).1])
/-- What stands ahead of a message's lists: the Id, the Flags, how many there are of each; and where they end. -/
structure Hd where
  id : Nat
  fl : Nat
  nq : Nat
  na : Nat
  nu : Nat
  nm : Nat
  s : RSt
def headB (B : List UInt8) : Hd :=
  let a := numS B 2 (0, 0)
  let b := numS B 2 a.2
  let c := numS B 2 b.2
  let d := numS B 2 c.2
  let e := numS B 2 d.2
  let f := numS B 2 e.2
  ⟨a.1, b.1, c.1, d.1, e.1, f.1, f.2⟩
def endS (B : List UInt8) (s : RSt) : RSt := if s.1 = B.length then s else failS 2 s
inductive RdM where
  | ok (m : Ms)
  | bad (e : Nat)
/-- The message of bytes, or why there is none. -/
def readM (B : List UInt8) : RdM :=
  if 1232 < B.length then .bad 3
  else
    let h := headB B
    let q := quesR B h.nq h.s []
    let l := allR B [h.na, h.nu, h.nm] q.2 []
    let s := endS B l.2
    if s.2 = 0 then .ok ⟨h.id, h.fl, q.1, l.1.getD 0 [], l.1.getD 1 [], l.1.getD 2 []⟩ else .bad s.2
def zeroM : PV := .agg [.int .i64 0, .int .i64 0, .nils, .nils, .nils, .nils]
def rdmV : RdM → PV
  | .ok m => .tup [msV m, .int .i64 0]
  | .bad e => .tup [zeroM, .int .i64 (e : Nat)]

theorem recS_at {B : List UInt8} {s : RSt} (h : s.1 ≤ B.length) : (recS B s).2.1 ≤ B.length := by
  have wa := nameS_at h
  have wb := numS_at (n := 2) wa
  have wc := numS_at (n := 2) wb
  have wd := numS_at (n := 4) wc
  have we := numS_at (n := 2) wd
  show (lastS B _ _ _).2.1 ≤ B.length
  generalize numS B 2 (numS B 4 (numS B 2 (numS B 2 (nameS B s).2).2).2).2 = e at *
  unfold lastS
  split
  · show (failS 2 e.2).1 ≤ _; rw [failS_at]; exact we
  · have key : ∀ (ty : Nat) (x : Rc), (readsS B ty e.1 x e.2).2.1 ≤ B.length := fun ty x => by
      unfold readsS addrS
      split
      · split
        · show (failS 2 e.2).1 ≤ _; rw [failS_at]; exact we
        · exact (rawS_at we).1
      · split
        · split
          · show (failS 2 e.2).1 ≤ _; rw [failS_at]; exact we
          · exact (rawS_at we).1
        · split
          · exact nameS_at we
          · exact (rawS_at we).1
    split
    · exact key _ _
    · show (failS 2 _).1 ≤ _; rw [failS_at]; exact key _ _
theorem queR_at {B : List UInt8} {s : RSt} (h : s.1 ≤ B.length) : (queR B s).2.1 ≤ B.length := numS_at (numS_at (nameS_at h))
theorem recS_ab {B : List UInt8} {s : RSt} (h : s.1 ≤ B.length) : (recS B s).1.ab.length = 16 := by
  have wa := nameS_at h
  have wb := numS_at (n := 2) wa
  have wc := numS_at (n := 2) wb
  have wd := numS_at (n := 4) wc
  have we := numS_at (n := 2) wd
  show (lastS B _ (x0S _ _ _ _) _).1.ab.length = 16
  generalize hx : x0S _ _ _ _ = x
  have hx0 : x.ab.length = 16 := by rw [← hx]; rfl
  generalize numS B 2 (numS B 4 (numS B 2 (numS B 2 (nameS B s).2).2).2).2 = e at *
  unfold lastS
  split
  · exact hx0
  · show (readsS B _ e.1 x e.2).1.ab.length = 16
    unfold readsS
    split
    · exact addrS_len hx0 (by omega) we
    · split
      · exact addrS_len hx0 (by omega) we
      · split
        · exact hx0
        · exact hx0

/-! Where it all lies. -/
structure RdS where
  K : Heap
  s : RSt
  qs : List Qu
  vq : Nat
  ls : List (List Rc)
  vs : Nat → Nat
  k : Nat
def bufQ (H : Heap) (a : RdS) : PV := .buf (H.length + 4) a.vq 0 a.qs.length 3 true
def bufR (H : Heap) (a : RdS) (k : Nat) : PV := .buf (H.length + (5 + k)) (a.vs k) 0 (a.ls.getD k []).length 23 true
def mcX (H : Heap) (id fl : Nat) (a : RdS) : List PV := [.int .i64 (id : Nat), .int .i64 (fl : Nat), bufQ H a, bufR H a 0, bufR H a 1, bufR H a 2]
structure RI (H : Heap) (B : List UInt8) (id fl : Nat) (mn : List PV) (a : RdS) : Prop where
  len : H.length + 8 ≤ a.K.length
  pre : ∀ j, j < H.length → a.K[j]? = H[j]?
  res : a.K[H.length]? = some (some (.cells 0 [.int .i64 0, .int .i64 0, .nils, .nils, .nils, .nils]))
  rd : a.K[H.length + 1]? = some (rdO B a.s)
  ms : a.K[H.length + 2]? = some (some (.cells 0 (mcX H id fl a)))
  mn : a.K[H.length + 3]? = some (some (.cells 0 mn))
  oq : a.K[H.length + 4]? = some (some (.cells a.vq (flat (qusV a.qs))))
  or : ∀ k, k < 3 → a.K[H.length + (5 + k)]? = some (some (.cells (a.vs k) (flat (rcsV (a.ls.getD k [])))))
  at0 : a.s.1 ≤ B.length
section
variable {H : Heap} {B : List UInt8} {id fl : Nat} {mn : List PV} {a : RdS}
/-- The reader goes on; things are made besides. -/
theorem RI.step (h : RI H B id fl mn a) {s' : RSt} (hs : s'.1 ≤ B.length) (L : Heap) (k : Nat) : RI H B id fl mn { a with K := a.K.set (H.length + 1) (rdO B s') ++ L, s := s', k := k } := by
  have hl := h.len
  have g : ∀ j, j ≠ H.length + 1 → j < a.K.length → (a.K.set (H.length + 1) (rdO B s') ++ L)[j]? = a.K[j]? := fun j hj hlt => by
    rw [List.getElem?_append_left (by simpa using hlt), List.getElem?_set_ne (Ne.symm hj)]
  exact ⟨by show _ ≤ (a.K.set (H.length + 1) (rdO B s') ++ L).length; simp; omega, fun j hj => (g j (by omega) (by omega)).trans (h.pre j hj), (g _ (by omega) (by omega)).trans h.res,
    by show (a.K.set (H.length + 1) (rdO B s') ++ L)[H.length + 1]? = _; rw [List.getElem?_append_left (by simp; omega), List.getElem?_set_self (by omega)], (g _ (by omega) (by omega)).trans h.ms, (g _ (by omega) (by omega)).trans h.mn, (g _ (by omega) (by omega)).trans h.oq,
    fun k hk => (g _ (by omega) (by omega)).trans (h.or k hk), hs⟩
theorem RI.app (h : RI H B id fl mn a) (L : Heap) : RI H B id fl mn { a with K := a.K ++ L } := by
  have hl := h.len
  have g : ∀ j, j < a.K.length → (a.K ++ L)[j]? = a.K[j]? := fun j hlt => List.getElem?_append_left hlt
  exact ⟨by show _ ≤ (a.K ++ L).length; simp; omega, fun j hj => (g j (by omega)).trans (h.pre j hj), (g _ (by omega)).trans h.res, (g _ (by omega)).trans h.rd, (g _ (by omega)).trans h.ms, (g _ (by omega)).trans h.mn, (g _ (by omega)).trans h.oq,
    fun k hk => (g _ (by omega)).trans (h.or k hk), h.at0⟩
/-- One question more. -/
theorem RI.addQ (h : RI H B id fl mn a) (q : Qu) (k : Nat) : RI H B id fl mn { a with
    K := (a.K.set (H.length + 4) (some (.cells (a.vq + 1) (flat (qusV (a.qs ++ [q])))))).set (H.length + 2) (some (.cells 0 (mcX H id fl { a with qs := a.qs ++ [q], vq := a.vq + 1 }))), qs := a.qs ++ [q], vq := a.vq + 1, k := k } := by
  have hl := h.len
  have g : ∀ j x y, j ≠ H.length + 4 → j ≠ H.length + 2 → ((a.K.set (H.length + 4) x).set (H.length + 2) y)[j]? = a.K[j]? := fun j x y h1 h2 => by
    rw [List.getElem?_set_ne (Ne.symm h2), List.getElem?_set_ne (Ne.symm h1)]
  refine ⟨by show _ ≤ (((a.K.set _ _).set _ _).length); simp; omega, fun j hj => (g j _ _ (by omega) (by omega)).trans (h.pre j hj), (g _ _ _ (by omega) (by omega)).trans h.res, (g _ _ _ (by omega) (by omega)).trans h.rd, ?_, (g _ _ _ (by omega) (by omega)).trans h.mn, ?_,
    fun k hk => (g _ _ _ (by omega) (by omega)).trans (h.or k hk), h.at0⟩
  · show ((a.K.set _ _).set _ _)[_]? = _
    rw [List.getElem?_set_self (by simp; omega)]; rfl
  · show ((a.K.set _ _).set _ _)[_]? = _
    rw [List.getElem?_set_ne (by omega), List.getElem?_set_self (by omega)]
/-- One record more, in the list that is read. -/
theorem RI.addR (h : RI H B id fl mn a) {acc : List (List Rc)} {cur : List Rc} (ha : a.ls = acc ++ [cur]) {j : Nat} (hj : acc.length = j) (hj3 : j < 3) (r : Rc) (k : Nat) : RI H B id fl mn { a with
    K := (a.K.set (H.length + (5 + j)) (some (.cells (a.vs j + 1) (flat (rcsV (cur ++ [r])))))).set (H.length + 2) (some (.cells 0 (mcX H id fl { a with ls := acc ++ [cur ++ [r]], vs := fun i => if i = j then a.vs j + 1 else a.vs i }))),
    ls := acc ++ [cur ++ [r]], vs := fun i => if i = j then a.vs j + 1 else a.vs i, k := k } := by
  have hl := h.len
  have g : ∀ i x y, i ≠ H.length + (5 + j) → i ≠ H.length + 2 → ((a.K.set (H.length + (5 + j)) x).set (H.length + 2) y)[i]? = a.K[i]? := fun i x y h1 h2 => by
    rw [List.getElem?_set_ne (Ne.symm h2), List.getElem?_set_ne (Ne.symm h1)]
  refine ⟨by show _ ≤ (((a.K.set _ _).set _ _).length); simp; omega, fun i hi => (g i _ _ (by omega) (by omega)).trans (h.pre i hi), (g _ _ _ (by omega) (by omega)).trans h.res, (g _ _ _ (by omega) (by omega)).trans h.rd, ?_, (g _ _ _ (by omega) (by omega)).trans h.mn, (g _ _ _ (by omega) (by omega)).trans h.oq,
    fun i hi => ?_, h.at0⟩
  · show ((a.K.set _ _).set _ _)[_]? = _
    rw [List.getElem?_set_self (by simp; omega)]; rfl
  · show ((a.K.set (H.length + (5 + j)) _).set (H.length + 2) _)[H.length + (5 + i)]? = some (some (.cells (if i = j then a.vs j + 1 else a.vs i) (flat (rcsV ((acc ++ [cur ++ [r]]).getD i [])))))
    rw [List.getElem?_set_ne (by omega)]
    by_cases e : i = j
    · subst e
      rw [List.getElem?_set_self (by omega), if_pos rfl]
      have : (acc ++ [cur ++ [r]]).getD i [] = cur ++ [r] := by
        rw [List.getD_eq_getElem?_getD, List.getElem?_append_right (by omega), hj, Nat.sub_self]; rfl
      rw [this]
    · rw [List.getElem?_set_ne (by omega), if_neg e, h.or i hi]
      have : (acc ++ [cur ++ [r]]).getD i [] = a.ls.getD i [] := by
        rw [ha, List.getD_eq_getElem?_getD, List.getD_eq_getElem?_getD]
        rcases Nat.lt_or_ge i acc.length with h1 | h1
        · rw [List.getElem?_append_left h1, List.getElem?_append_left h1]
        · rw [List.getElem?_eq_none (by simp; omega), List.getElem?_eq_none (by simp; omega)]
      rw [this]
end
end Go.Proofs.GoC
