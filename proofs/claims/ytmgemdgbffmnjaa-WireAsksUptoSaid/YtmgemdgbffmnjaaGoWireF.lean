/-
  A message's bytes, as they are written: the model, and where a writer lies meanwhile. No claim by itself.
-/
import Derived.Test.YtmgemdgbffmnjaaGoWireE
import Derived.Test.YtmgemdgbffmnjaaGoLabD
namespace Go.Proofs.GoC
open Go Go.Proofs.SL
set_option linter.unusedSimpArgs false
set_option linter.unusedVariables false
set_option maxRecDepth 10000
set_option maxHeartbeats 4000000

abbrev Holes := List (Nat × Nat)
/-- What was written: bytes, names, holes. -/
abbrev WSt := List UInt8 × Names × Holes
def hdR (r : Rc) (B : List UInt8) (es : Names) : List UInt8 × Names :=
  ((wrN r.name B es).1 ++ twos [r.ty.toNat, r.cl.toNat, r.ttl.toNat / 65536, r.ttl.toNat], (wrN r.name B es).2)
def recP (r : Rc) (s : WSt) : WSt :=
  if r.ty = 5 then
    ((wrN r.tgt ((hdR r s.1 s.2.1).1 ++ twos [0]) (hdR r s.1 s.2.1).2).1, (wrN r.tgt ((hdR r s.1 s.2.1).1 ++ twos [0]) (hdR r s.1 s.2.1).2).2,
      s.2.2 ++ [((hdR r s.1 s.2.1).1.length, (wrN r.tgt ((hdR r s.1 s.2.1).1 ++ twos [0]) (hdR r s.1 s.2.1).2).1.length - (hdR r s.1 s.2.1).1.length - 2)])
  else ((hdR r s.1 s.2.1).1 ++ datR r, (hdR r s.1 s.2.1).2, s.2.2)
/-- Records, one behind the other: none: there are too many bytes. -/
def recsP : List Rc → WSt → Option WSt
  | [], s => some s
  | r :: l, s => if 1232 < s.1.length then none else recsP l (recP r s)
def queP (q : Qu) (s : List UInt8 × Names) : List UInt8 × Names := ((wrN q.name s.1 s.2).1 ++ twos [q.ty.toNat, q.cl.toNat], (wrN q.name s.1 s.2).2)
def quesP : List Qu → List UInt8 × Names → List UInt8 × Names
  | [], s => s
  | q :: l, s => quesP l (queP q s)
/-- A hole filled. -/
def fill1 (e : Nat × Nat) (B : List UInt8) : List UInt8 := (B.set e.1 (UInt8.ofNat (e.2 / 256))).set (e.1 + 1) (UInt8.ofNat e.2)
def fillP : Holes → List UInt8 → List UInt8
  | [], B => B
  | e :: l, B => fillP l (fill1 e B)
def headM (m : Ms) : List UInt8 := twos [m.id.toNat, m.fl.toNat, m.qs.length, m.an.length, m.au.length, m.mo.length]
def startM (m : Ms) : WSt := ((quesP m.qs (headM m, [])).1, (quesP m.qs (headM m, [])).2, [])
def writeM (m : Ms) : Option WSt := recsP (m.an ++ (m.au ++ m.mo)) (startM m)
/-- A message's bytes, or why there are none. -/
def bytesM (m : Ms) : Option (List UInt8) := match writeM m with
  | none => none
  | some s => if 1232 < s.1.length then none else some (fillP s.2.2 s.1)

theorem fill1_len (e : Nat × Nat) (B : List UInt8) : (fill1 e B).length = B.length := by simp [fill1]
theorem fillP_len : ∀ (l : Holes) (B : List UInt8), (fillP l B).length = B.length
  | [], _ => rfl
  | e :: l, B => by rw [fillP, fillP_len l, fill1_len]
def Apart (a b : Nat × Nat) : Prop := a.1 + 2 ≤ b.1 ∨ b.1 + 2 ≤ a.1
theorem fill1_comm {a b : Nat × Nat} (h : Apart a b) (B : List UInt8) : fill1 a (fill1 b B) = fill1 b (fill1 a B) := by
  apply List.ext_getElem?
  intro k
  unfold Apart at h
  simp only [fill1, List.getElem?_set, List.length_set]
  repeat' split
  all_goals first | rfl | omega
theorem fillP_perm {l l' : Holes} (h : l.Perm l') : l.Pairwise Apart → ∀ B, fillP l B = fillP l' B := by
  induction h with
  | nil => intro _ B; rfl
  | cons x _ ih => intro hp B; rw [fillP, fillP, ih (List.pairwise_cons.mp hp).2]
  | swap x y l =>
    intro hp B
    have := (List.pairwise_cons.mp hp).1 x (by simp)
    show fillP l (fill1 x (fill1 y B)) = fillP l (fill1 y (fill1 x B))
    rw [fill1_comm (by unfold Apart at *; omega)]
  | trans h1 _ ih1 ih2 =>
    intro hp B
    rw [ih1 hp, ih2 (h1.pairwise hp (fun h => by unfold Apart at *; omega))]
theorem fillP_app : ∀ (a b : Holes) (B : List UInt8), fillP (a ++ b) B = fillP b (fillP a B)
  | [], _, _ => rfl
  | e :: a, b, B => by rw [List.cons_append, fillP, fillP, fillP_app a]

/-- Holes that lie apart, ahead of an end. -/
def HOk (hs : Holes) (n : Nat) : Prop := hs.Pairwise (fun a b => a.1 + 2 ≤ b.1) ∧ ∀ e ∈ hs, e.1 + 2 ≤ n ∧ e.2 ≤ 900000000
theorem HOk.mono {hs : Holes} {n n' : Nat} (h : HOk hs n) (hn : n ≤ n') : HOk hs n' := ⟨h.1, fun e he => ⟨by have := (h.2 e he).1; omega, (h.2 e he).2⟩⟩
theorem HOk.snoc {hs : Holes} {n n' : Nat} {e : Nat × Nat} (h : HOk hs n) (h1 : n ≤ e.1) (h2 : e.1 + 2 ≤ n') (h3 : e.2 ≤ 900000000) : HOk (hs ++ [e]) n' := by
  refine ⟨List.pairwise_append.mpr ⟨h.1, by simp, fun a ha b hb => ?_⟩, fun a ha => ?_⟩
  · simp only [List.mem_singleton] at hb; subst hb
    have := (h.2 a ha).1; omega
  · rcases List.mem_append.mp ha with ha | ha
    · exact ⟨by have := (h.2 a ha).1; omega, (h.2 a ha).2⟩
    · simp only [List.mem_singleton] at ha; subst ha; exact ⟨h2, h3⟩
theorem HOk.apart {hs : Holes} {n : Nat} (h : HOk hs n) : hs.Pairwise Apart := h.1.imp fun h => .inl h
theorem HOk.nodup {hs : Holes} {n : Nat} (h : HOk hs n) : (hs.map (·.1)).Nodup := by
  rw [List.nodup_iff_pairwise_ne, List.pairwise_map]
  exact h.1.imp fun h => by omega

/-! As a map. -/
def natK (n : Nat) : PV := .int .i64 (n : Nat)
theorem nat_rep : KeyRep natK := fun a b => by
  unfold natK
  rw [keyB_int, decide_eq_decide]
  omega
def holesV (hs : Holes) : List (PV × PV) := mapV natK natK hs
theorem holes_keys (hs : Holes) (a : Nat) (b : Bool) (c : Nat) (d : PV) (e : Option (List Tag)) : keysB ⟨.int .i64, a, b, c, d, e⟩ (holesV hs) = true := keys_map fun _ _ => rfl
theorem putA_new {K X : Type} [DecidableEq K] {k : K} {x : X} : ∀ {l : List (K × X)}, k ∉ l.map (·.1) → putA k x l = l ++ [(k, x)]
  | [], _ => rfl
  | e :: l, h => by
    rw [List.map_cons, List.mem_cons, not_or] at h
    rw [putA, if_neg h.1, putA_new h.2]; rfl
theorem holes_put {hs : Holes} {n at0 k : Nat} (h : HOk hs n) (hn : n ≤ at0) : putM (.int .i64 (at0 : Nat)) (.int .i64 (k : Nat)) (holesV hs) = holesV (hs ++ [(at0, k)]) := by
  have := put_map (vf := natK) nat_rep at0 k hs
  rw [putA_new fun hm => by
    obtain ⟨e, he, h1⟩ := List.mem_map.mp hm
    have := (h.2 e he).1; omega] at this
  exact this

/-! Where the writer lies. -/
structure WI (H : Heap) (cm : List PV) (Ha : Heap) (bv mv : PV) (B : List UInt8) (es : Names) (oh : OB) : Prop where
  wat : WAt Ha (H.length + 1) bv mv B es
  new : ∀ j ∈ bufI bv ++ mapI mv, H.length + 3 ≤ j
  old : ∀ j, j < H.length → Ha[j]? = H[j]?
  box : Ha[H.length]? = some (some (.cells 0 cm))
  hol : Ha[H.length + 2]? = some (some oh)
section
variable {H Ha H' : Heap} {cm : List PV} {bv mv bv' mv' : PV} {B B' : List UInt8} {es es' : Names} {oh oh' : OB}
theorem WI.len (h : WI H cm Ha bv mv B es oh) : H.length + 3 ≤ Ha.length := lt_of_get h.hol
theorem WI.app {L : Heap} (h : WI H cm Ha bv mv B es oh) : WI H cm (Ha ++ L) bv mv B es oh := by
  have hl := h.len
  exact ⟨h.wat.app, h.new, fun j hj => by rw [List.getElem?_append_left (by omega)]; exact h.old j hj, by rw [List.getElem?_append_left (by omega)]; exact h.box, by rw [List.getElem?_append_left (by omega)]; exact h.hol⟩
theorem WI.step (h : WI H cm Ha bv mv B es oh) (hW : WAt H' (H.length + 1) bv' mv' B' es') (hS : WStep Ha (H.length + 1) bv mv H' bv' mv') : WI H cm H' bv' mv' B' es' oh := by
  have hl := h.len
  have hn : ∀ j, j < H.length + 3 → j ≠ H.length + 1 → H'[j]? = Ha[j]? := fun j hj hne => hS.1.2 j (by omega) fun hm => by
    rcases List.mem_cons.mp hm with e | hm
    · exact hne e
    · have := h.new j hm; omega
  exact ⟨hW, fun j hj => (hS.2 j hj).elim (h.new j) fun h => by omega, fun j hj => by rw [hn j (by omega) (by omega)]; exact h.old j hj, by rw [hn _ (by omega) (by omega)]; exact h.box, by rw [hn _ (by omega) (by omega)]; exact h.hol⟩
theorem WI.set (h : WI H cm Ha bv mv B es oh) : WI H cm (Ha.set (H.length + 2) (some oh')) bv mv B es oh' := by
  have hl := h.len
  have k : Keeps [H.length + 2] Ha (Ha.set (H.length + 2) (some oh')) := Keeps.setF (by simp)
  refine ⟨⟨k.get h.wat.own (by simp), h.wat.buf.keep k fun j hj hm => ?_, h.wat.nb, ?_, h.wat.far⟩, h.new, fun j hj => by rw [List.getElem?_set_ne (by omega)]; exact h.old j hj, by rw [List.getElem?_set_ne (by omega)]; exact h.box, List.getElem?_set_self (by omega)⟩
  · simp only [List.mem_singleton] at hm
    have := h.new j (List.mem_append_left _ hj); omega
  · rcases h.wat.map with h1 | ⟨iM, h1, h2⟩
    · exact .inl h1
    · refine .inr ⟨iM, h1, k.get h2 fun hm => ?_⟩
      simp only [List.mem_singleton] at hm
      have := h.new iM (by rw [h1]; simp [mapI]); omega
theorem WI.keeps (h : WI H cm Ha bv mv B es oh) : Keeps [] H Ha := ⟨by have := h.len; omega, fun j hj _ => h.old j hj⟩
theorem WI.tab (h : WI H cm Ha bv mv B es oh) (hG : GTab H) : GTab Ha := hG.keep h.keeps (by simp)
theorem split_of (h : Keeps [] H Ha) : ∃ L, Ha = H ++ L := ⟨Ha.drop H.length, by
  apply List.ext_getElem?
  intro j
  rcases Nat.lt_or_ge j H.length with hj | hj
  · rw [List.getElem?_append_left hj]; exact h.2 j hj (by simp)
  · rw [List.getElem?_append_right hj, List.getElem?_drop]; congr 1; omega⟩
/-- What was made behind a writer stays. -/
theorem WI.made (h : WI H cm Ha bv mv B es oh) {x : Option OB} {L : Heap} (hS : WStep (Ha ++ x :: L) (H.length + 1) bv mv H' bv' mv') : H'[Ha.length]? = some x := by
  have hl := h.len
  have hlt := (bufI_lt h.wat).2
  rw [hS.1.2 _ (by simp) fun hm => ?_]
  · simp
  · rcases List.mem_cons.mp hm with e | hm
    · omega
    · have := hlt _ hm; omega
end

/-! How long it is. -/
theorem queP_len (q : Qu) (s : List UInt8 × Names) : (queP q s).1.length ≤ s.1.length + 2 * q.name.length + 6 := by
  have := wrN_len _ q.name s.1 s.2 rfl
  simp only [queP, List.length_append, twos_len, List.length_cons, List.length_nil]
  omega
end Go.Proofs.GoC
