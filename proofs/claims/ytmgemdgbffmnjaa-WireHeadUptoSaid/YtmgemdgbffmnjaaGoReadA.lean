/-
  What the functions compute: a reader's steps through bytes. No claim by itself.
-/
import Derived.Test.YtmgemdgbffmnjaaGoWireA
import Derived.Test.YtmgemdgbffmnjaaGoLabA
namespace Go.Proofs.GoC
open Go Go.Proofs.SL
set_option linter.unusedSimpArgs false
set_option linter.unusedVariables false
set_option maxRecDepth 10000
set_option maxHeartbeats 4000000

/-- Where a reader stands, and its first error. -/
abbrev RSt := Nat × Nat
def rdC (B : List UInt8) (s : RSt) : List PV := [.sl 1 (bys B), .int .i64 (s.1 : Nat), .int .i64 (s.2 : Nat)]
def rdO (B : List UInt8) (s : RSt) : Option OB := some (.cells 0 (rdC B s))
def failS (k : Nat) (s : RSt) : RSt := if s.2 = 0 then (s.1, k) else s
def rawS (B : List UInt8) (n : Nat) (s : RSt) : List UInt8 × RSt :=
  if s.2 ≠ 0 ∨ B.length - s.1 < n then (List.replicate n 0, failS 2 s) else ((B.drop s.1).take n, (s.1 + n, 0))
def beN (l : List UInt8) : Nat := l.foldl (fun v c => v * 256 + c.toNat) 0
def numS (B : List UInt8) (n : Nat) (s : RSt) : Nat × RSt := (beN (rawS B n s).1, (rawS B n s).2)
def nameS (B : List UInt8) (s : RSt) : List UInt8 × RSt :=
  if s.2 ≠ 0 then ([], s) else match rdF B s.1 s.1 0 [] with
    | .ok l n => (joinL [46] l, (n, 0))
    | .form => ([], (s.1, 2))
    | .long => ([], (s.1, 3))

theorem set_same {H : Heap} {i : Nat} {x : Option OB} (h : H[i]? = some x) : H.set i x = H := by
  apply List.ext_getElem?
  intro j
  by_cases e : i = j
  · subst e; rw [List.getElem?_set_self (lt_of_get h), h]
  · rw [List.getElem?_set_ne e]
theorem failS_at (k : Nat) (s : RSt) : (failS k s).1 = s.1 := by unfold failS; split <;> rfl
theorem rawS_len {B : List UInt8} {n : Nat} {s : RSt} (h : s.1 ≤ B.length) : (rawS B n s).1.length = n := by
  unfold rawS
  split
  · exact List.length_replicate ..
  · rename_i h1
    rw [List.length_take, List.length_drop]; omega
theorem rawS_at {B : List UInt8} {n : Nat} {s : RSt} (h : s.1 ≤ B.length) : (rawS B n s).2.1 ≤ B.length ∧ s.1 ≤ (rawS B n s).2.1 := by
  unfold rawS
  split
  · rw [failS_at]; exact ⟨h, Nat.le_refl _⟩
  · rename_i h1
    exact ⟨by show s.1 + n ≤ B.length; omega, by show s.1 ≤ s.1 + n; omega⟩
theorem rawS_e {B : List UInt8} {n : Nat} {s : RSt} (h : s.2 ≤ 3) : (rawS B n s).2.2 ≤ 3 := by
  unfold rawS failS
  split
  · split
    · show 2 ≤ 3; omega
    · exact h
  · show 0 ≤ 3; omega
theorem beN_lt (l : List UInt8) : beN l < 256 ^ l.length := by
  unfold beN
  suffices h : ∀ (l : List UInt8) (v k : Nat), v < 256 ^ k → l.foldl (fun v c => v * 256 + c.toNat) v < 256 ^ (k + l.length) by
    have := h l 0 0 (by decide); rwa [Nat.zero_add] at this
  intro l
  induction l with
  | nil => intro v k h; exact h
  | cons a l ih =>
    intro v k h
    rw [List.foldl_cons, List.length_cons, show k + (l.length + 1) = (k + 1) + l.length by omega]
    refine ih _ _ ?_
    have := a.toNat_lt
    rw [Nat.pow_succ]; omega
theorem beN_take {l : List UInt8} {k : Nat} (h : k < l.length) : beN (l.take (k + 1)) = beN (l.take k) * 256 + (l.getD k 0).toNat := by
  unfold beN
  rw [List.take_add_one, List.foldl_append]
  simp [List.getD_eq_getElem?_getD, h]
theorem or8n (a b : Nat) (ha : a < 1099511627776) (hb : b < 256) : bitOp .or .i64 ((a * 256 : Nat) : Int) (b : Int) = ((a * 256 + b : Nat) : Int) := or_add (a := a) (b := b) (s := 8) (by omega) (by omega)

theorem numS_at {B : List UInt8} {n : Nat} {s : RSt} (h : s.1 ≤ B.length) : (numS B n s).2.1 ≤ B.length := (rawS_at h).1
theorem numS_lt {B : List UInt8} {n : Nat} {s : RSt} (h : s.1 ≤ B.length) : (numS B n s).1 < 256 ^ n := by
  have := beN_lt (rawS B n s).1
  rwa [rawS_len h] at this
theorem nameS_at {B : List UInt8} {s : RSt} (h : s.1 ≤ B.length) : (nameS B s).2.1 ≤ B.length := by
  unfold nameS
  split
  · exact h
  · split
    · rename_i l n hr
      obtain ⟨_, _, h1, _⟩ := rdF_ok B _ _ _ _ _ _ rfl rfl (by simp) (by simp [sumL]) hr
      exact (h1 rfl).2
    · exact h
    · exact h

theorem c_wire_reader_fail {H : Heap} {i : Nat} {B : List UInt8} {s : RSt} (k : Nat) (hi : H[i]? = some (rdO B s)) :
    SCall Try.prog 59 [.ptr i 0 0, .int .i64 (k : Nat)] H fun _ H' => H' = H.set i (rdO B (failS k s)) := by
  have o1 := obj_of hi
  have l1 := lt_of_get hi
  obtain ⟨a, e⟩ := s
  unfold failS
  refine scall_of (ord := fun _ => []) (rs := []) Try.func59 rfl (by kernel_rfl) (by kernel_rfl) (by kernel_rfl) Try.ntmps59 fun hb hargs => go 200 (fun _ => false) mixed ?_
  by_cases h0 : e = 0
  · subst h0
    simp (disch := omega) only [↓reduceIte, go_sem, o1, rdC] <;> repeat with_reducible refine And.intro (by first | omega | decide) ?_
    exact SL.Ends.same (.inl rfl) rfl
  · rw [if_neg h0, set_same hi]
    simp (disch := omega) only [↓reduceIte, go_sem, o1, rdC, h0] <;> repeat with_reducible refine And.intro (by first | omega | decide) ?_
    exact SL.Ends.same (.inl rfl) rfl

theorem c_wire_reader_raw {H : Heap} {i : Nat} {B : List UInt8} {s : RSt} (n : Nat) (hn : n ≤ 65535) (hi : H[i]? = some (rdO B s)) (hat : s.1 ≤ B.length) (hB : B.length < 1100000) :
    SCall Try.prog 77 [.ptr i 0 0, .int .i64 (n : Nat)] H fun r H' => r = .sl 1 (bys (rawS B n s).1) ∧ H' = H.set i (rdO B (rawS B n s).2) := by
  have o1 := obj_of hi
  have l1 := lt_of_get hi
  have hF : SCall Try.prog 59 [.ptr i 0 0, .int .i64 2] H fun _ H' => H' = H.set i (rdO B (failS 2 s)) := c_wire_reader_fail 2 hi
  obtain ⟨a, e⟩ := s
  change a ≤ B.length at hat
  unfold rawS
  have hm : (n ≤ 70368744177664) = True := eq_true (by omega)
  have hz : List.replicate n (PV.int .u8 0) = bys (List.replicate n 0) := by simp [bys]
  refine scall_of (ord := fun _ => []) (rs := [4]) Try.func77 rfl (by kernel_rfl) (by kernel_rfl) (by kernel_rfl) Try.ntmps77 fun hb hargs => go 200 (fun _ => false) mixed ?_
  by_cases h0 : e = 0
  · subst h0
    by_cases h1 : B.length - a < n
    · rw [if_pos (.inr h1)]
      simp (disch := omega) only [↓reduceIte, go_sem, o1, rdC, h1] <;> repeat with_reducible refine And.intro (by first | omega | decide) ?_
      refine hF.mono fun r H' e1 => ?_
      subst e1
      refine go 200 (fun _ => false) mixed ?_
      simp (disch := omega) only [↓reduceIte, go_sem, most, hz, hm] <;> repeat with_reducible refine And.intro (by first | omega | decide) ?_
      exact SL.Ends.same (.inr rfl) ⟨rfl, rfl⟩
    · rw [if_neg (fun h => h.elim (fun h => h rfl) h1)]
      have e1 : (B.take (a + n)).drop a = (B.drop a).take n := by rw [List.drop_take, Nat.add_sub_cancel_left]
      simp (disch := omega) only [↓reduceIte, go_sem, o1, rdC, h1, bys_take, bys_drop, e1] <;> repeat with_reducible refine And.intro (by first | omega | decide) ?_
      exact SL.Ends.same (.inr rfl) ⟨rfl, rfl⟩
  · rw [if_pos (.inl h0)]
    simp (disch := omega) only [↓reduceIte, go_sem, o1, rdC, h0] <;> repeat with_reducible refine And.intro (by first | omega | decide) ?_
    refine hF.mono fun r H' e1 => ?_
    subst e1
    refine go 200 (fun _ => false) mixed ?_
    simp (disch := omega) only [↓reduceIte, go_sem, most, hz, hm] <;> repeat with_reducible refine And.intro (by first | omega | decide) ?_
    exact SL.Ends.same (.inr rfl) ⟨rfl, rfl⟩

theorem c_wire_reader_number {H : Heap} {i : Nat} {B : List UInt8} {s : RSt} (n : Nat) (hn : n ≤ 4) (hi : H[i]? = some (rdO B s)) (hat : s.1 ≤ B.length) (hB : B.length < 1100000) :
    SCall Try.prog 56 [.ptr i 0 0, .int .i64 (n : Nat)] H fun r H' => r = .int .i64 (numS B n s).1 ∧ H' = H.set i (rdO B (numS B n s).2) := by
  have hR := c_wire_reader_raw n (by omega) hi hat hB
  have hlen := rawS_len (B := B) (n := n) hat
  unfold numS
  generalize rawS B n s = R at *
  obtain ⟨l, s'⟩ := R
  change l.length = n at hlen
  show SCall _ _ _ H fun r H' => r = .int .i64 (beN l) ∧ H' = H.set i (rdO B s')
  change SCall _ _ _ H fun r H' => r = .sl 1 (bys l) ∧ H' = H.set i (rdO B s') at hR
  refine scall_of (ord := fun _ => []) (rs := [4]) Try.func56 rfl (by kernel_rfl) (by kernel_rfl) (by kernel_rfl) Try.ntmps56 fun hb hargs => go 200 (fun _ => false) mixed ?_
  simp (disch := omega) only [↓reduceIte, go_sem] <;> repeat with_reducible refine And.intro (by first | omega | decide) ?_
  refine hR.mono fun r H' ⟨e1, e2⟩ => ?_
  rw [e1, e2]
  refine go 200 (fun _ => false) mixed ?_
  simp (disch := omega) only [↓reduceIte, go_sem] <;> repeat with_reducible refine And.intro (by first | omega | decide) ?_
  refine runs_loopA (fun k : Nat => k ≤ l.length) (fun k => l.length - k) [true, true, false, false, false, true, false, false, false, false, true, true, true]
    (fun k => slots 23 [.ptr i 0 0, .int .i64 (n : Nat), .any, .any, .any, .int .i64 (beN (l.take k) : Nat), .any, .any, .any, .any, .sl 1 (bys l), .int .i64 l.length, .int .i64 k]) (fun k => H.set i (rdO B s')) (by rfl) 0 (Nat.zero_le _) rfl rfl ?_
  intro k hk
  change k ≤ l.length at hk
  refine go 200 (fun _ => false) mixed ?_
  by_cases hlt : k < l.length
  · have g : (bys l).getD k .any = .int .u8 ((l.getD k 0).toNat : Nat) := bys_getD hlt
    have hb := (l.getD k 0).toNat_lt
    have e3 := beN_take hlt
    have hv := beN_lt (l.take k)
    have hk3 : (l.take k).length ≤ 3 := by rw [List.length_take]; omega
    have hv : beN (l.take k) < 16777216 := Nat.lt_of_lt_of_le hv (Nat.le_trans (Nat.pow_le_pow_right (by omega) hk3) (by decide))
    have ho := or8n (beN (l.take k)) (l.getD k 0).toNat (by omega) hb
    generalize (l.getD k 0).toNat = c at *
    generalize hv2 : beN (l.take k) = v at *
    simp (disch := omega) only [↓reduceIte, go_sem, hlt, g, ho] <;> repeat with_reducible refine And.intro (by first | omega | decide) ?_
    refine rnd_next (k + 1) hlt (by show l.length - (k + 1) < l.length - k; omega) ?_ rfl
    rw [e3]
    rfl
  · have hk2 : k = l.length := by omega
    subst hk2
    simp (disch := omega) only [↓reduceIte, go_sem, hlt] <;> repeat with_reducible refine And.intro (by first | omega | decide) ?_
    refine go 200 (fun _ => false) mixed ?_
    simp (disch := omega) only [↓reduceIte, go_sem] <;> repeat with_reducible refine And.intro (by first | omega | decide) ?_
    exact SL.Ends.same (.inr rfl) ⟨by rw [List.take_length]; rfl, rfl⟩

def ordNm : Nat → List Nat
  | 3 => [0, 1, 2, 3, 4, 5, 6, 7, 8, 9, 10, 11, 12, 13, 14, 15]
  | _ => []
theorem ordNm_3 : ordNm 3 = [0, 1, 2, 3, 4, 5, 6, 7, 8, 9, 10, 11, 12, 13, 14, 15] := rfl
theorem c_wire_reader_name {H : Heap} {i : Nat} {B : List UInt8} {s : RSt} (hi : H[i]? = some (rdO B s)) (hat : s.1 ≤ B.length) (hB : B.length < 1100000) :
    SCall Try.prog 57 [.ptr i 0 0] H fun r H' => r = .str (bs (nameS B s).1) ∧ H' = H.set i (rdO B (nameS B s).2) := by
  have o1 := obj_of hi
  have l1 := lt_of_get hi
  have hF2 : SCall Try.prog 59 [.ptr i 0 0, .int .i64 2] H fun _ H' => H' = H.set i (rdO B (failS 2 s)) := c_wire_reader_fail 2 hi
  have hF3 : SCall Try.prog 59 [.ptr i 0 0, .int .i64 3] H fun _ H' => H' = H.set i (rdO B (failS 3 s)) := c_wire_reader_fail 3 hi
  obtain ⟨a, e⟩ := s
  change a ≤ B.length at hat
  have hL := c_label_Read B a hat hB
  unfold nameS
  refine scall_of (ord := ordNm) (rs := [2]) Try.func57 rfl (by kernel_rfl) (by kernel_rfl) (by kernel_rfl) Try.ntmps57 fun hb hargs => go 200 (fun _ => false) mixed ?_
  by_cases h0 : e = 0
  · subst h0
    rw [if_neg (by simp)]
    simp (disch := omega) only [↓reduceIte, go_sem, o1, rdC, ordNm_3] <;> repeat with_reducible refine And.intro (by first | omega | decide) ?_
    refine hL.on (go 200 (fun _ => false) mixed ?_)
    cases hR : rdF B a a 0 [] with
    | ok l n =>
      simp (disch := omega) only [↓reduceIte, go_sem, rdV, o1, rdC] <;> repeat with_reducible refine And.intro (by first | omega | decide) ?_
      exact SL.Ends.same (.inr rfl) ⟨rfl, rfl⟩
    | form =>
      simp (disch := omega) only [↓reduceIte, go_sem, rdV] <;> repeat with_reducible refine And.intro (by first | omega | decide) ?_
      refine hF2.mono fun r H' e1 => ?_
      subst e1
      refine go 200 (fun _ => false) mixed ?_
      simp (disch := omega) only [↓reduceIte, go_sem] <;> repeat with_reducible refine And.intro (by first | omega | decide) ?_
      exact SL.Ends.same (.inr rfl) ⟨rfl, rfl⟩
    | long =>
      simp (disch := omega) only [↓reduceIte, go_sem, rdV] <;> repeat with_reducible refine And.intro (by first | omega | decide) ?_
      refine hF3.mono fun r H' e1 => ?_
      subst e1
      refine go 200 (fun _ => false) mixed ?_
      simp (disch := omega) only [↓reduceIte, go_sem] <;> repeat with_reducible refine And.intro (by first | omega | decide) ?_
      exact SL.Ends.same (.inr rfl) ⟨rfl, rfl⟩
  · rw [if_pos h0, set_same hi]
    simp (disch := omega) only [↓reduceIte, go_sem, o1, rdC, h0] <;> repeat with_reducible refine And.intro (by first | omega | decide) ?_
    exact SL.Ends.same (.inr rfl) ⟨rfl, rfl⟩
end Go.Proofs.GoC
