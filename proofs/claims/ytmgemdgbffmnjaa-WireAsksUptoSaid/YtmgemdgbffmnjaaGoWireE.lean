/-
  What the functions compute: bytes out of an object, behind what was written; a record's data. No claim by itself.
-/
import Derived.Test.YtmgemdgbffmnjaaGoWireD
namespace Go.Proofs.GoC
open Go Go.Proofs.SL
set_option linter.unusedSimpArgs false
set_option linter.unusedVariables false
set_option maxRecDepth 10000
set_option maxHeartbeats 4000000

theorem chunk_all {n : Nat} {b : List UInt8} {L : List PV} (h : L.take n = bys b) (hn : b.length = n) : chunk 1 false n (L.take n) = bys b := by
  rw [h]
  have := chunk_one (bys b)
  rwa [bys_len, hn] at this

theorem raw_buf {H : Heap} {i : Nat} {bv mv : PV} {B : List UInt8} {es : Names} (h : WAt H i bv mv B es) {j vj off n : Nat} {tip : Bool} {cs : List PV} (b : List UInt8) (hj : H[j]? = some (some (.cells vj cs)))
    (hc : (cs.drop off).take n = bys b) (hbn : b.length = n) (hlen : off + n ≤ cs.length) (hji : j ≠ i) (hl : B.length + n ≤ 1000000000) (hne : B ++ b ≠ []) :
    SCall Try.prog 63 [.ptr i 0 0, .buf j vj off n 1 tip] H fun _ H' => ∃ bv', WAt H' i bv' mv (B ++ b) es ∧ WStep H i bv mv H' bv' mv := by
  obtain ⟨hi, hb0, hnb, hm, hf⟩ := h
  have o1 := obj_of hi
  have l1 := lt_of_get hi
  have oj := obj_of hj
  have hck := chunk_all hc hbn
  have hmap : ∀ {H' : Heap} {F : List Nat}, Keeps F H H' → (∀ j ∈ F, ∀ es, H[j]? ≠ some (some (.map es))) → (mv = .nilm ∧ es = []) ∨ ∃ iM, mv = .mp iM ∧ H'[iM]? = some (some (.map (namesV es))) := fun k hF => by
    rcases hm with h | ⟨iM, h1, h2⟩
    · exact .inl h
    · exact .inr ⟨iM, h1, k.get h2 fun hj => hF iM hj _ h2⟩
  refine scall_of (ord := fun _ => []) (rs := []) Try.func63 rfl (by kernel_rfl) (by kernel_rfl) (by kernel_rfl) Try.ntmps63 fun hb hargs => go 200 (fun t => t == 10) mixed ?_
  rcases hb0 with ⟨rfl, rfl⟩ | ⟨iB, vB, rfl, hB, hBn⟩
  · simp (disch := omega) only [↓reduceIte, go_sem, o1, oj, hck, hbn, most] <;> repeat with_reducible refine And.intro (by first | omega | decide) ?_
    refine SL.Ends.same (.inl rfl) ⟨.buf H.length 0 0 b.length 1 true, ⟨?_, .inr ⟨H.length, 0, by simp, ?_, hne⟩, ?_, ?_, hf⟩, ?_, ?_⟩
    · rw [List.getElem?_append_left (by simpa using l1), List.getElem?_set_self l1, hbn]
    · rw [get_tail0s]; simp
    · simp [bufI]; omega
    · refine hmap (F := [i]) ((Keeps.setF (by simp)).trans Keeps.app) fun j hj es he => ?_
      simp only [List.mem_singleton] at hj; subst hj; rw [hi] at he; cases he
    · exact (Keeps.setF (by simp)).trans Keeps.app
    · intro j hj
      rcases List.mem_append.mp hj with h | h
      · simp only [bufI, List.mem_singleton] at h; right; omega
      · exact .inl (List.mem_append_right _ h)
  · have o2 := obj_of hB
    have l2 := lt_of_get hB
    have hne1 : i ≠ iB := by simpa [bufI] using hnb
    have hne2 := Ne.symm hne1
    simp (disch := omega) only [↓reduceIte, go_sem, o1, o2, oj, hck, hbn, most, bys_app] <;> repeat with_reducible refine And.intro (by first | omega | decide) ?_
    refine SL.Ends.same (.inl rfl) ⟨.buf iB (vB + 1) 0 (B.length + b.length) 1 true, ⟨?_, .inr ⟨iB, vB + 1, by rw [List.length_append], ?_, hne⟩, hnb, ?_, hf⟩, ?_, ?_⟩
    · rw [List.getElem?_set_self (by simpa using l1), hbn]
    · rw [List.getElem?_set_ne hne1, List.getElem?_set_self l2]
    · refine hmap (F := [i, iB]) ((Keeps.setF (by simp)).trans (Keeps.setF (by simp))) fun j hj es he => ?_
      simp only [List.mem_cons, List.not_mem_nil, or_false] at hj
      rcases hj with rfl | rfl
      · rw [hi] at he; cases he
      · rw [hB] at he; cases he
    · exact (Keeps.setF (by simp [bufI])).trans (Keeps.setF (by simp))
    · intro j hj
      exact .inl hj

def b8 (l : List Nat) : List UInt8 := l.map UInt8.ofNat
theorem b8_len (l : List Nat) : (b8 l).length = l.length := List.length_map ..
theorem bys_b8 {l : List Nat} (h : ∀ b ∈ l, b ≤ 255) : u8s l = bys (b8 l) := by
  unfold u8s bys b8
  rw [List.map_map]
  refine List.map_congr_left fun n hn => ?_
  have := h n hn
  simp only [Function.comp_apply, UInt8.toNat_ofNat']
  rw [Nat.mod_eq_of_lt (by omega)]

/-- A record's data, ahead of which stands how long they are. -/
def datR (r : Rc) : List UInt8 := if r.ty = 1 then two2 4 ++ b8 (r.ab.take 4) else if r.ty = 28 then two2 16 ++ b8 r.ab else two2 r.dat.length ++ r.dat

theorem rc_drop {r : Rc} (hab : r.ab.length = 16) {n : Nat} (hn : n ≤ 16) : ((rcC r).drop 5).take n = u8s (r.ab.take n) := by
  show (u8s r.ab ++ [PV.str (bs r.tgt), PV.str (bs r.dat)]).take n = _
  rw [List.take_append_of_le_length (by rw [u8s_len]; omega)]
  simp [u8s, List.map_take]

theorem bufI_lt {H : Heap} {i : Nat} {bv mv : PV} {B : List UInt8} {es : Names} (h : WAt H i bv mv B es) : i < H.length ∧ ∀ j ∈ bufI bv ++ mapI mv, j < H.length := by
  refine ⟨lt_of_get h.own, fun j hj => ?_⟩
  rcases List.mem_append.mp hj with hj | hj
  · rcases h.buf with ⟨h1, _⟩ | ⟨iB, vB, h1, h2, _⟩
    · rw [h1] at hj; cases hj
    · rw [h1] at hj; simp only [bufI, List.mem_singleton] at hj; subst hj; exact lt_of_get h2
  · rcases h.map with ⟨h1, _⟩ | ⟨iM, h1, h2⟩
    · rw [h1] at hj; cases hj
    · rw [h1] at hj; simp only [mapI, List.mem_singleton] at hj; subst hj; exact lt_of_get h2

theorem c_wire_data {H : Heap} {i : Nat} {bv mv : PV} {B : List UInt8} {es : Names} (h : WAt H i bv mv B es) (r : Rc) (hr : RcOk r) (hB : B.length ≤ 800000000) :
    SCall Try.prog 33 [.ptr i 0 0, rcV r] H fun _ H' => ∃ bv', WAt H' i bv' mv (B ++ datR r) es ∧ WStep H i bv mv H' bv' mv := by
  obtain ⟨_, _, _, _, hab, hle, hn, ht, hd⟩ := hr
  have h0 : WAt (H ++ [some (.cells 0 (rcC r))]) i bv mv B es := h.app
  have li := (bufI_lt h).1
  have lj := (bufI_lt h).2
  have hone : (rcC r).all PV.one = true := by simp [rcC, u8s_one, PV.one]
  have hlen := rcC_len hab
  have g1 : (rcC r).getD 1 .any = .int .i64 r.ty := rfl
  have g22 : (rcC r).getD 22 .any = .str (bs r.dat) := by
    show (u8s r.ab ++ [PV.str (bs r.tgt), PV.str (bs r.dat)]).getD 17 .any = _
    exact u8s_at (k := 1) hab
  have hbox : ∀ {H1 : Heap} {bv1 : PV}, WStep (H ++ [some (.cells 0 (rcC r))]) i bv mv H1 bv1 mv → H1[H.length]? = some (some (.cells 0 (rcC r))) := fun hS => by
    refine hS.1.get (by rw [get_tail0]; rfl) fun hm => ?_
    rcases List.mem_cons.mp hm with e | hm
    · omega
    · have := lj _ hm; omega
  unfold datR
  refine scall_of (ord := fun _ => []) (rs := []) Try.func33 rfl (by kernel_rfl) (by kernel_rfl) (by kernel_rfl) Try.ntmps33 fun hb hargs => go 200 (fun _ => false) mixed ?_
  by_cases h1 : r.ty = 1
  · rw [if_pos h1]
    have hS := c_wire_short h0 [4] (by decide) (by simp) (by omega)
    rw [show nums [4] = [PV.int .i64 4] from rfl] at hS
    simp (disch := omega) only [↓reduceIte, go_sem, rcV, hone, hlen, g1, h1] <;> repeat with_reducible refine And.intro (by first | omega | decide) ?_
    refine hS.mono fun rr H1 ⟨bv1, hW1, hS1⟩ => ?_
    have o1 := obj_of (hbox hS1)
    refine go 200 (fun _ => false) mixed ?_
    simp (disch := omega) only [↓reduceIte, go_sem, rcV, hone, hlen, o1] <;> repeat with_reducible refine And.intro (by first | omega | decide) ?_
    have hb4 : ((rcC r).drop 5).take 4 = bys (b8 (r.ab.take 4)) := by rw [rc_drop hab (by decide), bys_b8 fun b hb => hle b (List.mem_of_mem_take hb)]
    refine (raw_buf hW1 (b8 (r.ab.take 4)) (hbox hS1) hb4 (by rw [b8_len, List.length_take]; omega) (by rw [hlen]; decide) (by omega) (by simp [twos, two2]; omega) (by simp [twos, two2])).mono fun rr2 H2 ⟨bv2, hW2, hS2⟩ => ?_
    refine go 200 (fun _ => false) mixed ?_
    simp (disch := omega) only [↓reduceIte, go_sem] <;> repeat with_reducible refine And.intro (by first | omega | decide) ?_
    refine SL.Ends.same (.inl rfl) ⟨bv2, ?_, (hS1.trans hS2).app⟩
    rw [List.append_assoc] at hW2
    exact hW2
  · rw [if_neg h1]
    by_cases h28 : r.ty = 28
    · rw [if_pos h28]
      have hS := c_wire_short h0 [16] (by decide) (by simp) (by omega)
      rw [show nums [16] = [PV.int .i64 16] from rfl] at hS
      have h28t : (r.ty = 28) = True := eq_true h28
      simp (disch := omega) only [↓reduceIte, go_sem, rcV, hone, hlen, g1, h1, h28t] <;> repeat with_reducible refine And.intro (by first | omega | decide) ?_
      refine hS.mono fun rr H1 ⟨bv1, hW1, hS1⟩ => ?_
      have o1 := obj_of (hbox hS1)
      refine go 200 (fun _ => false) mixed ?_
      simp (disch := omega) only [↓reduceIte, go_sem, rcV, hone, hlen, o1] <;> repeat with_reducible refine And.intro (by first | omega | decide) ?_
      have hb4 : ((rcC r).drop 5).take 16 = bys (b8 r.ab) := by rw [rc_drop hab (by decide), List.take_of_length_le (by omega), bys_b8 hle]
      refine (raw_buf hW1 (b8 r.ab) (hbox hS1) hb4 (by rw [b8_len]; omega) (by rw [hlen]; decide) (by omega) (by simp [twos, two2]; omega) (by simp [twos, two2])).mono fun rr2 H2 ⟨bv2, hW2, hS2⟩ => ?_
      refine go 200 (fun _ => false) mixed ?_
      simp (disch := omega) only [↓reduceIte, go_sem] <;> repeat with_reducible refine And.intro (by first | omega | decide) ?_
      refine SL.Ends.same (.inl rfl) ⟨bv2, ?_, (hS1.trans hS2).app⟩
      rw [List.append_assoc] at hW2
      exact hW2
    · rw [if_neg h28]
      have hS := c_wire_short h0 [r.dat.length] (by simp) (by simp; omega) (by omega)
      rw [show nums [r.dat.length] = [PV.int .i64 (r.dat.length : Nat)] from rfl] at hS
      simp (disch := omega) only [↓reduceIte, go_sem, rcV, hone, hlen, g1, g22, h1, h28] <;> repeat with_reducible refine And.intro (by first | omega | decide) ?_
      refine hS.mono fun rr H1 ⟨bv1, hW1, hS1⟩ => ?_
      have o1 := obj_of (hbox hS1)
      refine go 200 (fun _ => false) mixed ?_
      simp (disch := omega) only [↓reduceIte, go_sem, rcV, hone, hlen, o1, g22] <;> repeat with_reducible refine And.intro (by first | omega | decide) ?_
      refine (c_label_Writer_Raw hW1 r.dat (by simp [twos, two2]; omega) (by simp [twos, two2])).mono fun rr2 H2 ⟨bv2, hW2, hS2⟩ => ?_
      refine go 200 (fun _ => false) mixed ?_
      simp (disch := omega) only [↓reduceIte, go_sem] <;> repeat with_reducible refine And.intro (by first | omega | decide) ?_
      refine SL.Ends.same (.inl rfl) ⟨bv2, ?_, (hS1.trans hS2).app⟩
      rw [List.append_assoc] at hW2
      exact hW2
end Go.Proofs.GoC
