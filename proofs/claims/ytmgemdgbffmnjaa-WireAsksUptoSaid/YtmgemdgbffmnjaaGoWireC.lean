/-
  What the functions compute: numbers of two bytes, a record's data, behind what was written. No claim by itself.
-/
import Derived.Test.YtmgemdgbffmnjaaGoWireA
import Derived.Test.YtmgemdgbffmnjaaGoAddrS
namespace Go.Proofs.GoC
open Go Go.Proofs.SL
set_option linter.unusedSimpArgs false
set_option linter.unusedVariables false
set_option maxRecDepth 10000
set_option maxHeartbeats 4000000

/-- A number's two bytes. -/
def two2 (n : Nat) : List UInt8 := [UInt8.ofNat (n / 256), UInt8.ofNat n]
def twos (l : List Nat) : List UInt8 := l.flatMap two2
theorem twos_len (l : List Nat) : (twos l).length = 2 * l.length := by
  induction l with
  | nil => rfl
  | cons a l ih => simp only [twos, List.flatMap_cons, List.length_append, two2, List.length_cons, List.length_nil] at ih ⊢; omega
theorem twos_take {l : List Nat} {k : Nat} (h : k < l.length) : twos (l.take (k + 1)) = twos (l.take k) ++ two2 (l.getD k 0) := by
  unfold twos
  rw [List.take_add_one, List.flatMap_append]
  simp [List.getD_eq_getElem?_getD, h]
theorem bys_two (n : Nat) : bys (two2 n) = [PV.int .u8 ((n / 256 % 256 : Nat) : Int), PV.int .u8 ((n % 256 : Nat) : Int)] := by simp [bys, two2]

theorem WAt.app {H L : Heap} {i : Nat} {bv mv : PV} {B : List UInt8} {es : Names} (h : WAt H i bv mv B es) : WAt (H ++ L) i bv mv B es := by
  have k : Keeps [] H (H ++ L) := Keeps.app
  refine ⟨k.get h.own (by simp), h.buf.keep k (by simp), h.nb, ?_, h.far⟩
  rcases h.map with h1 | ⟨iM, h1, h2⟩
  · exact .inl h1
  · exact .inr ⟨iM, h1, k.get h2 (by simp)⟩
theorem WStep.app {H L H' : Heap} {i : Nat} {bv mv bv' mv' : PV} (h : WStep (H ++ L) i bv mv H' bv' mv') : WStep H i bv mv H' bv' mv' := by
  have k : Keeps (i :: (bufI bv ++ mapI mv)) H (H ++ L) := Keeps.app
  refine ⟨k.trans h.1, fun j hj => ?_⟩
  rcases h.2 j hj with h1 | h1
  · exact .inl h1
  · right; rw [List.length_append] at h1; omega

structure SS where
  H : Heap
  bv : PV
  k : Nat

theorem c_wire_short {H : Heap} {i : Nat} {bv mv : PV} {B : List UInt8} {es : Names} (h : WAt H i bv mv B es) (l : List Nat) (hl : l.length < 1000) (hle : ∀ n ∈ l, n ≤ 9223372036854775807) (hB : B.length ≤ 900000000) :
    SCall Try.prog 29 [.ptr i 0 0, .sl 1 (nums l)] H fun _ H' => ∃ bv', WAt H' i bv' mv (B ++ twos l) es ∧ WStep H i bv mv H' bv' mv := by
  refine scall_of (ord := fun _ => []) (rs := []) Try.func29 rfl (by kernel_rfl) (by kernel_rfl) (by kernel_rfl) Try.ntmps29 fun hb hargs => go 200 (fun _ => false) mixed ?_
  simp (disch := omega) only [↓reduceIte, go_sem] <;> repeat with_reducible refine And.intro (by first | omega | decide) ?_
  refine runs_loopA (fun a : SS => a.k ≤ l.length ∧ WAt a.H i a.bv mv (B ++ twos (l.take a.k)) es ∧ WStep H i bv mv a.H a.bv mv) (fun a => l.length - a.k) [true, true, false, false, false, false, true, true, true]
    (fun a => slots 21 [.ptr i 0 0, .sl 1 (nums l), .any, .any, .any, .any, .sl 1 (nums l), .int .i64 l.length, .int .i64 a.k]) (fun a => a.H) (by rfl) ⟨H, bv, 0⟩ ⟨Nat.zero_le _, by simpa [twos] using h, WStep.refl⟩ rfl rfl ?_
  rintro ⟨Ha, bva, k⟩ ⟨hk, hW, hS⟩
  change k ≤ l.length at hk
  change WAt Ha i bva mv (B ++ twos (l.take k)) es at hW
  change WStep H i bv mv Ha bva mv at hS
  refine go 200 (fun _ => false) mixed ?_
  by_cases hlt : k < l.length
  · have g := nums_getD hlt
    have hn : l.getD k 0 ≤ 9223372036854775807 := by
      rw [List.getD_eq_getElem?_getD, List.getElem?_eq_getElem hlt]; exact hle _ (List.getElem_mem hlt)
    have htl := twos_len (l.take k)
    rw [List.length_take] at htl
    have hR := c_label_Writer_Raw hW (two2 (l.getD k 0)) (by simp only [List.length_append, two2, List.length_cons, List.length_nil]; omega) (by simp [two2])
    rw [bys_two, List.append_assoc, ← twos_take hlt] at hR
    generalize l.getD k 0 = n at *
    simp (disch := omega) only [↓reduceIte, go_sem, hlt, g, mw_u8] <;> repeat with_reducible refine And.intro (by first | omega | decide) ?_
    refine hR.mono fun r H' ⟨bv', hW', hS'⟩ => ?_
    refine go 200 (fun _ => false) mixed ?_
    simp (disch := omega) only [↓reduceIte, go_sem] <;> repeat with_reducible refine And.intro (by first | omega | decide) ?_
    exact rnd_next ⟨H', bv', k + 1⟩ ⟨hlt, hW', hS.trans hS'⟩ (by show l.length - (k + 1) < l.length - k; omega) rfl rfl
  · have hk2 : k = l.length := by omega
    subst hk2
    rw [List.take_length] at hW
    simp (disch := omega) only [↓reduceIte, go_sem, hlt] <;> repeat with_reducible refine And.intro (by first | omega | decide) ?_
    refine go 200 (fun _ => false) mixed ?_
    simp (disch := omega) only [↓reduceIte, go_sem] <;> repeat with_reducible refine And.intro (by first | omega | decide) ?_
    refine SL.Ends.same (.inl rfl) ⟨bva, hW, hS⟩
end Go.Proofs.GoC
