/-
  Comparing: bytes, numbers, and the first that is not 0. No claim by itself.
-/
import Derived.Test.YtcmbnoloimdlaaaGoAdr
import Derived.Lib.Bytealg
import Derived.Laws.Externs
import Derived.Lib.BytesEntry
import Derived.Lib.Walk
namespace Go.Proofs.GoC
open Go Go.Proofs.SL
set_option linter.unusedSimpArgs false
set_option linter.unusedVariables false
set_option maxRecDepth 10000
set_option maxHeartbeats 2000000

/-- Which row of bytes comes first. -/
def cmpB : List Nat → List Nat → Int
  | [], [] => 0
  | [], _ :: _ => -1
  | _ :: _, [] => 1
  | a :: as', b :: bs' => if a < b then -1 else if b < a then 1 else cmpB as' bs'

theorem ofNat_lt {a b : Nat} (ha : a ≤ 255) (hb : b ≤ 255) : UInt8.ofNat a < UInt8.ofNat b ↔ a < b := by
  rw [UInt8.lt_iff_toNat_lt, UInt8.toNat_ofNat', UInt8.toNat_ofNat', Nat.mod_eq_of_lt (by omega), Nat.mod_eq_of_lt (by omega)]

theorem cmpB_eq : ∀ (a b : List Nat), (∀ x ∈ a, x ≤ 255) → (∀ x ∈ b, x ≤ 255) → Lib.compareBytes (a.map UInt8.ofNat) (b.map UInt8.ofNat) = cmpB a b
  | [], [], _, _ => rfl
  | [], _ :: _, _, _ => rfl
  | _ :: _, [], _, _ => rfl
  | x :: a, y :: b, ha, hb => by
    have hx := ha x (by simp)
    have hy := hb y (by simp)
    simp only [List.map_cons, Lib.compareBytes, cmpB, ofNat_lt hx hy, ofNat_lt hy hx]
    rw [cmpB_eq a b (fun z hz => ha z (by simp [hz])) (fun z hz => hb z (by simp [hz]))]

section
variable {P : Program} {H : Heap} {β : Nat → Option Nat} {w : World}
theorem bytesOf_buf (hI : SL.Inv β H w) {x : Value} {i ver off n : Nat} {tip : Bool} (hx : V β H w x (.buf i ver off n 1 tip)) {cs : List PV} (ho : H[i]? = some (some (.cells ver cs))) {l : List Nat} (hl : l.length = n) (hs : ∀ j, j < n → cs[off + j]? = some (.int .u8 (l.getD j 0 : Nat))) :
    (Extern.Bytes.bytesOf x).run P w = .ok (bs (l.map UInt8.ofNat)) w := by
  obtain ⟨a, cap, rfl, hc, ha, hi, hlv⟩ := hx.buf_inv
  obtain ⟨hn, hsm⟩ := hlv (live_of ho)
  subst hl
  by_cases hz : l = []
  · subst hz
    cases a <;> rfl
  · have hne : l.length ≠ 0 := fun h => hz (List.eq_nil_of_length_eq_zero h)
    obtain ⟨b, rfl⟩ := ha hne
    cases hb : β i with
    | none => have := (hn hb).1; omega
    | some b' =>
      have hbb : b = b' := by
        rcases hsm b' hb with ⟨h, _⟩ | ⟨h, _⟩
        · exact absurd h hne
        · cases h; rfl
      subst hbb
      obtain ⟨_, hcells⟩ := hI.cells ho
      obtain ⟨c, t, fz, f, hh, hsz, hf, hV, _⟩ := hcells b hb
      have key := Lib.run_loadBytesX (P := P) (w := w) (l.map fun m : Nat => (m : Int)) ⟨b, off, none⟩ ByteArray.empty (fun j x hj => by
        rw [List.getElem?_map] at hj
        cases hlj : l[j]? with
        | none => rw [hlj] at hj; cases hj
        | some m =>
          rw [hlj] at hj
          simp only [Option.map_some, Option.some.injEq] at hj
          subst hj
          have hjl : j < l.length := by
            rcases Nat.lt_or_ge j l.length with h | h
            · exact h
            · rw [List.getElem?_eq_none h] at hlj; cases hlj
          have hcj := hs j hjl
          have hk : off + j < cs.length := by
            rcases Nat.lt_or_ge (off + j) cs.length with h | h
            · exact h
            · rw [List.getElem?_eq_none h] at hcj; cases hcj
          have hv := (hV (off + j) _ hcj).int_inv
          rw [addr_add, cell_of hh, hf _ hk, hv, List.getD_eq_getElem?_getD, hlj]; rfl)
      rw [List.length_map] at key
      refine key.trans ?_
      congr 1
      apply ByteArray.ext
      apply Array.ext'
      simp [bs, Lib.bytesOf]
end

theorem run_cmp {H : Heap} {β : Nat → Option Nat} {w : World} (hI : SL.Inv β H w) {x y : Value} {i off n i' off' n' : Nat} {tip tip' : Bool} {cs cs' : List PV} {l l' : List Nat}
    (hx : V β H w x (.buf i 0 off n 1 tip)) (hy : V β H w y (.buf i' 0 off' n' 1 tip')) (ho : H[i]? = some (some (.cells 0 cs))) (ho' : H[i']? = some (some (.cells 0 cs')))
    (hl : l.length = n) (hl' : l'.length = n') (hs : ∀ j, j < n → cs[off + j]? = some (.int .u8 (l.getD j 0 : Nat))) (hs' : ∀ j, j < n' → cs'[off' + j]? = some (.int .u8 (l'.getD j 0 : Nat)))
    (hle : ∀ b ∈ l, b ≤ 255) (hle' : ∀ b ∈ l', b ≤ 255) :
    (Extern.BytealgCompare.compare #[x, y]).run Try.prog w = .ok (.int .i64 (cmpB l l')) w := by
  change Sem.run Try.prog (do pure (goInt (Extern.BytealgCompare.cmp (← Extern.Bytes.bytesOf x) (← Extern.Bytes.bytesOf y)))) w = _
  simp only [Sem.run_bind, bytesOf_buf hI hx ho hl hs, bytesOf_buf hI hy ho' hl' hs', Result.andThen_ok, Sem.run_pure]
  rw [Lib.cmp_eq]
  simp only [bs, List.toList_toArray]
  rw [cmpB_eq l l' hle hle']
  rfl

section
attribute [-go_sem] up_add up_add1 up_add2
end

/-- Which number comes first. -/
def cmpI (a b : Int) : Int := if a < b then -1 else if b < a then 1 else 0

theorem c_cmp_isNaN_int (x : Int) : PCall Try.prog 47 [.int .i64 x] (.bool false) := by
  intro H
  refine scall_of (ord := fun _ => []) (rs := [2]) Try.func47 rfl (by kernel_rfl) (by kernel_rfl) (by kernel_rfl) Try.ntmps47 fun hb hargs => go 200 (fun _ => false) mixed ?_
  simp (disch := omega) only [↓reduceIte, go_sem] <;> repeat with_reducible refine And.intro (by first | omega | decide) ?_
  exact fin rfl rfl

theorem c_cmp_Compare_int (x y : Int) : PCall Try.prog 40 [.int .i64 x, .int .i64 y] (.int .i64 (cmpI x y)) := by
  intro H
  refine scall_of (ord := fun _ => []) (rs := [4]) Try.func40 rfl (by kernel_rfl) (by kernel_rfl) (by kernel_rfl) Try.ntmps40 fun hb hargs => go 200 (fun _ => false) mixed ?_
  simp (disch := omega) only [↓reduceIte, go_sem] <;> repeat with_reducible refine And.intro (by first | omega | decide) ?_
  refine (c_cmp_isNaN_int x).on (go 200 (fun _ => false) mixed ?_)
  simp (disch := omega) only [↓reduceIte, go_sem] <;> repeat with_reducible refine And.intro (by first | omega | decide) ?_
  refine (c_cmp_isNaN_int y).on (go 200 (fun _ => false) mixed ?_)
  by_cases h1 : x < y
  · have e : cmpI x y = -1 := if_pos h1
    rw [e]
    simp (disch := omega) only [↓reduceIte, go_sem, h1] <;> repeat with_reducible refine And.intro (by first | omega | decide) ?_
    exact fin rfl rfl
  · by_cases h2 : y < x
    · have e : cmpI x y = 1 := by unfold cmpI; rw [if_neg h1, if_pos h2]
      rw [e]
      simp (disch := omega) only [↓reduceIte, go_sem, h1, h2] <;> repeat with_reducible refine And.intro (by first | omega | decide) ?_
      exact fin rfl rfl
    · have e : cmpI x y = 0 := by unfold cmpI; rw [if_neg h1, if_neg h2]
      rw [e]
      simp (disch := omega) only [↓reduceIte, go_sem, h1, h2] <;> repeat with_reducible refine And.intro (by first | omega | decide) ?_
      exact fin rfl rfl

/-- The first that is not 0. -/
def orF : List Int → Int
  | [] => 0
  | x :: l => if x = 0 then orF l else x
def intsP (l : List Int) : List PV := l.map fun n => .int .i64 n
@[go_sem] theorem intsP_len {l : List Int} : (intsP l).length = l.length := List.length_map ..
theorem intsP_get {l : List Int} {k : Nat} (h : k < l.length) : (intsP l).getD k .any = .int .i64 (l.getD k 0) := by
  simp [intsP, List.getD_eq_getElem?_getD, h]
theorem orF_step {l : List Int} {k : Nat} (h : k < l.length) : orF (l.drop k) = if l.getD k 0 = 0 then orF (l.drop (k + 1)) else l.getD k 0 := by
  rw [List.drop_eq_getElem_cons h, orF]
  simp [List.getD_eq_getElem?_getD, h]

theorem c_cmp_Or_int (l : List Int) (hl : l.length < 1000000) : PCall Try.prog 44 [.sl 1 (intsP l)] (.int .i64 (orF l)) := by
  intro H
  refine scall_of (ord := fun _ => []) (rs := [2]) Try.func44 rfl (by kernel_rfl) (by kernel_rfl) (by kernel_rfl) Try.ntmps44 fun hb hargs => go 200 (fun _ => false) mixed ?_
  simp (disch := omega) only [↓reduceIte, go_sem] <;> repeat with_reducible refine And.intro (by first | omega | decide) ?_
  refine runs_loopA (fun k : Nat => k ≤ l.length ∧ orF l = orF (l.drop k)) (fun k => l.length - k) [false, false, true, true, false, false, true, true, true]
    (fun k => slots 18 [.any, .any, .int .i64 0, .int .i64 0, .any, .any, .sl 1 (intsP l), .int .i64 l.length, .int .i64 k])
    (fun _ => H) (by rfl) 0 ⟨Nat.zero_le _, rfl⟩ rfl rfl ?_
  rintro k ⟨hk, ho⟩
  refine go 200 (fun _ => false) mixed ?_
  by_cases hlt : k < l.length
  · have g := intsP_get hlt
    rw [orF_step hlt] at ho
    by_cases h0 : l.getD k 0 = 0
    · rw [if_pos h0] at ho
      rw [h0] at g
      simp (disch := omega) only [↓reduceIte, go_sem, hlt, g] <;> repeat with_reducible refine And.intro (by first | omega | decide) ?_
      exact rnd_next (k + 1) ⟨by omega, ho⟩ (by show l.length - (k + 1) < l.length - k; omega) rfl rfl
    · rw [if_neg h0] at ho
      simp (disch := omega) only [↓reduceIte, go_sem, hlt, g, h0] <;> repeat with_reducible refine And.intro (by first | omega | decide) ?_
      exact fin (by rw [ho]; rfl) rfl
  · have hk2 : k = l.length := by omega
    subst hk2
    rw [List.drop_length] at ho
    simp (disch := omega) only [↓reduceIte, go_sem, hlt] <;> repeat with_reducible refine And.intro (by first | omega | decide) ?_
    refine go 200 (fun _ => false) mixed ?_
    simp (disch := omega) only [↓reduceIte, go_sem] <;> repeat with_reducible refine And.intro (by first | omega | decide) ?_
    exact fin (by rw [ho]; rfl) rfl

/-- Which address comes first. -/
def cmpA (f : Int) (l : List Nat) (g : Int) (m : List Nat) : Int := if cmpI f g = 0 then cmpB l m else cmpI f g

theorem adr_at {x : PV} {l : List Nat} {n : Nat} (hl : l.length = n) : ∀ j, j < n → (x :: u8s l)[1 + j]? = some (.int .u8 (l.getD j 0 : Nat)) := by
  intro j hj
  rw [Nat.add_comm 1 j, List.getElem?_cons_succ]
  simp [u8s, List.getD_eq_getElem?_getD, show j < l.length by omega]

theorem cmpB_step {l m : List Nat} {k : Nat} (h : k < l.length) (h' : k < m.length) : cmpB (l.drop k) (m.drop k) = if l.getD k 0 < m.getD k 0 then -1 else if m.getD k 0 < l.getD k 0 then 1 else cmpB (l.drop (k + 1)) (m.drop (k + 1)) := by
  rw [List.drop_eq_getElem_cons h, List.drop_eq_getElem_cons h', cmpB]
  simp only [List.getD_eq_getElem?_getD, List.getElem?_eq_getElem h, List.getElem?_eq_getElem h', Option.getD_some]

end Go.Proofs.GoC
