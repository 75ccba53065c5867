/-
  What the functions compute: letters, plain bytes, names of hosts. No claim by itself.
-/
import Derived.Test.YtcmbnoloimdlaaaGoCut
namespace Go.Proofs.GoC
open Go Go.Proofs.SL
set_option linter.unusedSimpArgs false
set_option linter.unusedVariables false
set_option maxRecDepth 10000
set_option maxHeartbeats 2000000

/-! Bytes as cells. -/
def bys (l : List UInt8) : List PV := l.map fun b => .int .u8 (b.toNat : Nat)
@[go_sem] theorem bys_len {l : List UInt8} : (bys l).length = l.length := List.length_map ..
@[go_sem] theorem flat_bys (l : List UInt8) : flat (bys l) = bys l := by
  induction l with
  | nil => rfl
  | cons a l ih => simp only [bys, flat, List.map_cons, List.flatMap_cons, PV.cells] at ih ⊢; rw [ih]; rfl
@[go_sem] theorem bs_bys (l : List UInt8) : ((bs l).toList.map fun b => PV.int IntKind.u8 (b.toNat : Nat)) = bys l := by
  rw [ByteArray.toList_eq]; rfl
theorem bys_getD {l : List UInt8} {k : Nat} (h : k < l.length) : (bys l).getD k .any = .int .u8 ((l.getD k 0).toNat : Nat) := by
  simp [bys, List.getD_eq_getElem?_getD, h]
theorem bys_set {l : List UInt8} {k : Nat} {b : UInt8} : (bys l).set k (.int .u8 (b.toNat : Nat)) = bys (l.set k b) := by
  simp [bys, List.map_set]
theorem bys_app {a b : List UInt8} : bys a ++ bys b = bys (a ++ b) := by simp [bys]
theorem bys_take {l : List UInt8} {n : Nat} : (bys l).take n = bys (l.take n) := by simp [bys, List.map_take]
@[go_sem] theorem bys_u8 (l : List UInt8) : (bys l).all isU8 = true := by
  rw [List.all_eq_true]
  intro x hx
  obtain ⟨b, _, rfl⟩ := List.mem_map.mp hx
  have := b.toNat_lt
  simp only [isU8, decide_eq_true_eq]; omega
@[go_sem] theorem bytesOf_bys (l : List UInt8) : bytesOf (bys l) = bs l := by
  unfold bytesOf bys bs
  congr 2
  rw [List.map_map]
  conv => rhs; rw [← List.map_id l]
  refine List.map_congr_left fun b _ => ?_
  show UInt8.ofNat ((b.toNat : Nat) : Int).toNat = b
  rw [Int.toNat_natCast, UInt8.ofNat_toNat]

@[go_sem] theorem bys_of (l : List UInt8) : (List.map (fun x => match x with | PV.int _ n => UInt8.ofNat n.toNat | _ => 0) (bys l)) = l := by
  unfold bys
  rw [List.map_map]
  conv => rhs; rw [← List.map_id l]
  refine List.map_congr_left fun b _ => ?_
  show UInt8.ofNat ((b.toNat : Nat) : Int).toNat = b
  rw [Int.toNat_natCast, UInt8.ofNat_toNat]

@[go_sem] theorem bys_m (l : List UInt8) : List.map (fun x => Go.Proofs.SL.bytesOf.match_1 (fun _ => UInt8) x (fun _ n => UInt8.ofNat n.toNat) (fun _ => 0)) (bys l) = l := bys_of l

/-! Small letters. -/
def lowB (b : UInt8) : UInt8 := if 65 ≤ b.toNat ∧ b.toNat ≤ 90 then b + 32 else b
def lowF (l : List UInt8) : List UInt8 := l.map lowB
theorem lowF_len (l : List UInt8) : (lowF l).length = l.length := List.length_map ..
theorem low_add {b : UInt8} (h : b.toNat ≤ 90) : (b + 32).toNat = b.toNat + 32 := by
  rw [UInt8.toNat_add, show (32 : UInt8).toNat = 32 from rfl]; omega

theorem c_text_upper (c : Int) : PCall Try.prog 46 [.int .i32 c] (.bool (decide (65 ≤ c ∧ c ≤ 90))) := by
  intro H
  refine scall_of (ord := fun _ => []) (rs := [2]) Try.func46 rfl (by kernel_rfl) (by kernel_rfl) (by kernel_rfl) Try.ntmps46 fun hb hargs => go 200 (fun _ => false) mixed ?_
  simp (disch := omega) only [↓reduceIte, go_sem] <;> repeat with_reducible refine And.intro (by first | omega | decide) ?_
  by_cases h1 : 65 ≤ c
  · by_cases h2 : c ≤ 90
    · simp (disch := omega) only [↓reduceIte, go_sem, h1, h2] <;> repeat with_reducible refine And.intro (by first | omega | decide) ?_
      exact fin (by simp [go_sem, h1, h2]) rfl
    · simp (disch := omega) only [↓reduceIte, go_sem, h1, h2] <;> repeat with_reducible refine And.intro (by first | omega | decide) ?_
      exact fin (by simp [go_sem, h1, h2]) rfl
  · simp (disch := omega) only [↓reduceIte, go_sem, h1] <;> repeat with_reducible refine And.intro (by first | omega | decide) ?_
    exact fin (by simp [go_sem, h1]) rfl

theorem lowF_step {l : List UInt8} {k : Nat} (hk : k < l.length) : (lowF (l.take k) ++ l.drop k).set k (lowB (l.getD k 0)) = lowF (l.take (k + 1)) ++ l.drop (k + 1) := by
  have hg : l[k] = l.getD k 0 := (getD_of hk).symm
  have hl : (lowF (l.take k)).length = k := by rw [lowF_len, List.length_take]; omega
  rw [List.set_append_right _ _ (by omega), hl, Nat.sub_self, List.drop_eq_getElem_cons hk, List.set_cons_zero, List.take_succ_eq_append_getElem hk, hg]
  simp [lowF]
theorem lowF_same {l : List UInt8} {k : Nat} (hk : k < l.length) (h : lowB (l.getD k 0) = l.getD k 0) : lowF (l.take k) ++ l.drop k = lowF (l.take (k + 1)) ++ l.drop (k + 1) := by
  rw [← lowF_step hk, h]
  have hl : (lowF (l.take k)).length = k := by rw [lowF_len, List.length_take]; omega
  rw [List.set_append_right _ _ (by omega), hl, Nat.sub_self, List.drop_eq_getElem_cons hk, List.set_cons_zero, getD_of hk]

theorem c_text_Lower (l : List UInt8) (hl : l.length < 1000000) : PCall Try.prog 37 [.str (bs l)] (.str (bs (lowF l))) := by
  intro H
  refine scall_of (ord := fun _ => []) (rs := [2]) Try.func37 rfl (by kernel_rfl) (by kernel_rfl) (by kernel_rfl) Try.ntmps37 fun hb hargs => go 200 (fun t => t == 7) mixed ?_
  simp (disch := omega) only [↓reduceIte, go_sem] <;> repeat with_reducible refine And.intro (by first | omega | decide) ?_
  refine runs_loopA (fun k : Nat => k ≤ l.length) (fun k => l.length - k) [true, false, false, true, false, false, false, false, true, true, true]
    (fun k => slots 27 [.str (bs l), .any, .any, .buf H.length 1 0 l.length 1 true, .any, .any, .any, .any, .buf H.length 1 0 l.length 1 true, .int .i64 l.length, .int .i64 k])
    (fun k => H ++ [some (.cells 1 (bys (lowF (l.take k) ++ l.drop k)))]) (by rfl) 0 (Nat.zero_le _) rfl rfl ?_
  intro k hk
  refine go 200 (fun t => t == 7) mixed ?_
  by_cases hlt : k < l.length
  · have hlen : (lowF (l.take k) ++ l.drop k).length = l.length := by rw [List.length_append, lowF_len, List.length_take, List.length_drop]; omega
    have hget : (bys (lowF (l.take k) ++ l.drop k)).getD k .any = .int .u8 ((l.getD k 0).toNat : Nat) := by
      have hl : (lowF (l.take k)).length = k := by rw [lowF_len, List.length_take]; omega
      rw [bys_getD (by omega), List.getD_eq_getElem?_getD, List.getElem?_append_right (by omega), hl, Nat.sub_self]
      simp [List.getD_eq_getElem?_getD]
    have hst := lowF_step hlt
    have hsm := fun h => lowF_same hlt h
    have hbl := (l.getD k 0).toNat_lt
    generalize lowF (l.take k) ++ l.drop k = A at *
    generalize hb' : l.getD k 0 = b at *
    simp (disch := omega) only [↓reduceIte, go_sem, hlt, hlen, hget] <;> repeat with_reducible refine And.intro (by first | omega | decide) ?_
    refine (c_text_upper _).on (go 200 (fun t => t == 7) mixed ?_)
    by_cases hu : 65 ≤ b.toNat ∧ b.toNat ≤ 90
    · have e0 := low_add hu.2
      have eb : lowB b = b + 32 := if_pos hu
      rw [eb] at hst
      have e3 : b.toNat + 97 - 65 = (b + 32).toNat := by rw [e0]; omega
      simp (disch := omega) only [↓reduceIte, go_sem, hlt, hlen, hu, e3, bys_set, hst] <;> repeat with_reducible refine And.intro (by first | omega | decide) ?_
      exact rnd_next (k + 1) (by show k + 1 ≤ l.length; omega) (by show l.length - (k + 1) < l.length - k; omega) rfl rfl
    · have hsm := hsm (if_neg hu)
      have hd : decide (65 ≤ (b.toNat : Int) ∧ (b.toNat : Int) ≤ 90) = false := by simp; omega
      rw [hsm]
      simp (disch := omega) only [↓reduceIte, go_sem, hlt, hlen, hu] <;> repeat with_reducible refine And.intro (by first | omega | decide) ?_
      exact rnd_next (k + 1) (by show k + 1 ≤ l.length; omega) (by show l.length - (k + 1) < l.length - k; omega) rfl rfl
  · have hk' : k = l.length := by have : k ≤ l.length := hk; omega
    subst hk'
    simp (disch := omega) only [↓reduceIte, go_sem, hlt] <;> repeat with_reducible refine And.intro (by first | omega | decide) ?_
    refine go 200 (fun t => t == 7) mixed ?_
    have e : lowF (List.take l.length l) ++ List.drop l.length l = lowF l := by simp
    rw [e]
    simp (disch := omega) only [↓reduceIte, go_sem, lowF_len] <;> repeat with_reducible refine And.intro (by first | omega | decide) ?_
    have et : List.take l.length (bys (lowF l)) = bys (lowF l) := List.take_of_length_le (by rw [bys_len, lowF_len]; exact Nat.le_refl _)
    simp (disch := omega) only [↓reduceIte, go_sem, et] <;> repeat with_reducible refine And.intro (by first | omega | decide) ?_
    exact fin_drop (.inr rfl) hb rfl (by simp)

/-! All signs. -/
def plainI (c : Int) : Bool := decide (32 < c ∧ c ≤ 126)
def plainF (l : List UInt8) : Bool := l.all fun b => plainI b.toNat
theorem plainF_cons (a : UInt8) (l : List UInt8) : plainF (a :: l) = (plainI a.toNat && plainF l) := rfl
/-! The document's. -/
theorem c_abatisref01_Lower (l : List UInt8) (hl : l.length < 1000000) : PCall Try.prog 21 [.str (bs l)] (.str (bs (lowF l))) := by
  intro H
  refine scall_of (ord := fun _ => []) (rs := [2]) Try.func21 rfl (by kernel_rfl) (by kernel_rfl) (by kernel_rfl) Try.ntmps21 fun hb hargs => go 200 (fun _ => false) mixed ?_
  simp (disch := omega) only [↓reduceIte, go_sem] <;> repeat with_reducible refine And.intro (by first | omega | decide) ?_
  refine Runs.ghost (by rfl) (Ghost.grow (t := 3) (m := 1) rfl) ?_
  refine runs_loopA (fun x : Nat × Nat => x.1 ≤ l.length) (fun x => l.length - x.1) [true, false, false, true, true]
    (fun x => slots 29 [.str (bs l), .any, .any, .buf H.length x.2 0 x.1 1 true, .int .i64 x.1])
    (fun x => H ++ [some (.cells x.2 (bys (lowF (l.take x.1))))]) (by rfl) (0, 0) (Nat.zero_le _) rfl rfl ?_
  rintro ⟨k, ver⟩ hk
  have hk : k ≤ l.length := hk
  refine go 200 (fun _ => false) mixed ?_
  have hlk : (lowF (l.take k)).length = k := by rw [lowF_len, List.length_take]; omega
  by_cases hlt : k < l.length
  · have hst : lowF (l.take (k + 1)) = lowF (l.take k) ++ [lowB (l.getD k 0)] := by
      rw [List.take_succ_eq_append_getElem hlt, ← getD_of hlt]; simp [lowF]
    have hbl := (l.getD k 0).toNat_lt
    generalize hb' : l.getD k 0 = b at *
    have hcell : ∀ c : UInt8, bys (lowF (l.take k)) ++ [PV.int .u8 (c.toNat : Nat)] = bys (lowF (l.take k) ++ [c]) := fun c => by simp [bys]
    by_cases h1 : 65 ≤ b.toNat
    · by_cases h2 : b.toNat ≤ 90
      · have e0 := low_add h2
        have eb : lowB b = b + 32 := if_pos ⟨h1, h2⟩
        rw [eb] at hst
        have e1 := e0.symm
        simp (disch := omega) only [↓reduceIte, go_sem, hlt, hb', h1, h2, e1, hlk, hcell] <;> repeat with_reducible refine And.intro (by first | omega | decide) ?_
        refine ⟨⟨by unfold most; omega, by unfold most; omega⟩, ?_⟩
        exact rnd_next (k + 1, ver + 1) (by show k + 1 ≤ l.length; omega) (by show l.length - (k + 1) < l.length - k; omega) rfl (by rw [hst])
      · have eb : lowB b = b := if_neg fun h => h2 h.2
        rw [eb] at hst
        simp (disch := omega) only [↓reduceIte, go_sem, hlt, hb', h1, h2, hlk, hcell] <;> repeat with_reducible refine And.intro (by first | omega | decide) ?_
        refine ⟨⟨by unfold most; omega, by unfold most; omega⟩, ?_⟩
        exact rnd_next (k + 1, ver + 1) (by show k + 1 ≤ l.length; omega) (by show l.length - (k + 1) < l.length - k; omega) rfl (by rw [hst])
    · have eb : lowB b = b := if_neg fun h => h1 h.1
      rw [eb] at hst
      simp (disch := omega) only [↓reduceIte, go_sem, hlt, hb', h1, hlk, hcell] <;> repeat with_reducible refine And.intro (by first | omega | decide) ?_
      refine ⟨⟨by unfold most; omega, by unfold most; omega⟩, ?_⟩
      exact rnd_next (k + 1, ver + 1) (by show k + 1 ≤ l.length; omega) (by show l.length - (k + 1) < l.length - k; omega) rfl (by rw [hst])
  · have hk' : k = l.length := by omega
    subst hk'
    simp (disch := omega) only [↓reduceIte, go_sem, hlt] <;> repeat with_reducible refine And.intro (by first | omega | decide) ?_
    refine go 200 (fun _ => false) mixed ?_
    have e : List.take l.length l = l := List.take_length
    rw [e]
    have et : List.take l.length (bys (lowF l)) = bys (lowF l) := List.take_of_length_le (by rw [bys_len, lowF_len]; exact Nat.le_refl _)
    simp (disch := omega) only [↓reduceIte, go_sem, lowF_len, et] <;> repeat with_reducible refine And.intro (by first | omega | decide) ?_
    exact fin_drop (.inr rfl) hb rfl (by simp)
end Go.Proofs.GoC
