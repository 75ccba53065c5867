/-
  The law CacheTypes. No claim by itself.
-/
import Derived.Test.YtcmbnoloimdlaaaGoCache9
namespace Go.Proofs.GoC
open Go Go.Proofs.SL
set_option linter.unusedSimpArgs false
set_option linter.unusedVariables false
set_option maxRecDepth 10000
set_option maxHeartbeats 4000000

structure Two2 where
  a : Int
  b : Int
def twoC (t : Two2) : List PV := [.int .i64 t.a, .int .i64 t.b]
theorem two_of {qs : List PV} (h : qs.map tagP = ([.i .i64, .i .i64] : List Tag).map some) (hw : ∀ p ∈ qs, wfP p) : ∃ t : Two2, qs = twoC t ∧ ((-9223372036854775808 ≤ t.a ∧ t.a ≤ 9223372036854775807) ∧ (-9223372036854775808 ≤ t.b ∧ t.b ≤ 9223372036854775807)) := by
  obtain ⟨q1, x1, rfl, g1, w1, h1, hw1⟩ := cells_cons h hw
  obtain ⟨q2, x2, rfl, g2, w2, h2, hw2⟩ := cells_cons h1 hw1
  obtain rfl := cells_nil h2
  obtain ⟨n1, rfl, b1⟩ := cell_i64 g1 w1
  obtain ⟨n2, rfl, b2⟩ := cell_i64 g2 w2
  exact ⟨⟨n1, n2⟩, rfl, b1, b2⟩

def adF (f : Int) : Int × List Nat := (f, z16)
theorem adF_ok (f : Int) : AdOk (adF f) := ⟨rfl, by show ∀ b ∈ z16, b ≤ 255; decide⟩
theorem adsF_ok (f : Int) : AdsOk [adF f] := ⟨by intro a ha; rw [List.mem_singleton.mp ha]; exact adF_ok f, by simp⟩

theorem c_abatislaw10_CacheTypes (name : List UInt8) (one two : Int) (tt : Two2) (htt : (-9223372036854775808 ≤ tt.a ∧ tt.a ≤ 9223372036854775807) ∧ (-9223372036854775808 ≤ tt.b ∧ tt.b ≤ 9223372036854775807)) :
    GCall 5 [.str (bs name), .int .i64 one, .int .i64 two, .agg (twoC tt)] (.bool true) := by
  intro H hG
  refine scall_of (ord := ordCQ) (rs := [8]) Try.func5 rfl (by kernel_rfl) (by kernel_rfl) (by kernel_rfl) Try.ntmps5 fun hb hargs => go 200 (fun _ => false) mixed ?_
  unfold twoC
  simp (disch := omega) only [↓reduceIte, go_sem] <;> repeat with_reducible refine And.intro (by first | omega | decide) ?_
  refine (c_abatisref01_Few name 20).on (go 200 (fun _ => false) mixed ?_)
  simp (disch := omega) only [↓reduceIte, go_sem] <;> repeat with_reducible refine And.intro (by first | omega | decide) ?_
  have hnl : (name.take 20).length < 1000000 := by rw [List.length_take]; omega
  generalize name.take 20 = nm at *
  refine (c_cache_New 4).mono fun r H1 ⟨e1, e2⟩ => ?_
  rw [e1, e2]
  have h4 : cutS 4 64 = 4 := by decide
  rw [h4]
  have e11 : H.length + 1 + 1 = H.length + 2 := rfl
  have e12 : (H ++ [some (OB.cells 0 [.int .i64 tt.a, .int .i64 tt.b])]).length = H.length + 1 := by simp
  simp only [e12, e11]
  refine go 200 (fun _ => false) mixed ?_
  simp (disch := omega) only [↓reduceIte, go_sem] <;> repeat with_reducible refine And.intro (by first | omega | decide) ?_
  refine (c_abatisref01_Around tt.a htt.1.1 htt.1.2 1000 (by decide)).on (go 200 (fun _ => false) mixed ?_)
  have ha := aroundF_lt tt.a (by decide : 0 < 1000)
  simp (disch := omega) only [↓reduceIte, go_sem] <;> repeat with_reducible refine And.intro (by first | omega | decide) ?_
  generalize hx : 1 + aroundF tt.a 1000 = x at *
  refine (c_abatisref01_Around tt.b htt.2.1 htt.2.2 1000 (by decide)).on (go 3 (fun _ => false) mixed ?_)
  have ha2 := aroundF_lt tt.b (by decide : 0 < 1000)
  simp (disch := omega) only [↓reduceIte, go_sem] <;> repeat with_reducible refine And.intro (by first | omega | decide) ?_
  generalize hy : 1 + aroundF tt.b 1000 = y at *
  refine go 200 (fun _ => false) mixed ?_
  simp (disch := omega) only [↓reduceIte, go_sem] <;> repeat with_reducible refine And.intro (by first | omega | decide) ?_
  have hB0 : CaAt (H ++ [some (.cells 0 [.int .i64 tt.a, .int .i64 tt.b]), some (.map []), some (.cells 0 [.int .i64 4, .mp (H.length + 1)]), some (.cells 0 (adC (adF 4))), some (.cells 0 (adC (adF 6)))]) (H.length + 2) (H.length + 1) 4 [] :=
    ⟨by rw [get_tail]; rfl, by rw [get_tail]; rfl, by intro e he; cases he⟩
  have hp1 := putC_room' hB0 nm hnl one [adF 4] (adsF_ok 4) (by simp) (x : Nat) 0 (by omega) (by decide) (by decide) (.inl (by decide))
  have ex : entP [adF 4] (x : Nat) 0 = ⟨[adF 4], x⟩ := by unfold entP; rw [if_neg (by omega), Int.zero_add]
  rw [ex] at hp1
  refine hp1.mono fun r H2 ⟨_, hB2, k2⟩ => ?_
  have h6 : H2[H.length + 4]? = some (some (.cells 0 (adC (adF 6)))) := k2.get (by rw [get_tail]; rfl) (by simp)
  have h5 : H2[H.length + 3]? = some (some (.cells 0 (adC (adF 4)))) := k2.get (by rw [get_tail]; rfl) (by simp)
  have o6 := obj_of h6
  have ey : entP [adF 6] (y : Nat) 0 = ⟨[adF 6], y⟩ := by unfold entP; rw [if_neg (by omega), Int.zero_add]
  have hp2 := putC_room' hB2 nm hnl two [adF 6] (adsF_ok 6) (by simp) (y : Nat) 0 (by omega) (by decide) (by decide) (.inl (by simp [putA]))
  rw [ey] at hp2
  unfold adF adC at o6
  have z16l : (adrC 6 z16) = [.int .i64 6, .int .u8 0, .int .u8 0, .int .u8 0, .int .u8 0, .int .u8 0, .int .u8 0, .int .u8 0, .int .u8 0, .int .u8 0, .int .u8 0, .int .u8 0, .int .u8 0, .int .u8 0, .int .u8 0, .int .u8 0, .int .u8 0] := rfl
  rw [z16l] at o6
  refine go 3 (fun _ => false) mixed ?_
  simp (disch := omega) only [↓reduceIte, go_sem] <;> repeat with_reducible refine And.intro (by first | omega | decide) ?_
  refine go 200 (fun _ => false) mixed ?_
  simp (disch := omega) only [↓reduceIte, go_sem, o6] <;> repeat with_reducible refine And.intro (by first | omega | decide) ?_
  refine hp2.mono fun r H3 ⟨_, hB3, k3⟩ => ?_
  have h6b := k3.get h6 (by simp)
  have h5b := k3.get h5 (by simp)
  have o6b := obj_of h6b
  have o5b := obj_of h5b
  have z16m : (adrC 4 z16) = [.int .i64 4, .int .u8 0, .int .u8 0, .int .u8 0, .int .u8 0, .int .u8 0, .int .u8 0, .int .u8 0, .int .u8 0, .int .u8 0, .int .u8 0, .int .u8 0, .int .u8 0, .int .u8 0, .int .u8 0, .int .u8 0, .int .u8 0] := rfl
  unfold adF adC at o6b o5b
  rw [z16l] at o6b
  rw [z16m] at o5b
  have kk3 : Keeps [H.length + 1] H H3 := (Keeps.app.trans (k2.trans k3)).mono (by simp)
  have hnd : ((putA (⟨lowF nm, two⟩ : CKey) (⟨[adF 6], y⟩ : Ent) (putA ⟨lowF nm, one⟩ ⟨[adF 4], x⟩ [])).map (·.1)).Nodup := put_nodup (put_nodup List.nodup_nil)
  have hsz := fun e he => (hB3.ok e he).len
  have hg1 := c_cache_Cache_Get hB3 nm hnl two ((y - 1 : Nat) : Int) hsz hnd
  have hg2 := c_cache_Cache_Get hB3 nm hnl one ((x - 1 : Nat) : Int) hsz hnd
  have hlen3 := c_cache_Cache_Len hB3
  have e1 : getF ⟨lowF nm, two⟩ ((y - 1 : Nat) : Int) (putA (⟨lowF nm, two⟩ : CKey) (⟨[adF 6], y⟩ : Ent) (putA ⟨lowF nm, one⟩ ⟨[adF 4], x⟩ [])) = ([adF 6], true) := by
    unfold getF
    rw [put_find, if_pos rfl]
    exact if_neg (by show ¬ (y : Int) ≤ ((y - 1 : Nat) : Int); omega)
  rw [e1] at hg1
  have ea6 : adsV [adF 6] = [.agg [.int .i64 6, .int .u8 0, .int .u8 0, .int .u8 0, .int .u8 0, .int .u8 0, .int .u8 0, .int .u8 0, .int .u8 0, .int .u8 0, .int .u8 0, .int .u8 0, .int .u8 0, .int .u8 0, .int .u8 0, .int .u8 0, .int .u8 0]] := rfl
  have ea4 : adsV [adF 4] = [.agg [.int .i64 4, .int .u8 0, .int .u8 0, .int .u8 0, .int .u8 0, .int .u8 0, .int .u8 0, .int .u8 0, .int .u8 0, .int .u8 0, .int .u8 0, .int .u8 0, .int .u8 0, .int .u8 0, .int .u8 0, .int .u8 0, .int .u8 0]] := rfl
  dsimp only at hg1
  rw [ea6] at hg1
  refine go 3 (fun _ => false) mixed ?_
  simp (disch := omega) only [↓reduceIte, go_sem] <;> repeat with_reducible refine And.intro (by first | omega | decide) ?_
  refine go 200 (fun _ => false) mixed ?_
  simp (disch := omega) only [↓reduceIte, go_sem] <;> repeat with_reducible refine And.intro (by first | omega | decide) ?_
  refine hg1.mono fun r H4 ⟨e4, e5⟩ => ?_
  rw [e4, e5]
  refine go 3 (fun _ => false) mixed ?_
  simp (disch := omega) only [↓reduceIte, go_sem] <;> repeat with_reducible refine And.intro (by first | omega | decide) ?_
  refine go 3 (fun _ => false) mixed ?_
  simp (disch := omega) only [↓reduceIte, go_sem] <;> repeat with_reducible refine And.intro (by first | omega | decide) ?_
  refine go 3 (fun _ => false) mixed ?_
  simp (disch := omega) only [↓reduceIte, go_sem] <;> repeat with_reducible refine And.intro (by first | omega | decide) ?_
  refine go 3 (fun _ => false) mixed ?_
  simp (disch := omega) only [↓reduceIte, go_sem] <;> repeat with_reducible refine And.intro (by first | omega | decide) ?_
  refine go 2 (fun _ => false) mixed ?_
  simp (disch := omega) only [↓reduceIte, go_sem, o6b] <;> repeat with_reducible refine And.intro (by first | omega | decide) ?_
  refine go 2 (fun _ => false) mixed ?_
  simp (disch := omega) only [↓reduceIte, go_sem, o6b] <;> repeat with_reducible refine And.intro (by first | omega | decide) ?_
  refine go 2 (fun _ => false) mixed ?_
  simp (disch := omega) only [↓reduceIte, go_sem, o6b] <;> repeat with_reducible refine And.intro (by first | omega | decide) ?_
  refine go 2 (fun _ => false) mixed ?_
  simp (disch := omega) only [↓reduceIte, go_sem, o6b] <;> repeat with_reducible refine And.intro (by first | omega | decide) ?_
  refine go 2 (fun _ => false) mixed ?_
  simp (disch := omega) only [↓reduceIte, go_sem, o6b] <;> repeat with_reducible refine And.intro (by first | omega | decide) ?_
  refine go 2 (fun _ => false) mixed ?_
  simp (disch := omega) only [↓reduceIte, go_sem, o6b] <;> repeat with_reducible refine And.intro (by first | omega | decide) ?_
  refine go 2 (fun _ => false) mixed ?_
  simp (disch := omega) only [↓reduceIte, go_sem, o6b] <;> repeat with_reducible refine And.intro (by first | omega | decide) ?_
  refine go 2 (fun _ => false) mixed ?_
  simp (disch := omega) only [↓reduceIte, go_sem, o6b] <;> repeat with_reducible refine And.intro (by first | omega | decide) ?_
  refine go 2 (fun _ => false) mixed ?_
  simp (disch := omega) only [↓reduceIte, go_sem, o6b] <;> repeat with_reducible refine And.intro (by first | omega | decide) ?_
  refine go 200 (fun _ => false) mixed ?_
  simp (disch := omega) only [↓reduceIte, go_sem, o6b] <;> repeat with_reducible refine And.intro (by first | omega | decide) ?_
  refine hg2.mono fun r H4 ⟨e4, e5⟩ => ?_
  rw [e4, e5]
  by_cases heq : one = two
  · have hl1 : (putA (⟨lowF nm, two⟩ : CKey) (⟨[adF 6], y⟩ : Ent) (putA ⟨lowF nm, one⟩ ⟨[adF 4], x⟩ [])).length = 1 := by subst heq; simp [putA]
    rw [hl1] at hlen3
    have e2 : (getF ⟨lowF nm, one⟩ ((x - 1 : Nat) : Int) (putA (⟨lowF nm, two⟩ : CKey) (⟨[adF 6], y⟩ : Ent) (putA ⟨lowF nm, one⟩ ⟨[adF 4], x⟩ []))).2 = decide (x ≤ y) := by
      unfold getF
      rw [put_find, if_pos (by rw [heq])]
      show (if (y : Int) ≤ ((x - 1 : Nat) : Int) then (([], false) : Ads × Bool) else ([adF 6], true)).2 = _
      by_cases h : x ≤ y
      · rw [if_neg (by omega)]; simp [h]
      · rw [if_pos (by omega)]; simp [h]
    rw [e2]
    generalize adsV (getF _ _ _).1 = gx
    by_cases hxy : x ≤ y
    · refine go 8 (fun _ => false) mixed ?_
      simp (disch := omega) only [↓reduceIte, go_sem, heq] <;> repeat with_reducible refine And.intro (by first | omega | decide) ?_
      refine go 200 (fun _ => false) mixed ?_
      simp (disch := omega) only [↓reduceIte, go_sem, heq] <;> repeat with_reducible refine And.intro (by first | omega | decide) ?_
      refine hlen3.mono fun r H5 ⟨e6, e7⟩ => ?_
      rw [e6, e7]
      refine go 200 (fun _ => false) mixed ?_
      simp (disch := omega) only [↓reduceIte, go_sem, hxy] <;> repeat with_reducible refine And.intro (by first | omega | decide) ?_
      refine c_abatislaw10_lives.on (go 200 (fun _ => false) mixed ?_)
      simp (disch := omega) only [↓reduceIte, go_sem] <;> repeat with_reducible refine And.intro (by first | omega | decide) ?_
      obtain ⟨L, rfl⟩ : ∃ L, H3 = H ++ L := kk3.split (by simp)
      exact fin_drop (.inr rfl) hb rfl (by simp)
    · refine go 8 (fun _ => false) mixed ?_
      simp (disch := omega) only [↓reduceIte, go_sem, heq] <;> repeat with_reducible refine And.intro (by first | omega | decide) ?_
      refine go 200 (fun _ => false) mixed ?_
      simp (disch := omega) only [↓reduceIte, go_sem, heq] <;> repeat with_reducible refine And.intro (by first | omega | decide) ?_
      refine hlen3.mono fun r H5 ⟨e6, e7⟩ => ?_
      rw [e6, e7]
      refine go 200 (fun _ => false) mixed ?_
      simp (disch := omega) only [↓reduceIte, go_sem, hxy] <;> repeat with_reducible refine And.intro (by first | omega | decide) ?_
      refine c_abatislaw10_lives.on (go 200 (fun _ => false) mixed ?_)
      simp (disch := omega) only [↓reduceIte, go_sem] <;> repeat with_reducible refine And.intro (by first | omega | decide) ?_
      obtain ⟨L, rfl⟩ : ∃ L, H3 = H ++ L := kk3.split (by simp)
      exact fin_drop (.inr rfl) hb rfl (by simp)
  · have hne : (⟨lowF nm, one⟩ : CKey) ≠ ⟨lowF nm, two⟩ := fun h => heq (by injection h)
    have hne2 : ¬ two = one := fun h => heq h.symm
    have hl1 : (putA (⟨lowF nm, two⟩ : CKey) (⟨[adF 6], y⟩ : Ent) (putA ⟨lowF nm, one⟩ ⟨[adF 4], x⟩ [])).length = 2 := by simp [putA, hne2]
    rw [hl1] at hlen3
    have e2 : getF ⟨lowF nm, one⟩ ((x - 1 : Nat) : Int) (putA (⟨lowF nm, two⟩ : CKey) (⟨[adF 6], y⟩ : Ent) (putA ⟨lowF nm, one⟩ ⟨[adF 4], x⟩ [])) = ([adF 4], true) := by
      unfold getF
      rw [put_find, if_neg hne, put_find, if_pos rfl]
      exact if_neg (by show ¬ (x : Int) ≤ ((x - 1 : Nat) : Int); omega)
    rw [e2]
    dsimp only
    rw [ea4]
    refine go 8 (fun _ => false) mixed ?_
    simp (disch := omega) only [↓reduceIte, go_sem, heq] <;> repeat with_reducible refine And.intro (by first | omega | decide) ?_
    refine go 200 (fun _ => false) mixed ?_
    simp (disch := omega) only [↓reduceIte, go_sem, heq] <;> repeat with_reducible refine And.intro (by first | omega | decide) ?_
    refine hlen3.onq (go 2 (fun _ => false) mixed ?_)
    simp (disch := omega) only [↓reduceIte, go_sem] <;> repeat with_reducible refine And.intro (by first | omega | decide) ?_
    refine go 3 (fun _ => false) mixed ?_
    simp (disch := omega) only [↓reduceIte, go_sem, o5b] <;> repeat with_reducible refine And.intro (by first | omega | decide) ?_
    refine go 3 (fun _ => false) mixed ?_
    simp (disch := omega) only [↓reduceIte, go_sem, o5b] <;> repeat with_reducible refine And.intro (by first | omega | decide) ?_
    refine go 3 (fun _ => false) mixed ?_
    simp (disch := omega) only [↓reduceIte, go_sem, o5b] <;> repeat with_reducible refine And.intro (by first | omega | decide) ?_
    refine go 3 (fun _ => false) mixed ?_
    simp (disch := omega) only [↓reduceIte, go_sem, o5b] <;> repeat with_reducible refine And.intro (by first | omega | decide) ?_
    refine go 3 (fun _ => false) mixed ?_
    simp (disch := omega) only [↓reduceIte, go_sem, o5b] <;> repeat with_reducible refine And.intro (by first | omega | decide) ?_
    refine go 3 (fun _ => false) mixed ?_
    simp (disch := omega) only [↓reduceIte, go_sem, o5b] <;> repeat with_reducible refine And.intro (by first | omega | decide) ?_
    refine go 3 (fun _ => false) mixed ?_
    simp (disch := omega) only [↓reduceIte, go_sem, o5b] <;> repeat with_reducible refine And.intro (by first | omega | decide) ?_
    refine go 3 (fun _ => false) mixed ?_
    simp (disch := omega) only [↓reduceIte, go_sem, o5b] <;> repeat with_reducible refine And.intro (by first | omega | decide) ?_
    refine go 3 (fun _ => false) mixed ?_
    simp (disch := omega) only [↓reduceIte, go_sem, o5b] <;> repeat with_reducible refine And.intro (by first | omega | decide) ?_
    refine go 3 (fun _ => false) mixed ?_
    simp (disch := omega) only [↓reduceIte, go_sem, o5b] <;> repeat with_reducible refine And.intro (by first | omega | decide) ?_
    refine go 200 (fun _ => false) mixed ?_
    simp (disch := omega) only [↓reduceIte, go_sem] <;> repeat with_reducible refine And.intro (by first | omega | decide) ?_
    refine (c_abatislaw10_lives).onq (go 200 (fun _ => false) mixed ?_)
    simp (disch := omega) only [↓reduceIte, go_sem] <;> repeat with_reducible refine And.intro (by first | omega | decide) ?_
    obtain ⟨L, rfl⟩ : ∃ L, H3 = H ++ L := kk3.split (by simp)
    exact fin_drop (.inr rfl) hb rfl (by simp)
end Go.Proofs.GoC
