/-
  What the functions compute: the copy of a list of addresses, Get, Put. No claim by itself.
-/
import Derived.Test.YtcmbnoloimdlaaaGoCache6
namespace Go.Proofs.GoC
open Go Go.Proofs.SL
set_option linter.unusedSimpArgs false
set_option linter.unusedVariables false
set_option maxRecDepth 10000
set_option maxHeartbeats 4000000

theorem run_slnil (a : Option Addr) (c : Nat) (w : World) : (Go.binOp .eql 31 (.slice a 0 c) (.slice none 0 0)).run Try.prog w = .ok (.bool a.isNone) w := by
  obtain ⟨u, hu, hk, _, _⟩ := (tdOf_ok Try.prog 31 _ Try.td31).und
  have hund := run_underlying hu
  obtain ⟨dd, hd⟩ : ∃ dd, Op.maxDepth = dd + 1 := ⟨9999, rfl⟩
  have hb := (SL.binOp_eql (t := 31) (x := .slice a 0 c) (y := .slice none 0 0) (by simp) (by simp) (by simp) (by simp)).1
  rw [hb]
  cases u <;> simp only [kOk] at hk
  unfold Op.equal
  rw [hd]
  simp only [Op.equalIn, Sem.run_bind, hund, Result.andThen_ok]
  cases a <;> rfl
section
attribute [-go_sem] up_add up_add1 up_add2
theorem clone_empty {H : Heap} : SCall Try.prog 30 [.sl 17 []] H fun r H' => r = .sl 17 [] ∧ H' = H := by
  refine scall_lift Try.func30 rfl (by kernel_rfl) fun β w vs hI hv1 hv2 => ?_
  obtain ⟨x, rfl, hx⟩ := vals1 hv1 hv2
  obtain ⟨a, c, rfl⟩ : ∃ a c, x = .slice a 0 c := by
    cases hx with
    | sl0 a c m => exact ⟨a, c, rfl⟩
    | sl => exact ⟨_, _, rfl⟩
  refine Calls.mono (?_ : Calls Try.prog 30 #[.slice a 0 c] w fun e w' => (∃ a' c', e = .returned (.slice a' 0 c')) ∧ Go.RowKit.Below w.heap.size w w') fun e w' ⟨⟨a', c', he⟩, hw⟩ => ⟨_, he, hw, fun β' w2 => .sl0 _ _ _⟩
  cases a with
  | none =>
    go_enter Try.func30, Try.ntmps30
    go_wp2
    rw [run_slnil]
    go_wp2
    go_ret
    exact ⟨⟨_, _, rfl⟩, Go.RowKit.Below.refl _ _⟩
  | some a =>
    go_enter Try.func30, Try.ntmps30
    go_wp2
    rw [run_slnil]
    go_wp2
    go_ret
    exact ⟨⟨_, _, rfl⟩, (Go.RowKit.Below.refl _ _).alloc (Nat.le_refl _) _⟩
end

theorem c_slices_Clone_api_Addr_api_Addr (l : Ads) (hl : AdsOk l) (hlen : l.length < 1000000) : PCall Try.prog 30 [.sl 17 (adsV l)] (.sl 17 (adsV l)) := by
  intro H
  by_cases h0 : l.length = 0
  · obtain rfl := List.eq_nil_of_length_eq_zero h0
    exact clone_empty
  refine scall_of (T := tdOf Try.prog) (ord := fun _ => []) (rs := [2]) Try.func30 rfl (by kernel_rfl) (by kernel_rfl) (by kernel_rfl) Try.ntmps30 fun hb hargs => go 200 (fun t => t == 5) mixed ?_
  have et : List.take l.length l = l := List.take_length
  have hfl := adsV_flat hl
  simp (disch := omega) only [↓reduceIte, go_sem, most, et, hfl, h0] <;> repeat with_reducible refine And.intro (by first | omega | decide) ?_
  refine fin_freeze (i := H.length) (xs := adsV l) (.inr rfl) hb rfl (Nat.le_refl _) (by rw [get_tail0]; rfl) ?_ adsV_len (adsV_cells hl) adsV_bdd ⟨rfl, rfl⟩
  unfold subCells
  rw [List.drop_zero]
  exact (List.take_of_length_le (by rw [hfl]; exact Nat.le_refl _)).symm

/-- What Get tells. -/
def getF (k : CKey) (now : Int) (es : Ents) : Ads × Bool := match findA k es with
  | some e => if e.til ≤ now then ([], false) else (e.l, true)
  | none => ([], false)

def getV (x : Ads × Bool) : PV := if x.2 then .tup [.sl 17 (adsV x.1), .bool true] else .tup [.nils, .bool false]

theorem getF_nil {k : CKey} {now : Int} {es : Ents} (h : (getF k now es).2 = false) : (getF k now es).1 = [] := by
  unfold getF at h ⊢
  split at h
  · split at h
    · rename_i h1; simp [h1]
    · cases h
  · rfl

theorem get_raw {H : Heap} {i j : Nat} {room : Int} {es : Ents} (h : CaAt H i j room es) (name : List UInt8) (hn : name.length < 1000000) (kind now : Int) (hs : ∀ e ∈ es, e.2.l.length < 1000000) (hnd : (es.map (·.1)).Nodup) :
    SCall Try.prog 20 [.ptr i 0 0, .str (bs name), .int .i64 kind, .int .i64 now] H fun r H' => r = getV (getF ⟨lowF name, kind⟩ now es) ∧ H' = H := by
  have hi := lt_of_get h.cell
  have hj := lt_of_get h.map
  have oc := obj_of h.cell
  have om := h.map
  have hk := c_cache_key name hn kind
  have kb := @keysB_ck es
  refine scall_of (ord := ordCG) (rs := [8, 9]) Try.func20 rfl (by kernel_rfl) (by kernel_rfl) (by kernel_rfl) Try.ntmps20 fun hb hargs => go 200 (fun _ => false) mixed ?_
  simp (disch := omega) only [↓reduceIte, go_sem, ordCG_1, oc] <;> repeat with_reducible refine And.intro (by first | omega | decide) ?_
  refine ⟨_, fun L => hk _, go 200 (fun _ => false) mixed ?_⟩
  cases hf : findA (⟨lowF name, kind⟩ : CKey) es with
  | some e =>
    have lm := fun z => ca_has z hf
    dsimp only at lm
    have hme := (find_mem hnd).mp hf
    have hel := hs _ hme
    have hcl := c_slices_Clone_api_Addr_api_Addr e.l (h.ok _ hme) hel
    by_cases ht : e.til ≤ now
    · have hg : getF ⟨lowF name, kind⟩ now es = ([], false) := by unfold getF; rw [hf]; exact if_pos ht
      rw [hg]
      simp (disch := omega) only [↓reduceIte, go_sem, om, oc, kb, lm, entV, entC, ht] <;> repeat with_reducible refine And.intro (by first | omega | decide) ?_
      exact fin_drop (.inr rfl) hb rfl (by simp [getV])
    · have hg : getF ⟨lowF name, kind⟩ now es = (e.l, true) := by unfold getF; rw [hf]; exact if_neg ht
      rw [hg]
      simp (disch := omega) only [↓reduceIte, go_sem, om, oc, kb, lm, entV, entC, ht] <;> repeat with_reducible refine And.intro (by first | omega | decide) ?_
      refine hcl.on (go 200 (fun _ => false) mixed ?_)
      simp (disch := omega) only [↓reduceIte, go_sem] <;> repeat with_reducible refine And.intro (by first | omega | decide) ?_
      exact fin_drop (.inr rfl) hb rfl (bdd_tup.mpr fun p hp => by
        simp only [List.mem_cons, List.not_mem_nil, or_false] at hp
        rcases hp with rfl | rfl
        · exact .sl _ _ adsV_bdd
        · simp)
  | none =>
    have lm := fun z => ca_not z hf
    dsimp only at lm
    have hg : getF ⟨lowF name, kind⟩ now es = ([], false) := by unfold getF; rw [hf]
    rw [hg]
    simp (disch := omega) only [↓reduceIte, go_sem, om, oc, kb, lm] <;> repeat with_reducible refine And.intro (by first | omega | decide) ?_
    exact fin_drop (.inr rfl) hb rfl (by simp [getV])

theorem c_cache_Cache_Get {H : Heap} {i j : Nat} {room : Int} {es : Ents} (h : CaAt H i j room es) (name : List UInt8) (hn : name.length < 1000000) (kind now : Int) (hs : ∀ e ∈ es, e.2.l.length < 1000000) (hnd : (es.map (·.1)).Nodup) :
    SCall Try.prog 20 [.ptr i 0 0, .str (bs name), .int .i64 kind, .int .i64 now] H fun r H' => r = .tup [.sl 17 (adsV (getF ⟨lowF name, kind⟩ now es).1), .bool (getF ⟨lowF name, kind⟩ now es).2] ∧ H' = H := by
  refine (SCall.res (g := fun r => match r with | .tup [.nils, b] => .tup [.sl 17 [], b] | v => v) (fun β H w v r hv => ?_) (get_raw h name hn kind now hs hnd)).mono fun r H' ⟨r0, h1, h2, h3⟩ => ⟨?_, h3⟩
  · split
    · rename_i b
      obtain ⟨vs, rfl, hs, hv⟩ := hv.tup_inv
      refine .tup vs _ (by simpa using hs) fun i a p h1 h2 => ?_
      rcases i with _ | i
      · cases h2
        have := hv 0 a .nils h1 rfl
        rw [this.nils_inv]
        exact .sl0 none 0 17
      · exact hv (i + 1) a p h1 h2
    · exact hv
  · rw [h1, h2]
    have hg := @getF_nil ⟨lowF name, kind⟩ now es
    generalize getF ⟨lowF name, kind⟩ now es = x at *
    obtain ⟨l, b⟩ := x
    cases b with
    | true => rfl
    | false => rw [hg rfl]; rfl
end Go.Proofs.GoC
