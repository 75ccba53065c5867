/-
  The law GrantLets. No claim by itself.
-/
import Derived.Test.YtjjkidldccebjaaGoGrantS
import Derived.Test.YtjjkidldccebjaaGoGrantI
namespace Go.Proofs.GoC
open Go Go.Proofs.SL
set_option linter.unusedSimpArgs false
set_option linter.unusedVariables false
set_option maxRecDepth 10000
set_option maxHeartbeats 4000000

def intsV (l : List Int) : List PV := l.map fun n => .int .i64 n
@[go_sem] theorem intsV_len {l : List Int} : (intsV l).length = l.length := List.length_map ..
theorem intsV_get {l : List Int} {n : Nat} (h : n < l.length) : (intsV l).getD n .any = .int .i64 (l.getD n 0) := by
  simp [intsV, List.getD_eq_getElem?_getD, h]

/-- What digits read. -/
def valD (l : List UInt8) : Nat := l.foldl (fun a c => a * 10 + (c.toNat - 48)) 0
theorem valD_dec (n : Nat) : valD (decF n) = n := by
  induction n using Nat.strongRecOn with
  | _ n ih =>
    unfold decF
    have hd : (UInt8.ofNat (48 + n % 10)).toNat - 48 = n % 10 := by
      rw [UInt8.toNat_ofNat']; omega
    split
    · show 0 * 10 + ((UInt8.ofNat (48 + n % 10)).toNat - 48) = n
      rw [hd]; omega
    · have h1 := ih (n / 10) (by omega)
      unfold valD at h1 ⊢
      rw [List.foldl_append, h1]
      show n / 10 * 10 + ((UInt8.ofNat (48 + n % 10)).toNat - 48) = n
      rw [hd]; omega
theorem decF_inj {m n : Nat} (h : decF m = decF n) : m = n := by rw [← valD_dec m, h, valD_dec]

theorem putR_mem {room : Int} {gs : Grants} {k : GKey} {u now : Int} {e : GKey × Int} (h : e ∈ (putR room gs k u now).1) : e = (k, u) ∨ e ∈ gs := by
  unfold putR at h
  split at h
  · exact .inr h
  · rcases List.mem_cons.mp (ins_perm.mem_iff.mp h) with h | h
    · exact .inl h
    · refine .inr ?_
      unfold midR at h
      split at h
      · rcases List.mem_append.mp h with h | h
        · exact List.mem_of_mem_take h
        · exact List.mem_of_mem_drop h
      · split at h
        · split at h
          · rcases List.mem_append.mp h with h | h
            · exact List.mem_of_mem_take h
            · exact List.mem_of_mem_drop h
          · exact (List.mem_filter.mp h).1
        · exact h
theorem putR_lets {room : Int} {gs : Grants} {k : GKey} {u : Int} (hu : 0 < u) (hk : k ∉ gs.map (·.1)) (hp : ∀ e ∈ gs, 0 < e.2) :
    (putR room gs k u 0).2 = if (gs.length : Int) = room then ((gs.getD (bestN gs gs.length) (key0, 0)).1, true) else (key0, false) := by
  have hl : liveG 0 gs = gs := List.filter_eq_self.mpr fun e he => decide_eq_true (hp e he)
  unfold putR
  rw [if_neg (by omega)]
  unfold midR
  rw [idx_none hk, if_neg (by decide), hl]
  split <;> rfl

/-- The least one of the first so many. -/
def leastG (gs : Grants) (j : Nat) : GKey × Int := if j = 0 then (key0, 0) else gs.getD (bestN gs j) (key0, 0)
theorem least_step {gs : Grants} {j : Nat} (h : j = 0 ∨ (gs.getD j (key0, 0)).2 < (leastG gs j).2) : leastG gs (j + 1) = gs.getD j (key0, 0) := by
  unfold leastG at h ⊢
  rw [if_neg (by omega)]
  rcases h with h | h
  · subst h
    unfold bestN
    split <;> rfl
  · by_cases h0 : j = 0
    · subst h0
      unfold bestN
      split <;> rfl
    · rw [if_neg h0] at h
      unfold bestN
      rw [if_pos h]
theorem least_stay {gs : Grants} {j : Nat} (h0 : j ≠ 0) (h : ¬ (gs.getD j (key0, 0)).2 < (leastG gs j).2) : leastG gs (j + 1) = leastG gs j := by
  unfold leastG at h ⊢
  rw [if_neg h0] at h
  rw [if_neg (by omega), if_neg h0]
  conv => lhs; unfold bestN
  rw [if_neg h]
theorem least_ok {gs : Grants} (hg : KeysOk gs) (j : Nat) (hj : j ≤ gs.length) : KeyOk (leastG gs j).1 := by
  unfold leastG
  split
  · exact key0_ok
  · have hb := bestN_lt (gs := gs) (n := j) (by omega) hj
    exact hg _ (by rw [List.getD_eq_getElem?_getD, List.getElem?_eq_getElem hb]; exact List.getElem_mem hb)

def keyL (n : Nat) : GKey := ⟨⟨[], [], 0⟩, ⟨[], [], 0⟩, decF n, 4, z16⟩
theorem keyL_ok {n : Nat} : KeyOk (keyL n) := ⟨rfl, fun b hb => key0_ok.le b hb⟩

structure GLS where
  K : Heap
  es : Grants
  gs : Grants
  n : Nat
structure GLI (H : Heap) (room : Int) (l : List Int) (a : GLS) : Prop where
  bk : BkAt a.K (H.length + 1) H.length room a.es
  same : Same3 room a.es a.gs
  rf : a.K[H.length + 2]? = some (some (.cells 0 [.int .i64 room, .sl 25 (gsV a.gs)]))
  keep : Keeps [] H a.K
  le : a.n ≤ l.length
  le70 : a.n ≤ 70
  pos : ∀ e ∈ a.gs, 0 < e.2
  meth : ∀ e ∈ a.gs, ∃ m, m < a.n ∧ e.1.meth = decF m

theorem c_abatislaw18_GrantLets (room0 : Int) (l : List Int) (hl : ∀ x ∈ l, -9223372036854775808 ≤ x ∧ x ≤ 9223372036854775807) (hlen : l.length ≤ 9223372036854775807) :
    GCall 5 [.int .i64 room0, .sl 1 (intsV l)] (.bool true) := by
  intro H hG
  refine scall_of (ord := ordQ) (rs := [4]) Try.func5 rfl (by kernel_rfl) (by kernel_rfl) (by kernel_rfl) Try.ntmps5 fun hb hargs => go 200 (fun _ => false) mixed ?_
  simp (disch := omega) only [↓reduceIte, go_sem] <;> repeat with_reducible refine And.intro (by first | omega | decide) ?_
  refine (c_grant_New room0).mono fun r H1 ⟨e1, e2⟩ => ?_
  rw [e1, e2]
  refine go 200 (fun _ => false) mixed ?_
  simp (disch := omega) only [↓reduceIte, go_sem] <;> repeat with_reducible refine And.intro (by first | omega | decide) ?_
  refine (c_abatisref18_New room0).on (go 200 (fun _ => false) mixed ?_)
  simp (disch := omega) only [↓reduceIte, go_sem, rbV] <;> repeat with_reducible refine And.intro (by first | omega | decide) ?_
  have r1 := roomF_1 (n := room0)
  have r2 := roomF_64 (n := room0)
  have r3 : roomF room0 = if 1 < (if room0 < 64 then room0 else 64) then (if room0 < 64 then room0 else 64) else 1 := by
    unfold roomF; simp only; split <;> split <;> split <;> (try split) <;> omega
  generalize roomF room0 = room at *
  refine runs_loopA (GLI H room l) (fun a => l.length - a.n) [true, true, false, false, true, true, true, true]
    (fun a => slots 119 [.int .i64 room0, .sl 1 (intsV l), .any, .any, .bool false, .ptr (H.length + 1) 0 0, .ptr (H.length + 2) 0 0, .int .i64 a.n]) (fun a => a.K) (by rfl) ⟨_, [], [], 0⟩
    ⟨⟨by show _ = _; rw [get_tail]; rfl, by show _ = _; rw [get_tail0]; rfl, by intro e he; cases he⟩, Same3.nil (by omega), by show _ = _; rw [get_tail]; rfl, Keeps.app, Nat.zero_le _, Nat.zero_le _, (by intro e he; cases he), (by intro e he; cases he)⟩ rfl rfl ?_
  rintro ⟨K, es, gs, n⟩ ⟨hbk, hsame, hrf, hkeep, hle, hle70, hpos, hmeth⟩
  dsimp only at hbk hsame hrf hkeep hle hle70 hpos hmeth ⊢
  have orf := obj_of hrf
  have hl2 := lt_of_get hrf
  have hgl := hsame.len
  refine go 200 (fun _ => false) mixed ?_
  by_cases hlt : n < l.length
  · by_cases h70 : n < 70
    · have dg := intsV_get hlt
      have hb_ := hl (l.getD n 0) (by rw [List.getD_eq_getElem?_getD, List.getElem?_eq_getElem hlt]; exact List.getElem_mem hlt)
      generalize l.getD n 0 = x at *
      have ha := aroundF_lt x (by decide : 0 < 1000)
      have hz0 : keyC (keyL n) = [.str (bs []), .str (bs []), .int .i64 0, .str (bs []), .str (bs []), .int .i64 0, .str (bs (decF n)), .int .i64 4, .int .u8 0, .int .u8 0, .int .u8 0, .int .u8 0, .int .u8 0, .int .u8 0, .int .u8 0, .int .u8 0, .int .u8 0, .int .u8 0, .int .u8 0, .int .u8 0, .int .u8 0, .int .u8 0, .int .u8 0, .int .u8 0] := rfl
      have hg0 : gC (leastG gs 0) = [.str (bs []), .str (bs []), .int .i64 0, .str (bs []), .str (bs []), .int .i64 0, .str (bs []), .int .i64 0, .int .u8 0, .int .u8 0, .int .u8 0, .int .u8 0, .int .u8 0, .int .u8 0, .int .u8 0, .int .u8 0, .int .u8 0, .int .u8 0, .int .u8 0, .int .u8 0, .int .u8 0, .int .u8 0, .int .u8 0, .int .u8 0, .int .i64 0] := rfl
      simp (disch := omega) only [↓reduceIte, go_sem, hlt, h70, dg] <;> repeat with_reducible refine And.intro (by first | omega | decide) ?_
      refine (c_abatisref01_Around x hb_.1 hb_.2 1000 (by decide)).on (go 200 (fun _ => false) mixed ?_)
      simp (disch := omega) only [↓reduceIte, go_sem] <;> repeat with_reducible refine And.intro (by first | omega | decide) ?_
      generalize hw : 1 + aroundF x 1000 = u at *
      refine (c_abatisref01_Decimal n (by omega)).on (go 200 (fun _ => false) mixed ?_)
      simp (disch := omega) only [↓reduceIte, go_sem, orf] <;> repeat with_reducible refine And.intro (by first | omega | decide) ?_
      refine runs_loopA (fun j : Nat => j ≤ gs.length) (fun j => gs.length - j) [true, true, false, false, true, true, true, true, true, true, true, true, true]
        (fun j => slots 119 [.int .i64 room0, .sl 1 (intsV l), .any, .any, .bool false, .ptr (H.length + 1) 0 0, .ptr (H.length + 2) 0 0, .int .i64 n, .int .i64 u, .ptr K.length 0 0, .bool (decide ((gs.length : Int) = room)), .ptr (K.length + 1) 0 0, .int .i64 j])
        (fun j => K ++ [some (.cells 0 (keyC (keyL n))), some (.cells 0 (gC (leastG gs j)))]) (by rfl) 0 (Nat.zero_le _) rfl (by rw [hz0, hg0]) ?_
      intro j hj
      have hk1 := least_ok hsame.two.ok2 j hj
      have hkL := keyC_len (keyL_ok (n := n))
      refine go 200 (fun _ => false) mixed ?_
      by_cases hlj : j < gs.length
      · have gg := gsV_get hlj
        have hm : KeyOk (gs.getD j (key0, 0)).1 := hsame.two.ok2 _ (by rw [List.getD_eq_getElem?_getD, List.getElem?_eq_getElem hlj]; exact List.getElem_mem hlj)
        have s1 := @least_step gs j
        have s2 := @least_stay gs j
        generalize leastG gs j = m at *
        generalize gs.getD j (key0, 0) = e at *
        have l1 := gC_len hm
        have l2 := gC_len hk1
        have u1 := gC_until hm
        have u2 := gC_until hk1
        have t1 := gC_take hm
        have d2 : List.drop 25 (gC m) = [] := List.drop_eq_nil_of_le (by omega)
        by_cases hj0 : j = 0
        · have hst := s1 (.inl hj0)
          subst hj0
          simp (disch := omega) only [↓reduceIte, go_sem, hlj, orf, gg, l1, u1, t1, l2, u2, d2, gC_one] <;> repeat with_reducible refine And.intro (by first | omega | decide) ?_
          exact rnd_next (0 + 1) hlj (by show gs.length - (0 + 1) < gs.length - 0; omega) rfl (by rw [hst])
        · by_cases hlt2 : e.2 < m.2
          · have hst := s1 (.inr hlt2)
            simp (disch := omega) only [↓reduceIte, go_sem, hlj, hj0, orf, gg, l1, u1, t1, l2, u2, d2, gC_one, hlt2] <;> repeat with_reducible refine And.intro (by first | omega | decide) ?_
            exact rnd_next (j + 1) hlj (by show gs.length - (j + 1) < gs.length - j; omega) rfl (by rw [hst])
          · have hst := s2 hj0 hlt2
            simp (disch := omega) only [↓reduceIte, go_sem, hlj, hj0, orf, gg, l1, u1, t1, l2, u2, d2, gC_one, hlt2] <;> repeat with_reducible refine And.intro (by first | omega | decide) ?_
            exact rnd_next (j + 1) hlj (by show gs.length - (j + 1) < gs.length - j; omega) rfl (by rw [hst])
      · have kt := keyC_take (keyL_ok (n := n))
        simp (disch := omega) only [↓reduceIte, go_sem, hlj, orf, hkL, kt] <;> repeat with_reducible refine And.intro (by first | omega | decide) ?_
        have hj2 : j = gs.length := by omega
        subst hj2
        have hkn : keyL n ∉ gs.map (·.1) := fun hx => by
          obtain ⟨e, he, hek⟩ := List.mem_map.mp hx
          obtain ⟨m, hm, hme⟩ := hmeth e he
          rw [hek] at hme
          have := decF_inj (show decF n = decF m from hme)
          omega
        have hput := c_abatisref18_Put room r1 gs hsame.two.ok2 (by omega) (keyL n) keyL_ok u 0
        have hlets := putR_lets (room := room) (u := (u : Int)) (by omega) hkn hpos
        have hbook := fun B L => c_grant_Book_Put (hbk.setApp (n := H.length + 2) (x := B) (L := L) (by omega) (by omega)) hsame r1 r2 (keyL n) keyL_ok u 0
        have hmem := fun e => @putR_mem room gs (keyL n) u 0 e
        have hgone := putR_gone (k := keyL n) (u := (u : Int)) (now := 0) r1 hsame.two.ok2
        generalize putR room gs (keyL n) u 0 = pr at *
        obtain ⟨gs1, g, b⟩ := pr
        dsimp only at hput hlets hbook hmem hgone
        have gl := keyC_len hgone
        have gt := keyC_take hgone
        have gg := keyC_tag hgone
        unfold rbV at hput
        refine go 200 (fun _ => false) mixed ?_
        simp (disch := omega) only [↓reduceIte, go_sem, orf, hkL, kt] <;> repeat with_reducible refine And.intro (by first | omega | decide) ?_
        refine hput.on (go 5 (fun _ => false) mixed ?_)
        simp (disch := omega) only [↓reduceIte, go_sem, orf, hkL, kt, gl, keyC_one] <;> repeat with_reducible refine And.intro (by first | omega | decide) ?_
        refine go 3 (fun _ => false) mixed ?_
        simp (disch := omega) only [↓reduceIte, go_sem, orf, hkL, kt, gl, keyC_one] <;> repeat with_reducible refine And.intro (by first | omega | decide) ?_
        refine go 3 (fun _ => false) mixed ?_
        simp (disch := omega) only [↓reduceIte, go_sem, orf, hkL, kt, gl, keyC_one] <;> repeat with_reducible refine And.intro (by first | omega | decide) ?_
        refine go 3 (fun _ => false) mixed ?_
        simp (disch := omega) only [↓reduceIte, go_sem, orf, hkL, kt, gl, keyC_one] <;> repeat with_reducible refine And.intro (by first | omega | decide) ?_
        refine go 3 (fun _ => false) mixed ?_
        simp (disch := omega) only [↓reduceIte, go_sem, orf, hkL, kt, gl, keyC_one] <;> repeat with_reducible refine And.intro (by first | omega | decide) ?_
        refine go 200 (fun _ => false) mixed ?_
        simp (disch := omega) only [↓reduceIte, go_sem, orf, hkL, kt, gl, keyC_one] <;> repeat with_reducible refine And.intro (by first | omega | decide) ?_
        refine (hbook _ _).mono fun r H2 ⟨es2, e1, hB2, hs2, _, k2⟩ => ?_
        rw [e1]
        have hrf2 : H2[H.length + 2]? = some (some (.cells 0 [.int .i64 room, .sl 25 (gsV gs1)])) := k2.get (get_app (get_set_self hl2)) (by simp)
        have hlst2 : H2[K.length + 1]? = some (some (.cells 0 (gC (leastG gs gs.length)))) := k2.get (by rw [get_tails]; rfl) (by simp; omega)
        have orf2 := obj_of hrf2
        have olst2 := obj_of hlst2
        have l22 := lt_of_get hrf2
        have l23 := lt_of_get hlst2
        have hlen2 := c_grant_Book_Len (hB2.app (L := [some (.cells 0 (keyC g))]))
        rw [hs2.two.len] at hlen2
        have hle2 := hs2.len
        have hkk : Keeps [] H (H2 ++ [some (.cells 0 (keyC g))]) := ((hkeep.mono (G := [H.length, H.length + 2]) (by simp)).trans ((Keeps.setF (i := H.length + 2) (by simp)).trans (Keeps.app.trans ((k2.mono (by simp)).trans Keeps.app)))).mono (by simp)
        have hgi : GLI H room l ⟨H2 ++ [some (.cells 0 (keyC g))], es2, gs1, n + 1⟩ := ⟨hB2.app, hs2, get_app hrf2, hkk, hlt, h70, fun e he => by
            rcases hmem e he with rfl | h
            · show (0 : Int) < u; omega
            · exact hpos e h, fun e he => by
            rcases hmem e he with rfl | h
            · exact ⟨n, Nat.lt_succ_self n, rfl⟩
            · obtain ⟨m, hm, h2⟩ := hmeth e h
              exact ⟨m, Nat.lt_succ_of_lt hm, h2⟩⟩
        have gl2 := gC_len hk1
        have gk2 := gC_key hk1
        have gtg := keyC_tag hk1
        refine go 10 (fun _ => false) mixed ?_
        simp (disch := omega) only [↓reduceIte, go_sem, gl, gt, keyC_one] <;> repeat with_reducible refine And.intro (by first | omega | decide) ?_
        by_cases hfull : (gs.length : Int) = room
        · have hll : gs.getD (bestN gs gs.length) (key0, 0) = leastG gs gs.length := by unfold leastG; rw [if_neg (by omega)]
          rw [if_pos hfull, hll] at hlets
          obtain ⟨rfl, rfl⟩ := Prod.mk.injEq .. ▸ hlets
          refine go 2 (fun _ => false) mixed ?_
          simp (disch := omega) only [↓reduceIte, go_sem, hfull, orf2] <;> repeat with_reducible refine And.intro (by first | omega | decide) ?_
          refine go 2 (fun _ => false) mixed ?_
          simp (disch := omega) only [↓reduceIte, go_sem, hfull, orf2] <;> repeat with_reducible refine And.intro (by first | omega | decide) ?_
          refine go 2 (fun _ => false) mixed ?_
          simp (disch := omega) only [↓reduceIte, go_sem, hfull, orf2] <;> repeat with_reducible refine And.intro (by first | omega | decide) ?_
          refine go 2 (fun _ => false) mixed ?_
          simp (disch := omega) only [↓reduceIte, go_sem, hfull, orf2] <;> repeat with_reducible refine And.intro (by first | omega | decide) ?_
          refine go 200 (fun _ => false) mixed ?_
          simp (disch := omega) only [↓reduceIte, go_sem, hfull, orf2] <;> repeat with_reducible refine And.intro (by first | omega | decide) ?_
          refine hlen2.onq (go 2 (fun _ => false) mixed ?_)
          simp (disch := omega) only [↓reduceIte, go_sem, orf2] <;> repeat with_reducible refine And.intro (by first | omega | decide) ?_
          refine go 2 (fun _ => false) mixed ?_
          simp (disch := omega) only [↓reduceIte, go_sem, orf2] <;> repeat with_reducible refine And.intro (by first | omega | decide) ?_
          refine go 2 (fun _ => false) mixed ?_
          simp (disch := omega) only [↓reduceIte, go_sem, orf2] <;> repeat with_reducible refine And.intro (by first | omega | decide) ?_
          refine go 2 (fun _ => false) mixed ?_
          simp (disch := omega) only [↓reduceIte, go_sem, orf2] <;> repeat with_reducible refine And.intro (by first | omega | decide) ?_
          refine go 2 (fun _ => false) mixed ?_
          simp (disch := omega) only [↓reduceIte, go_sem, orf2] <;> repeat with_reducible refine And.intro (by first | omega | decide) ?_
          refine go 2 (fun _ => false) mixed ?_
          simp (disch := omega) only [↓reduceIte, go_sem, orf2] <;> repeat with_reducible refine And.intro (by first | omega | decide) ?_
          refine go 2 (fun _ => false) mixed ?_
          simp (disch := omega) only [↓reduceIte, go_sem, orf2] <;> repeat with_reducible refine And.intro (by first | omega | decide) ?_
          refine go 2 (fun _ => false) mixed ?_
          simp (disch := omega) only [↓reduceIte, go_sem, orf2] <;> repeat with_reducible refine And.intro (by first | omega | decide) ?_
          refine hlen2.onq (go 2 (fun _ => false) mixed ?_)
          simp (disch := omega) only [↓reduceIte, go_sem, orf2] <;> repeat with_reducible refine And.intro (by first | omega | decide) ?_
          refine go 2 (fun _ => false) mixed ?_
          simp (disch := omega) only [↓reduceIte, go_sem, orf2] <;> repeat with_reducible refine And.intro (by first | omega | decide) ?_
          refine go 2 (fun _ => false) mixed ?_
          simp (disch := omega) only [↓reduceIte, go_sem, orf2] <;> repeat with_reducible refine And.intro (by first | omega | decide) ?_
          refine go 2 (fun _ => false) mixed ?_
          simp (disch := omega) only [↓reduceIte, go_sem, orf2] <;> repeat with_reducible refine And.intro (by first | omega | decide) ?_
          refine go 2 (fun _ => false) mixed ?_
          simp (disch := omega) only [↓reduceIte, go_sem, orf2] <;> repeat with_reducible refine And.intro (by first | omega | decide) ?_
          refine go 2 (fun _ => false) mixed ?_
          simp (disch := omega) only [↓reduceIte, go_sem, orf2] <;> repeat with_reducible refine And.intro (by first | omega | decide) ?_
          intro _
          refine go 3 (fun _ => false) mixed ?_
          simp (disch := omega) only [↓reduceIte, go_sem, olst2, gl, gt, gl2, gk2, gtg] <;> repeat with_reducible refine And.intro (by first | omega | decide) ?_
          refine go 3 (fun _ => false) mixed ?_
          simp (disch := omega) only [↓reduceIte, go_sem, olst2, gl, gt, gl2, gk2, gtg] <;> repeat with_reducible refine And.intro (by first | omega | decide) ?_
          refine go 3 (fun _ => false) mixed ?_
          simp (disch := omega) only [↓reduceIte, go_sem, olst2, gl, gt, gl2, gk2, gtg] <;> repeat with_reducible refine And.intro (by first | omega | decide) ?_
          refine go 200 (fun _ => false) mixed ?_
          simp (disch := omega) only [↓reduceIte, go_sem, olst2, gl, gt, gl2, gk2, gtg] <;> repeat with_reducible refine And.intro (by first | omega | decide) ?_
          exact rnd_next ⟨_, es2, gs1, n + 1⟩ hgi (by show l.length - (n + 1) < l.length - n; omega) rfl rfl
        · rw [if_neg hfull] at hlets
          obtain ⟨rfl, rfl⟩ := Prod.mk.injEq .. ▸ hlets
          refine go 2 (fun _ => false) mixed ?_
          simp (disch := omega) only [↓reduceIte, go_sem, hfull, orf2] <;> repeat with_reducible refine And.intro (by first | omega | decide) ?_
          refine go 2 (fun _ => false) mixed ?_
          simp (disch := omega) only [↓reduceIte, go_sem, hfull, orf2] <;> repeat with_reducible refine And.intro (by first | omega | decide) ?_
          refine go 2 (fun _ => false) mixed ?_
          simp (disch := omega) only [↓reduceIte, go_sem, hfull, orf2] <;> repeat with_reducible refine And.intro (by first | omega | decide) ?_
          refine go 2 (fun _ => false) mixed ?_
          simp (disch := omega) only [↓reduceIte, go_sem, hfull, orf2] <;> repeat with_reducible refine And.intro (by first | omega | decide) ?_
          refine go 200 (fun _ => false) mixed ?_
          simp (disch := omega) only [↓reduceIte, go_sem, hfull, orf2] <;> repeat with_reducible refine And.intro (by first | omega | decide) ?_
          refine hlen2.onq (go 2 (fun _ => false) mixed ?_)
          simp (disch := omega) only [↓reduceIte, go_sem, orf2] <;> repeat with_reducible refine And.intro (by first | omega | decide) ?_
          refine go 2 (fun _ => false) mixed ?_
          simp (disch := omega) only [↓reduceIte, go_sem, orf2] <;> repeat with_reducible refine And.intro (by first | omega | decide) ?_
          refine go 2 (fun _ => false) mixed ?_
          simp (disch := omega) only [↓reduceIte, go_sem, orf2] <;> repeat with_reducible refine And.intro (by first | omega | decide) ?_
          refine go 2 (fun _ => false) mixed ?_
          simp (disch := omega) only [↓reduceIte, go_sem, orf2] <;> repeat with_reducible refine And.intro (by first | omega | decide) ?_
          refine go 2 (fun _ => false) mixed ?_
          simp (disch := omega) only [↓reduceIte, go_sem, orf2] <;> repeat with_reducible refine And.intro (by first | omega | decide) ?_
          refine go 2 (fun _ => false) mixed ?_
          simp (disch := omega) only [↓reduceIte, go_sem, orf2] <;> repeat with_reducible refine And.intro (by first | omega | decide) ?_
          refine go 2 (fun _ => false) mixed ?_
          simp (disch := omega) only [↓reduceIte, go_sem, orf2] <;> repeat with_reducible refine And.intro (by first | omega | decide) ?_
          refine go 2 (fun _ => false) mixed ?_
          simp (disch := omega) only [↓reduceIte, go_sem, orf2] <;> repeat with_reducible refine And.intro (by first | omega | decide) ?_
          refine hlen2.onq (go 2 (fun _ => false) mixed ?_)
          simp (disch := omega) only [↓reduceIte, go_sem, orf2] <;> repeat with_reducible refine And.intro (by first | omega | decide) ?_
          refine go 2 (fun _ => false) mixed ?_
          simp (disch := omega) only [↓reduceIte, go_sem, orf2] <;> repeat with_reducible refine And.intro (by first | omega | decide) ?_
          refine go 2 (fun _ => false) mixed ?_
          simp (disch := omega) only [↓reduceIte, go_sem, orf2] <;> repeat with_reducible refine And.intro (by first | omega | decide) ?_
          refine go 2 (fun _ => false) mixed ?_
          simp (disch := omega) only [↓reduceIte, go_sem, orf2] <;> repeat with_reducible refine And.intro (by first | omega | decide) ?_
          refine go 2 (fun _ => false) mixed ?_
          simp (disch := omega) only [↓reduceIte, go_sem, orf2] <;> repeat with_reducible refine And.intro (by first | omega | decide) ?_
          refine go 2 (fun _ => false) mixed ?_
          simp (disch := omega) only [↓reduceIte, go_sem, orf2] <;> repeat with_reducible refine And.intro (by first | omega | decide) ?_
          intro _
          refine go 200 (fun _ => false) mixed ?_
          simp (disch := omega) only [↓reduceIte, go_sem] <;> repeat with_reducible refine And.intro (by first | omega | decide) ?_
          exact rnd_next ⟨_, es2, gs1, n + 1⟩ hgi (by show l.length - (n + 1) < l.length - n; omega) rfl rfl
    · have hexit : n = 70 := by omega
      subst hexit
      simp (disch := omega) only [↓reduceIte, go_sem, hlt] <;> repeat with_reducible refine And.intro (by first | omega | decide) ?_
      refine go 200 (fun _ => false) mixed ?_
      simp (disch := omega) only [↓reduceIte, go_sem] <;> repeat with_reducible refine And.intro (by first | omega | decide) ?_
      refine c_abatislaw18_lives.on (go 200 (fun _ => false) mixed ?_)
      simp (disch := omega) only [↓reduceIte, go_sem] <;> repeat with_reducible refine And.intro (by first | omega | decide) ?_
      obtain ⟨L, rfl⟩ : ∃ L, K = H ++ L := hkeep.nil_split
      exact fin_drop (.inr rfl) hb rfl (by simp)
  · simp (disch := omega) only [↓reduceIte, go_sem, hlt] <;> repeat with_reducible refine And.intro (by first | omega | decide) ?_
    refine go 200 (fun _ => false) mixed ?_
    simp (disch := omega) only [↓reduceIte, go_sem] <;> repeat with_reducible refine And.intro (by first | omega | decide) ?_
    refine c_abatislaw18_lives.on (go 200 (fun _ => false) mixed ?_)
    simp (disch := omega) only [↓reduceIte, go_sem] <;> repeat with_reducible refine And.intro (by first | omega | decide) ?_
    obtain ⟨L, rfl⟩ : ∃ L, K = H ++ L := hkeep.nil_split
    exact fin_drop (.inr rfl) hb rfl (by simp)
end Go.Proofs.GoC
