/-
  What the functions compute: a message's bytes. No claim by itself.
-/
import Derived.Test.YtmgemdgbffmnjaaGoWireF
import Derived.Test.YtmgemdgbffmnjaaGoMapR
namespace Go.Proofs.GoC
open Go Go.Proofs.SL
set_option linter.unusedSimpArgs false
set_option linter.unusedVariables false
set_option maxRecDepth 10000
set_option maxHeartbeats 8000000

/-- A writer's bytes, cloned: to be changed yet. -/
theorem clone_buf {H : Heap} {bv : PV} {B : List UInt8} (h : BufAt H bv B) (hl : B.length < 1000000000) (hne : B ≠ []) :
    SCall Try.prog 66 [bv] H fun r H' => r = .buf H.length 1 0 B.length 1 true ∧ H' = H ++ [some (.cells 1 (bys B))] := by
  refine scall_of (ord := fun _ => []) (rs := [2]) Try.func66 rfl (by kernel_rfl) (by kernel_rfl) (by kernel_rfl) Try.ntmps66 fun hb hargs => go 200 (fun t => t == 5 || t == 7) mixed ?_
  rcases h with ⟨rfl, rfl⟩ | ⟨iB, vB, rfl, hB, hBn⟩
  · exact absurd rfl hne
  · have o1 := obj_of hB
    have l1 := lt_of_get hB
    have hn : ¬ B.length = 0 := fun e => hBn (List.eq_nil_of_length_eq_zero e)
    simp (disch := omega) only [↓reduceIte, go_sem, o1, hn, most, chunk_bys] <;> repeat with_reducible refine And.intro (by first | omega | decide) ?_
    exact SL.Ends.same (.inr rfl) ⟨rfl, rfl⟩

theorem bytes_buf {H : Heap} {i : Nat} {bv mv : PV} {B : List UInt8} {es : Names} (h : WAt H i bv mv B es) (hl : B.length < 1000000000) (hne : B ≠ []) :
    SCall Try.prog 34 [.ptr i 0 0] H fun r H' => r = .buf H.length 1 0 B.length 1 true ∧ H' = H ++ [some (.cells 1 (bys B))] := by
  have o1 := obj_of h.own
  refine scall_of (ord := fun _ => []) (rs := [2]) Try.func34 rfl (by kernel_rfl) (by kernel_rfl) (by kernel_rfl) Try.ntmps34 fun hb hargs => go 200 (fun _ => false) mixed ?_
  simp (disch := omega) only [↓reduceIte, go_sem, o1] <;> repeat with_reducible refine And.intro (by first | omega | decide) ?_
  refine (clone_buf h.buf hl hne).mono fun r H' ⟨e1, e2⟩ => ?_
  subst e1 e2
  refine go 200 (fun _ => false) mixed ?_
  simp (disch := omega) only [↓reduceIte, go_sem] <;> repeat with_reducible refine And.intro (by first | omega | decide) ?_
  exact SL.Ends.same (.inr rfl) ⟨rfl, rfl⟩

/-! Bounds. -/
theorem mayR_spec {r : Rc} (h : mayR r = true) : mayN r.name = true ∧ (0 ≤ r.ty ∧ r.ty ≤ 65535) ∧ (0 ≤ r.cl ∧ r.cl ≤ 65535) ∧ (0 ≤ r.ttl ∧ r.ttl ≤ 2147483647) ∧ (r.dat.length : Int) ≤ 65535 ∧ (r.ty = 5 → mayN r.tgt = true) := by
  unfold mayR at h
  simp only [Bool.and_eq_true, inAll_iff] at h
  obtain ⟨h1, h2, h3, h4⟩ := h
  refine ⟨h1, h2 _ (by simp), h2 _ (by simp), h3 _ (by simp), (h2 _ (by simp)).2, fun h5 => ?_⟩
  rw [if_neg (by omega), if_neg (by omega), if_pos h5] at h4
  simp only [Bool.and_eq_true] at h4
  exact h4.1
theorem mayQ_spec {q : Qu} (h : mayQ q = true) : mayN q.name = true ∧ (0 ≤ q.ty ∧ q.ty ≤ 65535) ∧ (0 ≤ q.cl ∧ q.cl ≤ 65535) := by
  unfold mayQ at h
  simp only [Bool.and_eq_true, inAll_iff] at h
  exact ⟨h.1, h.2 _ (by simp), h.2 _ (by simp)⟩

theorem wrN_ext : ∀ (n : Nat) (s B : List UInt8) (es : Names), s.length = n → ∃ X es', 0 < X.length ∧ ∀ B' : List UInt8, B'.length = B.length → wrN s B' es = (B' ++ X, es') := by
  intro n
  induction n using Nat.strongRecOn with
  | _ n ih =>
    intro s B es hn
    by_cases hs : s = []
    · subst hs; exact ⟨[0], es, by simp, fun B' _ => wrN_nil B' es⟩
    · cases hf : findN s es with
      | some p => exact ⟨_, es, by simp, fun B' _ => wrN_some hs hf⟩
      | none =>
        obtain ⟨X, es', h0, h⟩ := ih _ (by rw [← hn]; exact dotR_lt hs) (dotR s) (B ++ lab1 (dotL s)) (if B.length < 16384 then es ++ [(s, B.length)] else es) rfl
        refine ⟨lab1 (dotL s) ++ X, es', by simp; omega, fun B' hB => ?_⟩
        rw [wrN_none hs hf, hB, h _ (by simp [hB]), List.append_assoc]
theorem wrN_ge (s B : List UInt8) (es : Names) : B.length < (wrN s B es).1.length := by
  obtain ⟨X, es', h0, h⟩ := wrN_ext _ s B es rfl
  rw [h B rfl, List.length_append]; omega

structure FS2 where
  E : List (Nat × (Nat × Nat))
theorem bys_setn {B : List UInt8} {k n : Nat} : (bys B).set k (.int .u8 ((n % 256 : Nat) : Int)) = bys (B.set k (UInt8.ofNat n)) := by simp [bys, List.map_set]
theorem holes_at {L : List (Nat × (Nat × Nat))} {j : Nat} {e : PV × PV} {b : Nat} (h1 : (holesV (L.map (·.2)))[j]? = some e) (h2 : (L.map (·.1))[j]? = some b) : ∃ k x, (b, k, x) ∈ L ∧ e = (.int .i64 (k : Nat), .int .i64 (x : Nat)) := by
  rw [List.getElem?_map] at h2
  unfold holesV mapV at h1
  rw [List.getElem?_map, List.getElem?_map] at h1
  cases hL : L[j]? with
  | none => rw [hL] at h2; cases h2
  | some y =>
    rw [hL] at h1 h2
    obtain ⟨b', k, x⟩ := y
    simp only [Option.map_some, Option.some.injEq] at h1 h2
    subst h2
    exact ⟨k, x, List.mem_of_getElem? hL, h1.symm⟩

structure QS where
  H : Heap
  bv : PV
  mv : PV
  B : List UInt8
  es : Names
  hs : Holes
  k : Nat

def lstM (m : Ms) : Nat → List Rc
  | 0 => m.an
  | 1 => m.au
  | _ => m.mo
def restM (m : Ms) : Nat → List Rc
  | 0 => m.an ++ (m.au ++ m.mo)
  | 1 => m.au ++ m.mo
  | 2 => m.mo
  | _ => []
theorem restM_step (m : Ms) {k : Nat} (h : k < 3) : restM m k = lstM m k ++ restM m (k + 1) := by
  match k, h with
  | 0, _ => rfl
  | 1, _ => rfl
  | 2, _ => simp [restM, lstM]

theorem c_wire_Write (m : Ms) (hm : MsOk m) (hl0 : m.qs.length < 1000) (hl1 : m.an.length < 1000000) (hl2 : m.au.length < 1000000) (hl3 : m.mo.length < 1000000) (hmay : mayM m = true) {H : Heap} (hG : GTab H) :
    SCall Try.prog 13 [msV m] H fun r H' => r = (match bytesM m with
      | none => .tup [.nils, .int .i64 3]
      | some b => .tup [.sl 1 (bys b), .int .i64 0]) ∧ H' = H := by
  have hMay := c_wire_May m hm
  rw [hmay] at hMay
  obtain ⟨_, _, hq, h1, h2, h3, _⟩ := hm
  unfold mayM at hmay
  simp only [Bool.and_eq_true, List.all_eq_true] at hmay
  obtain ⟨y1, y2, y3, y0, y4⟩ := hmay
  have yid : (0 ≤ m.id ∧ m.id ≤ 65535) ∧ (0 ≤ m.fl ∧ m.fl ≤ 65535) := by rw [inAll_iff] at y0; exact ⟨y0 _ (by simp), y0 _ (by simp)⟩
  have eid : ((m.id.toNat : Nat) : Int) = m.id := Int.toNat_of_nonneg yid.1.1
  have efl : ((m.fl.toNat : Nat) : Int) = m.fl := Int.toNat_of_nonneg yid.2.1
  refine scall_of (ord := fun _ => []) (rs := [2, 3]) Try.func13 rfl (by kernel_rfl) (by kernel_rfl) (by kernel_rfl) Try.ntmps13 fun hb hargs => go 200 (fun _ => false) mixed ?_
  simp (disch := omega) only [↓reduceIte, go_sem, msV, msC] <;> repeat with_reducible refine And.intro (by first | omega | decide) ?_
  refine hMay.on (go 200 (fun _ => false) mixed ?_)
  simp (disch := omega) only [↓reduceIte, go_sem, msV, msC] <;> repeat with_reducible refine And.intro (by first | omega | decide) ?_
  have w0 : WAt (H ++ [some (.cells 0 (msC m)), some (.cells 0 [.nils, .nilm]), some (.map [])]) (H.length + 1) .nils .nilm [] [] :=
    ⟨by rw [get_tail]; rfl, .inl ⟨rfl, rfl⟩, by simp [bufI], .inl ⟨rfl, rfl⟩, by intro e he; cases he⟩
  have hS := c_wire_short w0 [m.id.toNat, m.fl.toNat, m.qs.length, m.an.length, m.au.length, m.mo.length] (by simp) (by
    intro n hn; simp only [List.mem_cons, List.not_mem_nil, or_false] at hn; omega) (by simp)
  rw [show nums [m.id.toNat, m.fl.toNat, m.qs.length, m.an.length, m.au.length, m.mo.length] = [PV.int .i64 m.id, PV.int .i64 m.fl, PV.int .i64 (m.qs.length : Nat), PV.int .i64 (m.an.length : Nat), PV.int .i64 (m.au.length : Nat), PV.int .i64 (m.mo.length : Nat)] by simp [nums, eid, efl]] at hS
  have i0 : WI H (msC m) (H ++ [some (.cells 0 (msC m)), some (.cells 0 [.nils, .nilm]), some (.map [])]) .nils .nilm [] [] (.map (holesV [])) :=
    ⟨w0, by simp [bufI, mapI], fun j hj => List.getElem?_append_left hj, by rw [get_tail0]; rfl, by rw [get_tail]; rfl⟩
  refine hS.mono fun _ H1 ⟨bv1, hW1, hS1⟩ => ?_
  have i1 := i0.step hW1 hS1
  have ob1 := obj_of i1.box
  refine go 200 (fun _ => false) mixed ?_
  simp (disch := omega) only [↓reduceIte, go_sem, ob1, msC] <;> repeat with_reducible refine And.intro (by first | omega | decide) ?_
  refine runs_loopA (fun a : QS => a.k ≤ m.qs.length ∧ WI H (msC m) a.H a.bv a.mv a.B a.es (.map (holesV [])) ∧ quesP m.qs (headM m, []) = quesP (m.qs.drop a.k) (a.B, a.es) ∧ a.B.length ≤ 12 + 600 * a.k ∧ 0 < a.B.length) (fun a => m.qs.length - a.k)
    [false, true, true, true, true, true, false, false, false, false, false, false, false, false, false, false, false, false, false, false, false, false, false, false, false, false, false, false, false, false, false, false, false, false, false, false, false, false, false, true, true, true]
    (fun a => slots 128 [.any, .ptr H.length 0 0, .nils, .int .i64 0, .ptr (H.length + 1) 0 0, .mp (H.length + 2), .any, .any, .any, .any, .any, .any, .any, .any, .any, .any, .any, .any, .any, .any, .any, .any, .any, .any, .any, .any, .any, .any, .any, .any, .any, .any, .any, .any, .any, .any, .any, .any, .any, .sl 3 (qusV m.qs), .int .i64 m.qs.length, .int .i64 a.k]) (fun a => a.H) (by rfl)
    ⟨H1, bv1, .nilm, headM m, [], [], 0⟩ ⟨Nat.zero_le _, i1, rfl, by simp [headM, twos_len], by simp [headM, twos_len]⟩ rfl rfl ?_
  rintro ⟨Ha, bva, mva, Ba, esa, _, k⟩ ⟨hk, hI, hall, hbl, hpos⟩
  change 0 < Ba.length at hpos
  change k ≤ m.qs.length at hk
  change WI H (msC m) Ha bva mva Ba esa (.map (holesV [])) at hI
  change quesP m.qs (headM m, []) = quesP (m.qs.drop k) (Ba, esa) at hall
  change Ba.length ≤ 12 + 600 * k at hbl
  refine go 200 (fun _ => false) mixed ?_
  by_cases hlt : k < m.qs.length
  · obtain ⟨eg, hmq⟩ := getDm (d := qu0) hlt
    rw [List.drop_eq_getElem_cons hlt, eg, quesP] at hall
    have hget := qusV_getD hlt
    obtain ⟨z1, z2, z3⟩ := mayQ_spec (y4 _ hmq)
    have zl := may_len z1
    have zq := queP_len (m.qs.getD k qu0) (Ba, esa)
    have e1 : (((m.qs.getD k qu0).ty.toNat : Nat) : Int) = (m.qs.getD k qu0).ty := Int.toNat_of_nonneg z2.1
    have e2 : (((m.qs.getD k qu0).cl.toNat : Nat) : Int) = (m.qs.getD k qu0).cl := Int.toNat_of_nonneg z3.1
    generalize m.qs.getD k qu0 = q at *
    have hN := name_yes (hI.app (L := [some (.cells 0 (quC q))])).wat ((hI.app (L := [some (.cells 0 (quC q))])).tab hG) q.name (by omega) (by omega) z1
    simp only [quC] at hN
    simp (disch := omega) only [↓reduceIte, go_sem, hlt, hget, quV, quC] <;> repeat with_reducible refine And.intro (by first | omega | decide) ?_
    refine hN.mono fun r H2 ⟨e3, bv2, mv2, hW2, hS2⟩ => ?_
    have hI2 := hI.app.step hW2 hS2
    have oq := obj_of (hI.made hS2)
    have hl2 := wrN_len _ q.name Ba esa rfl
    have hT := c_wire_short hW2 [q.ty.toNat, q.cl.toNat] (by simp) (by
      intro n hn; simp only [List.mem_cons, List.not_mem_nil, or_false] at hn; omega) (by omega)
    rw [show nums [q.ty.toNat, q.cl.toNat] = [PV.int .i64 q.ty, PV.int .i64 q.cl] by simp [nums, e1, e2]] at hT
    refine go 200 (fun _ => false) mixed ?_
    simp (disch := omega) only [↓reduceIte, go_sem, oq] <;> repeat with_reducible refine And.intro (by first | omega | decide) ?_
    refine hT.mono fun r H3 ⟨bv3, hW3, hS3⟩ => ?_
    refine go 200 (fun _ => false) mixed ?_
    simp (disch := omega) only [↓reduceIte, go_sem] <;> repeat with_reducible refine And.intro (by first | omega | decide) ?_
    exact rnd_next ⟨H3, bv3, mv2, _, _, [], k + 1⟩ ⟨hlt, hI2.step hW3 hS3, hall, by show (queP q (Ba, esa)).1.length ≤ 12 + 600 * (k + 1); have zq : (queP q (Ba, esa)).1.length ≤ Ba.length + 2 * q.name.length + 6 := zq; omega, by show 0 < (queP q (Ba, esa)).1.length; simp [queP, twos_len]⟩ (by show m.qs.length - (k + 1) < m.qs.length - k; omega) rfl rfl
  rw [List.drop_eq_nil_of_le (by omega), quesP] at hall
  simp (disch := omega) only [↓reduceIte, go_sem, hlt] <;> repeat with_reducible refine And.intro (by first | omega | decide) ?_
  refine go 200 (fun _ => false) mixed ?_
  simp (disch := omega) only [↓reduceIte, go_sem] <;> repeat with_reducible refine And.intro (by first | omega | decide) ?_
  have hL := c_wire_lists (H := Ha) (i := H.length)
  refine hL.mono fun r H1 ⟨e1, e2⟩ => ?_
  rw [e1, e2]
  have hst : startM m = (Ba, esa, []) := by unfold startM; rw [hall]
  refine go 200 (fun _ => false) mixed ?_
  simp (disch := omega) only [↓reduceIte, go_sem] <;> repeat with_reducible refine And.intro (by first | omega | decide) ?_
  refine runs_loopA (fun a : QS => a.k ≤ 3 ∧ WI H (msC m) a.H a.bv a.mv a.B a.es (.map (holesV a.hs)) ∧ HOk a.hs a.B.length ∧ writeM m = recsP (restM m a.k) (a.B, a.es, a.hs) ∧ 0 < a.B.length ∧ a.B.length ≤ 2000000) (fun a => 3 - a.k)
    [false, true, true, true, true, true, false, false, false, false, false, false, false, false, false, false, false, false, false, false, false, false, false, false, false, false, false, false, false, false, false, false, false, false, false, false, false, false, false, false, false, false, false, false, false, false, false, false, false, false, false, false, false, false, false, true, true, true]
    (fun a => slots 128 [.any, .ptr H.length 0 0, .nils, .int .i64 0, .ptr (H.length + 1) 0 0, .mp (H.length + 2), .any, .any, .any, .any, .any, .any, .any, .any, .any, .any, .any, .any, .any, .any, .any, .any, .any, .any, .any, .any, .any, .any, .any, .any, .any, .any, .any, .any, .any, .any, .any, .any, .any, .any, .any, .any, .any, .any, .any, .any, .any, .any, .any, .any, .any, .any, .any, .any, .any, .sl 1 [.ptr H.length 0 3, .ptr H.length 0 4, .ptr H.length 0 5], .int .i64 3, .int .i64 a.k]) (fun a => a.H) (by rfl)
    ⟨Ha, bva, mva, Ba, esa, [], 0⟩ ⟨Nat.zero_le _, hI, ⟨by simp, by simp⟩, by unfold writeM; rw [hst]; rfl, hpos, by show Ba.length ≤ 2000000; omega⟩ rfl rfl ?_
  clear hI hall hbl hL hst hpos
  rintro ⟨Hb, bvb, mvb, Bb, esb, hsb, k⟩ ⟨hk, hI, hH, hall, hpos, hbl⟩
  change k ≤ 3 at hk
  change WI H (msC m) Hb bvb mvb Bb esb (.map (holesV hsb)) at hI
  change HOk hsb Bb.length at hH
  change writeM m = recsP (restM m k) (Bb, esb, hsb) at hall
  change 0 < Bb.length at hpos
  change Bb.length ≤ 2000000 at hbl
  refine go 200 (fun _ => false) mixed ?_
  by_cases hlt : k < 3
  · rw [restM_step m hlt] at hall
    have hgk : [PV.ptr H.length 0 3, .ptr H.length 0 4, .ptr H.length 0 5].getD k .any = .ptr H.length 0 (3 + k) := by
      match k, hlt with
      | 0, _ => rfl
      | 1, _ => rfl
      | 2, _ => rfl
    have hmk : (msC m).getD (3 + k) .any = .sl 23 (rcsV (lstM m k)) := by
      match k, hlt with
      | 0, _ => rfl
      | 1, _ => rfl
      | 2, _ => rfl
    have hml : (msC m).length = 6 := rfl
    have ob := obj_of hI.box
    have hllen : (lstM m k).length < 1000000 := by
      match k, hlt with
      | 0, _ => exact hl1
      | 1, _ => exact hl2
      | 2, _ => exact hl3
    have hlok : ∀ r ∈ lstM m k, RcOk r ∧ mayR r = true := by
      match k, hlt with
      | 0, _ => exact fun r hr => ⟨h1 r hr, y1 r hr⟩
      | 1, _ => exact fun r hr => ⟨h2 r hr, y2 r hr⟩
      | 2, _ => exact fun r hr => ⟨h3 r hr, y3 r hr⟩
    simp (disch := omega) only [↓reduceIte, go_sem, hlt, hgk, ob, hml, hmk] <;> repeat with_reducible refine And.intro (by first | omega | decide) ?_
    refine runs_loopA (fun a : QS => a.k ≤ (lstM m k).length ∧ WI H (msC m) a.H a.bv a.mv a.B a.es (.map (holesV a.hs)) ∧ HOk a.hs a.B.length ∧ writeM m = recsP ((lstM m k).drop a.k ++ restM m (k + 1)) (a.B, a.es, a.hs) ∧ 0 < a.B.length ∧ a.B.length ≤ 2000000) (fun a => (lstM m k).length - a.k)
      [false, true, true, true, true, true, false, false, false, false, false, false, false, false, false, false, false, false, false, false, false, false, false, false, false, false, false, false, false, false, false, false, false, false, false, false, false, false, false, false, false, false, false, false, false, false, false, false, false, false, false, false, false, false, false, true, true, true, false, false, false, false, false, true, true, true]
      (fun a => slots 128 [.any, .ptr H.length 0 0, .nils, .int .i64 0, .ptr (H.length + 1) 0 0, .mp (H.length + 2), .any, .any, .any, .any, .any, .any, .any, .any, .any, .any, .any, .any, .any, .any, .any, .any, .any, .any, .any, .any, .any, .any, .any, .any, .any, .any, .any, .any, .any, .any, .any, .any, .any, .any, .any, .any, .any, .any, .any, .any, .any, .any, .any, .any, .any, .any, .any, .any, .any, .sl 1 [.ptr H.length 0 3, .ptr H.length 0 4, .ptr H.length 0 5], .int .i64 3, .int .i64 k, .any, .any, .any, .any, .any, .sl 23 (rcsV (lstM m k)), .int .i64 (lstM m k).length, .int .i64 a.k]) (fun a => a.H) (by rfl)
      ⟨Hb, bvb, mvb, Bb, esb, hsb, 0⟩ ⟨Nat.zero_le _, hI, hH, hall, hpos, hbl⟩ rfl rfl ?_
    clear hI hH hall hpos hbl ob
    rintro ⟨Hc, bvc, mvc, Bc, esc, hsc, j⟩ ⟨hj, hI, hH, hall, hpos, hbl⟩
    change j ≤ (lstM m k).length at hj
    change WI H (msC m) Hc bvc mvc Bc esc (.map (holesV hsc)) at hI
    change HOk hsc Bc.length at hH
    change writeM m = recsP ((lstM m k).drop j ++ restM m (k + 1)) (Bc, esc, hsc) at hall
    change 0 < Bc.length at hpos
    change Bc.length ≤ 2000000 at hbl
    refine go 200 (fun _ => false) mixed ?_
    by_cases hjl : j < (lstM m k).length
    · obtain ⟨eg, hmr⟩ := getDm (d := rc0) hjl
      rw [List.drop_eq_getElem_cons hjl, eg, List.cons_append, recsP] at hall
      have hget := rcsV_getD hjl
      obtain ⟨rok, rmay⟩ := hlok _ hmr
      generalize (lstM m k).getD j rc0 = r at *
      have hab := rok.2.2.2.2.1
      have hone : (rcC r).all PV.one = true := by simp [rcC, u8s_one, PV.one]
      have hlen := rcC_len hab
      have htk : List.take 23 (rcC r) = rcC r := List.take_of_length_le (by omega)
      have g0 : (rcC r).getD 0 .any = .str (bs r.name) := rfl
      have g1 : (rcC r).getD 1 .any = .int .i64 r.ty := rfl
      have g2 : (rcC r).getD 2 .any = .int .i64 r.cl := rfl
      have g3 : (rcC r).getD 3 .any = .int .i64 r.ttl := rfl
      have g21 : (rcC r).getD 21 .any = .str (bs r.tgt) := by
        show (u8s r.ab ++ [PV.str (bs r.tgt), PV.str (bs r.dat)]).getD 16 .any = _
        exact u8s_at (k := 0) hab
      have hLen := c_label_Writer_Len (hI.app (L := [some (.cells 0 (rcC r))])).wat
      obtain ⟨z1, z2, z3, z4, z5, z6⟩ := mayR_spec rmay
      have zl := may_len z1
      have hN := name_yes (hI.app (L := [some (.cells 0 (rcC r))])).wat ((hI.app (L := [some (.cells 0 (rcC r))])).tab hG) r.name (by omega) (by omega) z1
      simp (disch := omega) only [↓reduceIte, go_sem, hjl, hget, rcV, hlen, htk, hone] <;> repeat with_reducible refine And.intro (by first | omega | decide) ?_
      refine hLen.mono fun rr Hd ⟨e1, e2⟩ => ?_
      rw [e1, e2]
      refine go 200 (fun _ => false) mixed ?_
      by_cases hlong : 1232 < Bc.length
      · rw [if_pos hlong] at hall
        have hnone : bytesM m = none := by unfold bytesM; rw [hall]
        obtain ⟨L, hL⟩ := split_of (hI.app (L := [some (.cells 0 (rcC r))])).keeps
        simp (disch := omega) only [↓reduceIte, go_sem, hlong] <;> repeat with_reducible refine And.intro (by first | omega | decide) ?_
        rw [hL, hnone]
        exact fin_drop (r := .tup [.nils, .int .i64 3]) (.inr rfl) hb rfl (by simp)
      rw [if_neg hlong] at hall
      simp (disch := omega) only [↓reduceIte, go_sem, hlong, obj_tail0, g0, hlen] <;> repeat with_reducible refine And.intro (by first | omega | decide) ?_
      have ety : ((r.ty.toNat : Nat) : Int) = r.ty := Int.toNat_of_nonneg z2.1
      have ecl : ((r.cl.toNat : Nat) : Int) = r.cl := Int.toNat_of_nonneg z3.1
      obtain ⟨tn, htn⟩ : ∃ n : Nat, r.ttl = n := ⟨r.ttl.toNat, (Int.toNat_of_nonneg z4.1).symm⟩
      have etn : r.ttl.toNat = tn := by rw [htn]; rfl
      rw [htn] at g3 z4
      refine hN.mono fun rr2 H2 ⟨e3, bv2, mv2, hW2, hS2⟩ => ?_
      have hI2 := hI.app.step hW2 hS2
      have or2 := hI.made hS2
      have oo2 := obj_of or2
      have hl2 := wrN_len _ r.name Bc esc rfl
      have hg2 := wrN_ge r.name Bc esc
      have hd : hdR r Bc esc = ((wrN r.name Bc esc).1 ++ twos [r.ty.toNat, r.cl.toNat, tn / 65536, tn], (wrN r.name Bc esc).2) := by unfold hdR; rw [etn]
      have hT := c_wire_short hW2 [r.ty.toNat, r.cl.toNat, tn / 65536, tn] (by simp) (by
        intro n hn; simp only [List.mem_cons, List.not_mem_nil, or_false] at hn; omega) (by omega)
      rw [show nums [r.ty.toNat, r.cl.toNat, tn / 65536, tn] = [PV.int .i64 r.ty, PV.int .i64 r.cl, PV.int .i64 (tn / 65536 : Nat), PV.int .i64 (tn : Nat)] by simp [nums, ety, ecl]] at hT
      refine go 200 (fun _ => false) mixed ?_
      simp (disch := omega) only [↓reduceIte, go_sem, oo2, g1, g2, g3, hlen] <;> repeat with_reducible refine And.intro (by first | omega | decide) ?_
      refine hT.mono fun rr3 H3 ⟨bv3, hW3, hS3⟩ => ?_
      have hI3 := hI2.step hW3 hS3
      have hlt3 := lt_of_get or2
      have or3 : H3[Hc.length]? = some (some (.cells 0 (rcC r))) := by
        rw [hS3.1.2 _ hlt3 fun hm => ?_]
        · exact or2
        · have hl := hI.len
          have hlj := (bufI_lt hI.wat).2
          rcases List.mem_cons.mp hm with e | hm
          · omega
          · rcases hS2.2 _ hm with h | h
            · have := hlj _ h; omega
            · rw [List.length_append] at h; simp at h; omega
      have oo3 := obj_of or3
      have hB3 : ((wrN r.name Bc esc).1 ++ twos [r.ty.toNat, r.cl.toNat, tn / 65536, tn]).length = (wrN r.name Bc esc).1.length + 8 := by rw [List.length_append, twos_len]; rfl
      refine go 200 (fun _ => false) mixed ?_
      by_cases h5 : r.ty = 5
      · have h5t : (r.ty = 5) = True := eq_true h5
        have zt := z6 h5
        have ztl := may_len zt
        have hrec : recP r (Bc, esc, hsc) = ((wrN r.tgt ((wrN r.name Bc esc).1 ++ twos [r.ty.toNat, r.cl.toNat, tn / 65536, tn] ++ twos [0]) (wrN r.name Bc esc).2).1, (wrN r.tgt ((wrN r.name Bc esc).1 ++ twos [r.ty.toNat, r.cl.toNat, tn / 65536, tn] ++ twos [0]) (wrN r.name Bc esc).2).2,
            hsc ++ [(((wrN r.name Bc esc).1 ++ twos [r.ty.toNat, r.cl.toNat, tn / 65536, tn]).length, (wrN r.tgt ((wrN r.name Bc esc).1 ++ twos [r.ty.toNat, r.cl.toNat, tn / 65536, tn] ++ twos [0]) (wrN r.name Bc esc).2).1.length - ((wrN r.name Bc esc).1 ++ twos [r.ty.toNat, r.cl.toNat, tn / 65536, tn]).length - 2)]) := by
          unfold recP; rw [if_pos h5, hd]
        rw [hrec] at hall
        generalize (wrN r.name Bc esc).1 ++ twos [r.ty.toNat, r.cl.toNat, tn / 65536, tn] = B3 at *
        generalize (wrN r.name Bc esc).2 = es3 at *
        have hL3 := c_label_Writer_Len hW3
        have hS3' := c_wire_short hW3 [0] (by simp) (by simp) (by omega)
        rw [show nums [0] = [PV.int .i64 0] from rfl] at hS3'
        simp (disch := omega) only [↓reduceIte, go_sem, oo3, g1, hlen, h5t] <;> repeat with_reducible refine And.intro (by first | omega | decide) ?_
        refine hL3.mono fun rr4 H4' ⟨e4, e5⟩ => ?_
        rw [e4, e5]
        refine go 200 (fun _ => false) mixed ?_
        simp (disch := omega) only [↓reduceIte, go_sem] <;> repeat with_reducible refine And.intro (by first | omega | decide) ?_
        refine hS3'.mono fun rr5 H4 ⟨bv4, hW4, hS4⟩ => ?_
        have hI4 := hI3.step hW4 hS4
        have or4 : H4[Hc.length]? = some (some (.cells 0 (rcC r))) := by
          rw [hS4.1.2 _ (lt_of_get or3) fun hm => ?_]
          · exact or3
          · have hl := hI.len
            have hlj := (bufI_lt hI.wat).2
            rcases List.mem_cons.mp hm with e | hm
            · omega
            · rcases hS3.2 _ hm with h | h
              · rcases hS2.2 _ h with h | h
                · have := hlj _ h; omega
                · rw [List.length_append] at h; simp at h; omega
              · omega
        have oo4 := obj_of or4
        have htw : (B3 ++ twos [0]).length = B3.length + 2 := by rw [List.length_append, twos_len]; rfl
        have hN4 := name_yes hW4 (hI4.tab hG) r.tgt (by omega) (by omega) zt
        have hl5 := wrN_len _ r.tgt (B3 ++ twos [0]) es3 rfl
        have hg5 := wrN_ge r.tgt (B3 ++ twos [0]) es3
        refine go 200 (fun _ => false) mixed ?_
        simp (disch := omega) only [↓reduceIte, go_sem, oo4, g21, hlen] <;> repeat with_reducible refine And.intro (by first | omega | decide) ?_
        refine hN4.mono fun rr6 H5 ⟨e6, bv5, mv5, hW5, hS5⟩ => ?_
        have hI5 := hI4.step hW5 hS5
        have hL5 := c_label_Writer_Len hW5
        generalize (wrN r.tgt (B3 ++ twos [0]) es3).1 = B5 at *
        generalize (wrN r.tgt (B3 ++ twos [0]) es3).2 = es5 at *
        refine go 200 (fun _ => false) mixed ?_
        simp (disch := omega) only [↓reduceIte, go_sem] <;> repeat with_reducible refine And.intro (by first | omega | decide) ?_
        refine hL5.mono fun rr7 H6 ⟨e7, e8⟩ => ?_
        rw [e7, e8]
        have hol5 := hI5.hol
        have hkeys := holes_keys hsc
        have hput := holes_put (k := B5.length - B3.length - 2) (hH.mono (show Bc.length ≤ B3.length by omega)) (Nat.le_refl _)
        have hIs := hI5.set (oh' := .map (holesV (hsc ++ [(B3.length, B5.length - B3.length - 2)])))
        rw [← hput] at hIs
        refine go 200 (fun _ => false) mixed ?_
        simp (disch := omega) only [↓reduceIte, go_sem, hol5, hkeys, hput] <;> repeat with_reducible refine And.intro (by first | omega | decide) ?_
        exact rnd_next ⟨_, bv5, mv5, B5, es5, _, j + 1⟩ ⟨hjl, by show WI H (msC m) _ bv5 mv5 B5 es5 (.map (holesV (hsc ++ [(B3.length, B5.length - B3.length - 2)]))); rw [← hput]; exact hIs, hH.snoc (n' := B5.length) (by show Bc.length ≤ B3.length; omega) (by show B3.length + 2 ≤ B5.length; omega) (by show B5.length - B3.length - 2 ≤ 900000000; omega), hall, by show 0 < B5.length; omega, by show B5.length ≤ 2000000; omega⟩ (by show (lstM m k).length - (j + 1) < (lstM m k).length - j; omega) rfl rfl
      · have hrec : recP r (Bc, esc, hsc) = ((wrN r.name Bc esc).1 ++ twos [r.ty.toNat, r.cl.toNat, tn / 65536, tn] ++ datR r, (wrN r.name Bc esc).2, hsc) := by unfold recP; rw [if_neg h5, hd]
        rw [hrec] at hall
        generalize (wrN r.name Bc esc).1 ++ twos [r.ty.toNat, r.cl.toNat, tn / 65536, tn] = B3 at *
        generalize (wrN r.name Bc esc).2 = es3 at *
        have hD := c_wire_data hW3 r rok (by omega)
        simp only [rcV] at hD
        simp (disch := omega) only [↓reduceIte, go_sem, oo3, g1, hlen, h5, htk] <;> repeat with_reducible refine And.intro (by first | omega | decide) ?_
        refine hD.mono fun rr4 H4 ⟨bv4, hW4, hS4⟩ => ?_
        refine go 200 (fun _ => false) mixed ?_
        simp (disch := omega) only [↓reduceIte, go_sem] <;> repeat with_reducible refine And.intro (by first | omega | decide) ?_
        have hdl : (datR r).length ≤ 65540 := by
          unfold datR
          split
          · simp [two2, b8_len]; omega
          · split
            · simp [two2, b8_len]; omega
            · simp [two2]; omega
        have hdl2 : (B3 ++ datR r).length = B3.length + (datR r).length := List.length_append ..
        exact rnd_next ⟨H4, bv4, mv2, _, _, hsc, j + 1⟩ ⟨hjl, hI3.step hW4 hS4, hH.mono (by show Bc.length ≤ (B3 ++ datR r).length; omega), hall, by show 0 < (B3 ++ datR r).length; omega, by show (B3 ++ datR r).length ≤ 2000000; omega⟩ (by show (lstM m k).length - (j + 1) < (lstM m k).length - j; omega) rfl rfl
    rw [List.drop_eq_nil_of_le (by omega), List.nil_append] at hall
    simp (disch := omega) only [↓reduceIte, go_sem, hjl] <;> repeat with_reducible refine And.intro (by first | omega | decide) ?_
    refine go 200 (fun _ => false) mixed ?_
    simp (disch := omega) only [↓reduceIte, go_sem] <;> repeat with_reducible refine And.intro (by first | omega | decide) ?_
    exact rnd_next ⟨Hc, bvc, mvc, Bc, esc, hsc, k + 1⟩ ⟨by show k + 1 ≤ 3; omega, hI, hH, hall, hpos, hbl⟩ (by show 3 - (k + 1) < 3 - k; omega) rfl rfl
  have hk3 : k = 3 := by omega
  subst hk3
  have hall : writeM m = some (Bb, esb, hsb) := hall
  simp (disch := omega) only [↓reduceIte, go_sem, hlt] <;> repeat with_reducible refine And.intro (by first | omega | decide) ?_
  refine Runs.births (by rfl) hI.hol fun n bs hbl2 hbn hpw => ?_
  have hIs := hI.set (oh' := .mapx n bs (holesV hsb))
  generalize Hb.set (H.length + 2) (some (.mapx n bs (holesV hsb))) = Hs at *
  have hlen : bs.length = hsb.length := by simpa [holesV, mapV] using hbl2
  obtain ⟨L, hL1, hL2⟩ : ∃ L : List (Nat × (Nat × Nat)), L.map (·.1) = bs ∧ L.map (·.2) = hsb := ⟨bs.zip hsb, by rw [List.map_fst_zip (by omega)], by rw [List.map_snd_zip (by omega)]⟩
  subst hL1
  subst hL2
  have hBb := bytes_buf hIs.wat (by omega) (fun e => by rw [e] at hpos; cases hpos)
  have hhol := hIs.hol
  have hls := hIs.len
  refine go 200 (fun _ => false) mixed ?_
  simp (disch := omega) only [↓reduceIte, go_sem] <;> repeat with_reducible refine And.intro (by first | omega | decide) ?_
  refine hBb.mono fun r2 H2 ⟨e1, e2⟩ => ?_
  rw [e1, e2]
  refine go 200 (fun _ => false) mixed ?_
  simp (disch := omega) only [↓reduceIte, go_sem, hhol] <;> repeat with_reducible refine And.intro (by first | omega | decide) ?_
  refine runs_loopA (fun a : FS2 => (a.E.map (·.1)).Nodup ∧ ∀ e ∈ a.E, e ∈ L) (fun a => leftN (a.E.map (·.1)) L)
    [false, false, false, false, false, false, false, false, false, false, false, false, false, true, false, false, false, false, false, false, false, false, false, false, false, false, false, false, false, false, false, false, false, false, false, false, false, false, false, false, false, false, false, false, false, false, false, false, false, false, false, false, false, false, false, false, false, false, false, false, false, false, false, false, false, false, false, false, false, false, false, false, false, false, false, false, false, false, false, false, false, false, false, false, false, false, false, false, false, false, false, false, false, false, false, false, false, false, false, false, false, false, false, false, false, false, true]
    (fun a => slots 128 [.any, .any, .any, .any, .any, .any, .any, .any, .any, .any, .any, .any, .any, .buf Hs.length 1 0 Bb.length 1 true, .any, .any, .any, .any, .any, .any, .any, .any, .any, .any, .any, .any, .any, .any, .any, .any, .any, .any, .any, .any, .any, .any, .any, .any, .any, .any, .any, .any, .any, .any, .any, .any, .any, .any, .any, .any, .any, .any, .any, .any, .any, .any, .any, .any, .any, .any, .any, .any, .any, .any, .any, .any, .any, .any, .any, .any, .any, .any, .any, .any, .any, .any, .any, .any, .any, .any, .any, .any, .any, .any, .any, .any, .any, .any, .any, .any, .any, .any, .any, .any, .any, .any, .any, .any, .any, .any, .any, .any, .any, .any, .any, .any, .ptr (Hs.length + 1) 0 0]) (fun a => Hs ++ [some (.cells 1 (bys (fillP (a.E.map (·.2)) Bb))), some (.mapit (H.length + 2) n (a.E.map (·.1)) n)]) (by rfl) ⟨[]⟩ ⟨by simp, by simp⟩ rfl rfl ?_
  rintro ⟨E⟩ ⟨hn, hE⟩
  change (E.map (·.1)).Nodup at hn
  change ∀ e ∈ E, e ∈ L at hE
  have hflen := fillP_len (E.map (·.2)) Bb
  have hall2 : (List.map (fun x => x.1) L).all (fun b => decide (b < n)) = true := by
    rw [List.all_eq_true]
    exact fun b hb => decide_eq_true (hbn b hb)
  refine go 200 (fun _ => false) mixed ?_
  simp (disch := omega) only [↓reduceIte, go_sem, hhol, hall2] <;> repeat with_reducible refine And.intro (by first | omega | decide) ?_
  rintro v H' (⟨rfl, rfl, hend⟩ | ⟨j', b, e, he, hb', hs, rfl, rfl⟩)
  · refine go 200 (fun _ => false) mixed ?_
    simp (disch := omega) only [↓reduceIte, go_sem] <;> repeat with_reducible refine And.intro (by first | omega | decide) ?_
    have hbn' : (L.map (·.1)).Nodup := by rw [List.nodup_iff_pairwise_ne]; exact hpw.imp fun h => Nat.ne_of_lt h
    have hLn : L.Nodup := List.Pairwise.of_map (S := (· ≠ ·)) (fun x => x.1) (fun a b h e => h (by rw [e])) hbn'
    have hEn : E.Nodup := List.Pairwise.of_map (S := (· ≠ ·)) (fun x => x.1) (fun a b h e => h (by rw [e])) hn
    have hpm : L.Perm E := (List.perm_ext_iff_of_nodup hLn hEn).2 fun a => ⟨fun ha => by
      obtain ⟨a', h1, h2⟩ := List.mem_map.mp (hend a.1 (List.mem_map_of_mem ha))
      rw [same_of_nodup hbn' ha (hE a' h1) h2.symm]; exact h1, hE a⟩
    have hfp := fillP_perm (hpm.map (·.2)) hH.apart Bb
    have hres : bytesM m = if 1232 < Bb.length then none else some (fillP (E.map (·.2)) Bb) := by unfold bytesM; rw [hall, ← hfp]
    generalize fillP (E.map (·.2)) Bb = C at *
    have hkp := hIs.keeps
    refine go 200 (fun _ => false) mixed ?_
    by_cases hlong : 1232 < Bb.length
    · rw [if_pos hlong] at hres
      rw [hres]
      obtain ⟨L', hL'⟩ := split_of hkp
      simp (disch := omega) only [↓reduceIte, go_sem, hlong] <;> repeat with_reducible refine And.intro (by first | omega | decide) ?_
      rw [hL', List.append_assoc]
      exact fin_drop (r := .tup [.nils, .int .i64 3]) (.inr rfl) hb rfl (by simp)
    · rw [if_neg hlong] at hres
      rw [hres]
      simp (disch := omega) only [↓reduceIte, go_sem, hlong] <;> repeat with_reducible refine And.intro (by first | omega | decide) ?_
      obtain ⟨L', hL'⟩ := split_of hkp
      have hge : H.length ≤ Hs.length := by omega
      have hob : (Hs ++ [some (OB.cells 1 (bys C)), some (OB.mapit (H.length + 2) n (List.map (fun x => x.1) E) n)])[Hs.length]? = some (some (.cells 1 (bys C))) := by rw [get_tail0]; rfl
      generalize Hs.length = hs at *
      subst hL'
      rw [List.append_assoc] at hob ⊢
      exact fin_frz 2 (bys C) (.inr rfl) hb rfl hge hob (by rw [flat_bys, ← hflen, sub_bys]) (by rw [bys_len, hflen]) bys_cells (by simp; exact bys_bdd) ⟨rfl, rfl⟩
  · obtain ⟨kk, xx, hmem, rfl⟩ := holes_at he hb'
    have hok := hH.2 (kk, xx) (List.mem_map_of_mem (f := fun x : Nat × (Nat × Nat) => x.2) hmem)
    simp only at hok
    have hfb : findB b (List.map (fun x => x.1) L) (holesV (List.map (fun x => x.2) L)) = some (.int .i64 (kk : Nat), .int .i64 (xx : Nat)) := findB_of hpw hb' he
    have hgl : (List.map (fun x => x.1) E ++ [b]).getLast? = some b := by simp
    have hlt' := left_lt hs (L := L) (List.mem_map_of_mem (f := fun e : Nat × (Nat × Nat) => e.1) hmem)
    have hfa := fillP_app (E.map (·.2)) [(kk, xx)] Bb
    generalize fillP (E.map (·.2)) Bb = C at *
    refine go 200 (fun _ => false) mixed ?_
    simp (disch := omega) only [↓reduceIte, go_sem, hhol, hfb, hgl, hflen, mw_u8, bys_setn, List.length_set] <;> repeat with_reducible refine And.intro (by first | omega | decide) ?_
    refine rnd_next ⟨E ++ [(b, kk, xx)]⟩ ⟨?_, ?_⟩ (by simpa using hlt') ?_ ?_
    · rw [List.map_append]; exact List.nodup_append.mpr ⟨hn, by simp, fun a ha c hc e => by rw [List.map_cons, List.map_nil, List.mem_singleton] at hc; subst hc; exact hs (e ▸ ha)⟩
    · intro e he2
      rcases List.mem_append.mp he2 with h | h
      · exact hE e h
      · simp only [List.mem_singleton] at h; subst h; exact hmem
    · rfl
    · simp only [List.map_append, List.map_cons, List.map_nil, hfa, fillP, fill1]
end Go.Proofs.GoC
