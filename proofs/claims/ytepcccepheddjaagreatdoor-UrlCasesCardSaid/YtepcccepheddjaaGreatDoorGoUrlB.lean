/-
  The law UrlCases. No claim by itself.
-/
import Derived.Test.YtepcccepheddjaaGreatDoorGoUrlA
namespace Go.Proofs.GoC
open Go Go.Proofs.SL
set_option linter.unusedSimpArgs false
set_option linter.unusedVariables false
set_option maxRecDepth 10000
set_option maxHeartbeats 8000000

/-! Great letters. -/
def upB (b : UInt8) : UInt8 := if 97 ≤ b.toNat ∧ b.toNat ≤ 122 then b - 32 else b
def upF (l : List UInt8) : List UInt8 := l.map upB
theorem upB_fact : ∀ k : Fin 256, lowB (upB (UInt8.ofNat k.val)) = lowB (UInt8.ofNat k.val) ∧ digitV (upB (UInt8.ofNat k.val)).toNat = digitV (UInt8.ofNat k.val).toNat ∧
    (upB (UInt8.ofNat k.val) = 58 ↔ UInt8.ofNat k.val = 58) ∧ (upB (UInt8.ofNat k.val) = 46 ↔ UInt8.ofNat k.val = 46) ∧ (upB (UInt8.ofNat k.val) = 91 ↔ UInt8.ofNat k.val = 91) ∧ (upB (UInt8.ofNat k.val) = 93 ↔ UInt8.ofNat k.val = 93) := by decide +kernel
theorem upB_all (b : UInt8) : lowB (upB b) = lowB b ∧ digitV (upB b).toNat = digitV b.toNat ∧ (upB b = 58 ↔ b = 58) ∧ (upB b = 46 ↔ b = 46) ∧ (upB b = 91 ↔ b = 91) ∧ (upB b = 93 ↔ b = 93) := by
  have h := upB_fact ⟨b.toNat, b.toNat_lt⟩
  simp only [UInt8.ofNat_toNat] at h
  exact h
theorem up_nat {b : UInt8} (h : 97 ≤ b.toNat ∧ b.toNat ≤ 122) : (b - 32).toNat = b.toNat - 32 := by
  rw [UInt8.toNat_sub_of_le _ _ (by rw [UInt8.le_iff_toNat_le, show (32 : UInt8).toNat = 32 from rfl]; omega)]; rfl
theorem up_pl {b : UInt8} (h : plB b) : plB (upB b) := by
  unfold upB
  split
  · rename_i hb
    have := up_nat hb
    unfold plB; rw [this]; omega
  · exact h
theorem up_len (l : List UInt8) : (upF l).length = l.length := List.length_map ..
theorem up_app (a b : List UInt8) : upF (a ++ b) = upF a ++ upF b := List.map_append ..
theorem up_low (l : List UInt8) : lowF (upF l) = lowF l := by
  unfold lowF upF
  rw [List.map_map]
  exact List.map_congr_left fun b _ => (upB_all b).1
theorem up_same {l : List UInt8} (h : ∀ b ∈ l, ¬ (97 ≤ b.toNat ∧ b.toNat ≤ 122)) : upF l = l := by
  unfold upF
  conv => rhs; rw [← List.map_id l]
  exact List.map_congr_left fun b hb => if_neg (h b hb)
theorem num_up (base : Int) : ∀ (l : List UInt8) (n : Int), numF base (upF l) n = numF base l n
  | [], n => rfl
  | b :: l, n => by
    show numF base (upB b :: upF l) n = _
    unfold numF
    rw [(upB_all b).2.1, num_up base l]
theorem split_up (sep : UInt8) (hs : ∀ b, upB b = sep ↔ b = sep) : ∀ (l : List UInt8) (acc : List (List UInt8)) (cur : List UInt8), splitA sep (upF l) (acc.map upF) (upF cur) = (splitA sep l acc cur).map upF
  | [], acc, cur => by simp [splitA, upF]
  | b :: l, acc, cur => by
    show splitA sep (upB b :: upF l) _ _ = _
    unfold splitA
    by_cases h : b = sep
    · rw [if_pos ((hs b).mpr h), if_pos h, ← split_up sep hs l]
      simp [upF]
    · rw [if_neg (fun h' => h ((hs b).mp h')), if_neg h, ← split_up sep hs l]
      simp [upF]
theorem hexP_up (p : List UInt8) : hexP (upF p) = hexP p := by
  unfold hexP
  rw [num_up]
  have h1 : upF p = [] ↔ p = [] := List.map_eq_nil_iff
  have h2 := up_len p
  simp only [ne_eq, h1, h2]
theorem num_digits : ∀ (p : List UInt8) (n m : Int), numF 10 p n = some m → ∀ b ∈ p, 48 ≤ b.toNat ∧ b.toNat ≤ 57
  | [], _, _, _, b, hb => by simp at hb
  | a :: p, n, m, h, b, hb => by
    unfold numF at h
    split at h
    · cases h
    · split at h
      · cases h
      · rename_i h1 h2
        rcases List.mem_cons.mp hb with rfl | hb
        · unfold digitV at h1; (repeat' split at h1) <;> omega
        · exact num_digits p _ m h b hb
theorem oct_up (p : List UInt8) : octF (upF p) = octF p := by
  cases hn : numF 10 p 0 with
  | none =>
    unfold octF
    rw [num_up, hn]
  | some n => rw [up_same fun b hb => by have := num_digits p 0 n hn b hb; omega]
theorem octs_up : ∀ ps : List (List UInt8), octs (ps.map upF) = octs ps
  | [] => rfl
  | p :: ps => by
    rw [List.map_cons]
    unfold octs
    rw [oct_up, octs_up ps]
theorem strict_up (p : List UInt8) : strictF (upF p) = strictF p := by
  have h := split_up 46 (fun b => (upB_all b).2.2.2.1) p [] []
  have h' : splitA 46 (upF p) [] [] = (splitA 46 p [] []).map upF := h
  unfold strictF
  rw [h', List.length_map, octs_up]
theorem part_up (last : Bool) (p : List UInt8) : part6 last (upF p) = part6 last p := by
  unfold part6
  rw [hexP_up, strict_up]
theorem groups_up (last : Bool) : ∀ ps : List (List UInt8), groupsGo last (ps.map upF) = groupsGo last ps
  | [] => rfl
  | p :: ps => by
    rw [List.map_cons]
    unfold groupsGo
    have : (ps.map upF).isEmpty = ps.isEmpty := by cases ps <;> rfl
    rw [this, part_up, groups_up last ps]
theorem groupsF_up (last : Bool) (s : List UInt8) : groupsF last (upF s) = groupsF last s := by
  have h : splitA 58 (upF s) [] [] = (splitA 58 s [] []).map upF := split_up 58 (fun b => (upB_all b).2.2.1) s [] []
  unfold groupsF
  by_cases hs : s = []
  · subst hs; rfl
  · have hu : ¬ upF s = [] := fun h' => hs (List.map_eq_nil_iff.mp h')
    rw [if_neg hs, if_neg hu, h, groups_up]
theorem pre_up (l : List UInt8) : ([58, 58] : List UInt8).isPrefixOf (upF l) = ([58, 58] : List UInt8).isPrefixOf l := by
  have key : ∀ b : UInt8, ((58 : UInt8) == upB b) = ((58 : UInt8) == b) := fun b => by
    have := (upB_all b).2.2.1
    rw [Bool.eq_iff_iff]
    simp only [beq_iff_eq]
    exact ⟨fun h => (this.mp h.symm).symm, fun h => (this.mpr h.symm).symm⟩
  rcases l with _ | ⟨a, _ | ⟨b, l⟩⟩
  · rfl
  · simp [upF, List.isPrefixOf, key]
  · simp [upF, List.isPrefixOf, key]
theorem index_up : ∀ l : List UInt8, Lib.index (upF l) [58, 58] = Lib.index l [58, 58]
  | [] => rfl
  | b :: l => by
    have hp := pre_up (b :: l)
    have e : upF (b :: l) = upB b :: upF l := rfl
    rw [e] at hp ⊢
    unfold Lib.index
    rw [hp, index_up l]
theorem cut_up (l : List UInt8) : Lib.cut (upF l) [58, 58] = (upF (Lib.cut l [58, 58]).1, upF (Lib.cut l [58, 58]).2.1, (Lib.cut l [58, 58]).2.2) := by
  unfold Lib.cut
  rw [index_up]
  split
  · simp [upF, List.map_take, List.map_drop]
  · rfl
theorem parse_up (l : List UInt8) : parseF (upF l) = parseF l := by
  unfold parseF
  rw [cut_up]
  simp only [groupsF_up]
theorem suffix_up (l : List UInt8) : Lib.hasSuffix (upF l) [93] = Lib.hasSuffix l [93] := by
  rcases List.eq_nil_or_concat l with rfl | ⟨q, z, rfl⟩
  · rfl
  · rw [List.concat_eq_append, up_app, show upF [z] = [upB z] from rfl, suffix_one, suffix_one, decide_eq_decide]
    exact (upB_all z).2.2.2.2.2
theorem take_up (l : List UInt8) : (upF l).take 1 = [91] ↔ l.take 1 = [91] := by
  rcases l with _ | ⟨a, l⟩
  · exact Iff.rfl
  · show [upB a] = [91] ↔ [a] = [91]
    have := (upB_all a).2.2.2.2.1
    simp [this]
theorem brF_up (l : List UInt8) : brF (upF l) = brF l := by
  have hd : (upF l).drop 1 = upF (l.drop 1) := by simp [upF, List.map_drop]
  unfold brF
  rw [hd, suffix_up, up_len]
  have ht : (upF (l.drop 1)).take ((l.drop 1).length - 1) = upF ((l.drop 1).take ((l.drop 1).length - 1)) := by simp [upF, List.map_take]
  rw [ht, parse_up]
  simp only [take_up]
theorem host_up (l : List UInt8) : hostF (upF l) = hostF l := by
  unfold hostF
  rw [brF_up, up_low]
  simp only [take_up]
theorem no58_up {l : List UInt8} (h : (58 : UInt8) ∉ l) : (58 : UInt8) ∉ upF l := fun hm => by
  obtain ⟨b, hb, e⟩ := List.mem_map.mp hm
  exact h (((upB_all b).2.2.1.mp e) ▸ hb)
theorem pp_up (own : List UInt8) (port : Nat) : upF (ppF own port) = ppF own port := up_same fun b hb => by
  unfold ppF at hb
  split at hb
  · simp at hb
  · rcases List.mem_cons.mp hb with rfl | hb
    · decide
    · have := dec_dig port b hb; omega
theorem text_up (u : Ur) (t : List UInt8) : upF (textU u) ++ t = upF u.sch ++ (sep3 ++ (upF u.host ++ (ppF u.sch u.port ++ t))) := by
  have h := textU_eq u []
  rw [List.append_nil, List.append_nil] at h
  rw [h, up_app, up_app, up_app, pp_up, show upF sep3 = sep3 by decide]
  simp only [List.append_assoc]
theorem parse_upU {u : Ur} (hu : GoodU u) (hl : u.host.length + u.path.length + u.query.length ≤ 1900) : parseU (upF (textU u) ++ (u.path ++ u.query)) = .ok u := by
  rw [text_up]
  have h := parse_gen (sch := upF u.sch) (host := upF u.host) (own := u.sch) (h := u.host) (t := u.path ++ u.query) (port := u.port) (by rw [up_low]; exact low_sch hu.sch) hu.sch (by rw [host_up]; exact hu.host.id)
    (fun b hb => by obtain ⟨c, hc, rfl⟩ := List.mem_map.mp hb; exact up_pl (hu.host.pl c hc))
    (by rw [suffix_up]; exact hu.host.kind.imp (fun h => ⟨no58_up h.1, h.2⟩) id) hu.port (.inr (pq_head hu _)) hu.plain hu.no35 (by rw [up_len, List.length_append]; omega)
  obtain ⟨e1, e2⟩ := pq_split hu
  rw [e1, e2, if_neg (path_ne hu)] at h
  exact h
theorem parse_X {u : Ur} (hu : GoodU u) (hl : u.host.length + u.path.length ≤ 1800) : parseU (textU u ++ (u.path ++ [88])) = .ok ⟨u.sch, u.host, u.port, u.path ++ [88], []⟩ := by
  have h := parse_text hu (t := u.path ++ [88]) (.inr (pq_head hu _)) (fun b hb => by
    rcases List.mem_append.mp hb with hb | hb
    · exact hu.plain b (List.mem_append_left _ hb)
    · obtain rfl : b = 88 := by simpa using hb
      decide) (fun hm => by
    rcases List.mem_append.mp hm with hb | hb
    · exact hu.no35 (List.mem_append_left _ hb)
    · exact absurd hb (by decide)) (by simp only [List.length_append, List.length_cons, List.length_nil]; omega)
  obtain ⟨e1, e2⟩ := tw_stop (c := [63]) (a := u.path ++ [88]) (t := []) (fun b hb => by
    rw [← Bool.not_eq_true, List.contains_iff_mem]
    intro hm
    have e : b = 63 := by simpa using hm
    subst e
    rcases List.mem_append.mp hb with hb | hb
    · exact hu.pno hb
    · exact absurd hb (by decide)) (.inl rfl)
  rw [List.append_nil] at e1 e2
  rw [e1, e2, if_neg (by simp)] at h
  exact h
theorem bys_m (l : List UInt8) : List.map (fun x => Go.Proofs.SL.bytesOf.match_1 (fun _ => UInt8) x (fun _ n => UInt8.ofNat n.toNat) (fun _ => 0)) (bys l) = l := bys_of l

theorem c_abatislaw13_UrlCases (l : List UInt8) : GCall 6 [.str (bs l)] (.bool true) := by
  intro H hG
  refine scall_of (ord := fun _ => []) (rs := [2]) Tryz.func6 rfl (by kernel_rfl) (by kernel_rfl) (by kernel_rfl) Tryz.ntmps6 fun hb hargs => go 200 (fun _ => false) mixed ?_
  simp (disch := omega) only [↓reduceIte, go_sem] <;> repeat with_reducible refine And.intro (by first | omega | decide) ?_
  refine (c_abatisref01_Few l 100).on (go 200 (fun _ => false) mixed ?_)
  have hl : (l.take 100).length ≤ 100 := by rw [List.length_take]; omega
  generalize l.take 100 = s at *
  simp (disch := omega) only [↓reduceIte, go_sem] <;> repeat with_reducible refine And.intro (by first | omega | decide) ?_
  refine (c_abatisref13_Good s (by omega)).on (go 200 (fun _ => false) mixed ?_)
  obtain ⟨hsch, hlen, hport⟩ := goodU_len s
  have hu := goodU_good s
  have hsl := sch_len hsch
  generalize goodU s = u at *
  have htl := textU_len u (by omega)
  have hor := c_abatisref13_Origin u
  have htx := c_abatisref13_Text u (by omega) (by omega)
  have hpa := c_url_Parse (upF (textU u) ++ (u.path ++ u.query)) (by simp only [List.length_append, up_len]; omega)
  rw [parse_upU hu (by omega)] at hpa
  have hpb := c_url_Parse (textU u ++ (u.path ++ [88])) (by simp only [List.length_append, List.length_cons, List.length_nil]; omega)
  rw [parse_X hu (by omega)] at hpb
  simp only [parseUV, urV, urC, orV, orC] at hor htx hpa hpb ⊢
  simp (disch := omega) only [↓reduceIte, go_sem] <;> repeat with_reducible refine And.intro (by first | omega | decide) ?_
  refine hor.on (go 200 (fun _ => false) mixed ?_)
  simp (disch := omega) only [↓reduceIte, go_sem] <;> repeat with_reducible refine And.intro (by first | omega | decide) ?_
  refine htx.on (go 200 (fun _ => false) mixed ?_)
  generalize textU u = o at *
  simp (disch := omega) only [↓reduceIte, go_sem] <;> repeat with_reducible refine And.intro (by first | omega | decide) ?_
  refine Runs.ghost (by rfl) (Ghost.grow (t := 5) (m := 1) rfl) ?_
  refine runs_loopA (fun x : Nat × Nat => x.1 ≤ o.length) (fun x => o.length - x.1) [false, false, false, true, true, true, true]
    (fun x => slots 87 [.any, .any, .any, .ptr H.length 0 0, .str (bs o), .buf (H.length + 1) x.2 0 x.1 1 true, .int .i64 x.1])
    (fun x => H ++ [some (.cells 0 (urC u)), some (.cells x.2 (bys (upF (o.take x.1))))]) (by rfl) (0, 0) (Nat.zero_le _) (by simp only [List.length_append, List.length_cons, List.length_nil]; rfl) (by rw [List.append_assoc]; rfl) ?_
  rintro ⟨k, ver⟩ hk
  have hk : k ≤ o.length := hk
  refine go 200 (fun _ => false) mixed ?_
  have hlk : (upF (o.take k)).length = k := by rw [up_len, List.length_take]; omega
  by_cases hlt : k < o.length
  · have hst : upF (o.take (k + 1)) = upF (o.take k) ++ [upB (o.getD k 0)] := by
      rw [List.take_succ_eq_append_getElem hlt, ← getD_of hlt]; simp [upF]
    have hbl := (o.getD k 0).toNat_lt
    generalize hb' : o.getD k 0 = b at *
    have hcell : ∀ c : UInt8, bys (upF (o.take k)) ++ [PV.int .u8 (c.toNat : Nat)] = bys (upF (o.take k) ++ [c]) := fun c => by simp [bys]
    by_cases h1 : 97 ≤ b.toNat
    · by_cases h2 : b.toNat ≤ 122
      · have e0 := (up_nat ⟨h1, h2⟩).symm
        have eb : upB b = b - 32 := if_pos ⟨h1, h2⟩
        rw [eb] at hst
        simp (disch := omega) only [↓reduceIte, go_sem, hlt, hb', h1, h2, e0, hlk, hcell] <;> repeat with_reducible refine And.intro (by first | omega | decide) ?_
        refine ⟨⟨by unfold most; omega, by unfold most; omega⟩, ?_⟩
        exact rnd_next (k + 1, ver + 1) (by show k + 1 ≤ o.length; omega) (by show o.length - (k + 1) < o.length - k; omega) rfl (by rw [hst])
      · have eb : upB b = b := if_neg fun h => h2 h.2
        rw [eb] at hst
        simp (disch := omega) only [↓reduceIte, go_sem, hlt, hb', h1, h2, hlk, hcell] <;> repeat with_reducible refine And.intro (by first | omega | decide) ?_
        refine ⟨⟨by unfold most; omega, by unfold most; omega⟩, ?_⟩
        exact rnd_next (k + 1, ver + 1) (by show k + 1 ≤ o.length; omega) (by show o.length - (k + 1) < o.length - k; omega) rfl (by rw [hst])
    · have eb : upB b = b := if_neg fun h => h1 h.1
      rw [eb] at hst
      simp (disch := omega) only [↓reduceIte, go_sem, hlt, hb', h1, hlk, hcell] <;> repeat with_reducible refine And.intro (by first | omega | decide) ?_
      refine ⟨⟨by unfold most; omega, by unfold most; omega⟩, ?_⟩
      exact rnd_next (k + 1, ver + 1) (by show k + 1 ≤ o.length; omega) (by show o.length - (k + 1) < o.length - k; omega) rfl (by rw [hst])
  · have hk' : k = o.length := by omega
    subst hk'
    have e : List.take o.length o = o := List.take_length
    rw [e]
    simp (disch := omega) only [↓reduceIte, go_sem, hlt] <;> repeat with_reducible refine And.intro (by first | omega | decide) ?_
    refine go 200 (fun _ => false) mixed ?_
    have et : List.take o.length (bys (upF o)) = bys (upF o) := List.take_of_length_le (by rw [bys_len, up_len]; exact Nat.le_refl _)
    simp (disch := omega) only [↓reduceIte, go_sem, up_len, et, urC, bys_m, List.length_append, List.append_assoc] <;> repeat with_reducible refine And.intro (by first | omega | decide) ?_
    refine hpa.on hG.app (go 200 (fun _ => false) mixed ?_)
    simp (disch := omega) only [↓reduceIte, go_sem, List.length_append, List.length_cons, List.length_nil, List.append_assoc] <;> repeat with_reducible refine And.intro (by first | omega | decide) ?_
    refine hpb.on hG.app (go 200 (fun _ => false) mixed ?_)
    have hneL : ¬ ([PV.str (bs u.sch), PV.str (bs u.host), PV.int IntKind.i64 (u.port : Nat), PV.str (bs (u.path ++ [88])), PV.str (bs [])] = [PV.str (bs u.sch), PV.str (bs u.host), PV.int IntKind.i64 (u.port : Nat), PV.str (bs u.path), PV.str (bs u.query)]) := fun h => by
      simp [bs] at h
    simp (disch := omega) only [↓reduceIte, go_sem, List.length_append, List.length_cons, List.length_nil, hneL] <;> repeat with_reducible refine And.intro (by first | omega | decide) ?_
    refine c_abatislaw13_lives.on hG.app (go 200 (fun _ => false) mixed ?_)
    simp (disch := omega) only [↓reduceIte, go_sem] <;> repeat with_reducible refine And.intro (by first | omega | decide) ?_
    exact fin_drop (.inr rfl) hb rfl (by simp)
end Go.Proofs.GoC
