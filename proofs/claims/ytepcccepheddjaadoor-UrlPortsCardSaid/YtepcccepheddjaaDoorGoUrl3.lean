/-
  What the functions compute: addresses of the web. No claim by itself.
-/
import Derived.Test.YtepcccepheddjaaDoorGoUrl2
namespace Go.Proofs.GoC
open Go Go.Proofs.SL
set_option linter.unusedSimpArgs false
set_option linter.unusedVariables false
set_option maxRecDepth 10000
set_option maxHeartbeats 4000000

structure Ur where
  sch : List UInt8
  host : List UInt8
  port : Nat
  path : List UInt8
  query : List UInt8
def urC (u : Ur) : List PV := [.str (bs u.sch), .str (bs u.host), .int .i64 u.port, .str (bs u.path), .str (bs u.query)]
def urV (u : Ur) : PV := .agg (urC u)
def orC (u : Ur) : List PV := [.str (bs u.sch), .str (bs u.host), .int .i64 u.port]
def orV (u : Ur) : PV := .agg (orC u)
def urZ : Ur := ⟨[], [], 0, [], []⟩
def sep3 : List UInt8 := [58, 47, 47]

def parseR (own rest : List UInt8) : Except Nat Ur :=
  match (portF (tw [47, 63] (tw [35] rest)) (portI own)).2.2, hostF (portF (tw [47, 63] (tw [35] rest)) (portI own)).1 with
  | true, some h => .ok ⟨own, h, (portF (tw [47, 63] (tw [35] rest)) (portI own)).2.1.toNat,
      if tw [63] (dw [47, 63] (tw [35] rest)) = [] then [47] else tw [63] (dw [47, 63] (tw [35] rest)), dw [63] (dw [47, 63] (tw [35] rest))⟩
  | _, _ => .error 2
def parseU (s : List UInt8) : Except Nat Ur :=
  if 2000 < s.length then .error 3
  else if (Lib.cut s sep3).2.2 = false ∨ portI (lowF (Lib.cut s sep3).1) = 0 ∨ plainF s = false then .error 2
  else parseR (lowF (Lib.cut s sep3).1) (Lib.cut s sep3).2.1
def parseUV : Except Nat Ur → PV
  | .ok u => .tup [urV u, .int .i64 0]
  | .error e => .tup [urV urZ, .int .i64 (e : Nat)]
theorem bdd_ur {n : Nat} {u : Ur} : Bdd n (urV u) := .agg _ fun p hp => by
  simp only [urC, List.mem_cons, List.not_mem_nil, or_false] at hp
  rcases hp with rfl | rfl | rfl | rfl | rfl <;> first | exact .str _ | exact .int _ _
theorem bdd_or {n : Nat} {u : Ur} : Bdd n (orV u) := .agg _ fun p hp => by
  simp only [orC, List.mem_cons, List.not_mem_nil, or_false] at hp
  rcases hp with rfl | rfl | rfl <;> first | exact .str _ | exact .int _ _
theorem parseUV_bdd {n : Nat} (x : Except Nat Ur) : Bdd n (parseUV x) := by
  have key : ∀ (u : Ur) (c : Int), Bdd n (.tup [urV u, .int .i64 c]) := fun u c => .tup _ fun p hp => by
    simp only [List.mem_cons, List.not_mem_nil, or_false] at hp
    rcases hp with rfl | rfl
    · exact bdd_ur
    · exact .int _ _
  cases x
  · exact key _ _
  · exact key _ _

theorem cut_sub (s sep : List UInt8) : (∀ b ∈ (Lib.cut s sep).2.1, b ∈ s) ∧ (Lib.cut s sep).1.length ≤ s.length ∧ (Lib.cut s sep).2.1.length ≤ s.length := by
  unfold Lib.cut
  split
  · exact ⟨fun b h => List.mem_of_mem_drop h, by simp only [List.length_take]; omega, by simp only [List.length_drop]; omega⟩
  · exact ⟨fun b h => by simp at h, Nat.le_refl _, by simp⟩
theorem plain_ascii {s : List UInt8} (h : plainF s = true) : ∀ b ∈ s, b.toNat < 128 := fun b hb => by
  have := List.all_eq_true.mp h b hb
  simp only [plainI, decide_eq_true_eq] at this
  omega
theorem tw_mem {c s : List UInt8} {b : UInt8} (h : b ∈ tw c s) : b ∈ s := (List.takeWhile_prefix _).sublist.mem h
theorem dw_mem {c s : List UInt8} {b : UInt8} (h : b ∈ dw c s) : b ∈ s := (List.dropWhile_suffix _).sublist.mem h
theorem portI_in (s : List UInt8) : portI s = 0 ∨ portI s = 80 ∨ portI s = 443 := by
  unfold portI; split
  · exact .inr (.inl rfl)
  · split
    · exact .inr (.inr rfl)
    · exact .inl rfl
theorem portF_nn (s own : List UInt8) (hl : s.length < 1000000) : ∃ n : Nat, (portF s (portI own)).2.1 = n ∧ n ≤ 1099511627776 := by
  have hp := portI_in own
  unfold portF
  split
  · exact ⟨(portI own).toNat, by simp only; omega, by omega⟩
  · split
    · exact ⟨(portI own).toNat, by simp only; omega, by omega⟩
    · split
      · rename_i n hn
        obtain ⟨h0, h1⟩ := numF_in 10 (by omega) _ 0 n (by omega) hn (by omega)
        exact ⟨n.toNat, by simp only; omega, by omega⟩
      · exact ⟨0, rfl, by omega⟩
theorem portF_len (s : List UInt8) (own : Int) : (portF s own).1.length ≤ s.length := by
  unfold portF
  split
  · exact Nat.le_refl _
  · split
    · simp only [List.length_take]; omega
    · split <;> (simp only [List.length_take]; omega)

theorem c_url_Parse (s : List UInt8) (hl : s.length < 900000) : GCall 5 [.str (bs s)] (parseUV (parseU s)) := by
  intro H hG
  unfold parseU
  refine scall_ofc (ord := fun _ => []) (tdOf_ok _) (rs := [.cell 2 24, .tmp 3]) Tryd.func5 rfl (by kernel_rfl) (by kernel_rfl) (by kernel_rfl) Tryd.ntmps5 fun hb hargs => go 200 (fun _ => false) mixed ?_
  by_cases h2 : 2000 < s.length
  · rw [if_pos h2]
    simp (disch := omega) only [↓reduceIte, go_sem, h2] <;> repeat with_reducible refine And.intro (by first | omega | decide) ?_
    refine fin_c (.inr rfl) hb ?_ (parseUV_bdd (.error 3))
    simp (disch := omega) only [↓reduceIte, go_sem] <;> repeat with_reducible refine And.intro (by first | omega | decide) ?_
    rfl
  · rw [if_neg h2]
    simp (disch := omega) only [↓reduceIte, go_sem, h2] <;> repeat with_reducible refine And.intro (by first | omega | decide) ?_
    refine (c_strings_Cut s [58, 47, 47] (by omega)).on hG.app (go 200 (fun _ => false) mixed ?_)
    obtain ⟨hmem, hl1, hl2⟩ := cut_sub s sep3
    have hsep : Lib.cut s [58, 47, 47] = Lib.cut s sep3 := rfl
    rw [hsep]
    unfold cutV
    have hasc := fun (h : plainF s = true) b (hb : b ∈ (Lib.cut s sep3).2.1) => plain_ascii h b (hmem b hb)
    generalize (Lib.cut s sep3).1 = sc at *
    generalize (Lib.cut s sep3).2.1 = rest at *
    generalize (Lib.cut s sep3).2.2 = c at *
    have hll := lowF_len sc
    simp (disch := omega) only [↓reduceIte, go_sem] <;> repeat with_reducible refine And.intro (by first | omega | decide) ?_
    refine (c_text_Lower sc (by omega)).on (go 200 (fun _ => false) mixed ?_)
    generalize lowF sc = own at *
    have hP := c_url_Port own
    have hR : (¬ c = false ∧ ¬ portI own = 0 ∧ plainF s = true) ∨ (c = false ∨ portI own = 0 ∨ plainF s = false) := by
      cases c with
      | false => exact .inr (.inl rfl)
      | true =>
        by_cases h : portI own = 0
        · exact .inr (.inr (.inl h))
        · cases hp : plainF s with
          | true => exact .inl ⟨by decide, h, rfl⟩
          | false => exact .inr (.inr (.inr rfl))
    cases c with
    | false =>
      rw [if_pos (.inl rfl)]
      simp (disch := omega) only [↓reduceIte, go_sem] <;> repeat with_reducible refine And.intro (by first | omega | decide) ?_
      refine fin_c (.inr rfl) hb ?_ (parseUV_bdd (.error 2))
      simp (disch := omega) only [↓reduceIte, go_sem] <;> repeat with_reducible refine And.intro (by first | omega | decide) ?_
      rfl
    | true =>
      simp (disch := omega) only [↓reduceIte, go_sem] <;> repeat with_reducible refine And.intro (by first | omega | decide) ?_
      refine hP.on (go 200 (fun _ => false) mixed ?_)
      by_cases hp0 : portI own = 0
      · rw [if_pos (.inr (.inl hp0)), hp0]
        simp (disch := omega) only [↓reduceIte, go_sem] <;> repeat with_reducible refine And.intro (by first | omega | decide) ?_
        refine fin_c (.inr rfl) hb ?_ (parseUV_bdd (.error 2))
        simp (disch := omega) only [↓reduceIte, go_sem] <;> repeat with_reducible refine And.intro (by first | omega | decide) ?_
        rfl
      · simp (disch := omega) only [↓reduceIte, go_sem, hp0] <;> repeat with_reducible refine And.intro (by first | omega | decide) ?_
        refine (c_text_Plain s (by omega)).on (go 200 (fun _ => false) mixed ?_)
        cases hpl : plainF s with
        | false =>
          rw [if_pos (.inr (.inr rfl))]
          simp (disch := omega) only [↓reduceIte, go_sem] <;> repeat with_reducible refine And.intro (by first | omega | decide) ?_
          refine fin_c (.inr rfl) hb ?_ (parseUV_bdd (.error 2))
          simp (disch := omega) only [↓reduceIte, go_sem] <;> repeat with_reducible refine And.intro (by first | omega | decide) ?_
          rfl
        | true =>
          rw [if_neg (by simp [hp0])]
          have hasc := hasc hpl
          unfold parseR
          simp (disch := omega) only [↓reduceIte, go_sem] <;> repeat with_reducible refine And.intro (by first | omega | decide) ?_
          refine (c_url_upto rest [35] (by omega) (by decide) hasc (by decide)).on (go 200 (fun _ => false) mixed ?_)
          have hrl := tw_len [35] rest
          have hrm := fun b (h : b ∈ tw [35] rest) => hasc b (tw_mem h)
          generalize tw [35] rest = r at *
          simp (disch := omega) only [↓reduceIte, go_sem] <;> repeat with_reducible refine And.intro (by first | omega | decide) ?_
          refine (c_url_upto r [47, 63] (by omega) (by decide) hrm (by decide)).on (go 200 (fun _ => false) mixed ?_)
          have hal := tw_len [47, 63] r
          have htm := fun b (h : b ∈ dw [47, 63] r) => hrm b (dw_mem h)
          generalize tw [47, 63] r = a at *
          generalize dw [47, 63] r = tl at *
          simp (disch := omega) only [↓reduceIte, go_sem] <;> repeat with_reducible refine And.intro (by first | omega | decide) ?_
          refine (c_url_port a own (by omega)).on (go 200 (fun _ => false) mixed ?_)
          obtain ⟨m, hm, hm2⟩ := portF_nn a own (by omega)
          have hpl := portF_len a (portI own)
          unfold portV
          rw [hm, Int.toNat_natCast]
          generalize (portF a (portI own)).1 = hst at *
          generalize (portF a (portI own)).2.2 = ok at *
          simp (disch := omega) only [↓reduceIte, go_sem] <;> repeat with_reducible refine And.intro (by first | omega | decide) ?_
          refine (c_url_Host hst (by omega)).on hG.app (go 200 (fun _ => false) mixed ?_)
          cases ok with
          | false =>
            obtain ⟨x, y, hxy⟩ : ∃ x y, hostV (hostF hst) = .tup [.str (bs x), .bool y] := by
              rcases hostF hst with _ | h
              · exact ⟨_, _, rfl⟩
              · exact ⟨_, _, rfl⟩
            rw [hxy]
            simp (disch := omega) only [↓reduceIte, go_sem] <;> repeat with_reducible refine And.intro (by first | omega | decide) ?_
            refine fin_c (.inr rfl) hb ?_ (parseUV_bdd (.error 2))
            simp (disch := omega) only [↓reduceIte, go_sem] <;> repeat with_reducible refine And.intro (by first | omega | decide) ?_
            rfl
          | true =>
            cases hh : hostF hst with
            | none =>
              simp only [hostV]
              simp (disch := omega) only [↓reduceIte, go_sem] <;> repeat with_reducible refine And.intro (by first | omega | decide) ?_
              refine fin_c (.inr rfl) hb ?_ (parseUV_bdd (.error 2))
              simp (disch := omega) only [↓reduceIte, go_sem] <;> repeat with_reducible refine And.intro (by first | omega | decide) ?_
              rfl
            | some h =>
              simp only [hostV]
              simp (disch := omega) only [↓reduceIte, go_sem] <;> repeat with_reducible refine And.intro (by first | omega | decide) ?_
              refine (c_url_upto tl [63] (by omega) (by decide) htm (by decide)).on (go 200 (fun _ => false) mixed ?_)
              generalize tw [63] tl = pa at *
              generalize dw [63] tl = qu at *
              by_cases hpa : pa = []
              · rw [if_pos hpa]
                subst hpa
                simp (disch := omega) only [↓reduceIte, go_sem] <;> repeat with_reducible refine And.intro (by first | omega | decide) ?_
                refine fin_c (.inr rfl) hb ?_ (parseUV_bdd (.ok ⟨own, h, m, [47], qu⟩))
                simp (disch := omega) only [↓reduceIte, go_sem] <;> repeat with_reducible refine And.intro (by first | omega | decide) ?_
                rfl
              · rw [if_neg hpa]
                simp (disch := omega) only [↓reduceIte, go_sem, hpa] <;> repeat with_reducible refine And.intro (by first | omega | decide) ?_
                refine fin_c (.inr rfl) hb ?_ (parseUV_bdd (.ok ⟨own, h, m, pa, qu⟩))
                simp (disch := omega) only [↓reduceIte, go_sem] <;> repeat with_reducible refine And.intro (by first | omega | decide) ?_
                rfl

/-! Texts of addresses. -/
theorem c_url_Origin (u : Ur) : PCall Tryd.prog 17 [urV u] (orV u) := by
  intro H
  refine scall_ofc (ord := fun _ => []) (tdOf_ok _) (rs := [.cell 2 46]) Tryd.func17 rfl (by kernel_rfl) (by kernel_rfl) (by kernel_rfl) Tryd.ntmps17 fun hb hargs => go 200 (fun _ => false) mixed ?_
  simp (disch := omega) only [↓reduceIte, go_sem, urV, urC] <;> repeat with_reducible refine And.intro (by first | omega | decide) ?_
  exact fin_c (.inr rfl) hb (by simp only [go_sem, orV, orC] <;> rfl) bdd_or
def textU (u : Ur) : List UInt8 := u.sch ++ (sep3 ++ (u.host ++ (if (u.port : Int) = portI u.sch then [] else 58 :: decF u.port)))
def printU (u : Ur) : List UInt8 := textU u ++ (u.path ++ u.query)
theorem c_url_Text (u : Ur) (hl : u.sch.length + u.host.length < 1000000) (hp : u.port ≤ 1099511627776) : GCall 16 [orV u] (.str (bs (textU u))) := by
  intro H hG
  have hdl := decF_len u.port 17 (by omega)
  have hP := c_url_Port u.sch
  refine scall_of (ord := fun _ => []) (rs := [2]) Tryd.func16 rfl (by kernel_rfl) (by kernel_rfl) (by kernel_rfl) Tryd.ntmps16 fun hb hargs => go 200 (fun _ => false) mixed ?_
  unfold textU
  by_cases h : (u.port : Int) = portI u.sch
  · rw [if_pos h]
    rw [← h] at hP
    simp (disch := omega) only [↓reduceIte, go_sem, orV, orC, List.length_append, List.length_cons] <;> repeat with_reducible refine And.intro (by first | omega | decide) ?_
    refine hP.onq (go 200 (fun _ => false) mixed ?_)
    simp (disch := omega) only [↓reduceIte, go_sem, orV, orC, List.length_append, List.length_cons] <;> repeat with_reducible refine And.intro (by first | omega | decide) ?_
    exact fin_drop (.inr rfl) hb (by simp [sep3]; rfl) (by simp)
  · rw [if_neg h]
    simp (disch := omega) only [↓reduceIte, go_sem, orV, orC, List.length_append, List.length_cons] <;> repeat with_reducible refine And.intro (by first | omega | decide) ?_
    refine hP.onq (go 200 (fun _ => false) mixed ?_)
    simp (disch := omega) only [↓reduceIte, go_sem, orV, orC, h, List.length_append, List.length_cons] <;> repeat with_reducible refine And.intro (by first | omega | decide) ?_
    refine (c_text_Decimal u.port (by omega)).on hG.app (go 200 (fun _ => false) mixed ?_)
    simp (disch := omega) only [↓reduceIte, go_sem, orV, orC, List.length_append, List.length_cons] <;> repeat with_reducible refine And.intro (by first | omega | decide) ?_
    exact fin_drop (.inr rfl) hb (by simp [sep3]; rfl) (by simp)
theorem textU_len (u : Ur) (hp : u.port ≤ 1099511627776) : (textU u).length ≤ u.sch.length + u.host.length + 30 := by
  have hdl := decF_len u.port 17 (by omega)
  unfold textU sep3
  split <;> simp only [List.length_append, List.length_cons, List.length_nil] <;> omega
theorem c_url_Print (u : Ur) (hl : u.sch.length + u.host.length + (u.path.length + u.query.length) < 1000000) (hp : u.port ≤ 1099511627776) : GCall 8 [urV u] (.str (bs (printU u))) := by
  intro H hG
  have ht := textU_len u hp
  refine scall_of (ord := fun _ => []) (rs := [2]) Tryd.func8 rfl (by kernel_rfl) (by kernel_rfl) (by kernel_rfl) Tryd.ntmps8 fun hb hargs => go 200 (fun _ => false) mixed ?_
  simp (disch := omega) only [↓reduceIte, go_sem, urV, urC] <;> repeat with_reducible refine And.intro (by first | omega | decide) ?_
  refine (c_url_Origin u).onq (go 200 (fun _ => false) mixed ?_)
  simp (disch := omega) only [↓reduceIte, go_sem] <;> repeat with_reducible refine And.intro (by first | omega | decide) ?_
  refine ⟨_, c_url_Text u (by omega) hp _ hG.app, go 200 (fun _ => false) mixed ?_⟩
  simp (disch := omega) only [↓reduceIte, go_sem, List.length_append, List.length_cons] <;> repeat with_reducible refine And.intro (by first | omega | decide) ?_
  exact fin_drop (.inr rfl) hb (by simp [printU]; rfl) (by simp)

def joinU (u : Ur) (ref : List UInt8) : Except Nat Ur :=
  if (Lib.cut ref sep3).2.2 = true ∧ 0 < portI (lowF (Lib.cut ref sep3).1) then parseU ref
  else if Lib.hasPrefix ref [47, 47] = true then parseU (u.sch ++ 58 :: ref)
  else if Lib.hasPrefix ref [47] = true then parseU (textU u ++ ref)
  else .error 2
theorem parseUV_two (x : Except Nat Ur) : ∃ (u : Ur) (e : Int), parseUV x = .tup [urV u, .int .i64 e] := by
  cases x with
  | error e => exact ⟨_, _, rfl⟩
  | ok u => exact ⟨_, _, rfl⟩
end Go.Proofs.GoC
