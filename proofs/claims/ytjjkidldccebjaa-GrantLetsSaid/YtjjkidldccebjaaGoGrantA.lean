/-
  What the functions compute: the row of grants' keys. No claim by itself.
-/
import Derived.Test.YtjjkidldccebjaaGoOrd
import Derived.Test.YtjjkidldccebjaaGoCmpS
import Derived.Test.YtjjkidldccebjaaSlHp
namespace Go.Proofs.GoC
open Go Go.Proofs.SL
set_option linter.unusedSimpArgs false
set_option linter.unusedVariables false
set_option maxRecDepth 10000
set_option maxHeartbeats 2000000

/-! Texts. -/
theorem c_abatisref18_texts (x y : List UInt8) : PCall Try.prog 29 [.str (bs x), .str (bs y)] (.int .i64 (cmpL x y)) := by
  intro H
  refine scall_of (ord := fun _ => []) (rs := [4]) Try.func29 rfl (by kernel_rfl) (by kernel_rfl) (by kernel_rfl) Try.ntmps29 fun hb hargs => go 200 (fun _ => false) mixed ?_
  have hs := slt_cmp x y
  rcases cmpL_ord.one x y with h | h | h
  · have h1 : Op.bytesLess (bs x).toList (bs y).toList = true := by simpa [slt, h] using hs
    rw [h]
    simp (disch := omega) only [↓reduceIte, go_sem, h1] <;> repeat with_reducible refine And.intro (by first | omega | decide) ?_
    exact fin rfl rfl
  · have h1 : Op.bytesLess (bs x).toList (bs y).toList = false := by simpa [slt, h] using hs
    have h2 : (bs x = bs y) = True := eq_true ((cmpL_eq x y).mpr h)
    rw [h]
    simp (disch := omega) only [↓reduceIte, go_sem, h1, h2] <;> repeat with_reducible refine And.intro (by first | omega | decide) ?_
    exact fin rfl rfl
  · have h1 : Op.bytesLess (bs x).toList (bs y).toList = false := by simpa [slt, h] using hs
    have h2 : (bs x = bs y) = False := eq_false fun e => by have := (cmpL_eq x y).mp e; omega
    rw [h]
    simp (disch := omega) only [↓reduceIte, go_sem, h1, h2] <;> repeat with_reducible refine And.intro (by first | omega | decide) ?_
    exact fin rfl rfl

/-! Origins. -/
structure Org where
  sch : List UInt8
  host : List UInt8
  port : Int
  deriving DecidableEq
def orgC (o : Org) : List PV := [.str (bs o.sch), .str (bs o.host), .int .i64 o.port]
def orgV (o : Org) : PV := .agg (orgC o)
def cmpO (a b : Org) : Int := if cmpL a.sch b.sch = 0 then (if cmpL a.host b.host = 0 then cmpI a.port b.port else cmpL a.host b.host) else cmpL a.sch b.sch
theorem cmpO_ord : Ord3 cmpO :=
  (cmpL_ord.lex (cmpL_ord.lex cmpI_ord)).comap (fun o : Org => (o.sch, o.host, o.port)) fun a b h => by
    cases a; cases b; simp only [Prod.mk.injEq] at h; simp [h]
theorem orgC_inj {a b : Org} : orgC a = orgC b ↔ a = b := by
  cases a; cases b
  simp [orgC, bs_inj]

theorem c_grant_origin (a b : Org) : PCall Try.prog 24 [orgV a, orgV b] (.int .i64 (cmpO a b)) := by
  intro H
  refine scall_of (ord := fun _ => []) (rs := [4]) Try.func24 rfl (by kernel_rfl) (by kernel_rfl) (by kernel_rfl) Try.ntmps24 fun hb hargs => go 200 (fun _ => false) mixed ?_
  simp (disch := omega) only [↓reduceIte, go_sem, orgV, orgC] <;> repeat with_reducible refine And.intro (by first | omega | decide) ?_
  refine (c_cmp_Compare_string a.sch b.sch).onq (go 200 (fun _ => false) mixed ?_)
  simp (disch := omega) only [↓reduceIte, go_sem] <;> repeat with_reducible refine And.intro (by first | omega | decide) ?_
  refine (c_cmp_Compare_string a.host b.host).onq (go 200 (fun _ => false) mixed ?_)
  simp (disch := omega) only [↓reduceIte, go_sem] <;> repeat with_reducible refine And.intro (by first | omega | decide) ?_
  refine (c_cmp_Compare_int a.port b.port).onq (go 200 (fun _ => false) mixed ?_)
  simp (disch := omega) only [↓reduceIte, go_sem] <;> repeat with_reducible refine And.intro (by first | omega | decide) ?_
  refine (c_cmp_Or_int [cmpL a.sch b.sch, cmpL a.host b.host, cmpI a.port b.port] (by simp)).onq (go 200 (fun _ => false) mixed ?_)
  have e : orF [cmpL a.sch b.sch, cmpL a.host b.host, cmpI a.port b.port] = cmpO a b := by
    simp only [orF, cmpO]
    split
    · split
      · split
        · rename_i h; exact h.symm
        · rfl
      · rfl
    · rfl
  rw [e]
  simp (disch := omega) only [↓reduceIte, go_sem] <;> repeat with_reducible refine And.intro (by first | omega | decide) ?_
  exact fin_drop (.inr rfl) hb rfl (by simp)

theorem c_abatisref18_origin (a b : Org) : PCall Try.prog 28 [orgV a, orgV b] (.int .i64 (cmpO a b)) := by
  intro H
  refine scall_of (ord := fun _ => []) (rs := [4]) Try.func28 rfl (by kernel_rfl) (by kernel_rfl) (by kernel_rfl) Try.ntmps28 fun hb hargs => go 200 (fun _ => false) mixed ?_
  simp (disch := omega) only [↓reduceIte, go_sem, orgV, orgC] <;> repeat with_reducible refine And.intro (by first | omega | decide) ?_
  refine (c_abatisref18_texts a.sch b.sch).on (go 200 (fun _ => false) mixed ?_)
  unfold cmpO
  by_cases h1 : cmpL a.sch b.sch = 0
  · rw [if_pos h1, h1]
    simp (disch := omega) only [↓reduceIte, go_sem] <;> repeat with_reducible refine And.intro (by first | omega | decide) ?_
    refine (c_abatisref18_texts a.host b.host).on (go 200 (fun _ => false) mixed ?_)
    by_cases h2 : cmpL a.host b.host = 0
    · rw [if_pos h2, h2]
      unfold cmpI
      by_cases h3 : a.port < b.port
      · rw [if_pos h3]
        simp (disch := omega) only [↓reduceIte, go_sem, h3] <;> repeat with_reducible refine And.intro (by first | omega | decide) ?_
        exact fin_drop (.inr rfl) hb rfl (by simp)
      · rw [if_neg h3]
        by_cases h4 : b.port < a.port
        · rw [if_pos h4]
          simp (disch := omega) only [↓reduceIte, go_sem, h3, h4] <;> repeat with_reducible refine And.intro (by first | omega | decide) ?_
          exact fin_drop (.inr rfl) hb rfl (by simp)
        · rw [if_neg h4]
          simp (disch := omega) only [↓reduceIte, go_sem, h3, h4] <;> repeat with_reducible refine And.intro (by first | omega | decide) ?_
          exact fin_drop (.inr rfl) hb rfl (by simp)
    · rw [if_neg h2]
      simp (disch := omega) only [↓reduceIte, go_sem, h2] <;> repeat with_reducible refine And.intro (by first | omega | decide) ?_
      exact fin_drop (.inr rfl) hb rfl (by simp)
  · rw [if_neg h1]
    simp (disch := omega) only [↓reduceIte, go_sem, h1] <;> repeat with_reducible refine And.intro (by first | omega | decide) ?_
    exact fin_drop (.inr rfl) hb rfl (by simp)

/-! Keys. -/
structure GKey where
  page : Org
  to : Org
  meth : List UInt8
  fam : Int
  ad : List Nat
  deriving DecidableEq
def keyC (k : GKey) : List PV := orgC k.page ++ (orgC k.to ++ (.str (bs k.meth) :: adrC k.fam k.ad))
def keyV (k : GKey) : PV := .agg (keyC k)
structure KeyOk (k : GKey) : Prop where
  len : k.ad.length = 16
  le : ∀ b ∈ k.ad, b ≤ 255
theorem keyC_inj {a b : GKey} : keyC a = keyC b ↔ a = b := by
  obtain ⟨⟨a1, a2, a3⟩, ⟨a4, a5, a6⟩, a7, a8, a9⟩ := a
  obtain ⟨⟨b1, b2, b3⟩, ⟨b4, b5, b6⟩, b7, b8, b9⟩ := b
  simp [keyC, orgC, bs_inj, adr_inj, and_assoc]
theorem keyV_inj {a b : GKey} : keyV a = keyV b ↔ a = b := by simp only [keyV, PV.agg.injEq, keyC_inj]
def cmpK (a b : GKey) : Int :=
  if cmpO a.page b.page = 0 then (if cmpO a.to b.to = 0 then (if cmpL a.meth b.meth = 0 then (if cmpI a.fam b.fam = 0 then cmpB a.ad b.ad else cmpI a.fam b.fam) else cmpL a.meth b.meth) else cmpO a.to b.to) else cmpO a.page b.page
theorem cmpK_ord : Ord3 cmpK :=
  (cmpO_ord.lex (cmpO_ord.lex (cmpL_ord.lex (cmpI_ord.lex cmpB_ord)))).comap (fun k : GKey => (k.page, k.to, k.meth, k.fam, k.ad)) fun a b h => by
    cases a; cases b; simp only [Prod.mk.injEq] at h; simp [h]

theorem key_at {k : GKey} (hl : k.ad.length = 16) : ∀ j, j < 16 → (keyC k)[8 + j]? = some (.int .u8 (k.ad.getD j 0 : Nat)) := by
  intro j hj
  rw [show 8 + j = j + 8 by omega]
  simp only [keyC, orgC, adrC, List.cons_append, List.nil_append, List.getElem?_cons_succ]
  simp [u8s, List.getD_eq_getElem?_getD, show j < k.ad.length by omega]

theorem c_grant_Compare (a b : GKey) (ha : KeyOk a) (hb' : KeyOk b) : PCall Try.prog 8 [keyV a, keyV b] (.int .i64 (cmpK a b)) := by
  intro H
  have la := ha.len
  have lb := hb'.len
  have t1 := u8s_take16 la
  have t2 := u8s_take16 lb
  refine scall_of (ord := fun _ => []) (rs := [4]) Try.func8 rfl (by kernel_rfl) (by kernel_rfl) (by kernel_rfl) Try.ntmps8 fun hb hargs => go 200 (fun _ => false) mixed ?_
  simp (disch := omega) only [↓reduceIte, go_sem, keyV, keyC, orgC, adrC, la, lb, t1, t2] <;> repeat with_reducible refine And.intro (by first | omega | decide) ?_
  refine (c_grant_origin a.page b.page).onq (go 200 (fun _ => false) mixed ?_)
  simp (disch := omega) only [↓reduceIte, go_sem, la, lb, t1, t2] <;> repeat with_reducible refine And.intro (by first | omega | decide) ?_
  refine (c_grant_origin a.to b.to).onq (go 200 (fun _ => false) mixed ?_)
  simp (disch := omega) only [↓reduceIte, go_sem, la, lb, t1, t2] <;> repeat with_reducible refine And.intro (by first | omega | decide) ?_
  refine (c_cmp_Compare_string a.meth b.meth).onq (go 200 (fun _ => false) mixed ?_)
  simp (disch := omega) only [↓reduceIte, go_sem, la, lb, t1, t2] <;> repeat with_reducible refine And.intro (by first | omega | decide) ?_
  refine (c_cmp_Compare_int a.fam b.fam).onq (go 200 (fun _ => false) mixed ?_)
  simp (disch := omega) only [↓reduceIte, go_sem, la, lb, t1, t2] <;> repeat with_reducible refine And.intro (by first | omega | decide) ?_
  refine ⟨_, c_bytes_Compare (i := H.length) (i' := H.length + 1) (off := 8) (off' := 8) (H := H ++ [some (.cells 0 (keyC a)), some (.cells 0 (keyC b))]) (by rw [get_tail0]; rfl) (by rw [get_tail]; rfl) la lb (key_at la) (key_at lb) ha.le hb'.le, go 200 (fun _ => false) mixed ?_⟩
  simp (disch := omega) only [↓reduceIte, go_sem, la, lb, t1, t2] <;> repeat with_reducible refine And.intro (by first | omega | decide) ?_
  refine (c_cmp_Or_int [cmpO a.page b.page, cmpO a.to b.to, cmpL a.meth b.meth, cmpI a.fam b.fam, cmpB a.ad b.ad] (by simp)).onq (go 200 (fun _ => false) mixed ?_)
  have e : orF [cmpO a.page b.page, cmpO a.to b.to, cmpL a.meth b.meth, cmpI a.fam b.fam, cmpB a.ad b.ad] = cmpK a b := by
    simp only [orF, cmpK]
    (repeat' split) <;> first | rfl | omega
  rw [e]
  simp (disch := omega) only [↓reduceIte, go_sem] <;> repeat with_reducible refine And.intro (by first | omega | decide) ?_
  exact fin_drop (.inr rfl) hb rfl (by simp)

theorem c_abatisref18_Compare (a b : GKey) (ha : KeyOk a) (hb' : KeyOk b) : PCall Try.prog 9 [keyV a, keyV b] (.int .i64 (cmpK a b)) := by
  intro H
  have la := ha.len
  have lb := hb'.len
  have t1 := u8s_take16 la
  have t2 := u8s_take16 lb
  refine scall_of (ord := fun _ => []) (rs := [4]) Try.func9 rfl (by kernel_rfl) (by kernel_rfl) (by kernel_rfl) Try.ntmps9 fun hb hargs => go 200 (fun _ => false) mixed ?_
  simp (disch := omega) only [↓reduceIte, go_sem, keyV, keyC, orgC, adrC, la, lb, t1, t2] <;> repeat with_reducible refine And.intro (by first | omega | decide) ?_
  refine (c_abatisref18_origin a.page b.page).on (go 200 (fun _ => false) mixed ?_)
  unfold cmpK
  by_cases h1 : cmpO a.page b.page = 0
  · rw [if_pos h1, h1]
    simp (disch := omega) only [↓reduceIte, go_sem, la, lb, t1, t2] <;> repeat with_reducible refine And.intro (by first | omega | decide) ?_
    refine (c_abatisref18_origin a.to b.to).on (go 200 (fun _ => false) mixed ?_)
    by_cases h2 : cmpO a.to b.to = 0
    · rw [if_pos h2, h2]
      simp (disch := omega) only [↓reduceIte, go_sem, la, lb, t1, t2] <;> repeat with_reducible refine And.intro (by first | omega | decide) ?_
      refine (c_abatisref18_texts a.meth b.meth).on (go 200 (fun _ => false) mixed ?_)
      by_cases h3 : cmpL a.meth b.meth = 0
      · rw [if_pos h3, h3]
        simp (disch := omega) only [↓reduceIte, go_sem, la, lb, t1, t2] <;> repeat with_reducible refine And.intro (by first | omega | decide) ?_
        refine (c_abatisref04_Compare a.fam a.ad la ha.le b.fam b.ad lb hb'.le).on (go 200 (fun _ => false) mixed ?_)
        simp (disch := omega) only [↓reduceIte, go_sem] <;> repeat with_reducible refine And.intro (by first | omega | decide) ?_
        exact fin_drop (.inr rfl) hb rfl (by simp)
      · rw [if_neg h3]
        simp (disch := omega) only [↓reduceIte, go_sem, h3] <;> repeat with_reducible refine And.intro (by first | omega | decide) ?_
        exact fin_drop (.inr rfl) hb rfl (by simp)
    · rw [if_neg h2]
      simp (disch := omega) only [↓reduceIte, go_sem, h2] <;> repeat with_reducible refine And.intro (by first | omega | decide) ?_
      exact fin_drop (.inr rfl) hb rfl (by simp)
  · rw [if_neg h1]
    simp (disch := omega) only [↓reduceIte, go_sem, h1] <;> repeat with_reducible refine And.intro (by first | omega | decide) ?_
    exact fin_drop (.inr rfl) hb rfl (by simp)
end Go.Proofs.GoC
