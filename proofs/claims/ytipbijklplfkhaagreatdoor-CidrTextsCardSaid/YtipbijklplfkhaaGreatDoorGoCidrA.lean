/-
  What the functions compute: prefixes. No claim by itself.
-/
import Derived.Test.YtipbijklplfkhaaGreatDoorGoCidrP
namespace Go.Proofs.GoC
open Go Go.Proofs.SL
set_option linter.unusedSimpArgs false
set_option linter.unusedVariables false
set_option maxRecDepth 10000
set_option maxHeartbeats 4000000

@[go_sem] theorem take16c {l : List Nat} (h : l.length = 16) : List.take 16 (u8s l) = u8s l := u8s_take16 h
@[go_sem] theorem take16a {l : List Nat} {r : List PV} (h : l.length = 16) : List.take 16 (u8s l ++ r) = u8s l := by
  rw [List.take_append_of_le_length (by rw [u8s_len]; omega)]; exact u8s_take16 h
@[go_sem] theorem take17a {l : List Nat} {x : PV} (h : l.length = 16) : List.take 17 (u8s l ++ [x]) = u8s l ++ [x] := List.take_of_length_le (by rw [List.length_append, u8s_len]; simp; omega)
@[go_sem] theorem get16a {l : List Nat} {x d : PV} (h : l.length = 16) : (u8s l ++ [x]).getD 16 d = x := by
  rw [List.getD_eq_getElem?_getD, List.getElem?_append_right (by rw [u8s_len]; omega), u8s_len, h]; rfl
@[go_sem] theorem drop17a {l : List Nat} {x : PV} (h : l.length = 16) : List.drop 17 (u8s l ++ [x]) = [] := List.drop_eq_nil_of_le (by rw [List.length_append, u8s_len]; simp; omega)
@[go_sem] theorem tag16c {l : List Nat} (h : l.length = 16) : List.map tagP (u8s l) = [some (Tag.i .u8), some (Tag.i .u8), some (Tag.i .u8), some (Tag.i .u8), some (Tag.i .u8), some (Tag.i .u8), some (Tag.i .u8), some (Tag.i .u8), some (Tag.i .u8), some (Tag.i .u8), some (Tag.i .u8), some (Tag.i .u8), some (Tag.i .u8), some (Tag.i .u8), some (Tag.i .u8), some (Tag.i .u8)] := u8s_tag16 h
attribute [go_sem] List.all_append List.map_append
@[go_sem] theorem len17a {l : List Nat} {x : PV} (h : l.length = 16) : (u8s l ++ [x]).length = 17 := by rw [List.length_append, u8s_len, h]; rfl

/-- A prefix: its address, its bits. -/
def preC (f : Int) (l : List Nat) (b : Int) : List PV := .int .i64 f :: (u8s l ++ [.int .i64 b])
def preV (f : Int) (l : List Nat) (b : Int) : PV := .agg (preC f l b)
@[go_sem] theorem pre_eq {f g b c : Int} {l m : List Nat} : (PV.int .i64 f :: (u8s l ++ [PV.int .i64 b]) = PV.int .i64 g :: (u8s m ++ [PV.int .i64 c])) ↔ f = g ∧ l = m ∧ b = c := by
  constructor
  · intro h
    simp only [List.cons.injEq, PV.int.injEq, true_and] at h
    have := List.append_inj' h.2 rfl
    exact ⟨h.1, u8s_inj.mp this.1, by simpa using this.2⟩
  · rintro ⟨rfl, rfl, rfl⟩; rfl
theorem bdd_pre {n : Nat} {f b : Int} {l : List Nat} : Bdd n (preV f l b) := .agg _ fun p hp => by
  rcases List.mem_cons.mp hp with rfl | hp
  · exact .int _ _
  · rcases List.mem_append.mp hp with hp | hp
    · obtain ⟨x, _, rfl⟩ := List.mem_map.mp hp
      exact .int _ _
    · rw [List.mem_singleton.mp hp]; exact .int _ _

theorem u8s_set {L : List Nat} {j n : Nat} : (u8s L).set j (.int .u8 (n : Nat)) = u8s (L.set j n) := by simp [u8s, List.map_set]

theorem andNot_fact : ∀ x : Fin 256, ∀ k : Fin 8, bitOp .andNot .u8 (x.val : Int) ((2 ^ k.val : Nat) : Int) = ((putB x.val k.val false : Nat) : Int) := by decide +kernel
theorem or_fact : ∀ x : Fin 256, ∀ k : Fin 8, ∀ v : Bool, bitOp .or .u8 ((putB x.val k.val false : Nat) : Int) ((2 ^ k.val * v.toNat : Nat) : Int) = ((putB x.val k.val v : Nat) : Int) := by decide +kernel
theorem putB_putB : ∀ x : Fin 256, ∀ k : Fin 8, ∀ v : Bool, putB (putB x.val k.val false) k.val v = putB x.val k.val v := by decide +kernel
theorem pow8 : ∀ k : Fin 8, 2 ^ k.val ≤ 128 := by decide

theorem c_cidr_fill (f : Int) (l : List Nat) (hl : l.length = 16) (hle : ∀ b ∈ l, b ≤ 255) (n : Nat) (hn : n ≤ 1000) (v : Bool) : PCall Tryz.prog 61 [adrV f l, .int .i64 n, .int .i64 (v.toNat : Nat)] (adrV f (fillF l n v (bitsA f))) := by
  intro H
  have hbl := bitsA_le f
  refine scall_ofc (ord := fun _ => []) (tdOf_ok _) (rs := [.cell 6 24]) Tryz.func61 rfl (by kernel_rfl) (by kernel_rfl) (by kernel_rfl) Tryz.ntmps61 fun hb hargs => go 200 (fun _ => false) mixed ?_
  simp (disch := omega) only [↓reduceIte, go_sem, hl, adrV, adrC] <;> repeat with_reducible refine And.intro (by first | omega | decide) ?_
  refine (c_addr_Bits f l hl).on (go 200 (fun _ => false) mixed ?_)
  generalize bitsA f = B at *
  simp (disch := omega) only [↓reduceIte, go_sem] <;> repeat with_reducible refine And.intro (by first | omega | decide) ?_
  refine runs_loopA (fun i : Nat => i ≤ B) (fun i => B - i) [false, true, true, true, false, false, true, false, false, false, true, true]
    (fun i => slots 44 [.any, .int .i64 n, .int .i64 (v.toNat : Nat), .ptr H.length 0 0, .any, .any, .ptr (H.length + 1) 0 0, .any, .any, .any, .int .i64 B, .int .i64 i])
    (fun i => H ++ [some (.cells 0 (.int .i64 f :: u8s (fillF l n v i))), some (.cells 0 (adrC 0 z16))]) (by rfl) 0 (Nat.zero_le _) rfl rfl ?_
  intro i hi
  have fl := (fillF_len l n v i).trans hl
  have fle := fillF_le hle n v i
  refine go 200 (fun _ => false) mixed ?_
  by_cases hlt : i < B
  · by_cases hni : n ≤ i
    · have e1 : fillF l n v (i + 1) = setL (fillF l n v i) i v := by rw [fillF, if_pos hni]
      have hx := mem_get8 fle (i / 8)
      have g := u8s_get (ns := fillF l n v i) (k := i / 8) (by omega)
      obtain ⟨x, hxx⟩ : ∃ x, x = (fillF l n v i).getD (i / 8) 0 := ⟨_, rfl⟩
      rw [← hxx] at g hx
      obtain ⟨k, hk⟩ : ∃ k, k = 7 - i % 8 := ⟨_, rfl⟩
      have hk8 : k < 8 := by omega
      have p1 := andNot_fact ⟨x, by omega⟩ ⟨k, hk8⟩
      have p2 := or_fact ⟨x, by omega⟩ ⟨k, hk8⟩ v
      have p3 := pow8 ⟨k, hk8⟩
      have g2 := u8s_get (ns := (fillF l n v i).set (i / 8) (putB x k false)) (k := i / 8) (by rw [List.length_set]; omega)
      have e2 : ((fillF l n v i).set (i / 8) (putB x k false)).getD (i / 8) 0 = putB x k false := by
        simp [List.getD_eq_getElem?_getD, show i / 8 < (fillF l n v i).length by omega]
      rw [e2] at g2
      dsimp only at p1 p2 p3
      have p4 : 2 ^ k * v.toNat ≤ 128 := by cases v <;> simp <;> omega
      have p5 : v.toNat ≤ 1 := Bool.toNat_le _
      obtain ⟨m, hm⟩ : ∃ m, m = 2 ^ k := ⟨_, rfl⟩
      have hw : IntKind.u8.wrap (1 * (2 : Int) ^ k) = (m : Int) := by
        rw [Int.one_mul, show (2 : Int) ^ k = ((2 ^ k : Nat) : Int) by norm_cast, ← hm]
        exact nw_u8 (by omega) (by omega)
      rw [← hm] at p1 p2 p3 p4
      have hse : (fillF l n v i).set (i / 8) (putB x k v) = setL (fillF l n v i) i v := by unfold setL; rw [← hxx, ← hk]
      simp (disch := omega) only [↓reduceIte, go_sem, hlt, hni, fl, g, ← hk, hw, p1, p2, u8s_set, List.length_set, g2, List.set_set, hse] <;> repeat with_reducible refine And.intro (by first | omega | decide) ?_
      refine rnd_next (i + 1) (by show i + 1 ≤ B; omega) (by show B - (i + 1) < B - i; omega) rfl ?_
      rw [e1]
    · have e1 : fillF l n v (i + 1) = fillF l n v i := by rw [fillF, if_neg hni]
      simp (disch := omega) only [↓reduceIte, go_sem, hlt, hni] <;> repeat with_reducible refine And.intro (by first | omega | decide) ?_
      refine rnd_next (i + 1) (by show i + 1 ≤ B; omega) (by show B - (i + 1) < B - i; omega) rfl ?_
      rw [e1]
  · have hiB : i = B := by omega
    subst hiB
    simp (disch := omega) only [↓reduceIte, go_sem, hlt] <;> repeat with_reducible refine And.intro (by first | omega | decide) ?_
    refine go 200 (fun _ => false) mixed ?_
    simp (disch := omega) only [↓reduceIte, go_sem, fl, adrC] <;> repeat with_reducible refine And.intro (by first | omega | decide) ?_
    have dz : List.drop 16 (u8s z16) = [] := rfl
    refine fin_c (.inr rfl) hb ?_ bdd_adr
    simp (disch := omega) only [↓reduceIte, go_sem, fl, adrC, dz] <;> repeat with_reducible refine And.intro (by first | omega | decide) ?_

theorem c_abatisref05_With (f : Int) (l : List Nat) (hl : l.length = 16) (hle : ∀ b ∈ l, b ≤ 255) (ht : Tail0 f l) (n : Nat) (hn : n ≤ 1000) (v : Bool) : PCall Tryz.prog 44 [adrV f l, .int .i64 n, .int .i64 (v.toNat : Nat)] (adrV f (fillF l n v (bitsA f))) := by
  intro H
  have hbl := bitsA_le f
  have hbit := fun q => bitA_bt (f := f) (l := l) (q := q)
  rw [← built_fill hl hle ht n v]
  have p5 : v.toNat ≤ 1 := Bool.toNat_le _
  obtain ⟨g, hg⟩ : ∃ g : Nat → Bool, g = fun q => if n ≤ q then v else bt l q := ⟨_, rfl⟩
  rw [← hg]
  refine scall_ofc (ord := fun _ => []) (tdOf_ok _) (rs := [.cell 6 24]) Tryz.func44 rfl (by kernel_rfl) (by kernel_rfl) (by kernel_rfl) Tryz.ntmps44 fun hb hargs => go 200 (fun _ => false) mixed ?_
  simp (disch := omega) only [↓reduceIte, go_sem, hl, adrV, adrC] <;> repeat with_reducible refine And.intro (by first | omega | decide) ?_
  refine runs_loopA (fun i : Nat => i ≤ bitsA f) (fun i => bitsA f - i) [false, true, true, true, false, false, true, true, true]
    (fun i => slots 40 [.any, .int .i64 n, .int .i64 (v.toNat : Nat), .ptr H.length 0 0, .any, .any, .ptr (H.length + 1) 0 0, .ptr (H.length + 2) 0 0, .int .i64 i])
    (fun i => H ++ [some (.cells 0 (.int .i64 f :: u8s l)), some (.cells 0 (adrC 0 z16)), some (.cells 0 (.int .i64 f :: u8s (builtF g i)))]) (by rfl) 0 (Nat.zero_le _) rfl rfl ?_
  intro i hi
  refine go 200 (fun _ => false) mixed ?_
  simp (disch := omega) only [↓reduceIte, go_sem, hl] <;> repeat with_reducible refine And.intro (by first | omega | decide) ?_
  refine (c_abatisref04_Bits f l hl).on (go 200 (fun _ => false) mixed ?_)
  have bl := builtF_len g i
  have hst := fun h => builtF_step g (i := i) h
  have hble := builtF_le g i
  generalize bitsA f = B at *
  by_cases hlt : i < B
  · have hx := builtF_get g i (j := i / 8) (by omega)
    have hgt := u8s_get (ns := builtF g i) (k := i / 8) (by omega)
    have hst := hst (by omega)
    have hb1 := hbit i hlt
    have hxl : (builtF g i).getD (i / 8) 0 ≤ 127 := by
      rw [hx]
      have h1 := byteOf_lt g (i / 8) (min 8 (i - 8 * (i / 8)))
      have h2 : (2 : Nat) ^ (min 8 (i - 8 * (i / 8))) ≤ 2 ^ 7 := Nat.pow_le_pow_right (by omega) (by omega)
      omega
    have hgi : g i = if n ≤ i then v else bt l i := by rw [hg]
    have hgl : (g i).toNat ≤ 1 := Bool.toNat_le _
    generalize (builtF g i).getD (i / 8) 0 = x at *
    have fin1 : ∀ y : Nat, y = (g i).toNat → (builtF g i).set (i / 8) (x * 2 + y) = builtF g (i + 1) := fun y hy => by rw [hy]; exact hst
    simp (disch := omega) only [↓reduceIte, go_sem, hlt, hl] <;> repeat with_reducible refine And.intro (by first | omega | decide) ?_
    refine (c_abatisref04_Bit f l hl hle i).on (go 200 (fun _ => false) mixed ?_)
    by_cases hni : n ≤ i
    · rw [if_pos hni] at hgi
      rw [hgi] at fin1 hgl
      simp (disch := omega) only [↓reduceIte, go_sem, hlt, hni, bl, hgt, u8s_set, fin1 _ rfl] <;> repeat with_reducible refine And.intro (by first | omega | decide) ?_
      refine rnd_next (i + 1) (by show i + 1 ≤ B; omega) (by show B - (i + 1) < B - i; omega) rfl rfl
    · rw [if_neg hni] at hgi
      rw [hgi] at fin1 hgl
      rw [hb1]
      simp (disch := omega) only [↓reduceIte, go_sem, hlt, hni, bl, hgt, u8s_set, fin1 _ rfl] <;> repeat with_reducible refine And.intro (by first | omega | decide) ?_
      refine rnd_next (i + 1) (by show i + 1 ≤ B; omega) (by show B - (i + 1) < B - i; omega) rfl rfl
  · have hiB : i = B := by omega
    subst hiB
    simp (disch := omega) only [↓reduceIte, go_sem, hlt] <;> repeat with_reducible refine And.intro (by first | omega | decide) ?_
    refine go 200 (fun _ => false) mixed ?_
    simp (disch := omega) only [↓reduceIte, go_sem, bl, adrC] <;> repeat with_reducible refine And.intro (by first | omega | decide) ?_
    have dz : List.drop 16 (u8s z16) = [] := rfl
    refine fin_c (.inr rfl) hb ?_ bdd_adr
    simp (disch := omega) only [↓reduceIte, go_sem, bl, adrC, dz] <;> repeat with_reducible refine And.intro (by first | omega | decide) ?_

/-- So many bits of an address: of any number. -/
def maskN (f : Int) (b : Int) : Nat := min b.toNat (bitsA f)
def maskL (f : Int) (l : List Nat) (b : Int) : List Nat := fillF l (maskN f b) false (bitsA f)
theorem maskN_le (f b : Int) : maskN f b ≤ bitsA f := Nat.min_le_right _ _
theorem maskL_len {f b : Int} {l : List Nat} (hl : l.length = 16) : (maskL f l b).length = 16 := (fillF_len _ _ _ _).trans hl
theorem maskL_le {f b : Int} {l : List Nat} (hle : ∀ x ∈ l, x ≤ 255) : ∀ x ∈ maskL f l b, x ≤ 255 := fillF_le hle _ _ _
theorem maskL_bt {f b : Int} {l : List Nat} (hl : l.length = 16) (hle : ∀ x ∈ l, x ≤ 255) {q : Nat} (hq : q < 128) : bt (maskL f l b) q = if maskN f b ≤ q ∧ q < bitsA f then false else bt l q := fillF_bt hl hle _ _ hq _ (bitsA_le f)
theorem maskV {f b : Int} : (if (bitsA f : Int) < max b 0 then (bitsA f : Int) else max b 0) = (maskN f b : Int) := by unfold maskN; split <;> omega

theorem c_cidr_Mask (f : Int) (l : List Nat) (hl : l.length = 16) (hle : ∀ b ∈ l, b ≤ 255) (b : Int) : PCall Tryz.prog 36 [adrV f l, .int .i64 b] (preV f (maskL f l b) (maskN f b)) := by
  intro H
  have hbl := bitsA_le f
  have ml := maskL_len (f := f) (b := b) hl
  have hm := maskV (f := f) (b := b)
  have hn := maskN_le f b
  have hz : ∀ x : Int, (if (0 : Int) > x then 0 else x) = max x 0 := fun x => by split <;> omega
  refine scall_ofc (ord := fun _ => []) (tdOf_ok _) (rs := [.cell 4 26]) Tryz.func36 rfl (by kernel_rfl) (by kernel_rfl) (by kernel_rfl) Tryz.ntmps36 fun hb hargs => go 200 (fun _ => false) mixed ?_
  simp (disch := omega) only [↓reduceIte, go_sem, hl, adrV, adrC, hz] <;> repeat with_reducible refine And.intro (by first | omega | decide) ?_
  refine (c_addr_Bits f l hl).on (go 200 (fun _ => false) mixed ?_)
  simp (disch := omega) only [↓reduceIte, go_sem, hl, hz, hm] <;> repeat with_reducible refine And.intro (by first | omega | decide) ?_
  have hf := c_cidr_fill f l hl hle (maskN f b) (by omega) false
  rw [show fillF l (maskN f b) false (bitsA f) = maskL f l b from rfl] at hf
  refine hf.on (go 200 (fun _ => false) mixed ?_)
  simp (disch := omega) only [↓reduceIte, go_sem, ml, adrV, adrC] <;> repeat with_reducible refine And.intro (by first | omega | decide) ?_
  refine fin_c (.inr rfl) hb ?_ bdd_pre
  simp (disch := omega) only [↓reduceIte, go_sem, ml, preC] <;> repeat with_reducible refine And.intro (by first | omega | decide) ?_
  rfl

theorem c_abatisref05_Mask (f : Int) (l : List Nat) (hl : l.length = 16) (hle : ∀ b ∈ l, b ≤ 255) (ht : Tail0 f l) (b : Int) : PCall Tryz.prog 20 [adrV f l, .int .i64 b] (preV f (maskL f l b) (maskN f b)) := by
  intro H
  have hbl := bitsA_le f
  have ml := maskL_len (f := f) (b := b) hl
  have hm := maskV (f := f) (b := b)
  have hn := maskN_le f b
  have hz : ∀ x : Int, (if (0 : Int) > x then 0 else x) = max x 0 := fun x => by split <;> omega
  refine scall_ofc (ord := fun _ => []) (tdOf_ok _) (rs := [.cell 4 26]) Tryz.func20 rfl (by kernel_rfl) (by kernel_rfl) (by kernel_rfl) Tryz.ntmps20 fun hb hargs => go 200 (fun _ => false) mixed ?_
  simp (disch := omega) only [↓reduceIte, go_sem, hl, adrV, adrC, hz] <;> repeat with_reducible refine And.intro (by first | omega | decide) ?_
  refine (c_abatisref04_Bits f l hl).on (go 200 (fun _ => false) mixed ?_)
  simp (disch := omega) only [↓reduceIte, go_sem, hl, hz, hm] <;> repeat with_reducible refine And.intro (by first | omega | decide) ?_
  have hf := c_abatisref05_With f l hl hle ht (maskN f b) (by omega) false
  rw [show fillF l (maskN f b) false (bitsA f) = maskL f l b from rfl] at hf
  refine hf.on (go 200 (fun _ => false) mixed ?_)
  simp (disch := omega) only [↓reduceIte, go_sem, ml, adrV, adrC] <;> repeat with_reducible refine And.intro (by first | omega | decide) ?_
  refine fin_c (.inr rfl) hb ?_ bdd_pre
  simp (disch := omega) only [↓reduceIte, go_sem, ml, preC] <;> repeat with_reducible refine And.intro (by first | omega | decide) ?_
  rfl

/-- Whether a prefix may be. -/
def mayP (f : Int) (l : List Nat) (b : Int) : Bool := mayA f l && !decide (f = 0) && decide (l = maskL f l b ∧ b = maskN f b)

theorem c_cidr_May (f : Int) (l : List Nat) (hl : l.length = 16) (hle : ∀ b ∈ l, b ≤ 255) (b : Int) : PCall Tryz.prog 15 [preV f l b] (.bool (mayP f l b)) := by
  intro H
  have ml := maskL_len (f := f) (b := b) hl
  unfold mayP
  refine scall_of (ord := fun _ => []) (rs := [2]) Tryz.func15 rfl (by kernel_rfl) (by kernel_rfl) (by kernel_rfl) Tryz.ntmps15 fun hb hargs => go 200 (fun _ => false) mixed ?_
  simp (disch := omega) only [↓reduceIte, go_sem, hl, preV, preC] <;> repeat with_reducible refine And.intro (by first | omega | decide) ?_
  refine (c_addr_May f l hl hle).onq (go 200 (fun _ => false) mixed ?_)
  cases hmay : mayA f l with
  | false =>
    simp (disch := omega) only [↓reduceIte, go_sem, hl] <;> repeat with_reducible refine And.intro (by first | omega | decide) ?_
    exact fin_drop (.inr rfl) hb rfl (by simp)
  | true =>
    by_cases h0 : f = 0
    · simp (disch := omega) only [↓reduceIte, go_sem, hl, h0] <;> repeat with_reducible refine And.intro (by first | omega | decide) ?_
      exact fin_drop (.inr rfl) hb (by simp [retV]) (by simp)
    · simp (disch := omega) only [↓reduceIte, go_sem, hl, h0] <;> repeat with_reducible refine And.intro (by first | omega | decide) ?_
      refine (c_cidr_Mask f l hl hle b).onq (go 200 (fun _ => false) mixed ?_)
      simp (disch := omega) only [↓reduceIte, go_sem, hl, preV, preC, ml] <;> repeat with_reducible refine And.intro (by first | omega | decide) ?_
      exact fin_drop (.inr rfl) hb (congrArg PV.bool (by rw [Bool.eq_iff_iff] <;> simp)) (by simp)
end Go.Proofs.GoC
