/-
  What the law CachePlays is handed. No claim by itself.
-/
import Derived.Test.YtcmbnoloimdlaaaGoCacheG
import Derived.Test.YtcmbnoloimdlaaaGoCacheM
import Derived.Test.YtcmbnoloimdlaaaSlArgN
namespace Go.Proofs.GoC
open Go Go.Proofs.SL
set_option linter.unusedSimpArgs false
set_option linter.unusedVariables false

def adT : List Tag := [.i .i64, .i .u8, .i .u8, .i .u8, .i .u8, .i .u8, .i .u8, .i .u8, .i .u8, .i .u8, .i .u8, .i .u8, .i .u8, .i .u8, .i .u8, .i .u8, .i .u8]
def cdFS (e : TypeId) : List FS := [.plain (.i .i64), .plain (.i .i64), .plain (.i .i64), .plain (.i .i64), .plain .s, .sl e adT true]
theorem cds_of {e : TypeId} {ys : List (List PV)} (h : ∀ y ∈ ys, y.length = (cdFS e).length ∧ ∀ (i : Nat) (p : PV) (s : FS), y[i]? = some p → (cdFS e)[i]? = some s → FSays s p) : ∃ l : List CDeed, ys.map PV.agg = cdV l ∧ l.length = ys.length ∧ ∀ d ∈ l, CDeedOk d := by
  induction ys with
  | nil => exact ⟨[], rfl, rfl, by simp⟩
  | cons y ys ih =>
    obtain ⟨l, hB, hl, hm⟩ := ih fun z hz => h z (List.mem_cons_of_mem _ hz)
    obtain ⟨h0, hw⟩ := h y (by simp)
    match y, h0 with
    | [q0, q1, q2, q3, q4, q5], _ =>
      obtain ⟨a0, b0⟩ := hw 0 q0 _ rfl rfl
      obtain ⟨a1, b1⟩ := hw 1 q1 _ rfl rfl
      obtain ⟨a2, b2⟩ := hw 2 q2 _ rfl rfl
      obtain ⟨a3, b3⟩ := hw 3 q3 _ rfl rfl
      obtain ⟨a4, b4⟩ := hw 4 q4 _ rfl rfl
      obtain ⟨zs, e5, hz, hzl⟩ := hw 5 q5 _ rfl rfl
      obtain ⟨n0, rfl, _⟩ := cell_i64 a0 b0
      obtain ⟨n1, rfl, _⟩ := cell_i64 a1 b1
      obtain ⟨n2, rfl, _⟩ := cell_i64 a2 b2
      obtain ⟨n3, rfl, c3⟩ := cell_i64 a3 b3
      obtain ⟨s4, rfl, _⟩ := cell_str a4 b4
      obtain ⟨al, hal, hall, hao⟩ := ads_of hz
      rw [hal] at e5
      subst e5
      refine ⟨⟨n0, n1, n2, n3, s4, al⟩ :: l, ?_, by simp [hl], fun d hd => ?_⟩
      · rw [List.map_cons, hB]; rfl
      · rcases List.mem_cons.mp hd with rfl | hd
        · exact ⟨c3.1, c3.2, hao, by rw [hall]; exact Nat.le_trans hzl (by decide)⟩
        · exact hm d hd
end Go.Proofs.GoC
