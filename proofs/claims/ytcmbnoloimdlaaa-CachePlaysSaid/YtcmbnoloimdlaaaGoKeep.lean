/-
  What a set leaves. No claim by itself.
-/
import Derived.Test.YtcmbnoloimdlaaaSlHp
namespace Go.Proofs.GoC
open Go Go.Proofs.SL

theorem keep_setN {H K : Heap} {F : List Nat} {n : Nat} {x : Option OB} (k : Keeps F H K) (h : H.length ≤ n) : Keeps F H (K.set n x) :=
  ((k.mono (G := n :: F) fun j hj => .inl (List.mem_cons_of_mem _ hj)).trans (Keeps.setF (by simp))).mono fun j hj => by
    rcases List.mem_cons.mp hj with rfl | hj
    · exact .inr h
    · exact .inl hj
theorem keep_setApp {H K L : Heap} {F : List Nat} {n : Nat} {x : Option OB} (k : Keeps F H K) (h : H.length ≤ n) : Keeps F H (K.set n x ++ L) := (keep_setN k h).trans Keeps.app

end Go.Proofs.GoC
