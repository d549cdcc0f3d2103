/-
  Layer 16: a world and the reference's, side by side: behind a call of Next of each.
-/
import Derived.Test.YtlcfokndkkjklaaWldTi
import Derived.Test.YtlcfokndkkjklaaRfN
namespace Go.Proofs.Ytlcfokndkkjklaa
set_option linter.unusedVariables false
open Go.RowKit

theorem itOf_len {w : World} {x : ItD} (h : BRow w x.ao x.m x.cap x.zs) : (itOf x).bs.length = x.m := by
  have := h.le
  unfold itOf
  dsimp only
  rw [List.length_take]
  omega

theorem Tie.far {w0 w w1 w2 : World} {μ : Wm} {z : Zt} {Z : List Zt} {c : Wc} {bM : Nat} {u u' v' : Value} {x : ItD} {L : List ItD} {p : PlanD} (h : Tie w0 w μ (z :: Z) c bM u (x :: L) p)
    (O : OwnWd w0 w1 { μ with v := v' } Z c) (k2 : Chg [bM] w1 w2) (R : OwnRf w0 w2 bM u' L p c.wrote c.got c.set) (hu : u'.ownBlock = u.ownBlock) : Tie w0 w2 { μ with v := v' } Z c bM u' L p := by
  have e := h.it
  injection e with e1 e2
  replace e1 : itOf x = z.it := e1
  exact ⟨wd_of_rf O h.s1 h.R.b1 k2, R, e2, h.cp, h.s1, fun k hk => h.s2 k (by rw [← hu]; exact hk)⟩

theorem Tie.dat {w0 w w1 w2 : World} {μ : Wm} {z : Zt} {Z : List Zt} {c : Wc} {bM : Nat} {u u' v' : Value} {x : ItD} {L : List ItD} {p : PlanD} {k : Nat} (h : Tie w0 w μ (z :: Z) c bM u (x :: L) p)
    (O : OwnWd w0 w1 { μ with v := v' } (if k = z.it.bs.length then Z else z.cut k :: Z) c) (k2 : Chg [bM] w1 w2) (R : OwnRf w0 w2 bM u' (if k = x.m then L else x.cut k :: L) p c.wrote c.got c.set) (hu : ∀ j, u'.ownBlock = some j → w1.heap.size ≤ j) :
    Tie w0 w2 { μ with v := v' } (if k = z.it.bs.length then Z else z.cut k :: Z) c bM u' (if k = x.m then L else x.cut k :: L) p := by
  have e := h.it
  injection e with e1 e2
  replace e1 : itOf x = z.it := e1
  have hm : z.it.bs.length = x.m := by rw [← e1]; exact itOf_len (h.R.dat x List.mem_cons_self).1
  refine ⟨wd_of_rf O h.s1 h.R.b1 k2, R, ?_, h.cp, h.s1, fun j hj => O.hi j (hu j hj)⟩
  rw [hm]
  by_cases hk : k = x.m
  · rw [if_pos hk, if_pos hk]; exact e2
  · rw [if_neg hk, if_neg hk, List.map_cons, List.map_cons, itOf_cut, e2]
    show _ = ({ z.it with bs := z.it.bs.drop k } : It) :: _
    rw [e1]

/-- The bytes that both tell. -/
theorem Tie.bytes {w0 w : World} {μ : Wm} {z : Zt} {Z : List Zt} {c : Wc} {bM : Nat} {u : Value} {x : ItD} {L : List ItD} {p : PlanD} {k : Nat} (h : Tie w0 w μ (z :: Z) c bM u (x :: L) p) (hk : k ≤ z.it.bs.length) :
    x.kind = z.it.kind ∧ x.n = z.it.n ∧ x.m = z.it.bs.length ∧ x.zs.take k = z.it.bs.take k := by
  have e := h.it
  injection e with e1 e2
  replace e1 : itOf x = z.it := e1
  have hm : z.it.bs.length = x.m := by rw [← e1]; exact itOf_len (h.R.dat x List.mem_cons_self).1
  refine ⟨by rw [← e1]; rfl, by rw [← e1]; rfl, hm.symm, ?_⟩
  rw [← e1]
  show _ = (x.zs.take x.m).take k
  rw [List.take_take, Nat.min_eq_left (by omega)]

/-- Behind a call of either world alone, a block of the caller's is as it was. -/
theorem Tie.free {w0 w : World} {μ : Wm} {Z : List Zt} {c : Wc} {bM : Nat} {u : Value} {L : List ItD} {p : PlanD} (h : Tie w0 w μ Z c bM u L p) : μ.f w.heap.size = 0 ∧ w.heap.size ≠ bM := ⟨h.W.hi _ (Nat.le_refl _), fun e => by have := heap_lt h.R.hM; omega⟩
end Go.Proofs.Ytlcfokndkkjklaa
