/-
  Layer 16: a world and the reference's, side by side.
-/
import Derived.Test.YtmcbgpjphjacjaaRfW
namespace Go.Proofs.Ytmcbgpjphjacjaa
set_option linter.unusedVariables false
open Go.RowKit

theorem chgF_rf {w0 w w' : World} {μ : Wm} {Z : List Zt} {c : Wc} {bM : Nat} {u : Value} {L : List ItD} {p : PlanD} {a b d : Nat} (W : OwnWd w0 w μ Z c) (R : OwnRf w0 w bM u L p a b d) (s1 : μ.f bM = 0) (s2 : ∀ k, u.ownBlock = some k → μ.f k = 0) (k : ChgF μ.f w w') : OwnRf w0 w' bM u L p a b d := by
  obtain ⟨S, k1, k2⟩ := k
  refine R.chg k1 (fun x hx => ?_) (fun hm => k2 _ hm s1) (fun j hj hm => k2 _ hm (s2 j hj))
  by_cases h : w0.heap.size ≤ x
  · exact h
  · exact absurd (W.lo x (by omega)) (k2 x hx)

/-- The law's world and the reference's, of the same plan, as far gone. -/
structure Tie (w0 w : World) (μ : Wm) (Z : List Zt) (c : Wc) (bM : Nat) (u : Value) (L : List ItD) (p : PlanD) : Prop where
  W : OwnWd w0 w μ Z c
  R : OwnRf w0 w bM u L p c.wrote c.got c.set
  it : L.map itOf = Z.map (·.it)
  cp : c.ws = p.ws.take p.wl ∧ c.gs = p.gs.take p.gl ∧ c.ss = p.ss.take p.sl
  s1 : μ.f bM = 0
  s2 : ∀ k, u.ownBlock = some k → μ.f k = 0

theorem Tie.chg0 {w0 w w' : World} {μ : Wm} {Z : List Zt} {c : Wc} {bM : Nat} {u : Value} {L : List ItD} {p : PlanD} (h : Tie w0 w μ Z c bM u L p) (k : Chg [] w w') : Tie w0 w' μ Z c bM u L p :=
  ⟨h.W.chg0 k, h.R.chg0 k, h.it, h.cp, h.s1, h.s2⟩

theorem Tie.len {w0 w : World} {μ : Wm} {Z : List Zt} {c : Wc} {bM : Nat} {u : Value} {L : List ItD} {p : PlanD} (h : Tie w0 w μ Z c bM u L p) : Z.length = L.length := by
  have := congrArg List.length h.it
  rw [List.length_map, List.length_map] at this
  exact this.symm

/-- Behind a call of the law's world: the reference's is as it was. -/
theorem Tie.rf {w0 w w' : World} {μ : Wm} {Z : List Zt} {c : Wc} {bM : Nat} {u : Value} {L : List ItD} {p : PlanD} (h : Tie w0 w μ Z c bM u L p) (k : ChgF μ.f w w') : OwnRf w0 w' bM u L p c.wrote c.got c.set := chgF_rf h.W h.R h.s1 h.s2 k

/-- Behind a call of the reference's: the law's is as it was. -/
theorem wd_of_rf {w0 w w' : World} {μ : Wm} {Z : List Zt} {c : Wc} {bM : Nat} (W : OwnWd w0 w μ Z c) (s1 : μ.f bM = 0) (hb : w0.heap.size ≤ bM) (k : Chg [bM] w w') : OwnWd w0 w' μ Z c :=
  W.chg k (fun x hx => by rw [List.mem_singleton.1 hx]; exact ⟨s1, hb⟩)

/-- Write, Get, Set: both counters turn. -/
theorem Tie.turn {w0 w w1 w2 : World} {μ : Wm} {Z : List Zt} {c c' : Wc} {bM : Nat} {u : Value} {L : List ItD} {p : PlanD} (h : Tie w0 w μ Z c bM u L p) (k : Chg [bM] w1 w2) (W : OwnWd w0 w1 μ Z c') (R : OwnRf w0 w2 bM u L p c'.wrote c'.got c'.set) (hc : c'.ws = c.ws ∧ c'.gs = c.gs ∧ c'.ss = c.ss) : Tie w0 w2 μ Z c' bM u L p :=
  ⟨wd_of_rf W h.s1 h.R.b1 k, R, h.it, by rw [hc.1, hc.2.1, hc.2.2]; exact h.cp, h.s1, h.s2⟩

/-- The heads agree. -/
theorem Tie.head {w0 w : World} {μ : Wm} {z : Zt} {Z : List Zt} {c : Wc} {bM : Nat} {u : Value} {L : List ItD} {p : PlanD} (h : Tie w0 w μ (z :: Z) c bM u L p) : ∃ x L', L = x :: L' ∧ itOf x = z.it ∧ L'.map itOf = Z.map (·.it) := by
  have e := h.it
  cases L with
  | nil => cases e
  | cons x L' =>
    injection e with e1 e2
    exact ⟨x, L', rfl, e1, e2⟩

theorem Tie.none {w0 w : World} {μ : Wm} {c : Wc} {bM : Nat} {u : Value} {L : List ItD} {p : PlanD} (h : Tie w0 w μ [] c bM u L p) : L = [] := List.map_eq_nil_iff.1 h.it

theorem OwnRf.base {w0 w1 w : World} {bM : Nat} {u : Value} {L : List ItD} {p : PlanD} {a b d : Nat} (h : OwnRf w1 w bM u L p a b d) (k : Chg [] w0 w1) (hp : p.At w0) (hd : ∀ y ∈ L, BRow w0 y.ao y.m y.cap y.zs ∧ Wd y.b) : OwnRf w0 w bM u L p a b d :=
  ⟨h.hM, h.row, h.ne, k.trans h.c0 (fun y hy => hy) (by simp), hp, hd, Nat.le_trans k.size h.b1, fun j hj => Nat.le_trans k.size (h.b2 j hj)⟩

theorem its_row {w : World} {p : PlanD} (h : p.At w) : ∀ y ∈ p.its, BRow w y.ao y.m y.cap y.zs ∧ Wd y.b := fun y hy => by
  obtain ⟨k, hk⟩ := List.getElem?_of_mem hy
  have hlt := (List.getElem?_eq_some_iff.1 hk).1
  obtain ⟨bl, off, e, hx⟩ := h.its.2 (by have := h.its.1; omega)
  have ha := hx k y hk
  exact ⟨ha.2.2.2.2.1, ha.2.2.2.2.2⟩
end Go.Proofs.Ytmcbgpjphjacjaa
