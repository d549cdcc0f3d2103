/-
  TtyActs: a terminal and its arena beside the reference's.
-/
import Derived.Test.YtmcbgpjphjacjaaTtyJ
import Derived.Test.YtmcbgpjphjacjaaTtyM
import Derived.Test.YtmcbgpjphjacjaaWldTi
import Derived.Test.YtmcbgpjphjacjaaRfN
namespace Go.Proofs.Ytmcbgpjphjacjaa
set_option linter.unusedVariables false
open Go.RowKit

theorem itOf_len {w : World} {x : ItD} (h : BRow w x.ao x.m x.cap x.zs) : (itOf x).bs.length = x.m := by
  have := h.le
  unfold itOf
  dsimp only
  rw [List.length_take]
  omega

theorem Tie.far {w0 w w1 w2 : World} {μ : Wm} {z : Zt} {Z : List Zt} {c : Wc} {bM : Nat} {u u' v' : Value} {x : ItD} {L : List ItD} {p : PlanD} (h : Tie w0 w μ (z :: Z) c bM u (x :: L) p)
    (O : OwnWd w0 w1 { μ with v := v' } Z c) (k2 : Chg [bM] w1 w2) (R : OwnRf w0 w2 bM u' L p c.wrote c.got c.set) (hu : u'.ownBlock = u.ownBlock) : Tie w0 w2 { μ with v := v' } Z c bM u' L p := by
  have e := h.it
  injection e with e1 e2
  replace e1 : itOf x = z.it := e1
  exact ⟨wd_of_rf O h.s1 h.R.b1 k2, R, e2, h.cp, h.s1, fun k hk => h.s2 k (by rw [← hu]; exact hk)⟩

theorem Tie.dat {w0 w w1 w2 : World} {μ : Wm} {z : Zt} {Z : List Zt} {c : Wc} {bM : Nat} {u u' v' : Value} {x : ItD} {L : List ItD} {p : PlanD} {k : Nat} (h : Tie w0 w μ (z :: Z) c bM u (x :: L) p)
    (O : OwnWd w0 w1 { μ with v := v' } (if k = z.it.bs.length then Z else z.cut k :: Z) c) (k2 : Chg [bM] w1 w2) (R : OwnRf w0 w2 bM u' (if k = x.m then L else x.cut k :: L) p c.wrote c.got c.set) (hu : ∀ j, u'.ownBlock = some j → w1.heap.size ≤ j) :
    Tie w0 w2 { μ with v := v' } (if k = z.it.bs.length then Z else z.cut k :: Z) c bM u' (if k = x.m then L else x.cut k :: L) p := by
  have e := h.it
  injection e with e1 e2
  replace e1 : itOf x = z.it := e1
  have hm : z.it.bs.length = x.m := by rw [← e1]; exact itOf_len (h.R.dat x List.mem_cons_self).1
  refine ⟨wd_of_rf O h.s1 h.R.b1 k2, R, ?_, h.cp, h.s1, fun j hj => O.hi j (hu j hj)⟩
  rw [hm]
  by_cases hk : k = x.m
  · rw [if_pos hk, if_pos hk]; exact e2
  · rw [if_neg hk, if_neg hk, List.map_cons, List.map_cons, itOf_cut, e2]
    show _ = ({ z.it with bs := z.it.bs.drop k } : It) :: _
    rw [e1]

/-- The bytes that both tell. -/
theorem Tie.bytes {w0 w : World} {μ : Wm} {z : Zt} {Z : List Zt} {c : Wc} {bM : Nat} {u : Value} {x : ItD} {L : List ItD} {p : PlanD} {k : Nat} (h : Tie w0 w μ (z :: Z) c bM u (x :: L) p) (hk : k ≤ z.it.bs.length) :
    x.kind = z.it.kind ∧ x.n = z.it.n ∧ x.m = z.it.bs.length ∧ x.zs.take k = z.it.bs.take k := by
  have e := h.it
  injection e with e1 e2
  replace e1 : itOf x = z.it := e1
  have hm : z.it.bs.length = x.m := by rw [← e1]; exact itOf_len (h.R.dat x List.mem_cons_self).1
  refine ⟨by rw [← e1]; rfl, by rw [← e1]; rfl, hm.symm, ?_⟩
  rw [← e1]
  show _ = (x.zs.take x.m).take k
  rw [List.take_take, Nat.min_eq_left (by omega)]

/-- Behind a call of either world alone, a block of the caller's is as it was. -/
theorem Tie.free {w0 w : World} {μ : Wm} {Z : List Zt} {c : Wc} {bM : Nat} {u : Value} {L : List ItD} {p : PlanD} (h : Tie w0 w μ Z c bM u L p) : μ.f w.heap.size = 0 ∧ w.heap.size ≠ bM := ⟨h.W.hi _ (Nat.le_refl _), fun e => by have := heap_lt h.R.hM; omega⟩
end Go.Proofs.Ytmcbgpjphjacjaa

namespace Go.Proofs.Ytmcbgpjphjacjaa
set_option linter.unusedVariables false
set_option linter.unusedSimpArgs false
set_option maxRecDepth 100000
open Go.RowKit

/-- The two apart. -/
structure Sep (w0 w : World) (p : PlanD) (τ : Tt) (ρ : Rt) (bA bC : Nat) (l : List Int) : Prop where
  t : RdOk w0 w τ bA bC 64 l
  r : RtIs w0 w p ρ
  d : ∀ k, τ.own k → ¬ ρ.own k
  dA : ¬ ρ.own bA
  dC : ¬ ρ.own bC

theorem Sep.chg0 {w0 w w' : World} {p : PlanD} {τ : Tt} {ρ : Rt} {bA bC : Nat} {l : List Int} (h : Sep w0 w p τ ρ bA bC l) (c : Chg [] w w') : Sep w0 w' p τ ρ bA bC l := ⟨h.t.chg0 c, h.r.chg0 c, h.d, h.dA, h.dC⟩

/-- Behind a call of the terminal's. -/
theorem Sep.left {w0 w w' : World} {p : PlanD} {τ τ' : Tt} {ρ : Rt} {bA bC : Nat} {l l' : List Int} (h : Sep w0 w p τ ρ bA bC l) (G : RdGo w0 w τ τ' bA bC 64 l' w') : Sep w0 w' p τ' ρ bA bC l' := by
  refine ⟨G.ok, h.r.chgO G.c (fun x hx => ⟨fun ho => ?_, (h.t.lt x hx).1⟩), fun k hk ho => (G.own k hk).elim (fun e => h.d k e ho) (fun e => by have := (h.r.own_lt k ho).2; omega), h.dA, h.dC⟩
  rcases hx with hx | rfl | rfl
  · exact h.d x hx ho
  · exact h.dA ho
  · exact h.dC ho

/-- Behind a call of the reference's. -/
theorem Sep.right {w0 w w' : World} {p : PlanD} {τ : Tt} {ρ ρ' : Rt} {bA bC : Nat} {l : List Int} (h : Sep w0 w p τ ρ bA bC l) (G : RtGo w0 w p ρ ρ' w') : Sep w0 w' p τ ρ' bA bC l := by
  refine ⟨⟨h.t.T.chgO G.c (fun x hx => ⟨fun ho => h.d x ho hx, (h.r.own_lt x hx).1⟩), cho_arena G.c h.t.Ar h.dA h.dC, h.t.nA, h.t.nC, h.t.lA, h.t.lC⟩, G.is, fun k hk ho => (G.own k ho).elim (h.d k hk) (fun e => by have := (h.t.T.own_lt k hk).2; omega), fun ho => (G.own _ ho).elim h.dA (fun e => by have := heap_lt h.t.Ar.hA; omega), fun ho => (G.own _ ho).elim h.dC (fun e => by have := heap_lt h.t.Ar.hC; omega)⟩

/-- As far gone. -/
structure Eqs (p : PlanD) (τ : Tt) (ρ : Rt) : Prop where
  A : τ.A = ρ.A
  E : τ.E.map EfD.pl = ρ.E.map EfD.pl
  c : τ.c.wrote = ρ.a ∧ τ.c.got = ρ.b ∧ τ.c.set = ρ.d
  cp : τ.c.ws = p.ws.take p.wl ∧ τ.c.gs = p.gs.take p.gl ∧ τ.c.ss = p.ss.take p.sl
  it : ρ.L.map itOf = τ.Z.map (·.it)

theorem Eqs.len {p : PlanD} {τ : Tt} {ρ : Rt} (h : Eqs p τ ρ) : ρ.E.length = τ.E.length := by have := congrArg List.length h.E; simpa using this.symm

/-- None of the two's blocks. -/
def Far (τ : Tt) (ρ : Rt) (bA bC : Nat) (k : Nat) : Prop := ¬ τ.own k ∧ ¬ ρ.own k ∧ k ≠ bA ∧ k ≠ bC

theorem Sep.new {w0 w : World} {p : PlanD} {τ : Tt} {ρ : Rt} {bA bC : Nat} {l : List Int} (h : Sep w0 w p τ ρ bA bC l) : Far τ ρ bA bC w.heap.size :=
  ⟨fun ho => by have := (h.t.T.own_lt _ ho).2; omega, fun ho => by have := (h.r.own_lt _ ho).2; omega, by have := heap_lt h.t.Ar.hA; omega, by have := heap_lt h.t.Ar.hC; omega⟩

theorem Far.left {w0 w w' : World} {τ τ' : Tt} {ρ : Rt} {bA bC : Nat} {l' : List Int} {k : Nat} {o : Obj} (G : RdGo w0 w τ τ' bA bC 64 l' w') (hk : w.heap[k]? = some o) (ha : Far τ ρ bA bC k) : w'.heap[k]? = some o ∧ Far τ' ρ bA bC k :=
  ⟨G.c.heap hk (fun ho => ho.elim ha.1 (fun e => e.elim ha.2.2.1 ha.2.2.2)), fun ho => (G.own k ho).elim ha.1 (fun e => by have := heap_lt hk; omega), ha.2⟩

theorem Far.right {w0 w w' : World} {p : PlanD} {τ : Tt} {ρ ρ' : Rt} {bA bC : Nat} {k : Nat} {o : Obj} (G : RtGo w0 w p ρ ρ' w') (hk : w.heap[k]? = some o) (ha : Far τ ρ bA bC k) : w'.heap[k]? = some o ∧ Far τ ρ' bA bC k :=
  ⟨G.c.heap hk ha.2.1, ha.1, fun ho => (G.own k ho).elim ha.2.1 (fun e => by have := heap_lt hk; omega), ha.2.2⟩

theorem res3 {w : World} {b : Nat} {x y z : Int} (h : w.heap[b]? = some (.cells #[.int .u32 x, .int .u8 y, .int .u8 z] 24 (0, 0))) :
    (w.cell? ⟨b, 0, none⟩ = some (.int .u32 x) ∧ w.cell? ⟨b, 1, none⟩ = some (.int .u8 y) ∧ w.cell? ⟨b, 2, none⟩ = some (.int .u8 z)) ∧ True := by
  refine ⟨⟨?_, ?_, ?_⟩, trivial⟩ <;> (rw [cell_of_heap h]; rfl)

/-- Another base. -/
theorem RtIs.base {w0 w1 w : World} {p : PlanD} {ρ : Rt} (h : RtIs w1 w p ρ) (k : Chg [] w0 w1) (hp : p.At w0) (hd : ∀ y ∈ ρ.L, BRow w0 y.ao y.m y.cap y.zs ∧ Wd y.b) : RtIs w0 w p ρ :=
  ⟨h.W.base k hp hd, h.hT, h.row, h.ne, h.mT, h.mv, Nat.le_trans k.size h.lT, fun j hj => Nat.le_trans k.size (h.lv j hj), fun y hy => by have d := h.dat y hy; exact ⟨d.src, d.few, fun j hj => by have := d.blk j hj; exact ⟨this.1, this.2.1, this.2.2.1, Nat.le_trans k.size this.2.2.2.1, this.2.2.2.2⟩⟩⟩

/-- The effects of the reference's can be read. -/
theorem RtIs.reads {w0 w : World} {p : PlanD} {ρ : Rt} (h : RtIs w0 w p ρ) : ∃ a c, ρ.v = .slice a ρ.E.length c ∧ EffR w a ρ.E.length ρ.E := by
  obtain ⟨ao, c, e, l1, l2, hnone⟩ := h.row.slice
  refine ⟨ao, c, e, rfl, fun h0 => ?_⟩
  have hr := h.row
  rw [e] at hr
  obtain ⟨g, off, cap, e2, hc, _⟩ := hr.cells h0
  injection e2 with e3 _ _
  refine ⟨g, off, e3, fun k y hk => ?_⟩
  have gt : ∀ j, j < 7 → ∀ u, y.cells[j]? = some u → w.cell? ⟨g, off + k * 7 + j, none⟩ = some u := fun j hj u hu => by
    have := hc (k * 7 + j) u (by rw [cellsF_get ρ.E k y hk j hj]; exact hu)
    rw [show off + k * 7 + j = off + (k * 7 + j) by omega]
    exact this
  exact ⟨gt 0 (by omega) _ rfl, gt 1 (by omega) _ rfl, gt 2 (by omega) _ rfl, gt 3 (by omega) _ rfl, gt 4 (by omega) _ rfl, gt 5 (by omega) _ rfl, gt 6 (by omega) _ rfl, (h.dat y (List.mem_of_getElem? hk)).src⟩
end Go.Proofs.Ytmcbgpjphjacjaa
