/-
  Layer 17's reference: a terminal made since w0: what it is, what leaves it alone, what a note adds.
-/
import Derived.Test.YtmcbgpjphjacjaaTtyU
namespace Go.Proofs.Ytmcbgpjphjacjaa
set_option linter.unusedVariables false
set_option linter.unusedSimpArgs false
set_option maxRecDepth 100000
open Go.RowKit

structure Rt where
  bR : Nat
  v : Value
  bM : Nat
  u : Value
  L : List ItD
  a : Nat
  b : Nat
  d : Nat
  A : At3
  E : List EfD

def Rt.wown (ρ : Rt) (k : Nat) : Prop := k = ρ.bM ∨ ρ.u.ownBlock = some k
def Rt.own (ρ : Rt) (k : Nat) : Prop := ρ.wown k ∨ k = ρ.bR ∨ ρ.v.ownBlock = some k ∨ ∃ y ∈ ρ.E, y.blk = some k

/-- An effect's bytes: readable, and none of the terminal's other blocks. -/
structure DatR (w0 w : World) (ρ : Rt) (y : EfD) : Prop where
  src : SrcAt w y.ao y.zs.length y.cap (valsOf .u8 y.zs)
  few : y.zs.length ≤ 1000000
  blk : ∀ k, y.blk = some k → k ≠ ρ.bR ∧ ρ.v.ownBlock ≠ some k ∧ ¬ ρ.wown k ∧ w0.heap.size ≤ k ∧ k < w.heap.size

structure RtIs (w0 w : World) (p : PlanD) (ρ : Rt) : Prop where
  W : OwnRf w0 w ρ.bM ρ.u ρ.L p ρ.a ρ.b ρ.d
  hT : w.heap[ρ.bR]? = some (.cells #[.int .u32 ρ.A.fl, .int .u8 ρ.A.mn, .int .u8 ρ.A.tm, .pointer (some ⟨ρ.bM, 0, none⟩), ρ.v] 78 (0, 0))
  row : HasRow w 49 7 ρ.v ρ.E.length (cellsF ρ.E)
  ne : ρ.v.ownBlock ≠ some ρ.bR
  mT : ¬ ρ.wown ρ.bR
  mv : ∀ k, ρ.v.ownBlock = some k → ¬ ρ.wown k
  lT : w0.heap.size ≤ ρ.bR
  lv : ∀ k, ρ.v.ownBlock = some k → w0.heap.size ≤ k
  dat : ∀ y ∈ ρ.E, DatR w0 w ρ y

theorem RtIs.wlo {w0 w : World} {p : PlanD} {ρ : Rt} (h : RtIs w0 w p ρ) : ∀ k, ρ.wown k → w0.heap.size ≤ k ∧ k < w.heap.size := by
  rintro k (rfl | hk)
  · exact ⟨h.W.b1, heap_lt h.W.hM⟩
  · exact ⟨h.W.b2 k hk, h.W.row.lt k hk⟩

theorem RtIs.own_lt {w0 w : World} {p : PlanD} {ρ : Rt} (h : RtIs w0 w p ρ) : ∀ k, ρ.own k → w0.heap.size ≤ k ∧ k < w.heap.size := by
  intro k hk
  rcases hk with hk | rfl | hk | ⟨y, hy, hk⟩
  · exact h.wlo k hk
  · exact ⟨h.lT, heap_lt h.hT⟩
  · exact ⟨h.lv k hk, h.row.lt k hk⟩
  · exact ((h.dat y hy).blk k hk).2.2.2

theorem RtIs.chg {w0 w w' : World} {p : PlanD} {ρ : Rt} {S : List Nat} (h : RtIs w0 w p ρ) (c : Chg S w w') (hS : ∀ x ∈ S, ¬ ρ.own x ∧ w0.heap.size ≤ x) : RtIs w0 w' p ρ := by
  refine ⟨h.W.chg c (fun x hx => (hS x hx).2) (fun hm => (hS _ hm).1 (.inl (.inl rfl))) (fun k hk hm => (hS _ hm).1 (.inl (.inr hk))), c.heap h.hT (fun hm => (hS _ hm).1 (.inr (.inl rfl))), h.row.chg c (fun k hk hm => (hS _ hm).1 (.inr (.inr (.inl hk)))), h.ne, h.mT, h.mv, h.lT, h.lv, fun y hy => ?_⟩
  have d := h.dat y hy
  exact ⟨src_chg d.src c (fun k hk hm => (hS _ hm).1 (.inr (.inr (.inr ⟨y, hy, hk⟩)))), d.few, fun k hk => by have := d.blk k hk; exact ⟨this.1, this.2.1, this.2.2.1, this.2.2.2.1, Nat.lt_of_lt_of_le this.2.2.2.2 c.size⟩⟩

theorem RtIs.chg0 {w0 w w' : World} {p : PlanD} {ρ : Rt} (h : RtIs w0 w p ρ) (c : Chg [] w w') : RtIs w0 w' p ρ := h.chg c (by simp)

theorem RtIs.chgO {w0 w w' : World} {p : PlanD} {ρ : Rt} {O : Nat → Prop} (h : RtIs w0 w p ρ) (c : ChgO O w w') (hO : ∀ x, O x → ¬ ρ.own x ∧ w0.heap.size ≤ x) : RtIs w0 w' p ρ := by
  obtain ⟨S, c, hS⟩ := c
  have c' : Chg (S.filter (fun x => decide (x < w.heap.size))) w w' :=
    ⟨c.os, c.tape, c.output, c.size, fun k hk hm => c.block k hk (fun h => hm (List.mem_filter.2 ⟨h, by simpa using hk⟩))⟩
  exact h.chg c' (fun x hx => by
    obtain ⟨h1, h2⟩ := List.mem_filter.1 hx
    exact hO x (hS x h1 (by simpa using h2)))

/-- What a call of its own leaves. -/
structure RtGo (w0 w : World) (p : PlanD) (ρ ρ' : Rt) (w' : World) : Prop where
  is : RtIs w0 w' p ρ'
  c : ChgO ρ.own w w'
  own : ∀ k, ρ'.own k → ρ.own k ∨ w.heap.size ≤ k

theorem RtGo.refl {w0 w : World} {p : PlanD} {ρ : Rt} (h : RtIs w0 w p ρ) : RtGo w0 w p ρ ρ w := ⟨h, ChgO.of0 (Chg.refl _ _), fun k hk => .inl hk⟩

theorem RtGo.trans {w0 a b c : World} {p : PlanD} {ρ ρ1 ρ2 : Rt} (h : RtGo w0 a p ρ ρ1 b) (k : RtGo w0 b p ρ1 ρ2 c) : RtGo w0 a p ρ ρ2 c :=
  ⟨k.is, h.c.trans k.c h.own, fun j hj => (k.own j hj).elim (h.own j) (fun e => .inr (Nat.le_trans h.c.size e))⟩

theorem RtGo.chg0 {w0 a b c : World} {p : PlanD} {ρ ρ1 : Rt} (h : RtGo w0 a p ρ ρ1 b) (k : Chg [] b c) : RtGo w0 a p ρ ρ1 c :=
  h.trans ⟨h.is.chg0 k, ChgO.of0 k, fun j hj => .inl hj⟩

/-- Behind a call of its world. -/
theorem RtGo.of_rf {w0 w w' : World} {p : PlanD} {ρ : Rt} {u' : Value} {L' : List ItD} {a' b' d' : Nat} (h : RtIs w0 w p ρ) (k : Chg [ρ.bM] w w') (O : OwnRf w0 w' ρ.bM u' L' p a' b' d') (hu : ∀ j, u'.ownBlock = some j → ρ.u.ownBlock = some j ∨ w.heap.size ≤ j) :
    RtGo w0 w p ρ { ρ with u := u', L := L', a := a', b := b', d := d' } w' := by
  have hw : ∀ j, Rt.wown { ρ with u := u', L := L', a := a', b := b', d := d' } j → ρ.wown j ∨ w.heap.size ≤ j := fun j hj => hj.elim (fun e => .inl (.inl e)) (fun e => (hu j e).imp .inr id)
  have hM : ∀ x ∈ [ρ.bM], x = ρ.bM := fun x hx => List.mem_singleton.1 hx
  refine ⟨⟨O, k.heap h.hT (fun hm => h.mT (.inl (hM _ hm))), h.row.chg k (fun j hj hm => h.mv j hj (.inl (hM _ hm))), h.ne, fun hk => (hw _ hk).elim h.mT (fun e => by have h1 := heap_lt h.hT; have h2 : w.heap.size ≤ ρ.bR := e; omega), fun j hj hk => (hw _ hk).elim (h.mv j hj) (fun e => by have := h.row.lt j hj; omega), h.lT, h.lv, fun y hy => ?_⟩, ChgO.of k (fun x hx => .inl (.inl (hM x hx))), fun j hj => ?_⟩
  · have d := h.dat y hy
    refine ⟨src_chg d.src k (fun j hj hm => (d.blk j hj).2.2.1 (.inl (hM _ hm))), d.few, fun j hj => ?_⟩
    have := d.blk j hj
    exact ⟨this.1, this.2.1, fun hk => (hw _ hk).elim this.2.2.1 (fun e => by omega), this.2.2.2.1, Nat.lt_of_lt_of_le this.2.2.2.2 k.size⟩
  · rcases hj with hj | hj | hj | hj
    · exact (hw j hj).imp .inl id
    · exact .inl (.inr (.inl hj))
    · exact .inl (.inr (.inr (.inl hj)))
    · exact .inl (.inr (.inr (.inr hj)))

/-- Its attributes are set. -/
theorem RtIs.setA {w0 w : World} {p : PlanD} {ρ : Rt} (h : RtIs w0 w p ρ) (A' : At3) (W : World) (hW : W = ((w.setCell ⟨ρ.bR, 0, none⟩ (.int .u32 A'.fl)).setCell ⟨ρ.bR, 1, none⟩ (.int .u8 A'.mn)).setCell ⟨ρ.bR, 2, none⟩ (.int .u8 A'.tm)) : RtGo w0 w p ρ { ρ with A := A' } W := by
  have c1 : Chg [ρ.bR] w W := by
    rw [hW]
    exact (((Chg.refl [ρ.bR] w).setCell (p := ⟨ρ.bR, 0, none⟩) (Or.inl List.mem_cons_self) _).setCell (p := ⟨ρ.bR, 1, none⟩) (Or.inl List.mem_cons_self) _).setCell (p := ⟨ρ.bR, 2, none⟩) (Or.inl List.mem_cons_self) _
  refine ⟨⟨h.W.chg c1 (fun x hx => by rw [List.mem_singleton.1 hx]; exact h.lT) (fun hm => h.mT (.inl (List.mem_singleton.1 hm).symm)) (fun k hk hm => h.mT (.inr (by rw [hk, List.mem_singleton.1 hm]))), ?_, h.row.chg c1 (fun k hk hm => h.ne (by rw [hk, List.mem_singleton.1 hm])), h.ne, h.mT, h.mv, h.lT, h.lv, fun y hy => ?_⟩, ChgO.of c1 (fun x hx => .inr (.inl (List.mem_singleton.1 hx))), fun k hk => .inl hk⟩
  · rw [hW, setCell_heap _ (setCell_heap _ (setCell_heap _ h.hT))]
    rfl
  · have d := h.dat y hy
    exact ⟨src_chg d.src c1 (fun k hk hm => (d.blk k hk).1 (List.mem_singleton.1 hm)), d.few, fun k hk => by have := d.blk k hk; exact ⟨this.1, this.2.1, this.2.2.1, this.2.2.2.1, Nat.lt_of_lt_of_le this.2.2.2.2 c1.size⟩⟩

/-- A note was made. -/
theorem RtGo.noted {w0 ws w w' : World} {p : PlanD} {ρ0 ρ : Rt} {y : EfD} {e : Ending} (h0 : RtGo w0 ws p ρ0 ρ w) (hy : DatR w0 w ρ y) (hyb : ∀ k, y.blk = some k → ws.heap.size ≤ k) (hp : RNotePost ρ.bR ρ.A (.pointer (some ⟨ρ.bM, 0, none⟩)) ρ.v ρ.E.length (cellsF ρ.E) y w e w') :
    e = .returned (.tuple #[]) ∧ ∃ v', RtGo w0 ws p ρ0 { ρ with v := v', E := ρ.E ++ [y] } w' := by
  obtain ⟨he, v', hT, hr, c, hne, hb⟩ := hp
  have h := h0.is
  have hS : ∀ x ∈ ρ.bR :: ρ.v.ownBlock.toList, x = ρ.bR ∨ ρ.v.ownBlock = some x := fun x hx => by
    rcases List.mem_cons.1 hx with e | e
    · exact .inl e
    · exact .inr (by simpa [Option.mem_toList] using e)
  have hc0 := h.W.c0
  have hcs := h0.c.size
  have hd : ∀ z, DatR w0 w ρ z → DatR w0 w' { ρ with v := v', E := ρ.E ++ [y] } z := fun z d => by
    refine ⟨src_chg d.src c (fun k hk hm => ?_), d.few, fun k hk => ?_⟩
    · have := d.blk k hk
      exact (hS k hm).elim this.1 this.2.1
    · have := d.blk k hk
      exact ⟨this.1, fun e => (hb k e).elim this.2.1 (fun h => by omega), this.2.2.1, this.2.2.2.1, Nat.lt_of_lt_of_le this.2.2.2.2 c.size⟩
  refine ⟨he, v', ⟨⟨h.W.chg c (fun x hx => ?_) (fun hm => ?_) (fun k hk hm => ?_), hT, ?_, hne, h.mT, fun k hk => (hb k hk).elim (h.mv k) (fun hl hw => by have := (h.wlo k hw).2; omega), h.lT, fun k hk => (hb k hk).elim (h.lv k) (fun hl => Nat.le_trans hc0.size hl), fun z hz => ?_⟩, ?_, fun k hk => ?_⟩⟩
  · rcases hS x hx with e | e
    · rw [e]; exact h.lT
    · exact h.lv x e
  · rcases hS _ hm with e | e
    · exact h.mT (.inl e.symm)
    · exact h.mv _ e (.inl rfl)
  · rcases hS _ hm with e | e
    · exact h.mT (.inr (by rw [hk, e]))
    · exact h.mv _ e (.inr hk)
  · have e1 : (ρ.E ++ [y]).length = ρ.E.length + 1 := by simp
    have e2 : cellsF (ρ.E ++ [y]) = cellsF ρ.E ++ y.cells := by rw [cellsF_append, cellsF_cons]; simp [cellsF]
    show HasRow w' _ 7 v' (ρ.E ++ [y]).length (cellsF (ρ.E ++ [y]))
    rw [e1, e2]
    exact hr
  · rcases List.mem_append.1 hz with hz | hz
    · exact hd z (h.dat z hz)
    · rw [List.mem_singleton.1 hz]; exact hd y hy
  · exact h0.c.trans (ChgO.of (O := ρ.own) c (fun x hx => (hS x hx).elim (fun e => .inr (.inl e)) (fun e => .inr (.inr (.inl e))))) h0.own
  · rcases hk with hk | hk | hk | ⟨z, hz, hk⟩
    · exact h0.own k (.inl hk)
    · exact h0.own k (.inr (.inl hk))
    · exact (hb k hk).elim (fun e => h0.own k (.inr (.inr (.inl e)))) (fun e => .inr (Nat.le_trans hcs e))
    · rcases List.mem_append.1 hz with hz | hz
      · exact h0.own k (.inr (.inr (.inr ⟨z, hz, hk⟩)))
      · rw [List.mem_singleton.1 hz] at hk
        exact .inr (hyb k hk)

theorem datR0 {w0 w : World} {ρ : Rt} (kind : Int) (a : At3) (n : Int) (ok : Bool) : DatR w0 w ρ (ef0 kind a n ok) :=
  ⟨⟨rfl, fun _ => ⟨rfl, rfl⟩, fun ad e => by cases e⟩, Nat.zero_le _, fun k hk => by cases hk⟩

/-- The call of note. -/
theorem rnote_go (w0 ws w : World) (p : PlanD) (ρ0 ρ : Rt) (y : EfD) (h0 : RtGo w0 ws p ρ0 ρ w) (hy : DatR w0 w ρ y) (hyb : ∀ k, y.blk = some k → ws.heap.size ≤ k) (hn : ρ.E.length ≤ 1000000) :
    Calls Try.prog 46 #[.pointer (some ⟨ρ.bR, 0, none⟩), .agg y.cells.toArray] w fun e w' => e = .returned (.tuple #[]) ∧ ∃ v', RtGo w0 ws p ρ0 { ρ with v := v', E := ρ.E ++ [y] } w' :=
  (rnote_any ρ.bR ρ.A _ ρ.v ρ.E.length (cellsF ρ.E) y _ h0.is.hT h0.is.row h0.is.ne hn).mono fun e w' hp => h0.noted hy hyb hp

theorem RtIs.c3 {w0 w : World} {p : PlanD} {ρ : Rt} (h : RtIs w0 w p ρ) : w.cell? ⟨ρ.bR, 0, none⟩ = some (.int .u32 ρ.A.fl) ∧ w.cell? ⟨ρ.bR, 1, none⟩ = some (.int .u8 ρ.A.mn) ∧ w.cell? ⟨ρ.bR, 2, none⟩ = some (.int .u8 ρ.A.tm) ∧ w.cell? ⟨ρ.bR, 3, none⟩ = some (.pointer (some ⟨ρ.bM, 0, none⟩)) ∧ w.cell? ⟨ρ.bR, 4, none⟩ = some ρ.v := by
  refine ⟨?_, ?_, ?_, ?_, ?_⟩ <;> (rw [cell_of_heap h.hT]; rfl)
end Go.Proofs.Ytmcbgpjphjacjaa
