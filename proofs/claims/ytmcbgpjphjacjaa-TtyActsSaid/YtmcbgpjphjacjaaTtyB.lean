/-
  Layer 17: a terminal made since w0: what it is, what leaves it alone, what a note adds.
-/
import Derived.Test.YtmcbgpjphjacjaaTtyA
namespace Go.Proofs.Ytmcbgpjphjacjaa
set_option linter.unusedVariables false
set_option linter.unusedSimpArgs false
set_option maxRecDepth 100000
open Go.RowKit

def EfD.blk (y : EfD) : Option Nat := y.ao.map (·.block)

structure Tt where
  bT : Nat
  v : Value
  μ : Wm
  Z : List Zt
  c : Wc
  A : At3
  E : List EfD

def Tt.own (τ : Tt) (k : Nat) : Prop := τ.μ.f k ≠ 0 ∨ k = τ.bT ∨ τ.v.ownBlock = some k ∨ ∃ y ∈ τ.E, y.blk = some k

/-- An effect's bytes: readable, and none of the terminal's other blocks. -/
structure DatE (w0 w : World) (τ : Tt) (y : EfD) : Prop where
  src : SrcAt w y.ao y.zs.length y.cap (valsOf .u8 y.zs)
  few : y.zs.length ≤ 1000000
  blk : ∀ k, y.blk = some k → k ≠ τ.bT ∧ τ.v.ownBlock ≠ some k ∧ τ.μ.f k = 0 ∧ w0.heap.size ≤ k ∧ k < w.heap.size

structure TtIs (w0 w : World) (τ : Tt) : Prop where
  W : OwnWd w0 w τ.μ τ.Z τ.c
  hT : w.heap[τ.bT]? = some (.cells #[.int .u32 τ.A.fl, .int .u8 τ.A.mn, .int .u8 τ.A.tm, .pointer (some ⟨τ.μ.bW, 0, none⟩), τ.v] 87 (0, 0))
  row : HasRow w 49 7 τ.v τ.E.length (cellsF τ.E)
  ne : τ.v.ownBlock ≠ some τ.bT
  mT : τ.μ.f τ.bT = 0
  mv : ∀ k, τ.v.ownBlock = some k → τ.μ.f k = 0
  lT : w0.heap.size ≤ τ.bT
  lv : ∀ k, τ.v.ownBlock = some k → w0.heap.size ≤ k
  dat : ∀ y ∈ τ.E, DatE w0 w τ y

/-- Nothing that was there has turned, but what O names. -/
def ChgO (O : Nat → Prop) (w w' : World) : Prop := ∃ S, Chg S w w' ∧ ∀ x ∈ S, x < w.heap.size → O x

theorem ChgO.of {O : Nat → Prop} {w w' : World} {S : List Nat} (c : Chg S w w') (h : ∀ x ∈ S, O x) : ChgO O w w' := ⟨S, c, fun x hx _ => h x hx⟩
theorem ChgO.of0 {O : Nat → Prop} {w w' : World} (c : Chg [] w w') : ChgO O w w' := ⟨[], c, by simp⟩
theorem ChgO.size {O : Nat → Prop} {w w' : World} (h : ChgO O w w') : w.heap.size ≤ w'.heap.size := by obtain ⟨S, c, _⟩ := h; exact c.size
theorem ChgO.mono {O U : Nat → Prop} {w w' : World} (h : ChgO O w w') (k : ∀ x, O x → U x) : ChgO U w w' := by obtain ⟨S, c, hS⟩ := h; exact ⟨S, c, fun x hx hl => k x (hS x hx hl)⟩
theorem ChgO.trans {O U : Nat → Prop} {a b c : World} (h : ChgO O a b) (k : ChgO U b c) (hU : ∀ x, U x → O x ∨ a.heap.size ≤ x) : ChgO O a c := by
  obtain ⟨S, h1, h2⟩ := h
  obtain ⟨T, k1, k2⟩ := k
  refine ⟨S ++ T, h1.trans k1 (fun x hx => List.mem_append_left _ hx) (fun x hx _ => List.mem_append_right _ hx), fun x hx hl => (List.mem_append.1 hx).elim (fun h => h2 x h hl) (fun h => ?_)⟩
  rcases hU x (k2 x h (Nat.lt_of_lt_of_le hl h1.size)) with e | e
  · exact e
  · omega
theorem ChgO.heap {O : Nat → Prop} {a b : World} (h : ChgO O a b) {k : Nat} {o : Obj} (hv : a.heap[k]? = some o) (hp : ¬ O k) : b.heap[k]? = some o := by
  obtain ⟨S, h1, h2⟩ := h
  exact h1.heap hv (fun hm => hp (h2 _ hm (heap_lt hv)))
theorem heap_of_cell {w : World} {p : Addr} {v : Value} (h : w.cell? p = some v) : p.block < w.heap.size := by
  unfold World.cell? at h
  cases hb : w.heap[p.block]? with
  | none => rw [hb] at h; cases h
  | some o => exact heap_lt hb
theorem ChgO.cell {O : Nat → Prop} {a b : World} (h : ChgO O a b) {p : Addr} {v : Value} (hv : a.cell? p = some v) (hp : ¬ O p.block) : b.cell? p = some v := by
  obtain ⟨S, h1, h2⟩ := h
  exact h1.cell hv (fun hm => hp (h2 _ hm (heap_of_cell hv)))
/-- What is made since w0 leaves w0's blocks alone. -/
theorem ChgO.base {O : Nat → Prop} {w0 w w' : World} (h : ChgO O w w') (c0 : Chg [] w0 w) (hO : ∀ x, O x → w0.heap.size ≤ x) : Chg [] w0 w' := by
  obtain ⟨S, h1, h2⟩ := h
  exact c0.trans h1 (by simp) (fun x hx hl => absurd (hO x (h2 x hx (Nat.lt_of_lt_of_le hl c0.size))) (by omega))

theorem TtIs.own_lt {w0 w : World} {τ : Tt} (h : TtIs w0 w τ) : ∀ k, τ.own k → w0.heap.size ≤ k ∧ k < w.heap.size := by
  intro k hk
  rcases hk with hk | rfl | hk | ⟨y, hy, hk⟩
  · exact ⟨Nat.not_lt.1 fun hl => hk (h.W.lo k hl), Nat.not_le.1 fun hl => hk (h.W.hi k hl)⟩
  · exact ⟨h.lT, heap_lt h.hT⟩
  · exact ⟨h.lv k hk, h.row.lt k hk⟩
  · have := (h.dat y hy).blk k hk
    exact ⟨this.2.2.2.1, this.2.2.2.2⟩

theorem src_chg {w w' : World} {y : EfD} {S : List Nat} (h : SrcAt w y.ao y.zs.length y.cap (valsOf .u8 y.zs)) (c : Chg S w w') (hS : ∀ k, y.blk = some k → k ∉ S) : SrcAt w' y.ao y.zs.length y.cap (valsOf .u8 y.zs) :=
  h.chg c (fun ad e => hS _ (by unfold EfD.blk; rw [e]; rfl))

/-- What touches none of its blocks leaves it as it is. -/
theorem TtIs.chg {w0 w w' : World} {τ : Tt} {S : List Nat} (h : TtIs w0 w τ) (c : Chg S w w') (hS : ∀ x ∈ S, ¬ τ.own x ∧ w0.heap.size ≤ x) : TtIs w0 w' τ := by
  refine ⟨h.W.chg c (fun x hx => ⟨?_, (hS x hx).2⟩), c.heap h.hT (fun hm => (hS _ hm).1 (.inr (.inl rfl))), h.row.chg c (fun k hk hm => (hS _ hm).1 (.inr (.inr (.inl hk)))), h.ne, h.mT, h.mv, h.lT, h.lv, fun y hy => ?_⟩
  · exact Classical.byContradiction fun hn => (hS x hx).1 (.inl hn)
  · have d := h.dat y hy
    exact ⟨src_chg d.src c (fun k hk hm => (hS _ hm).1 (.inr (.inr (.inr ⟨y, hy, hk⟩)))), d.few, fun k hk => by have := d.blk k hk; exact ⟨this.1, this.2.1, this.2.2.1, this.2.2.2.1, Nat.lt_of_lt_of_le this.2.2.2.2 c.size⟩⟩

theorem TtIs.chg0 {w0 w w' : World} {τ : Tt} (h : TtIs w0 w τ) (c : Chg [] w w') : TtIs w0 w' τ := h.chg c (by simp)

theorem TtIs.chgO {w0 w w' : World} {τ : Tt} {O : Nat → Prop} (h : TtIs w0 w τ) (c : ChgO O w w') (hO : ∀ x, O x → ¬ τ.own x ∧ w0.heap.size ≤ x) : TtIs w0 w' τ := by
  obtain ⟨S, c, hS⟩ := c
  have c' : Chg (S.filter (fun x => decide (x < w.heap.size))) w w' :=
    ⟨c.os, c.tape, c.output, c.size, fun k hk hm => c.block k hk (fun h => hm (List.mem_filter.2 ⟨h, by simpa using hk⟩))⟩
  exact h.chg c' (fun x hx => by
    obtain ⟨h1, h2⟩ := List.mem_filter.1 hx
    exact hO x (hS x h1 (by simpa using h2)))

/-- Another base. -/
theorem TtIs.base {w0 w1 w : World} {τ : Tt} (h : TtIs w1 w τ) (k : Chg [] w0 w1) : TtIs w0 w τ :=
  ⟨⟨h.W.is, k.trans h.W.c0 (fun y hy => hy) (by simp), fun x hx => h.W.lo x (Nat.lt_of_lt_of_le hx k.size), h.W.hi⟩, h.hT, h.row, h.ne, h.mT, h.mv, Nat.le_trans k.size h.lT, fun j hj => Nat.le_trans k.size (h.lv j hj),
    fun y hy => by have d := h.dat y hy; exact ⟨d.src, d.few, fun j hj => by have := d.blk j hj; exact ⟨this.1, this.2.1, this.2.2.1, Nat.le_trans k.size this.2.2.2.1, this.2.2.2.2⟩⟩⟩

/-- Behind a call of its world. -/
theorem TtIs.wd {w0 w w' : World} {τ : Tt} {mv : Value} {Z' : List Zt} {c' : Wc} (h : TtIs w0 w τ) (k : ChgF τ.μ.f w w') (O : OwnWd w0 w' { τ.μ with v := mv } Z' c') : TtIs w0 w' { τ with μ := { τ.μ with v := mv }, Z := Z', c := c' } := by
  obtain ⟨S, k1, k2⟩ := k
  refine ⟨O, k1.heap h.hT (fun hm => k2 _ hm h.mT), h.row.chg k1 (fun j hj hm => k2 _ hm (h.mv j hj)), h.ne, h.mT, h.mv, h.lT, h.lv, fun y hy => ?_⟩
  have d := h.dat y hy
  exact ⟨src_chg d.src k1 (fun j hj hm => k2 _ hm (d.blk j hj).2.2.1), d.few, fun j hj => by have := d.blk j hj; exact ⟨this.1, this.2.1, this.2.2.1, this.2.2.2.1, Nat.lt_of_lt_of_le this.2.2.2.2 k1.size⟩⟩

/-- What a call of its own leaves. -/
structure TtGo (w0 w : World) (τ τ' : Tt) (w' : World) : Prop where
  is : TtIs w0 w' τ'
  c : ChgO τ.own w w'
  own : ∀ k, τ'.own k → τ.own k ∨ w.heap.size ≤ k

theorem TtGo.refl {w0 w : World} {τ : Tt} (h : TtIs w0 w τ) : TtGo w0 w τ τ w := ⟨h, ChgO.of0 (Chg.refl _ _), fun k hk => .inl hk⟩

theorem TtGo.trans {w0 a b c : World} {τ τ1 τ2 : Tt} (h : TtGo w0 a τ τ1 b) (k : TtGo w0 b τ1 τ2 c) : TtGo w0 a τ τ2 c :=
  ⟨k.is, h.c.trans k.c h.own, fun j hj => (k.own j hj).elim (h.own j) (fun e => .inr (Nat.le_trans h.c.size e))⟩

theorem TtGo.chg0 {w0 a b c : World} {τ τ1 : Tt} (h : TtGo w0 a τ τ1 b) (k : Chg [] b c) : TtGo w0 a τ τ1 c :=
  h.trans ⟨h.is.chg0 k, ChgO.of0 k, fun j hj => .inl hj⟩

theorem TtGo.of_wd {w0 w w' : World} {τ : Tt} {mv : Value} {Z' : List Zt} {c' : Wc} (h : TtIs w0 w τ) (k : ChgF τ.μ.f w w') (O : OwnWd w0 w' { τ.μ with v := mv } Z' c') : TtGo w0 w τ { τ with μ := { τ.μ with v := mv }, Z := Z', c := c' } w' :=
  ⟨h.wd k O, by obtain ⟨S, k1, k2⟩ := k; exact ChgO.of k1 (fun x hx => .inl (k2 x hx)), fun j hj => .inl hj⟩

/-- What the call made itself may turn. -/
theorem TtGo.mine {w0 a b c : World} {τ τ' : Tt} {S : List Nat} (h : TtGo w0 a τ τ' b) (c1 : Chg S b c) (hS : ∀ x ∈ S, a.heap.size ≤ x ∧ ¬ τ'.own x) (h0 : w0.heap.size ≤ a.heap.size) : TtGo w0 a τ τ' c := by
  refine ⟨h.is.chg c1 (fun x hx => ⟨(hS x hx).2, Nat.le_trans h0 (hS x hx).1⟩), ?_, h.own⟩
  obtain ⟨T, k1, k2⟩ := h.c
  exact ⟨T ++ S, k1.trans c1 (fun x hx => List.mem_append_left _ hx) (fun x hx _ => List.mem_append_right _ hx), fun x hx hl => (List.mem_append.1 hx).elim (fun hm => k2 x hm hl) (fun hm => absurd (hS x hm).1 (by omega))⟩

/-- A block that was made behind a, but is not the terminal's, stays free of it. -/
theorem TtGo.free {w0 a b : World} {τ τ' : Tt} (h : TtGo w0 a τ τ' b) {k : Nat} (hk : k < a.heap.size) (hn : ¬ τ.own k) : ¬ τ'.own k := fun ho => (h.own k ho).elim hn (fun hl => by omega)

/-- A new block of the caller's. -/
theorem TtIs.box0 {w0 w : World} {τ : Tt} (h : TtIs w0 w τ) (o : Obj) : (w.alloc o).heap[w.heap.size]? = some o ∧ ¬ τ.own w.heap.size ∧ TtIs w0 (w.alloc o) τ :=
  ⟨alloc_heap w o, fun ho => by have := (h.own_lt _ ho).2; omega, h.chg0 ((Chg.refl _ _).alloc _)⟩

/-- A block of the caller's, behind a call. -/
theorem TtGo.box {w0 a b : World} {τ τ' : Tt} (G : TtGo w0 a τ τ' b) {k : Nat} {o : Obj} (h : a.heap[k]? = some o ∧ ¬ τ.own k) : b.heap[k]? = some o ∧ ¬ τ'.own k := ⟨G.c.heap h.1 h.2, G.free (heap_lt h.1) h.2⟩

/-- Its attributes are set. -/
theorem TtIs.setA {w0 w : World} {τ : Tt} (h : TtIs w0 w τ) (A' : At3) (W : World) (hW : W = ((w.setCell ⟨τ.bT, 0, none⟩ (.int .u32 A'.fl)).setCell ⟨τ.bT, 1, none⟩ (.int .u8 A'.mn)).setCell ⟨τ.bT, 2, none⟩ (.int .u8 A'.tm)) : TtGo w0 w τ { τ with A := A' } W := by
  have c1 : Chg [τ.bT] w W := by
    rw [hW]
    exact (((Chg.refl [τ.bT] w).setCell (p := ⟨τ.bT, 0, none⟩) (Or.inl List.mem_cons_self) _).setCell (p := ⟨τ.bT, 1, none⟩) (Or.inl List.mem_cons_self) _).setCell (p := ⟨τ.bT, 2, none⟩) (Or.inl List.mem_cons_self) _
  refine ⟨⟨h.W.chg c1 (fun x hx => by rw [List.mem_singleton.1 hx]; exact ⟨h.mT, h.lT⟩), ?_, h.row.chg c1 (fun k hk hm => h.ne (by rw [hk, List.mem_singleton.1 hm])), h.ne, h.mT, h.mv, h.lT, h.lv, fun y hy => ?_⟩, ChgO.of c1 (fun x hx => .inr (.inl (List.mem_singleton.1 hx))), fun k hk => .inl hk⟩
  · rw [hW, setCell_heap _ (setCell_heap _ (setCell_heap _ h.hT))]
    rfl
  · have d := h.dat y hy
    exact ⟨src_chg d.src c1 (fun k hk hm => (d.blk k hk).1 (List.mem_singleton.1 hm)), d.few, fun k hk => by have := d.blk k hk; exact ⟨this.1, this.2.1, this.2.2.1, this.2.2.2.1, Nat.lt_of_lt_of_le this.2.2.2.2 c1.size⟩⟩

/-- A note was made. -/
theorem TtGo.noted {w0 ws w w' : World} {τ0 τ : Tt} {y : EfD} {e : Ending} (h0 : TtGo w0 ws τ0 τ w) (hy : DatE w0 w τ y) (hyb : ∀ k, y.blk = some k → ws.heap.size ≤ k) (hp : NotePost τ.bT τ.A (.pointer (some ⟨τ.μ.bW, 0, none⟩)) τ.v τ.E.length (cellsF τ.E) y w e w') :
    e = .returned (.tuple #[]) ∧ ∃ v', TtGo w0 ws τ0 { τ with v := v', E := τ.E ++ [y] } w' := by
  obtain ⟨he, v', hT, hr, c, hne, hb⟩ := hp
  have h := h0.is
  have hS : ∀ x ∈ τ.bT :: τ.v.ownBlock.toList, x = τ.bT ∨ τ.v.ownBlock = some x := fun x hx => by
    rcases List.mem_cons.1 hx with e | e
    · exact .inl e
    · exact .inr (by simpa [Option.mem_toList] using e)
  have hc0 := h.W.c0
  have hcs := h0.c.size
  have hd : ∀ z, DatE w0 w τ z → DatE w0 w' { τ with v := v', E := τ.E ++ [y] } z := fun z d => by
    refine ⟨src_chg d.src c (fun k hk hm => ?_), d.few, fun k hk => ?_⟩
    · have := d.blk k hk
      exact (hS k hm).elim this.1 this.2.1
    · have := d.blk k hk
      exact ⟨this.1, fun e => (hb k e).elim this.2.1 (fun h => by omega), this.2.2.1, this.2.2.2.1, Nat.lt_of_lt_of_le this.2.2.2.2 c.size⟩
  refine ⟨he, v', ⟨⟨h.W.chg c (fun x hx => ?_), hT, ?_, hne, h.mT, fun k hk => (hb k hk).elim (h.mv k) (fun hl => h.W.hi k hl), h.lT, fun k hk => (hb k hk).elim (h.lv k) (fun hl => Nat.le_trans hc0.size hl), fun z hz => ?_⟩, ?_, fun k hk => ?_⟩⟩
  · rcases hS x hx with e | e
    · rw [e]; exact ⟨h.mT, h.lT⟩
    · exact ⟨h.mv x e, h.lv x e⟩
  · have e1 : (τ.E ++ [y]).length = τ.E.length + 1 := by simp
    have e2 : cellsF (τ.E ++ [y]) = cellsF τ.E ++ y.cells := by rw [cellsF_append, cellsF_cons]; simp [cellsF]
    show HasRow w' _ 7 v' (τ.E ++ [y]).length (cellsF (τ.E ++ [y]))
    rw [e1, e2]
    exact hr
  · rcases List.mem_append.1 hz with hz | hz
    · exact hd z (h.dat z hz)
    · rw [List.mem_singleton.1 hz]; exact hd y hy
  · exact h0.c.trans (ChgO.of (O := τ.own) c (fun x hx => (hS x hx).elim (fun e => .inr (.inl e)) (fun e => .inr (.inr (.inl e))))) h0.own
  · rcases hk with hk | hk | hk | ⟨z, hz, hk⟩
    · exact h0.own k (.inl hk)
    · exact h0.own k (.inr (.inl hk))
    · exact (hb k hk).elim (fun e => h0.own k (.inr (.inr (.inl e)))) (fun e => .inr (Nat.le_trans hcs e))
    · rcases List.mem_append.1 hz with hz | hz
      · exact h0.own k (.inr (.inr (.inr ⟨z, hz, hk⟩)))
      · rw [List.mem_singleton.1 hz] at hk
        exact .inr (hyb k hk)

/-- An effect without bytes. -/
theorem datE0 {w0 w : World} {τ : Tt} (kind : Int) (a : At3) (n : Int) (ok : Bool) : DatE w0 w τ (ef0 kind a n ok) :=
  ⟨⟨rfl, fun _ => ⟨rfl, rfl⟩, fun ad e => by cases e⟩, Nat.zero_le _, fun k hk => by cases hk⟩

/-- The call of note, the effect's row being newly made. -/
theorem note_go (w0 ws w : World) (τ0 τ : Tt) (y : EfD) (h0 : TtGo w0 ws τ0 τ w) (hy : DatE w0 w τ y) (hyb : ∀ k, y.blk = some k → ws.heap.size ≤ k) (hn : τ.E.length ≤ 1000000) :
    Calls Try.prog 35 #[.pointer (some ⟨τ.bT, 0, none⟩), .slice (some ⟨w.heap.size, 0, none⟩) 1 1] (w.alloc (.cells y.cells.toArray 49)) fun e w' => e = .returned (.tuple #[]) ∧ ∃ v', TtGo w0 ws τ0 { τ with v := v', E := τ.E ++ [y] } w' := by
  have k1 : Chg [] w (w.alloc (.cells y.cells.toArray 49)) := (Chg.refl _ _).alloc _
  have h1 := h0.chg0 k1
  have hy1 : DatE w0 (w.alloc (.cells y.cells.toArray 49)) τ y :=
    ⟨hy.src.chg0 k1, hy.few, fun k hk => by have := hy.blk k hk; exact ⟨this.1, this.2.1, this.2.2.1, this.2.2.2.1, Nat.lt_of_lt_of_le this.2.2.2.2 k1.size⟩⟩
  exact (note_any τ.bT w.heap.size τ.A _ τ.v τ.E.length (cellsF τ.E) y _ h1.is.hT h1.is.row h1.is.ne (alloc_heap w _) hn).mono fun e w' hp => h1.noted hy1 hyb hp
end Go.Proofs.Ytmcbgpjphjacjaa
