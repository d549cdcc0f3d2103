import Derived.Test.YtafmnkngjjnpiaaGreatDoorWldE
import Derived.Test.YtafmnkngjjnpiaaGreatDoorWldO
import Derived.Test.YtafmnkngjjnpiaaGreatDoorRowO
namespace Go.Proofs.YtafmnkngjjnpiaaGreatDoor
set_option linter.unusedVariables false
set_option linter.unusedSimpArgs false
set_option maxRecDepth 100000
open Go.RowKit
structure At3 where
  fl : Int
  mn : Int
  tm : Int
  deriving Inhabited
def At3.val (a : At3) : Value := .agg #[.int .u32 a.fl, .int .u8 a.mn, .int .u8 a.tm]
structure EfD where
  kind : Int
  a : At3
  ao : Option Addr
  cap : Nat
  zs : List Int
  n : Int
  ok : Bool
def EfD.cells (y : EfD) : List Value := [.int .i64 y.kind, .int .u32 y.a.fl, .int .u8 y.a.mn, .int .u8 y.a.tm, .slice y.ao y.zs.length y.cap, .int .i64 y.n, .bool y.ok]
def cellsF (E : List EfD) : List Value := E.flatMap EfD.cells
def ef0 (kind : Int) (a : At3) (n : Int) (ok : Bool) : EfD := ⟨kind, a, none, 0, [], n, ok⟩
def at0 : At3 := ⟨0, 0, 0⟩
theorem cellsF_cons (y : EfD) (E : List EfD) : cellsF (y :: E) = y.cells ++ cellsF E := by unfold cellsF; rw [List.flatMap_cons]
theorem cellsF_append (A B : List EfD) : cellsF (A ++ B) = cellsF A ++ cellsF B := by unfold cellsF; rw [List.flatMap_append]
theorem cellsF_length (E : List EfD) : (cellsF E).length = E.length * 7 := by
  induction E with
  | nil => rfl
  | cons x E ih => rw [cellsF_cons, List.length_append, ih]; simp [EfD.cells]; omega
theorem infoEff : (Tryz.prog.info? 86).map (fun i => (i.zero, i.size, i.bytes)) = some (some (.agg #[.int .i64 0, .int .u32 0, .int .u8 0, .int .u8 0, .slice none 0 0, .int .i64 0, .bool false]), 7, 56) := by kernel_rfl
theorem ef_one (y : EfD) : ∀ u ∈ y.cells, u.oneCell' = true := by
  intro u hu
  unfold EfD.cells at hu
  simp only [List.mem_cons, List.not_mem_nil, or_false] at hu
  rcases hu with rfl | rfl | rfl | rfl | rfl | rfl | rfl <;> rfl
def NotePost (bT : Nat) (a : At3) (wp v : Value) (n : Nat) (xs : List Value) (y : EfD) (w : World) (e : Ending) (w' : World) : Prop :=
  e = .returned (.tuple #[]) ∧ ∃ v', w'.heap[bT]? = some (.cells #[.int .u32 a.fl, .int .u8 a.mn, .int .u8 a.tm, wp, v'] 171 (0, 0)) ∧ HasRow w' 86 7 v' (n + 1) (xs ++ y.cells) ∧ Chg (bT :: v.ownBlock.toList) w w' ∧ v'.ownBlock ≠ some bT ∧ ∀ k, v'.ownBlock = some k → v.ownBlock = some k ∨ w.heap.size ≤ k
theorem note_end {w w2 : World} {bT : Nat} {a : At3} {wp v v' : Value} {n : Nat} {xs : List Value} {y : EfD} (hT : w.heap[bT]? = some (.cells #[.int .u32 a.fl, .int .u8 a.mn, .int .u8 a.tm, wp, v] 171 (0, 0))) (hv : v.ownBlock ≠ some bT)
    (hr : HasRow w2 86 7 v' (n + 1) (xs ++ y.cells)) (c : Chg v.ownBlock.toList w w2) (hb : ∀ k, v'.ownBlock = some k → v.ownBlock = some k ∨ w.heap.size ≤ k) :
    NotePost bT a wp v n xs y w (.returned (.tuple #[])) (w2.setCell ⟨bT, 4, none⟩ v') := by
  have hlt := heap_lt hT
  have hne : v'.ownBlock ≠ some bT := fun e => (hb _ e).elim hv (fun h => by omega)
  have c2 : Chg [bT] w2 (w2.setCell ⟨bT, 4, none⟩ v') := (Chg.refl [bT] w2).setCell (p := ⟨bT, 4, none⟩) (Or.inl List.mem_cons_self) _
  have h2 := c.heap hT (fun hm => hv (by simpa [Option.mem_toList] using hm))
  refine ⟨rfl, v', by rw [setCell_heap _ h2]; rfl, hr.chg c2 (fun k hk hm => hne (by rw [hk, List.mem_singleton.1 hm])), ?_, hne, hb⟩
  exact c.trans c2 (fun x hx => List.mem_cons_of_mem _ hx) (fun x hx _ => by rw [List.mem_singleton.1 hx]; exact List.mem_cons_self)
set_option maxHeartbeats 4000000 in
theorem note_any (bT g : Nat) (a : At3) (wp v : Value) (n : Nat) (xs : List Value) (y : EfD) (w : World) (hT : w.heap[bT]? = some (.cells #[.int .u32 a.fl, .int .u8 a.mn, .int .u8 a.tm, wp, v] 171 (0, 0)))
    (hr : HasRow w 86 7 v n xs) (hv : v.ownBlock ≠ some bT) (hg : w.heap[g]? = some (.cells y.cells.toArray 86 (0, 0))) (hn : n ≤ 1000000) :
    Calls Tryz.prog 157 #[.pointer (some ⟨bT, 0, none⟩), .slice (some ⟨g, 0, none⟩) 1 1] w (NotePost bT a wp v n xs y w) := by
  obtain ⟨i0, hi, hz0, hz1, hz2⟩ := info_parts infoEff
  have hl : xs.length = n * 7 := hr.1
  have x4 : w.cell? ⟨bT, 4, none⟩ = some v := by rw [cell_of_heap hT]; rfl
  have f4 := free_of_heap hT 4
  obtain ⟨ao, c, rfl, _, _, _⟩ := hr.slice
  have HH := Lib.hid (And.intro hT (And.intro hr (And.intro hv hg)))
  clear hT hr hv hg
  go_enter Tryz.func157, Tryz.ntmps157
  go_wp2_with ((at_builtin; refine wpList_append_off rfl (.tmp 8) (.tmp 9) 80 rfl 86 i0 (.agg #[.int .i64 0, .int .u32 0, .int .u8 0, .int .u8 0, .slice none 0 0, .int .i64 0, .bool false]) 7 56 Tryz.underlying80 hi hz0 hz1 hz2 rfl (by decide) _ n xs (by rfl) HH.out.2.1 ⟨g, 0, none⟩ 1 1 y.cells (by rfl) rfl (fun j u hu => by rw [Addr.add_lit, cell_of_heap HH.out.2.2.2, Nat.zero_add]; simpa using hu) (ef_one y) (by unfold maxLen; omega) (by omega) (fun v' w2 R2 C2 B2 => ?_); obtain ⟨ao2, c2, rfl, _, _, _⟩ := R2.slice; have HE := Lib.hid (note_end HH.out.1 HH.out.2.2.1 R2 C2 B2); have y4 : w2.frozen? ⟨bT, 4, none⟩ = false := free_of_heap (C2.heap HH.out.1 (fun hm => HH.out.2.2.1 (by simpa [Option.mem_toList] using hm))) 4; have z4 : w2.cell? ⟨bT, 4, none⟩ = some (.slice ao n c) := C2.cell x4 (fun hm => HH.out.2.2.1 (by simpa [Option.mem_toList] using hm)); clear R2 C2 B2))
  go_end0
  exact HE.out
end Go.Proofs.YtafmnkngjjnpiaaGreatDoor

namespace Go.Proofs.YtafmnkngjjnpiaaGreatDoor
set_option linter.unusedVariables false
set_option linter.unusedSimpArgs false
set_option maxRecDepth 100000
open Go.RowKit
def EfD.blk (y : EfD) : Option Nat := y.ao.map (·.block)
structure Tt where
  bT : Nat
  v : Value
  μ : Wm
  Z : List Zt
  c : Wc
  A : At3
  E : List EfD
def Tt.own (τ : Tt) (k : Nat) : Prop := τ.μ.f k ≠ 0 ∨ k = τ.bT ∨ τ.v.ownBlock = some k ∨ ∃ y ∈ τ.E, y.blk = some k
structure DatE (w0 w : World) (τ : Tt) (y : EfD) : Prop where
  src : SrcAt w y.ao y.zs.length y.cap (valsOf .u8 y.zs)
  few : y.zs.length ≤ 1000000
  blk : ∀ k, y.blk = some k → k ≠ τ.bT ∧ τ.v.ownBlock ≠ some k ∧ τ.μ.f k = 0 ∧ w0.heap.size ≤ k ∧ k < w.heap.size
structure TtIs (w0 w : World) (τ : Tt) : Prop where
  W : OwnWd w0 w τ.μ τ.Z τ.c
  hT : w.heap[τ.bT]? = some (.cells #[.int .u32 τ.A.fl, .int .u8 τ.A.mn, .int .u8 τ.A.tm, .pointer (some ⟨τ.μ.bW, 0, none⟩), τ.v] 171 (0, 0))
  row : HasRow w 86 7 τ.v τ.E.length (cellsF τ.E)
  ne : τ.v.ownBlock ≠ some τ.bT
  mT : τ.μ.f τ.bT = 0
  mv : ∀ k, τ.v.ownBlock = some k → τ.μ.f k = 0
  lT : w0.heap.size ≤ τ.bT
  lv : ∀ k, τ.v.ownBlock = some k → w0.heap.size ≤ k
  dat : ∀ y ∈ τ.E, DatE w0 w τ y
def ChgO (O : Nat → Prop) (w w' : World) : Prop := ∃ S, Chg S w w' ∧ ∀ x ∈ S, x < w.heap.size → O x
theorem ChgO.of {O : Nat → Prop} {w w' : World} {S : List Nat} (c : Chg S w w') (h : ∀ x ∈ S, O x) : ChgO O w w' := ⟨S, c, fun x hx _ => h x hx⟩
theorem ChgO.of0 {O : Nat → Prop} {w w' : World} (c : Chg [] w w') : ChgO O w w' := ⟨[], c, by simp⟩
theorem ChgO.size {O : Nat → Prop} {w w' : World} (h : ChgO O w w') : w.heap.size ≤ w'.heap.size := by obtain ⟨S, c, _⟩ := h; exact c.size
theorem ChgO.mono {O U : Nat → Prop} {w w' : World} (h : ChgO O w w') (k : ∀ x, O x → U x) : ChgO U w w' := by obtain ⟨S, c, hS⟩ := h; exact ⟨S, c, fun x hx hl => k x (hS x hx hl)⟩
theorem ChgO.trans {O U : Nat → Prop} {a b c : World} (h : ChgO O a b) (k : ChgO U b c) (hU : ∀ x, U x → O x ∨ a.heap.size ≤ x) : ChgO O a c := by
  obtain ⟨S, h1, h2⟩ := h
  obtain ⟨T, k1, k2⟩ := k
  refine ⟨S ++ T, h1.trans k1 (fun x hx => List.mem_append_left _ hx) (fun x hx _ => List.mem_append_right _ hx), fun x hx hl => (List.mem_append.1 hx).elim (fun h => h2 x h hl) (fun h => ?_)⟩
  rcases hU x (k2 x h (Nat.lt_of_lt_of_le hl h1.size)) with e | e
  · exact e
  · omega
theorem ChgO.heap {O : Nat → Prop} {a b : World} (h : ChgO O a b) {k : Nat} {o : Obj} (hv : a.heap[k]? = some o) (hp : ¬ O k) : b.heap[k]? = some o := by
  obtain ⟨S, h1, h2⟩ := h
  exact h1.heap hv (fun hm => hp (h2 _ hm (heap_lt hv)))
theorem heap_of_cell {w : World} {p : Addr} {v : Value} (h : w.cell? p = some v) : p.block < w.heap.size := by
  unfold World.cell? at h
  cases hb : w.heap[p.block]? with
  | none => rw [hb] at h; cases h
  | some o => exact heap_lt hb
theorem ChgO.cell {O : Nat → Prop} {a b : World} (h : ChgO O a b) {p : Addr} {v : Value} (hv : a.cell? p = some v) (hp : ¬ O p.block) : b.cell? p = some v := by
  obtain ⟨S, h1, h2⟩ := h
  exact h1.cell hv (fun hm => hp (h2 _ hm (heap_of_cell hv)))
theorem TtIs.own_lt {w0 w : World} {τ : Tt} (h : TtIs w0 w τ) : ∀ k, τ.own k → w0.heap.size ≤ k ∧ k < w.heap.size := by
  intro k hk
  rcases hk with hk | rfl | hk | ⟨y, hy, hk⟩
  · exact ⟨Nat.not_lt.1 fun hl => hk (h.W.lo k hl), Nat.not_le.1 fun hl => hk (h.W.hi k hl)⟩
  · exact ⟨h.lT, heap_lt h.hT⟩
  · exact ⟨h.lv k hk, h.row.lt k hk⟩
  · have := (h.dat y hy).blk k hk
    exact ⟨this.2.2.2.1, this.2.2.2.2⟩
theorem src_chg {w w' : World} {y : EfD} {S : List Nat} (h : SrcAt w y.ao y.zs.length y.cap (valsOf .u8 y.zs)) (c : Chg S w w') (hS : ∀ k, y.blk = some k → k ∉ S) : SrcAt w' y.ao y.zs.length y.cap (valsOf .u8 y.zs) :=
  h.chg c (fun ad e => hS _ (by unfold EfD.blk; rw [e]; rfl))
theorem TtIs.chg {w0 w w' : World} {τ : Tt} {S : List Nat} (h : TtIs w0 w τ) (c : Chg S w w') (hS : ∀ x ∈ S, ¬ τ.own x ∧ w0.heap.size ≤ x) : TtIs w0 w' τ := by
  refine ⟨h.W.chg c (fun x hx => ⟨?_, (hS x hx).2⟩), c.heap h.hT (fun hm => (hS _ hm).1 (.inr (.inl rfl))), h.row.chg c (fun k hk hm => (hS _ hm).1 (.inr (.inr (.inl hk)))), h.ne, h.mT, h.mv, h.lT, h.lv, fun y hy => ?_⟩
  · exact Classical.byContradiction fun hn => (hS x hx).1 (.inl hn)
  · have d := h.dat y hy
    exact ⟨src_chg d.src c (fun k hk hm => (hS _ hm).1 (.inr (.inr (.inr ⟨y, hy, hk⟩)))), d.few, fun k hk => by have := d.blk k hk; exact ⟨this.1, this.2.1, this.2.2.1, this.2.2.2.1, Nat.lt_of_lt_of_le this.2.2.2.2 c.size⟩⟩
theorem TtIs.chg0 {w0 w w' : World} {τ : Tt} (h : TtIs w0 w τ) (c : Chg [] w w') : TtIs w0 w' τ := h.chg c (by simp)
theorem TtIs.chgO {w0 w w' : World} {τ : Tt} {O : Nat → Prop} (h : TtIs w0 w τ) (c : ChgO O w w') (hO : ∀ x, O x → ¬ τ.own x ∧ w0.heap.size ≤ x) : TtIs w0 w' τ := by
  obtain ⟨S, c, hS⟩ := c
  have c' : Chg (S.filter (fun x => decide (x < w.heap.size))) w w' :=
    ⟨c.os, c.tape, c.output, c.size, fun k hk hm => c.block k hk (fun h => hm (List.mem_filter.2 ⟨h, by simpa using hk⟩))⟩
  exact h.chg c' (fun x hx => by
    obtain ⟨h1, h2⟩ := List.mem_filter.1 hx
    exact hO x (hS x h1 (by simpa using h2)))
theorem TtIs.wd {w0 w w' : World} {τ : Tt} {mv : Value} {Z' : List Zt} {c' : Wc} (h : TtIs w0 w τ) (k : ChgF τ.μ.f w w') (O : OwnWd w0 w' { τ.μ with v := mv } Z' c') : TtIs w0 w' { τ with μ := { τ.μ with v := mv }, Z := Z', c := c' } := by
  obtain ⟨S, k1, k2⟩ := k
  refine ⟨O, k1.heap h.hT (fun hm => k2 _ hm h.mT), h.row.chg k1 (fun j hj hm => k2 _ hm (h.mv j hj)), h.ne, h.mT, h.mv, h.lT, h.lv, fun y hy => ?_⟩
  have d := h.dat y hy
  exact ⟨src_chg d.src k1 (fun j hj hm => k2 _ hm (d.blk j hj).2.2.1), d.few, fun j hj => by have := d.blk j hj; exact ⟨this.1, this.2.1, this.2.2.1, this.2.2.2.1, Nat.lt_of_lt_of_le this.2.2.2.2 k1.size⟩⟩
structure TtGo (w0 w : World) (τ τ' : Tt) (w' : World) : Prop where
  is : TtIs w0 w' τ'
  c : ChgO τ.own w w'
  own : ∀ k, τ'.own k → τ.own k ∨ w.heap.size ≤ k
theorem TtGo.refl {w0 w : World} {τ : Tt} (h : TtIs w0 w τ) : TtGo w0 w τ τ w := ⟨h, ChgO.of0 (Chg.refl _ _), fun k hk => .inl hk⟩
theorem TtGo.trans {w0 a b c : World} {τ τ1 τ2 : Tt} (h : TtGo w0 a τ τ1 b) (k : TtGo w0 b τ1 τ2 c) : TtGo w0 a τ τ2 c :=
  ⟨k.is, h.c.trans k.c h.own, fun j hj => (k.own j hj).elim (h.own j) (fun e => .inr (Nat.le_trans h.c.size e))⟩
theorem TtGo.chg0 {w0 a b c : World} {τ τ1 : Tt} (h : TtGo w0 a τ τ1 b) (k : Chg [] b c) : TtGo w0 a τ τ1 c :=
  h.trans ⟨h.is.chg0 k, ChgO.of0 k, fun j hj => .inl hj⟩
theorem TtGo.of_wd {w0 w w' : World} {τ : Tt} {mv : Value} {Z' : List Zt} {c' : Wc} (h : TtIs w0 w τ) (k : ChgF τ.μ.f w w') (O : OwnWd w0 w' { τ.μ with v := mv } Z' c') : TtGo w0 w τ { τ with μ := { τ.μ with v := mv }, Z := Z', c := c' } w' :=
  ⟨h.wd k O, by obtain ⟨S, k1, k2⟩ := k; exact ChgO.of k1 (fun x hx => .inl (k2 x hx)), fun j hj => .inl hj⟩
theorem TtGo.mine {w0 a b c : World} {τ τ' : Tt} {S : List Nat} (h : TtGo w0 a τ τ' b) (c1 : Chg S b c) (hS : ∀ x ∈ S, a.heap.size ≤ x ∧ ¬ τ'.own x) (h0 : w0.heap.size ≤ a.heap.size) : TtGo w0 a τ τ' c := by
  refine ⟨h.is.chg c1 (fun x hx => ⟨(hS x hx).2, Nat.le_trans h0 (hS x hx).1⟩), ?_, h.own⟩
  obtain ⟨T, k1, k2⟩ := h.c
  exact ⟨T ++ S, k1.trans c1 (fun x hx => List.mem_append_left _ hx) (fun x hx _ => List.mem_append_right _ hx), fun x hx hl => (List.mem_append.1 hx).elim (fun hm => k2 x hm hl) (fun hm => absurd (hS x hm).1 (by omega))⟩
theorem TtGo.free {w0 a b : World} {τ τ' : Tt} (h : TtGo w0 a τ τ' b) {k : Nat} (hk : k < a.heap.size) (hn : ¬ τ.own k) : ¬ τ'.own k := fun ho => (h.own k ho).elim hn (fun hl => by omega)
theorem TtIs.box0 {w0 w : World} {τ : Tt} (h : TtIs w0 w τ) (o : Obj) : (w.alloc o).heap[w.heap.size]? = some o ∧ ¬ τ.own w.heap.size ∧ TtIs w0 (w.alloc o) τ :=
  ⟨alloc_heap w o, fun ho => by have := (h.own_lt _ ho).2; omega, h.chg0 ((Chg.refl _ _).alloc _)⟩
theorem TtGo.box {w0 a b : World} {τ τ' : Tt} (G : TtGo w0 a τ τ' b) {k : Nat} {o : Obj} (h : a.heap[k]? = some o ∧ ¬ τ.own k) : b.heap[k]? = some o ∧ ¬ τ'.own k := ⟨G.c.heap h.1 h.2, G.free (heap_lt h.1) h.2⟩
theorem TtIs.setA {w0 w : World} {τ : Tt} (h : TtIs w0 w τ) (A' : At3) (W : World) (hW : W = ((w.setCell ⟨τ.bT, 0, none⟩ (.int .u32 A'.fl)).setCell ⟨τ.bT, 1, none⟩ (.int .u8 A'.mn)).setCell ⟨τ.bT, 2, none⟩ (.int .u8 A'.tm)) : TtGo w0 w τ { τ with A := A' } W := by
  have c1 : Chg [τ.bT] w W := by
    rw [hW]
    exact (((Chg.refl [τ.bT] w).setCell (p := ⟨τ.bT, 0, none⟩) (Or.inl List.mem_cons_self) _).setCell (p := ⟨τ.bT, 1, none⟩) (Or.inl List.mem_cons_self) _).setCell (p := ⟨τ.bT, 2, none⟩) (Or.inl List.mem_cons_self) _
  refine ⟨⟨h.W.chg c1 (fun x hx => by rw [List.mem_singleton.1 hx]; exact ⟨h.mT, h.lT⟩), ?_, h.row.chg c1 (fun k hk hm => h.ne (by rw [hk, List.mem_singleton.1 hm])), h.ne, h.mT, h.mv, h.lT, h.lv, fun y hy => ?_⟩, ChgO.of c1 (fun x hx => .inr (.inl (List.mem_singleton.1 hx))), fun k hk => .inl hk⟩
  · rw [hW, setCell_heap _ (setCell_heap _ (setCell_heap _ h.hT))]
    rfl
  · have d := h.dat y hy
    exact ⟨src_chg d.src c1 (fun k hk hm => (d.blk k hk).1 (List.mem_singleton.1 hm)), d.few, fun k hk => by have := d.blk k hk; exact ⟨this.1, this.2.1, this.2.2.1, this.2.2.2.1, Nat.lt_of_lt_of_le this.2.2.2.2 c1.size⟩⟩
theorem TtGo.noted {w0 ws w w' : World} {τ0 τ : Tt} {y : EfD} {e : Ending} (h0 : TtGo w0 ws τ0 τ w) (hy : DatE w0 w τ y) (hyb : ∀ k, y.blk = some k → ws.heap.size ≤ k) (hp : NotePost τ.bT τ.A (.pointer (some ⟨τ.μ.bW, 0, none⟩)) τ.v τ.E.length (cellsF τ.E) y w e w') :
    e = .returned (.tuple #[]) ∧ ∃ v', TtGo w0 ws τ0 { τ with v := v', E := τ.E ++ [y] } w' := by
  obtain ⟨he, v', hT, hr, c, hne, hb⟩ := hp
  have h := h0.is
  have hS : ∀ x ∈ τ.bT :: τ.v.ownBlock.toList, x = τ.bT ∨ τ.v.ownBlock = some x := fun x hx => by
    rcases List.mem_cons.1 hx with e | e
    · exact .inl e
    · exact .inr (by simpa [Option.mem_toList] using e)
  have hc0 := h.W.c0
  have hcs := h0.c.size
  have hd : ∀ z, DatE w0 w τ z → DatE w0 w' { τ with v := v', E := τ.E ++ [y] } z := fun z d => by
    refine ⟨src_chg d.src c (fun k hk hm => ?_), d.few, fun k hk => ?_⟩
    · have := d.blk k hk
      exact (hS k hm).elim this.1 this.2.1
    · have := d.blk k hk
      exact ⟨this.1, fun e => (hb k e).elim this.2.1 (fun h => by omega), this.2.2.1, this.2.2.2.1, Nat.lt_of_lt_of_le this.2.2.2.2 c.size⟩
  refine ⟨he, v', ⟨⟨h.W.chg c (fun x hx => ?_), hT, ?_, hne, h.mT, fun k hk => (hb k hk).elim (h.mv k) (fun hl => h.W.hi k hl), h.lT, fun k hk => (hb k hk).elim (h.lv k) (fun hl => Nat.le_trans hc0.size hl), fun z hz => ?_⟩, ?_, fun k hk => ?_⟩⟩
  · rcases hS x hx with e | e
    · rw [e]; exact ⟨h.mT, h.lT⟩
    · exact ⟨h.mv x e, h.lv x e⟩
  · have e1 : (τ.E ++ [y]).length = τ.E.length + 1 := by simp
    have e2 : cellsF (τ.E ++ [y]) = cellsF τ.E ++ y.cells := by rw [cellsF_append, cellsF_cons]; simp [cellsF]
    show HasRow w' _ 7 v' (τ.E ++ [y]).length (cellsF (τ.E ++ [y]))
    rw [e1, e2]
    exact hr
  · rcases List.mem_append.1 hz with hz | hz
    · exact hd z (h.dat z hz)
    · rw [List.mem_singleton.1 hz]; exact hd y hy
  · exact h0.c.trans (ChgO.of (O := τ.own) c (fun x hx => (hS x hx).elim (fun e => .inr (.inl e)) (fun e => .inr (.inr (.inl e))))) h0.own
  · rcases hk with hk | hk | hk | ⟨z, hz, hk⟩
    · exact h0.own k (.inl hk)
    · exact h0.own k (.inr (.inl hk))
    · exact (hb k hk).elim (fun e => h0.own k (.inr (.inr (.inl e)))) (fun e => .inr (Nat.le_trans hcs e))
    · rcases List.mem_append.1 hz with hz | hz
      · exact h0.own k (.inr (.inr (.inr ⟨z, hz, hk⟩)))
      · rw [List.mem_singleton.1 hz] at hk
        exact .inr (hyb k hk)
theorem datE0 {w0 w : World} {τ : Tt} (kind : Int) (a : At3) (n : Int) (ok : Bool) : DatE w0 w τ (ef0 kind a n ok) :=
  ⟨⟨rfl, fun _ => ⟨rfl, rfl⟩, fun ad e => by cases e⟩, Nat.zero_le _, fun k hk => by cases hk⟩
theorem note_go (w0 ws w : World) (τ0 τ : Tt) (y : EfD) (h0 : TtGo w0 ws τ0 τ w) (hy : DatE w0 w τ y) (hyb : ∀ k, y.blk = some k → ws.heap.size ≤ k) (hn : τ.E.length ≤ 1000000) :
    Calls Tryz.prog 157 #[.pointer (some ⟨τ.bT, 0, none⟩), .slice (some ⟨w.heap.size, 0, none⟩) 1 1] (w.alloc (.cells y.cells.toArray 86)) fun e w' => e = .returned (.tuple #[]) ∧ ∃ v', TtGo w0 ws τ0 { τ with v := v', E := τ.E ++ [y] } w' := by
  have k1 : Chg [] w (w.alloc (.cells y.cells.toArray 86)) := (Chg.refl _ _).alloc _
  have h1 := h0.chg0 k1
  have hy1 : DatE w0 (w.alloc (.cells y.cells.toArray 86)) τ y :=
    ⟨hy.src.chg0 k1, hy.few, fun k hk => by have := hy.blk k hk; exact ⟨this.1, this.2.1, this.2.2.1, this.2.2.2.1, Nat.lt_of_lt_of_le this.2.2.2.2 k1.size⟩⟩
  exact (note_any τ.bT w.heap.size τ.A _ τ.v τ.E.length (cellsF τ.E) y _ h1.is.hT h1.is.row h1.is.ne (alloc_heap w _) hn).mono fun e w' hp => h1.noted hy1 hyb hp
end Go.Proofs.YtafmnkngjjnpiaaGreatDoor

namespace Go.Proofs.YtafmnkngjjnpiaaGreatDoor
set_option linter.unusedVariables false
set_option linter.unusedSimpArgs false
set_option maxRecDepth 100000
open Go.RowKit
attribute [local go_sem] run_store_float'
def TNewPost (p : PlanD) (w : World) (e : Ending) (w' : World) : Prop :=
  ∃ τ : Tt, e = .returned (.tuple #[.pointer (some ⟨τ.bT, 0, none⟩), .int .i64 0]) ∧ TtIs w w' τ ∧ τ.Z.map Zt.pr = ordP p.its p.il ∧ τ.c = p.cnt ∧ τ.A = ⟨p.fl, p.mn, p.tm⟩ ∧ τ.E = []
theorem tNew_mk {w w1 : World} {μ : Wm} {Z : List Zt} {c : Wc} (O : OwnWd w w1 μ Z c) (A : At3) :
    TtIs w (w1.alloc (.cells #[.int .u32 A.fl, .int .u8 A.mn, .int .u8 A.tm, .pointer (some ⟨μ.bW, 0, none⟩), .slice none 0 0] 171)) ⟨w1.heap.size, .slice none 0 0, μ, Z, c, A, []⟩ :=
  ⟨O.chg0 ((Chg.refl _ _).alloc _), alloc_heap w1 _, HasRow.nil _ _ _, by simp [Value.ownBlock], O.hi _ (Nat.le_refl _), by simp [Value.ownBlock], O.c0.size, by simp [Value.ownBlock], by simp⟩
set_option maxHeartbeats 4000000 in
theorem tNew_any (p : PlanD) (w : World) (h : p.At w) (hc : p.chk = 0) (hW : p.wl ≤ 1000000) (hG : p.gl ≤ 1000000) (hS : p.sl ≤ 1000000) (hmx : ∀ x ∈ p.its, x.m ≤ 1000000) :
    Calls Tryz.prog 85 #[.agg p.cells] w (TNewPost p w) := by
  have CB : Chg [] w (w.alloc (.cells p.cells 74)) := (Chg.refl _ _).alloc _
  have HN := Lib.hid (wNew_any p _ (h.chg CB) hc hW hG hS hmx)
  have hB := alloc_heap w (.cells p.cells 74)
  have HB := Lib.hid hB
  have hcs : p.cells = #[.int .u32 p.fl, .int .u8 p.mn, .int .u8 p.tm, .slice p.ia p.il p.ic, .slice p.wa p.wl p.wc, .slice p.ga p.gl p.gc, .slice p.sa p.sl p.sc] := rfl
  rw [hcs] at HN CB HB ⊢
  have HCB := Lib.hid CB
  clear hcs hB CB h hc hW hG hS hmx
  go_enter Tryz.func85, Tryz.ntmps85
  go_wp2_with fail
  refine (HN.out).mono ?_
  rintro e w1 ⟨μ, Z, rfl, O, hz⟩
  have b1 := O.c0.heap HB.out (by simp)
  have q0 : w1.cell? ⟨w.heap.size, 0, none⟩ = some (.int .u32 p.fl) := by rw [cell_of_heap b1]; rfl
  have q1 : w1.cell? ⟨w.heap.size, 1, none⟩ = some (.int .u8 p.mn) := by rw [cell_of_heap b1]; rfl
  have q2 : w1.cell? ⟨w.heap.size, 2, none⟩ = some (.int .u8 p.tm) := by rw [cell_of_heap b1]; rfl
  have HO := Lib.hid (tNew_mk (A := ⟨p.fl, p.mn, p.tm⟩) (show OwnWd w w1 μ Z p.cnt from ⟨O.is, HCB.out.trans O.c0 (fun y hy => hy) (by simp), fun x hx => O.lo x (Nat.lt_of_lt_of_le hx HCB.out.size), O.hi⟩))
  have HZ := Lib.hid hz
  clear O hz b1
  go_wp2_with fail
  go_ret2
  exact ⟨_, rfl, HO.out, HZ.out, rfl, rfl, rfl⟩
theorem TtIs.c3 {w0 w : World} {τ : Tt} (h : TtIs w0 w τ) : w.cell? ⟨τ.bT, 0, none⟩ = some (.int .u32 τ.A.fl) ∧ w.cell? ⟨τ.bT, 1, none⟩ = some (.int .u8 τ.A.mn) ∧ w.cell? ⟨τ.bT, 2, none⟩ = some (.int .u8 τ.A.tm) ∧ w.cell? ⟨τ.bT, 3, none⟩ = some (.pointer (some ⟨τ.μ.bW, 0, none⟩)) ∧ w.cell? ⟨τ.bT, 4, none⟩ = some τ.v := by
  refine ⟨?_, ?_, ?_, ?_, ?_⟩ <;> (rw [cell_of_heap h.hT]; rfl)
def GetE (τ : Tt) : EfD := if ((τ.c.got : Nat) : Int) ∈ τ.c.gs then ef0 0 at0 0 false else ef0 0 τ.A 0 true
def TGetPost (w0 : World) (τ : Tt) (w : World) (e : Ending) (w' : World) : Prop :=
  e = .returned (.tuple #[if ((τ.c.got : Nat) : Int) ∈ τ.c.gs then at0.val else τ.A.val, .int .i64 (if ((τ.c.got : Nat) : Int) ∈ τ.c.gs then 5 else 0)]) ∧ ∃ v', TtGo w0 w τ { τ with v := v', c := { τ.c with got := τ.c.got + 1 }, E := τ.E ++ [GetE τ] } w'
theorem res_keep {w0 w w1 w3 : World} {τ τ' : Tt} {b : Nat} {o : Obj} (h : TtIs w0 w τ) (hb : b = w.heap.size) (hr : w1.heap[b]? = some o) (G : TtGo w0 w1 τ τ' w3) : w3.heap[b]? = some o ∧ ¬ τ'.own b := by
  have hn : ¬ τ.own b := fun ho => by have := (h.own_lt b ho).2; omega
  exact ⟨G.c.heap hr hn, G.free (heap_lt hr) hn⟩
theorem res_fill {w3 : World} {b : Nat} (h : w3.heap[b]? = some (.cells #[.int .u32 0, .int .u8 0, .int .u8 0] 71 (0, 0))) (A : At3) (W : World) (hW : W = ((w3.setCell ⟨b, 0, none⟩ (.int .u32 A.fl)).setCell ⟨b, 1, none⟩ (.int .u8 A.mn)).setCell ⟨b, 2, none⟩ (.int .u8 A.tm)) :
    Chg [b] w3 W ∧ (loadVar 71 ⟨b, 0, none⟩).run Tryz.prog W = .ok A.val W := by
  refine ⟨?_, run_loadVar_row W b 71 71 #[.int .u32 A.fl, .int .u8 A.mn, .int .u8 A.tm] (0, 0) _ ?_ Tryz.underlying71 rfl (by kernel_rfl)⟩
  · rw [hW]
    exact (((Chg.refl [b] w3).setCell (p := ⟨b, 0, none⟩) (Or.inl List.mem_cons_self) _).setCell (p := ⟨b, 1, none⟩) (Or.inl List.mem_cons_self) _).setCell (p := ⟨b, 2, none⟩) (Or.inl List.mem_cons_self) _
  · rw [hW, setCell_heap _ (setCell_heap _ (setCell_heap _ h))]
    rfl
theorem get_end {w0 w w1 w3 : World} {τ τ' : Tt} {b : Nat} (h : TtIs w0 w τ) (k : Chg [] w w1) (hb : b = w.heap.size) (G : TtGo w0 w1 τ τ' w3) (R : w3.heap[b]? = some (.cells #[.int .u32 0, .int .u8 0, .int .u8 0] 71 (0, 0)) ∧ ¬ τ'.own b) (A : At3) (W : World)
    (hW : W = ((w3.setCell ⟨b, 0, none⟩ (.int .u32 A.fl)).setCell ⟨b, 1, none⟩ (.int .u8 A.mn)).setCell ⟨b, 2, none⟩ (.int .u8 A.tm)) : TtGo w0 w τ τ' W :=
  (((TtGo.refl h).chg0 k).trans G).mine (res_fill R.1 A W hW).1 (fun x hx => by rw [List.mem_singleton.1 hx]; exact ⟨by omega, R.2⟩) h.W.c0.size
set_option maxHeartbeats 4000000 in
theorem tGet_any (w0 w : World) (τ : Tt) (h : TtIs w0 w τ) (hc : τ.c.got ≤ 1000000) (hn : τ.E.length ≤ 1000000) :
    Calls Tryz.prog 135 #[.pointer (some ⟨τ.bT, 0, none⟩)] w (TGetPost w0 τ w) := by
  have k0 : Chg [] w (w.alloc (.cells #[.int .u32 0, .int .u8 0, .int .u8 0] 71)) := (Chg.refl _ _).alloc _
  have h1 := h.chg0 k0
  have r0 := alloc_heap w (.cells #[.int .u32 0, .int .u8 0, .int .u8 0] 71)
  obtain ⟨t0, t1, t2, t3, t4⟩ := h1.c3
  have HH := Lib.hid h
  have H1 := Lib.hid h1
  have K0 := Lib.hid k0
  have R0 := Lib.hid r0
  clear h h1 k0 r0 t4
  go_enter Tryz.func135, Tryz.ntmps135
  go_wp2_with fail
  refine (oGet_any w0 _ τ.μ τ.Z τ.c H1.out.W hc).mono ?_
  rintro e w2 ⟨rfl, F2, O2⟩
  have G2 := Lib.hid (TtGo.of_wd (mv := τ.μ.v) H1.out F2 O2)
  obtain ⟨b, hb⟩ : ∃ b, b = w.heap.size := ⟨_, rfl⟩
  have HB := Lib.hid hb
  rw [← hb] at R0 ⊢
  clear F2 O2 t0 t1 t2 t3 hb
  by_cases hm : ((τ.c.got : Nat) : Int) ∈ τ.c.gs
  · have hm' : (!decide (((τ.c.got : Nat) : Int) ∈ τ.c.gs)) = false := by simp [hm]
    rw [hm']
    have HM := Lib.hid hm
    clear hm hm'
    go_wp2_with fail
    refine (note_go w0 _ w2 τ _ (ef0 0 at0 0 false) G2.out (datE0 _ _ _ _) (fun k hk => by cases hk) hn).mono ?_
    rintro e w3 ⟨rfl, v3, G3⟩
    have RK := res_keep HH.out HB.out R0.out G3
    have RB := Lib.hid RK
    have f0 := free_of_heap RK.1 0
    have f1 := free_of_heap RK.1 1
    have f2 := free_of_heap RK.1 2
    have y0 : w3.cell? ⟨b, 0, none⟩ = some (.int .u32 0) := by rw [cell_of_heap RK.1]; rfl
    have y1 : w3.cell? ⟨b, 1, none⟩ = some (.int .u8 0) := by rw [cell_of_heap RK.1]; rfl
    have y2 : w3.cell? ⟨b, 2, none⟩ = some (.int .u8 0) := by rw [cell_of_heap RK.1]; rfl
    have HG3 := Lib.hid G3
    clear G3 RK
    go_wp2_with fail
    refine bodyPost_ret (v := .tuple #[at0.val, .int .i64 5]) ?_ rfl ⟨?_, v3, ?_⟩
    · have hl := (res_fill RB.out.1 at0 _ rfl).2
      rw [results_cell_tmp rfl]
      unfold at0 at hl ⊢
      dsimp only at hl
      simp [asAddr, Result.andThen, hl]
    · rw [if_pos HM.out, if_pos HM.out]
    · have he : GetE τ = ef0 0 at0 0 false := by unfold GetE; rw [if_pos HM.out]
      rw [he]
      exact get_end HH.out K0.out HB.out HG3.out RB.out at0 _ rfl
  · have hm' : (!decide (((τ.c.got : Nat) : Int) ∈ τ.c.gs)) = true := by simp [hm]
    rw [hm']
    have HM := Lib.hid hm
    clear hm hm'
    have tt := G2.out.is.c3
    obtain ⟨t0, t1, t2, t3, t4⟩ := tt
    go_wp2_with fail
    refine (note_go w0 _ w2 τ _ (ef0 0 τ.A 0 true) G2.out (datE0 _ _ _ _) (fun k hk => by cases hk) hn).mono ?_
    rintro e w3 ⟨rfl, v3, G3⟩
    have RK := res_keep HH.out HB.out R0.out G3
    have RB := Lib.hid RK
    have f0 := free_of_heap RK.1 0
    have f1 := free_of_heap RK.1 1
    have f2 := free_of_heap RK.1 2
    have y0 : w3.cell? ⟨b, 0, none⟩ = some (.int .u32 0) := by rw [cell_of_heap RK.1]; rfl
    have y1 : w3.cell? ⟨b, 1, none⟩ = some (.int .u8 0) := by rw [cell_of_heap RK.1]; rfl
    have y2 : w3.cell? ⟨b, 2, none⟩ = some (.int .u8 0) := by rw [cell_of_heap RK.1]; rfl
    obtain ⟨u0, u1, u2, u3, u4⟩ := G3.is.c3
    have HG3 := Lib.hid G3
    clear G3 RK t0 t1 t2 t3 t4 u4
    go_wp2_with fail
    refine bodyPost_ret (v := .tuple #[τ.A.val, .int .i64 0]) ?_ rfl ⟨?_, v3, ?_⟩
    · have hl := (res_fill RB.out.1 τ.A _ rfl).2
      rw [results_cell_tmp rfl]
      simp [asAddr, Result.andThen, hl]
    · rw [if_neg HM.out, if_neg HM.out]
    · have he : GetE τ = ef0 0 τ.A 0 true := by unfold GetE; rw [if_neg HM.out]
      rw [he]
      exact get_end HH.out K0.out HB.out HG3.out RB.out τ.A _ rfl
def SetOk (τ : Tt) : Bool := !decide (((τ.c.set : Nat) : Int) ∈ τ.c.ss)
def TSetPost (w0 : World) (τ : Tt) (A : At3) (w : World) (e : Ending) (w' : World) : Prop :=
  e = .returned (.int .i64 (if SetOk τ = true then 0 else 5)) ∧ ∃ v', TtGo w0 w τ { τ with v := v', c := { τ.c with set := τ.c.set + 1 }, A := if SetOk τ = true then A else τ.A, E := τ.E ++ [ef0 1 A 0 (SetOk τ)] } w'
set_option maxHeartbeats 4000000 in
theorem tSet_any (w0 w : World) (τ : Tt) (A : At3) (h : TtIs w0 w τ) (hc : τ.c.set ≤ 1000000) (hn : τ.E.length ≤ 1000000) :
    Calls Tryz.prog 137 #[.pointer (some ⟨τ.bT, 0, none⟩), A.val] w (TSetPost w0 τ A w) := by
  have k0 : Chg [] w (w.alloc (.cells #[.int .u32 A.fl, .int .u8 A.mn, .int .u8 A.tm] 71)) := (Chg.refl _ _).alloc _
  have h1 := h.chg0 k0
  have r0 := alloc_heap w (.cells #[.int .u32 A.fl, .int .u8 A.mn, .int .u8 A.tm] 71)
  obtain ⟨t0, t1, t2, t3, t4⟩ := h1.c3
  have HH := Lib.hid h
  have H1 := Lib.hid h1
  have K0 := Lib.hid k0
  have R0 := Lib.hid r0
  clear h h1 k0 r0 t4
  show Calls _ _ #[_, .agg #[.int .u32 A.fl, .int .u8 A.mn, .int .u8 A.tm]] _ _
  go_enter Tryz.func137, Tryz.ntmps137
  go_wp2_with fail
  refine (oSet_any w0 _ τ.μ τ.Z τ.c H1.out.W hc).mono ?_
  rintro e w2 ⟨rfl, F2, O2⟩
  have hm' : (!decide (((τ.c.set : Nat) : Int) ∈ τ.c.ss)) = SetOk τ := rfl
  rw [hm']
  have G2 := Lib.hid (TtGo.of_wd (mv := τ.μ.v) H1.out F2 O2)
  obtain ⟨b, hb⟩ : ∃ b, b = w.heap.size := ⟨_, rfl⟩
  have HB := Lib.hid hb
  rw [← hb] at R0 ⊢
  clear F2 O2 t0 t1 t2 t3 hb hm'
  have RK := res_keep HH.out HB.out R0.out G2.out
  have y0 : w2.cell? ⟨b, 0, none⟩ = some (.int .u32 A.fl) := by rw [cell_of_heap RK.1]; rfl
  have y1 : w2.cell? ⟨b, 1, none⟩ = some (.int .u8 A.mn) := by rw [cell_of_heap RK.1]; rfl
  have y2 : w2.cell? ⟨b, 2, none⟩ = some (.int .u8 A.tm) := by rw [cell_of_heap RK.1]; rfl
  obtain ⟨ok, hok⟩ : ∃ ok, ok = SetOk τ := ⟨_, rfl⟩
  have HOK := Lib.hid hok
  rw [← hok]
  clear RK hok
  go_wp2_with fail
  refine (note_go w0 _ w2 τ _ (ef0 1 A 0 ok) G2.out (datE0 _ _ _ _) (fun k hk => by cases hk) hn).mono ?_
  rintro e w3 ⟨rfl, v3, G3⟩
  have RK := res_keep HH.out HB.out R0.out G3
  have z0 : w3.cell? ⟨b, 0, none⟩ = some (.int .u32 A.fl) := by rw [cell_of_heap RK.1]; rfl
  have z1 : w3.cell? ⟨b, 1, none⟩ = some (.int .u8 A.mn) := by rw [cell_of_heap RK.1]; rfl
  have z2 : w3.cell? ⟨b, 2, none⟩ = some (.int .u8 A.tm) := by rw [cell_of_heap RK.1]; rfl
  obtain ⟨u0, u1, u2, u3, u4⟩ := G3.is.c3
  have f0 := free_of_heap G3.is.hT 0
  have f1 := free_of_heap G3.is.hT 1
  have f2 := free_of_heap G3.is.hT 2
  have HG3 := Lib.hid G3
  clear G3 RK u3 u4 y0 y1 y2
  dsimp only at u0 u1 u2 f0 f1 f2
  cases ok with
  | false =>
    go_wp2_with fail
    go_ret
    refine ⟨by rw [← HOK.out]; rfl, v3, ?_⟩
    have G := ((TtGo.refl HH.out).chg0 K0.out).trans HG3.out
    rw [← HOK.out]
    exact G
  | true =>
    go_wp2_with fail
    go_ret
    refine ⟨by rw [← HOK.out]; rfl, v3, ?_⟩
    have G := (((TtGo.refl HH.out).chg0 K0.out).trans HG3.out).trans (HG3.out.is.setA A _ rfl)
    rw [← HOK.out]
    exact G
set_option maxHeartbeats 4000000 in
theorem tAttrs_any (w0 w : World) (τ : Tt) (h : TtIs w0 w τ) :
    Calls Tryz.prog 90 #[.pointer (some ⟨τ.bT, 0, none⟩)] w fun e w' => e = .returned τ.A.val ∧ Chg [] w w' := by
  have k0 : Chg [] w (w.alloc (.cells #[.int .u32 0, .int .u8 0, .int .u8 0] 71)) := (Chg.refl _ _).alloc _
  have h1 := h.chg0 k0
  have r0 := alloc_heap w (.cells #[.int .u32 0, .int .u8 0, .int .u8 0] 71)
  obtain ⟨t0, t1, t2, t3, t4⟩ := h1.c3
  have hb : τ.bT < w.heap.size := heap_lt h.hT
  have hn1 : ¬ τ.bT = w.heap.size := by omega
  have hn2 : ¬ w.heap.size = τ.bT := by omega
  have K0 := Lib.hid k0
  have R0 := Lib.hid r0
  clear h h1 k0 r0 t3 t4
  go_enter Tryz.func90, Tryz.ntmps90
  go_wp2_with fail
  refine bodyPost_ret (v := τ.A.val) ?_ rfl ⟨rfl, (Chg.refl _ _).alloc _⟩
  exact results_cell_row rfl _ _ w.heap.size 71 #[.int .u32 τ.A.fl, .int .u8 τ.A.mn, .int .u8 τ.A.tm] (0, 0) _ rfl (alloc_heap w _) Tryz.underlying71 rfl (by kernel_rfl)
def WrE (τ : Tt) (ao : Option Addr) (cap : Nat) (zs : List Int) : EfD := ⟨2, at0, ao, cap, zs, wrN τ.c.ws τ.c.wrote zs.length, wrB τ.c.ws τ.c.wrote⟩
def TWrPost (w0 : World) (τ : Tt) (zs : List Int) (w : World) (e : Ending) (w' : World) : Prop :=
  e = .returned (.tuple #[.int .i64 (if wrB τ.c.ws τ.c.wrote = true then wrN τ.c.ws τ.c.wrote zs.length else 0), .int .i64 (if wrB τ.c.ws τ.c.wrote = true then 0 else 5)]) ∧ ∃ v' ao cap, TtGo w0 w τ { τ with v := v', c := { τ.c with wrote := τ.c.wrote + 1 }, E := τ.E ++ [WrE τ ao cap zs] } w' ∧ ∀ k, (WrE τ ao cap zs).blk = some k → w.heap.size ≤ k
set_option maxHeartbeats 4000000 in
theorem tWrite_any (w0 w : World) (τ : Tt) (ao : Option Addr) (n c : Nat) (zs : List Int) (h : TtIs w0 w τ) (hs : SrcAt w ao n c (valsOf .u8 zs)) (ho : 0 < n → ∀ k, ao.map (·.block) = some k → τ.μ.f k = 0) (hz : n ≤ 1000000) (hc : τ.c.wrote ≤ 1000000) (hn : τ.E.length ≤ 1000000) :
    Calls Tryz.prog 175 #[.pointer (some ⟨τ.bT, 0, none⟩), .slice ao n c] w (TWrPost w0 τ zs w) := by
  obtain ⟨t0, t1, t2, t3, t4⟩ := h.c3
  have HH := Lib.hid h
  have HS := Lib.hid hs
  have HO := Lib.hid ho
  have hl : zs.length = n := by have := hs.1; rwa [valsOf_length] at this
  have HL := Lib.hid hl
  clear h hs ho t0 t1 t2 t4 hl
  go_enter Tryz.func175, Tryz.ntmps175
  go_wp2_with fail
  refine (oWrite_any w0 _ τ.μ τ.Z τ.c n HH.out.W hc).mono ?_
  rintro e w2 ⟨rfl, F2, O2⟩
  have G2 := Lib.hid (TtGo.of_wd (mv := τ.μ.v) HH.out F2 O2)
  have S2 : SrcAt w2 ao n c (valsOf .u8 zs) := by
    obtain ⟨S, k1, k2⟩ := F2
    by_cases h0 : 0 < n
    · exact HS.out.chg k1 (fun ad e hm => k2 _ hm (HO.out h0 _ (by rw [e]; rfl)))
    · obtain rfl : zs = [] := List.eq_nil_of_length_eq_zero (by rw [HL.out]; omega)
      exact ⟨HS.out.1, HS.out.2.1, fun ad e j u hu => by simp [valsOf] at hu⟩
  have HS2 := Lib.hid S2
  obtain ⟨ok, hok⟩ : ∃ ok, ok = wrB τ.c.ws τ.c.wrote := ⟨_, rfl⟩
  obtain ⟨m, hm⟩ : ∃ m, m = wrN τ.c.ws τ.c.wrote n := ⟨_, rfl⟩
  have HOK := Lib.hid (And.intro hok hm)
  rw [← hok, ← hm]
  clear F2 O2 t3 hok hm S2
  go_wp2_with fail
  refine (bclone_any ao n c zs w2 HS2.out hz).mono ?_
  rintro e w3 ⟨vb, rfl, C3, OB⟩
  obtain ⟨ab, cb, rfl, SB, hbb⟩ := owns_srcAt OB
  have hlt := OB.lt
  have G3 := G2.out.chg0 C3
  have hsz := G2.out.c.size
  have HY : Hid (DatE w0 w3 { τ with μ := { τ.μ with v := τ.μ.v }, Z := τ.Z, c := { τ.c with wrote := τ.c.wrote + 1 } } (⟨2, at0, ab, cb, zs, m, ok⟩ : EfD)) := Lib.hid (by
    refine ⟨?_, by rw [HL.out]; exact hz, fun k hk => ?_⟩
    · show SrcAt w3 ab zs.length cb _
      rw [HL.out]; exact SB
    · obtain ⟨ad, e, rfl⟩ := Option.map_eq_some_iff.1 hk
      have h1 := hbb ad e
      have h2 := hlt _ h1
      have hnot : ¬ Tt.own τ ad.block := fun ho => by have := (HH.out.own_lt _ ho).2; omega
      exact ⟨fun e => hnot (.inr (.inl e)), fun e => hnot (.inr (.inr (.inl e))), Classical.byContradiction fun e => hnot (.inl e), by have := HH.out.W.c0.size; omega, h2.2⟩)
  have HYB : Hid (∀ k, (⟨2, at0, ab, cb, zs, m, ok⟩ : EfD).blk = some k → w.heap.size ≤ k) := Lib.hid (fun k hk => by
    obtain ⟨ad, e, rfl⟩ := Option.map_eq_some_iff.1 hk
    have := hlt _ (hbb ad e)
    omega)
  have HG3 := Lib.hid G3
  clear G3 C3 OB SB hbb hlt hsz
  go_wp2_with fail
  have hnote := note_go w0 _ w3 τ _ (⟨2, at0, ab, cb, zs, m, ok⟩ : EfD) HG3.out HY.out HYB.out hn
  unfold EfD.cells at hnote
  dsimp only at hnote
  rw [HL.out] at hnote
  refine hnote.mono ?_
  rintro e w4 ⟨rfl, v4, G4⟩
  have HG4 := Lib.hid G4
  clear G4 hnote
  cases ok with
  | false =>
    go_wp2_with fail
    go_ret2
    refine ⟨by rw [← HOK.out.1]; rfl, v4, ab, cb, ?_, ?_⟩
    · have e1 : WrE τ ab cb zs = ⟨2, at0, ab, cb, zs, m, false⟩ := by unfold WrE; rw [HL.out, ← HOK.out.1, ← HOK.out.2]
      rw [e1]
      exact HG4.out
    · exact HYB.out
  | true =>
    go_wp2_with fail
    go_ret2
    refine ⟨by rw [← HOK.out.1, HL.out, ← HOK.out.2]; rfl, v4, ab, cb, ?_, ?_⟩
    · have e1 : WrE τ ab cb zs = ⟨2, at0, ab, cb, zs, m, true⟩ := by unfold WrE; rw [HL.out, ← HOK.out.1, ← HOK.out.2]
      rw [e1]
      exact HG4.out
    · exact HYB.out
/-! ### By their outcomes -/
end Go.Proofs.YtafmnkngjjnpiaaGreatDoor
