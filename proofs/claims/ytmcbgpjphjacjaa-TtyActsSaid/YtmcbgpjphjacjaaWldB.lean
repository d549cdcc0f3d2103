/-
  Layer 16: what a world is in memory; the contracts of Write, Get, Set, Left.
-/
import Derived.Test.YtmcbgpjphjacjaaWldA
import Derived.Test.YtmcbgpjphjacjaaQueV
namespace Go.Proofs.Ytmcbgpjphjacjaa
set_option linter.unusedVariables false
set_option maxRecDepth 100000
open Go.RowKit

/-- A queue that was made since w0; nothing that was there then has turned. -/
structure OwnQ (w0 w : World) (bQ : Nat) (v : Value) (M : List Ele) (p : Nat) : Prop where
  q : QueIs w bQ v M p
  c : Chg [] w0 w
  b1 : w0.heap.size ≤ bQ
  b2 : ∀ k, v.ownBlock = some k → w0.heap.size ≤ k

theorem OwnQ.none {w0 w : World} {bQ : Nat} {v : Value} {M : List Ele} {p : Nat} (h : OwnQ w0 w bQ v M p) {x : Nat} (hx : x ∈ bQ :: v.ownBlock.toList) (hl : x < w0.heap.size) : x ∈ ([] : List Nat) := by
  rcases List.mem_cons.1 hx with h1 | h1
  · have := h.b1; omega
  · have := h.b2 x (by simpa [Option.mem_toList] using h1); omega

theorem OwnQ.chg {w0 w w' : World} {bQ : Nat} {v : Value} {M : List Ele} {p : Nat} {S : List Nat} (h : OwnQ w0 w bQ v M p) (c : Chg S w w') (hS : ∀ x ∈ S, w0.heap.size ≤ x) (hb : bQ ∉ S) (hv : ∀ k, v.ownBlock = some k → k ∉ S) : OwnQ w0 w' bQ v M p :=
  ⟨h.q.chg c hb hv, h.c.trans c (fun x hx => hx) (fun x hx hl => by have := hS x hx; omega), h.b1, h.b2⟩

theorem OwnQ.chg0 {w0 w w' : World} {bQ : Nat} {v : Value} {M : List Ele} {p : Nat} (h : OwnQ w0 w bQ v M p) (c : Chg [] w w') : OwnQ w0 w' bQ v M p := h.chg c (by simp) (by simp) (by simp)

theorem oNew_any (w0 w : World) (c : Chg [] w0 w) :
    Calls Try.prog 54 #[] w fun e w' => e = .returned (.pointer (some ⟨w.heap.size, 0, none⟩)) ∧ OwnQ w0 w' w.heap.size (.slice none 0 0) [] 0 :=
  (qNew_any w).mono fun e w' ⟨he, hc, hq⟩ => ⟨he, hq, c.trans hc (by simp) (by simp), c.size, by simp [Value.ownBlock]⟩

theorem oPush_any (w0 : World) (bQ : Nat) (v : Value) (M : List Ele) (p : Nat) (b : Nat) (n : Int) (w : World) (h : OwnQ w0 w bQ v M p) (hf : M.length < 4096) (hb : Wd b) (hp : p < 1000000) :
    Calls Try.prog 57 #[.pointer (some ⟨bQ, 0, none⟩), .float .f64 b, .int .i64 n] w fun e w' => e = .returned (.int .i64 0) ∧ ∃ v', OwnQ w0 w' bQ v' (insQ oE M (b, n, (p : Int))) (p + 1) := by
  refine (qPush_any bQ v M p b n w h.q hf hb hp).mono ?_
  rintro e w' ⟨rfl, c, v', hq, hv⟩
  exact ⟨rfl, v', hq, h.c.trans c (fun x hx => hx) (fun x hx hl => h.none hx hl), h.b1, fun k hk => (hv k hk).elim (h.b2 k) (fun h1 => Nat.le_trans h.c.size h1)⟩

theorem oPop_any (w0 : World) (bQ : Nat) (v : Value) (x : Ele) (M : List Ele) (p : Nat) (w : World) (h : OwnQ w0 w bQ v (x :: M) p) :
    Calls Try.prog 60 #[.pointer (some ⟨bQ, 0, none⟩)] w fun e w' => e = .returned (.tuple #[.float .f64 x.1, .int .i64 x.2.1, .int .i64 0]) ∧ ∃ v', OwnQ w0 w' bQ v' M p := by
  refine (qPop_any bQ v x M p w h.q).mono ?_
  rintro e w' ⟨rfl, c, v', hq, hv⟩
  exact ⟨rfl, v', hq, h.c.trans c (fun x hx => hx) (fun x hx hl => h.none hx hl), h.b1, by rw [hv]; exact h.b2⟩

theorem oPeek_any (w0 : World) (bQ : Nat) (v : Value) (x : Ele) (M : List Ele) (p : Nat) (w : World) (h : OwnQ w0 w bQ v (x :: M) p) :
    Calls Try.prog 59 #[.pointer (some ⟨bQ, 0, none⟩)] w fun e w' => e = .returned (.tuple #[.float .f64 x.1, .int .i64 x.2.1, .int .i64 0]) ∧ OwnQ w0 w' bQ v (x :: M) p := by
  refine (qPeek_any bQ v x M p w h.q).mono ?_
  rintro e w' ⟨rfl, c⟩
  exact ⟨rfl, h.chg0 c⟩

end Go.Proofs.Ytmcbgpjphjacjaa

namespace Go.Proofs.Ytmcbgpjphjacjaa
set_option linter.unusedVariables false
set_option maxRecDepth 100000
open Go.RowKit

/-- What may come: its moment's word, its kind, its number, its bytes. -/
structure It where
  b : Nat
  kind : Int
  n : Int
  bs : List Int

/-- One that is in the queue: its element, what it is, which of the plan's, its value, where its bytes lie. -/
structure Zt where
  e : Ele
  it : It
  ix : Nat
  val : Value
  pb : Nat
  g : Nat
  off : Nat
  cap : Nat

structure DatIs (w : World) (f : Nat → Nat) (z : Zt) : Prop where
  val : z.val = .iface 122 (.pointer (some ⟨z.pb, 0, none⟩))
  pb : w.heap[z.pb]? = some (.cells #[.slice (some ⟨z.g, z.off, none⟩) z.it.bs.length z.cap] 124 (0, 0))
  row : ∃ cur : List Value, w.heap[z.g]? = some (.cells cur.toArray 5 (0, 0)) ∧ z.off + z.it.bs.length ≤ cur.length ∧ ∀ j, j < z.it.bs.length → cur[z.off + j]? = some (.int .u8 (z.it.bs.getD j 0))
  pos : 0 < z.it.bs.length
  le : z.it.bs.length ≤ z.cap
  cm : z.cap ≤ maxLen
  few : z.it.bs.length ≤ 1000000
  fp : f z.pb = 8 + 2 * z.ix
  fg : f z.g = 9 + 2 * z.ix

structure ZIs (w : World) (f : Nat → Nat) (ivs : List Value) (z : Zt) : Prop where
  wd : Wd z.it.b
  eb : z.e.1 = z.it.b
  ei : z.e.2.1 = (z.ix : Int)
  iv : ivs[z.ix]? = some z.val
  kd : (z.it.kind = 1 ∧ z.it.bs = [] ∧ z.val = .iface 121 (.agg #[.int .i64 z.it.n])) ∨ (z.it.kind = 2 ∧ z.it.n = 0 ∧ z.it.bs = [] ∧ z.val = .iface 135 (.agg #[])) ∨ (z.it.kind = 0 ∧ z.it.n = 0 ∧ DatIs w f z)

/-- Only blocks that f names may have turned. -/
def ChgF (f : Nat → Nat) (w w' : World) : Prop := ∃ S, Chg S w w' ∧ ∀ x ∈ S, f x ≠ 0

theorem ChgF.refl (f : Nat → Nat) (w : World) : ChgF f w w := ⟨[], Chg.refl _ _, by simp⟩
theorem ChgF.of {f : Nat → Nat} {w w' : World} {S : List Nat} (c : Chg S w w') (h : ∀ x ∈ S, f x ≠ 0) : ChgF f w w' := ⟨S, c, h⟩
theorem ChgF.of0 {f : Nat → Nat} {w w' : World} (c : Chg [] w w') : ChgF f w w' := ⟨[], c, by simp⟩
theorem ChgF.trans {f : Nat → Nat} {a b c : World} (h : ChgF f a b) (k : ChgF f b c) : ChgF f a c := by
  obtain ⟨S, h1, h2⟩ := h
  obtain ⟨T, k1, k2⟩ := k
  exact ⟨S ++ T, h1.trans k1 (fun x hx => List.mem_append_left _ hx) (fun x hx _ => List.mem_append_right _ hx), fun x hx => (List.mem_append.1 hx).elim (h2 x) (k2 x)⟩
theorem ChgF.size {f : Nat → Nat} {a b : World} (h : ChgF f a b) : a.heap.size ≤ b.heap.size := by obtain ⟨S, h1, _⟩ := h; exact h1.size
theorem ChgF.cell {f : Nat → Nat} {a b : World} (h : ChgF f a b) {p : Addr} {v : Value} (hv : a.cell? p = some v) (hp : f p.block = 0) : b.cell? p = some v := by
  obtain ⟨S, h1, h2⟩ := h
  exact h1.cell hv (fun hm => h2 _ hm hp)
theorem ChgF.heap {f : Nat → Nat} {a b : World} (h : ChgF f a b) {k : Nat} {o : Obj} (hv : a.heap[k]? = some o) (hp : f k = 0) : b.heap[k]? = some o := by
  obtain ⟨S, h1, h2⟩ := h
  exact h1.heap hv (fun hm => h2 _ hm hp)

/-- The counters and lists of a world. -/
structure Wc where
  ws : List Int
  gs : List Int
  ss : List Int
  got : Nat
  set : Nat
  wrote : Nat

structure WldIs (w : World) (f : Nat → Nat) (bW bQ : Nat) (v iv wv gv sv : Value) (ivs : List Value) (Z : List Zt) (p : Nat) (c : Wc) : Prop where
  hW : w.heap[bW]? = some (.cells #[.pointer (some ⟨bQ, 0, none⟩), iv, wv, gv, sv, .int .i64 (c.got : Nat), .int .i64 (c.set : Nat), .int .i64 (c.wrote : Nat)] 114 (0, 0))
  q : QueIs w bQ v (Z.map (·.e)) p
  row : w.ownsRow 0 20 1 iv ivs.length ivs
  rw_ : w.ownsRow 0 3 1 wv c.ws.length (valsOf .i64 c.ws)
  rg : w.ownsRow 0 3 1 gv c.gs.length (valsOf .i64 c.gs)
  rs : w.ownsRow 0 3 1 sv c.ss.length (valsOf .i64 c.ss)
  few : c.ws.length ≤ 1000000 ∧ c.gs.length ≤ 1000000 ∧ c.ss.length ≤ 1000000 ∧ ivs.length ≤ 4096
  zs : ∀ z ∈ Z, ZIs w f ivs z
  ap : (Z.map (·.ix)).Nodup
  f1 : f bW = 1
  f2 : f bQ = 2
  f3 : ∀ k, v.ownBlock = some k → f k = 3
  f4 : ∀ k, iv.ownBlock = some k → f k = 4
  f5 : ∀ k, wv.ownBlock = some k → f k = 5
  f6 : ∀ k, gv.ownBlock = some k → f k = 6
  f7 : ∀ k, sv.ownBlock = some k → f k = 7

theorem owns_keep {w w' : World} {base : Nat} {e : TypeId} {v : Value} {n : Nat} {xs : List Value} {S : List Nat} (h : w.ownsRow base e 1 v n xs) (c : Chg S w w') (hv : ∀ k, v.ownBlock = some k → k ∉ S) : w'.ownsRow base e 1 v n xs := by
  refine ⟨h.1, h.2.imp id ?_⟩
  rintro ⟨g, cap, cur, rfl, h1, h2, h3⟩
  exact ⟨g, cap, cur, rfl, h1, c.heap h2 (hv g rfl), h3⟩

theorem DatIs.chg {w w' : World} {f : Nat → Nat} {z : Zt} {S : List Nat} (h : DatIs w f z) (c : Chg S w w') (h1 : z.pb ∉ S) (h2 : z.g ∉ S) : DatIs w' f z := by
  obtain ⟨cur, r1, r2, r3⟩ := h.row
  exact ⟨h.val, c.heap h.pb h1, ⟨cur, c.heap r1 h2, r2, r3⟩, h.pos, h.le, h.cm, h.few, h.fp, h.fg⟩

theorem ZIs.chg {w w' : World} {f : Nat → Nat} {ivs : List Value} {z : Zt} {S : List Nat} (h : ZIs w f ivs z) (c : Chg S w w') (hS : ∀ x ∈ S, f x ≠ 8 + 2 * z.ix ∧ f x ≠ 9 + 2 * z.ix) : ZIs w' f ivs z :=
  ⟨h.wd, h.eb, h.ei, h.iv, h.kd.imp id (fun h => h.imp id (fun ⟨k1, k2, k3⟩ => ⟨k1, k2, k3.chg c (fun hm => (hS _ hm).1 k3.fp) (fun hm => (hS _ hm).2 k3.fg)⟩))⟩

/-- A world whose own blocks have not turned. -/
theorem WldIs.chg {w w' : World} {f : Nat → Nat} {bW bQ : Nat} {v iv wv gv sv : Value} {ivs : List Value} {Z : List Zt} {p : Nat} {c : Wc} {S : List Nat} (h : WldIs w f bW bQ v iv wv gv sv ivs Z p c) (k : Chg S w w') (hS : ∀ x ∈ S, f x = 0) : WldIs w' f bW bQ v iv wv gv sv ivs Z p c := by
  have no : ∀ x, f x ≠ 0 → x ∉ S := fun x hx hm => hx (hS x hm)
  exact ⟨k.heap h.hW (no _ (by rw [h.f1]; omega)), h.q.chg k (no _ (by rw [h.f2]; omega)) (fun j hj => no _ (by rw [h.f3 j hj]; omega)), owns_keep h.row k (fun j hj => no _ (by rw [h.f4 j hj]; omega)), owns_keep h.rw_ k (fun j hj => no _ (by rw [h.f5 j hj]; omega)),
    owns_keep h.rg k (fun j hj => no _ (by rw [h.f6 j hj]; omega)), owns_keep h.rs k (fun j hj => no _ (by rw [h.f7 j hj]; omega)), h.few, fun z hz => (h.zs z hz).chg k (fun x hx => by rw [hS x hx]; omega), h.ap, h.f1, h.f2, h.f3, h.f4, h.f5, h.f6, h.f7⟩

theorem WldIs.chg0 {w w' : World} {f : Nat → Nat} {bW bQ : Nat} {v iv wv gv sv : Value} {ivs : List Value} {Z : List Zt} {p : Nat} {c : Wc} (h : WldIs w f bW bQ v iv wv gv sv ivs Z p c) (k : Chg [] w w') : WldIs w' f bW bQ v iv wv gv sv ivs Z p c := h.chg k (by simp)

/-- A counter of the world's own block turns. -/
theorem WldIs.count {w w' : World} {f : Nat → Nat} {bW bQ : Nat} {v iv wv gv sv : Value} {ivs : List Value} {Z : List Zt} {p : Nat} {c : Wc} (h : WldIs w f bW bQ v iv wv gv sv ivs Z p c) (k : Chg [bW] w w') (a b d : Nat)
    (hW : w'.heap[bW]? = some (.cells #[.pointer (some ⟨bQ, 0, none⟩), iv, wv, gv, sv, .int .i64 (a : Nat), .int .i64 (b : Nat), .int .i64 (d : Nat)] 114 (0, 0))) : WldIs w' f bW bQ v iv wv gv sv ivs Z p { c with got := a, set := b, wrote := d } := by
  have no : ∀ x, f x ≠ 1 → x ∉ [bW] := fun x hx hm => hx (by rw [List.mem_singleton.1 hm]; exact h.f1)
  exact ⟨hW, h.q.chg k (no _ (by rw [h.f2]; omega)) (fun j hj => no _ (by rw [h.f3 j hj]; omega)), owns_keep h.row k (fun j hj => no _ (by rw [h.f4 j hj]; omega)), owns_keep h.rw_ k (fun j hj => no _ (by rw [h.f5 j hj]; omega)),
    owns_keep h.rg k (fun j hj => no _ (by rw [h.f6 j hj]; omega)), owns_keep h.rs k (fun j hj => no _ (by rw [h.f7 j hj]; omega)), h.few, fun z hz => (h.zs z hz).chg k (fun x hx => by rw [List.mem_singleton.1 hx, h.f1]; omega), h.ap, h.f1, h.f2, h.f3, h.f4, h.f5, h.f6, h.f7⟩

theorem WldIs.cells {w : World} {f : Nat → Nat} {bW bQ : Nat} {v iv wv gv sv : Value} {ivs : List Value} {Z : List Zt} {p : Nat} {c : Wc} (h : WldIs w f bW bQ v iv wv gv sv ivs Z p c) :
    w.cell? ⟨bW, 0, none⟩ = some (.pointer (some ⟨bQ, 0, none⟩)) ∧ w.cell? ⟨bW, 1, none⟩ = some iv ∧ w.cell? ⟨bW, 2, none⟩ = some wv ∧ w.cell? ⟨bW, 3, none⟩ = some gv ∧ w.cell? ⟨bW, 4, none⟩ = some sv ∧ w.cell? ⟨bW, 5, none⟩ = some (.int .i64 (c.got : Nat)) ∧ w.cell? ⟨bW, 6, none⟩ = some (.int .i64 (c.set : Nat)) ∧ w.cell? ⟨bW, 7, none⟩ = some (.int .i64 (c.wrote : Nat)) := by
  refine ⟨?_, ?_, ?_, ?_, ?_, ?_, ?_, ?_⟩ <;> (rw [cell_of_heap h.hW]; rfl)

/-- How many bytes a write takes, and whether it does. -/
def wrN (ws : List Int) (k : Nat) (n : Int) : Int := if ws.length ≤ k then max 0 n else if ws.getD k 0 < 0 then 0 else min (max 0 n) (ws.getD k 0)
def wrB (ws : List Int) (k : Nat) : Bool := decide (ws.length ≤ k) || decide (0 ≤ ws.getD k 0)

/-- Behind the store of a counter. -/
theorem WldIs.wroteUp {w : World} {f : Nat → Nat} {bW bQ : Nat} {v iv wv gv sv : Value} {ivs : List Value} {Z : List Zt} {p : Nat} {c : Wc} (h : WldIs w f bW bQ v iv wv gv sv ivs Z p c) :
    Chg [bW] w (w.setCell ⟨bW, 7, none⟩ (.int .i64 ((c.wrote : Int) + 1))) ∧ WldIs (w.setCell ⟨bW, 7, none⟩ (.int .i64 ((c.wrote : Int) + 1))) f bW bQ v iv wv gv sv ivs Z p { c with wrote := c.wrote + 1 } := by
  have k : Chg [bW] w (w.setCell ⟨bW, 7, none⟩ (.int .i64 ((c.wrote : Int) + 1))) := (Chg.refl [bW] w).setCell (p := ⟨bW, 7, none⟩) (Or.inl List.mem_cons_self) _
  exact ⟨k, h.count k c.got c.set (c.wrote + 1) (by rw [setCell_heap _ h.hW]; rfl)⟩

theorem WldIs.gotUp {w : World} {f : Nat → Nat} {bW bQ : Nat} {v iv wv gv sv : Value} {ivs : List Value} {Z : List Zt} {p : Nat} {c : Wc} (h : WldIs w f bW bQ v iv wv gv sv ivs Z p c) :
    Chg [bW] w (w.setCell ⟨bW, 5, none⟩ (.int .i64 ((c.got : Int) + 1))) ∧ WldIs (w.setCell ⟨bW, 5, none⟩ (.int .i64 ((c.got : Int) + 1))) f bW bQ v iv wv gv sv ivs Z p { c with got := c.got + 1 } := by
  have k : Chg [bW] w (w.setCell ⟨bW, 5, none⟩ (.int .i64 ((c.got : Int) + 1))) := (Chg.refl [bW] w).setCell (p := ⟨bW, 5, none⟩) (Or.inl List.mem_cons_self) _
  exact ⟨k, h.count k (c.got + 1) c.set c.wrote (by rw [setCell_heap _ h.hW]; rfl)⟩

theorem WldIs.setUp {w : World} {f : Nat → Nat} {bW bQ : Nat} {v iv wv gv sv : Value} {ivs : List Value} {Z : List Zt} {p : Nat} {c : Wc} (h : WldIs w f bW bQ v iv wv gv sv ivs Z p c) :
    Chg [bW] w (w.setCell ⟨bW, 6, none⟩ (.int .i64 ((c.set : Int) + 1))) ∧ WldIs (w.setCell ⟨bW, 6, none⟩ (.int .i64 ((c.set : Int) + 1))) f bW bQ v iv wv gv sv ivs Z p { c with set := c.set + 1 } := by
  have k : Chg [bW] w (w.setCell ⟨bW, 6, none⟩ (.int .i64 ((c.set : Int) + 1))) := (Chg.refl [bW] w).setCell (p := ⟨bW, 6, none⟩) (Or.inl List.mem_cons_self) _
  exact ⟨k, h.count k c.got (c.set + 1) c.wrote (by rw [setCell_heap _ h.hW]; rfl)⟩

theorem ret_wr {a a' : Int} {b b' : Bool} (h : a = a') (k : b = b') : Ending.returned (.tuple #[.int .i64 a, .bool b]) = .returned (.tuple #[.int .i64 a', .bool b']) := by rw [h, k]

set_option maxHeartbeats 4000000 in
theorem wWrite_any (f : Nat → Nat) (bW bQ : Nat) (v iv wv gv sv : Value) (ivs : List Value) (Z : List Zt) (p : Nat) (c : Wc) (n : Int) (w : World) (h : WldIs w f bW bQ v iv wv gv sv ivs Z p c) (hc : c.wrote ≤ 1000000) :
    Calls Try.prog 37 #[.pointer (some ⟨bW, 0, none⟩), .int .i64 n] w fun e w' => e = .returned (.tuple #[.int .i64 (wrN c.ws c.wrote n), .bool (wrB c.ws c.wrote)]) ∧ Chg [bW] w w' ∧ WldIs w' f bW bQ v iv wv gv sv ivs Z p { c with wrote := c.wrote + 1 } := by
  obtain ⟨x0, x1, x2, x3, x4, x5, x6, x7⟩ := h.cells
  have hfr := free_of_heap h.hW 7
  obtain ⟨ao, cw, rfl, hsrc, hown⟩ := owns_srcAt h.rw_
  have HU := Lib.hid h.wroteUp
  have hle := h.few.1
  have f1 := h.f1
  have f5 := h.f5
  by_cases hk : c.ws.length ≤ c.wrote
  · have hk' : (c.ws.length : Int) ≤ (c.wrote : Int) := by omega
    have HB : Hid (wrB c.ws c.wrote = true) := Lib.hid (by unfold wrB; simp [hk])
    have HN : Hid (wrN c.ws c.wrote n = max 0 n) := Lib.hid (by unfold wrN; rw [if_pos hk])
    clear h f5 hsrc hown f1
    go_enter Try.func37, Try.ntmps37
    go_wp2_with fail
    all_goals (go_ret2; exact ⟨ret_wr (by rw [HN.out]; omega) HB.out.symm, HU.out⟩)
  · have hk' : (c.wrote : Int) < (c.ws.length : Int) := by omega
    obtain ⟨g, off, rfl, hcell⟩ := hsrc.int (j := c.wrote) (by omega)
    have hg : f g = 5 := f5 g (hown _ rfl)
    have d1 : ¬ g = bW := fun e => by rw [e] at hg; omega
    have d2 : ¬ bW = g := fun e => d1 e.symm
    have hcell2 := HU.out.1.cell hcell (by simpa using d1)
    have HB : Hid (wrB c.ws c.wrote = decide (0 ≤ c.ws.getD c.wrote 0)) := Lib.hid (by unfold wrB; simp [hk])
    have HN : Hid (wrN c.ws c.wrote n = if c.ws.getD c.wrote 0 < 0 then 0 else min (max 0 n) (c.ws.getD c.wrote 0)) := Lib.hid (by unfold wrN; rw [if_neg hk])
    clear h f5 hsrc hown f1 hg hk
    generalize c.ws.getD c.wrote 0 = y at *
    by_cases hy : y < 0
    · have HB' : Hid (wrB c.ws c.wrote = false) := Lib.hid (by rw [HB.out]; simp; omega)
      have HN' : Hid (wrN c.ws c.wrote n = 0) := Lib.hid (by rw [HN.out, if_pos hy])
      go_enter Try.func37, Try.ntmps37
      go_wp2_with fail
      all_goals (go_ret2; exact ⟨ret_wr HN'.out.symm HB'.out.symm, HU.out⟩)
    · have HB' : Hid (wrB c.ws c.wrote = true) := Lib.hid (by rw [HB.out]; simp; omega)
      have HN' : Hid (wrN c.ws c.wrote n = min (max 0 n) y) := Lib.hid (by rw [HN.out, if_neg hy])
      go_enter Try.func37, Try.ntmps37
      go_wp2_with fail
      all_goals (go_ret2; exact ⟨ret_wr (by rw [HN'.out]; omega) HB'.out.symm, HU.out⟩)

set_option maxHeartbeats 4000000 in
theorem wGet_any (f : Nat → Nat) (bW bQ : Nat) (v iv wv gv sv : Value) (ivs : List Value) (Z : List Zt) (p : Nat) (c : Wc) (w : World) (h : WldIs w f bW bQ v iv wv gv sv ivs Z p c) (hc : c.got ≤ 1000000) :
    Calls Try.prog 36 #[.pointer (some ⟨bW, 0, none⟩)] w fun e w' => e = .returned (.bool (!decide ((c.got : Int) ∈ c.gs))) ∧ Chg [bW] w w' ∧ WldIs w' f bW bQ v iv wv gv sv ivs Z p { c with got := c.got + 1 } := by
  obtain ⟨x0, x1, x2, x3, x4, x5, x6, x7⟩ := h.cells
  have hfr := free_of_heap h.hW 5
  have HU := Lib.hid h.gotUp
  obtain ⟨ao, cw, rfl, hsrc, hown⟩ := owns_srcAt HU.out.2.rg
  have hle := h.few.2.1
  have HS := Lib.hid hsrc
  clear h hsrc hown
  go_enter Try.func36, Try.ntmps36
  go_wp2_with fail
  go_quiet ((go_at_call 58; exact quiet_same (contains_any ao _ cw c.gs c.got _ (HS.out.chg0 ((Chg.refl _ _).drewN _)) hle)))
  go_wp2_with fail
  go_ret
  exact ⟨rfl, HU.out.1.drewN _, HU.out.2.chg0 ((Chg.refl _ _).drewN _)⟩

set_option maxHeartbeats 4000000 in
theorem wSet_any (f : Nat → Nat) (bW bQ : Nat) (v iv wv gv sv : Value) (ivs : List Value) (Z : List Zt) (p : Nat) (c : Wc) (w : World) (h : WldIs w f bW bQ v iv wv gv sv ivs Z p c) (hc : c.set ≤ 1000000) :
    Calls Try.prog 34 #[.pointer (some ⟨bW, 0, none⟩)] w fun e w' => e = .returned (.bool (!decide ((c.set : Int) ∈ c.ss))) ∧ Chg [bW] w w' ∧ WldIs w' f bW bQ v iv wv gv sv ivs Z p { c with set := c.set + 1 } := by
  obtain ⟨x0, x1, x2, x3, x4, x5, x6, x7⟩ := h.cells
  have hfr := free_of_heap h.hW 6
  have HU := Lib.hid h.setUp
  obtain ⟨ao, cw, rfl, hsrc, hown⟩ := owns_srcAt HU.out.2.rs
  have hle := h.few.2.2.1
  have HS := Lib.hid hsrc
  clear h hsrc hown
  go_enter Try.func34, Try.ntmps34
  go_wp2_with fail
  go_quiet ((go_at_call 58; exact quiet_same (contains_any ao _ cw c.ss c.set _ (HS.out.chg0 ((Chg.refl _ _).drewN _)) hle)))
  go_wp2_with fail
  go_ret
  exact ⟨rfl, HU.out.1.drewN _, HU.out.2.chg0 ((Chg.refl _ _).drewN _)⟩
end Go.Proofs.Ytmcbgpjphjacjaa
