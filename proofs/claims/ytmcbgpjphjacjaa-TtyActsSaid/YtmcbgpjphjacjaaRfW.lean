/-
  Layer 16's reference: what a world of it is in memory; Write, Get, Set.
-/
import Derived.Test.YtmcbgpjphjacjaaWldO
import Derived.Test.YtmcbgpjphjacjaaRowO
import Derived.Test.YtmcbgpjphjacjaaRefK
namespace Go.Proofs.Ytmcbgpjphjacjaa
set_option linter.unusedVariables false
set_option linter.unusedSimpArgs false
set_option maxRecDepth 100000
open Go.RowKit
attribute [local go_sem] run_store_float'

def cellI (y : ItD) : List Value := [.float .f64 y.b, .int .i64 y.kind, .int .i64 y.n, .slice y.ao y.m y.cap]
def cellsI (L : List ItD) : List Value := L.flatMap cellI

theorem cellsI_cons (y : ItD) (L : List ItD) : cellsI (y :: L) = cellI y ++ cellsI L := by unfold cellsI; rw [List.flatMap_cons]
theorem cellsI_append (A B : List ItD) : cellsI (A ++ B) = cellsI A ++ cellsI B := by unfold cellsI; rw [List.flatMap_append]
theorem cellsI_length (L : List ItD) : (cellsI L).length = L.length * 4 := by
  induction L with
  | nil => rfl
  | cons x L ih => rw [cellsI_cons, List.length_append, ih]; simp [cellI]; omega

theorem cellsI_get (L : List ItD) : ∀ (k : Nat) (h : k < L.length), (cellsI L)[k * 4]? = some (.float .f64 L[k].b) ∧ (cellsI L)[k * 4 + 1]? = some (.int .i64 L[k].kind) ∧ (cellsI L)[k * 4 + 2]? = some (.int .i64 L[k].n) ∧ (cellsI L)[k * 4 + 3]? = some (.slice L[k].ao L[k].m L[k].cap) := by
  induction L with
  | nil => intro k h; simp at h
  | cons x L ih =>
    intro k hk
    rw [cellsI_cons]
    cases k with
    | zero => exact ⟨rfl, rfl, rfl, rfl⟩
    | succ k =>
      have hl : (cellI x).length = 4 := rfl
      rw [List.getElem?_append_right (by omega), List.getElem?_append_right (by omega), List.getElem?_append_right (by omega), List.getElem?_append_right (by omega), hl]
      simp only [List.getElem_cons_succ]
      rw [show (k + 1) * 4 - 4 = k * 4 by omega, show (k + 1) * 4 + 1 - 4 = k * 4 + 1 by omega, show (k + 1) * 4 + 2 - 4 = k * 4 + 2 by omega, show (k + 1) * 4 + 3 - 4 = k * 4 + 3 by omega]
      exact ih k (by simpa using hk)

def rfCells (p : PlanD) (u : Value) (a b d : Nat) : Array Value :=
  #[.int .u32 p.fl, .int .u8 p.mn, .int .u8 p.tm, .slice p.ia p.il p.ic, .slice p.wa p.wl p.wc, .slice p.ga p.gl p.gc, .slice p.sa p.sl p.sc, u, .int .i64 (a : Nat), .int .i64 (b : Nat), .int .i64 (d : Nat)]

/-- The reference's world, made since w0: what is left, how many writes, asks, settings there were. -/
structure OwnRf (w0 w : World) (bM : Nat) (u : Value) (L : List ItD) (p : PlanD) (a b d : Nat) : Prop where
  hM : w.heap[bM]? = some (.cells (rfCells p u a b d) 126 (0, 0))
  row : HasRow w 55 4 u L.length (cellsI L)
  ne : u.ownBlock ≠ some bM
  c0 : Chg [] w0 w
  pl : p.At w0
  dat : ∀ y ∈ L, BRow w0 y.ao y.m y.cap y.zs ∧ Wd y.b
  b1 : w0.heap.size ≤ bM
  b2 : ∀ k, u.ownBlock = some k → w0.heap.size ≤ k

theorem OwnRf.chg {w0 w w' : World} {bM : Nat} {u : Value} {L : List ItD} {p : PlanD} {a b d : Nat} {S : List Nat} (h : OwnRf w0 w bM u L p a b d) (c : Chg S w w') (hS : ∀ x ∈ S, w0.heap.size ≤ x) (hb : bM ∉ S) (hu : ∀ k, u.ownBlock = some k → k ∉ S) : OwnRf w0 w' bM u L p a b d :=
  ⟨c.heap h.hM hb, h.row.chg c hu, h.ne, h.c0.trans c (by simp) (fun x hx hl => absurd (hS x hx) (by omega)), h.pl, h.dat, h.b1, h.b2⟩

theorem OwnRf.chg0 {w0 w w' : World} {bM : Nat} {u : Value} {L : List ItD} {p : PlanD} {a b d : Nat} (h : OwnRf w0 w bM u L p a b d) (c : Chg [] w w') : OwnRf w0 w' bM u L p a b d := h.chg c (by simp) (by simp) (by simp)

/-- A counter turns. -/
theorem OwnRf.count {w0 w w' : World} {bM : Nat} {u : Value} {L : List ItD} {p : PlanD} {a b d : Nat} (h : OwnRf w0 w bM u L p a b d) (c : Chg [bM] w w') (a' b' d' : Nat) (hM : w'.heap[bM]? = some (.cells (rfCells p u a' b' d') 126 (0, 0))) : OwnRf w0 w' bM u L p a' b' d' :=
  ⟨hM, h.row.chg c (fun k hk hm => h.ne (by rw [hk, List.mem_singleton.1 hm])), h.ne, h.c0.trans c (by simp) (fun x hx hl => absurd h.b1 (by rw [← List.mem_singleton.1 hx]; omega)), h.pl, h.dat, h.b1, h.b2⟩

theorem OwnRf.cells {w0 w : World} {bM : Nat} {u : Value} {L : List ItD} {p : PlanD} {a b d : Nat} (h : OwnRf w0 w bM u L p a b d) :
    w.cell? ⟨bM, 4, none⟩ = some (.slice p.wa p.wl p.wc) ∧ w.cell? ⟨bM, 5, none⟩ = some (.slice p.ga p.gl p.gc) ∧ w.cell? ⟨bM, 6, none⟩ = some (.slice p.sa p.sl p.sc) ∧ w.cell? ⟨bM, 7, none⟩ = some u ∧ w.cell? ⟨bM, 8, none⟩ = some (.int .i64 (a : Nat)) ∧ w.cell? ⟨bM, 9, none⟩ = some (.int .i64 (b : Nat)) ∧ w.cell? ⟨bM, 10, none⟩ = some (.int .i64 (d : Nat)) := by
  refine ⟨?_, ?_, ?_, ?_, ?_, ?_, ?_⟩ <;> (rw [cell_of_heap h.hM]; rfl)

theorem OwnRf.up8 {w0 w : World} {bM : Nat} {u : Value} {L : List ItD} {p : PlanD} {a b d : Nat} (h : OwnRf w0 w bM u L p a b d) :
    Chg [bM] w (w.setCell ⟨bM, 8, none⟩ (.int .i64 ((a : Int) + 1))) ∧ OwnRf w0 (w.setCell ⟨bM, 8, none⟩ (.int .i64 ((a : Int) + 1))) bM u L p (a + 1) b d := by
  have k : Chg [bM] w (w.setCell ⟨bM, 8, none⟩ (.int .i64 ((a : Int) + 1))) := (Chg.refl [bM] w).setCell (p := ⟨bM, 8, none⟩) (Or.inl List.mem_cons_self) _
  exact ⟨k, h.count k (a + 1) b d (by rw [setCell_heap _ h.hM]; rfl)⟩
theorem OwnRf.up9 {w0 w : World} {bM : Nat} {u : Value} {L : List ItD} {p : PlanD} {a b d : Nat} (h : OwnRf w0 w bM u L p a b d) :
    Chg [bM] w (w.setCell ⟨bM, 9, none⟩ (.int .i64 ((b : Int) + 1))) ∧ OwnRf w0 (w.setCell ⟨bM, 9, none⟩ (.int .i64 ((b : Int) + 1))) bM u L p a (b + 1) d := by
  have k : Chg [bM] w (w.setCell ⟨bM, 9, none⟩ (.int .i64 ((b : Int) + 1))) := (Chg.refl [bM] w).setCell (p := ⟨bM, 9, none⟩) (Or.inl List.mem_cons_self) _
  exact ⟨k, h.count k a (b + 1) d (by rw [setCell_heap _ h.hM]; rfl)⟩
theorem OwnRf.up10 {w0 w : World} {bM : Nat} {u : Value} {L : List ItD} {p : PlanD} {a b d : Nat} (h : OwnRf w0 w bM u L p a b d) :
    Chg [bM] w (w.setCell ⟨bM, 10, none⟩ (.int .i64 ((d : Int) + 1))) ∧ OwnRf w0 (w.setCell ⟨bM, 10, none⟩ (.int .i64 ((d : Int) + 1))) bM u L p a b (d + 1) := by
  have k : Chg [bM] w (w.setCell ⟨bM, 10, none⟩ (.int .i64 ((d : Int) + 1))) := (Chg.refl [bM] w).setCell (p := ⟨bM, 10, none⟩) (Or.inl List.mem_cons_self) _
  exact ⟨k, h.count k a b (d + 1) (by rw [setCell_heap _ h.hM]; rfl)⟩

theorem ret_wr' {a a' : Int} {b b' : Bool} (h : a = a') (k : b = b') : Ending.returned (.tuple #[.int .i64 a, .bool b]) = .returned (.tuple #[.int .i64 a', .bool b']) := by rw [h, k]

set_option maxHeartbeats 4000000 in
theorem rWrite_any (w0 w : World) (bM : Nat) (u : Value) (L : List ItD) (p : PlanD) (a b d : Nat) (n : Int) (h : OwnRf w0 w bM u L p a b d) (hc : a ≤ 1000000) (hl : p.wl ≤ 1000000) :
    Calls Try.prog 48 #[.pointer (some ⟨bM, 0, none⟩), .int .i64 n] w fun e w' => e = .returned (.tuple #[.int .i64 (wrN (p.ws.take p.wl) a n), .bool (wrB (p.ws.take p.wl) a)]) ∧ Chg [bM] w w' ∧ OwnRf w0 w' bM u L p (a + 1) b d := by
  obtain ⟨x4, x5, x6, x7, x8, x9, x10⟩ := h.cells
  have hfr := free_of_heap h.hM 8
  have HU := Lib.hid h.up8
  have hsrc := (h.pl.ws.src).chg0 HU.out.2.c0
  have hll : (p.ws.take p.wl).length = p.wl := by have := hsrc.1; rwa [valsOf_length] at this
  by_cases hk : p.wl ≤ a
  · have hk' : (p.wl : Int) ≤ (a : Int) := by omega
    have HB : Hid (wrB (p.ws.take p.wl) a = true) := Lib.hid (by unfold wrB; rw [hll]; simp [hk])
    have HN : Hid (wrN (p.ws.take p.wl) a n = max 0 n) := Lib.hid (by unfold wrN; rw [hll, if_pos hk])
    have y4 := (HU.out.2.cells).1
    clear h hsrc hll
    go_enter Try.func48, Try.ntmps48
    go_wp2_with fail
    all_goals (go_ret2; exact ⟨ret_wr' (by rw [HN.out]; omega) HB.out.symm, HU.out⟩)
  · have hk' : (a : Int) < (p.wl : Int) := by omega
    obtain ⟨g, off, hao, hcell⟩ := hsrc.int (j := a) (by omega)
    have HB : Hid (wrB (p.ws.take p.wl) a = decide (0 ≤ (p.ws.take p.wl).getD a 0)) := Lib.hid (by unfold wrB; rw [hll]; simp [hk])
    have HN : Hid (wrN (p.ws.take p.wl) a n = if (p.ws.take p.wl).getD a 0 < 0 then 0 else min (max 0 n) ((p.ws.take p.wl).getD a 0)) := Lib.hid (by unfold wrN; rw [hll, if_neg hk])
    have y4 := (HU.out.2.cells).1
    rw [hao] at y4 x4
    have HAO := Lib.hid hao
    clear h hsrc hk hll hao
    generalize (p.ws.take p.wl).getD a 0 = y at *
    by_cases hy : y < 0
    · have HB' : Hid (wrB (p.ws.take p.wl) a = false) := Lib.hid (by rw [HB.out]; simp; omega)
      have HN' : Hid (wrN (p.ws.take p.wl) a n = 0) := Lib.hid (by rw [HN.out, if_pos hy])
      go_enter Try.func48, Try.ntmps48
      go_wp2_with fail
      all_goals (go_ret2; exact ⟨ret_wr' HN'.out.symm HB'.out.symm, HU.out⟩)
    · have HB' : Hid (wrB (p.ws.take p.wl) a = true) := Lib.hid (by rw [HB.out]; simp; omega)
      have HN' : Hid (wrN (p.ws.take p.wl) a n = min (max 0 n) y) := Lib.hid (by rw [HN.out, if_neg hy])
      go_enter Try.func48, Try.ntmps48
      go_wp2_with fail
      all_goals (go_ret2; exact ⟨ret_wr' (by rw [HN'.out]; omega) HB'.out.symm, HU.out⟩)

set_option maxHeartbeats 4000000 in
theorem rGet_any (w0 w : World) (bM : Nat) (u : Value) (L : List ItD) (p : PlanD) (a b d : Nat) (h : OwnRf w0 w bM u L p a b d) (hc : b ≤ 1000000) (hl : p.gl ≤ 1000000) :
    Calls Try.prog 45 #[.pointer (some ⟨bM, 0, none⟩)] w fun e w' => e = .returned (.bool (!decide ((b : Int) ∈ p.gs.take p.gl))) ∧ Chg [bM] w w' ∧ OwnRf w0 w' bM u L p a (b + 1) d := by
  obtain ⟨x4, x5, x6, x7, x8, x9, x10⟩ := h.cells
  have hfr := free_of_heap h.hM 9
  have HU := Lib.hid h.up9
  have HS := Lib.hid ((h.pl.gs.src).chg0 HU.out.2.c0)
  have y5 := (HU.out.2.cells).2.1
  clear h
  go_enter Try.func45, Try.ntmps45
  go_wp2_with fail
  go_quiet ((go_at_call 65; exact quiet_same (among_any p.ga _ p.gc (p.gs.take p.gl) b _ (HS.out.chg0 ((Chg.refl _ _).drewN _)) hl)))
  go_wp2_with fail
  go_ret
  exact ⟨rfl, HU.out.1.drewN _, HU.out.2.chg0 ((Chg.refl _ _).drewN _)⟩

set_option maxHeartbeats 4000000 in
theorem rSet_any (w0 w : World) (bM : Nat) (u : Value) (L : List ItD) (p : PlanD) (a b d : Nat) (h : OwnRf w0 w bM u L p a b d) (hc : d ≤ 1000000) (hl : p.sl ≤ 1000000) :
    Calls Try.prog 47 #[.pointer (some ⟨bM, 0, none⟩)] w fun e w' => e = .returned (.bool (!decide ((d : Int) ∈ p.ss.take p.sl))) ∧ Chg [bM] w w' ∧ OwnRf w0 w' bM u L p a b (d + 1) := by
  obtain ⟨x4, x5, x6, x7, x8, x9, x10⟩ := h.cells
  have hfr := free_of_heap h.hM 10
  have HU := Lib.hid h.up10
  have HS := Lib.hid ((h.pl.ss.src).chg0 HU.out.2.c0)
  have y6 := (HU.out.2.cells).2.2.1
  clear h
  go_enter Try.func47, Try.ntmps47
  go_wp2_with fail
  go_quiet ((go_at_call 65; exact quiet_same (among_any p.sa _ p.sc (p.ss.take p.sl) d _ (HS.out.chg0 ((Chg.refl _ _).drewN _)) hl)))
  go_wp2_with fail
  go_ret
  exact ⟨rfl, HU.out.1.drewN _, HU.out.2.chg0 ((Chg.refl _ _).drewN _)⟩
end Go.Proofs.Ytmcbgpjphjacjaa
