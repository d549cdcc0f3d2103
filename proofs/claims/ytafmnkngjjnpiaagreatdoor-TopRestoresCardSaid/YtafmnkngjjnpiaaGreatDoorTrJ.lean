import Derived.Test.YtafmnkngjjnpiaaGreatDoorTtyX
import Derived.Test.YtafmnkngjjnpiaaGreatDoorTqV
import Derived.Test.YtafmnkngjjnpiaaGreatDoorTtyD
import Derived.Test.YtafmnkngjjnpiaaGreatDoorTrF
import Derived.Test.YtafmnkngjjnpiaaGreatDoorTrG
import Derived.Laws.StructEq
import Derived.Lib.Bytes
namespace Go.Proofs.YtafmnkngjjnpiaaGreatDoor
set_option linter.unusedVariables false
set_option linter.unusedSimpArgs false
set_option maxRecDepth 100000
open Go.RowKit
attribute [local go_sem] run_store_float'
set_option maxHeartbeats 8000000 in
theorem right_great (p : PlanD) (s : ByteArray) (mode room : Int) (w : World) (v2 v3 : Int)
    (h1 : ∀ W, Chg [] w W → Calls Tryz.prog 56 #[.agg p.cells, .agg #[.string s, .int .i64 mode, .int .i64 room], .slice none 0 0] W fun e w' => e = .returned (.int .i64 1) ∧ Chg [] W w')
    (h2 : ∀ W, Chg [] w W → Calls Tryz.prog 57 #[.agg p.cells] W fun e w' => e = .returned (.int .i64 v2) ∧ Chg [] W w')
    (h3 : ∀ W, Chg [] w W → Calls Tryz.prog 38 #[.agg #[.string s, .int .i64 mode, .int .i64 room]] W fun e w' => e = .returned (.int .i64 v3) ∧ Chg [] W w') :
    Calls Tryz.prog 27 #[.agg p.cells, .agg #[.string s, .int .i64 mode, .int .i64 room]] w fun e w' => e = .returned (.bool false) ∧ Chg [] w w' := by
  have H1 := Lib.hid h1
  have H2 := Lib.hid h2
  have H3 := Lib.hid h3
  obtain ⟨fl, mn, tm, ia, il, ic, its, wa, wl, wc, ws, ga, gl, gc, gs, sa, sl, sc, ss⟩ := p
  clear h1 h2 h3
  unfold PlanD.cells at H1 H2 ⊢
  dsimp only at H1 H2 ⊢
  have CB : Chg [] w ((w.alloc (.cells #[.int .u32 fl, .int .u8 mn, .int .u8 tm, .slice ia il ic, .slice wa wl wc, .slice ga gl gc, .slice sa sl sc] 74)).alloc (.cells #[.string s, .int .i64 mode, .int .i64 room] 76)) := ((Chg.refl _ _).alloc _).alloc _
  have HB := Lib.hid (And.intro (alloc_keeps (o := .cells #[.string s, .int .i64 mode, .int .i64 room] 76) (alloc_heap w (.cells #[.int .u32 fl, .int .u8 mn, .int .u8 tm, .slice ia il ic, .slice wa wl wc, .slice ga gl gc, .slice sa sl sc] 74))) (alloc2_heap w (.cells #[.int .u32 fl, .int .u8 mn, .int .u8 tm, .slice ia il ic, .slice wa wl wc, .slice ga gl gc, .slice sa sl sc] 74) (.cells #[.string s, .int .i64 mode, .int .i64 room] 76)))
  go_enter Tryz.func27, Tryz.ntmps27
  go_upto_region 1 with (fail)
  generalize World.alloc _ _ = w1 at *
  have D1 := Lib.hid (And.intro CB HB.out)
  clear HB CB
  have p0 : w1.cell? ⟨w.heap.size, 0, none⟩ = some (.int .u32 fl) := by rw [cell_of_heap D1.out.2.1]; rfl
  have p1 : w1.cell? ⟨w.heap.size, 1, none⟩ = some (.int .u8 mn) := by rw [cell_of_heap D1.out.2.1]; rfl
  have p2 : w1.cell? ⟨w.heap.size, 2, none⟩ = some (.int .u8 tm) := by rw [cell_of_heap D1.out.2.1]; rfl
  have p3 : w1.cell? ⟨w.heap.size, 3, none⟩ = some (.slice ia il ic) := by rw [cell_of_heap D1.out.2.1]; rfl
  have p4 : w1.cell? ⟨w.heap.size, 4, none⟩ = some (.slice wa wl wc) := by rw [cell_of_heap D1.out.2.1]; rfl
  have p5 : w1.cell? ⟨w.heap.size, 5, none⟩ = some (.slice ga gl gc) := by rw [cell_of_heap D1.out.2.1]; rfl
  have p6 : w1.cell? ⟨w.heap.size, 6, none⟩ = some (.slice sa sl sc) := by rw [cell_of_heap D1.out.2.1]; rfl
  have q0 : w1.cell? ⟨w.heap.size + 1, 0, none⟩ = some (.string s) := by rw [cell_of_heap D1.out.2.2]; rfl
  have q1 : w1.cell? ⟨w.heap.size + 1, 1, none⟩ = some (.int .i64 mode) := by rw [cell_of_heap D1.out.2.2]; rfl
  have q2 : w1.cell? ⟨w.heap.size + 1, 2, none⟩ = some (.int .i64 room) := by rw [cell_of_heap D1.out.2.2]; rfl
  go_wp2_with fail
  refine (H1.out _ D1.out.1).mono ?_
  rintro e w2 ⟨rfl, C⟩
  have D2 := Lib.hid (And.intro (D1.out.1.trans C (U := []) (by simp) (by simp)) (And.intro (C.heap D1.out.2.1 (by simp)) (C.heap D1.out.2.2 (by simp))))
  clear D1 C p0 p1 p2 p3 p4 p5 p6 q0 q1 q2
  go_wp2_with fail
  go_ret
  exact ⟨rfl, D2.out.1⟩
set_option maxHeartbeats 8000000 in
theorem right_plan (p : PlanD) (s : ByteArray) (mode room : Int) (w : World) (v2 v3 : Int) (hv : v2 ≠ 0)
    (h1 : ∀ W, Chg [] w W → Calls Tryz.prog 56 #[.agg p.cells, .agg #[.string s, .int .i64 mode, .int .i64 room], .slice none 0 0] W fun e w' => e = .returned (.int .i64 0) ∧ Chg [] W w')
    (h2 : ∀ W, Chg [] w W → Calls Tryz.prog 57 #[.agg p.cells] W fun e w' => e = .returned (.int .i64 v2) ∧ Chg [] W w')
    (h3 : ∀ W, Chg [] w W → Calls Tryz.prog 38 #[.agg #[.string s, .int .i64 mode, .int .i64 room]] W fun e w' => e = .returned (.int .i64 v3) ∧ Chg [] W w') :
    Calls Tryz.prog 27 #[.agg p.cells, .agg #[.string s, .int .i64 mode, .int .i64 room]] w fun e w' => e = .returned (.bool false) ∧ Chg [] w w' := by
  have H1 := Lib.hid h1
  have H2 := Lib.hid h2
  have H3 := Lib.hid h3
  obtain ⟨fl, mn, tm, ia, il, ic, its, wa, wl, wc, ws, ga, gl, gc, gs, sa, sl, sc, ss⟩ := p
  clear h1 h2 h3
  unfold PlanD.cells at H1 H2 ⊢
  dsimp only at H1 H2 ⊢
  have CB : Chg [] w ((w.alloc (.cells #[.int .u32 fl, .int .u8 mn, .int .u8 tm, .slice ia il ic, .slice wa wl wc, .slice ga gl gc, .slice sa sl sc] 74)).alloc (.cells #[.string s, .int .i64 mode, .int .i64 room] 76)) := ((Chg.refl _ _).alloc _).alloc _
  have HB := Lib.hid (And.intro (alloc_keeps (o := .cells #[.string s, .int .i64 mode, .int .i64 room] 76) (alloc_heap w (.cells #[.int .u32 fl, .int .u8 mn, .int .u8 tm, .slice ia il ic, .slice wa wl wc, .slice ga gl gc, .slice sa sl sc] 74))) (alloc2_heap w (.cells #[.int .u32 fl, .int .u8 mn, .int .u8 tm, .slice ia il ic, .slice wa wl wc, .slice ga gl gc, .slice sa sl sc] 74) (.cells #[.string s, .int .i64 mode, .int .i64 room] 76)))
  have e2 : (v2 == 0) = false := beq_eq_false_iff_ne.2 hv
  clear hv
  go_enter Tryz.func27, Tryz.ntmps27
  go_upto_region 1 with (fail)
  generalize World.alloc _ _ = w1 at *
  have D1 := Lib.hid (And.intro CB HB.out)
  clear HB CB
  have p0 : w1.cell? ⟨w.heap.size, 0, none⟩ = some (.int .u32 fl) := by rw [cell_of_heap D1.out.2.1]; rfl
  have p1 : w1.cell? ⟨w.heap.size, 1, none⟩ = some (.int .u8 mn) := by rw [cell_of_heap D1.out.2.1]; rfl
  have p2 : w1.cell? ⟨w.heap.size, 2, none⟩ = some (.int .u8 tm) := by rw [cell_of_heap D1.out.2.1]; rfl
  have p3 : w1.cell? ⟨w.heap.size, 3, none⟩ = some (.slice ia il ic) := by rw [cell_of_heap D1.out.2.1]; rfl
  have p4 : w1.cell? ⟨w.heap.size, 4, none⟩ = some (.slice wa wl wc) := by rw [cell_of_heap D1.out.2.1]; rfl
  have p5 : w1.cell? ⟨w.heap.size, 5, none⟩ = some (.slice ga gl gc) := by rw [cell_of_heap D1.out.2.1]; rfl
  have p6 : w1.cell? ⟨w.heap.size, 6, none⟩ = some (.slice sa sl sc) := by rw [cell_of_heap D1.out.2.1]; rfl
  have q0 : w1.cell? ⟨w.heap.size + 1, 0, none⟩ = some (.string s) := by rw [cell_of_heap D1.out.2.2]; rfl
  have q1 : w1.cell? ⟨w.heap.size + 1, 1, none⟩ = some (.int .i64 mode) := by rw [cell_of_heap D1.out.2.2]; rfl
  have q2 : w1.cell? ⟨w.heap.size + 1, 2, none⟩ = some (.int .i64 room) := by rw [cell_of_heap D1.out.2.2]; rfl
  go_wp2_with fail
  refine (H1.out _ D1.out.1).mono ?_
  rintro e w2 ⟨rfl, C⟩
  have D2 := Lib.hid (And.intro (D1.out.1.trans C (U := []) (by simp) (by simp)) (And.intro (C.heap D1.out.2.1 (by simp)) (C.heap D1.out.2.2 (by simp))))
  clear D1 C p0 p1 p2 p3 p4 p5 p6 q0 q1 q2
  have p0 : w2.cell? ⟨w.heap.size, 0, none⟩ = some (.int .u32 fl) := by rw [cell_of_heap D2.out.2.1]; rfl
  have p1 : w2.cell? ⟨w.heap.size, 1, none⟩ = some (.int .u8 mn) := by rw [cell_of_heap D2.out.2.1]; rfl
  have p2 : w2.cell? ⟨w.heap.size, 2, none⟩ = some (.int .u8 tm) := by rw [cell_of_heap D2.out.2.1]; rfl
  have p3 : w2.cell? ⟨w.heap.size, 3, none⟩ = some (.slice ia il ic) := by rw [cell_of_heap D2.out.2.1]; rfl
  have p4 : w2.cell? ⟨w.heap.size, 4, none⟩ = some (.slice wa wl wc) := by rw [cell_of_heap D2.out.2.1]; rfl
  have p5 : w2.cell? ⟨w.heap.size, 5, none⟩ = some (.slice ga gl gc) := by rw [cell_of_heap D2.out.2.1]; rfl
  have p6 : w2.cell? ⟨w.heap.size, 6, none⟩ = some (.slice sa sl sc) := by rw [cell_of_heap D2.out.2.1]; rfl
  go_wp2_with fail
  refine (H2.out _ D2.out.1).mono ?_
  rintro e w3 ⟨rfl, C⟩
  have D3 := Lib.hid (And.intro (D2.out.1.trans C (U := []) (by simp) (by simp)) (And.intro (C.heap D2.out.2.1 (by simp)) (C.heap D2.out.2.2 (by simp))))
  clear D2 C p0 p1 p2 p3 p4 p5 p6
  go_wp2_with fail
  go_ret
  exact ⟨rfl, D3.out.1⟩
set_option maxHeartbeats 8000000 in
theorem right_ask (p : PlanD) (s : ByteArray) (mode room : Int) (w : World) (v3 : Int) (hv : v3 ≠ 0)
    (h1 : ∀ W, Chg [] w W → Calls Tryz.prog 56 #[.agg p.cells, .agg #[.string s, .int .i64 mode, .int .i64 room], .slice none 0 0] W fun e w' => e = .returned (.int .i64 0) ∧ Chg [] W w')
    (h2 : ∀ W, Chg [] w W → Calls Tryz.prog 57 #[.agg p.cells] W fun e w' => e = .returned (.int .i64 0) ∧ Chg [] W w')
    (h3 : ∀ W, Chg [] w W → Calls Tryz.prog 38 #[.agg #[.string s, .int .i64 mode, .int .i64 room]] W fun e w' => e = .returned (.int .i64 v3) ∧ Chg [] W w') :
    Calls Tryz.prog 27 #[.agg p.cells, .agg #[.string s, .int .i64 mode, .int .i64 room]] w fun e w' => e = .returned (.bool false) ∧ Chg [] w w' := by
  have H1 := Lib.hid h1
  have H2 := Lib.hid h2
  have H3 := Lib.hid h3
  obtain ⟨fl, mn, tm, ia, il, ic, its, wa, wl, wc, ws, ga, gl, gc, gs, sa, sl, sc, ss⟩ := p
  clear h1 h2 h3
  unfold PlanD.cells at H1 H2 ⊢
  dsimp only at H1 H2 ⊢
  have CB : Chg [] w ((w.alloc (.cells #[.int .u32 fl, .int .u8 mn, .int .u8 tm, .slice ia il ic, .slice wa wl wc, .slice ga gl gc, .slice sa sl sc] 74)).alloc (.cells #[.string s, .int .i64 mode, .int .i64 room] 76)) := ((Chg.refl _ _).alloc _).alloc _
  have HB := Lib.hid (And.intro (alloc_keeps (o := .cells #[.string s, .int .i64 mode, .int .i64 room] 76) (alloc_heap w (.cells #[.int .u32 fl, .int .u8 mn, .int .u8 tm, .slice ia il ic, .slice wa wl wc, .slice ga gl gc, .slice sa sl sc] 74))) (alloc2_heap w (.cells #[.int .u32 fl, .int .u8 mn, .int .u8 tm, .slice ia il ic, .slice wa wl wc, .slice ga gl gc, .slice sa sl sc] 74) (.cells #[.string s, .int .i64 mode, .int .i64 room] 76)))
  have e3 : (v3 == 0) = false := beq_eq_false_iff_ne.2 hv
  clear hv
  go_enter Tryz.func27, Tryz.ntmps27
  go_upto_region 1 with (fail)
  generalize World.alloc _ _ = w1 at *
  have D1 := Lib.hid (And.intro CB HB.out)
  clear HB CB
  have p0 : w1.cell? ⟨w.heap.size, 0, none⟩ = some (.int .u32 fl) := by rw [cell_of_heap D1.out.2.1]; rfl
  have p1 : w1.cell? ⟨w.heap.size, 1, none⟩ = some (.int .u8 mn) := by rw [cell_of_heap D1.out.2.1]; rfl
  have p2 : w1.cell? ⟨w.heap.size, 2, none⟩ = some (.int .u8 tm) := by rw [cell_of_heap D1.out.2.1]; rfl
  have p3 : w1.cell? ⟨w.heap.size, 3, none⟩ = some (.slice ia il ic) := by rw [cell_of_heap D1.out.2.1]; rfl
  have p4 : w1.cell? ⟨w.heap.size, 4, none⟩ = some (.slice wa wl wc) := by rw [cell_of_heap D1.out.2.1]; rfl
  have p5 : w1.cell? ⟨w.heap.size, 5, none⟩ = some (.slice ga gl gc) := by rw [cell_of_heap D1.out.2.1]; rfl
  have p6 : w1.cell? ⟨w.heap.size, 6, none⟩ = some (.slice sa sl sc) := by rw [cell_of_heap D1.out.2.1]; rfl
  have q0 : w1.cell? ⟨w.heap.size + 1, 0, none⟩ = some (.string s) := by rw [cell_of_heap D1.out.2.2]; rfl
  have q1 : w1.cell? ⟨w.heap.size + 1, 1, none⟩ = some (.int .i64 mode) := by rw [cell_of_heap D1.out.2.2]; rfl
  have q2 : w1.cell? ⟨w.heap.size + 1, 2, none⟩ = some (.int .i64 room) := by rw [cell_of_heap D1.out.2.2]; rfl
  go_wp2_with fail
  refine (H1.out _ D1.out.1).mono ?_
  rintro e w2 ⟨rfl, C⟩
  have D2 := Lib.hid (And.intro (D1.out.1.trans C (U := []) (by simp) (by simp)) (And.intro (C.heap D1.out.2.1 (by simp)) (C.heap D1.out.2.2 (by simp))))
  clear D1 C p0 p1 p2 p3 p4 p5 p6 q0 q1 q2
  have p0 : w2.cell? ⟨w.heap.size, 0, none⟩ = some (.int .u32 fl) := by rw [cell_of_heap D2.out.2.1]; rfl
  have p1 : w2.cell? ⟨w.heap.size, 1, none⟩ = some (.int .u8 mn) := by rw [cell_of_heap D2.out.2.1]; rfl
  have p2 : w2.cell? ⟨w.heap.size, 2, none⟩ = some (.int .u8 tm) := by rw [cell_of_heap D2.out.2.1]; rfl
  have p3 : w2.cell? ⟨w.heap.size, 3, none⟩ = some (.slice ia il ic) := by rw [cell_of_heap D2.out.2.1]; rfl
  have p4 : w2.cell? ⟨w.heap.size, 4, none⟩ = some (.slice wa wl wc) := by rw [cell_of_heap D2.out.2.1]; rfl
  have p5 : w2.cell? ⟨w.heap.size, 5, none⟩ = some (.slice ga gl gc) := by rw [cell_of_heap D2.out.2.1]; rfl
  have p6 : w2.cell? ⟨w.heap.size, 6, none⟩ = some (.slice sa sl sc) := by rw [cell_of_heap D2.out.2.1]; rfl
  go_wp2_with fail
  refine (H2.out _ D2.out.1).mono ?_
  rintro e w3 ⟨rfl, C⟩
  have D3 := Lib.hid (And.intro (D2.out.1.trans C (U := []) (by simp) (by simp)) (And.intro (C.heap D2.out.2.1 (by simp)) (C.heap D2.out.2.2 (by simp))))
  clear D2 C p0 p1 p2 p3 p4 p5 p6
  have q0 : w3.cell? ⟨w.heap.size + 1, 0, none⟩ = some (.string s) := by rw [cell_of_heap D3.out.2.2]; rfl
  have q1 : w3.cell? ⟨w.heap.size + 1, 1, none⟩ = some (.int .i64 mode) := by rw [cell_of_heap D3.out.2.2]; rfl
  have q2 : w3.cell? ⟨w.heap.size + 1, 2, none⟩ = some (.int .i64 room) := by rw [cell_of_heap D3.out.2.2]; rfl
  go_wp2_with fail
  refine (H3.out _ D3.out.1).mono ?_
  rintro e w4 ⟨rfl, C⟩
  have D4 := Lib.hid (And.intro (D3.out.1.trans C (U := []) (by simp) (by simp)) (And.intro (C.heap D3.out.2.1 (by simp)) (C.heap D3.out.2.2 (by simp))))
  clear D3 C q0 q1 q2
  go_wp2_with fail
  go_ret
  exact ⟨rfl, D4.out.1⟩
set_option maxHeartbeats 8000000 in
theorem right_all (p : PlanD) (s : ByteArray) (mode room : Int) (w : World) 
    (h1 : ∀ W, Chg [] w W → Calls Tryz.prog 56 #[.agg p.cells, .agg #[.string s, .int .i64 mode, .int .i64 room], .slice none 0 0] W fun e w' => e = .returned (.int .i64 0) ∧ Chg [] W w')
    (h2 : ∀ W, Chg [] w W → Calls Tryz.prog 57 #[.agg p.cells] W fun e w' => e = .returned (.int .i64 0) ∧ Chg [] W w')
    (h3 : ∀ W, Chg [] w W → Calls Tryz.prog 38 #[.agg #[.string s, .int .i64 mode, .int .i64 room]] W fun e w' => e = .returned (.int .i64 0) ∧ Chg [] W w') :
    Calls Tryz.prog 27 #[.agg p.cells, .agg #[.string s, .int .i64 mode, .int .i64 room]] w fun e w' => e = .returned (.bool true) ∧ Chg [] w w' := by
  have H1 := Lib.hid h1
  have H2 := Lib.hid h2
  have H3 := Lib.hid h3
  obtain ⟨fl, mn, tm, ia, il, ic, its, wa, wl, wc, ws, ga, gl, gc, gs, sa, sl, sc, ss⟩ := p
  clear h1 h2 h3
  unfold PlanD.cells at H1 H2 ⊢
  dsimp only at H1 H2 ⊢
  have CB : Chg [] w ((w.alloc (.cells #[.int .u32 fl, .int .u8 mn, .int .u8 tm, .slice ia il ic, .slice wa wl wc, .slice ga gl gc, .slice sa sl sc] 74)).alloc (.cells #[.string s, .int .i64 mode, .int .i64 room] 76)) := ((Chg.refl _ _).alloc _).alloc _
  have HB := Lib.hid (And.intro (alloc_keeps (o := .cells #[.string s, .int .i64 mode, .int .i64 room] 76) (alloc_heap w (.cells #[.int .u32 fl, .int .u8 mn, .int .u8 tm, .slice ia il ic, .slice wa wl wc, .slice ga gl gc, .slice sa sl sc] 74))) (alloc2_heap w (.cells #[.int .u32 fl, .int .u8 mn, .int .u8 tm, .slice ia il ic, .slice wa wl wc, .slice ga gl gc, .slice sa sl sc] 74) (.cells #[.string s, .int .i64 mode, .int .i64 room] 76)))
  go_enter Tryz.func27, Tryz.ntmps27
  go_upto_region 1 with (fail)
  generalize World.alloc _ _ = w1 at *
  have D1 := Lib.hid (And.intro CB HB.out)
  clear HB CB
  have p0 : w1.cell? ⟨w.heap.size, 0, none⟩ = some (.int .u32 fl) := by rw [cell_of_heap D1.out.2.1]; rfl
  have p1 : w1.cell? ⟨w.heap.size, 1, none⟩ = some (.int .u8 mn) := by rw [cell_of_heap D1.out.2.1]; rfl
  have p2 : w1.cell? ⟨w.heap.size, 2, none⟩ = some (.int .u8 tm) := by rw [cell_of_heap D1.out.2.1]; rfl
  have p3 : w1.cell? ⟨w.heap.size, 3, none⟩ = some (.slice ia il ic) := by rw [cell_of_heap D1.out.2.1]; rfl
  have p4 : w1.cell? ⟨w.heap.size, 4, none⟩ = some (.slice wa wl wc) := by rw [cell_of_heap D1.out.2.1]; rfl
  have p5 : w1.cell? ⟨w.heap.size, 5, none⟩ = some (.slice ga gl gc) := by rw [cell_of_heap D1.out.2.1]; rfl
  have p6 : w1.cell? ⟨w.heap.size, 6, none⟩ = some (.slice sa sl sc) := by rw [cell_of_heap D1.out.2.1]; rfl
  have q0 : w1.cell? ⟨w.heap.size + 1, 0, none⟩ = some (.string s) := by rw [cell_of_heap D1.out.2.2]; rfl
  have q1 : w1.cell? ⟨w.heap.size + 1, 1, none⟩ = some (.int .i64 mode) := by rw [cell_of_heap D1.out.2.2]; rfl
  have q2 : w1.cell? ⟨w.heap.size + 1, 2, none⟩ = some (.int .i64 room) := by rw [cell_of_heap D1.out.2.2]; rfl
  go_wp2_with fail
  refine (H1.out _ D1.out.1).mono ?_
  rintro e w2 ⟨rfl, C⟩
  have D2 := Lib.hid (And.intro (D1.out.1.trans C (U := []) (by simp) (by simp)) (And.intro (C.heap D1.out.2.1 (by simp)) (C.heap D1.out.2.2 (by simp))))
  clear D1 C p0 p1 p2 p3 p4 p5 p6 q0 q1 q2
  have p0 : w2.cell? ⟨w.heap.size, 0, none⟩ = some (.int .u32 fl) := by rw [cell_of_heap D2.out.2.1]; rfl
  have p1 : w2.cell? ⟨w.heap.size, 1, none⟩ = some (.int .u8 mn) := by rw [cell_of_heap D2.out.2.1]; rfl
  have p2 : w2.cell? ⟨w.heap.size, 2, none⟩ = some (.int .u8 tm) := by rw [cell_of_heap D2.out.2.1]; rfl
  have p3 : w2.cell? ⟨w.heap.size, 3, none⟩ = some (.slice ia il ic) := by rw [cell_of_heap D2.out.2.1]; rfl
  have p4 : w2.cell? ⟨w.heap.size, 4, none⟩ = some (.slice wa wl wc) := by rw [cell_of_heap D2.out.2.1]; rfl
  have p5 : w2.cell? ⟨w.heap.size, 5, none⟩ = some (.slice ga gl gc) := by rw [cell_of_heap D2.out.2.1]; rfl
  have p6 : w2.cell? ⟨w.heap.size, 6, none⟩ = some (.slice sa sl sc) := by rw [cell_of_heap D2.out.2.1]; rfl
  go_wp2_with fail
  refine (H2.out _ D2.out.1).mono ?_
  rintro e w3 ⟨rfl, C⟩
  have D3 := Lib.hid (And.intro (D2.out.1.trans C (U := []) (by simp) (by simp)) (And.intro (C.heap D2.out.2.1 (by simp)) (C.heap D2.out.2.2 (by simp))))
  clear D2 C p0 p1 p2 p3 p4 p5 p6
  have q0 : w3.cell? ⟨w.heap.size + 1, 0, none⟩ = some (.string s) := by rw [cell_of_heap D3.out.2.2]; rfl
  have q1 : w3.cell? ⟨w.heap.size + 1, 1, none⟩ = some (.int .i64 mode) := by rw [cell_of_heap D3.out.2.2]; rfl
  have q2 : w3.cell? ⟨w.heap.size + 1, 2, none⟩ = some (.int .i64 room) := by rw [cell_of_heap D3.out.2.2]; rfl
  go_wp2_with fail
  refine (H3.out _ D3.out.1).mono ?_
  rintro e w4 ⟨rfl, C⟩
  have D4 := Lib.hid (And.intro (D3.out.1.trans C (U := []) (by simp) (by simp)) (And.intro (C.heap D3.out.2.1 (by simp)) (C.heap D3.out.2.2 (by simp))))
  clear D3 C q0 q1 q2
  go_wp2_with fail
  go_ret
  exact ⟨rfl, D4.out.1⟩
def rightB (p : PlanD) (s : ByteArray) (mode room : Int) : Bool := decide (great18 p s = 0) && decide (p.chk = 0) && decide (askR s mode room = 0)
theorem great18_01 (p : PlanD) (s : ByteArray) : great18 p s = 0 ∨ great18 p s = 1 := by unfold great18; split <;> simp
theorem rightW_any (p : PlanD) (s : ByteArray) (mode room : Int) (w : World) (h : p.At w) (hm : ∀ y ∈ p.its, y.m ≤ reachBytes) (hr : p.wl ≤ reachBytes ∧ p.gl ≤ reachBytes ∧ p.sl ≤ reachBytes) (hs : s.size ≤ 140737488355328) :
    Calls Tryz.prog 27 #[.agg p.cells, .agg #[.string s, .int .i64 mode, .int .i64 room]] w fun e w' => e = .returned (.bool (rightB p s mode room)) ∧ Chg [] w w' := by
  have h1 := fun W (c : Chg [] w W) => great18_any p s mode room W (h.chg c) hm hr
  have h2 := fun W (c : Chg [] w W) => refCheck_any p W (h.chg c)
  have h3 := fun W (c : Chg [] w W) => askR_any s mode room W hs
  unfold rightB
  rcases great18_01 p s with e1 | e1
  · rw [e1] at h1 ⊢
    by_cases e2 : p.chk = 0
    · rw [e2] at h2 ⊢
      by_cases e3 : askR s mode room = 0
      · rw [e3] at h3 ⊢
        exact right_all p s mode room w h1 h2 h3
      · rw [decide_eq_false e3]
        exact right_ask p s mode room w _ e3 h1 h2 h3
    · rw [decide_eq_false e2, Bool.and_false, Bool.false_and]
      exact right_plan p s mode room w _ _ e2 h1 h2 h3
  · rw [e1] at h1 ⊢
    exact right_great p s mode room w _ _ h1 h2 h3
structure RightOk (p : PlanD) (s : ByteArray) (mode : Int) : Prop where
  c : p.chk = 0
  a : ∀ n : Nat, AskOk s mode (n : Nat)
  il : p.il ≤ 300
  sum : p.wl + p.gl + p.sl + sumL p.its ≤ 4000
theorem rightB_ok {p : PlanD} {s : ByteArray} {mode room : Int} (h : rightB p s mode room = true) : RightOk p s mode := by
  unfold rightB at h
  rw [Bool.and_eq_true, Bool.and_eq_true] at h
  have h1 := of_decide_eq_true h.1.1
  have h2 := of_decide_eq_true h.1.2
  have h3 := of_decide_eq_true h.2
  have hg : greatV p = 0 := by
    unfold great18 at h1
    split at h1
    · cases h1
    · rename_i g
      rcases greatV_01 p with h | h
      · exact h
      · exact absurd (Or.inl h) g
  have := greatV_sum hg
  unfold greatN at this
  exact ⟨h2, askR_ok h3, this.1, this.2⟩
end Go.Proofs.YtafmnkngjjnpiaaGreatDoor

namespace Go.Proofs.YtafmnkngjjnpiaaGreatDoor
set_option maxRecDepth 100000
set_option linter.unusedVariables false
set_option linter.unusedSimpArgs false
def datP (y : Pl) : List Int := y.2.2.2.2.1
def okE (y : Pl) : Bool := y.2.2.2.2.2.2
def isW (v : List Int) (y : Pl) : Bool := decide (y.1 = 2) && decide (strOfNums (datP y) = strOfNums v)
def cntE (v : List Int) (E : List Pl) : Nat := (E.filter (isW v)).length
theorem cntE_append (v : List Int) (A B : List Pl) : cntE v (A ++ B) = cntE v A + cntE v B := by unfold cntE; rw [List.filter_append, List.length_append]
theorem cntE_cons (v : List Int) (y : Pl) (B : List Pl) : cntE v (y :: B) = (if isW v y = true then 1 else 0) + cntE v B := by
  unfold cntE
  rw [List.filter_cons]
  split
  · rw [List.length_cons]; omega
  · omega
theorem cntE_no {v : List Int} {B : List Pl} (h : ∀ y ∈ B, isW v y = false) : cntE v B = 0 := by
  unfold cntE
  rw [List.length_eq_zero_iff, List.filter_eq_nil_iff]
  intro y hy
  rw [h y hy]
  decide
def Mid (y : Pl) : Prop := isW startV y = false ∧ isW stopV y = false
def Ext (t t' : Pt) : Prop := ∃ D, t'.E = t.E ++ D ∧ (∀ y ∈ D, Mid y) ∧ t'.A = t.A
theorem Ext.refl (t : Pt) : Ext t t := ⟨[], by rw [List.append_nil], (by intro y hy; cases hy), rfl⟩
theorem Ext.trans {a b c : Pt} (h : Ext a b) (k : Ext b c) : Ext a c := by
  obtain ⟨D, e, m, a1⟩ := h
  obtain ⟨F, f, n, a2⟩ := k
  refine ⟨D ++ F, by rw [f, e, List.append_assoc], fun y hy => ?_, a2.trans a1⟩
  rcases List.mem_append.1 hy with hy | hy
  · exact m y hy
  · exact n y hy
theorem Ext.cnt {a b : Pt} (h : Ext a b) : cntE startV b.E = cntE startV a.E ∧ cntE stopV b.E = cntE stopV a.E := by
  obtain ⟨D, e, m, _⟩ := h
  rw [e, cntE_append, cntE_append, cntE_no (fun y hy => (m y hy).1), cntE_no (fun y hy => (m y hy).2)]
  exact ⟨rfl, rfl⟩
theorem writeP_ext : ∀ (f : Nat) (t : Pt) (b : List Int), ∃ D, (writeP f t b).2.E = t.E ++ D ∧ (∀ y ∈ D, y.1 = 2 ∧ ∃ k, k < b.length ∧ datP y = b.drop k) ∧ (writeP f t b).2.A = t.A
  | 0, t, b => ⟨[], by unfold writeP; rw [List.append_nil], (by intro y hy; cases hy), rfl⟩
  | f + 1, t, b => by
    unfold writeP
    by_cases h : b.length = 0
    · rw [if_pos h]
      exact ⟨[], by rw [List.append_nil], (by intro y hy; cases hy), rfl⟩
    · rw [if_neg h]
      have h1 : ∀ y ∈ [plE 2 at0 b (wrN t.c.ws t.c.wrote b.length) (wrB t.c.ws t.c.wrote)], y.1 = 2 ∧ ∃ k, k < b.length ∧ datP y = b.drop k := by
        intro y hy
        rw [List.mem_singleton.1 hy]
        exact ⟨rfl, 0, by omega, rfl⟩
      by_cases h2 : wrB t.c.ws t.c.wrote = false ∨ wrN t.c.ws t.c.wrote b.length = 0
      · rw [if_pos h2]
        exact ⟨_, rfl, h1, rfl⟩
      · rw [if_neg h2]
        obtain ⟨D, e, m, a⟩ := writeP_ext f (wrOne t b) (b.drop (wrN t.c.ws t.c.wrote b.length).toNat)
        refine ⟨[plE 2 at0 b (wrN t.c.ws t.c.wrote b.length) (wrB t.c.ws t.c.wrote)] ++ D, by rw [e, ← List.append_assoc]; rfl, fun y hy => ?_, a⟩
        rcases List.mem_append.1 hy with hy | hy
        · exact h1 y hy
        · obtain ⟨m1, k, hk, hd⟩ := m y hy
          rw [List.length_drop] at hk
          rw [List.drop_drop] at hd
          exact ⟨m1, _, by omega, hd⟩
theorem writeP_first (f : Nat) (t : Pt) (b : List Int) (hb : b.length ≠ 0) :
    ∃ y D, (writeP (f + 1) t b).2.E = t.E ++ y :: D ∧ y.1 = 2 ∧ datP y = b ∧ (∀ z ∈ D, z.1 = 2 ∧ (datP z).length < b.length ∧ ∃ k, k < b.length ∧ datP z = b.drop k) ∧ (writeP (f + 1) t b).2.A = t.A := by
  unfold writeP
  rw [if_neg hb]
  by_cases h2 : wrB t.c.ws t.c.wrote = false ∨ wrN t.c.ws t.c.wrote b.length = 0
  · rw [if_pos h2]
    exact ⟨plE 2 at0 b (wrN t.c.ws t.c.wrote b.length) (wrB t.c.ws t.c.wrote), [], rfl, rfl, rfl, (by intro y hy; cases hy), rfl⟩
  · rw [if_neg h2]
    obtain ⟨D, e, m, a⟩ := writeP_ext f (wrOne t b) (b.drop (wrN t.c.ws t.c.wrote b.length).toNat)
    refine ⟨plE 2 at0 b (wrN t.c.ws t.c.wrote b.length) (wrB t.c.ws t.c.wrote), D, by rw [e]; show (t.E ++ [_]) ++ D = _; rw [List.append_assoc]; rfl, rfl, rfl, fun y hy => ?_, a⟩
    obtain ⟨m1, k, hk, hd⟩ := m y hy
    have h3 : wrN t.c.ws t.c.wrote b.length ≠ 0 := fun h => h2 (Or.inr h)
    have h4 := (wrN_le t.c.ws t.c.wrote b.length).1
    rw [List.length_drop] at hk
    rw [List.drop_drop] at hd
    refine ⟨m1, ?_, _, ?_, hd⟩
    · rw [hd, List.length_drop]
      omega
    · omega
def Nv (b : List Int) : Prop := ∀ k, k < b.length → strOfNums (b.drop k) ≠ strOfNums startV ∧ strOfNums (b.drop k) ≠ strOfNums stopV
theorem str_last {l m : List Int} {x y : Int} (h : strOfNums l = strOfNums m) (hl : l.getLast? = some x) (hm : m.getLast? = some y) : UInt8.ofNat x.toNat = UInt8.ofNat y.toNat := by
  have e := congrArg (fun t : ByteArray => t.data.toList.getLast?) h
  simp only [strOfNums_data, List.getLast?_map, hl, hm, Option.map_some] at e
  injection e
theorem nv_of {b : List Int} {x : Int} (h : b.getLast? = some x) (h1 : UInt8.ofNat x.toNat ≠ UInt8.ofNat (104 : Int).toNat) (h2 : UInt8.ofNat x.toNat ≠ UInt8.ofNat (108 : Int).toNat) : Nv b := by
  intro k hk
  have e : (b.drop k).getLast? = some x := by
    rw [List.getLast?_drop, if_neg (by omega)]
    exact h
  exact ⟨fun hd => h1 (str_last hd e (show startV.getLast? = some 104 by decide)), fun hd => h2 (str_last hd e (show stopV.getLast? = some 108 by decide))⟩
theorem nv_line (pr : List Int) (mode : Int) (n m : Nat) (dec : Nat → List Int) : Nv (lineV pr mode n m dec) := by
  unfold lineV
  split
  · refine nv_of (x := 68) ?_ (by decide) (by decide)
    rw [← List.append_assoc, List.getLast?_append]
    rfl
  · refine nv_of (x := 75) ?_ (by decide) (by decide)
    rw [List.append_nil, List.getLast?_append]
    rfl
theorem wrS_ext (s : Ss) {b : List Int} (h : Nv b) : Ext s.t (wrS s b).2.t := by
  unfold wrS
  dsimp only
  obtain ⟨D, e, m, a⟩ := writeP_ext b.length s.t b
  refine ⟨D, e, fun y hy => ?_, a⟩
  obtain ⟨m1, k, hk, hd⟩ := m y hy
  unfold Mid isW
  rw [hd]
  have := h k hk
  rw [decide_eq_false this.1, decide_eq_false this.2, Bool.and_false]
  exact ⟨rfl, rfl⟩
theorem showS_ext (q : Aq) (s : Ss) : Ext s.t (showS q s).2.t := by
  unfold showS
  exact wrS_ext s (nv_line _ _ _ _ _)
theorem ansS_ext (q : Aq) (s : Ss) (c : Bool) (e : Int) : Ext s.t (ansS q s c e).2.t := by
  unfold ansS
  split
  · exact wrS_ext s (nv_of (x := 7) rfl (by decide) (by decide))
  · split
    · exact showS_ext q s
    · exact Ext.refl _
theorem keyS_ext (q : Aq) (s : Ss) (k : Ky) : Ext s.t (keyS q s k).2.t := by
  unfold keyS
  split
  · exact Ext.refl _
  · split
    · exact ansS_ext q { s with g := (endS 1024 s.g s.b).2.1, b := (endS 1024 s.g s.b).2.2 } _ _
    · split
      · exact Ext.refl _
      · split
        · exact Ext.refl _
        · split
          · exact Ext.refl _
          · split
            · exact Ext.refl _
            · split
              · exact showS_ext q s
              · exact ansS_ext q { s with b := (doB 1024 s.b k).2.2 } _ _
theorem keysS_ext (q : Aq) : ∀ (l : List Ky) (s : Ss), Ext s.t (keysS q s l).2.t
  | [], s => Ext.refl _
  | k :: r, s => by
    unfold keysS
    split
    · exact keyS_ext q s k
    · exact (keyS_ext q s k).trans (keysS_ext q r _)
theorem byteS_ext (q : Aq) (s : Ss) (c : Int) : Ext s.t (byteS q s c).2.t := keysS_ext q _ { s with d := (feedD 36 s.d c).2 }
theorem bytesS_ext (q : Aq) : ∀ (l : List Int) (s : Ss), Ext s.t (bytesS q s l).2.t
  | [], s => Ext.refl _
  | k :: r, s => by
    unfold bytesS
    split
    · exact byteS_ext q s k
    · exact (byteS_ext q s k).trans (bytesS_ext q r _)
theorem ext_one {t t' : Pt} (y : Pl) (h : t'.E = t.E ++ [y]) (hy : y.1 ≠ 2) (ha : t'.A = t.A) : Ext t t' := by
  refine ⟨[y], h, fun z hz => ?_, ha⟩
  rw [List.mem_singleton.1 hz]
  unfold Mid isW
  rw [decide_eq_false hy, Bool.false_and, Bool.false_and]
  exact ⟨rfl, rfl⟩
theorem readP_ext (t : Pt) : Ext t (readP t).2.2.2 := by
  unfold readP
  split
  · exact ext_one (plE 5 at0 [] 0 false) rfl (show (5 : Int) ≠ 2 by decide) rfl
  · split
    · exact ext_one (plE 4 at0 [] _ false) rfl (show (4 : Int) ≠ 2 by decide) rfl
    · split
      · exact ext_one (plE 3 at0 [] _ false) rfl (show (3 : Int) ≠ 2 by decide) rfl
      · exact ext_one (plE 3 at0 [] _ true) rfl (show (3 : Int) ≠ 2 by decide) rfl
theorem roundS_ext (q : Aq) (s : Ss) : Ext s.t (roundS q s).2.t := by
  unfold roundS
  split
  · exact (readP_ext s.t).trans (keysS_ext q _ { s with t := (readP s.t).2.2.2, d := ⟨[], s.d.p⟩ })
  · split
    · exact readP_ext s.t
    · split
      · exact readP_ext s.t
      · exact (readP_ext s.t).trans (bytesS_ext q _ { s with t := (readP s.t).2.2.2 })
theorem loopR_ext {q : Aq} {s s' : Ss} {o : Int} (h : LoopR q s o s') : Ext s.t s'.t := by
  induction h with
  | @done s o s' h => have := roundS_ext q s; rw [h] at this; exact this
  | @more s s1 s' o h _ ih => have := roundS_ext q s; rw [h] at this; exact this.trans ih
theorem wrS_cnt (s : Ss) {v : List Int} (hv : v.length ≠ 0) :
    cntE v (wrS s v).2.t.E = cntE v s.t.E + 1 ∧ (∀ u : List Int, u.length = v.length → strOfNums v ≠ strOfNums u → cntE u (wrS s v).2.t.E = cntE u s.t.E) ∧ (wrS s v).2.t.A = s.t.A ∧ ∃ D, (wrS s v).2.t.E = s.t.E ++ D := by
  unfold wrS
  dsimp only
  obtain ⟨f, hf⟩ : ∃ f, v.length = f + 1 := ⟨v.length - 1, by omega⟩
  obtain ⟨y, D, e, y1, y2, m, a⟩ := writeP_first f s.t v hv
  rw [← hf] at e a
  have hD : ∀ u : List Int, u.length = v.length → cntE u D = 0 := by
    intro u hu
    refine cntE_no fun z hz => ?_
    obtain ⟨_, hl, _⟩ := m z hz
    unfold isW
    rw [decide_eq_false (fun h => by have := congrArg ByteArray.size h; rw [strOfNums_size, strOfNums_size] at this; omega : ¬ strOfNums (datP z) = strOfNums u), Bool.and_false]
  refine ⟨?_, fun u hu hne => ?_, a, _, e⟩
  · rw [e, cntE_append, cntE_cons, hD v rfl]
    unfold isW
    rw [decide_eq_true y1, y2, decide_eq_true rfl]
    rfl
  · rw [e, cntE_append, cntE_cons, hD u hu]
    unfold isW
    rw [y2, decide_eq_false hne, Bool.and_false]
    rfl
theorem byeS_shape (s : Ss) : (∃ D, (byeS s).t.E = s.t.E ++ D) ∧ cntE startV (byeS s).t.E = cntE startV s.t.E ∧ cntE stopV (byeS s).t.E = cntE stopV s.t.E + 1 ∧ (byeS s).t.A = s.t.A := by
  unfold byeS
  obtain ⟨c1, c2, a, D, e⟩ := wrS_cnt s (v := stopV) (by decide)
  have x := wrS_ext (wrS s stopV).2 (b := closeV) (nv_of (x := 10) rfl (by decide) (by decide))
  have xc := x.cnt
  obtain ⟨F, f, _, xa⟩ := x
  exact ⟨⟨D ++ F, by rw [f, e, List.append_assoc]⟩, by rw [xc.1, c2 startV rfl (by decide)], by rw [xc.2, c1], xa.trans a⟩
theorem talk_of {s s1 s2 : Ss} (h1 : s1 = (wrS s startV).2) (x : Ext s1.t s2.t) : (∃ D, (byeS s2).t.E = s.t.E ++ D) ∧ cntE startV (byeS s2).t.E = cntE startV s.t.E + 1 ∧ cntE stopV (byeS s2).t.E = cntE stopV s.t.E + 1 ∧ (byeS s2).t.A = s.t.A := by
  subst h1
  obtain ⟨c1, c2, a, D, e⟩ := wrS_cnt s (v := startV) (by decide)
  obtain ⟨⟨G, g⟩, b1, b2, b3⟩ := byeS_shape s2
  have xc := x.cnt
  obtain ⟨F, f, _, xa⟩ := x
  refine ⟨⟨D ++ F ++ G, by rw [g, f, e, List.append_assoc, List.append_assoc, List.append_assoc]⟩, by rw [b1, xc.1, c1], by rw [b2, xc.2, c2 stopV rfl (by decide)], b3.trans (xa.trans a)⟩
theorem talk_shape {q : Aq} {s s' : Ss} {o : Int} (k : TalkR q s o s') : (∃ D, s'.t.E = s.t.E ++ D) ∧ cntE startV s'.t.E = cntE startV s.t.E + 1 ∧ cntE stopV s'.t.E = cntE stopV s.t.E + 1 ∧ s'.t.A = s.t.A := by
  cases k with
  | start h => exact talk_of rfl (Ext.refl _)
  | «show» h h2 => exact talk_of rfl (showS_ext q _)
  | loop h h2 k => exact talk_of rfl ((showS_ext q _).trans (loopR_ext k))
theorem get_no {t : Pt} (h : (getP t).1 = false) : (getP t).2.E = t.E ++ [plE 0 at0 [] 0 false] ∧ (getP t).2.A = t.A := by
  unfold getP at h ⊢
  dsimp only at h ⊢
  have hm : ((t.c.got : Nat) : Int) ∈ t.c.gs := by simpa using h
  rw [if_pos hm]
  exact ⟨rfl, rfl⟩
theorem get_ok {t : Pt} (h : (getP t).1 = true) : (getP t).2.E = t.E ++ [plE 0 t.A [] 0 true] ∧ (getP t).2.A = t.A := by
  unfold getP at h ⊢
  dsimp only at h ⊢
  have hm : ¬ ((t.c.got : Nat) : Int) ∈ t.c.gs := by simpa using h
  rw [if_neg hm]
  exact ⟨rfl, rfl⟩
theorem set_shape (t : Pt) (B : At3) : (setP t B).2.E = t.E ++ [plE 1 B [] 0 (setP t B).1] ∧ ((setP t B).1 = true → (setP t B).2.A = B) ∧ ((setP t B).1 = false → (setP t B).2.A = t.A) := by
  unfold setP
  dsimp only
  refine ⟨rfl, fun h => ?_, fun h => ?_⟩
  · have hm : ¬ ((t.c.set : Nat) : Int) ∈ t.c.ss := by simpa using h
    rw [if_neg hm]
  · have hm : ((t.c.set : Nat) : Int) ∈ t.c.ss := by simpa using h
    rw [if_pos hm]
def Shape (A : At3) (o : Int) (t : Pt) : Prop :=
  (∃ y, t.E = [y] ∧ okE y = false ∧ o = 4 ∧ t.A = A) ∨
  (∃ y r M z, t.E = y :: r :: (M ++ [z]) ∧ okE y = true ∧ (z.1 = 1 ∧ z.2.1 = A.fl ∧ z.2.2.1 = A.mn ∧ z.2.2.2.1 = A.tm) ∧ (okE z = true → t.A = A) ∧ cntE startV t.E = cntE stopV t.E ∧ ((okE r = false ∧ M = [] ∧ o = 4) ∨ (okE r = true ∧ cntE startV t.E = 1 ∧ (okE z = true ∨ o = 4))))
theorem all_shape {q : Aq} {s s' : Ss} {o : Int} (h : AllR q s o s') (hE : s.t.E = []) : Shape s.t.A o s'.t := by
  cases h with
  | get h =>
    have g := get_no h
    rw [hE] at g
    exact Or.inl ⟨_, g.1, rfl, rfl, g.2⟩
  | raw h h2 =>
    have g := get_ok h
    rw [hE] at g
    have r := set_shape (getP s.t).2 (rawA s.t.A)
    rw [h2, g.1] at r
    have z := set_shape (setP (getP s.t).2 (rawA s.t.A)).2 s.t.A
    rw [r.1] at z
    refine Or.inr ⟨_, _, [], _, z.1, rfl, ⟨rfl, rfl, rfl, rfl⟩, z.2.1, ?_, Or.inl ⟨rfl, rfl, rfl⟩⟩
    show cntE startV (setP (setP (getP s.t).2 (rawA s.t.A)).2 s.t.A).2.E = cntE stopV (setP (setP (getP s.t).2 (rawA s.t.A)).2 s.t.A).2.E
    rw [z.1]
    rfl
  | talk h h2 k =>
    rename_i o1 s1
    have g := get_ok h
    rw [hE] at g
    have r := set_shape (getP s.t).2 (rawA s.t.A)
    rw [h2, g.1] at r
    have z := set_shape s1.t s.t.A
    obtain ⟨⟨D, e⟩, c1, c2, a⟩ := talk_shape k
    dsimp only at e c1 c2 a
    rw [r.1] at e c1 c2
    have c3 : cntE startV (setP s1.t s.t.A).2.E = 1 := by
      rw [z.1, cntE_append, c1]
      rfl
    have c4 : cntE stopV (setP s1.t s.t.A).2.E = 1 := by
      rw [z.1, cntE_append, c2]
      rfl
    refine Or.inr ⟨plE 0 s.t.A [] 0 true, plE 1 (rawA s.t.A) [] 0 true, D, plE 1 s.t.A [] 0 (setP s1.t s.t.A).1, ?_, rfl, ⟨rfl, rfl, rfl, rfl⟩, z.2.1, ?_, Or.inr ⟨rfl, c3, ?_⟩⟩
    · show (setP s1.t s.t.A).2.E = _
      rw [z.1, e]
      rfl
    · show cntE startV (setP s1.t s.t.A).2.E = cntE stopV (setP s1.t s.t.A).2.E
      rw [c3, c4]
    · show (setP s1.t s.t.A).1 = true ∨ (if (setP s1.t s.t.A).1 = true then o1 else 4) = 4
      cases (setP s1.t s.t.A).1 with
      | true => exact Or.inl rfl
      | false => exact Or.inr rfl
end Go.Proofs.YtafmnkngjjnpiaaGreatDoor

namespace Go.Proofs.YtafmnkngjjnpiaaGreatDoor
set_option linter.unusedVariables false
set_option linter.unusedSimpArgs false
set_option maxRecDepth 100000
open Go.RowKit
def EfD.at (y : EfD) (w : World) (bl off : Nat) : Prop :=
  w.cell? ⟨bl, off, none⟩ = some (.int .i64 y.kind) ∧ w.cell? ⟨bl, off + 1, none⟩ = some (.int .u32 y.a.fl) ∧ w.cell? ⟨bl, off + 2, none⟩ = some (.int .u8 y.a.mn) ∧ w.cell? ⟨bl, off + 3, none⟩ = some (.int .u8 y.a.tm) ∧ w.cell? ⟨bl, off + 4, none⟩ = some (.slice y.ao y.zs.length y.cap) ∧ w.cell? ⟨bl, off + 5, none⟩ = some (.int .i64 y.n) ∧ w.cell? ⟨bl, off + 6, none⟩ = some (.bool y.ok) ∧ SrcAt w y.ao y.zs.length y.cap (valsOf .u8 y.zs)
def EffR (w : World) (a : Option Addr) (n : Nat) (E : List EfD) : Prop :=
  E.length = n ∧ (0 < n → ∃ bl off, a = some ⟨bl, off, none⟩ ∧ ∀ (k : Nat) (y : EfD), E[k]? = some y → y.at w bl (off + k * 7))
theorem EfD.at.chg {w w' : World} {bl off : Nat} {y : EfD} (h : y.at w bl off) (c : Chg [] w w') : y.at w' bl off := by
  obtain ⟨h0, h1, h2, h3, h4, h5, h6, h7⟩ := h
  exact ⟨c.cell h0 (by simp), c.cell h1 (by simp), c.cell h2 (by simp), c.cell h3 (by simp), c.cell h4 (by simp), c.cell h5 (by simp), c.cell h6 (by simp), h7.chg0 c⟩
theorem EffR.chg {w w' : World} {a : Option Addr} {n : Nat} {E : List EfD} (h : EffR w a n E) (c : Chg [] w w') : EffR w' a n E :=
  ⟨h.1, fun h0 => by obtain ⟨bl, off, e, hx⟩ := h.2 h0; exact ⟨bl, off, e, fun k x hk => (hx k x hk).chg c⟩⟩
theorem EffR.get {w : World} {a : Option Addr} {n : Nat} {E : List EfD} (h : EffR w a n E) {k : Nat} (hk : k < n) :
    ∃ bl off x, a = some ⟨bl, off, none⟩ ∧ E[k]? = some x ∧ x.at w bl (off + k * 7) := by
  obtain ⟨bl, off, e, hx⟩ := h.2 (by omega)
  have hl := h.1
  have : E[k]? = some (E[k]'(by omega)) := List.getElem?_eq_getElem (by omega)
  exact ⟨bl, off, _, e, this, hx k _ this⟩
end Go.Proofs.YtafmnkngjjnpiaaGreatDoor

namespace Go.Proofs.YtafmnkngjjnpiaaGreatDoor
set_option linter.unusedVariables false
set_option linter.unusedSimpArgs false
set_option maxRecDepth 100000
open Go.RowKit
attribute [local go_sem] run_store_float'
def tookP (x : Int) (n : Nat) : Nat := (max 0 (min x (n : Int))).toNat
def wrP (y : Pl) : List Int := if y.1 = 2 then y.2.2.2.2.1.take (tookP y.2.2.2.2.2.1 y.2.2.2.2.1.length) else []
def outP (E : List Pl) : List Int := E.flatMap wrP
theorem outP_append (A B : List Pl) : outP (A ++ B) = outP A ++ outP B := by unfold outP; rw [List.flatMap_append]
theorem outP_take {E : List Pl} {k : Nat} {y : Pl} (h : E[k]? = some y) : outP (E.take (k + 1)) = outP (E.take k) ++ wrP y := by
  rw [List.take_add_one, h, outP_append]
  unfold outP
  simp
theorem outP_le (E : List Pl) (k : Nat) : (outP (E.take k)).length ≤ (outP E).length := by
  conv => rhs; rw [← List.take_append_drop k E, outP_append, List.length_append]
  omega
theorem effR_of {w : World} {ao : Option Addr} {c : Nat} {E : List EfD} (h : HasRow w 86 7 (.slice ao E.length c) E.length (cellsF E)) (hs : ∀ y ∈ E, SrcAt w y.ao y.zs.length y.cap (valsOf .u8 y.zs)) : EffR w ao E.length E := by
  refine ⟨rfl, fun h0 => ?_⟩
  obtain ⟨g, off, cap, e, hc, _⟩ := h.cells h0
  injection e with e1 e2 e3
  subst e1
  refine ⟨g, off, rfl, fun k y hk => ?_⟩
  have gt : ∀ j, j < 7 → ∀ u, y.cells[j]? = some u → w.cell? ⟨g, off + k * 7 + j, none⟩ = some u := fun j hj u hu => by
    have := hc (k * 7 + j) u (by rw [cellsF_get E k y hk j hj]; exact hu)
    rw [show off + k * 7 + j = off + (k * 7 + j) by omega]
    exact this
  exact ⟨gt 0 (by omega) _ rfl, gt 1 (by omega) _ rfl, gt 2 (by omega) _ rfl, gt 3 (by omega) _ rfl, gt 4 (by omega) _ rfl, gt 5 (by omega) _ rfl, gt 6 (by omega) _ rfl, hs y (List.mem_of_getElem? hk)⟩
theorem src_few {w : World} {ao : Option Addr} {n c k : Nat} {zs : List Int} (h : SrcAt w ao n c (valsOf .u8 zs)) (hk : k ≤ n) : SrcAt w ao k c (valsOf .u8 (zs.take k)) := by
  have hl := h.1
  rw [valsOf_length] at hl
  refine ⟨by rw [valsOf_length, List.length_take]; omega, fun e => ?_, fun ad e j u hu => h.2.2 ad e j u ?_⟩
  · have := h.2.1 e
    omega
  · unfold valsOf at hu ⊢
    rw [List.map_take, List.getElem?_take] at hu
    split at hu
    · exact hu
    · cases hu
theorem row_few {w : World} {e : TypeId} {size : Nat} {ao : Option Addr} {n c : Nat} {xs : List Value} (h : HasRow w e size (.slice ao n c) n xs) : n ≤ maxLen := by
  obtain ⟨_, _, e, h1, h2, _⟩ := h.slice
  injection e with _ _ e
  omega
theorem ln_none (w : World) : LnB w w (.slice none 0 0) [] := ⟨⟨rfl, Or.inl ⟨rfl, rfl⟩⟩, Chg.refl _ _⟩
def WritPost (l : List Int) (w : World) (e : Ending) (w' : World) : Prop := ∃ a k, e = .returned (.slice a l.length k) ∧ SrcAt w' a l.length k (valsOf .u8 l) ∧ Chg [] w w'
set_option maxHeartbeats 8000000 in
theorem written_any (ao : Option Addr) (n c : Nat) (E : List EfD) (w : World) (h : EffR w ao n E) (hn : n ≤ maxLen) (hcap : ∀ y ∈ E, y.zs.length ≤ y.cap) (hL : (outP (E.map EfD.pl)).length ≤ 1000000) :
    Calls Tryz.prog 37 #[.slice ao n c] w (WritPost (outP (E.map EfD.pl)) w) := by
  unfold maxLen at hn
  have H1 := Lib.hid h
  have HL := Lib.hid hL
  clear h hL
  go_enter Tryz.func37, Tryz.ntmps37
  go_wp2_with fail
  go_loopw [3, 8] (fun v i wr => ∃ k : Nat, k ≤ n ∧ i = .int .i64 k ∧ LnB w wr v (outP ((E.map EfD.pl).take k))) (fun _ i _ => n - (intOf i).toNat)
  case atStart => exact ⟨0, Nat.zero_le _, rfl, ln_none w⟩
  case round =>
    obtain ⟨k, hk, rfl, hln⟩ := hrel
    by_cases hlt : k < n
    · obtain ⟨b1, o1, x, rfl, hx, x0, x1, x2, x3, x4, x5, x6, x7⟩ := (H1.out.chg hln.2).get hlt
      have hx2 : (E.map EfD.pl)[k]? = some x.pl := by rw [List.getElem?_map, hx]; rfl
      have HX := Lib.hid (And.intro hx2 (And.intro hln (And.intro x7 (outP_take hx2))))
      have HC := Lib.hid (hcap _ (List.mem_of_getElem? hx))
      clear hx hx2 hln x7
      obtain ⟨kind, ⟨fl, mn, tm⟩, ao, cap, zs, nn, ok⟩ := x
      dsimp only at x0 x1 x2 x3 x4 x5 x6
      by_cases hk2 : kind = 2
      · subst hk2
        obtain ⟨q, hq⟩ : ∃ q : Int, min nn (zs.length : Int) = q := ⟨_, rfl⟩
        obtain ⟨m, hm⟩ : ∃ m : Nat, max 0 q = (m : Int) := ⟨(max 0 q).toNat, by omega⟩
        have hmc : m ≤ cap := by have := HC.out; dsimp only at this; omega
        have hmz : m ≤ zs.length := by omega
        have HM : Hid (tookP nn zs.length = m) := Lib.hid (by unfold tookP; rw [hq, hm]; rfl)
        obtain ⟨l, hl⟩ : ∃ l, l = outP ((E.map EfD.pl).take k) := ⟨_, rfl⟩
        have k1 : Chg [] wr (wr.alloc (.cells #[.int .i64 2, .int .u32 fl, .int .u8 mn, .int .u8 tm, .slice ao zs.length cap, .int .i64 nn, .bool ok] 86)) := (Chg.refl _ _).alloc _
        have HS := Lib.hid (And.intro (HX.out.2.2.1.chg0 k1) (hl ▸ HX.out.2.1.on k1))
        have HLL := Lib.hid hl
        clear k1 hl HC
        go_upto_region 6 with (fail)
        go_wp2_with (at_builtin; refine wp_ln_src rfl (.tmp 15) (.tmp 25) rfl _ l rfl HS.out.2 ao m cap (zs.take m) rfl ?_ ?_ (fun v' w' hln' hc' => ?_))
        · exact src_few HS.out.1 hmz
        · have h1 := HL.out
          have h2 := outP_le (E.map EfD.pl) (k + 1)
          rw [HX.out.2.2.2, ← HLL.out, List.length_append] at h2
          have h3 : (wrP (2, fl, mn, tm, zs, nn, ok)).length = m := by
            unfold wrP
            rw [if_pos rfl, List.length_take]
            have := HM.out
            dsimp only
            omega
          have h4 : (wrP (EfD.pl ⟨2, ⟨fl, mn, tm⟩, ao, cap, zs, nn, ok⟩)).length = m := h3
          omega
        · go_wp2_with fail
          have h3 : wrP (EfD.pl ⟨2, ⟨fl, mn, tm⟩, ao, cap, zs, nn, ok⟩) = zs.take m := by
            show (if (2 : Int) = 2 then _ else _) = _
            rw [if_pos rfl]
            show zs.take (tookP nn zs.length) = _
            rw [HM.out]
          rw [h3, ← HLL.out] at HX
          refine ⟨⟨k + 1, hlt, by rw [Int.natCast_add]; rfl, ?_⟩, ?_⟩
          · rw [HX.out.2.2.2]
            exact hln'
          · show n - (k + 1) < n - k
            omega
      · go_wp2_with fail
        have h3 : wrP (EfD.pl ⟨kind, ⟨fl, mn, tm⟩, ao, cap, zs, nn, ok⟩) = [] := by
          show (if kind = 2 then _ else _) = _
          rw [if_neg hk2]
        rw [h3] at HX
        refine ⟨⟨k + 1, hlt, by rw [Int.natCast_add]; rfl, ?_⟩, ?_⟩
        · rw [HX.out.2.2.2, List.append_nil]
          exact HX.out.2.1.on ((Chg.refl _ _).alloc _)
        · show n - (k + 1) < n - k
          omega
    · have hkn : k = n := by omega
      have hl : (E.map EfD.pl).take k = E.map EfD.pl := List.take_of_length_le (by rw [List.length_map, H1.out.1]; omega)
      rw [hl] at hln
      obtain ⟨ao', c', e, hS, hb⟩ := owns_srcAt hln.1
      subst e
      go_wp2_with fail
      go_ret
      exact ⟨ao', c', rfl, hS, hln.2⟩
end Go.Proofs.YtafmnkngjjnpiaaGreatDoor

namespace Go.Proofs.YtafmnkngjjnpiaaGreatDoor
set_option linter.unusedVariables false
set_option linter.unusedSimpArgs false
set_option maxRecDepth 100000
open Go.RowKit
def exB : List Int := [97, 27, 91, 68, 98, 13]
def planD (g : Nat) (ao : Option Addr) (n c : Nat) (zs : List Int) : PlanD := ⟨0, 0, 0, some ⟨g, 0, none⟩, 1, 1, [⟨0, 0, 0, ao, n, c, zs⟩], none, 0, 0, [], none, 0, 0, [], none, 0, 0, []⟩
def plan1 (zs : List Int) : Ss := ⟨⟨[⟨0, 0, 0, zs⟩], ⟨[], [], [], 0, 0, 0⟩, ⟨0, 0, 0⟩, []⟩, ⟨[], 0⟩, ⟨[], false, false⟩, ⟨[], false⟩⟩
theorem start_plan (g : Nat) (ao : Option Addr) (n c : Nat) (zs : List Int) (h : n = zs.length) (h0 : 0 < n) : startP (planD g ao n c zs) = plan1 zs := by
  have e : (itOf ⟨0, 0, 0, ao, n, c, zs⟩) = ⟨0, 0, 0, zs⟩ := by unfold itOf; dsimp only; rw [h, List.take_length]
  unfold startP ptP planD plan1
  have e2 : ((ordP [(⟨0, 0, 0, ao, n, c, zs⟩ : ItD)] 1).map (·.2)) = [itOf ⟨0, 0, 0, ao, n, c, zs⟩] := by
    unfold ordP ordP ordStep
    have hc : comes (⟨0, 0, 0, ao, n, c, zs⟩ : ItD) = true := by unfold comes; simp; omega
    simp [hc, insP, insG]
  show (⟨⟨(ordP [(⟨0, 0, 0, ao, n, c, zs⟩ : ItD)] 1).map (·.2), _, _, _⟩, _, _, _⟩ : Ss) = _
  rw [e2, e]
  rfl
def exQ : Aq := ⟨[62], 1⟩
def exS : Ss := { plan1 exB with t := (setP (getP (plan1 exB).t).2 (rawA (plan1 exB).t.A)).2 }
def exF (x : Int × Ss) : Int × List Int × Bool × List Int := (x.1, x.2.b.l, (setP (byeS x.2).t (plan1 exB).t.A).1, outP (setP (byeS x.2).t (plan1 exB).t.A).2.E)
def exOut : List Int := [27, 91, 63, 50, 48, 48, 52, 104, 13, 62, 27, 91, 75, 13, 62, 42, 27, 91, 75, 13, 62, 42, 27, 91, 75, 27, 91, 49, 68, 13, 62, 42, 42, 27, 91, 75, 27, 91, 49, 68, 27, 91, 63, 50, 48, 48, 52, 108, 13, 10]
theorem ex_get : (getP (plan1 exB).t).1 = true := by kernel_rfl
theorem ex_raw : (setP (getP (plan1 exB).t).2 (rawA (plan1 exB).t.A)).1 = true := by kernel_rfl
theorem ex_start : (wrS exS startV).1 = none := by kernel_rfl
theorem ex_show : (showS exQ (wrS exS startV).2).1 = none := by kernel_rfl
theorem ex_loop : (loopF exQ 1 (showS exQ (wrS exS startV).2).2).map exF = some (0, [98, 97], true, exOut) := by kernel_rfl
theorem ex_all {o : Int} {s' : Ss} (h : AllR exQ (plan1 exB) o s') : o = 0 ∧ s'.b.l = [98, 97] ∧ outP s'.t.E = exOut := by
  cases h with
  | get h => rw [ex_get] at h; cases h
  | raw h h2 => rw [ex_raw] at h2; cases h2
  | talk h h2 k =>
    rename_i o2 s2
    change TalkR exQ exS o2 s2 at k
    cases k with
    | start h => rw [ex_start] at h; cases h
    | «show» h h3 => rw [ex_show] at h3; cases h3
    | loop h h3 k =>
      rename_i s3
      have hl := ex_loop
      generalize hX : loopF exQ 1 (showS exQ (wrS exS startV).2).2 = X at hl
      cases X with
      | none => cases hl
      | some x =>
        have hx := k.eq 1 x hX
        subst hx
        injection hl with hl
        unfold exF at hl
        dsimp only at hl
        injection hl with h0 hl
        injection hl with h1 hl
        injection hl with h4 h5
        rw [if_pos h4]
        exact ⟨h0, h1, h5⟩
end Go.Proofs.YtafmnkngjjnpiaaGreatDoor

namespace Go.Proofs.YtafmnkngjjnpiaaGreatDoor
set_option linter.unusedVariables false
set_option linter.unusedSimpArgs false
set_option maxRecDepth 100000
open Go.RowKit
attribute [local go_sem] run_store_float'
theorem plan_res {tmps : Array Value} {b : Nat} {v0 v1 v2 v3 v4 v5 v6 : Value} {w : World} (hp : tmps.getD 2 undef = .pointer (some ⟨b, 0, none⟩)) (h : w.heap[b]? = some (.cells #[v0, v1, v2, v3, v4, v5, v6] 74 (0, 0))) :
    (results Tryz.f36 tmps).run Tryz.prog w = .ok (.agg #[v0, v1, v2, v3, v4, v5, v6]) w := by
  have hp' : tmps[2]?.getD undef = .pointer (some ⟨b, 0, none⟩) := by simpa using hp
  have c0 : w.cell? ⟨b, 0, none⟩ = some v0 := by rw [cell_of_heap h]; rfl
  have c1 : w.cell? ⟨b, 1, none⟩ = some v1 := by rw [cell_of_heap h]; rfl
  have c2 : w.cell? ⟨b, 2, none⟩ = some v2 := by rw [cell_of_heap h]; rfl
  have c3 : w.cell? ⟨b, 3, none⟩ = some v3 := by rw [cell_of_heap h]; rfl
  have c4 : w.cell? ⟨b, 4, none⟩ = some v4 := by rw [cell_of_heap h]; rfl
  have c5 : w.cell? ⟨b, 5, none⟩ = some v5 := by rw [cell_of_heap h]; rfl
  have c6 : w.cell? ⟨b, 6, none⟩ = some v6 := by rw [cell_of_heap h]; rfl
  simp [results, Tryz.results36, hp', c0, c1, c2, c3, c4, c5, c6, go_sem]
set_option maxHeartbeats 8000000 in
theorem plan_any (ao : Option Addr) (n c : Nat) (zs : List Int) (w : World) (h : BRow w ao n c zs) :
    Calls Tryz.prog 36 #[.slice ao n c] w fun e w' => ∃ g, e = .returned (.agg (planD g ao n c zs).cells) ∧ (planD g ao n c zs).At w' ∧ Chg [] w w' := by
  go_enter Tryz.func36, Tryz.ntmps36
  go_wp2_with fail
  have C2 : Chg [] w ((w.alloc (.cells #[.int .u32 0, .int .u8 0, .int .u8 0, .slice (some ⟨w.heap.size + 1, 0, none⟩) 1 1, .slice none 0 0, .slice none 0 0, .slice none 0 0] 74)).alloc (.cells #[.float .f64 0, .int .i64 0, .int .i64 0, .slice ao n c] 100)) := ((Chg.refl _ _).alloc _).alloc _
  have X1 := alloc2_heap w (.cells #[.int .u32 0, .int .u8 0, .int .u8 0, .slice (some ⟨w.heap.size + 1, 0, none⟩) 1 1, .slice none 0 0, .slice none 0 0, .slice none 0 0] 74) (.cells #[.float .f64 0, .int .i64 0, .int .i64 0, .slice ao n c] 100)
  have X0 : ((w.alloc (.cells #[.int .u32 0, .int .u8 0, .int .u8 0, .slice (some ⟨w.heap.size + 1, 0, none⟩) 1 1, .slice none 0 0, .slice none 0 0, .slice none 0 0] 74)).alloc (.cells #[.float .f64 0, .int .i64 0, .int .i64 0, .slice ao n c] 100)).heap[w.heap.size]? = some (.cells #[.int .u32 0, .int .u8 0, .int .u8 0, .slice (some ⟨w.heap.size + 1, 0, none⟩) 1 1, .slice none 0 0, .slice none 0 0, .slice none 0 0] 74 (0, 0)) := alloc_keeps (alloc_heap w _)
  generalize World.alloc _ _ = w1 at *
  refine bodyPost_ret (plan_res rfl X0) rfl ⟨w.heap.size + 1, rfl, ⟨⟨rfl, fun _ => ⟨_, 0, rfl, fun k x hk => ?_⟩⟩, by unfold maxLen; show 1 ≤ _; omega, .inl ⟨rfl, rfl, rfl, rfl⟩, .inl ⟨rfl, rfl, rfl, rfl⟩, .inl ⟨rfl, rfl, rfl, rfl⟩⟩, C2⟩
  cases k with
  | succ k => cases hk
  | zero =>
    injection hk with hk
    subst hk
    refine ⟨?_, ?_, ?_, ?_, h.chg0 C2, ?_⟩
    · show w1.cell? ⟨w.heap.size + 1, 0, none⟩ = _
      rw [cell_of_heap X1]; rfl
    · show w1.cell? ⟨w.heap.size + 1, 1, none⟩ = _
      rw [cell_of_heap X1]; rfl
    · show w1.cell? ⟨w.heap.size + 1, 2, none⟩ = _
      rw [cell_of_heap X1]; rfl
    · show w1.cell? ⟨w.heap.size + 1, 3, none⟩ = _
      rw [cell_of_heap X1]; rfl
    · show (0 : Nat) < _; omega
end Go.Proofs.YtafmnkngjjnpiaaGreatDoor

namespace Go.Proofs.YtafmnkngjjnpiaaGreatDoor
set_option linter.unusedVariables false
set_option linter.unusedSimpArgs false
set_option maxRecDepth 100000
open Go.RowKit
attribute [local go_sem] run_store_float'
theorem askE : AskOk ⟨#[62]⟩ 1 ((4 : Nat) : Int) := ⟨by kernel_rfl, by decide, by decide, by decide, by decide⟩
theorem bI62 : bI ⟨#[62]⟩ = [62] := by kernel_rfl
theorem str_out : strOfNums exOut = ⟨#[27, 91, 63, 50, 48, 48, 52, 104, 13, 62, 27, 91, 75, 13, 62, 42, 27, 91, 75, 13, 62, 42, 27, 91, 75, 27, 91, 49, 68, 13, 62, 42, 42, 27, 91, 75, 27, 91, 49, 68, 27, 91, 63, 50, 48, 48, 52, 108, 13, 10]⟩ := by kernel_rfl
theorem str_to : strOfNums [98, 97, 46, 46] = ⟨#[98, 97, 46, 46]⟩ := by kernel_rfl
theorem exBy : ByR exB := by intro x hx; unfold exB at hx; simp at hx; omega
theorem told_ex (g : Nat) (ao : Option Addr) (w : World) (h : (planD g ao 6 6 exB).At w) (hL : LibT w) :
    Calls Tryz.prog 28 #[.agg (planD g ao 6 6 exB).cells, .agg #[.string ⟨#[62]⟩, .int .i64 1, .int .i64 0], .int .i64 4] w fun e w' =>
      ∃ ao' c ae n ce fl mn tm, e = .returned (.tuple #[.agg #[.int .i64 0, .int .i64 2, .slice ao' 4 c, .slice ae n ce, .int .u32 fl, .int .u8 mn, .int .u8 tm, .bool true], .bool true]) ∧ Chg [] w w' ∧
        ∃ E : List EfD, n = E.length ∧ (∀ y ∈ E, y.zs.length ≤ y.cap) ∧ outP (E.map EfD.pl) = exOut ∧ E.length ≤ maxLen ∧ ∀ W, Chg [] w' W → SrcAt W ao' 4 c (valsOf .u8 [98, 97, 46, 46]) ∧ EffR W ae n E := by
  have hT := told_ok (planD g ao 6 6 exB) ⟨#[62]⟩ 1 0 4 w h (by kernel_rfl) ?_ ?_ ?_ askE (by decide) hL (Nat.zero_le _) (Nat.zero_le _) (Nat.zero_le _) ?_ (by kernel_rfl)
  refine hT.mono ?_
  rintro e w' ⟨o, s', ao', c, ae, ce, E, cur, hA, rfl, C, hpl, hf, hW⟩
  rw [bI62] at hA
  rw [start_plan g ao 6 6 exB rfl (by decide)] at hA
  obtain ⟨rfl, hb, hE⟩ := ex_all hA
  rw [hb]
  refine ⟨ao', c, ae, E.length, ce, _, _, _, rfl, C, E, rfl, fun y hy => (hf y hy).2, by rw [hpl]; exact hE, ?_, fun W cW => ?_⟩
  · exact row_few (hW [] (by simp) w' (Chg.refl _ _)).2.1
  · obtain ⟨h1, h2, h3⟩ := hW [] (by simp) W cW
    refine ⟨?_, effR_of h2 h3⟩
    have e : List.take 4 (outG 4 0 [98, 97] (valsOf .u8 (List.replicate 4 46) ++ cur)) = valsOf .u8 [98, 97, 46, 46] := rfl
    rw [hb, e] at h1
    exact h1
  · intro x hx
    have := List.mem_singleton.1 hx
    subst this
    show i64R 0
    unfold i64R
    omega
  · intro x hx
    have := List.mem_singleton.1 hx
    subst this
    exact exBy
  · intro x hx
    have := List.mem_singleton.1 hx
    subst this
    show 6 ≤ _
    decide
  · show 0 + budI (startP (planD g ao 6 6 exB)).t.its ≤ 900000
    rw [start_plan g ao 6 6 exB rfl (by decide)]
    decide
set_option maxHeartbeats 8000000 in
theorem aliveW_at (w : World) (hL : LibT w) :
    Calls Tryz.prog 8 #[] w fun e w' => e = .returned (.bool true) ∧ Chg [] w w' := by
  have hc : (convert 22 22 (.slice (some ⟨w.heap.size, 0, none⟩) 6 6)).run Tryz.prog (w.alloc (.cells #[Value.int IntKind.u8 97, Value.int IntKind.u8 27, Value.int IntKind.u8 91, Value.int IntKind.u8 68, Value.int IntKind.u8 98, Value.int IntKind.u8 13] 5)) = .ok (.slice (some ⟨w.heap.size, 0, none⟩) 6 6) (w.alloc (.cells #[Value.int IntKind.u8 97, Value.int IntKind.u8 27, Value.int IntKind.u8 91, Value.int IntKind.u8 68, Value.int IntKind.u8 98, Value.int IntKind.u8 13] 5 (6, 6 + 1))) := Lib.run_convert_bytes_const (P := Tryz.prog) w 22 5 #[Value.int IntKind.u8 97, Value.int IntKind.u8 27, Value.int IntKind.u8 91, Value.int IntKind.u8 68, Value.int IntKind.u8 98, Value.int IntKind.u8 13] 6 6 Tryz.underlying22 Tryz.underlying5
  obtain ⟨ao, c, e0, S1, _, C1, hc6⟩ := out_new exB w 5
  injection e0 with e0
  injection e0 with e1 e2 e3
  have hB : BRow (w.alloc (.cells (valsOf .u8 exB).toArray 5 ((valsOf .u8 exB).toArray.size, (valsOf .u8 exB).toArray.size + 1))) (some ⟨w.heap.size, 0, none⟩) 6 6 exB := by
    refine ⟨Nat.le_refl _, by unfold maxLen; omega, Nat.le_refl _, ?_⟩
    rw [← e1, ← e3] at S1
    exact S1
  have HP := Lib.hid (plan_any _ 6 6 exB _ hB)
  have HL := Lib.hid (And.intro C1 hL)
  clear C1 S1 hB hL hc6 e1 e2 e3
  unfold exB valsOf at HP HL
  dsimp only [List.map] at HP HL
  go_enter Tryz.func8, Tryz.ntmps8
  go_wp2_with fail
  refine (HP.out).mono ?_
  rintro e w2 ⟨g, rfl, A2, C2⟩
  have C02 := HL.out.1.trans C2 (U := []) (by simp) (by simp)
  have HT := Lib.hid (told_ex g _ w2 A2 (HL.out.2.chg0 C02))
  have HC := Lib.hid C02
  clear HP HL A2 C2 C02 hc
  unfold PlanD.cells planD at HT ⊢
  dsimp only at HT ⊢
  go_wp2_with fail
  refine (HT.out).mono ?_
  rintro e w3 ⟨ao', c', ae, n, ce, fl, mn, tm, rfl, C3, E, hn, hcap, hout, hlen, hW⟩
  subst hn
  go_upto_region 2 with (fail)
  have C4 : Chg [] w3 (w3.alloc (.cells #[.int .i64 0, .int .i64 2, .slice ao' 4 c', .slice ae E.length ce, .int .u32 fl, .int .u8 mn, .int .u8 tm, .bool true] 82)) := (Chg.refl _ _).alloc _
  have h4 := hW _ C4
  have HC4 := Lib.hid ((HC.out.trans C3 (U := []) (by simp) (by simp)).trans C4 (U := []) (by simp) (by simp))
  have HR := Lib.hid (written_any ae E.length ce E _ h4.2 hlen hcap (by rw [hout]; decide))
  rw [hout] at HR
  have k1 := tconv_at h4.1
  rw [str_to] at k1
  clear h4 hcap hout hlen hW C3 C4 HC HT
  obtain ⟨L, hL5⟩ : ∃ L, L = exOut.length := ⟨_, rfl⟩
  unfold WritPost at HR
  rw [← hL5] at HR
  clear hL5
  go_wp2_with (go_at_call 37; refine (HR.out).mono ?_; rintro e w5 ⟨a5, k5, rfl, S5, C5⟩; have k2 := tconv_at S5; rw [str_out] at k2)
  go_ret
  exact ⟨rfl, HC4.out.trans C5 (U := []) (by simp) (by simp)⟩
end Go.Proofs.YtafmnkngjjnpiaaGreatDoor

namespace Go.Proofs.YtafmnkngjjnpiaaGreatDoor
set_option linter.unusedVariables false
set_option linter.unusedSimpArgs false
set_option maxRecDepth 100000
open Go.RowKit
attribute [local go_sem] run_store_float'
theorem cntE_take {v : List Int} {E : List Pl} {k : Nat} {y : Pl} (h : E[k]? = some y) : cntE v (E.take (k + 1)) = cntE v (E.take k) + (if isW v y = true then 1 else 0) := by
  obtain ⟨hk, rfl⟩ := List.getElem?_eq_some_iff.1 h
  rw [List.take_succ_eq_append_getElem hk, cntE_append, cntE_cons]
  rfl
theorem str_of_list {l m : List Int} (h : (strOfNums l).toList = (strOfNums m).toList) : strOfNums l = strOfNums m := by
  rw [Lib.strOfNums_toList, Lib.strOfNums_toList] at h
  show (⟨(Lib.bytesOf l).toArray⟩ : ByteArray) = ⟨(Lib.bytesOf m).toArray⟩
  rw [h]
theorem cntE_le (v : List Int) (E : List Pl) : cntE v E ≤ E.length := by unfold cntE; exact List.length_filter_le _ _
set_option maxHeartbeats 8000000 in
theorem count_any (bL : Nat) (ao : Option Addr) (n c : Nat) (E : List EfD) (av : Option Addr) (m cv : Nat) (v : List Int) (w : World) (hl : w.cell? ⟨bL, 0, none⟩ = some (.slice ao n c)) (h : EffR w ao n E) (hn : n ≤ maxLen) (hv : SrcAt w av m cv (valsOf .u8 v)) :
    Calls Tryz.prog 29 #[.slice av m cv, .pointer (some ⟨bL, 0, none⟩)] w fun e w' => e = .returned (.int .i64 (cntE v (E.map EfD.pl) : Nat)) ∧ Chg [] w w' := by
  unfold maxLen at hn
  have H1 := Lib.hid h
  have HV := Lib.hid hv
  clear h hv
  go_enter Tryz.func29, Tryz.ntmps29
  go_wp2_with fail
  go_loopw [4, 9] (fun z i wr => ∃ k q : Nat, k ≤ n ∧ i = .int .i64 k ∧ z = .int .i64 q ∧ Hid (q = cntE v ((E.map EfD.pl).take k)) ∧ Chg [] w wr) (fun _ i _ => n - (intOf i).toNat)
  case atStart => exact ⟨0, 0, Nat.zero_le _, rfl, rfl, Lib.hid rfl, Chg.refl _ _⟩
  case round =>
    obtain ⟨k, q, hk, rfl, rfl, hq, hC⟩ := hrel
    by_cases hlt : k < n
    · obtain ⟨b1, o1, x, rfl, hx, x0, x1, x2, x3, x4, x5, x6, x7⟩ := (H1.out.chg hC).get hlt
      have hx2 : (E.map EfD.pl)[k]? = some x.pl := by rw [List.getElem?_map, hx]; rfl
      have hct := cntE_take (v := v) hx2
      have hqk : q ≤ k := by
        rw [hq.out]
        exact Nat.le_trans (cntE_le _ _) (by rw [List.length_take]; omega)
      obtain ⟨q1, hq1⟩ : ∃ q1 : Nat, q1 = q + 1 := ⟨_, rfl⟩
      have e1 : (q : Int) + 1 = (q1 : Int) := by omega
      have e2 : (q1 : Int) ≤ 9223372036854775807 := by omega
      have HX := Lib.hid (And.intro hct (And.intro x7 hq1))
      have HC := Lib.hid hC
      clear hx hx2 x7 hct hq1 hqk hC
      obtain ⟨kind, ⟨fl, mn, tm⟩, ao, cap, zs, nn, ok⟩ := x
      dsimp only at x0 x1 x2 x3 x4 x5 x6
      have k1 : Chg [] wr (wr.alloc (.cells #[.int .i64 kind, .int .u32 fl, .int .u8 mn, .int .u8 tm, .slice ao zs.length cap, .int .i64 nn, .bool ok] 86)) := (Chg.refl _ _).alloc _
      have HK := Lib.hid (HC.out.trans k1 (U := []) (by simp) (by simp))
      have hc1 := tconv_at (HX.out.2.1.chg0 k1)
      have hc2 := tconv_at (HV.out.chg0 HK.out)
      clear k1
      by_cases hk2 : kind = 2
      · subst hk2
        by_cases hs : strOfNums zs = strOfNums v
        · have s1 : ((strOfNums zs).toList == (strOfNums v).toList) = true := by rw [hs]; exact beq_self_eq_true _
          have HW : Hid (isW v (EfD.pl ⟨2, ⟨fl, mn, tm⟩, ao, cap, zs, nn, ok⟩) = true) := Lib.hid (by show (decide ((2 : Int) = 2) && decide (strOfNums zs = strOfNums v)) = true; rw [decide_eq_true hs]; rfl)
          clear hs
          go_wp2_with fail
          refine ⟨⟨k + 1, q1, hlt, by rw [Int.natCast_add]; rfl, rfl, Lib.hid ?_, HK.out⟩, ?_⟩
          · have h1 := HX.out
            rw [HW.out] at h1
            rw [h1.1, if_pos rfl, ← hq.out]
            exact h1.2.2
          · show n - (k + 1) < n - k
            omega
        · have s1 : ((strOfNums zs).toList == (strOfNums v).toList) = false := beq_eq_false_iff_ne.2 (fun h => hs (str_of_list h))
          have HW : Hid (isW v (EfD.pl ⟨2, ⟨fl, mn, tm⟩, ao, cap, zs, nn, ok⟩) = false) := Lib.hid (by show (decide ((2 : Int) = 2) && decide (strOfNums zs = strOfNums v)) = false; rw [decide_eq_false hs]; rfl)
          clear hs
          go_wp2_with fail
          refine ⟨⟨k + 1, q, hlt, by rw [Int.natCast_add]; rfl, rfl, Lib.hid ?_, HK.out⟩, ?_⟩
          · have h1 := HX.out
            rw [HW.out] at h1
            rw [h1.1, if_neg (by decide), ← hq.out]
            rfl
          · show n - (k + 1) < n - k
            omega
      · have s1 : (kind == 2) = false := beq_eq_false_iff_ne.2 hk2
        have HW : Hid (isW v (EfD.pl ⟨kind, ⟨fl, mn, tm⟩, ao, cap, zs, nn, ok⟩) = false) := Lib.hid (by show (decide (kind = 2) && decide (strOfNums zs = strOfNums v)) = false; rw [decide_eq_false hk2]; rfl)
        clear hk2
        go_wp2_with fail
        refine ⟨⟨k + 1, q, hlt, by rw [Int.natCast_add]; rfl, rfl, Lib.hid ?_, HK.out⟩, ?_⟩
        · have h1 := HX.out
          rw [HW.out] at h1
          rw [h1.1, if_neg (by decide), ← hq.out]
          rfl
        · show n - (k + 1) < n - k
          omega
    · have hkn : k = n := by omega
      have hl2 : (E.map EfD.pl).take k = E.map EfD.pl := List.take_of_length_le (by rw [List.length_map, H1.out.1]; omega)
      rw [hl2] at hq
      have hqq := hq.out
      subst hqq
      clear hq
      go_wp2_with fail
      go_ret
      exact ⟨rfl, hC⟩
end Go.Proofs.YtafmnkngjjnpiaaGreatDoor

namespace Go.Proofs.YtafmnkngjjnpiaaGreatDoor
set_option linter.unusedVariables false
set_option linter.unusedSimpArgs false
set_option maxRecDepth 100000
open Go.RowKit
attribute [local go_sem] run_store_float'
structure InOk (p : PlanD) (s : ByteArray) (w : World) : Prop where
  at' : p.At w
  m : ∀ y ∈ p.its, y.m ≤ reachBytes
  r : p.wl ≤ reachBytes ∧ p.gl ≤ reachBytes ∧ p.sl ≤ reachBytes
  n : ∀ x ∈ p.its, i64R x.n
  by' : ∀ x ∈ p.its, ByR (x.zs.take x.m)
  s : s.size ≤ 140737488355328
  t : LibT w
theorem budI_cons (x : It) (l : List It) : budI (x :: l) = (1 + 2 * x.bs.length) + budI l := by unfold budI; rw [List.map_cons, List.sum_cons]
theorem budI_perm {l m : List It} (h : l.Perm m) : budI l = budI m := by
  induction h with
  | nil => rfl
  | cons x _ ih => rw [budI_cons, budI_cons, ih]
  | swap x y l => rw [budI_cons, budI_cons, budI_cons, budI_cons]; omega
  | trans _ _ h1 h2 => exact h1.trans h2
theorem ordP_bud (its : List ItD) : ∀ k : Nat, budI ((ordP its k).map (·.2)) ≤ 2 * sumL (its.take k)
  | 0 => Nat.zero_le _
  | k + 1 => by
    have ih := ordP_bud its k
    cases h : its[k]? with
    | none =>
      have e : ordP its (k + 1) = ordP its k := by
        show (match its[k]? with | some x => ordStep (ordP its k) x k | none => ordP its k) = _
        rw [h]
      have hl := List.getElem?_eq_none_iff.1 h
      rw [e, List.take_of_length_le (by omega)]
      rw [List.take_of_length_le hl] at ih
      exact ih
    | some x =>
      rw [ordP_succ h, sumL_take h]
      unfold ordStep
      split
      · rw [budI_perm ((insP_perm _ _).map (·.2)), List.map_cons, budI_cons]
        have : (itOf x).bs.length ≤ x.m := by unfold itOf; dsimp only; rw [List.length_take]; omega
        dsimp only
        omega
      · omega
theorem sumL_mem {its : List ItD} {x : ItD} (h : x ∈ its) : x.m ≤ sumL its := by
  induction its with
  | nil => cases h
  | cons y r ih =>
    have e : sumL (y :: r) = (1 + y.m) + sumL r := by unfold sumL; simp
    rcases List.mem_cons.1 h with rfl | h
    · omega
    · have := ih h
      omega
theorem InOk.told {p : PlanD} {s : ByteArray} {w : World} {mode room : Int} (i : InOk p s w) (hR : rightB p s mode room = true) (hok : okP p = true) (n : Nat) (hn : n ≤ 4096) (W : World) (c : Chg [] w W) :
    Calls Tryz.prog 28 #[.agg p.cells, .agg #[.string s, .int .i64 mode, .int .i64 room], .int .i64 (n : Nat)] W (ToldPost p s mode n W) := by
  have r := rightB_ok hR
  have hs := r.sum
  refine told_ok p s mode room n W (i.at'.chg c) r.c i.n i.by' (fun x hx => ?_) (r.a n) hn (i.t.chg0 c) (by omega) (by omega) (by omega) ?_ hok
  · have := sumL_mem hx
    omega
  · have h1 := ordP_bud p.its p.il
    have h2 := sumL_le p.its p.il
    show p.wl + budI ((ordP p.its p.il).map (·.2)) ≤ 900000
    omega
theorem InOk.toldBad {p : PlanD} {s : ByteArray} {w : World} {mode room : Int} (i : InOk p s w) (hR : rightB p s mode room = true) (hok : okP p = false) (n : Nat) (hn : n ≤ 4096) (W : World) (c : Chg [] w W) :
    Calls Tryz.prog 28 #[.agg p.cells, .agg #[.string s, .int .i64 mode, .int .i64 room], .int .i64 (n : Nat)] W fun e w' => e = .returned (.tuple #[.agg #[.int .i64 0, .int .i64 0, .slice none 0 0, .slice none 0 0, .int .u32 0, .int .u8 0, .int .u8 0, .bool false], .bool false]) ∧ Chg [] W w' := by
  have r := rightB_ok hR
  have hs := r.sum
  exact told_bad p s mode room n W (i.at'.chg c) r.c i.n (r.a n) hn (i.t.chg0 c) (by omega) (by omega) (by omega) hok
theorem eff_at {W : World} {ae : Option Addr} {n : Nat} {E : List EfD} (h : EffR W ae n E) {k : Nat} {y : EfD} (hk : E[k]? = some y) : ∃ bl off, ae = some ⟨bl, off, none⟩ ∧ y.at W bl (off + k * 7) := by
  have hlt : k < n := by
    have := (List.getElem?_eq_some_iff.1 hk).1
    rw [h.1] at this
    exact this
  obtain ⟨bl, off, x, e, hx, ha⟩ := h.get hlt
  rw [hk] at hx
  injection hx with hx
  subst hx
  exact ⟨bl, off, e, ha⟩
theorem pl_at {E : List EfD} {F : List Pl} (h : E.map EfD.pl = F) {k : Nat} {y : Pl} (hk : F[k]? = some y) : ∃ y', E[k]? = some y' ∧ y'.pl = y := by
  rw [← h, List.getElem?_map] at hk
  cases hE : E[k]? with
  | none => rw [hE] at hk; cases hk
  | some x =>
    rw [hE] at hk
    injection hk with hk
    exact ⟨x, rfl, hk⟩
set_option maxHeartbeats 16000000 in
theorem rest_not (p : PlanD) (s : ByteArray) (mode room : Int) (w : World) (i : InOk p s w) (hR : rightB p s mode room = false) :
    Calls Tryz.prog 4 #[.agg p.cells, .agg #[.string s, .int .i64 mode, .int .i64 room]] w fun e w' => e = .returned (.bool true) ∧ Chg [] w w' := by
  have HA := Lib.hid (fun W (c : Chg [] w W) => aliveW_at W (i.t.chg0 c))
  have HB := Lib.hid (fun W (c : Chg [] w W) => rightW_any p s mode room W (i.at'.chg c) i.m i.r i.s)
  rw [hR] at HB
  clear i hR
  obtain ⟨fl, mn, tm, ia, il, ic, its, wa, wl, wc, ws, ga, gl, gc, gs, sa, sl, sc, ss⟩ := p
  unfold PlanD.cells at HB ⊢
  dsimp only at HB ⊢
  have CB : Chg [] w ((w.alloc (.cells #[.int .u32 fl, .int .u8 mn, .int .u8 tm, .slice ia il ic, .slice wa wl wc, .slice ga gl gc, .slice sa sl sc] 74)).alloc (.cells #[.string s, .int .i64 mode, .int .i64 room] 76)) := ((Chg.refl _ _).alloc _).alloc _
  have D1 := Lib.hid (And.intro CB (And.intro (alloc_keeps (o := .cells #[.string s, .int .i64 mode, .int .i64 room] 76) (alloc_heap w (.cells #[.int .u32 fl, .int .u8 mn, .int .u8 tm, .slice ia il ic, .slice wa wl wc, .slice ga gl gc, .slice sa sl sc] 74))) (alloc2_heap w (.cells #[.int .u32 fl, .int .u8 mn, .int .u8 tm, .slice ia il ic, .slice wa wl wc, .slice ga gl gc, .slice sa sl sc] 74) (.cells #[.string s, .int .i64 mode, .int .i64 room] 76))))
  clear CB
  go_enter Tryz.func4, Tryz.ntmps4
  go_wp2_with fail
  generalize World.alloc _ _ = w1 at *
  refine (HA.out _ D1.out.1).mono ?_
  rintro e w2 ⟨rfl, C⟩
  have D2 := Lib.hid (And.intro (D1.out.1.trans C (U := []) (by simp) (by simp)) (And.intro (C.heap D1.out.2.1 (by simp)) (C.heap D1.out.2.2 (by simp))))
  clear D1 C
  have p0 : w2.cell? ⟨w.heap.size, 0, none⟩ = some (.int .u32 fl) := by rw [cell_of_heap D2.out.2.1]; rfl
  have p1 : w2.cell? ⟨w.heap.size, 1, none⟩ = some (.int .u8 mn) := by rw [cell_of_heap D2.out.2.1]; rfl
  have p2 : w2.cell? ⟨w.heap.size, 2, none⟩ = some (.int .u8 tm) := by rw [cell_of_heap D2.out.2.1]; rfl
  have p3 : w2.cell? ⟨w.heap.size, 3, none⟩ = some (.slice ia il ic) := by rw [cell_of_heap D2.out.2.1]; rfl
  have p4 : w2.cell? ⟨w.heap.size, 4, none⟩ = some (.slice wa wl wc) := by rw [cell_of_heap D2.out.2.1]; rfl
  have p5 : w2.cell? ⟨w.heap.size, 5, none⟩ = some (.slice ga gl gc) := by rw [cell_of_heap D2.out.2.1]; rfl
  have p6 : w2.cell? ⟨w.heap.size, 6, none⟩ = some (.slice sa sl sc) := by rw [cell_of_heap D2.out.2.1]; rfl
  have q0 : w2.cell? ⟨w.heap.size + 1, 0, none⟩ = some (.string s) := by rw [cell_of_heap D2.out.2.2]; rfl
  have q1 : w2.cell? ⟨w.heap.size + 1, 1, none⟩ = some (.int .i64 mode) := by rw [cell_of_heap D2.out.2.2]; rfl
  have q2 : w2.cell? ⟨w.heap.size + 1, 2, none⟩ = some (.int .i64 room) := by rw [cell_of_heap D2.out.2.2]; rfl
  go_wp2_with fail
  refine (HB.out _ D2.out.1).mono ?_
  rintro e w3 ⟨rfl, C⟩
  have D3 := Lib.hid (And.intro (D2.out.1.trans C (U := []) (by simp) (by simp)) (And.intro (C.heap D2.out.2.1 (by simp)) (C.heap D2.out.2.2 (by simp))))
  clear D2 C HB p0 p1 p2 p3 p4 p5 p6 q0 q1 q2
  go_wp2_with fail
  refine (HA.out _ D3.out.1).mono ?_
  rintro e w4 ⟨rfl, C⟩
  go_wp2_with fail
  go_ret
  exact ⟨rfl, D3.out.1.trans C (U := []) (by simp) (by simp)⟩
set_option maxHeartbeats 16000000 in
theorem rest_bad (p : PlanD) (s : ByteArray) (mode room : Int) (w : World) (i : InOk p s w) (hR : rightB p s mode room = true) (hok : okP p = false) :
    Calls Tryz.prog 4 #[.agg p.cells, .agg #[.string s, .int .i64 mode, .int .i64 room]] w fun e w' => e = .returned (.bool true) ∧ Chg [] w w' := by
  have HA := Lib.hid (fun W (c : Chg [] w W) => aliveW_at W (i.t.chg0 c))
  have HB := Lib.hid (fun W (c : Chg [] w W) => rightW_any p s mode room W (i.at'.chg c) i.m i.r i.s)
  rw [hR] at HB
  have HT := Lib.hid (fun W (c : Chg [] w W) => i.toldBad hR hok 10 (by decide) W c)
  clear i hok hR
  obtain ⟨fl, mn, tm, ia, il, ic, its, wa, wl, wc, ws, ga, gl, gc, gs, sa, sl, sc, ss⟩ := p
  unfold PlanD.cells at HB HT ⊢
  dsimp only at HB HT ⊢
  have CB : Chg [] w ((w.alloc (.cells #[.int .u32 fl, .int .u8 mn, .int .u8 tm, .slice ia il ic, .slice wa wl wc, .slice ga gl gc, .slice sa sl sc] 74)).alloc (.cells #[.string s, .int .i64 mode, .int .i64 room] 76)) := ((Chg.refl _ _).alloc _).alloc _
  have D1 := Lib.hid (And.intro CB (And.intro (alloc_keeps (o := .cells #[.string s, .int .i64 mode, .int .i64 room] 76) (alloc_heap w (.cells #[.int .u32 fl, .int .u8 mn, .int .u8 tm, .slice ia il ic, .slice wa wl wc, .slice ga gl gc, .slice sa sl sc] 74))) (alloc2_heap w (.cells #[.int .u32 fl, .int .u8 mn, .int .u8 tm, .slice ia il ic, .slice wa wl wc, .slice ga gl gc, .slice sa sl sc] 74) (.cells #[.string s, .int .i64 mode, .int .i64 room] 76))))
  clear CB
  go_enter Tryz.func4, Tryz.ntmps4
  go_wp2_with fail
  generalize World.alloc _ _ = w1 at *
  refine (HA.out _ D1.out.1).mono ?_
  rintro e w2 ⟨rfl, C⟩
  have D2 := Lib.hid (And.intro (D1.out.1.trans C (U := []) (by simp) (by simp)) (And.intro (C.heap D1.out.2.1 (by simp)) (C.heap D1.out.2.2 (by simp))))
  clear D1 C
  have p0 : w2.cell? ⟨w.heap.size, 0, none⟩ = some (.int .u32 fl) := by rw [cell_of_heap D2.out.2.1]; rfl
  have p1 : w2.cell? ⟨w.heap.size, 1, none⟩ = some (.int .u8 mn) := by rw [cell_of_heap D2.out.2.1]; rfl
  have p2 : w2.cell? ⟨w.heap.size, 2, none⟩ = some (.int .u8 tm) := by rw [cell_of_heap D2.out.2.1]; rfl
  have p3 : w2.cell? ⟨w.heap.size, 3, none⟩ = some (.slice ia il ic) := by rw [cell_of_heap D2.out.2.1]; rfl
  have p4 : w2.cell? ⟨w.heap.size, 4, none⟩ = some (.slice wa wl wc) := by rw [cell_of_heap D2.out.2.1]; rfl
  have p5 : w2.cell? ⟨w.heap.size, 5, none⟩ = some (.slice ga gl gc) := by rw [cell_of_heap D2.out.2.1]; rfl
  have p6 : w2.cell? ⟨w.heap.size, 6, none⟩ = some (.slice sa sl sc) := by rw [cell_of_heap D2.out.2.1]; rfl
  have q0 : w2.cell? ⟨w.heap.size + 1, 0, none⟩ = some (.string s) := by rw [cell_of_heap D2.out.2.2]; rfl
  have q1 : w2.cell? ⟨w.heap.size + 1, 1, none⟩ = some (.int .i64 mode) := by rw [cell_of_heap D2.out.2.2]; rfl
  have q2 : w2.cell? ⟨w.heap.size + 1, 2, none⟩ = some (.int .i64 room) := by rw [cell_of_heap D2.out.2.2]; rfl
  go_wp2_with fail
  refine (HB.out _ D2.out.1).mono ?_
  rintro e w3 ⟨rfl, C⟩
  have D3 := Lib.hid (And.intro (D2.out.1.trans C (U := []) (by simp) (by simp)) (And.intro (C.heap D2.out.2.1 (by simp)) (C.heap D2.out.2.2 (by simp))))
  clear D2 C HB p0 p1 p2 p3 p4 p5 p6 q0 q1 q2
  have p0 : w3.cell? ⟨w.heap.size, 0, none⟩ = some (.int .u32 fl) := by rw [cell_of_heap D3.out.2.1]; rfl
  have p1 : w3.cell? ⟨w.heap.size, 1, none⟩ = some (.int .u8 mn) := by rw [cell_of_heap D3.out.2.1]; rfl
  have p2 : w3.cell? ⟨w.heap.size, 2, none⟩ = some (.int .u8 tm) := by rw [cell_of_heap D3.out.2.1]; rfl
  have p3 : w3.cell? ⟨w.heap.size, 3, none⟩ = some (.slice ia il ic) := by rw [cell_of_heap D3.out.2.1]; rfl
  have p4 : w3.cell? ⟨w.heap.size, 4, none⟩ = some (.slice wa wl wc) := by rw [cell_of_heap D3.out.2.1]; rfl
  have p5 : w3.cell? ⟨w.heap.size, 5, none⟩ = some (.slice ga gl gc) := by rw [cell_of_heap D3.out.2.1]; rfl
  have p6 : w3.cell? ⟨w.heap.size, 6, none⟩ = some (.slice sa sl sc) := by rw [cell_of_heap D3.out.2.1]; rfl
  have q0 : w3.cell? ⟨w.heap.size + 1, 0, none⟩ = some (.string s) := by rw [cell_of_heap D3.out.2.2]; rfl
  have q1 : w3.cell? ⟨w.heap.size + 1, 1, none⟩ = some (.int .i64 mode) := by rw [cell_of_heap D3.out.2.2]; rfl
  have q2 : w3.cell? ⟨w.heap.size + 1, 2, none⟩ = some (.int .i64 room) := by rw [cell_of_heap D3.out.2.2]; rfl
  go_wp2_with fail
  refine (HT.out _ D3.out.1).mono ?_
  rintro e w4 ⟨rfl, C⟩
  have D4 := Lib.hid (D3.out.1.trans C (U := []) (by simp) (by simp))
  clear D3 C p0 p1 p2 p3 p4 p5 p6 q0 q1 q2
  go_wp2_with fail
  go_ret
  exact ⟨rfl, D4.out.alloc _⟩
set_option maxHeartbeats 16000000 in
theorem rest_ok (p : PlanD) (s : ByteArray) (mode room : Int) (w : World) (i : InOk p s w) (hR : rightB p s mode room = true) (hok : okP p = true) :
    Calls Tryz.prog 4 #[.agg p.cells, .agg #[.string s, .int .i64 mode, .int .i64 room]] w fun e w' => e = .returned (.bool true) ∧ Chg [] w w' := by
  have HA := Lib.hid (fun W (c : Chg [] w W) => aliveW_at W (i.t.chg0 c))
  have HB := Lib.hid (fun W (c : Chg [] w W) => rightW_any p s mode room W (i.at'.chg c) i.m i.r i.s)
  rw [hR] at HB
  have HT := Lib.hid (fun W (c : Chg [] w W) => i.told hR hok 10 (by decide) W c)
  clear i hok hR
  obtain ⟨fl, mn, tm, ia, il, ic, its, wa, wl, wc, ws, ga, gl, gc, gs, sa, sl, sc, ss⟩ := p
  unfold PlanD.cells at HB HT ⊢
  dsimp only at HB HT ⊢
  have CB : Chg [] w ((w.alloc (.cells #[.int .u32 fl, .int .u8 mn, .int .u8 tm, .slice ia il ic, .slice wa wl wc, .slice ga gl gc, .slice sa sl sc] 74)).alloc (.cells #[.string s, .int .i64 mode, .int .i64 room] 76)) := ((Chg.refl _ _).alloc _).alloc _
  have D1 := Lib.hid (And.intro CB (And.intro (alloc_keeps (o := .cells #[.string s, .int .i64 mode, .int .i64 room] 76) (alloc_heap w (.cells #[.int .u32 fl, .int .u8 mn, .int .u8 tm, .slice ia il ic, .slice wa wl wc, .slice ga gl gc, .slice sa sl sc] 74))) (alloc2_heap w (.cells #[.int .u32 fl, .int .u8 mn, .int .u8 tm, .slice ia il ic, .slice wa wl wc, .slice ga gl gc, .slice sa sl sc] 74) (.cells #[.string s, .int .i64 mode, .int .i64 room] 76))))
  clear CB
  go_enter Tryz.func4, Tryz.ntmps4
  go_wp2_with fail
  generalize World.alloc _ _ = w1 at *
  refine (HA.out _ D1.out.1).mono ?_
  rintro e w2 ⟨rfl, C⟩
  have D2 := Lib.hid (And.intro (D1.out.1.trans C (U := []) (by simp) (by simp)) (And.intro (C.heap D1.out.2.1 (by simp)) (C.heap D1.out.2.2 (by simp))))
  clear D1 C
  have p0 : w2.cell? ⟨w.heap.size, 0, none⟩ = some (.int .u32 fl) := by rw [cell_of_heap D2.out.2.1]; rfl
  have p1 : w2.cell? ⟨w.heap.size, 1, none⟩ = some (.int .u8 mn) := by rw [cell_of_heap D2.out.2.1]; rfl
  have p2 : w2.cell? ⟨w.heap.size, 2, none⟩ = some (.int .u8 tm) := by rw [cell_of_heap D2.out.2.1]; rfl
  have p3 : w2.cell? ⟨w.heap.size, 3, none⟩ = some (.slice ia il ic) := by rw [cell_of_heap D2.out.2.1]; rfl
  have p4 : w2.cell? ⟨w.heap.size, 4, none⟩ = some (.slice wa wl wc) := by rw [cell_of_heap D2.out.2.1]; rfl
  have p5 : w2.cell? ⟨w.heap.size, 5, none⟩ = some (.slice ga gl gc) := by rw [cell_of_heap D2.out.2.1]; rfl
  have p6 : w2.cell? ⟨w.heap.size, 6, none⟩ = some (.slice sa sl sc) := by rw [cell_of_heap D2.out.2.1]; rfl
  have q0 : w2.cell? ⟨w.heap.size + 1, 0, none⟩ = some (.string s) := by rw [cell_of_heap D2.out.2.2]; rfl
  have q1 : w2.cell? ⟨w.heap.size + 1, 1, none⟩ = some (.int .i64 mode) := by rw [cell_of_heap D2.out.2.2]; rfl
  have q2 : w2.cell? ⟨w.heap.size + 1, 2, none⟩ = some (.int .i64 room) := by rw [cell_of_heap D2.out.2.2]; rfl
  go_wp2_with fail
  refine (HB.out _ D2.out.1).mono ?_
  rintro e w3 ⟨rfl, C⟩
  have D3 := Lib.hid (And.intro (D2.out.1.trans C (U := []) (by simp) (by simp)) (And.intro (C.heap D2.out.2.1 (by simp)) (C.heap D2.out.2.2 (by simp))))
  clear D2 C HB p0 p1 p2 p3 p4 p5 p6 q0 q1 q2
  have p0 : w3.cell? ⟨w.heap.size, 0, none⟩ = some (.int .u32 fl) := by rw [cell_of_heap D3.out.2.1]; rfl
  have p1 : w3.cell? ⟨w.heap.size, 1, none⟩ = some (.int .u8 mn) := by rw [cell_of_heap D3.out.2.1]; rfl
  have p2 : w3.cell? ⟨w.heap.size, 2, none⟩ = some (.int .u8 tm) := by rw [cell_of_heap D3.out.2.1]; rfl
  have p3 : w3.cell? ⟨w.heap.size, 3, none⟩ = some (.slice ia il ic) := by rw [cell_of_heap D3.out.2.1]; rfl
  have p4 : w3.cell? ⟨w.heap.size, 4, none⟩ = some (.slice wa wl wc) := by rw [cell_of_heap D3.out.2.1]; rfl
  have p5 : w3.cell? ⟨w.heap.size, 5, none⟩ = some (.slice ga gl gc) := by rw [cell_of_heap D3.out.2.1]; rfl
  have p6 : w3.cell? ⟨w.heap.size, 6, none⟩ = some (.slice sa sl sc) := by rw [cell_of_heap D3.out.2.1]; rfl
  have q0 : w3.cell? ⟨w.heap.size + 1, 0, none⟩ = some (.string s) := by rw [cell_of_heap D3.out.2.2]; rfl
  have q1 : w3.cell? ⟨w.heap.size + 1, 1, none⟩ = some (.int .i64 mode) := by rw [cell_of_heap D3.out.2.2]; rfl
  have q2 : w3.cell? ⟨w.heap.size + 1, 2, none⟩ = some (.int .i64 room) := by rw [cell_of_heap D3.out.2.2]; rfl
  go_wp2_with fail
  refine (HT.out _ D3.out.1).mono ?_
  rintro e w4 ⟨o, s', ao, c, ae, ce, E', cur, hall, rfl, C4, hmap, hbnd, hW⟩
  have hsh : Shape ⟨fl, mn, tm⟩ o s'.t := all_shape hall rfl
  have HEF := Lib.hid (fun W (c : Chg [] w4 W) => effR_of (hW [] (by simp) W c).2.1 (hW [] (by simp) W c).2.2)
  have hnm : E'.length ≤ maxLen := row_few (hW [] (by simp) w4 (Chg.refl _ _)).2.1
  clear hW hbnd
  obtain ⟨oc, hoc⟩ : ∃ oc, oc = (outR 10 o s'.b.l).1 := ⟨_, rfl⟩
  obtain ⟨ok2, hok2⟩ : ∃ x, x = (outR 10 o s'.b.l).2 := ⟨_, rfl⟩
  rw [← hoc, ← hok2]
  have HO : Hid (o = 4 → oc = 4) := Lib.hid (fun h => by rw [hoc, h]; rfl)
  clear hok2 hoc hall HT HA
  obtain ⟨⟨afl, amn, atm⟩, hA⟩ : ∃ a, a = s'.t.A := ⟨_, rfl⟩
  obtain ⟨t, ht⟩ : ∃ t, t = s'.t := ⟨_, rfl⟩
  rw [← ht] at hsh hmap hA ⊢
  clear ht
  obtain ⟨n, hn⟩ : ∃ n, n = E'.length := ⟨_, rfl⟩
  rw [← hn] at HEF hnm ⊢
  rw [← hA]
  have HS := Lib.hid (And.intro hsh (And.intro hmap (And.intro hA hn)))
  clear hsh hmap hA hn
  dsimp only
  have D4 := Lib.hid (And.intro (D3.out.1.trans C4 (U := []) (by simp) (by simp)) (And.intro (C4.heap D3.out.2.1 (by simp)) (C4.heap D3.out.2.2 (by simp))))
  clear D3 p0 p1 p2 p3 p4 p5 p6 q0 q1 q2
  go_upto_region 7 with (fail)
  have CW : Chg [] w4 ((w4.alloc (.cells #[.int .i64 oc, .int .i64 ok2, .slice ao 10 c, .slice ae n ce, .int .u32 afl, .int .u8 amn, .int .u8 atm, .bool true] 82)).alloc (.cells #[.slice ae n ce] 80)) := ((Chg.refl _ _).alloc _).alloc _
  have T5 := alloc_keeps (o := (.cells #[.slice ae n ce] 80)) (alloc_heap w4 (.cells #[.int .i64 oc, .int .i64 ok2, .slice ao 10 c, .slice ae n ce, .int .u32 afl, .int .u8 amn, .int .u8 atm, .bool true] 82))
  have L5 := alloc2_heap w4 (.cells #[.int .i64 oc, .int .i64 ok2, .slice ao 10 c, .slice ae n ce, .int .u32 afl, .int .u8 amn, .int .u8 atm, .bool true] 82) (.cells #[.slice ae n ce] 80)
  have D6 := Lib.hid (And.intro (D4.out.1.trans CW (U := []) (by simp) (by simp)) (And.intro (CW.heap D4.out.2.1 (by simp)) (And.intro T5 L5)))
  have HE6 := Lib.hid (HEF.out _ CW)
  have HEW := Lib.hid (fun W (c : Chg [] ((w4.alloc (.cells #[.int .i64 oc, .int .i64 ok2, .slice ao 10 c, .slice ae n ce, .int .u32 afl, .int .u8 amn, .int .u8 atm, .bool true] 82)).alloc (.cells #[.slice ae n ce] 80)) W) => HEF.out W (CW.trans c (U := []) (by simp) (by simp)))
  clear D4 CW T5 L5 HEF C4
  generalize World.alloc _ _ = w6 at *
  generalize w4.heap.size = b5 at *
  have hs := HS.out
  rcases hs.1 with ⟨y, hy, hok, ho, hA2⟩ | ⟨y, r, M, z, hy, hok, hz, hzA, hcnt, hcase⟩
  · have hl : n = 1 := by rw [hs.2.2.2, ← List.length_map (f := EfD.pl), hs.2.1, hy]; rfl
    obtain ⟨y', hy0, hyp⟩ := pl_at (hs.2.1.trans hy) (k := 0) (y := y) rfl
    obtain ⟨bl, off, rfl, x0, x1, x2, x3, x4, x5, x6, x7⟩ := eff_at HE6.out hy0
    rw [Nat.zero_mul, Nat.add_zero] at x6
    have hyo : y'.ok = false := by rw [← hyp] at hok; exact hok
    rw [hyo] at x6
    have hAA := hs.2.2.1.trans hA2
    injection hAA with h1 h2 h3
    have h4 := HO.out ho
    clear hs hy hok ho hA2 hy0 hyp x0 x1 x2 x3 x4 x5 x7 hyo HE6 HEW HS HO
    subst hl h1 h2 h3 h4
    have p0 : w6.cell? ⟨w.heap.size, 0, none⟩ = some (.int .u32 afl) := by rw [cell_of_heap D6.out.2.1]; rfl
    have p1 : w6.cell? ⟨w.heap.size, 1, none⟩ = some (.int .u8 amn) := by rw [cell_of_heap D6.out.2.1]; rfl
    have p2 : w6.cell? ⟨w.heap.size, 2, none⟩ = some (.int .u8 atm) := by rw [cell_of_heap D6.out.2.1]; rfl
    have t0 : w6.cell? ⟨b5, 0, none⟩ = some (.int .i64 4) := by rw [cell_of_heap D6.out.2.2.1]; rfl
    have t4 : w6.cell? ⟨b5, 4, none⟩ = some (.int .u32 afl) := by rw [cell_of_heap D6.out.2.2.1]; rfl
    have t5 : w6.cell? ⟨b5, 5, none⟩ = some (.int .u8 amn) := by rw [cell_of_heap D6.out.2.2.1]; rfl
    have t6 : w6.cell? ⟨b5, 6, none⟩ = some (.int .u8 atm) := by rw [cell_of_heap D6.out.2.2.1]; rfl
    have l0 : w6.cell? ⟨b5 + 1, 0, none⟩ = some (.slice (some ⟨bl, off, none⟩) 1 ce) := by rw [cell_of_heap D6.out.2.2.2]; rfl
    have D7 := Lib.hid D6.out.1
    clear D6
    go_wp2_with fail
    go_ret
    exact ⟨rfl, D7.out⟩
  · have hlen : n = M.length + 3 := by rw [hs.2.2.2, ← List.length_map (f := EfD.pl), hs.2.1, hy]; simp
    obtain ⟨N1, hN1⟩ : ∃ N1 : Nat, N1 = M.length + 2 := ⟨_, rfl⟩
    obtain ⟨y', hy0, hyp⟩ := pl_at (hs.2.1.trans hy) (k := 0) (y := y) rfl
    obtain ⟨r', hr0, hrp⟩ := pl_at (hs.2.1.trans hy) (k := 1) (y := r) rfl
    obtain ⟨z', hz0, hzp⟩ := pl_at (hs.2.1.trans hy) (k := N1) (y := z) (by rw [hN1]; simp)
    obtain ⟨bl, off, rfl, hx⟩ := HE6.out.2 (by omega)
    have X0 := hx 0 y' hy0
    have X1 := hx 1 r' hr0
    obtain ⟨x0, x1, x2, x3, x4, x5, x6, x7⟩ := hx N1 z' hz0
    obtain ⟨zk, ⟨zfl, zmn, ztm⟩, zao, zcap, zzs, zn, zok⟩ := z'
    subst hzp hyp hrp
    have hzk : zk = 1 := hz.1
    have hz1 : zfl = fl := hz.2.1
    have hz2 : zmn = mn := hz.2.2.1
    have hz3 : ztm = tm := hz.2.2.2
    subst hzk hz1 hz2 hz3
    dsimp only at x0 x1 x2 x3 x4 x5 x6
    have y6 := X0.2.2.2.2.2.2.1
    have r6 := X1.2.2.2.2.2.2.1
    rw [show y'.ok = true from hok, Nat.zero_mul, Nat.add_zero] at y6
    obtain ⟨rok, hrok⟩ : ∃ b, b = r'.ok := ⟨_, rfl⟩
    rw [← hrok, Nat.one_mul] at r6
    obtain ⟨q, hq⟩ : ∃ q, q = cntE startV t.E := ⟨_, rfl⟩
    have HCN : Hid (∀ W, Chg [] w6 W → ∀ av m cv, (SrcAt W av m cv (valsOf .u8 startV) → Calls Tryz.prog 29 #[.slice av m cv, .pointer (some ⟨b5 + 1, 0, none⟩)] W fun e w' => e = .returned (.int .i64 (q : Nat)) ∧ Chg [] W w') ∧
        (SrcAt W av m cv (valsOf .u8 stopV) → Calls Tryz.prog 29 #[.slice av m cv, .pointer (some ⟨b5 + 1, 0, none⟩)] W fun e w' => e = .returned (.int .i64 (q : Nat)) ∧ Chg [] W w')) := Lib.hid (fun W cW av m cv => by
      have hl0 : W.cell? ⟨b5 + 1, 0, none⟩ = some (.slice (some ⟨bl, off, none⟩) n ce) := by rw [cell_of_heap (cW.heap D6.out.2.2.2 (by simp))]; rfl
      refine ⟨fun hv => ?_, fun hv => ?_⟩
      · have := count_any (b5 + 1) _ n ce E' av m cv startV W hl0 (HEW.out W cW) hnm hv
        rw [hs.2.1, ← hq] at this
        exact this
      · have := count_any (b5 + 1) _ n ce E' av m cv stopV W hl0 (HEW.out W cW) hnm hv
        rw [hs.2.1, ← hcnt, ← hq] at this
        exact this)
    have hcase2 : (rok = false ∧ n = 3 ∧ oc = 4) ∨ (rok = true ∧ q = 1 ∧ (zok = true ∨ oc = 4)) := by
      rcases hcase with ⟨c1, c2, c3⟩ | ⟨c1, c2, c3⟩
      · exact Or.inl ⟨hrok.trans c1, by rw [hlen, c2]; rfl, HO.out c3⟩
      · exact Or.inr ⟨hrok.trans c1, hq.trans c2, c3.imp id HO.out⟩
    have hatt : zok = true → afl = zfl ∧ amn = zmn ∧ atm = ztm := fun h => by
      have := hs.2.2.1.trans (hzA h)
      injection this with a1 a2 a3
      exact ⟨a1, a2, a3⟩
    have e1 : (n : Int) - 1 = (N1 : Int) := by omega
    have g0 : ((n : Int) == 0) = false := beq_eq_false_iff_ne.2 (by omega)
    have g3 : decide ((n : Int) < 3) = false := decide_eq_false (by omega)
    have i0 : 0 < n := by omega
    have i1 : 1 < n := by omega
    have iN : N1 < n := by omega
    have HCS := Lib.hid (And.intro hcase2 hatt)
    unfold maxLen at hnm
    clear hcase2 hatt hcase hzA hz hok hcnt hy hs hlen hN1 hy0 hr0 hz0 hx X0 X1 x7 HS HO HE6 HEW hrok hq
    have l0 : w6.cell? ⟨b5 + 1, 0, none⟩ = some (.slice (some ⟨bl, off, none⟩) n ce) := by rw [cell_of_heap D6.out.2.2.2]; rfl
    go_upto_region 12 with (fail)
    have B8 := alloc_heap w6 (.cells #[.int .i64 1, .int .u32 zfl, .int .u8 zmn, .int .u8 ztm, .slice zao zzs.length zcap, .int .i64 zn, .bool zok] 86)
    have C8 : Chg [] w6 (w6.alloc (.cells #[.int .i64 1, .int .u32 zfl, .int .u8 zmn, .int .u8 ztm, .slice zao zzs.length zcap, .int .i64 zn, .bool zok] 86)) := (Chg.refl _ _).alloc _
    have D8 := Lib.hid (And.intro (D6.out.1.trans C8 (U := []) (by simp) (by simp)) (And.intro (C8.heap D6.out.2.1 (by simp)) (And.intro (C8.heap D6.out.2.2.1 (by simp)) (And.intro (C8.heap D6.out.2.2.2 (by simp)) (And.intro B8 (C8.cell r6 (by simp)))))))
    have HC8 := Lib.hid C8
    clear D6 B8 C8 x0 x1 x2 x3 x4 x5 x6 y6 r6 l0
    generalize w6.alloc _ = w7 at *
    generalize w6.heap.size = b8 at *
    rcases HCS.out.1 with ⟨h1, h2, h3⟩ | ⟨h1, h2, h3⟩
    · have g5 : ((n : Int) == 3) = true := by rw [h2]; rfl
      subst h1 h3
      clear h2
      cases zok with
      | false =>
        clear HCS
        have p0 : w7.cell? ⟨w.heap.size, 0, none⟩ = some (.int .u32 zfl) := by rw [cell_of_heap D8.out.2.1]; rfl
        have p1 : w7.cell? ⟨w.heap.size, 1, none⟩ = some (.int .u8 zmn) := by rw [cell_of_heap D8.out.2.1]; rfl
        have p2 : w7.cell? ⟨w.heap.size, 2, none⟩ = some (.int .u8 ztm) := by rw [cell_of_heap D8.out.2.1]; rfl
        have t0 : w7.cell? ⟨b5, 0, none⟩ = some (.int .i64 4) := by rw [cell_of_heap D8.out.2.2.1]; rfl
        have t4 : w7.cell? ⟨b5, 4, none⟩ = some (.int .u32 afl) := by rw [cell_of_heap D8.out.2.2.1]; rfl
        have t5 : w7.cell? ⟨b5, 5, none⟩ = some (.int .u8 amn) := by rw [cell_of_heap D8.out.2.2.1]; rfl
        have t6 : w7.cell? ⟨b5, 6, none⟩ = some (.int .u8 atm) := by rw [cell_of_heap D8.out.2.2.1]; rfl
        have l0 : w7.cell? ⟨b5 + 1, 0, none⟩ = some (.slice (some ⟨bl, off, none⟩) n ce) := by rw [cell_of_heap D8.out.2.2.2.1]; rfl
        have e3 : w7.cell? ⟨b8, 0, none⟩ = some (.int .i64 1) := by rw [cell_of_heap D8.out.2.2.2.2.1]; rfl
        have e4 : w7.cell? ⟨b8, 1, none⟩ = some (.int .u32 zfl) := by rw [cell_of_heap D8.out.2.2.2.2.1]; rfl
        have e5 : w7.cell? ⟨b8, 2, none⟩ = some (.int .u8 zmn) := by rw [cell_of_heap D8.out.2.2.2.2.1]; rfl
        have e6 : w7.cell? ⟨b8, 3, none⟩ = some (.int .u8 ztm) := by rw [cell_of_heap D8.out.2.2.2.2.1]; rfl
        have e7 : w7.cell? ⟨b8, 6, none⟩ = some (.bool false) := by rw [cell_of_heap D8.out.2.2.2.2.1]; rfl
        go_wp2_with fail
        clear p0 p1 p2 t0 t4 t5 t6 l0 e3 e4 e5 e6 e7
        refine (vStart_any _).mono ?_
        rintro e w8 ⟨a1, c1, rfl, S1, _, C1, _⟩
        have K1 := Lib.hid C1
        have HS1 := Lib.hid S1
        clear C1 S1
        go_wp2_with fail
        refine ((HCN.out _ (HC8.out.trans K1.out (U := []) (by simp) (by simp)) _ _ _).1 HS1.out).mono ?_
        rintro e w9 ⟨rfl, C2⟩
        have K2 := Lib.hid (K1.out.trans C2 (U := []) (by simp) (by simp))
        clear C2 HS1 K1
        go_wp2_with fail
        refine (vStop_any _).mono ?_
        rintro e w10 ⟨a2, c2, rfl, S2, _, C3, _⟩
        have K3 := Lib.hid (K2.out.trans C3 (U := []) (by simp) (by simp))
        have HS2 := Lib.hid S2
        clear C3 S2 K2
        go_wp2_with fail
        refine ((HCN.out _ (HC8.out.trans K3.out (U := []) (by simp) (by simp)) _ _ _).2 HS2.out).mono ?_
        rintro e w11 ⟨rfl, C4⟩
        have K4 := Lib.hid (K3.out.trans C4 (U := []) (by simp) (by simp))
        clear C4 HS2 K3
        have r6 := K4.out.cell D8.out.2.2.2.2.2 (by simp)
        have l0 : w11.cell? ⟨b5 + 1, 0, none⟩ = some (.slice (some ⟨bl, off, none⟩) n ce) := by rw [cell_of_heap (K4.out.heap D8.out.2.2.2.1 (by simp))]; rfl
        have t0 : w11.cell? ⟨b5, 0, none⟩ = some (.int .i64 4) := by rw [cell_of_heap (K4.out.heap D8.out.2.2.1 (by simp))]; rfl
        go_wp2_with fail
        go_ret
        exact ⟨rfl, D8.out.1.trans K4.out (U := []) (by simp) (by simp)⟩
      | true =>
        obtain ⟨rfl, rfl, rfl⟩ := HCS.out.2 rfl
        clear HCS
        have p0 : w7.cell? ⟨w.heap.size, 0, none⟩ = some (.int .u32 afl) := by rw [cell_of_heap D8.out.2.1]; rfl
        have p1 : w7.cell? ⟨w.heap.size, 1, none⟩ = some (.int .u8 amn) := by rw [cell_of_heap D8.out.2.1]; rfl
        have p2 : w7.cell? ⟨w.heap.size, 2, none⟩ = some (.int .u8 atm) := by rw [cell_of_heap D8.out.2.1]; rfl
        have t0 : w7.cell? ⟨b5, 0, none⟩ = some (.int .i64 4) := by rw [cell_of_heap D8.out.2.2.1]; rfl
        have t4 : w7.cell? ⟨b5, 4, none⟩ = some (.int .u32 afl) := by rw [cell_of_heap D8.out.2.2.1]; rfl
        have t5 : w7.cell? ⟨b5, 5, none⟩ = some (.int .u8 amn) := by rw [cell_of_heap D8.out.2.2.1]; rfl
        have t6 : w7.cell? ⟨b5, 6, none⟩ = some (.int .u8 atm) := by rw [cell_of_heap D8.out.2.2.1]; rfl
        have l0 : w7.cell? ⟨b5 + 1, 0, none⟩ = some (.slice (some ⟨bl, off, none⟩) n ce) := by rw [cell_of_heap D8.out.2.2.2.1]; rfl
        have e3 : w7.cell? ⟨b8, 0, none⟩ = some (.int .i64 1) := by rw [cell_of_heap D8.out.2.2.2.2.1]; rfl
        have e4 : w7.cell? ⟨b8, 1, none⟩ = some (.int .u32 afl) := by rw [cell_of_heap D8.out.2.2.2.2.1]; rfl
        have e5 : w7.cell? ⟨b8, 2, none⟩ = some (.int .u8 amn) := by rw [cell_of_heap D8.out.2.2.2.2.1]; rfl
        have e6 : w7.cell? ⟨b8, 3, none⟩ = some (.int .u8 atm) := by rw [cell_of_heap D8.out.2.2.2.2.1]; rfl
        have e7 : w7.cell? ⟨b8, 6, none⟩ = some (.bool true) := by rw [cell_of_heap D8.out.2.2.2.2.1]; rfl
        go_wp2_with fail
        clear p0 p1 p2 t0 t4 t5 t6 l0 e3 e4 e5 e6 e7
        refine (vStart_any _).mono ?_
        rintro e w8 ⟨a1, c1, rfl, S1, _, C1, _⟩
        have K1 := Lib.hid C1
        have HS1 := Lib.hid S1
        clear C1 S1
        go_wp2_with fail
        refine ((HCN.out _ (HC8.out.trans K1.out (U := []) (by simp) (by simp)) _ _ _).1 HS1.out).mono ?_
        rintro e w9 ⟨rfl, C2⟩
        have K2 := Lib.hid (K1.out.trans C2 (U := []) (by simp) (by simp))
        clear C2 HS1 K1
        go_wp2_with fail
        refine (vStop_any _).mono ?_
        rintro e w10 ⟨a2, c2, rfl, S2, _, C3, _⟩
        have K3 := Lib.hid (K2.out.trans C3 (U := []) (by simp) (by simp))
        have HS2 := Lib.hid S2
        clear C3 S2 K2
        go_wp2_with fail
        refine ((HCN.out _ (HC8.out.trans K3.out (U := []) (by simp) (by simp)) _ _ _).2 HS2.out).mono ?_
        rintro e w11 ⟨rfl, C4⟩
        have K4 := Lib.hid (K3.out.trans C4 (U := []) (by simp) (by simp))
        clear C4 HS2 K3
        have r6 := K4.out.cell D8.out.2.2.2.2.2 (by simp)
        have l0 : w11.cell? ⟨b5 + 1, 0, none⟩ = some (.slice (some ⟨bl, off, none⟩) n ce) := by rw [cell_of_heap (K4.out.heap D8.out.2.2.2.1 (by simp))]; rfl
        have t0 : w11.cell? ⟨b5, 0, none⟩ = some (.int .i64 4) := by rw [cell_of_heap (K4.out.heap D8.out.2.2.1 (by simp))]; rfl
        go_wp2_with fail
        go_ret
        exact ⟨rfl, D8.out.1.trans K4.out (U := []) (by simp) (by simp)⟩
    · subst h1 h2
      cases zok with
      | false =>
        have h4 : oc = 4 := h3.resolve_left (by decide)
        subst h4
        clear HCS
        have p0 : w7.cell? ⟨w.heap.size, 0, none⟩ = some (.int .u32 zfl) := by rw [cell_of_heap D8.out.2.1]; rfl
        have p1 : w7.cell? ⟨w.heap.size, 1, none⟩ = some (.int .u8 zmn) := by rw [cell_of_heap D8.out.2.1]; rfl
        have p2 : w7.cell? ⟨w.heap.size, 2, none⟩ = some (.int .u8 ztm) := by rw [cell_of_heap D8.out.2.1]; rfl
        have t0 : w7.cell? ⟨b5, 0, none⟩ = some (.int .i64 4) := by rw [cell_of_heap D8.out.2.2.1]; rfl
        have t4 : w7.cell? ⟨b5, 4, none⟩ = some (.int .u32 afl) := by rw [cell_of_heap D8.out.2.2.1]; rfl
        have t5 : w7.cell? ⟨b5, 5, none⟩ = some (.int .u8 amn) := by rw [cell_of_heap D8.out.2.2.1]; rfl
        have t6 : w7.cell? ⟨b5, 6, none⟩ = some (.int .u8 atm) := by rw [cell_of_heap D8.out.2.2.1]; rfl
        have l0 : w7.cell? ⟨b5 + 1, 0, none⟩ = some (.slice (some ⟨bl, off, none⟩) n ce) := by rw [cell_of_heap D8.out.2.2.2.1]; rfl
        have e3 : w7.cell? ⟨b8, 0, none⟩ = some (.int .i64 1) := by rw [cell_of_heap D8.out.2.2.2.2.1]; rfl
        have e4 : w7.cell? ⟨b8, 1, none⟩ = some (.int .u32 zfl) := by rw [cell_of_heap D8.out.2.2.2.2.1]; rfl
        have e5 : w7.cell? ⟨b8, 2, none⟩ = some (.int .u8 zmn) := by rw [cell_of_heap D8.out.2.2.2.2.1]; rfl
        have e6 : w7.cell? ⟨b8, 3, none⟩ = some (.int .u8 ztm) := by rw [cell_of_heap D8.out.2.2.2.2.1]; rfl
        have e7 : w7.cell? ⟨b8, 6, none⟩ = some (.bool false) := by rw [cell_of_heap D8.out.2.2.2.2.1]; rfl
        go_wp2_with fail
        clear p0 p1 p2 t0 t4 t5 t6 l0 e3 e4 e5 e6 e7
        refine (vStart_any _).mono ?_
        rintro e w8 ⟨a1, c1, rfl, S1, _, C1, _⟩
        have K1 := Lib.hid C1
        have HS1 := Lib.hid S1
        clear C1 S1
        go_wp2_with fail
        refine ((HCN.out _ (HC8.out.trans K1.out (U := []) (by simp) (by simp)) _ _ _).1 HS1.out).mono ?_
        rintro e w9 ⟨rfl, C2⟩
        have K2 := Lib.hid (K1.out.trans C2 (U := []) (by simp) (by simp))
        clear C2 HS1 K1
        go_wp2_with fail
        refine (vStop_any _).mono ?_
        rintro e w10 ⟨a2, c2, rfl, S2, _, C3, _⟩
        have K3 := Lib.hid (K2.out.trans C3 (U := []) (by simp) (by simp))
        have HS2 := Lib.hid S2
        clear C3 S2 K2
        go_wp2_with fail
        refine ((HCN.out _ (HC8.out.trans K3.out (U := []) (by simp) (by simp)) _ _ _).2 HS2.out).mono ?_
        rintro e w11 ⟨rfl, C4⟩
        have K4 := Lib.hid (K3.out.trans C4 (U := []) (by simp) (by simp))
        clear C4 HS2 K3
        have r6 := K4.out.cell D8.out.2.2.2.2.2 (by simp)
        have l0 : w11.cell? ⟨b5 + 1, 0, none⟩ = some (.slice (some ⟨bl, off, none⟩) n ce) := by rw [cell_of_heap (K4.out.heap D8.out.2.2.2.1 (by simp))]; rfl
        have t0 : w11.cell? ⟨b5, 0, none⟩ = some (.int .i64 4) := by rw [cell_of_heap (K4.out.heap D8.out.2.2.1 (by simp))]; rfl
        go_wp2_with fail
        clear r6 l0 t0
        refine (vStart_any _).mono ?_
        rintro e w12 ⟨a3, c3, rfl, S3, _, C5, _⟩
        have K5 := Lib.hid (K4.out.trans C5 (U := []) (by simp) (by simp))
        have HS3 := Lib.hid S3
        clear C5 S3 K4
        go_wp2_with fail
        refine ((HCN.out _ (HC8.out.trans K5.out (U := []) (by simp) (by simp)) _ _ _).1 HS3.out).mono ?_
        rintro e w13 ⟨rfl, C6⟩
        have K6 := Lib.hid (K5.out.trans C6 (U := []) (by simp) (by simp))
        have t0 : w13.cell? ⟨b5, 0, none⟩ = some (.int .i64 4) := by rw [cell_of_heap (K6.out.heap D8.out.2.2.1 (by simp))]; rfl
        have e7 : w13.cell? ⟨b8, 6, none⟩ = some (.bool false) := by rw [cell_of_heap (K6.out.heap D8.out.2.2.2.2.1 (by simp))]; rfl
        clear C6 HS3 K5
        go_wp2_with fail
        go_ret
        exact ⟨rfl, D8.out.1.trans K6.out (U := []) (by simp) (by simp)⟩
      | true =>
        obtain ⟨rfl, rfl, rfl⟩ := HCS.out.2 rfl
        clear HCS
        have p0 : w7.cell? ⟨w.heap.size, 0, none⟩ = some (.int .u32 afl) := by rw [cell_of_heap D8.out.2.1]; rfl
        have p1 : w7.cell? ⟨w.heap.size, 1, none⟩ = some (.int .u8 amn) := by rw [cell_of_heap D8.out.2.1]; rfl
        have p2 : w7.cell? ⟨w.heap.size, 2, none⟩ = some (.int .u8 atm) := by rw [cell_of_heap D8.out.2.1]; rfl
        have t0 : w7.cell? ⟨b5, 0, none⟩ = some (.int .i64 oc) := by rw [cell_of_heap D8.out.2.2.1]; rfl
        have t4 : w7.cell? ⟨b5, 4, none⟩ = some (.int .u32 afl) := by rw [cell_of_heap D8.out.2.2.1]; rfl
        have t5 : w7.cell? ⟨b5, 5, none⟩ = some (.int .u8 amn) := by rw [cell_of_heap D8.out.2.2.1]; rfl
        have t6 : w7.cell? ⟨b5, 6, none⟩ = some (.int .u8 atm) := by rw [cell_of_heap D8.out.2.2.1]; rfl
        have l0 : w7.cell? ⟨b5 + 1, 0, none⟩ = some (.slice (some ⟨bl, off, none⟩) n ce) := by rw [cell_of_heap D8.out.2.2.2.1]; rfl
        have e3 : w7.cell? ⟨b8, 0, none⟩ = some (.int .i64 1) := by rw [cell_of_heap D8.out.2.2.2.2.1]; rfl
        have e4 : w7.cell? ⟨b8, 1, none⟩ = some (.int .u32 afl) := by rw [cell_of_heap D8.out.2.2.2.2.1]; rfl
        have e5 : w7.cell? ⟨b8, 2, none⟩ = some (.int .u8 amn) := by rw [cell_of_heap D8.out.2.2.2.2.1]; rfl
        have e6 : w7.cell? ⟨b8, 3, none⟩ = some (.int .u8 atm) := by rw [cell_of_heap D8.out.2.2.2.2.1]; rfl
        have e7 : w7.cell? ⟨b8, 6, none⟩ = some (.bool true) := by rw [cell_of_heap D8.out.2.2.2.2.1]; rfl
        go_wp2_with fail
        clear p0 p1 p2 t0 t4 t5 t6 l0 e3 e4 e5 e6 e7
        refine (vStart_any _).mono ?_
        rintro e w8 ⟨a1, c1, rfl, S1, _, C1, _⟩
        have K1 := Lib.hid C1
        have HS1 := Lib.hid S1
        clear C1 S1
        go_wp2_with fail
        refine ((HCN.out _ (HC8.out.trans K1.out (U := []) (by simp) (by simp)) _ _ _).1 HS1.out).mono ?_
        rintro e w9 ⟨rfl, C2⟩
        have K2 := Lib.hid (K1.out.trans C2 (U := []) (by simp) (by simp))
        clear C2 HS1 K1
        go_wp2_with fail
        refine (vStop_any _).mono ?_
        rintro e w10 ⟨a2, c2, rfl, S2, _, C3, _⟩
        have K3 := Lib.hid (K2.out.trans C3 (U := []) (by simp) (by simp))
        have HS2 := Lib.hid S2
        clear C3 S2 K2
        go_wp2_with fail
        refine ((HCN.out _ (HC8.out.trans K3.out (U := []) (by simp) (by simp)) _ _ _).2 HS2.out).mono ?_
        rintro e w11 ⟨rfl, C4⟩
        have K4 := Lib.hid (K3.out.trans C4 (U := []) (by simp) (by simp))
        clear C4 HS2 K3
        have r6 := K4.out.cell D8.out.2.2.2.2.2 (by simp)
        have l0 : w11.cell? ⟨b5 + 1, 0, none⟩ = some (.slice (some ⟨bl, off, none⟩) n ce) := by rw [cell_of_heap (K4.out.heap D8.out.2.2.2.1 (by simp))]; rfl
        have t0 : w11.cell? ⟨b5, 0, none⟩ = some (.int .i64 oc) := by rw [cell_of_heap (K4.out.heap D8.out.2.2.1 (by simp))]; rfl
        go_wp2_with fail
        clear r6 l0 t0
        refine (vStart_any _).mono ?_
        rintro e w12 ⟨a3, c3, rfl, S3, _, C5, _⟩
        have K5 := Lib.hid (K4.out.trans C5 (U := []) (by simp) (by simp))
        have HS3 := Lib.hid S3
        clear C5 S3 K4
        go_wp2_with fail
        refine ((HCN.out _ (HC8.out.trans K5.out (U := []) (by simp) (by simp)) _ _ _).1 HS3.out).mono ?_
        rintro e w13 ⟨rfl, C6⟩
        have K6 := Lib.hid (K5.out.trans C6 (U := []) (by simp) (by simp))
        have t0 : w13.cell? ⟨b5, 0, none⟩ = some (.int .i64 oc) := by rw [cell_of_heap (K6.out.heap D8.out.2.2.1 (by simp))]; rfl
        have e7 : w13.cell? ⟨b8, 6, none⟩ = some (.bool true) := by rw [cell_of_heap (K6.out.heap D8.out.2.2.2.2.1 (by simp))]; rfl
        clear C6 HS3 K5
        go_wp2_with fail
        go_ret
        exact ⟨rfl, D8.out.1.trans K6.out (U := []) (by simp) (by simp)⟩
end Go.Proofs.YtafmnkngjjnpiaaGreatDoor
