import Derived.Test.YtafmnkngjjnpiaaGreatDoorCalm
import Derived.Test.YtafmnkngjjnpiaaGreatDoorTqV
import Derived.Test.YtafmnkngjjnpiaaGreatDoorWldC
namespace Go.Proofs.YtafmnkngjjnpiaaGreatDoor
set_option linter.unusedVariables false
set_option linter.unusedSimpArgs false
set_option maxRecDepth 100000
open Go.RowKit
attribute [local go_sem] run_store_float'
def sumL (its : List ItD) : Nat := (its.map fun x => 1 + x.m).sum
theorem sumL_take {its : List ItD} {k : Nat} {x : ItD} (h : its[k]? = some x) : sumL (its.take (k + 1)) = sumL (its.take k) + (1 + x.m) := by
  obtain ⟨hk, rfl⟩ := List.getElem?_eq_some_iff.1 h
  unfold sumL
  rw [List.take_succ_eq_append_getElem hk, List.map_append, List.sum_append]
  simp
theorem sumL_le (its : List ItD) (k : Nat) : sumL (its.take k) ≤ sumL its := by
  unfold sumL
  conv => rhs; rw [← List.take_append_drop k its]
  rw [List.map_append, List.sum_append]
  omega
def greatN (p : PlanD) : Nat := p.wl + p.gl + p.sl + sumL p.its
def greatV (p : PlanD) : Int := if 300 < p.il ∨ 4000 < greatN p then 1 else 0
set_option maxHeartbeats 4000000 in
theorem great_any (p : PlanD) (w : World) (h : p.At w) (hf : greatN p ≤ 4611686018427387904) :
    Calls Tryz.prog 83 #[.agg p.cells] w fun e w' => e = .returned (.int .i64 (greatV p)) ∧ Chg [] w w' := by
  have HI := Lib.hid h.its
  have hilm := h.ilm
  have hval : greatV p = if 300 < p.il ∨ 4000 < greatN p then 1 else 0 := rfl
  have HV := Lib.hid hval
  obtain ⟨fl, mn, tm, ia, il, ic, its, wa, wl, wc, ws, ga, gl, gc, gs, sa, sl, sc, ss⟩ := p
  have hg : greatN ⟨fl, mn, tm, ia, il, ic, its, wa, wl, wc, ws, ga, gl, gc, gs, sa, sl, sc, ss⟩ = wl + gl + sl + sumL its := rfl
  rw [hg] at hf
  have HG := Lib.hid hg
  clear h hval hg
  unfold PlanD.cells
  dsimp only at HI hilm ⊢
  unfold maxLen at hilm
  obtain ⟨q1, hq1⟩ : ∃ q1 : Nat, q1 = wl + gl := ⟨_, rfl⟩
  obtain ⟨q2, hq2⟩ : ∃ q2 : Nat, q2 = q1 + sl := ⟨_, rfl⟩
  have a1 : (wl : Int) + (gl : Int) = (q1 : Int) := by omega
  have a2 : (q1 : Int) + (sl : Int) = (q2 : Int) := by omega
  have a3 : (q1 : Int) ≤ 4611686018427387904 := by omega
  have a4 : (q2 : Int) ≤ 4611686018427387904 := by omega
  have a5 : (wl : Int) ≤ 4611686018427387904 := by omega
  have a6 : (gl : Int) ≤ 4611686018427387904 := by omega
  have a7 : (sl : Int) ≤ 4611686018427387904 := by omega
  have HF := Lib.hid (show q2 + sumL its ≤ 4611686018427387904 by omega)
  have HQ := Lib.hid (show q2 = wl + gl + sl by omega)
  clear hq1 hq2 hf
  have CB : Chg [] w (w.alloc (.cells #[.int .u32 fl, .int .u8 mn, .int .u8 tm, .slice ia il ic, .slice wa wl wc, .slice ga gl gc, .slice sa sl sc] 74)) := (Chg.refl _ _).alloc _
  have hB := alloc_heap w (.cells #[.int .u32 fl, .int .u8 mn, .int .u8 tm, .slice ia il ic, .slice wa wl wc, .slice ga gl gc, .slice sa sl sc] 74)
  have HB := Lib.hid hB
  clear hB
  go_enter Tryz.func83, Tryz.ntmps83
  go_wp2_with fail
  go_loopw [20, 3] (fun iv nv wr => ∃ k s : Nat, k ≤ il ∧ iv = .int .i64 k ∧ nv = .int .i64 s ∧ Hid (s = q2 + sumL (its.take k)) ∧ Chg [] (w.alloc (.cells #[.int .u32 fl, .int .u8 mn, .int .u8 tm, .slice ia il ic, .slice wa wl wc, .slice ga gl gc, .slice sa sl sc] 74)) wr) (fun iv _ _ => il - (intOf iv).toNat)
  case atStart => exact ⟨0, q2, by omega, rfl, rfl, Lib.hid (by simp [sumL]), Chg.refl _ _⟩
  case round =>
    obtain ⟨k, s, hk, rfl, rfl, hs, hC⟩ := hrel
    by_cases hlt : k < il
    · obtain ⟨bl, off, x, hia, hx, x0, x1, x2, x3, hr, hwd⟩ := (HI.out.chg (CB.trans hC (U := []) (by simp) (by simp))).get hlt
      subst hia
      have hst := sumL_take hx
      have hle := sumL_le its (k + 1)
      obtain ⟨s2, hs2⟩ : ∃ s2 : Nat, s2 = s + (1 + x.m) := ⟨_, rfl⟩
      obtain ⟨s1, hs1⟩ : ∃ s1 : Nat, s1 = 1 + x.m := ⟨_, rfl⟩
      have hf2 := HF.out
      have hso := hs.out
      have b1 : (1 : Int) + (x.m : Int) = (s1 : Int) := by omega
      have b2 : (s : Int) + (s1 : Int) = (s2 : Int) := by omega
      have b3 : (s2 : Int) ≤ 4611686018427387904 := by omega
      have b4 : (s1 : Int) ≤ 4611686018427387904 := by omega
      have b5 : (x.m : Int) ≤ 4611686018427387904 := by omega
      have HS2 : Hid (s2 = q2 + sumL (its.take (k + 1))) := Lib.hid (by omega)
      have t3 : (wr.alloc (.cells #[.float .f64 x.b, .int .i64 x.kind, .int .i64 x.n, .slice x.ao x.m x.cap] 100)).cell? ⟨wr.heap.size, 3, none⟩ = some (.slice x.ao x.m x.cap) := by rw [cell_of_heap (alloc_heap wr _)]; rfl
      clear hst hle hs2 hs1 hf2 hso hr hx
      go_wp2_with fail
      go_roundw
      case rel => exact ⟨k + 1, s2, by omega, by go_num, rfl, HS2, hC.alloc _⟩
      case measure => simp [intOf]; omega
    · obtain rfl : k = il := by omega
      have HS : Hid (greatN ⟨fl, mn, tm, ia, k, ic, its, wa, wl, wc, ws, ga, gl, gc, gs, sa, sl, sc, ss⟩ = s) := Lib.hid (by
        rw [HG.out, hs.out, HQ.out, List.take_of_length_le (by rw [HI.out.1]; exact Nat.le_refl _)])
      have c3 : wr.cell? ⟨w.heap.size, 3, none⟩ = some (.slice ia k ic) := by rw [cell_of_heap (hC.heap HB.out (by simp))]; rfl
      clear hs
      have hcs : (300 < k) ∨ (k ≤ 300 ∧ 4000 < s) ∨ (k ≤ 300 ∧ s ≤ 4000) := by omega
      rcases hcs with h1 | ⟨h1, h2⟩ | ⟨h1, h2⟩
      · have hv : Hid (greatV ⟨fl, mn, tm, ia, k, ic, its, wa, wl, wc, ws, ga, gl, gc, gs, sa, sl, sc, ss⟩ = 1) := Lib.hid (by rw [HV.out, if_pos (.inl h1)])
        have h1' : (300 : Int) < (k : Int) := by omega
        clear h1
        go_wp2_with fail
        go_ret
        exact ⟨ret_i64' hv.out.symm, CB.trans hC (by simp) (by simp)⟩
      · have hv : Hid (greatV ⟨fl, mn, tm, ia, k, ic, its, wa, wl, wc, ws, ga, gl, gc, gs, sa, sl, sc, ss⟩ = 1) := Lib.hid (by rw [HV.out, HS.out, if_pos (.inr h2)])
        have h1' : ¬ (300 : Int) < (k : Int) := by omega
        have h2' : (4000 : Int) < (s : Int) := by omega
        clear h1 h2
        go_wp2_with fail
        go_ret
        exact ⟨ret_i64' hv.out.symm, CB.trans hC (by simp) (by simp)⟩
      · have hv : Hid (greatV ⟨fl, mn, tm, ia, k, ic, its, wa, wl, wc, ws, ga, gl, gc, gs, sa, sl, sc, ss⟩ = 0) := Lib.hid (by rw [HV.out, HS.out, if_neg (by omega)])
        have h1' : ¬ (300 : Int) < (k : Int) := by omega
        have h2' : ¬ (4000 : Int) < (s : Int) := by omega
        clear h1 h2
        go_wp2_with fail
        go_ret
        exact ⟨ret_i64' hv.out.symm, CB.trans hC (by simp) (by simp)⟩
set_option maxHeartbeats 4000000 in
theorem great_big (p : PlanD) (w : World) (h : p.At w) (hf : 300 < p.il) :
    Calls Tryz.prog 83 #[.agg p.cells] w fun e w' => e = .returned (.int .i64 1) ∧ Chg [] w w' := by
  have HI := Lib.hid h.its
  have hilm := h.ilm
  obtain ⟨fl, mn, tm, ia, il, ic, its, wa, wl, wc, ws, ga, gl, gc, gs, sa, sl, sc, ss⟩ := p
  clear h
  unfold PlanD.cells
  dsimp only at HI hilm hf ⊢
  unfold maxLen at hilm
  have hf' : (300 : Int) < (il : Int) := by omega
  clear hf
  have CB : Chg [] w (w.alloc (.cells #[.int .u32 fl, .int .u8 mn, .int .u8 tm, .slice ia il ic, .slice wa wl wc, .slice ga gl gc, .slice sa sl sc] 74)) := (Chg.refl _ _).alloc _
  have HB := Lib.hid (alloc_heap w (.cells #[.int .u32 fl, .int .u8 mn, .int .u8 tm, .slice ia il ic, .slice wa wl wc, .slice ga gl gc, .slice sa sl sc] 74))
  go_enter Tryz.func83, Tryz.ntmps83
  go_wp2_with fail
  go_loopw [20, 3] (fun iv nv wr => ∃ (k : Nat) (z : Int), k ≤ il ∧ iv = .int .i64 k ∧ nv = .int .i64 z ∧ Chg [] (w.alloc (.cells #[.int .u32 fl, .int .u8 mn, .int .u8 tm, .slice ia il ic, .slice wa wl wc, .slice ga gl gc, .slice sa sl sc] 74)) wr) (fun iv _ _ => il - (intOf iv).toNat)
  case atStart => exact ⟨0, _, by omega, rfl, rfl, Chg.refl _ _⟩
  case round =>
    obtain ⟨k, z, hk, rfl, rfl, hC⟩ := hrel
    by_cases hlt : k < il
    · obtain ⟨bl, off, x, hia, hx, x0, x1, x2, x3, hr, hwd⟩ := (HI.out.chg (CB.trans hC (U := []) (by simp) (by simp))).get hlt
      subst hia
      have t3 : (wr.alloc (.cells #[.float .f64 x.b, .int .i64 x.kind, .int .i64 x.n, .slice x.ao x.m x.cap] 100)).cell? ⟨wr.heap.size, 3, none⟩ = some (.slice x.ao x.m x.cap) := by rw [cell_of_heap (alloc_heap wr _)]; rfl
      clear hr hx
      go_wp2_with fail
      go_roundw
      case rel => exact ⟨k + 1, _, by omega, by go_num, rfl, hC.alloc _⟩
      case measure => simp [intOf]; omega
    · obtain rfl : k = il := by omega
      have c3 : wr.cell? ⟨w.heap.size, 3, none⟩ = some (.slice ia k ic) := by rw [cell_of_heap (hC.heap HB.out (by simp))]; rfl
      go_wp2_with fail
      go_ret
      exact ⟨rfl, CB.trans hC (by simp) (by simp)⟩
end Go.Proofs.YtafmnkngjjnpiaaGreatDoor

namespace Go.Proofs.YtafmnkngjjnpiaaGreatDoor
set_option linter.unusedVariables false
set_option linter.unusedSimpArgs false
set_option maxRecDepth 100000
open Go.RowKit
theorem great_all (p : PlanD) (w : World) (h : p.At w) (hm : ∀ y ∈ p.its, y.m ≤ reachBytes) (hr : p.wl ≤ reachBytes ∧ p.gl ≤ reachBytes ∧ p.sl ≤ reachBytes) :
    Calls Tryz.prog 83 #[.agg p.cells] w fun e w' => e = .returned (.int .i64 (greatV p)) ∧ Chg [] w w' := by
  by_cases hb : 300 < p.il
  · exact (great_big p w h hb).mono fun e w' ⟨he, hc⟩ => ⟨by rw [he]; unfold greatV; rw [if_pos (.inl hb)], hc⟩
  · refine great_any p w h ?_
    have hl : p.its.length ≤ 300 := by rw [h.its.1]; omega
    have hs : ∀ (l : List ItD), (∀ y ∈ l, y.m ≤ reachBytes) → sumL l ≤ l.length * (1 + reachBytes) := by
      intro l
      induction l with
      | nil => intro _; simp [sumL]
      | cons y r ih =>
        intro hy
        have h1 := ih (fun z hz => hy z (List.mem_cons_of_mem _ hz))
        have h2 := hy y List.mem_cons_self
        have e : sumL (y :: r) = (1 + y.m) + sumL r := by unfold sumL; simp
        rw [e, List.length_cons, Nat.add_mul]
        omega
    have h3 := hs p.its hm
    have h4 : p.its.length * (1 + reachBytes) ≤ 300 * (1 + reachBytes) := Nat.mul_le_mul_right _ hl
    unfold greatN
    unfold reachBytes at *
    omega
end Go.Proofs.YtafmnkngjjnpiaaGreatDoor

namespace Go.Proofs.YtafmnkngjjnpiaaGreatDoor
set_option linter.unusedVariables false
set_option linter.unusedSimpArgs false
set_option maxRecDepth 100000
open Go.RowKit
attribute [local go_sem] run_store_float'
def sumM (its : List ItD) : Nat := (its.map fun x => x.m).sum
theorem sumM_take {its : List ItD} {k : Nat} {x : ItD} (h : its[k]? = some x) : sumM (its.take (k + 1)) = sumM (its.take k) + x.m := by
  obtain ⟨hk, rfl⟩ := List.getElem?_eq_some_iff.1 h
  unfold sumM
  rw [List.take_succ_eq_append_getElem hk, List.map_append, List.sum_append]
  simp
theorem sumM_le (its : List ItD) : sumM its ≤ sumL its := by
  induction its with
  | nil => exact Nat.le_refl _
  | cons x r ih =>
    unfold sumM sumL at ih ⊢
    simp only [List.map_cons, List.sum_cons]
    omega
theorem sumM_part (its : List ItD) (k : Nat) : sumM (its.take k) ≤ sumM its := by
  unfold sumM
  conv => rhs; rw [← List.take_append_drop k its]
  rw [List.map_append, List.sum_append]
  omega
def great18 (p : PlanD) (s : ByteArray) : Int := if greatV p = 1 ∨ 900 < sumM p.its ∨ 600 < s.size then 1 else 0
set_option maxHeartbeats 8000000 in
theorem great18_big (p : PlanD) (s : ByteArray) (mode room : Int) (w : World) (h : p.At w) (hG : ∀ W, Chg [] w W → Calls Tryz.prog 83 #[.agg p.cells] W fun e w' => e = .returned (.int .i64 1) ∧ Chg [] W w') :
    Calls Tryz.prog 56 #[.agg p.cells, .agg #[.string s, .int .i64 mode, .int .i64 room], .slice none 0 0] w fun e w' => e = .returned (.int .i64 1) ∧ Chg [] w w' := by
  have HI := Lib.hid h.its
  have HG := Lib.hid hG
  have hilm := h.ilm
  obtain ⟨fl, mn, tm, ia, il, ic, its, wa, wl, wc, ws, ga, gl, gc, gs, sa, sl, sc, ss⟩ := p
  clear h hG
  unfold PlanD.cells at HG ⊢
  dsimp only at HI hilm HG ⊢
  unfold maxLen at hilm
  have CB : Chg [] w ((w.alloc (.cells #[.int .u32 fl, .int .u8 mn, .int .u8 tm, .slice ia il ic, .slice wa wl wc, .slice ga gl gc, .slice sa sl sc] 74)).alloc (.cells #[.string s, .int .i64 mode, .int .i64 room] 76)) := ((Chg.refl _ _).alloc _).alloc _
  have HB := Lib.hid (alloc_keeps (o := .cells #[.string s, .int .i64 mode, .int .i64 room] 76) (alloc_heap w (.cells #[.int .u32 fl, .int .u8 mn, .int .u8 tm, .slice ia il ic, .slice wa wl wc, .slice ga gl gc, .slice sa sl sc] 74)))
  have x3 : ((w.alloc (.cells #[.int .u32 fl, .int .u8 mn, .int .u8 tm, .slice ia il ic, .slice wa wl wc, .slice ga gl gc, .slice sa sl sc] 74)).alloc (.cells #[.string s, .int .i64 mode, .int .i64 room] 76)).cell? ⟨w.heap.size, 3, none⟩ = some (.slice ia il ic) := by rw [cell_of_heap HB.out]; rfl
  go_enter Tryz.func56, Tryz.ntmps56
  go_wp2_with fail
  generalize World.alloc _ _ = w1 at *
  go_loopw [13, 7] (fun iv nv wr => ∃ (k : Nat) (z : Int), k ≤ il ∧ iv = .int .i64 k ∧ nv = .int .i64 z ∧ Chg [] w1 wr) (fun iv _ _ => il - (intOf iv).toNat)
  case atStart => exact ⟨0, _, by omega, rfl, rfl, Chg.refl _ _⟩
  case round =>
    obtain ⟨k, z, hk, rfl, rfl, hC⟩ := hrel
    by_cases hlt : k < il
    · obtain ⟨bl, off, x, hia, hx, y0, y1, y2, y3, hr, hwd⟩ := (HI.out.chg (CB.trans hC (U := []) (by simp) (by simp))).get hlt
      subst hia
      have t3 : (wr.alloc (.cells #[.float .f64 x.b, .int .i64 x.kind, .int .i64 x.n, .slice x.ao x.m x.cap] 100)).cell? ⟨wr.heap.size, 3, none⟩ = some (.slice x.ao x.m x.cap) := by rw [cell_of_heap (alloc_heap wr _)]; rfl
      clear hr hx
      go_wp2_with fail
      go_roundw
      case rel => exact ⟨k + 1, _, by omega, by go_num, rfl, hC.alloc _⟩
      case measure => simp [intOf]; omega
    · obtain rfl : k = il := by omega
      have HC := Lib.hid hC
      have HCB := Lib.hid CB
      have B := hC.heap HB.out (by simp)
      have p0 : wr.cell? ⟨w.heap.size, 0, none⟩ = some (.int .u32 fl) := by rw [cell_of_heap B]; rfl
      have p1 : wr.cell? ⟨w.heap.size, 1, none⟩ = some (.int .u8 mn) := by rw [cell_of_heap B]; rfl
      have p2 : wr.cell? ⟨w.heap.size, 2, none⟩ = some (.int .u8 tm) := by rw [cell_of_heap B]; rfl
      have p3 : wr.cell? ⟨w.heap.size, 3, none⟩ = some (.slice ia k ic) := by rw [cell_of_heap B]; rfl
      have p4 : wr.cell? ⟨w.heap.size, 4, none⟩ = some (.slice wa wl wc) := by rw [cell_of_heap B]; rfl
      have p5 : wr.cell? ⟨w.heap.size, 5, none⟩ = some (.slice ga gl gc) := by rw [cell_of_heap B]; rfl
      have p6 : wr.cell? ⟨w.heap.size, 6, none⟩ = some (.slice sa sl sc) := by rw [cell_of_heap B]; rfl
      have hg := Lib.hid (HG.out wr (CB.trans hC (U := []) (by simp) (by simp)))
      clear HG HB HI hC CB B x3
      go_wp2_with fail
      refine (hg.out).mono ?_
      rintro e w4 ⟨rfl, C4⟩
      clear p0 p1 p2 p3 p4 p5 p6 hg
      go_wp2_with fail
      go_ret
      exact ⟨rfl, (HCB.out.trans HC.out (U := []) (by simp) (by simp)).trans C4 (U := []) (by simp) (by simp)⟩
set_option maxHeartbeats 8000000 in
theorem great18_sum (p : PlanD) (s : ByteArray) (mode room : Int) (w : World) (h : p.At w) (hf : sumM p.its ≤ 1000000) (h2 : 900 < sumM p.its) (hG : ∀ W, Chg [] w W → Calls Tryz.prog 83 #[.agg p.cells] W fun e w' => e = .returned (.int .i64 0) ∧ Chg [] W w') :
    Calls Tryz.prog 56 #[.agg p.cells, .agg #[.string s, .int .i64 mode, .int .i64 room], .slice none 0 0] w fun e w' => e = .returned (.int .i64 1) ∧ Chg [] w w' := by
  have HI := Lib.hid h.its
  have HG := Lib.hid hG
  have hilm := h.ilm
  obtain ⟨fl, mn, tm, ia, il, ic, its, wa, wl, wc, ws, ga, gl, gc, gs, sa, sl, sc, ss⟩ := p
  clear h hG
  unfold PlanD.cells at HG ⊢
  dsimp only at HI hilm HG hf h2 ⊢
  unfold maxLen at hilm
  have HF := Lib.hid hf
  have H2 := Lib.hid h2
  clear hf h2
  have CB : Chg [] w ((w.alloc (.cells #[.int .u32 fl, .int .u8 mn, .int .u8 tm, .slice ia il ic, .slice wa wl wc, .slice ga gl gc, .slice sa sl sc] 74)).alloc (.cells #[.string s, .int .i64 mode, .int .i64 room] 76)) := ((Chg.refl _ _).alloc _).alloc _
  have HB := Lib.hid (And.intro (alloc_keeps (o := .cells #[.string s, .int .i64 mode, .int .i64 room] 76) (alloc_heap w (.cells #[.int .u32 fl, .int .u8 mn, .int .u8 tm, .slice ia il ic, .slice wa wl wc, .slice ga gl gc, .slice sa sl sc] 74))) (alloc2_heap w (.cells #[.int .u32 fl, .int .u8 mn, .int .u8 tm, .slice ia il ic, .slice wa wl wc, .slice ga gl gc, .slice sa sl sc] 74) (.cells #[.string s, .int .i64 mode, .int .i64 room] 76)))
  have x3 : ((w.alloc (.cells #[.int .u32 fl, .int .u8 mn, .int .u8 tm, .slice ia il ic, .slice wa wl wc, .slice ga gl gc, .slice sa sl sc] 74)).alloc (.cells #[.string s, .int .i64 mode, .int .i64 room] 76)).cell? ⟨w.heap.size, 3, none⟩ = some (.slice ia il ic) := by rw [cell_of_heap HB.out.1]; rfl
  go_enter Tryz.func56, Tryz.ntmps56
  go_wp2_with fail
  generalize World.alloc _ _ = w1 at *
  go_loopw [13, 7] (fun iv nv wr => ∃ (k z : Nat), k ≤ il ∧ iv = .int .i64 k ∧ nv = .int .i64 z ∧ Hid (z = sumM (its.take k)) ∧ Chg [] w1 wr) (fun iv _ _ => il - (intOf iv).toNat)
  case atStart => exact ⟨0, 0, by omega, rfl, rfl, Lib.hid (by simp [sumM]), Chg.refl _ _⟩
  case round =>
    obtain ⟨k, z, hk, rfl, rfl, hz, hC⟩ := hrel
    by_cases hlt : k < il
    · obtain ⟨bl, off, x, hia, hx, y0, y1, y2, y3, hr, hwd⟩ := (HI.out.chg (CB.trans hC (U := []) (by simp) (by simp))).get hlt
      subst hia
      have t3 : (wr.alloc (.cells #[.float .f64 x.b, .int .i64 x.kind, .int .i64 x.n, .slice x.ao x.m x.cap] 100)).cell? ⟨wr.heap.size, 3, none⟩ = some (.slice x.ao x.m x.cap) := by rw [cell_of_heap (alloc_heap wr _)]; rfl
      have hst := sumM_take hx
      have hle := sumM_part its (k + 1)
      obtain ⟨z2, hz2⟩ : ∃ z2 : Nat, z2 = z + x.m := ⟨_, rfl⟩
      have hf2 := HF.out
      have hzo := hz.out
      have b2 : (z : Int) + (x.m : Int) = (z2 : Int) := by omega
      have b3 : (z2 : Int) ≤ 1000000 := by omega
      have HS2 : Hid (z2 = sumM (its.take (k + 1))) := Lib.hid (by omega)
      clear hst hle hz2 hf2 hzo hr hx
      go_wp2_with fail
      go_roundw
      case rel => exact ⟨k + 1, z2, by omega, by go_num, rfl, HS2, hC.alloc _⟩
      case measure => simp [intOf]; omega
    · obtain rfl : k = il := by omega
      have hzz : z = sumM its := by rw [hz.out, List.take_of_length_le (by rw [HI.out.1]; exact Nat.le_refl _)]
      have h2 := H2.out
      have d1 : decide ((900 : Int) < (z : Int)) = true := by rw [decide_eq_true_eq]; omega
      have HC := Lib.hid hC
      have HCB := Lib.hid CB
      have B := hC.heap HB.out.1 (by simp)
      have A := hC.heap HB.out.2 (by simp)
      have p0 : wr.cell? ⟨w.heap.size, 0, none⟩ = some (.int .u32 fl) := by rw [cell_of_heap B]; rfl
      have p1 : wr.cell? ⟨w.heap.size, 1, none⟩ = some (.int .u8 mn) := by rw [cell_of_heap B]; rfl
      have p2 : wr.cell? ⟨w.heap.size, 2, none⟩ = some (.int .u8 tm) := by rw [cell_of_heap B]; rfl
      have p3 : wr.cell? ⟨w.heap.size, 3, none⟩ = some (.slice ia k ic) := by rw [cell_of_heap B]; rfl
      have p4 : wr.cell? ⟨w.heap.size, 4, none⟩ = some (.slice wa wl wc) := by rw [cell_of_heap B]; rfl
      have p5 : wr.cell? ⟨w.heap.size, 5, none⟩ = some (.slice ga gl gc) := by rw [cell_of_heap B]; rfl
      have p6 : wr.cell? ⟨w.heap.size, 6, none⟩ = some (.slice sa sl sc) := by rw [cell_of_heap B]; rfl
      have HA := Lib.hid A
      have hg := Lib.hid (HG.out wr (CB.trans hC (U := []) (by simp) (by simp)))
      clear HG HB HI hC CB B A x3 h2 hzz hz
      go_wp2_with fail
      refine (hg.out).mono ?_
      rintro e w4 ⟨rfl, C4⟩
      have q0 : w4.cell? ⟨w.heap.size + 1, 0, none⟩ = some (.string s) := by rw [cell_of_heap (C4.heap HA.out (by simp))]; rfl
      clear p0 p1 p2 p3 p4 p5 p6 hg
      go_wp2_with fail
      go_ret
      exact ⟨rfl, (HCB.out.trans HC.out (U := []) (by simp) (by simp)).trans C4 (U := []) (by simp) (by simp)⟩
set_option maxHeartbeats 8000000 in
theorem great18_ask (p : PlanD) (s : ByteArray) (mode room : Int) (w : World) (h : p.At w) (hf : sumM p.its ≤ 1000000) (h2 : sumM p.its ≤ 900 ∧ 600 < s.size) (hG : ∀ W, Chg [] w W → Calls Tryz.prog 83 #[.agg p.cells] W fun e w' => e = .returned (.int .i64 0) ∧ Chg [] W w') :
    Calls Tryz.prog 56 #[.agg p.cells, .agg #[.string s, .int .i64 mode, .int .i64 room], .slice none 0 0] w fun e w' => e = .returned (.int .i64 1) ∧ Chg [] w w' := by
  have HI := Lib.hid h.its
  have HG := Lib.hid hG
  have hilm := h.ilm
  obtain ⟨fl, mn, tm, ia, il, ic, its, wa, wl, wc, ws, ga, gl, gc, gs, sa, sl, sc, ss⟩ := p
  clear h hG
  unfold PlanD.cells at HG ⊢
  dsimp only at HI hilm HG hf h2 ⊢
  unfold maxLen at hilm
  have HF := Lib.hid hf
  have H2 := Lib.hid h2
  clear hf h2
  have CB : Chg [] w ((w.alloc (.cells #[.int .u32 fl, .int .u8 mn, .int .u8 tm, .slice ia il ic, .slice wa wl wc, .slice ga gl gc, .slice sa sl sc] 74)).alloc (.cells #[.string s, .int .i64 mode, .int .i64 room] 76)) := ((Chg.refl _ _).alloc _).alloc _
  have HB := Lib.hid (And.intro (alloc_keeps (o := .cells #[.string s, .int .i64 mode, .int .i64 room] 76) (alloc_heap w (.cells #[.int .u32 fl, .int .u8 mn, .int .u8 tm, .slice ia il ic, .slice wa wl wc, .slice ga gl gc, .slice sa sl sc] 74))) (alloc2_heap w (.cells #[.int .u32 fl, .int .u8 mn, .int .u8 tm, .slice ia il ic, .slice wa wl wc, .slice ga gl gc, .slice sa sl sc] 74) (.cells #[.string s, .int .i64 mode, .int .i64 room] 76)))
  have x3 : ((w.alloc (.cells #[.int .u32 fl, .int .u8 mn, .int .u8 tm, .slice ia il ic, .slice wa wl wc, .slice ga gl gc, .slice sa sl sc] 74)).alloc (.cells #[.string s, .int .i64 mode, .int .i64 room] 76)).cell? ⟨w.heap.size, 3, none⟩ = some (.slice ia il ic) := by rw [cell_of_heap HB.out.1]; rfl
  go_enter Tryz.func56, Tryz.ntmps56
  go_wp2_with fail
  generalize World.alloc _ _ = w1 at *
  go_loopw [13, 7] (fun iv nv wr => ∃ (k z : Nat), k ≤ il ∧ iv = .int .i64 k ∧ nv = .int .i64 z ∧ Hid (z = sumM (its.take k)) ∧ Chg [] w1 wr) (fun iv _ _ => il - (intOf iv).toNat)
  case atStart => exact ⟨0, 0, by omega, rfl, rfl, Lib.hid (by simp [sumM]), Chg.refl _ _⟩
  case round =>
    obtain ⟨k, z, hk, rfl, rfl, hz, hC⟩ := hrel
    by_cases hlt : k < il
    · obtain ⟨bl, off, x, hia, hx, y0, y1, y2, y3, hr, hwd⟩ := (HI.out.chg (CB.trans hC (U := []) (by simp) (by simp))).get hlt
      subst hia
      have t3 : (wr.alloc (.cells #[.float .f64 x.b, .int .i64 x.kind, .int .i64 x.n, .slice x.ao x.m x.cap] 100)).cell? ⟨wr.heap.size, 3, none⟩ = some (.slice x.ao x.m x.cap) := by rw [cell_of_heap (alloc_heap wr _)]; rfl
      have hst := sumM_take hx
      have hle := sumM_part its (k + 1)
      obtain ⟨z2, hz2⟩ : ∃ z2 : Nat, z2 = z + x.m := ⟨_, rfl⟩
      have hf2 := HF.out
      have hzo := hz.out
      have b2 : (z : Int) + (x.m : Int) = (z2 : Int) := by omega
      have b3 : (z2 : Int) ≤ 1000000 := by omega
      have HS2 : Hid (z2 = sumM (its.take (k + 1))) := Lib.hid (by omega)
      clear hst hle hz2 hf2 hzo hr hx
      go_wp2_with fail
      go_roundw
      case rel => exact ⟨k + 1, z2, by omega, by go_num, rfl, HS2, hC.alloc _⟩
      case measure => simp [intOf]; omega
    · obtain rfl : k = il := by omega
      have hzz : z = sumM its := by rw [hz.out, List.take_of_length_le (by rw [HI.out.1]; exact Nat.le_refl _)]
      have h2 := H2.out
      have d1 : decide ((900 : Int) < (z : Int)) = false := by rw [decide_eq_false_iff_not]; omega
      have d2 : decide ((600 : Int) < (s.size : Nat)) = true := by rw [decide_eq_true_eq]; omega
      have HC := Lib.hid hC
      have HCB := Lib.hid CB
      have B := hC.heap HB.out.1 (by simp)
      have A := hC.heap HB.out.2 (by simp)
      have p0 : wr.cell? ⟨w.heap.size, 0, none⟩ = some (.int .u32 fl) := by rw [cell_of_heap B]; rfl
      have p1 : wr.cell? ⟨w.heap.size, 1, none⟩ = some (.int .u8 mn) := by rw [cell_of_heap B]; rfl
      have p2 : wr.cell? ⟨w.heap.size, 2, none⟩ = some (.int .u8 tm) := by rw [cell_of_heap B]; rfl
      have p3 : wr.cell? ⟨w.heap.size, 3, none⟩ = some (.slice ia k ic) := by rw [cell_of_heap B]; rfl
      have p4 : wr.cell? ⟨w.heap.size, 4, none⟩ = some (.slice wa wl wc) := by rw [cell_of_heap B]; rfl
      have p5 : wr.cell? ⟨w.heap.size, 5, none⟩ = some (.slice ga gl gc) := by rw [cell_of_heap B]; rfl
      have p6 : wr.cell? ⟨w.heap.size, 6, none⟩ = some (.slice sa sl sc) := by rw [cell_of_heap B]; rfl
      have HA := Lib.hid A
      have hg := Lib.hid (HG.out wr (CB.trans hC (U := []) (by simp) (by simp)))
      clear HG HB HI hC CB B A x3 h2 hzz hz
      go_wp2_with fail
      refine (hg.out).mono ?_
      rintro e w4 ⟨rfl, C4⟩
      have q0 : w4.cell? ⟨w.heap.size + 1, 0, none⟩ = some (.string s) := by rw [cell_of_heap (C4.heap HA.out (by simp))]; rfl
      clear p0 p1 p2 p3 p4 p5 p6 hg
      go_wp2_with fail
      go_ret
      exact ⟨rfl, (HCB.out.trans HC.out (U := []) (by simp) (by simp)).trans C4 (U := []) (by simp) (by simp)⟩
set_option maxHeartbeats 8000000 in
theorem great18_few (p : PlanD) (s : ByteArray) (mode room : Int) (w : World) (h : p.At w) (hf : sumM p.its ≤ 1000000) (h2 : sumM p.its ≤ 900 ∧ s.size ≤ 600) (hG : ∀ W, Chg [] w W → Calls Tryz.prog 83 #[.agg p.cells] W fun e w' => e = .returned (.int .i64 0) ∧ Chg [] W w') :
    Calls Tryz.prog 56 #[.agg p.cells, .agg #[.string s, .int .i64 mode, .int .i64 room], .slice none 0 0] w fun e w' => e = .returned (.int .i64 0) ∧ Chg [] w w' := by
  have HI := Lib.hid h.its
  have HG := Lib.hid hG
  have hilm := h.ilm
  obtain ⟨fl, mn, tm, ia, il, ic, its, wa, wl, wc, ws, ga, gl, gc, gs, sa, sl, sc, ss⟩ := p
  clear h hG
  unfold PlanD.cells at HG ⊢
  dsimp only at HI hilm HG hf h2 ⊢
  unfold maxLen at hilm
  have HF := Lib.hid hf
  have H2 := Lib.hid h2
  clear hf h2
  have CB : Chg [] w ((w.alloc (.cells #[.int .u32 fl, .int .u8 mn, .int .u8 tm, .slice ia il ic, .slice wa wl wc, .slice ga gl gc, .slice sa sl sc] 74)).alloc (.cells #[.string s, .int .i64 mode, .int .i64 room] 76)) := ((Chg.refl _ _).alloc _).alloc _
  have HB := Lib.hid (And.intro (alloc_keeps (o := .cells #[.string s, .int .i64 mode, .int .i64 room] 76) (alloc_heap w (.cells #[.int .u32 fl, .int .u8 mn, .int .u8 tm, .slice ia il ic, .slice wa wl wc, .slice ga gl gc, .slice sa sl sc] 74))) (alloc2_heap w (.cells #[.int .u32 fl, .int .u8 mn, .int .u8 tm, .slice ia il ic, .slice wa wl wc, .slice ga gl gc, .slice sa sl sc] 74) (.cells #[.string s, .int .i64 mode, .int .i64 room] 76)))
  have x3 : ((w.alloc (.cells #[.int .u32 fl, .int .u8 mn, .int .u8 tm, .slice ia il ic, .slice wa wl wc, .slice ga gl gc, .slice sa sl sc] 74)).alloc (.cells #[.string s, .int .i64 mode, .int .i64 room] 76)).cell? ⟨w.heap.size, 3, none⟩ = some (.slice ia il ic) := by rw [cell_of_heap HB.out.1]; rfl
  go_enter Tryz.func56, Tryz.ntmps56
  go_wp2_with fail
  generalize World.alloc _ _ = w1 at *
  go_loopw [13, 7] (fun iv nv wr => ∃ (k z : Nat), k ≤ il ∧ iv = .int .i64 k ∧ nv = .int .i64 z ∧ Hid (z = sumM (its.take k)) ∧ Chg [] w1 wr) (fun iv _ _ => il - (intOf iv).toNat)
  case atStart => exact ⟨0, 0, by omega, rfl, rfl, Lib.hid (by simp [sumM]), Chg.refl _ _⟩
  case round =>
    obtain ⟨k, z, hk, rfl, rfl, hz, hC⟩ := hrel
    by_cases hlt : k < il
    · obtain ⟨bl, off, x, hia, hx, y0, y1, y2, y3, hr, hwd⟩ := (HI.out.chg (CB.trans hC (U := []) (by simp) (by simp))).get hlt
      subst hia
      have t3 : (wr.alloc (.cells #[.float .f64 x.b, .int .i64 x.kind, .int .i64 x.n, .slice x.ao x.m x.cap] 100)).cell? ⟨wr.heap.size, 3, none⟩ = some (.slice x.ao x.m x.cap) := by rw [cell_of_heap (alloc_heap wr _)]; rfl
      have hst := sumM_take hx
      have hle := sumM_part its (k + 1)
      obtain ⟨z2, hz2⟩ : ∃ z2 : Nat, z2 = z + x.m := ⟨_, rfl⟩
      have hf2 := HF.out
      have hzo := hz.out
      have b2 : (z : Int) + (x.m : Int) = (z2 : Int) := by omega
      have b3 : (z2 : Int) ≤ 1000000 := by omega
      have HS2 : Hid (z2 = sumM (its.take (k + 1))) := Lib.hid (by omega)
      clear hst hle hz2 hf2 hzo hr hx
      go_wp2_with fail
      go_roundw
      case rel => exact ⟨k + 1, z2, by omega, by go_num, rfl, HS2, hC.alloc _⟩
      case measure => simp [intOf]; omega
    · obtain rfl : k = il := by omega
      have hzz : z = sumM its := by rw [hz.out, List.take_of_length_le (by rw [HI.out.1]; exact Nat.le_refl _)]
      have h2 := H2.out
      have d1 : decide ((900 : Int) < (z : Int)) = false := by rw [decide_eq_false_iff_not]; omega
      have d2 : decide ((600 : Int) < (s.size : Nat)) = false := by rw [decide_eq_false_iff_not]; omega
      have HC := Lib.hid hC
      have HCB := Lib.hid CB
      have B := hC.heap HB.out.1 (by simp)
      have A := hC.heap HB.out.2 (by simp)
      have p0 : wr.cell? ⟨w.heap.size, 0, none⟩ = some (.int .u32 fl) := by rw [cell_of_heap B]; rfl
      have p1 : wr.cell? ⟨w.heap.size, 1, none⟩ = some (.int .u8 mn) := by rw [cell_of_heap B]; rfl
      have p2 : wr.cell? ⟨w.heap.size, 2, none⟩ = some (.int .u8 tm) := by rw [cell_of_heap B]; rfl
      have p3 : wr.cell? ⟨w.heap.size, 3, none⟩ = some (.slice ia k ic) := by rw [cell_of_heap B]; rfl
      have p4 : wr.cell? ⟨w.heap.size, 4, none⟩ = some (.slice wa wl wc) := by rw [cell_of_heap B]; rfl
      have p5 : wr.cell? ⟨w.heap.size, 5, none⟩ = some (.slice ga gl gc) := by rw [cell_of_heap B]; rfl
      have p6 : wr.cell? ⟨w.heap.size, 6, none⟩ = some (.slice sa sl sc) := by rw [cell_of_heap B]; rfl
      have HA := Lib.hid A
      have hg := Lib.hid (HG.out wr (CB.trans hC (U := []) (by simp) (by simp)))
      clear HG HB HI hC CB B A x3 h2 hzz hz
      go_wp2_with fail
      refine (hg.out).mono ?_
      rintro e w4 ⟨rfl, C4⟩
      have q0 : w4.cell? ⟨w.heap.size + 1, 0, none⟩ = some (.string s) := by rw [cell_of_heap (C4.heap HA.out (by simp))]; rfl
      clear p0 p1 p2 p3 p4 p5 p6 hg
      go_wp2_with fail
      go_ret
      exact ⟨rfl, (HCB.out.trans HC.out (U := []) (by simp) (by simp)).trans C4 (U := []) (by simp) (by simp)⟩
theorem greatV_01 (p : PlanD) : greatV p = 0 ∨ greatV p = 1 := by unfold greatV; split <;> simp
theorem greatV_sum {p : PlanD} (h : greatV p = 0) : p.il ≤ 300 ∧ greatN p ≤ 4000 := by
  unfold greatV at h
  split at h
  · cases h
  · omega
theorem great18_any (p : PlanD) (s : ByteArray) (mode room : Int) (w : World) (h : p.At w) (hm : ∀ y ∈ p.its, y.m ≤ reachBytes) (hr : p.wl ≤ reachBytes ∧ p.gl ≤ reachBytes ∧ p.sl ≤ reachBytes) :
    Calls Tryz.prog 56 #[.agg p.cells, .agg #[.string s, .int .i64 mode, .int .i64 room], .slice none 0 0] w fun e w' => e = .returned (.int .i64 (great18 p s)) ∧ Chg [] w w' := by
  have hG : ∀ W, Chg [] w W → Calls Tryz.prog 83 #[.agg p.cells] W fun e w' => e = .returned (.int .i64 (greatV p)) ∧ Chg [] W w' := fun W c => great_all p W (h.chg c) hm hr
  unfold great18
  rcases greatV_01 p with h0 | h1
  · rw [h0] at hG
    have hsum := greatV_sum h0
    have hle := sumM_le p.its
    unfold greatN at hsum
    by_cases h9 : 900 < sumM p.its
    · rw [if_pos (Or.inr (Or.inl h9))]
      exact great18_sum p s mode room w h (by omega) h9 hG
    · by_cases h6 : 600 < s.size
      · rw [if_pos (Or.inr (Or.inr h6))]
        exact great18_ask p s mode room w h (by omega) ⟨by omega, h6⟩ hG
      · rw [if_neg (by omega)]
        exact great18_few p s mode room w h (by omega) ⟨by omega, by omega⟩ hG
  · rw [h1] at hG
    rw [if_pos (Or.inl h1)]
    exact great18_big p s mode room w h hG
end Go.Proofs.YtafmnkngjjnpiaaGreatDoor
