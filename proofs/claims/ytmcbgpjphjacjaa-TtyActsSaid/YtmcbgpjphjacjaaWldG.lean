/-
  Layer 16: the law's own Great: is a plan more than is looked at?
-/
import Derived.Test.YtmcbgpjphjacjaaWldC
namespace Go.Proofs.Ytmcbgpjphjacjaa
set_option linter.unusedVariables false
set_option linter.unusedSimpArgs false
set_option maxRecDepth 100000
open Go.RowKit
attribute [local go_sem] run_store_float'

def sumL (its : List ItD) : Nat := (its.map fun x => 1 + x.m).sum

theorem sumL_take {its : List ItD} {k : Nat} {x : ItD} (h : its[k]? = some x) : sumL (its.take (k + 1)) = sumL (its.take k) + (1 + x.m) := by
  obtain ⟨hk, rfl⟩ := List.getElem?_eq_some_iff.1 h
  unfold sumL
  rw [List.take_succ_eq_append_getElem hk, List.map_append, List.sum_append]
  simp

theorem sumL_le (its : List ItD) (k : Nat) : sumL (its.take k) ≤ sumL its := by
  unfold sumL
  conv => rhs; rw [← List.take_append_drop k its]
  rw [List.map_append, List.sum_append]
  omega

def greatN (p : PlanD) : Nat := p.wl + p.gl + p.sl + sumL p.its

def greatV (p : PlanD) : Int := if 300 < p.il ∨ 4000 < greatN p then 1 else 0

set_option maxHeartbeats 4000000 in
theorem great_any (p : PlanD) (w : World) (h : p.At w) (hf : greatN p ≤ 4611686018427387904) :
    Calls Try.prog 10 #[.agg p.cells] w fun e w' => e = .returned (.int .i64 (greatV p)) ∧ Chg [] w w' := by
  have HI := Lib.hid h.its
  have hilm := h.ilm
  have hval : greatV p = if 300 < p.il ∨ 4000 < greatN p then 1 else 0 := rfl
  have HV := Lib.hid hval
  obtain ⟨fl, mn, tm, ia, il, ic, its, wa, wl, wc, ws, ga, gl, gc, gs, sa, sl, sc, ss⟩ := p
  have hg : greatN ⟨fl, mn, tm, ia, il, ic, its, wa, wl, wc, ws, ga, gl, gc, gs, sa, sl, sc, ss⟩ = wl + gl + sl + sumL its := rfl
  rw [hg] at hf
  have HG := Lib.hid hg
  clear h hval hg
  unfold PlanD.cells
  dsimp only at HI hilm ⊢
  unfold maxLen at hilm
  obtain ⟨q1, hq1⟩ : ∃ q1 : Nat, q1 = wl + gl := ⟨_, rfl⟩
  obtain ⟨q2, hq2⟩ : ∃ q2 : Nat, q2 = q1 + sl := ⟨_, rfl⟩
  have a1 : (wl : Int) + (gl : Int) = (q1 : Int) := by omega
  have a2 : (q1 : Int) + (sl : Int) = (q2 : Int) := by omega
  have a3 : (q1 : Int) ≤ 4611686018427387904 := by omega
  have a4 : (q2 : Int) ≤ 4611686018427387904 := by omega
  have a5 : (wl : Int) ≤ 4611686018427387904 := by omega
  have a6 : (gl : Int) ≤ 4611686018427387904 := by omega
  have a7 : (sl : Int) ≤ 4611686018427387904 := by omega
  have HF := Lib.hid (show q2 + sumL its ≤ 4611686018427387904 by omega)
  have HQ := Lib.hid (show q2 = wl + gl + sl by omega)
  clear hq1 hq2 hf
  have CB : Chg [] w (w.alloc (.cells #[.int .u32 fl, .int .u8 mn, .int .u8 tm, .slice ia il ic, .slice wa wl wc, .slice ga gl gc, .slice sa sl sc] 28)) := (Chg.refl _ _).alloc _
  have hB := alloc_heap w (.cells #[.int .u32 fl, .int .u8 mn, .int .u8 tm, .slice ia il ic, .slice wa wl wc, .slice ga gl gc, .slice sa sl sc] 28)
  have HB := Lib.hid hB
  clear hB
  go_enter Try.func10, Try.ntmps10
  go_wp2_with fail
  go_loopw [20, 3] (fun iv nv wr => ∃ k s : Nat, k ≤ il ∧ iv = .int .i64 k ∧ nv = .int .i64 s ∧ Hid (s = q2 + sumL (its.take k)) ∧ Chg [] (w.alloc (.cells #[.int .u32 fl, .int .u8 mn, .int .u8 tm, .slice ia il ic, .slice wa wl wc, .slice ga gl gc, .slice sa sl sc] 28)) wr) (fun iv _ _ => il - (intOf iv).toNat)
  case atStart => exact ⟨0, q2, by omega, rfl, rfl, Lib.hid (by simp [sumL]), Chg.refl _ _⟩
  case round =>
    obtain ⟨k, s, hk, rfl, rfl, hs, hC⟩ := hrel
    by_cases hlt : k < il
    · obtain ⟨bl, off, x, hia, hx, x0, x1, x2, x3, hr, hwd⟩ := (HI.out.chg (CB.trans hC (U := []) (by simp) (by simp))).get hlt
      subst hia
      have hst := sumL_take hx
      have hle := sumL_le its (k + 1)
      obtain ⟨s2, hs2⟩ : ∃ s2 : Nat, s2 = s + (1 + x.m) := ⟨_, rfl⟩
      obtain ⟨s1, hs1⟩ : ∃ s1 : Nat, s1 = 1 + x.m := ⟨_, rfl⟩
      have hf2 := HF.out
      have hso := hs.out
      have b1 : (1 : Int) + (x.m : Int) = (s1 : Int) := by omega
      have b2 : (s : Int) + (s1 : Int) = (s2 : Int) := by omega
      have b3 : (s2 : Int) ≤ 4611686018427387904 := by omega
      have b4 : (s1 : Int) ≤ 4611686018427387904 := by omega
      have b5 : (x.m : Int) ≤ 4611686018427387904 := by omega
      have HS2 : Hid (s2 = q2 + sumL (its.take (k + 1))) := Lib.hid (by omega)
      have t3 : (wr.alloc (.cells #[.float .f64 x.b, .int .i64 x.kind, .int .i64 x.n, .slice x.ao x.m x.cap] 55)).cell? ⟨wr.heap.size, 3, none⟩ = some (.slice x.ao x.m x.cap) := by rw [cell_of_heap (alloc_heap wr _)]; rfl
      clear hst hle hs2 hs1 hf2 hso hr hx
      go_wp2_with fail
      go_roundw
      case rel => exact ⟨k + 1, s2, by omega, by go_num, rfl, HS2, hC.alloc _⟩
      case measure => simp [intOf]; omega
    · obtain rfl : k = il := by omega
      have HS : Hid (greatN ⟨fl, mn, tm, ia, k, ic, its, wa, wl, wc, ws, ga, gl, gc, gs, sa, sl, sc, ss⟩ = s) := Lib.hid (by
        rw [HG.out, hs.out, HQ.out, List.take_of_length_le (by rw [HI.out.1]; exact Nat.le_refl _)])
      have c3 : wr.cell? ⟨w.heap.size, 3, none⟩ = some (.slice ia k ic) := by rw [cell_of_heap (hC.heap HB.out (by simp))]; rfl
      clear hs
      have hcs : (300 < k) ∨ (k ≤ 300 ∧ 4000 < s) ∨ (k ≤ 300 ∧ s ≤ 4000) := by omega
      rcases hcs with h1 | ⟨h1, h2⟩ | ⟨h1, h2⟩
      · have hv : Hid (greatV ⟨fl, mn, tm, ia, k, ic, its, wa, wl, wc, ws, ga, gl, gc, gs, sa, sl, sc, ss⟩ = 1) := Lib.hid (by rw [HV.out, if_pos (.inl h1)])
        have h1' : (300 : Int) < (k : Int) := by omega
        clear h1
        go_wp2_with fail
        go_ret
        exact ⟨ret_i64' hv.out.symm, CB.trans hC (by simp) (by simp)⟩
      · have hv : Hid (greatV ⟨fl, mn, tm, ia, k, ic, its, wa, wl, wc, ws, ga, gl, gc, gs, sa, sl, sc, ss⟩ = 1) := Lib.hid (by rw [HV.out, HS.out, if_pos (.inr h2)])
        have h1' : ¬ (300 : Int) < (k : Int) := by omega
        have h2' : (4000 : Int) < (s : Int) := by omega
        clear h1 h2
        go_wp2_with fail
        go_ret
        exact ⟨ret_i64' hv.out.symm, CB.trans hC (by simp) (by simp)⟩
      · have hv : Hid (greatV ⟨fl, mn, tm, ia, k, ic, its, wa, wl, wc, ws, ga, gl, gc, gs, sa, sl, sc, ss⟩ = 0) := Lib.hid (by rw [HV.out, HS.out, if_neg (by omega)])
        have h1' : ¬ (300 : Int) < (k : Int) := by omega
        have h2' : ¬ (4000 : Int) < (s : Int) := by omega
        clear h1 h2
        go_wp2_with fail
        go_ret
        exact ⟨ret_i64' hv.out.symm, CB.trans hC (by simp) (by simp)⟩

set_option maxHeartbeats 4000000 in
/-- More than three hundred items: it is great, whatever the sum wraps to. -/
theorem great_big (p : PlanD) (w : World) (h : p.At w) (hf : 300 < p.il) :
    Calls Try.prog 10 #[.agg p.cells] w fun e w' => e = .returned (.int .i64 1) ∧ Chg [] w w' := by
  have HI := Lib.hid h.its
  have hilm := h.ilm
  obtain ⟨fl, mn, tm, ia, il, ic, its, wa, wl, wc, ws, ga, gl, gc, gs, sa, sl, sc, ss⟩ := p
  clear h
  unfold PlanD.cells
  dsimp only at HI hilm hf ⊢
  unfold maxLen at hilm
  have hf' : (300 : Int) < (il : Int) := by omega
  clear hf
  have CB : Chg [] w (w.alloc (.cells #[.int .u32 fl, .int .u8 mn, .int .u8 tm, .slice ia il ic, .slice wa wl wc, .slice ga gl gc, .slice sa sl sc] 28)) := (Chg.refl _ _).alloc _
  have HB := Lib.hid (alloc_heap w (.cells #[.int .u32 fl, .int .u8 mn, .int .u8 tm, .slice ia il ic, .slice wa wl wc, .slice ga gl gc, .slice sa sl sc] 28))
  go_enter Try.func10, Try.ntmps10
  go_wp2_with fail
  go_loopw [20, 3] (fun iv nv wr => ∃ (k : Nat) (z : Int), k ≤ il ∧ iv = .int .i64 k ∧ nv = .int .i64 z ∧ Chg [] (w.alloc (.cells #[.int .u32 fl, .int .u8 mn, .int .u8 tm, .slice ia il ic, .slice wa wl wc, .slice ga gl gc, .slice sa sl sc] 28)) wr) (fun iv _ _ => il - (intOf iv).toNat)
  case atStart => exact ⟨0, _, by omega, rfl, rfl, Chg.refl _ _⟩
  case round =>
    obtain ⟨k, z, hk, rfl, rfl, hC⟩ := hrel
    by_cases hlt : k < il
    · obtain ⟨bl, off, x, hia, hx, x0, x1, x2, x3, hr, hwd⟩ := (HI.out.chg (CB.trans hC (U := []) (by simp) (by simp))).get hlt
      subst hia
      have t3 : (wr.alloc (.cells #[.float .f64 x.b, .int .i64 x.kind, .int .i64 x.n, .slice x.ao x.m x.cap] 55)).cell? ⟨wr.heap.size, 3, none⟩ = some (.slice x.ao x.m x.cap) := by rw [cell_of_heap (alloc_heap wr _)]; rfl
      clear hr hx
      go_wp2_with fail
      go_roundw
      case rel => exact ⟨k + 1, _, by omega, by go_num, rfl, hC.alloc _⟩
      case measure => simp [intOf]; omega
    · obtain rfl : k = il := by omega
      have c3 : wr.cell? ⟨w.heap.size, 3, none⟩ = some (.slice ia k ic) := by rw [cell_of_heap (hC.heap HB.out (by simp))]; rfl
      go_wp2_with fail
      go_ret
      exact ⟨rfl, CB.trans hC (by simp) (by simp)⟩
end Go.Proofs.Ytmcbgpjphjacjaa
