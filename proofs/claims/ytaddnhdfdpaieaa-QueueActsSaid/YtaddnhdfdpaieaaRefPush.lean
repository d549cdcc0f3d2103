/-
  The reference queue: the contract of Push.
-/
import Derived.Test.YtaddnhdfdpaieaaRefPl
namespace Go.Proofs.Ytaddnhdfdpaieaa
set_option linter.unusedVariables false
open Go.RowKit
attribute [local go_sem] run_store_float'

theorem infoRefOne : (Try.prog.info? 51).map (fun i => (i.zero, i.size, i.bytes)) = some (some (.agg #[.float .f64 0, .int .i64 0]), 2, 16) := by kernel_rfl

theorem two_new (w : World) (t : TypeId) (x y : Value) : ∀ j u, [x, y][j]? = some u → (w.alloc (.cells #[x, y] t)).cell? ((⟨w.heap.size, 0, none⟩ : Addr).add j) = some u := by
  intro j u hu
  rw [Addr.add_lit, Nat.zero_add, cell_of_heap (alloc_heap w _)]
  simpa using hu

def RefPushPost (bM : Nat) (v : Value) (M : List Ele) (x : Ele) (w : World) (e : Ending) (w' : World) : Prop :=
  e = .returned (.int .i64 0) ∧ Chg (bM :: v.ownBlock.toList) w w' ∧ ∃ v', RefQ w' bM v' (insQ oE M x) ∧ ∀ k, v'.ownBlock = some k → v.ownBlock = some k ∨ w.heap.size ≤ k

theorem row_free {w : World} {t : TypeId} {size g off cap n : Nat} {xs : List Value} (h : HasRow w t size (.slice (some ⟨g, off, none⟩) n cap) n xs) : ∀ j, w.frozen? ⟨g, j, none⟩ = false := by
  rcases h.2 with ⟨e, _⟩ | ⟨g', off', cap', cur, e, hg, _⟩
  · cases e
  · injection e with e1
    injection e1 with e1
    injection e1 with e1 _ _
    subst e1
    exact fun j => free_of_heap hg j

theorem insAt_cells (M : List Ele) (x : Ele) (i : Nat) (hi : i ≤ M.length) : (cellsO (insAt M x i))[i * 2]? = some (.float .f64 x.1) ∧ (cellsO (insAt M x i))[i * 2 + 1]? = some (.int .i64 x.2.1) := by
  have hl := insAt_length M x i hi
  obtain ⟨b1, b2⟩ := cellsO_get (insAt M x i) i (by omega)
  have e := (List.getElem?_eq_getElem (show i < (insAt M x i).length by omega)).symm
  rw [insAt_get M x i hi, if_neg (by omega), if_pos rfl] at e
  injection e with e
  rw [e] at b1 b2
  exact ⟨b1, b2⟩

theorem insAt_cells_lt (M : List Ele) (x : Ele) (i j : Nat) (hi : i ≤ M.length) (hj : j < i) : (cellsO (insAt M x i))[j * 2]? = some (.float .f64 (M[j]'(by omega)).1) ∧ (cellsO (insAt M x i))[j * 2 + 1]? = some (.int .i64 (M[j]'(by omega)).2.1) := by
  have hl := insAt_length M x i hi
  obtain ⟨b1, b2⟩ := cellsO_get (insAt M x i) j (by omega)
  have e := (List.getElem?_eq_getElem (show j < (insAt M x i).length by omega)).symm
  rw [insAt_get M x i hi, if_pos hj, List.getElem?_eq_getElem (show j < M.length by omega)] at e
  injection e with e
  rw [e] at b1 b2
  exact ⟨b1, b2⟩

set_option maxRecDepth 100000 in
set_option maxHeartbeats 8000000 in
theorem refPush_any (bM : Nat) (v : Value) (M : List Ele) (p : Nat) (b : Nat) (n : Int) (w : World) (h : RefQ w bM v M) (hl : M.length < 4096) (hb : Wd b) (hs : M.Pairwise (fun x y => oE x < oE y)) (hok : ∀ y ∈ M, Wd y.1 ∧ 0 ≤ y.2.2 ∧ y.2.2 < (p : Int)) (hp : p < 1000000) :
    Calls Try.prog 20 #[.pointer (some ⟨bM, 0, none⟩), .float .f64 b, .int .i64 n] w (RefPushPost bM v M (b, n, (p : Int)) w) := by
  obtain ⟨i0, hi, hz0, hz1, hz2⟩ := info_parts infoRefOne
  obtain ⟨ao, c, rfl⟩ := h.slice
  have h0 := h.cell0
  have hf' : ¬ (4096 : Int) ≤ (M.length : Int) := by omega
  have HH := Lib.hid h
  have HS := Lib.hid hs
  have HOK := Lib.hid hok
  have k0 : Chg [] w (w.alloc (.cells #[.float .f64 b, .int .i64 n] 51)) := (Chg.refl _ _).alloc _
  have a0 := k0.cell h0 (by simp)
  have hlt := h.lt
  clear h hs hok
  go_enter Try.func20, Try.ntmps20
  go_wp2_with (first
    | (at_builtin; refine wpList_append_off rfl (.tmp 19) (.tmp 23) 46 rfl 51 i0 (.agg #[.float .f64 0, .int .i64 0]) 2 16 Try.underlying46 hi hz0 hz1 hz2 rfl (by decide) _ M.length (cellsO M) (by rfl) (HH.out.row.chg k0 (by simp)) ⟨w.heap.size, 0, none⟩ 1 1 [.float .f64 b, .int .i64 n] (by rfl) rfl (two_new _ _ _ _) (by simp [Value.oneCell']) (by unfold maxLen; omega) (by omega) (fun v1 w1 R1 C1 B1 => ?_); have C1' := k0.trans C1 (U := (Value.slice ao M.length c).ownBlock.toList) (by simp) (fun y hy _ => hy); have hM1 := C1'.heap HH.out.hM (fun hm => HH.out.ne (by simpa [Option.mem_toList] using hm)); have f1 := free_of_heap hM1 0; have h01 : w1.cell? ⟨bM, 0, none⟩ = some (.slice ao M.length c) := (by rw [cell_of_heap hM1]; rfl); obtain ⟨g, off, cap, rfl, hcs, _⟩ := R1.cells (by omega); have HM1 := Lib.hid hM1; have HC1 := Lib.hid C1'; have HR1 := Lib.hid R1; have HB1 := Lib.hid B1; clear C1 C1' hM1 R1 B1 hcs))
  have hx : (cellsO M ++ [Value.float .f64 b, .int .i64 n]) = cellsO (insAt M (b, n, (p : Int)) M.length) := by rw [insAt_end, cellsO_append]; rfl
  have hM2 := setCell_heap (i := 0) (.slice (some ⟨g, off, none⟩) (M.length + 1) cap) HM1.out
  have hne : g ≠ bM := by
    intro e
    rcases HB1.out g rfl with h1 | h1
    · exact HH.out.ne (by rw [← e]; exact h1)
    · simp at h1; omega
  have C2 : Chg [bM] w1 (w1.setCell ⟨bM, 0, none⟩ (.slice (some ⟨g, off, none⟩) (M.length + 1) cap)) := (Chg.refl [bM] w1).setCell (p := ⟨bM, 0, none⟩) (Or.inl List.mem_cons_self) _
  have R2 := HR1.out.chg C2 (fun k hk hm => hne (by injection hk with hk; have hk' : g = k := hk; rw [hk']; exact List.mem_singleton.1 hm))
  rw [hx] at R2
  obtain ⟨w2, hw2⟩ : ∃ w2, w2 = w1.setCell ⟨bM, 0, none⟩ (.slice (some ⟨g, off, none⟩) (M.length + 1) cap) := ⟨_, rfl⟩
  rw [← hw2] at hM2 C2 R2 ⊢
  have HR2 := Lib.hid R2
  have HM2 := Lib.hid hM2
  have HC2 := Lib.hid C2
  have HW2 := Lib.hid hw2
  clear hx hM2 C2 R2 hw2 a0 f1 h0 k0 h01
  have HEND := Lib.hid (show ∀ (i : Nat) (wr W : World), i ≤ M.length → HasRow wr 51 2 (.slice (some ⟨g, off, none⟩) (M.length + 1) cap) (M.length + 1) (cellsO (insAt M (b, n, (p : Int)) i)) → Chg [g] w2 wr → (∀ k (hk : k < M.length), i ≤ k → keyF b < keyF M[k].1) → (∀ (hi : 0 < i) (hm : i - 1 < M.length), keyF M[i - 1].1 ≤ keyF b) → Chg [] wr W →
      RefPushPost bM (.slice ao M.length c) M (b, n, (p : Int)) w (.returned (.int .i64 0)) W from fun i wr W hi hr hc hhi hlo cW => by
    have eq := insAt_insQ M (b, n, (p : Int)) i hi HS.out (fun y hy => (HOK.out y hy).2) (by show (p : Int) < 1000000; omega) hhi (fun h0 => hlo h0 (by omega))
    have hlen := insAt_length M (b, n, (p : Int)) i hi
    refine ⟨rfl, ?_, .slice (some ⟨g, off, none⟩) (M.length + 1) cap, ⟨?_, ?_, fun e => hne (by injection e)⟩, fun k hk => ?_⟩
    · refine ((HC1.out.trans HC2.out (U := bM :: (Value.slice ao M.length c).ownBlock.toList) (fun y hy => List.mem_cons_of_mem _ hy) (fun y hy _ => by rw [List.mem_singleton.1 hy]; exact List.mem_cons_self)).trans hc (fun y hy => hy) (fun y hy hl => ?_)).trans cW (fun y hy => hy) (by simp)
      have hyg := List.mem_singleton.1 hy
      rcases HB1.out g rfl with h1 | h1
      · rw [hyg]; exact List.mem_cons_of_mem _ (by rw [h1]; simp)
      · simp at h1; omega
    · have := cW.heap (hc.heap HM2.out (fun hm => hne (List.mem_singleton.1 hm).symm)) (by simp)
      exact this
    · rw [← eq, hlen]; exact hr.chg cW (by simp)
    · rcases HB1.out k hk with h1 | h1
      · exact .inl h1
      · right; simp at h1; omega)
  go_loopw [7] (fun iv wr => ∃ i : Nat, i ≤ M.length ∧ iv = .int .i64 i ∧ HasRow wr 51 2 (.slice (some ⟨g, off, none⟩) (M.length + 1) cap) (M.length + 1) (cellsO (insAt M (b, n, (p : Int)) i)) ∧ Chg [g] w2 wr ∧ ∀ k (hk : k < M.length), i ≤ k → keyF b < keyF M[k].1) (fun iv _ => (intOf iv).toNat)
  case atStart => exact ⟨M.length, Nat.le_refl _, rfl, HR2.out, Chg.refl _ _, fun k hk h => by omega⟩
  case round =>
    obtain ⟨i, hil, rfl, hr, hc, hhi⟩ := hrel
    have hM := hc.heap HM2.out (fun hm => hne (List.mem_singleton.1 hm).symm)
    have h0 : wr.cell? ⟨bM, 0, none⟩ = some (.slice (some ⟨g, off, none⟩) (M.length + 1) cap) := by rw [cell_of_heap hM]; rfl
    have HHI := Lib.hid hhi
    have HR := Lib.hid hr
    have HM := Lib.hid hM
    clear hhi hr hM
    cases i with
    | zero =>
      go_wp2_with fail
      go_quiet (fail)
      go_wp2_with fail
      go_ret
      exact HEND.out 0 wr _ hil HR.out hc HHI.out (fun h => absurd h (by omega)) ((Chg.refl _ _).drewN _)
    | succ j =>
      obtain ⟨g', off', cap', e, hcs, hfr⟩ := HR.out.cells (by omega)
      injection e with e1 e2 e3
      injection e1 with e1
      injection e1 with e1 e4 _
      subst e1 e3 e4
      obtain ⟨p1, p2⟩ := insAt_cells M (b, n, (p : Int)) (j + 1) hil
      obtain ⟨q1, q2⟩ := insAt_cells_lt M (b, n, (p : Int)) (j + 1) j hil (by omega)
      have hjM : j < M.length := by omega
      obtain ⟨y, hy⟩ : ∃ y, M[j] = y := ⟨_, rfl⟩
      rw [hy] at q1 q2
      have x1 := hcs _ _ p1
      have x2 := hcs _ _ p2
      have y1 := hcs _ _ q1
      have y2 := hcs _ _ q2
      rw [← Nat.add_assoc] at x2 y2
      have hyW : Wd y.1 := by rw [← hy]; exact (HOK.out _ (List.getElem_mem hjM)).1
      have HY := Lib.hid hy
      have HJ := Lib.hid hjM
      dsimp only at x1 x2
      have hj1 : (j : Int) + 1 < (M.length : Int) + 1 := by omega
      have hj2 : (j : Int) < (M.length : Int) + 1 := by omega
      clear p1 p2 q1 q2 hcs hy e2
      by_cases hlt2 : keyF b < keyF y.1
      · have hcmp : cmpF b y.1 = -1 := by unfold cmpF cmpN; rw [if_pos hlt2]
        have HLT := Lib.hid hlt2
        clear hlt2
        go_wp2_with fail
        go_quiet ((go_at_call 29; exact quiet_same (refcompare_any _ _ _ hb hyW)))
        generalize hwq : wr.drewN _ = wq
        have cq : Chg [] wr wq := by rw [← hwq]; exact (Chg.refl _ _).drewN _
        have hfq : ∀ j, wq.frozen? ⟨g, j, none⟩ = false := fun j => by rw [← hwq]; exact hfr j
        have k3 : Chg [] wq (wq.alloc (.cells #[.float .f64 b, .int .i64 n] 51)) := (Chg.refl _ _).alloc _
        have h0 := cq.cell h0 (by simp)
        have x1 := cq.cell x1 (by simp)
        have x2 := cq.cell x2 (by simp)
        have h3 := k3.cell h0 (by simp)
        have y1 := k3.cell (cq.cell y1 (by simp)) (by simp)
        have y2 := k3.cell (cq.cell y2 (by simp)) (by simp)
        have z1 := k3.cell x1 (by simp)
        have z2 := k3.cell x2 (by simp)
        have hR3 := (HR.out.chg cq (by simp)).chg k3 (by simp)
        clear hwq hfr
        go_wp2_with fail
        have hf3 := row_free hR3
        have hq8 := alloc_heap wq (.cells #[.float .f64 b, .int .i64 n] 51)
        have z3 : (wq.alloc (.cells #[.float .f64 b, .int .i64 n] 51)).cell? ⟨wq.heap.size, 0, none⟩ = some (.float .f64 b) := by rw [cell_of_heap hq8]; rfl
        have z4 : (wq.alloc (.cells #[.float .f64 b, .int .i64 n] 51)).cell? ⟨wq.heap.size, 1, none⟩ = some (.int .i64 n) := by rw [cell_of_heap hq8]; rfl
        have hg8 : g < wq.heap.size := (HR.out.chg cq (by simp)).lt g rfl
        have hn1 : ¬ wq.heap.size = g := by omega
        have hn2 : ¬ g = wq.heap.size := by omega
        have hn3 : ¬ bM = g := fun e => hne e.symm
        have HK3 := Lib.hid k3
        have HQ3 := Lib.hid cq
        clear hq8 hfq k3 cq
        generalize wq.heap.size = b8 at *
        generalize wq.alloc (.cells #[.float .f64 b, .int .i64 n] 51) = w3 at *
        have hR3' := Lib.hid hR3
        have d1 : ¬ off + (j + 1) * 2 = off + j * 2 := by omega
        have d2 : ¬ off + (j + 1) * 2 + 1 = off + j * 2 := by omega
        have d3 : ¬ off + (j + 1) * 2 = off + j * 2 + 1 := by omega
        have d4 : ¬ off + (j + 1) * 2 + 1 = off + j * 2 + 1 := by omega
        clear hR3 h0 x1 x2
        go_region
        all_goals go_wp2_with fail
        all_goals go_region
        all_goals go_wp2_with fail
        obtain ⟨cW, rW⟩ := step_row (x := (b, n, (p : Int))) hR3'.out HJ.out rfl HY.out rfl rfl
        go_roundw
        case rel =>
          refine ⟨j, by omega, rfl, rW, ((hc.trans HQ3.out (fun y hy => hy) (by simp)).trans HK3.out (fun y hy => hy) (by simp)).trans cW (fun y hy => hy) (fun y hy _ => hy), fun k hk h => ?_⟩
          by_cases e : k = j
          · subst e; rw [HY.out]; exact HLT.out
          · exact HHI.out k hk (by omega)
        case measure => simp [intOf]
      · have hcmp : decide (cmpF b y.1 < (0 : Int)) = false := by
          unfold cmpF cmpN
          rw [if_neg hlt2]
          split <;> rfl
        have HLT := Lib.hid hlt2
        clear hlt2
        go_wp2_with fail
        go_quiet ((go_at_call 29; exact quiet_same (refcompare_any _ _ _ hb hyW)))
        go_wp2_with fail
        go_ret
        exact HEND.out (j + 1) wr _ hil HR.out hc HHI.out (fun _ hm => by simp only [Nat.add_sub_cancel] at hm ⊢; rw [HY.out]; have := HLT.out; omega) ((Chg.refl _ _).drewN _)
end Go.Proofs.Ytaddnhdfdpaieaa
