/-
  WorldLong: as many items as there may be are taken, and not one more. The walk.
-/
import Derived.Test.YtlcfokndkkjklaaWldL
import Derived.Test.YtlcfokndkkjklaaWldX
import Derived.Laws.NewBlocks
namespace Go.Proofs.Ytlcfokndkkjklaa
set_option linter.unusedVariables false
set_option linter.unusedSimpArgs false
set_option maxRecDepth 100000
open Go.RowKit
attribute [local go_sem] run_store_float'

set_option maxHeartbeats 4000000 in
theorem wNew_bad (p : PlanD) (w : World) (h : p.At w) (hc : p.chk ≠ 0) :
    Calls Try.prog 10 #[.agg p.cells] w fun e w' => e = .returned (.tuple #[.pointer none, .int .i64 p.chk]) ∧ Chg [] w w' := by
  have hchk := fun W cW => wCheck_any p W (h.chg cW)
  have HCK := Lib.hid hchk
  have hne : (p.chk != 0) = true := by rw [bne_iff_ne]; exact hc
  clear h hchk hc
  generalize p.chk = y at *
  have CB : Chg [] w (w.alloc (.cells p.cells 36)) := (Chg.refl _ _).alloc _
  have hcs : p.cells = #[.int .u32 p.fl, .int .u8 p.mn, .int .u8 p.tm, .slice p.ia p.il p.ic, .slice p.wa p.wl p.wc, .slice p.ga p.gl p.gc, .slice p.sa p.sl p.sc] := rfl
  rw [hcs] at HCK CB ⊢
  go_enter Try.func10, Try.ntmps10
  go_wp2_with fail
  refine (HCK.out _ CB).mono ?_
  rintro e w1 ⟨rfl, C1⟩
  go_wp2_with fail
  go_ret2
  exact ⟨rfl, CB.trans C1 (by simp) (by simp)⟩

theorem ordP_all {its : List ItD} (h : ∀ x ∈ its, comes x = true) : ∀ k, k ≤ its.length → (ordP its k).length = k := by
  intro k
  induction k with
  | zero => intro _; rfl
  | succ k ih =>
    intro hk
    have hx : its[k]? = some its[k] := List.getElem?_eq_getElem (by omega)
    rw [ordP_succ hx]
    unfold ordStep
    rw [if_pos (h _ (List.getElem_mem _)), (insP_perm _ _).length_eq, List.length_cons, ih (by omega)]

/-- The k-th signal. -/
def sigD (i : Nat) : ItD := ⟨0, 1, i, none, 0, 0, []⟩
def sigs (n : Nat) : List ItD := (List.range n).map sigD

theorem sigs_chk (n : Nat) : chkL (sigs n) = 0 := by
  unfold sigs
  generalize List.range n = l
  induction l with
  | nil => rfl
  | cons a l ih =>
    rw [List.map_cons]
    unfold chkL
    rw [if_pos (by simp [chk1, sigD]; omega)]
    exact ih

theorem sigs_come (n : Nat) : ∀ x ∈ sigs n, comes x = true := by
  intro x hx
  obtain ⟨i, _, rfl⟩ := List.mem_map.1 hx
  rfl

def sigPlan (g n : Nat) : PlanD := ⟨0, 0, 0, some ⟨g, 0, none⟩, n, n, sigs n, none, 0, 0, [], none, 0, 0, [], none, 0, 0, []⟩

theorem sigPlan_at {w : World} {g n : Nat} {cur : Array Value} (hg : w.heap[g]? = some (.cells cur 26 (0, 0))) (hn : n ≤ 5000) (hc : ∀ j, j < n → cur[j * 4]? = some (.float .f64 0) ∧ cur[j * 4 + 1]? = some (.int .i64 1) ∧ cur[j * 4 + 2]? = some (.int .i64 j) ∧ cur[j * 4 + 3]? = some (.slice none 0 0)) : (sigPlan g n).At w := by
  have cg := fun j => cell_of_heap hg j
  refine ⟨⟨by simp [sigPlan, sigs], fun _ => ⟨g, 0, rfl, fun k x hx => ?_⟩⟩, by unfold sigPlan maxLen; simp; omega, .inl ⟨rfl, rfl, rfl, rfl⟩, .inl ⟨rfl, rfl, rfl, rfl⟩, .inl ⟨rfl, rfl, rfl, rfl⟩⟩
  have hx' : (sigs n)[k]? = some x := hx
  unfold sigs at hx'
  rw [List.getElem?_map] at hx'
  obtain ⟨i, hi, rfl⟩ := Option.map_eq_some_iff.1 hx'
  obtain ⟨hlt, rfl⟩ := List.getElem?_eq_some_iff.1 hi
  simp only [List.length_range] at hlt
  rw [List.getElem_range, Nat.zero_add]
  obtain ⟨c0, c1, c2, c3⟩ := hc k hlt
  exact ⟨by rw [cg]; exact c0, by rw [cg]; exact c1, by rw [cg]; exact c2, by rw [cg]; exact c3, BRow.nil _, Wd_zero⟩

theorem sigPlan_chk (g n : Nat) : (sigPlan g n).chk = if 4096 < n then 10 else 0 := by
  unfold PlanD.chk
  show (if 4096 < n then 10 else chkL (sigs n)) = _
  rw [sigs_chk]


theorem infoItem : (Try.prog.info? 26).map (fun i => (i.zero, i.size, i.bytes)) = some (some (.agg #[.float .f64 0, .int .i64 0, .int .i64 0, .slice none 0 0]), 4, 48) := by kernel_rfl

def zItem : Array Value := #[.float .f64 0, .int .i64 0, .int .i64 0, .slice none 0 0]

theorem make_items (n : Nat) (h : n ≤ 100000) (w : World) : (Instr.makeSlice 22 (.int .i64 (n : Int)) (.int .i64 (n : Int))).run Try.prog w =
    .ok (.slice (some ⟨w.heap.size, 0, none⟩) n n) (w.alloc (.cells (madeCells zItem (n * 4)) 26)) := by
  obtain ⟨i0, hi, hz0, hz1, hz2⟩ := info_parts infoItem
  have hr := run_make (P := Try.prog) w 22 26 i0 _ Try.underlying22 hi hz0 .i64 .i64 n n (by omega) (Int.le_refl _) (by rw [hz2]; omega) (by omega)
  simp only [Int.toNat_natCast, hz1] at hr
  exact hr

/-- The first k cells' items are the signals. -/
def SigsTo (w : World) (g n k : Nat) : Prop :=
  ∃ cur : Array Value, w.heap[g]? = some (.cells cur 26 (0, 0)) ∧ cur.size = n * 4 ∧ ∀ j, j < n → cur[j * 4]? = some (.float .f64 0) ∧ cur[j * 4 + 1]? = some (.int .i64 (if j < k then 1 else 0)) ∧ cur[j * 4 + 2]? = some (.int .i64 (if j < k then j else 0)) ∧ cur[j * 4 + 3]? = some (.slice none 0 0)

theorem SigsTo.step {w : World} {g n k : Nat} (h : SigsTo w g n k) (hk : k < n) :
    SigsTo ((((w.setCell ⟨g, k * 4, none⟩ (.float .f64 0)).setCell ⟨g, k * 4 + 1, none⟩ (.int .i64 1)).setCell ⟨g, k * 4 + 2, none⟩ (.int .i64 k)).setCell ⟨g, k * 4 + 3, none⟩ (.slice none 0 0)) g n (k + 1) := by
  obtain ⟨cur, hg, hs, hc⟩ := h
  have k1 := setCell_heap (i := k * 4) (.float .f64 0) hg
  have k2 := setCell_heap (i := k * 4 + 1) (.int .i64 1) k1
  have k3 := setCell_heap (i := k * 4 + 2) (.int .i64 k) k2
  have k4 := setCell_heap (i := k * 4 + 3) (.slice none 0 0) k3
  refine ⟨_, k4, by simpa using hs, fun j hj => ?_⟩
  simp only [Array.getElem?_setIfInBounds, Array.size_setIfInBounds]
  by_cases e : j = k
  · subst e
    refine ⟨?_, ?_, ?_, ?_⟩
    · rw [if_neg (by omega), if_neg (by omega), if_neg (by omega), if_pos rfl, if_pos (by omega)]
    · rw [if_neg (by omega), if_neg (by omega), if_pos rfl, if_pos (by omega), if_pos (by omega)]
    · rw [if_neg (by omega), if_pos rfl, if_pos (by omega), if_pos (by omega)]
    · rw [if_pos rfl, if_pos (by omega)]
  · obtain ⟨c0, c1, c2, c3⟩ := hc j hj
    have e2 : (j < k + 1) = (j < k) := by apply propext; omega
    simp only [e2]
    refine ⟨?_, ?_, ?_, ?_⟩ <;> (rw [if_neg (by omega), if_neg (by omega), if_neg (by omega), if_neg (by omega)]; assumption)

theorem SigsTo.chg {w w' : World} {g n k : Nat} (h : SigsTo w g n k) (c : Chg [] w w') : SigsTo w' g n k := by
  obtain ⟨cur, hg, h2⟩ := h
  exact ⟨cur, c.heap hg (by simp), h2⟩

theorem SigsTo.plan {w : World} {g n : Nat} (h : SigsTo w g n n) (hn : n ≤ 5000) : (sigPlan g n).At w := by
  obtain ⟨cur, hg, hs, hc⟩ := h
  refine sigPlan_at hg hn fun j hj => ?_
  have h := hc j hj
  rwa [if_pos hj, if_pos hj] at h

set_option maxHeartbeats 8000000 in
theorem long_walk (m : Int) (w : World) (hm : (Lit.int .u8 m).wf = true) : Calls Try.prog 3 #[.int .u8 m] w fun e w' => e = .returned (.bool true) ∧ Below w.heap.size w w' := by
  have hb : 0 ≤ m ∧ m ≤ 255 := by simpa [Lit.wf, IntKind.min, IntKind.max, IntKind.bits, IntKind.signed] using hm
  obtain ⟨r, hr⟩ : ∃ r, r = (m % 5).toNat := ⟨_, rfl⟩
  have hr2 : m % 5 = (r : Int) := by omega
  have hr3 : r < 5 := by omega
  clear hm hr
  have hb1 := hb.1
  have hb2 := hb.2
  clear hb
  obtain ⟨N, hN⟩ : ∃ N : Nat, N = 4094 + r := ⟨_, rfl⟩
  have hN1 : (4094 : Int) + (r : Int) = (N : Int) := by omega
  have HN := Lib.hid hN
  have hN2 : N ≤ 4098 := by omega
  clear hN
  have hmk := make_items N (by omega)
  go_enter Try.func3, Try.ntmps3
  go_wp2_with fail
  have K0 : Chg [] w (w.alloc (.cells (madeCells zItem (N * 4)) 26)) := (Chg.refl _ _).alloc _
  have S0 : SigsTo (w.alloc (.cells (madeCells zItem (N * 4)) 26)) w.heap.size N 0 := by
    refine ⟨_, alloc_heap w _, size_madeCells _ _, fun j hj => ?_⟩
    rw [if_neg (by omega), if_neg (by omega)]
    refine ⟨?_, ?_, ?_, ?_⟩
    · unfold madeCells zItem; simp [show j * 4 < N * 4 by omega, show j * 4 % 4 = 0 by omega]
    · unfold madeCells zItem; simp [show j * 4 + 1 < N * 4 by omega, show (j * 4 + 1) % 4 = 1 by omega]
    · unfold madeCells zItem; simp [show j * 4 + 2 < N * 4 by omega, show (j * 4 + 2) % 4 = 2 by omega]
    · unfold madeCells zItem; simp [show j * 4 + 3 < N * 4 by omega, show (j * 4 + 3) % 4 = 3 by omega]
  generalize w.alloc (.cells (madeCells zItem (N * 4)) 26) = w1 at *
  obtain ⟨g, hg⟩ : ∃ g, g = w.heap.size := ⟨_, rfl⟩
  have HG := Lib.hid hg
  rw [← hg] at S0 ⊢
  clear hg hmk
  go_loopw [16] (fun iv wr => ∃ k : Nat, k ≤ N ∧ iv = .int .i64 k ∧ SigsTo wr g N k ∧ Chg [] w wr) (fun iv _ => N - (intOf iv).toNat)
  case atStart => exact ⟨0, by omega, rfl, S0, K0⟩
  case round =>
    obtain ⟨k, hk, rfl, hS, hC⟩ := hrel
    by_cases hlt : k < N
    · have HS := Lib.hid hS
      have hfr : ∀ j, wr.frozen? ⟨g, j, none⟩ = false := fun j => by obtain ⟨cur, h1, _⟩ := HS.out; exact free_of_heap h1 j
      obtain ⟨y0, y1, y2, y3⟩ : wr.cell? ⟨g, k * 4, none⟩ = some (.float .f64 0) ∧ wr.cell? ⟨g, k * 4 + 1, none⟩ = some (.int .i64 0) ∧ wr.cell? ⟨g, k * 4 + 2, none⟩ = some (.int .i64 0) ∧ wr.cell? ⟨g, k * 4 + 3, none⟩ = some (.slice none 0 0) := by
        obtain ⟨cur, h1, _, h2⟩ := HS.out
        obtain ⟨c0, c1, c2, c3⟩ := h2 k hlt
        rw [if_neg (by omega)] at c1 c2
        refine ⟨?_, ?_, ?_, ?_⟩ <;> (rw [cell_of_heap h1]; assumption)
      clear hS
      go_wp2_with fail
      have hge : w.heap.size ≤ g := by rw [HG.out]; exact Nat.le_refl _
      have C4 := (((hC.setCell (p := ⟨g, k * 4, none⟩) (Or.inr hge) (.float .f64 0)).setCell (p := ⟨g, k * 4 + 1, none⟩) (Or.inr hge) (.int .i64 1)).setCell (p := ⟨g, k * 4 + 2, none⟩) (Or.inr hge) (.int .i64 k)).setCell (p := ⟨g, k * 4 + 3, none⟩) (Or.inr hge) (.slice none 0 0)
      go_roundw
      case rel => exact ⟨k + 1, by omega, by go_num, HS.out.step hlt, C4⟩
      case measure => simp [intOf]; omega
    · obtain rfl : k = N := by omega
      have HP := Lib.hid (hS.plan (by omega))
      have hcs : (sigPlan g k).cells = #[.int .u32 0, .int .u8 0, .int .u8 0, .slice (some ⟨g, 0, none⟩) k k, .slice none 0 0, .slice none 0 0, .slice none 0 0] := rfl
      have hch := sigPlan_chk g k
      clear hS S0 K0
      by_cases hbig : 4096 < k
      · rw [if_pos hbig] at hch
        have hn := wNew_bad (sigPlan g k) wr HP.out (by rw [hch]; decide)
        rw [hcs, hch] at hn
        have HNW := Lib.hid hn
        have hbig' : (4096 : Int) < (k : Int) := by omega
        clear hn hcs hch hbig
        go_wp2_with fail
        refine HNW.out.mono ?_
        rintro e w2 ⟨rfl, C2⟩
        go_wp2_with fail
        refine (alive_any _).mono ?_
        rintro e w3 ⟨rfl, C3⟩
        go_wp2_with fail
        go_ret
        exact ⟨rfl, Chg.below (Below.refl _ _) ((hC.trans C2 (U := []) (fun y hy => hy) (by simp)).trans C3 (U := []) (fun y hy => hy) (by simp)) (by simp) (Nat.le_refl _)⟩
      · rw [if_neg hbig] at hch
        have hn := wNew_any (sigPlan g k) wr HP.out hch (by unfold sigPlan; simp) (by unfold sigPlan; simp) (by unfold sigPlan; simp) (fun x hx => by
          unfold sigPlan sigs at hx
          obtain ⟨i, _, rfl⟩ := List.mem_map.1 hx
          simp [sigD])
        rw [hcs] at hn
        have HNW := Lib.hid hn
        have hbig' : ¬ (4096 : Int) < (k : Int) := by omega
        clear hn hcs hch hbig
        go_wp2_with fail
        refine HNW.out.mono ?_
        rintro e w2 ⟨μ, Z, rfl, O, hz⟩
        have hlen : Z.length = k := by
          have h1 := congrArg List.length hz
          rw [List.length_map] at h1
          rw [h1]
          exact ordP_all (sigs_come k) k (by unfold sigs; simp)
        have HL := Lib.hid hlen
        clear hz hlen
        go_wp2_with fail
        refine (alive_any _).mono ?_
        rintro e w3 ⟨rfl, C3⟩
        go_wp2_with fail
        refine (oLeft_any _ _ μ Z _ (O.chg0 C3)).mono ?_
        rintro e w4 ⟨rfl, rfl⟩
        rw [HL.out]
        go_wp2_with fail
        go_ret
        exact ⟨rfl, Chg.below (Below.refl _ _) ((hC.trans O.c0 (U := []) (fun y hy => hy) (by simp)).trans C3 (U := []) (fun y hy => hy) (by simp)) (by simp) (Nat.le_refl _)⟩
end Go.Proofs.Ytlcfokndkkjklaa
