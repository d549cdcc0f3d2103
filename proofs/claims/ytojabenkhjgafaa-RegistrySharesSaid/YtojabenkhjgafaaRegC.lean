/-
  The registry: the contract of Cells.
-/
import Derived.Test.YtojabenkhjgafaaRegI
namespace Go.Proofs.Ytojabenkhjgafaa
set_option linter.unusedVariables false
open Go.RowKit Go.Shelf Go.WideShapes
attribute [local go_sem] Oper.semAt_some

def sumN {A : List Ent} (l : List (EntOf A)) : Int := (l.map (fun x => (x.1.N : Int))).sum

theorem sumN_snoc {A : List Ent} (l : List (EntOf A)) (x : EntOf A) : sumN (l ++ [x]) = sumN l + (x.1.N : Int) := by simp [sumN]

theorem sumN_le {A : List Ent} (h : ∀ x ∈ A, x.N ≤ 4096) (l : List (EntOf A)) : 0 ≤ sumN l ∧ sumN l ≤ 4096 * (l.length : Int) := by
  induction l with
  | nil => simp [sumN]
  | cons x l ih =>
    have e : sumN (x :: l) = (x.1.N : Int) + sumN l := by simp [sumN]
    have := h x.1 x.2
    rw [e, List.length_cons]
    omega

theorem chg_putObj (W : World) (l : Nat) (o : Obj) (_ : 0 ≤ l) : Chg [l] W (W.putObj l o) :=
  ⟨rfl, rfl, rfl, by simp, fun k _ hS => World.putObj_heap_other (fun e => hS (by rw [e]; simp))⟩

theorem capIn (F : Fence) (n : Nat) (l : Nat) (hn : 1 ≤ n) (h12 : F.fn 12) (hro : F.round = none) (bA bC N : Nat) (xs : List Int) (w : World) (h : ArenaIs w bA bC N xs) :
    CallsIn F n Try.prog 12 #[.pointer (some ⟨bA, 0, none⟩)] w fun e w' => e = .returned (.int .i64 (N : Nat)) ∧ w = w' := by
  have h0 := h.cell0
  refine callsIn_of_wp Try.func12 rfl h12 ?_ hro
  simp only [Try.ntmps12, List.size_toArray, List.length_cons, List.length_nil, Nat.reduceAdd, Nat.reduceSub, Array.replicate_succ, Array.replicate_zero, List.push_toArray, List.append_toArray, List.nil_append, List.cons_append]
  gi_wp2
  go_ret
  exact ⟨rfl, rfl⟩

set_option maxRecDepth 100000 in
set_option maxHeartbeats 4000000 in
theorem rCells_in (F : Fence) (n : Nat) (h16 : F.fn 16) (h28 : F.fn 28) (h32 : F.fn 32) (h12 : F.fn 12) (hro : F.round = none) (hn : 5 ≤ n)
    (bR bM : Nat) (nv : Value) (A : List Ent) (w : World) (h : RegIs w bR bM nv A) :
    CallsIn F n Try.prog 16 #[.pointer (some ⟨bR, 0, none⟩)] w fun e w' => e = .returned (.int .i64 (sumN A.attach)) ∧ Chg [] w w' := by
  have h1 : 1 ≤ n := by omega
  refine callsIn_of_wp_marks Try.func16 rfl h16 ?_ hro
  simp only [Try.ntmps16, List.size_toArray, List.length_cons, List.length_nil, Nat.reduceAdd, Nat.reduceSub, Array.replicate_succ, Array.replicate_zero, List.push_toArray, List.append_toArray, List.nil_append, List.cons_append]
  gi_wp2_with (gi_at_call 28; refine (all_in F (n - 1) h28 hro _ _).mono ?_; rintro e w' ⟨rfl, rfl⟩)
  obtain ⟨w1, hw1⟩ : ∃ w1, w1 = (w.alloc (.cells #[.int .i64 0] 3)).alloc (.cells #[.pointer (some ⟨bR, 0, none⟩)] 23) := ⟨_, rfl⟩
  have C1 : Chg [] w w1 := by rw [hw1]; exact ((Chg.refl _ _).alloc _).alloc _
  have R1 := h.chg C1 (by simp)
  have hB : w1.heap[w.heap.size + 1]? = some (.cells #[.pointer (some ⟨bR, 0, none⟩)] 23 (0, 0)) := by rw [hw1]; exact alloc2_heap w _ _
  have hN : w1.heap[w.heap.size]? = some (.cells #[.int .i64 0] 3 (0, 0)) := by rw [hw1]; exact alloc_keeps (alloc_heap w _)
  have hz : w1.heap.size = w.heap.size + 2 := by rw [hw1]; simp
  have hlt := h.lt
  have hsz : (w.alloc (.cells #[.int .i64 0] 3)).heap.size = w.heap.size + 1 := by simp
  rw [← hw1]
  clear hsz
  have hKs : ∀ k ∈ itBlks (w.heap.size + 1) bR bM nv, k < w1.heap.size := by
    intro k hk
    unfold itBlks at hk
    rcases List.mem_cons.1 hk with rfl | hk
    · omega
    · have := hlt k (by unfold blks; exact (List.mem_append.2 (.inl hk) : k ∈ (bR :: bM :: nv.ownBlock.toList) ++ A.flatMap (fun x => [x.bA, x.bC])))
      omega
  have hKn : ∀ k ∈ itBlks (w.heap.size + 1) bR bM nv, k ≠ w.heap.size := by
    intro k hk
    unfold itBlks at hk
    rcases List.mem_cons.1 hk with rfl | hk
    · omega
    · have := hlt k (by unfold blks; exact (List.mem_append.2 (.inl hk) : k ∈ (bR :: bM :: nv.ownBlock.toList) ++ A.flatMap (fun x => [x.bA, x.bC])))
      omega
  have hN4 : ∀ x ∈ A, x.N ≤ 4096 := fun x hx => (h.ar x hx).most
  refine wpIn_rangeFunc_ownF hro h1 (gf := 32) (lb := #[.pointer (some ⟨w.heap.size + 1, 0, none⟩)]) rfl h32 (enters_of Try.func32 (by kernel_rfl) rfl)
    (all_stops F (n - 1) h32 hro (by omega) (w.heap.size + 1) bR bM nv A w1 hB R1) KeepB.trans (keepB_b hKs) (Below.refl _ _) (fun _ => rfl)
    (fun pre W => Chg [w.heap.size] w1 W ∧ W.heap[w.heap.size]? = some (.cells #[.int .i64 (sumN pre)] 3 (0, 0)))
    (fun _ _ _ => False)
    (OwnFrom.and (ownFrom_chg (Nat.le_refl _)) (ownFrom_heap (fun pre => .cells #[.int .i64 (sumN pre)] 3 (0, 0)) (fun _ => rfl)))
    (fun _ _ _ _ _ hs _ _ => hs)
    ⟨Chg.refl _ _, hN⟩
    (fun x => { tmps := #[.pointer (some ⟨bR, 0, none⟩), undef, .int .i64 0, .pointer (some ⟨w.heap.size, 0, none⟩), .pointer (some ⟨x.1.bA, 0, none⟩), .pointer (some ⟨bR, 0, none⟩), .func (.func 32) #[] #[.pointer (some ⟨w.heap.size + 1, 0, none⟩)], .pointer (some ⟨x.1.bA, 0, none⟩), undef, undef, undef, undef, undef], defers := [] }) ?assign ?body ?done ?stop
  case assign =>
    intro l x W K hK
    gi_wp2
    exact hK
  case body =>
    rintro l pre x W ⟨hC, hH⟩ hlen
    have hA := (R1.ar x.1 x.2).chg hC (by have := hlt _ (mem_blks_ar x.2).1; simp; omega) (by have := hlt _ (mem_blks_ar x.2).2; simp; omega)
    have hb := sumN_le hN4 pre
    have hx4 := hN4 x.1 x.2
    have hlA := h.most
    have hcell : W.cell? ⟨w.heap.size, 0, none⟩ = some (.int .i64 (sumN pre)) := by rw [cell_of_heap hH]; rfl
    have hfro := free_of_heap hH 0
    have hn1 : 1 ≤ n - 1 - 1 := by omega
    have hwr : IntKind.i64.wrap (sumN pre + (x.1.N : Int)) = sumN pre + (x.1.N : Int) := IntWalk.i64_in _ (by omega)
    have HW := Lib.hid hwr
    clear hwr
    have hmix : Try.prog.follows .mixedOrders = true := by kernel_rfl
    gi_wp2
    gi_region_with_o (gi_at_call 12; refine (CallsIn.inRound l (capIn F _ l (by omega) h12 hro _ _ _ _ _ hA.drew)).mono ?_; rintro e w' ⟨rfl, rfl⟩)
    all_goals gi_wp2
    all_goals (
      rw [HW.out]
      refine ⟨⟨(KeepsOthers.setCell W _ _).size, (KeepsOthers.setCell W _ _).same⟩, KeepB.of_chg (S := [w.heap.size]) (((Chg.refl _ _).setCell (Or.inl (by simp)) _).drew) (fun k hk => ⟨?_, ?_⟩), (hC.trans ((Chg.refl [w.heap.size] W).setCell (Or.inl (by simp)) _) (fun y hy => hy) (fun y hy _ => hy)).drew, ?_⟩
      · have := hKs k hk; have := hC.size; omega
      · have := hKn k hk; simpa using this
      · rw [sumN_snoc]; exact setCell_heap _ hH)
  case done =>
    rintro D ys W hD rfl ⟨hC, hH⟩ hK
    have hcell : W.cell? ⟨w.heap.size, 0, none⟩ = some (.int .i64 (sumN A.attach)) := by rw [cell_of_heap hH]; rfl
    gi_wp2
    refine ⟨by simp, .inl ⟨_, _, rfl, run_takeDeferred hK, ?_⟩⟩
    exact ⟨_, results_tmp rfl _ _ _, rfl, (C1.trans (hC.trans (chg_putObj W D _ (Nat.zero_le _)) (U := [w.heap.size]) (fun x hx => hx) (fun x hx hl => absurd hl (by rw [List.mem_singleton.1 hx]; omega))) (by simp) (fun x hx hl => absurd hl (by rw [List.mem_singleton.1 hx]; omega)))⟩
  case stop =>
    rintro D c pre W _ _ h _
    exact h.elim

/-- How many cells there are. -/
def sumE (A : List Ent) : Int := (A.map (fun x => (x.N : Int))).sum

theorem sumN_attach (A : List Ent) : sumN A.attach = sumE A := by
  unfold sumN sumE
  have : A.attach.map (fun x => (x.1.N : Int)) = (A.attach.map Subtype.val).map (fun x => (x.N : Int)) := by rw [List.map_map]; rfl
  rw [this, List.attach_map_subtype_val]

theorem rCells_any (bR bM : Nat) (nv : Value) (A : List Ent) (w : World) (h : RegIs w bR bM nv A) :
    Calls Try.prog 16 #[.pointer (some ⟨bR, 0, none⟩)] w fun e w' => e = .returned (.int .i64 (sumE A)) ∧ Chg [] w w' := by
  rw [← sumN_attach]
  exact (callsIn_wide (n := 6)).1 (rCells_in Fence.wide 6 trivial trivial trivial trivial rfl (by omega) bR bM nv A w h)
end Go.Proofs.Ytojabenkhjgafaa
