/-
  The registry's methods where there is none.
-/
import Derived.Test.YtojabenkhjgafaaRegW
namespace Go.Proofs.Ytojabenkhjgafaa
set_option linter.unusedVariables false
open Go.RowKit Go.Shelf Go.WideShapes
attribute [local go_sem] Oper.semAt_some

set_option maxRecDepth 100000 in
set_option maxHeartbeats 2000000 in
theorem nil_stops (n : Nat) (Bs : Nat) (Ks : List Nat) (w : World) (hBs : w.heap[Bs]? = some (.cells #[.pointer none] 23 (0, 0))) :
    SeqStopsK Fence.wide n Try.prog 32 #[.pointer (some ⟨Bs, 0, none⟩)] (fun x : EntOf [] => #[Value.pointer (some ⟨x.1.bA, 0, none⟩)]) (KeepB Ks) (fun ys => ys = []) (fun pre => pre <+: []) 0 w := fun l J Jx W hW _ _ hY h0 => by
  have C : Chg [] w W := Chg.of_below hW (Nat.le_refl _)
  have hc0 : W.cell? ⟨Bs, 0, none⟩ = some (.pointer none) := by rw [cell_of_heap (C.heap hBs (by simp))]; rfl
  refine callsIn_of_wp Try.func32 rfl trivial ?_ rfl
  simp only [Try.ntmps32, List.size_toArray, List.length_cons, List.length_nil, Nat.reduceAdd, Nat.reduceSub, Array.replicate_succ, Array.replicate_zero, List.push_toArray, List.append_toArray, List.nil_append, List.cons_append]
  gi_wp2
  refine bodyPost_ret (results_none rfl _ _ _) rfl ?_
  exact ⟨⟨_, rfl⟩, .inl h0⟩

set_option maxRecDepth 100000 in
set_option maxHeartbeats 2000000 in
theorem nilCells (w : World) : Calls Try.prog 16 #[.pointer none] w fun e w' => e = .returned (.int .i64 0) ∧ Chg [] w w' := by
  refine (callsIn_wide (n := 6)).1 ?_
  refine callsIn_of_wp_marks Try.func16 rfl trivial ?_ rfl
  simp only [Try.ntmps16, List.size_toArray, List.length_cons, List.length_nil, Nat.reduceAdd, Nat.reduceSub, Array.replicate_succ, Array.replicate_zero, List.push_toArray, List.append_toArray, List.nil_append, List.cons_append]
  gi_wp2_with (refine ⟨trivial, ?_⟩; gi_at_call 28; refine (all_in Fence.wide _ trivial rfl _ _).mono ?_; rintro e w' ⟨rfl, rfl⟩)
  obtain ⟨w1, hw1⟩ : ∃ w1, w1 = (w.alloc (.cells #[.int .i64 0] 3)).alloc (.cells #[.pointer none] 23) := ⟨_, rfl⟩
  have C1 : Chg [] w w1 := by rw [hw1]; exact ((Chg.refl _ _).alloc _).alloc _
  have hB : w1.heap[w.heap.size + 1]? = some (.cells #[.pointer none] 23 (0, 0)) := by rw [hw1]; exact alloc2_heap w _ _
  have hN : w1.heap[w.heap.size]? = some (.cells #[.int .i64 0] 3 (0, 0)) := by rw [hw1]; exact alloc_keeps (alloc_heap w _)
  have hz : w1.heap.size = w.heap.size + 2 := by rw [hw1]; simp
  rw [← hw1]
  refine wpIn_rangeFunc_ownF rfl (by omega) (gf := 32) (lb := #[.pointer (some ⟨w.heap.size + 1, 0, none⟩)]) rfl trivial (enters_of Try.func32 (by kernel_rfl) rfl)
    (nil_stops 5 (w.heap.size + 1) [] w1 hB) KeepB.trans (keepB_b (by simp)) (Below.refl _ _) (fun _ => rfl)
    (fun pre W => Chg [w.heap.size] w1 W ∧ W.heap[w.heap.size]? = some (.cells #[.int .i64 0] 3 (0, 0)))
    (fun _ _ _ => False)
    (OwnFrom.and (ownFrom_chg (Nat.le_refl _)) (ownFrom_heap (fun _ => .cells #[.int .i64 0] 3 (0, 0)) (fun _ => rfl)))
    (fun _ _ _ _ _ hs _ _ => hs)
    ⟨Chg.refl _ _, hN⟩
    (fun x => { tmps := #[.pointer none, undef, .int .i64 0, .pointer (some ⟨w.heap.size, 0, none⟩), .pointer (some ⟨x.1.bA, 0, none⟩), .pointer none, .func (.func 32) #[] #[.pointer (some ⟨w.heap.size + 1, 0, none⟩)], .pointer (some ⟨x.1.bA, 0, none⟩), undef, undef, undef, undef, undef], defers := [] }) ?assign ?body ?done ?stop
  case assign =>
    intro l x W K hK
    gi_wp2
    exact hK
  case body =>
    intro l pre x W _ _
    exact absurd x.2 (by simp)
  case done =>
    rintro D ys W hD rfl ⟨hC, hH⟩ hK
    have hcell : W.cell? ⟨w.heap.size, 0, none⟩ = some (.int .i64 0) := by rw [cell_of_heap hH]; rfl
    gi_wp2
    refine ⟨by simp, .inl ⟨_, _, rfl, run_takeDeferred hK, ?_⟩⟩
    exact ⟨_, results_tmp rfl _ _ _, rfl, C1.trans ((hC).trans (chg_putObj _ D _ (Nat.zero_le _)) (U := w.heap.size :: [D]) (fun y hy => by simp at hy ⊢; exact .inl hy) (fun y hy _ => by simp at hy ⊢; exact .inr hy)) (by simp) (fun y hy hl => absurd hl (by simp at hy; omega))⟩
  case stop =>
    rintro D c pre W _ _ h _
    exact h.elim

set_option maxRecDepth 100000 in
set_option maxHeartbeats 2000000 in
theorem nilZero (w : World) : Calls Try.prog 21 #[.pointer none] w fun e w' => e = .returned (.bool true) ∧ Chg [] w w' := by
  refine (callsIn_wide (n := 6)).1 ?_
  refine callsIn_of_wp_marks Try.func21 rfl trivial ?_ rfl
  simp only [Try.ntmps21, List.size_toArray, List.length_cons, List.length_nil, Nat.reduceAdd, Nat.reduceSub, Array.replicate_succ, Array.replicate_zero, List.push_toArray, List.append_toArray, List.nil_append, List.cons_append]
  gi_wp2_with (refine ⟨trivial, ?_⟩; gi_at_call 28; refine (all_in Fence.wide _ trivial rfl _ _).mono ?_; rintro e w' ⟨rfl, rfl⟩)
  obtain ⟨w1, hw1⟩ : ∃ w1, w1 = (w.alloc (.cells #[.bool false] 4)).alloc (.cells #[.pointer none] 23) := ⟨_, rfl⟩
  have C1 : Chg [] w w1 := by rw [hw1]; exact ((Chg.refl _ _).alloc _).alloc _
  have hB : w1.heap[w.heap.size + 1]? = some (.cells #[.pointer none] 23 (0, 0)) := by rw [hw1]; exact alloc2_heap w _ _
  have hN : w1.heap[w.heap.size]? = some (.cells #[.bool false] 4 (0, 0)) := by rw [hw1]; exact alloc_keeps (alloc_heap w _)
  have hz : w1.heap.size = w.heap.size + 2 := by rw [hw1]; simp
  rw [← hw1]
  refine wpIn_rangeFunc_ownF rfl (by omega) (gf := 32) (lb := #[.pointer (some ⟨w.heap.size + 1, 0, none⟩)]) rfl trivial (enters_of Try.func32 (by kernel_rfl) rfl)
    (nil_stops 5 (w.heap.size + 1) [] w1 hB) KeepB.trans (keepB_b (by simp)) (Below.refl _ _) (fun _ => rfl)
    (fun pre W => Chg [w.heap.size] w1 W ∧ W.heap[w.heap.size]? = some (.cells #[.bool false] 4 (0, 0)))
    (fun _ _ _ => False)
    (OwnFrom.and (ownFrom_chg (Nat.le_refl _)) (ownFrom_heap (fun _ => .cells #[.bool false] 4 (0, 0)) (fun _ => rfl)))
    (fun _ _ _ _ _ hs _ _ => hs)
    ⟨Chg.refl _ _, hN⟩
    (fun x => { tmps := #[.pointer none, undef, .pointer (some ⟨w.heap.size, 0, none⟩), .pointer (some ⟨x.1.bA, 0, none⟩), .pointer none, .func (.func 32) #[] #[.pointer (some ⟨w.heap.size + 1, 0, none⟩)], .pointer (some ⟨x.1.bA, 0, none⟩), undef, undef, undef], defers := [] }) ?assign ?body ?done ?stop
  case assign =>
    intro l x W K hK
    gi_wp2
    exact hK
  case body =>
    intro l pre x W _ _
    exact absurd x.2 (by simp)
  case done =>
    rintro D ys W hD rfl ⟨hC, hH⟩ hK
    have hcell : W.cell? ⟨w.heap.size, 0, none⟩ = some (.bool false) := by rw [cell_of_heap hH]; rfl
    have hfro := free_of_heap hH 0
    gi_wp2
    refine ⟨by simp, .inl ⟨_, _, rfl, run_takeDeferred ((KeepsOthers.setCell W _ _).same D _ hK rfl), ?_⟩⟩
    have hH2 : ((W.setCell ⟨w.heap.size, 0, none⟩ (.bool true)).putObj D (.deferred none)).heap[w.heap.size]? = some (.cells #[.bool true] 4 (0, 0)) := by
      rw [World.putObj_heap_other (by omega), setCell_heap _ hH]; rfl
    have hc2 : ((W.setCell ⟨w.heap.size, 0, none⟩ (.bool true)).putObj D (.deferred none)).cell? ⟨w.heap.size, 0, none⟩ = some (.bool true) := by rw [cell_of_heap hH2]; rfl
    have C2 : Chg [w.heap.size] W (W.setCell ⟨w.heap.size, 0, none⟩ (.bool true)) := (Chg.refl _ _).setCell (Or.inl (by simp)) _
    refine ⟨.bool true, by simp [results, Try.results21, go_sem, hc2], rfl, ?_⟩
    exact C1.trans ((hC.trans C2 (U := [w.heap.size]) (fun y hy => hy) (fun y hy _ => hy)).trans (chg_putObj _ D _ (Nat.zero_le _)) (U := w.heap.size :: [D]) (fun y hy => by simp at hy ⊢; exact .inl hy) (fun y hy _ => by simp at hy ⊢; exact .inr hy)) (by simp) (fun y hy hl => absurd hl (by simp at hy; omega))
  case stop =>
    rintro D c pre W _ _ h _
    exact h.elim

set_option maxRecDepth 100000 in
set_option maxHeartbeats 2000000 in
theorem nilClean (w : World) : Calls Try.prog 22 #[.pointer none] w fun e w' => e = .returned (.bool true) ∧ Chg [] w w' := by
  refine (callsIn_wide (n := 6)).1 ?_
  refine callsIn_of_wp_marks Try.func22 rfl trivial ?_ rfl
  simp only [Try.ntmps22, List.size_toArray, List.length_cons, List.length_nil, Nat.reduceAdd, Nat.reduceSub, Array.replicate_succ, Array.replicate_zero, List.push_toArray, List.append_toArray, List.nil_append, List.cons_append]
  gi_wp2_with (refine ⟨trivial, ?_⟩; gi_at_call 28; refine (all_in Fence.wide _ trivial rfl _ _).mono ?_; rintro e w' ⟨rfl, rfl⟩)
  obtain ⟨w1, hw1⟩ : ∃ w1, w1 = (w.alloc (.cells #[.bool false] 4)).alloc (.cells #[.pointer none] 23) := ⟨_, rfl⟩
  have C1 : Chg [] w w1 := by rw [hw1]; exact ((Chg.refl _ _).alloc _).alloc _
  have hB : w1.heap[w.heap.size + 1]? = some (.cells #[.pointer none] 23 (0, 0)) := by rw [hw1]; exact alloc2_heap w _ _
  have hN : w1.heap[w.heap.size]? = some (.cells #[.bool false] 4 (0, 0)) := by rw [hw1]; exact alloc_keeps (alloc_heap w _)
  have hz : w1.heap.size = w.heap.size + 2 := by rw [hw1]; simp
  rw [← hw1]
  refine wpIn_rangeFunc_ownF rfl (by omega) (gf := 32) (lb := #[.pointer (some ⟨w.heap.size + 1, 0, none⟩)]) rfl trivial (enters_of Try.func32 (by kernel_rfl) rfl)
    (nil_stops 5 (w.heap.size + 1) [] w1 hB) KeepB.trans (keepB_b (by simp)) (Below.refl _ _) (fun _ => rfl)
    (fun pre W => Chg [w.heap.size] w1 W ∧ W.heap[w.heap.size]? = some (.cells #[.bool false] 4 (0, 0)))
    (fun _ _ _ => False)
    (OwnFrom.and (ownFrom_chg (Nat.le_refl _)) (ownFrom_heap (fun _ => .cells #[.bool false] 4 (0, 0)) (fun _ => rfl)))
    (fun _ _ _ _ _ hs _ _ => hs)
    ⟨Chg.refl _ _, hN⟩
    (fun x => { tmps := #[.pointer none, undef, .pointer (some ⟨w.heap.size, 0, none⟩), .pointer (some ⟨x.1.bA, 0, none⟩), .pointer none, .func (.func 32) #[] #[.pointer (some ⟨w.heap.size + 1, 0, none⟩)], .pointer (some ⟨x.1.bA, 0, none⟩), undef, undef, undef], defers := [] }) ?assign ?body ?done ?stop
  case assign =>
    intro l x W K hK
    gi_wp2
    exact hK
  case body =>
    intro l pre x W _ _
    exact absurd x.2 (by simp)
  case done =>
    rintro D ys W hD rfl ⟨hC, hH⟩ hK
    have hcell : W.cell? ⟨w.heap.size, 0, none⟩ = some (.bool false) := by rw [cell_of_heap hH]; rfl
    have hfro := free_of_heap hH 0
    gi_wp2
    refine ⟨by simp, .inl ⟨_, _, rfl, run_takeDeferred ((KeepsOthers.setCell W _ _).same D _ hK rfl), ?_⟩⟩
    have hH2 : ((W.setCell ⟨w.heap.size, 0, none⟩ (.bool true)).putObj D (.deferred none)).heap[w.heap.size]? = some (.cells #[.bool true] 4 (0, 0)) := by
      rw [World.putObj_heap_other (by omega), setCell_heap _ hH]; rfl
    have hc2 : ((W.setCell ⟨w.heap.size, 0, none⟩ (.bool true)).putObj D (.deferred none)).cell? ⟨w.heap.size, 0, none⟩ = some (.bool true) := by rw [cell_of_heap hH2]; rfl
    have C2 : Chg [w.heap.size] W (W.setCell ⟨w.heap.size, 0, none⟩ (.bool true)) := (Chg.refl _ _).setCell (Or.inl (by simp)) _
    refine ⟨.bool true, by simp [results, Try.results22, go_sem, hc2], rfl, ?_⟩
    exact C1.trans ((hC.trans C2 (U := [w.heap.size]) (fun y hy => hy) (fun y hy _ => hy)).trans (chg_putObj _ D _ (Nat.zero_le _)) (U := w.heap.size :: [D]) (fun y hy => by simp at hy ⊢; exact .inl hy) (fun y hy _ => by simp at hy ⊢; exact .inr hy)) (by simp) (fun y hy hl => absurd hl (by simp at hy; omega))
  case stop =>
    rintro D c pre W _ _ h _
    exact h.elim

set_option maxRecDepth 100000 in
set_option maxHeartbeats 2000000 in
theorem nilWipe (w : World) : Calls Try.prog 23 #[.pointer none] w fun e w' => e = .returned (.tuple #[]) ∧ Chg [] w w' := by
  refine (callsIn_wide (n := 6)).1 ?_
  refine callsIn_of_wp_marks Try.func23 rfl trivial ?_ rfl
  simp only [Try.ntmps23, List.size_toArray, List.length_cons, List.length_nil, Nat.reduceAdd, Nat.reduceSub, Array.replicate_succ, Array.replicate_zero, List.push_toArray, List.append_toArray, List.nil_append, List.cons_append]
  gi_wp2_with (refine ⟨trivial, ?_⟩; gi_at_call 28; refine (all_in Fence.wide _ trivial rfl _ _).mono ?_; rintro e w' ⟨rfl, rfl⟩)
  obtain ⟨w1, hw1⟩ : ∃ w1, w1 = w.alloc (.cells #[.pointer none] 23) := ⟨_, rfl⟩
  have C1 : Chg [] w w1 := by rw [hw1]; exact (Chg.refl _ _).alloc _
  have hB : w1.heap[w.heap.size]? = some (.cells #[.pointer none] 23 (0, 0)) := by rw [hw1]; exact alloc_heap w _
  have hz : w1.heap.size = w.heap.size + 1 := by rw [hw1]; simp
  rw [← hw1]
  refine wpIn_rangeFunc_ownF rfl (by omega) (gf := 32) (lb := #[.pointer (some ⟨w.heap.size, 0, none⟩)]) rfl trivial (enters_of Try.func32 (by kernel_rfl) rfl)
    (nil_stops 5 (w.heap.size) [] w1 hB) KeepB.trans (keepB_b (by simp)) (Below.refl _ _) (fun _ => rfl)
    (fun pre W => Chg [] w1 W)
    (fun _ _ _ => False)
    (ownFrom_chg (Nat.le_refl _))
    (fun _ _ _ _ _ hs _ _ => hs)
    (Chg.refl _ _)
    (fun x => { tmps := #[.pointer none, undef, .pointer (some ⟨x.1.bA, 0, none⟩), .pointer none, .func (.func 32) #[] #[.pointer (some ⟨w.heap.size, 0, none⟩)], .pointer (some ⟨x.1.bA, 0, none⟩), undef, undef], defers := [] }) ?assign ?body ?done ?stop
  case assign =>
    intro l x W K hK
    gi_wp2
    exact hK
  case body =>
    intro l pre x W _ _
    exact absurd x.2 (by simp)
  case done =>
    rintro D ys W hD rfl hC hK
    gi_wp2
    refine ⟨by simp, .inl ⟨_, _, rfl, run_takeDeferred hK, ?_⟩⟩
    exact ⟨_, results_none rfl _ _ _, rfl, C1.trans (hC.trans (chg_putObj _ D _ (Nat.zero_le _)) (U := [D]) (by simp) (fun y hy _ => hy)) (by simp) (fun y hy hl => absurd hl (by simp at hy; omega))⟩
  case stop =>
    rintro D c pre W _ _ h _
    exact h.elim

set_option maxHeartbeats 1000000 in
theorem nilMake (s : ByteArray) (n : Int) (w : World) : Calls Try.prog 10 #[.pointer none, .string s, .int .i64 n] w fun e w' => e = .returned (.tuple #[.pointer none, .int .i64 1]) ∧ w = w' := by
  go_enter Try.func10, Try.ntmps10
  go_wp2_with fail
  go_ret2
  exact ⟨rfl, rfl⟩

set_option maxHeartbeats 1000000 in
theorem nilGet (s : ByteArray) (w : World) : Calls Try.prog 13 #[.pointer none, .string s] w fun e w' => e = .returned (.tuple #[.pointer none, .int .i64 1]) ∧ w = w' := by
  go_enter Try.func13, Try.ntmps13
  go_wp2_with fail
  go_ret2
  exact ⟨rfl, rfl⟩

set_option maxHeartbeats 1000000 in
theorem nilNames (w : World) : Calls Try.prog 15 #[.pointer none] w fun e w' => e = .returned (.slice none 0 0) ∧ w = w' := by
  go_enter Try.func15, Try.ntmps15
  go_wp2_with fail
  go_ret
  exact ⟨rfl, rfl⟩
end Go.Proofs.Ytojabenkhjgafaa
