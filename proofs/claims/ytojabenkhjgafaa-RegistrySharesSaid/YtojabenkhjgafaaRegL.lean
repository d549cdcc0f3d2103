/-
  The registry: the contract of Clean.
-/
import Derived.Test.YtojabenkhjgafaaRegZ
namespace Go.Proofs.Ytojabenkhjgafaa
set_option linter.unusedVariables false
open Go.RowKit Go.Shelf Go.WideShapes
attribute [local go_sem] Oper.semAt_some

/-- What is no cells lies as it lay. -/
theorem keepsOthers_chg {S : List Nat} {W W' : World} (c : Chg S W W') (hS : ∀ k ∈ S, ∀ o, W.heap[k]? = some o → o.isCells = true) : KeepsOthers W W' :=
  ⟨c.size, fun k o hk ho => by
    by_cases hm : k ∈ S
    · rw [hS k hm o hk] at ho; cases ho
    · exact c.heap hk hm⟩

set_option maxRecDepth 100000 in
set_option maxHeartbeats 4000000 in
theorem rClean_any (bR bM : Nat) (nv : Value) (A : List Ent) (w : World) (h : RegIs w bR bM nv A) :
    Calls Try.prog 22 #[.pointer (some ⟨bR, 0, none⟩)] w fun e w' => e = .returned (.bool true) ∧ Chg [] w w' := by
  refine (callsIn_wide (n := 6)).1 ?_
  refine callsIn_of_wp_marks Try.func22 rfl trivial ?_ rfl
  simp only [Try.ntmps22, List.size_toArray, List.length_cons, List.length_nil, Nat.reduceAdd, Nat.reduceSub, Array.replicate_succ, Array.replicate_zero, List.push_toArray, List.append_toArray, List.nil_append, List.cons_append]
  gi_wp2_with (refine ⟨trivial, ?_⟩; gi_at_call 28; refine (all_in Fence.wide _ trivial rfl _ _).mono ?_; rintro e w' ⟨rfl, rfl⟩)
  obtain ⟨w1, hw1⟩ : ∃ w1, w1 = (w.alloc (.cells #[.bool false] 4)).alloc (.cells #[.pointer (some ⟨bR, 0, none⟩)] 23) := ⟨_, rfl⟩
  have C1 : Chg [] w w1 := by rw [hw1]; exact ((Chg.refl _ _).alloc _).alloc _
  have R1 := h.chg C1 (by simp)
  have hB : w1.heap[w.heap.size + 1]? = some (.cells #[.pointer (some ⟨bR, 0, none⟩)] 23 (0, 0)) := by rw [hw1]; exact alloc2_heap w _ _
  have hN : w1.heap[w.heap.size]? = some (.cells #[.bool false] 4 (0, 0)) := by rw [hw1]; exact alloc_keeps (alloc_heap w _)
  have hz : w1.heap.size = w.heap.size + 2 := by rw [hw1]; simp
  have hlt := h.lt
  rw [← hw1]
  have hKs : ∀ k ∈ itBlks (w.heap.size + 1) bR bM nv, k < w1.heap.size ∧ k ≠ w.heap.size := fun k hk => by
    rcases itBlks_lt hlt k hk with e | e <;> omega
  refine wpIn_rangeFunc_ownF rfl (by omega) (gf := 32) (lb := #[.pointer (some ⟨w.heap.size + 1, 0, none⟩)]) rfl trivial (enters_of Try.func32 (by kernel_rfl) rfl)
    (all_stops Fence.wide 5 trivial rfl (by omega) (w.heap.size + 1) bR bM nv A w1 hB R1) KeepB.trans (keepB_b (fun k hk => (hKs k hk).1)) (Below.refl _ _) (fun _ => rfl)
    (fun pre W => Chg [w.heap.size] w1 W ∧ W.heap[w.heap.size]? = some (.cells #[.bool false] 4 (0, 0)))
    (fun _ _ _ => False)
    (OwnFrom.and (ownFrom_chg (Nat.le_refl _)) (ownFrom_heap (fun _ => .cells #[.bool false] 4 (0, 0)) (fun _ => rfl)))
    (fun _ _ _ _ _ hs _ _ => hs)
    ⟨Chg.refl _ _, hN⟩
    (fun x => { tmps := #[.pointer (some ⟨bR, 0, none⟩), undef, .pointer (some ⟨w.heap.size, 0, none⟩), .pointer (some ⟨x.1.bA, 0, none⟩), .pointer (some ⟨bR, 0, none⟩), .func (.func 32) #[] #[.pointer (some ⟨w.heap.size + 1, 0, none⟩)], .pointer (some ⟨x.1.bA, 0, none⟩), undef, undef, undef], defers := [] }) ?assign ?body ?done ?stop
  case assign =>
    intro l x W K hK
    gi_wp2
    exact hK
  case body =>
    rintro l pre x W ⟨hC, hH⟩ hlen
    have hA := (R1.ar x.1 x.2).chg hC (by have := hlt _ (mem_blks_ar x.2).1; simp; omega) (by have := hlt _ (mem_blks_ar x.2).2; simp; omega)
    have hcall := clean_any x.1.bA x.1.bC x.1.N x.1.l W hA
    gi_wp2_with (refine ⟨trivial, ?_⟩; gi_at_call 29; refine (CallsIn.inRound l (callsIn_wide.2 hcall)).mono ?_; rintro e w' ⟨rfl, C2⟩)
    exact ⟨keepsOthers_chg C2 (by simp), KeepB.of_chg C2 (fun k hk => ⟨by have := (hKs k hk).1; have := hC.size; omega, by simp⟩), hC.trans C2 (fun y hy => hy) (by simp), C2.heap hH (by simp)⟩
  case done =>
    rintro D ys W hD rfl ⟨hC, hH⟩ hK
    have hcell : W.cell? ⟨w.heap.size, 0, none⟩ = some (.bool false) := by rw [cell_of_heap hH]; rfl
    have hfro := free_of_heap hH 0
    gi_wp2
    refine ⟨by simp, .inl ⟨_, _, rfl, run_takeDeferred ((KeepsOthers.setCell W _ _).same D _ hK rfl), ?_⟩⟩
    have hH2 : ((W.setCell ⟨w.heap.size, 0, none⟩ (.bool true)).putObj D (.deferred none)).heap[w.heap.size]? = some (.cells #[.bool true] 4 (0, 0)) := by
      rw [World.putObj_heap_other (by omega), setCell_heap _ hH]; rfl
    have hc2 : ((W.setCell ⟨w.heap.size, 0, none⟩ (.bool true)).putObj D (.deferred none)).cell? ⟨w.heap.size, 0, none⟩ = some (.bool true) := by rw [cell_of_heap hH2]; rfl
    have C2 : Chg [w.heap.size] W (W.setCell ⟨w.heap.size, 0, none⟩ (.bool true)) := (Chg.refl _ _).setCell (Or.inl (by simp)) _
    refine ⟨.bool true, by simp [results, Try.results22, go_sem, hc2], rfl, ?_⟩
    exact C1.trans ((hC.trans C2 (U := [w.heap.size]) (fun y hy => hy) (fun y hy _ => hy)).trans (chg_putObj _ D _ (Nat.zero_le _)) (U := [w.heap.size]) (fun y hy => hy) (fun y hy hl => absurd hl (by rw [List.mem_singleton.1 hy]; omega))) (by simp) (fun y hy hl => absurd hl (by rw [List.mem_singleton.1 hy]; omega))
  case stop =>
    rintro D c pre W _ _ h _
    exact h.elim
end Go.Proofs.Ytojabenkhjgafaa
