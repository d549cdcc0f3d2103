/-
  The registry: the contract of Zero.
-/
import Derived.Test.YtojabenkhjgafaaRegC
namespace Go.Proofs.Ytojabenkhjgafaa
set_option linter.unusedVariables false
open Go.RowKit Go.Shelf Go.WideShapes
attribute [local go_sem] Oper.semAt_some

theorem itBlks_lt {Bs bR bM : Nat} {nv : Value} {A : List Ent} {m : Nat} (hlt : ∀ x ∈ blks bR bM nv A, x < m) : ∀ k ∈ itBlks Bs bR bM nv, k = Bs ∨ k < m := by
  intro k hk
  unfold itBlks at hk
  rcases List.mem_cons.1 hk with rfl | hk
  · exact .inl rfl
  · exact .inr (hlt k (by unfold blks; exact (List.mem_append.2 (.inl hk) : k ∈ (bR :: bM :: nv.ownBlock.toList) ++ A.flatMap (fun x => [x.bA, x.bC]))))

/-- Are all cells of all arenas 0? -/
def allZero (A : List Ent) : Bool := A.all (fun x => zeroB x.l)

theorem allZero_true {A : List Ent} (h : ∀ x ∈ A.attach, zeroB x.1.l = true) : allZero A = true := by
  unfold allZero
  rw [List.all_eq_true]
  exact fun x hx => h ⟨x, hx⟩ (List.mem_attach _ _)
theorem allZero_false {A : List Ent} {x : Ent} (hx : x ∈ A) (h : zeroB x.l = false) : allZero A = false := by
  unfold allZero
  rw [List.all_eq_false]
  exact ⟨x, hx, by simp [h]⟩

set_option maxRecDepth 100000 in
set_option maxHeartbeats 4000000 in
theorem rZero_any (bR bM : Nat) (nv : Value) (A : List Ent) (w : World) (h : RegIs w bR bM nv A) :
    Calls Try.prog 21 #[.pointer (some ⟨bR, 0, none⟩)] w fun e w' => e = .returned (.bool (allZero A)) ∧ Chg [] w w' := by
  obtain ⟨zz, hzz⟩ : ∃ zz, zz = allZero A := ⟨_, rfl⟩
  rw [← hzz]
  have HZ := Lib.hid hzz
  clear hzz
  refine (callsIn_wide (n := 6)).1 ?_
  refine callsIn_of_wp_marks Try.func21 rfl trivial ?_ rfl
  simp only [Try.ntmps21, List.size_toArray, List.length_cons, List.length_nil, Nat.reduceAdd, Nat.reduceSub, Array.replicate_succ, Array.replicate_zero, List.push_toArray, List.append_toArray, List.nil_append, List.cons_append]
  gi_wp2_with (refine ⟨trivial, ?_⟩; gi_at_call 28; refine (all_in Fence.wide _ trivial rfl _ _).mono ?_; rintro e w' ⟨rfl, rfl⟩)
  obtain ⟨w1, hw1⟩ : ∃ w1, w1 = (w.alloc (.cells #[.bool false] 4)).alloc (.cells #[.pointer (some ⟨bR, 0, none⟩)] 23) := ⟨_, rfl⟩
  have C1 : Chg [] w w1 := by rw [hw1]; exact ((Chg.refl _ _).alloc _).alloc _
  have R1 := h.chg C1 (by simp)
  have hB : w1.heap[w.heap.size + 1]? = some (.cells #[.pointer (some ⟨bR, 0, none⟩)] 23 (0, 0)) := by rw [hw1]; exact alloc2_heap w _ _
  have hN : w1.heap[w.heap.size]? = some (.cells #[.bool false] 4 (0, 0)) := by rw [hw1]; exact alloc_keeps (alloc_heap w _)
  have hz : w1.heap.size = w.heap.size + 2 := by rw [hw1]; simp
  have hlt := h.lt
  rw [← hw1]
  have hKs : ∀ k ∈ itBlks (w.heap.size + 1) bR bM nv, k < w1.heap.size ∧ k ≠ w.heap.size := fun k hk => by
    rcases itBlks_lt hlt k hk with e | e <;> omega
  refine wpIn_rangeFunc_ownF rfl (by omega) (gf := 32) (lb := #[.pointer (some ⟨w.heap.size + 1, 0, none⟩)]) rfl trivial (enters_of Try.func32 (by kernel_rfl) rfl)
    (all_stops Fence.wide 5 trivial rfl (by omega) (w.heap.size + 1) bR bM nv A w1 hB R1) KeepB.trans (keepB_b (fun k hk => (hKs k hk).1)) (Below.refl _ _) (fun _ => rfl)
    (fun pre W => (Chg [w.heap.size] w1 W ∧ W.heap[w.heap.size]? = some (.cells #[.bool false] 4 (0, 0))) ∧ ∀ x ∈ pre, zeroB x.1.l = true)
    (fun c _ W => (Chg [w.heap.size] w1 W ∧ W.heap[w.heap.size]? = some (.cells #[.bool false] 4 (0, 0))) ∧ c = .ret ∧ allZero A = false)
    (OwnFrom.and (OwnFrom.and (ownFrom_chg (Nat.le_refl _)) (ownFrom_heap (fun _ => .cells #[.bool false] 4 (0, 0)) (fun _ => rfl))) (fun _ _ _ _ hs _ _ => hs))
    (fun c => OwnFrom.and (OwnFrom.and (ownFrom_chg (Nat.le_refl _)) (ownFrom_heap (fun _ => .cells #[.bool false] 4 (0, 0)) (fun _ => rfl))) (fun _ _ _ _ hs _ _ => hs))
    ⟨⟨Chg.refl _ _, hN⟩, by simp⟩
    (fun x => { tmps := #[.pointer (some ⟨bR, 0, none⟩), undef, .pointer (some ⟨w.heap.size, 0, none⟩), .pointer (some ⟨x.1.bA, 0, none⟩), .pointer (some ⟨bR, 0, none⟩), .func (.func 32) #[] #[.pointer (some ⟨w.heap.size + 1, 0, none⟩)], .pointer (some ⟨x.1.bA, 0, none⟩), undef, undef, undef], defers := [] }) ?assign ?body ?done ?stop
  case assign =>
    intro l x W K hK
    gi_wp2
    exact hK
  case body =>
    rintro l pre x W ⟨⟨hC, hH⟩, hp⟩ hlen
    have hA := (R1.ar x.1 x.2).chg hC (by have := hlt _ (mem_blks_ar x.2).1; simp; omega) (by have := hlt _ (mem_blks_ar x.2).2; simp; omega)
    have hcell : W.cell? ⟨w.heap.size, 0, none⟩ = some (.bool false) := by rw [cell_of_heap hH]; rfl
    have hfro := free_of_heap hH 0
    cases hx : zeroB x.1.l with
    | true =>
      have HX := Lib.hid hx
      have hcall := zeroM_any x.1.bA x.1.bC x.1.N x.1.l W hA
      rw [hx] at hcall
      clear hx
      gi_wp2_with (refine ⟨trivial, ?_⟩; gi_at_call 24; refine (CallsIn.inRound l (callsIn_wide.2 hcall)).mono ?_; rintro e w' ⟨rfl, rfl⟩)
      refine ⟨KeepsOthers.refl _, KeepB.of_chg (S := []) (Chg.refl _ _) (fun k hk => ⟨by have := (hKs k hk).1; have := hC.size; omega, by simp⟩), ⟨hC, hH⟩, fun y hy => ?_⟩
      rcases List.mem_append.1 hy with hy | hy
      · exact hp y hy
      · rw [List.mem_singleton.1 hy]; exact HX.out
    | false =>
      have HX := Lib.hid hx
      have hcall := zeroM_any x.1.bA x.1.bC x.1.N x.1.l W hA
      rw [hx] at hcall
      clear hx
      gi_wp2_with (refine ⟨trivial, ?_⟩; gi_at_call 24; refine (CallsIn.inRound l (callsIn_wide.2 hcall)).mono ?_; rintro e w' ⟨rfl, rfl⟩)
      exact ⟨⟨(KeepsOthers.setCell W _ _).size, (KeepsOthers.setCell W _ _).same⟩, ⟨hC.trans ((Chg.refl [w.heap.size] W).setCell (Or.inl (by simp)) _) (fun y hy => hy) (fun y hy _ => hy), by rw [setCell_heap _ hH]; rfl⟩, rfl, allZero_false x.2 HX.out⟩
  case done =>
    rintro D ys W hD rfl ⟨⟨hC, hH⟩, hp⟩ hK
    have hzt := Lib.hid (HZ.out.trans (allZero_true hp))
    have hcell : W.cell? ⟨w.heap.size, 0, none⟩ = some (.bool false) := by rw [cell_of_heap hH]; rfl
    have hfro := free_of_heap hH 0
    gi_wp2
    refine ⟨by simp, .inl ⟨_, _, rfl, run_takeDeferred ((KeepsOthers.setCell W _ _).same D _ hK rfl), ?_⟩⟩
    have hH2 : ((W.setCell ⟨w.heap.size, 0, none⟩ (.bool true)).putObj D (.deferred none)).heap[w.heap.size]? = some (.cells #[.bool true] 4 (0, 0)) := by
      rw [World.putObj_heap_other (by omega), setCell_heap _ hH]; rfl
    have hc2 : ((W.setCell ⟨w.heap.size, 0, none⟩ (.bool true)).putObj D (.deferred none)).cell? ⟨w.heap.size, 0, none⟩ = some (.bool true) := by rw [cell_of_heap hH2]; rfl
    have C2 : Chg [w.heap.size] W (W.setCell ⟨w.heap.size, 0, none⟩ (.bool true)) := (Chg.refl _ _).setCell (Or.inl (by simp)) _
    refine ⟨.bool true, by simp [results, Try.results21, go_sem, hc2], by rw [hzt.out], ?_⟩
    exact C1.trans ((hC.trans C2 (U := [w.heap.size]) (fun y hy => hy) (fun y hy _ => hy)).trans (chg_putObj _ D _ (Nat.zero_le _)) (U := [w.heap.size]) (fun y hy => hy) (fun y hy hl => absurd hl (by rw [List.mem_singleton.1 hy]; omega))) (by simp) (fun y hy hl => absurd hl (by rw [List.mem_singleton.1 hy]; omega))
  case stop =>
    rintro D c pre W hD _ ⟨⟨hC, hH⟩, rfl, hz0⟩ hK
    have hzt := Lib.hid (HZ.out.trans hz0)
    have hcell : W.cell? ⟨w.heap.size, 0, none⟩ = some (.bool false) := by rw [cell_of_heap hH]; rfl
    gi_wp2
    refine ⟨by simp, .inl ⟨_, _, rfl, run_takeDeferred hK, ?_⟩⟩
    have hH2 : (W.putObj D (.deferred none)).heap[w.heap.size]? = some (.cells #[.bool false] 4 (0, 0)) := by
      rw [World.putObj_heap_other (by omega), hH]
    have hc2 : (W.putObj D (.deferred none)).cell? ⟨w.heap.size, 0, none⟩ = some (.bool false) := by rw [cell_of_heap hH2]; rfl
    refine ⟨.bool false, by simp [results, Try.results21, go_sem, hc2], by rw [hzt.out], ?_⟩
    exact C1.trans (hC.trans (chg_putObj _ D _ (Nat.zero_le _)) (U := [w.heap.size]) (fun y hy => hy) (fun y hy hl => absurd hl (by rw [List.mem_singleton.1 hy]; omega))) (by simp) (fun y hy hl => absurd hl (by rw [List.mem_singleton.1 hy]; omega))
end Go.Proofs.Ytojabenkhjgafaa
