/-
  The queue's row: Pop and Push.
-/
import Derived.Test.YtmcbgpjphjacjaaQueD
import Derived.Test.YtmcbgpjphjacjaaQueA
namespace Go.Proofs.Ytmcbgpjphjacjaa
set_option linter.unusedVariables false
open Go.RowKit

attribute [local go_sem] run_store_float'

abbrev eleV (x : Ele) : Value := .agg #[.float .f64 x.1, .int .i64 x.2.1, .int .i64 x.2.2]

set_option maxHeartbeats 1000000 in
theorem rowPop_any (bQ g n c : Nat) (H : List Ele) (cur : Array Value) (p : Value) (w : World) (hb : w.heap[bQ]? = some (.cells #[.slice (some ⟨g, 0, none⟩) n c, p] 133 (0, 0))) (hne : bQ ≠ g)
    (h : RowAt w g H cur) (hn : H.length = n) (h1 : 1 ≤ n) (hc : n ≤ c) (hbig : c ≤ maxLen) :
    Calls Try.prog 101 #[.pointer (some ⟨bQ, 0, none⟩)] w fun e w' => e = .returned (.iface 139 (eleV (H.getD (n - 1) default))) ∧ Chg [bQ] w w' ∧ w'.heap[bQ]? = some (.cells #[.slice (some ⟨g, 0, none⟩) (n - 1) c, p] 133 (0, 0)) := by
  obtain ⟨a0, a1, a2⟩ := h.eles (n - 1) (by omega)
  have hc0 : w.cell? ⟨bQ, 0, none⟩ = some (.slice (some ⟨g, 0, none⟩) n c) := by rw [cell_of_heap hb]; rfl
  have f0 := free_of_heap hb 0
  have hlt := heap_lt hb
  unfold maxLen at hbig
  generalize H.getD (n - 1) default = x at *
  go_enter Try.func101, Try.ntmps101
  go_wp2_with fail
  go_ret
  exact ⟨rfl, ((Chg.refl _ _).setCell (Or.inl (by simp)) _).alloc _, alloc_keeps (setCell_heap _ hb)⟩

theorem infoOne : (Try.prog.info? 139).map (fun i => (i.zero, i.size, i.bytes)) = some (some (.agg #[.float .f64 0, .int .i64 0, .int .i64 0]), 3, 24) := by kernel_rfl

/-- The three cells of an element. -/
def eleC (x : Ele) : List Value := [.float .f64 x.1, .int .i64 x.2.1, .int .i64 x.2.2]

theorem owns_pos {w : World} {base : Nat} {e : TypeId} {size : Nat} {v : Value} {n : Nat} {xs : List Value} (h : w.ownsRow base e size v (n + 1) xs) : ∃ g c, v = .slice (some ⟨g, 0, none⟩) (n + 1) c := by
  rcases h.2 with ⟨_, h0⟩ | ⟨g, cap, cur, e, _⟩
  · omega
  · exact ⟨g, cap, e⟩

/-- A row of the call's own, where a cell of another block is stored to. -/
theorem owns_set {w : World} {base : Nat} {e : TypeId} {size : Nat} {v : Value} {n : Nat} {xs : List Value} (h : w.ownsRow base e size v n xs) (b o : Nat) (u : Value) (hb : v.ownBlock ≠ some b) : (w.setCell ⟨b, o, none⟩ u).ownsRow base e size v n xs := by
  refine ⟨h.1, h.2.imp id ?_⟩
  rintro ⟨g, cap, cur, rfl, h1, h2, h3⟩
  exact ⟨g, cap, cur, rfl, h1, by rw [setCell_heap_ne _ (fun e => hb (by rw [← e]; rfl))]; exact h2, h3⟩

theorem push_end {w w1 w2 : World} {bQ : Nat} {v v2 p : Value} {n : Nat} {xs : List Value} (hb : w1.heap[bQ]? = some (.cells #[v, p] 133 (0, 0))) (hne : v.ownBlock ≠ some bQ) (hs : w1.heap.size = w.heap.size + 1) (hlt : bQ < w.heap.size)
    (C1 : Chg [] w w1) (C2 : Chg v.ownBlock.toList w1 w2) (O2 : w2.ownsRow 0 139 3 v2 n xs) (B2 : ∀ k, v2.ownBlock = some k → v.ownBlock = some k ∨ w1.heap.size ≤ k) :
    Chg (bQ :: v.ownBlock.toList) w (w2.setCell ⟨bQ, 0, none⟩ v2) ∧ ∃ v', (w2.setCell ⟨bQ, 0, none⟩ v2).heap[bQ]? = some (.cells #[v', p] 133 (0, 0)) ∧ (w2.setCell ⟨bQ, 0, none⟩ v2).ownsRow 0 139 3 v' n xs ∧ (∀ k, v'.ownBlock = some k → v.ownBlock = some k ∨ w.heap.size ≤ k) := by
  have hmem : bQ ∉ v.ownBlock.toList := fun hm => hne (by simpa [Option.mem_toList] using hm)
  refine ⟨(C1.trans C2 (U := bQ :: v.ownBlock.toList) (by simp) (fun x hx _ => List.mem_cons_of_mem _ hx)).setCell (Or.inl List.mem_cons_self) _, v2, setCell_heap _ (C2.heap hb hmem), owns_set O2 bQ 0 v2 ?_, fun k hk => (B2 k hk).imp id (fun h => by omega)⟩
  intro h
  rcases B2 bQ h with h1 | h1
  · exact hne h1
  · omega

set_option maxHeartbeats 1000000 in
theorem rowPush_any (bQ : Nat) (v : Value) (n : Nat) (xs : List Value) (p : Value) (x : Ele) (w : World) (hb : w.heap[bQ]? = some (.cells #[v, p] 133 (0, 0))) (hne : v.ownBlock ≠ some bQ)
    (h : w.ownsRow 0 139 3 v n xs) (hn : n ≤ 1000000) :
    Calls Try.prog 102 #[.pointer (some ⟨bQ, 0, none⟩), .iface 139 (eleV x)] w fun e w' => e = .returned (.tuple #[]) ∧ Chg (bQ :: v.ownBlock.toList) w w' ∧
      ∃ v', w'.heap[bQ]? = some (.cells #[v', p] 133 (0, 0)) ∧ w'.ownsRow 0 139 3 v' (n + 1) (xs ++ eleC x) ∧ (∀ k, v'.ownBlock = some k → v.ownBlock = some k ∨ w.heap.size ≤ k) := by
  have hc0 : w.cell? ⟨bQ, 0, none⟩ = some v := by rw [cell_of_heap hb]; rfl
  have f0 := free_of_heap hb 0
  have hlt := heap_lt hb
  have hta : ∀ (v : Value) (w : World), (Instr.typeAssert (.iface 139 v) 20 139 false).run Try.prog w = .ok v w := fun v w => by kernel_rfl
  obtain ⟨i0, hi, hz0, hz1, hz2⟩ := info_parts infoOne
  obtain ⟨w1, hw1⟩ : ∃ w1, w1 = (w.alloc (.cells #[.float .f64 x.1, .int .i64 x.2.1, .int .i64 x.2.2] 139)).drew := ⟨_, rfl⟩
  have O1 : w1.ownsRow 0 139 3 v n xs := by rw [hw1]; exact h.alloc _
  have C1 : Chg [] w w1 := by rw [hw1]; exact ((Chg.refl [] w).alloc _).drew
  have hB1 := Lib.hid (C1.heap hb (by simp))
  have hS1 := Lib.hid (show w1.heap.size = w.heap.size + 1 by rw [hw1]; simp)
  have hK := Lib.hid (show ∀ w', Chg v.ownBlock.toList w1 w' → w'.cell? ⟨bQ, 0, none⟩ = some v ∧ w'.frozen? ⟨bQ, 0, none⟩ = false from fun w' hc => by
    have hb' := hc.heap hB1.out (by intro hm; exact hne (by simpa [Option.mem_toList] using hm))
    exact ⟨by rw [cell_of_heap hb']; rfl, free_of_heap hb' 0⟩)
  have hnews : ∀ j u, (eleC x)[j]? = some u → w1.cell? ((⟨w.heap.size, 0, none⟩ : Addr).add j) = some u := by
    intro j u hu
    rw [Addr.add_lit, hw1]
    show (w.alloc _).cell? _ = _
    rw [cell_of_heap (alloc_heap w _), Nat.zero_add]
    simpa [eleC] using hu
  have hone : ∀ u ∈ eleC x, u.oneCell' = true := by intro u hu; simp [eleC] at hu; rcases hu with rfl | rfl | rfl <;> rfl
  have HB := Lib.hid hb
  have HN := Lib.hid hnews
  have HC := Lib.hid C1
  rw [hw1] at O1 hnews
  subst hw1
  have HE := Lib.hid hne
  clear hb hne h C1
  go_enter Try.func102, Try.ntmps102
  go_region_law
    (refine step_append_where rfl _ _ 131 (by rfl) 0 139 i0 (.agg #[.float .f64 0, .int .i64 0, .int .i64 0]) 3 24 Try.underlying131 hi hz0 hz1 hz2 rfl (by decide) v n xs (by rfl) O1 ⟨w.heap.size, 0, none⟩ 1 1 (eleC x) (by rfl) rfl hnews hone (by unfold maxLen; omega) (by omega) (Nat.zero_le _) ?_; intro v2 w2 O2 C2 B2; obtain ⟨r0, r1⟩ := hK.out _ C2; obtain ⟨g2, c2, rfl⟩ := owns_pos O2)
  all_goals (go_end0; exact ⟨rfl, push_end hB1.out HE.out hS1.out hlt HC.out C2 O2 B2⟩)
end Go.Proofs.Ytmcbgpjphjacjaa
