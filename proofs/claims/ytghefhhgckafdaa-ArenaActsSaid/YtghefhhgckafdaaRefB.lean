/-
  The reference's arena: Insert at whatever place, Delete, Move, Cell.
-/
import Derived.Test.YtghefhhgckafdaaRef
import Derived.Test.YtghefhhgckafdaaAreB
namespace Go.Proofs.Ytghefhhgckafdaa
set_option linter.unusedVariables false
set_option linter.unusedSimpArgs false
open Go.RowKit
attribute [local go_sem ↓] Go.wp_at_zero Go.wp_at_succ

set_option maxHeartbeats 2000000 in
theorem refInsert_any (base bM N : Nat) (l : List Int) (bo : Option Addr) (bc : Nat) (p : Int) (ao : Option Addr) (m c : Nat) (ys : List Int) (w : World) (h : RefIs w base bM N l bo bc) (hs : SrcIs w ao m ys []) (hn : ao = none → m = 0 ∧ c = 0) (hm : m ≤ 4000) :
    Calls Try.prog 19 #[.pointer (some ⟨bM, 0, none⟩), .int .i64 p, .slice ao m c] w fun e w' => e = .returned (.int .i64 (insE N l.length p m)) ∧ Chg [bM] w w' ∧ ∃ bo' bc', RefIs w' base bM N (insL N l p ys) bo' bc' := by
  have h0 := h.cell0
  have h1 := h.cell1
  have hle := h.le
  have hmost := h.most
  have hsl := hs.1
  by_cases c1 : p < 0
  · have e1 : insE N l.length p m = 3 := by unfold insE; rw [if_pos (Or.inl c1)]
    have e2 : insL N l p ys = l := by unfold insL; rw [hsl, e1]; rfl
    rw [e1, e2]
    clear e1 e2 hs
    go_enter Try.func19, Try.ntmps19
    go_wp2_with fail
    go_ret
    exact ⟨rfl, Chg.refl _ _, _, _, h⟩
  · by_cases c2 : (l.length : Int) < p
    · have e1 : insE N l.length p m = 3 := by unfold insE; rw [if_pos (Or.inr c2)]
      have e2 : insL N l p ys = l := by unfold insL; rw [hsl, e1]; rfl
      rw [e1, e2]
      clear e1 e2 hs
      go_enter Try.func19, Try.ntmps19
      go_wp2_with fail
      go_ret
      exact ⟨rfl, Chg.refl _ _, _, _, h⟩
    · obtain ⟨k, rfl⟩ := Int.eq_ofNat_of_zero_le (by omega : 0 ≤ p)
      by_cases c3 : N - l.length < m
      · have e1 : insE N l.length k m = 4 := by unfold insE; rw [if_neg (by omega), if_pos c3]
        have e2 : insL N l k ys = l := by unfold insL; rw [hsl, e1]; rfl
        rw [e1, e2]
        have f2 : (N : Int) < (l.length : Int) + (m : Int) := by omega
        have f3 : IntKind.i64.wrap ((l.length : Int) + (m : Int)) = (l.length : Int) + (m : Int) := IntWalk.i64_in _ (by omega)
        clear e1 e2 hs
        go_enter Try.func19, Try.ntmps19
        go_wp2_with fail
        go_quiet (fail)
        go_wp2_with fail
        go_ret
        exact ⟨rfl, (Chg.refl _ _).drewN _, _, _, h.chg ((Chg.refl [] _).drewN _) (by simp)⟩
      · have e1 : insE N l.length k m = 0 := by unfold insE; rw [if_neg (by omega), if_neg c3]
        have e2 : insL N l k ys = l.take k ++ ys ++ l.drop k := by unfold insL; rw [hsl, e1]; rfl
        rw [e1, e2]
        exact refInsert_ok base bM N l bo bc k ao m c ys w h hs hn (by omega) (by omega)

set_option maxHeartbeats 2000000 in
theorem refDelete_ok (base bM N : Nat) (l : List Int) (bo : Option Addr) (bc : Nat) (i j : Nat) (w : World) (h : RefIs w base bM N l bo bc) (hij : i ≤ j) (hj : j ≤ l.length) :
    Calls Try.prog 20 #[.pointer (some ⟨bM, 0, none⟩), .int .i64 i, .int .i64 j] w fun e w' => e = .returned (.int .i64 0) ∧ Chg [bM] w w' ∧ ∃ bo' bc', RefIs w' base bM N (l.take i ++ l.drop j) bo' bc' := by
  obtain ⟨zs, hzs⟩ : ∃ zs, zs = l.take i ++ l.drop j := ⟨_, rfl⟩
  rw [← hzs]
  have HZ := Lib.hid hzs
  clear hzs
  have h0 := h.cell0
  have h1 := h.cell1
  have hle := h.le
  have hmost := h.most
  have hc := h.hc
  have f1 : (i : Int) ≤ (j : Int) := by omega
  have f2 : (j : Int) ≤ (l.length : Int) := by omega
  have f3 : (i : Int) ≤ (bc : Int) := by omega
  have f4 : (j : Int) ≤ (bc : Int) := by omega
  go_enter Try.func20, Try.ntmps20
  go_wp2_with fail
  have R0 := h
  have hK := Lib.hid (show ∀ w', Chg [] w w' → w'.cell? ⟨bM, 0, none⟩ = some (.slice bo l.length bc) ∧ w'.frozen? ⟨bM, 0, none⟩ = false from fun w' hc => ⟨hc.cell R0.cell0 (by simp), free_of_heap (hc.heap R0.hM (by simp)) 0⟩)
  have hsz0 := Lib.hid R0.size
  have hlc := Lib.hid R0.hc
  have hA := Lib.hid (R0.src.head i (by omega))
  have hC := Lib.hid (R0.src.tail j hj R0.hc)
  have hN := Lib.hid R0.nil
  have D00 : Chg [] w w.drew := (Chg.refl [] w).drew
  have DB0 : Chg [] w (w.alloc (.cells #[] 5)).drew := ((Chg.refl [] w).alloc _).drew
  obtain ⟨i0, hi, hz0, hz1, hz2⟩ := info_parts infoU8
  have O0 : (w.alloc (.cells #[] 5)).drew.ownsRow w.heap.size 5 1 (.slice (some ⟨w.heap.size, 0, none⟩) 0 0) 0 [] := owns_empty w w.heap.size 5 (Nat.le_refl _)
  obtain ⟨q0, q1⟩ := hK.out _ D00
  obtain ⟨q2, q3⟩ := hK.out _ DB0
  have hR := Lib.hid R0
  clear h R0 h0 h1 hc
  have hNC := Lib.hid (show (if bc = j then bo else bo.map (fun x => x.add j)) = none → l.length - j = 0 ∧ bc - j = 0 from fun e => by
    have : bo = none := by
      cases bo with
      | none => rfl
      | some ad => split at e <;> cases e
    have := hN.out this
    have := hlc.out
    omega)
  go_region_law
    (first
      | (refine step_append_src rfl _ _ 22 (by rfl) w.heap.size 5 i0 (.int .u8 0) 1 1 Try.underlying22 hi hz0 hz1 hz2 rfl (by decide) v1 (0 + i) _ (by rfl) O1 (if bc = j then bo else bo.map (fun x => x.add j)) (l.length - j) (bc - j) ((l.drop j).map (Value.int .u8)) (by rfl) (by rw [List.length_map, hC.out.1, Nat.mul_one]) (fun e => hNC.out e) (src_cells (hC.out.chg D1 (by simp))) (oneCell_u8 _) (by unfold maxLen; omega) (by omega) (D1.size) ?_; intro v3 w3 O3 C3; have D3 : Chg [] w w3 := D1.trans C3 (by simp) (fun x hx hlt => absurd (owns_block O1 x (by simpa [Option.mem_toList] using hx)) (by omega)); obtain ⟨r0, r1⟩ := hK.out _ D3; rw [List.nil_append, ← List.map_append, ← HZ.out] at O3; obtain ⟨n3, hn3⟩ : ∃ n3, n3 = 0 + i + (l.length - j) := ⟨_, rfl⟩; rw [← hn3] at O3; have HN3 := Lib.hid hn3; clear hn3; obtain ⟨b3, c3, rfl, F3⟩ := owns_form O3; generalize (if bc = j then bo else Option.map (fun x => x.add j) bo) = dd)
      | (refine step_append_src rfl _ _ 22 (by rfl) w.heap.size 5 i0 (.int .u8 0) 1 1 Try.underlying22 hi hz0 hz1 hz2 rfl (by decide) _ 0 [] (by rfl) O0 bo i bc ((l.take i).map (Value.int .u8)) (by rfl) (by rw [List.length_map, hA.out.1, Nat.mul_one]) (fun e => by have := hN.out e; omega) (src_cells (hA.out.chg DB0 (by simp))) (oneCell_u8 _) (by unfold maxLen; omega) (by omega) (DB0.size) ?_; intro v1 w1 O1 C1; have D1 : Chg [] w w1 := DB0.trans C1 (by simp) (by simp [Value.ownBlock]); obtain ⟨r0, r1⟩ := hK.out _ D1))
  all_goals (
    go_wp2_with fail
    go_ret
    exact ⟨rfl, ((D3.mono (T := [bM]) (by simp)).setCell (Or.inl (by simp)) _), _, _, ref_mk hR.out D3 F3 (by rw [F3.1.1, HN3.out]; have := hR.out.le; omega)⟩)

set_option maxHeartbeats 2000000 in
theorem refDelete_any (base bM N : Nat) (l : List Int) (bo : Option Addr) (bc : Nat) (a b : Int) (w : World) (h : RefIs w base bM N l bo bc) :
    Calls Try.prog 20 #[.pointer (some ⟨bM, 0, none⟩), .int .i64 a, .int .i64 b] w fun e w' => e = .returned (.int .i64 (delE l.length a b)) ∧ Chg [bM] w w' ∧ ∃ bo' bc', RefIs w' base bM N (delL l a b) bo' bc' := by
  have h0 := h.cell0
  by_cases hc : 0 ≤ a ∧ a ≤ b ∧ b ≤ (l.length : Int)
  · obtain ⟨i, rfl⟩ := Int.eq_ofNat_of_zero_le hc.1
    obtain ⟨j, rfl⟩ := Int.eq_ofNat_of_zero_le (by omega : 0 ≤ b)
    have e1 : delE l.length i j = 0 := by unfold delE; rw [if_pos hc]
    have e2 : delL l i j = l.take i ++ l.drop j := by unfold delL; rw [if_pos hc]; rfl
    rw [e1, e2]
    exact refDelete_ok base bM N l bo bc i j w h (by omega) (by omega)
  · have e1 : delE l.length a b = 3 := by unfold delE; rw [if_neg hc]
    have e2 : delL l a b = l := by unfold delL; rw [if_neg hc]
    rw [e1, e2]
    clear e1 e2
    by_cases c1 : a < 0
    · go_enter Try.func20, Try.ntmps20
      go_wp2_with fail
      go_ret
      exact ⟨rfl, Chg.refl _ _, _, _, h⟩
    · by_cases c2 : b < a
      · go_enter Try.func20, Try.ntmps20
        go_wp2_with fail
        go_ret
        exact ⟨rfl, Chg.refl _ _, _, _, h⟩
      · have c3 : (l.length : Int) < b := by omega
        go_enter Try.func20, Try.ntmps20
        go_wp2_with fail
        go_ret
        exact ⟨rfl, Chg.refl _ _, _, _, h⟩
end Go.Proofs.Ytghefhhgckafdaa
