/-
  Package arena: the contracts of New, Clean, Zero, Copy, Wipe, Delete.
-/
import Derived.Test.YtojabenkhjgafaaAreC
namespace Go.Proofs.Ytojabenkhjgafaa
set_option linter.unusedVariables false
open Go.RowKit

/-- The cells from a place on, as a slice's. -/
theorem ArenaIs.src {w : World} {bA bC N : Nat} {l : List Int} (h : ArenaIs w bA bC N l) (i : Nat) (hi : i ≤ N) :
    SrcIs w (if N = i then some ⟨bC, 0, none⟩ else some ⟨bC, i, none⟩) (N - i) ((l ++ List.replicate (N - l.length) 0).drop i) [] := by
  have hle := h.le
  refine ⟨by simp; omega, fun hm => ?_⟩
  rw [if_neg (by omega)]
  refine ⟨_, rfl, by simp, fun j v hv => ?_⟩
  rw [Addr.add_lit, cell_of_heap h.hC]
  simp only [List.getElem?_map, List.getElem?_drop, Option.map_eq_some_iff] at hv
  obtain ⟨n, hn, rfl⟩ := hv
  unfold cellsOf
  simp only [List.getElem?_toArray, List.getElem?_map, hn, Option.map_some]

theorem zeroB_replicate (n : Nat) : zeroB (List.replicate n 0) = true := by unfold zeroB; simp

theorem zeroB_append (a b : List Int) : zeroB (a ++ b) = (zeroB a && zeroB b) := by unfold zeroB; simp

set_option maxHeartbeats 1000000 in
theorem clean_any (bA bC N : Nat) (l : List Int) (w : World) (h : ArenaIs w bA bC N l) :
    Calls Try.prog 29 #[.pointer (some ⟨bA, 0, none⟩)] w fun e w' => e = .returned (.bool true) ∧ Chg [] w w' := by
  have h0 := h.cell0
  have h1 := h.cell1
  have hle := h.le
  have hmost := h.most
  have hsrc := h.src l.length hle
  have e1 : (l.length : Int) ≤ (N : Int) := by omega
  have ed : (l ++ List.replicate (N - l.length) 0).drop l.length = List.replicate (N - l.length) 0 := by simp
  rw [ed] at hsrc
  have hz : zeroB (List.replicate (N - l.length) 0) = true := zeroB_replicate _
  have Hs := Lib.hid hsrc
  clear hsrc ed
  go_enter Try.func29, Try.ntmps29
  go_wp2_with fail
  go_quiet ((go_at_call 31; exact quiet_same (zero_any _ _ _ _ _ (by exact (Hs.out).drewN _) (by omega))))
  go_wp2_with fail
  all_goals (go_ret; exact ⟨rfl, (Chg.refl _ _).drewN _⟩)

set_option maxHeartbeats 1000000 in
theorem zeroM_any (bA bC N : Nat) (l : List Int) (w : World) (h : ArenaIs w bA bC N l) :
    Calls Try.prog 24 #[.pointer (some ⟨bA, 0, none⟩)] w fun e w' => e = .returned (.bool (zeroB l)) ∧ w = w' := by
  have h0 := h.cell0
  have hle := h.le
  have hmost := h.most
  have hpos := h.pos
  have hsrc := h.src 0 (by omega)
  rw [if_neg (by omega), List.drop_zero, Nat.sub_zero] at hsrc
  have hz : zeroB (l ++ List.replicate (N - l.length) 0) = zeroB l := by rw [zeroB_append, zeroB_replicate, Bool.and_true]
  rw [← hz]
  clear hz
  have Hs := Lib.hid hsrc
  clear hsrc
  go_enter Try.func24, Try.ntmps24
  go_wp2_with fail
  refine (zero_any _ _ _ _ _ Hs.out (by omega)).mono ?_; rintro e w' ⟨rfl, rfl⟩
  go_wp2_with fail
  go_ret
  exact ⟨rfl, rfl⟩

set_option maxHeartbeats 1000000 in
theorem copy_any (bA bC N : Nat) (l : List Int) (g off n c : Nat) (cur : List Value) (t : TypeId) (w : World) (h : ArenaIs w bA bC N l) (hg : w.heap[g]? = some (.cells cur.toArray t (0, 0))) (hfit : off + n ≤ cur.length) :
    Calls Try.prog 19 #[.pointer (some ⟨bA, 0, none⟩), .slice (some ⟨g, off, none⟩) n c] w fun e w' => e = .returned (.int .i64 (min l.length n : Nat)) ∧ Chg [g] w w' ∧
      w'.heap[g]? = some (.cells (splice cur off ((l.take n).map (Value.int .u8))).toArray t (0, 0)) := by
  have h0 := h.cell0
  have h1 := h.cell1
  have hle := h.le
  have hmost := h.most
  have e1 : (l.length : Int) ≤ (N : Int) := by omega
  have hlen : ((l.take n).map (Value.int .u8)).length = Nat.min l.length n := by simp [Nat.min_comm]
  have Hlen := Lib.hid hlen
  clear hlen
  go_enter Try.func19, Try.ntmps19
  go_wp2_with fail
  refine wp_region_tail 10 (by kernel_rfl) (by kernel_rfl) ?_
  simp only [List.take_succ_cons, List.take_zero, List.drop_succ_cons, List.drop_zero]
  repeat still_step
  refine wpStill_nil ?_
  refine wpList_copy_chg rfl (.tmp 7) (.tmp 16) 45 45 rfl 5 Try.underlying45 info5 _ _ _ _ _ _ rfl rfl g off cur t (show w.drew.heap[g]? = _ from hg) ((l.take n).map (Value.int .u8)) Hlen.out ?hpos ?hfit (oneCell_u8 _) ?k
  case hpos =>
    intro _
    refine ⟨rfl, _, rfl, fun j v hv => ?_⟩
    show w.cell? _ = _
    rw [Addr.add_lit, cell_of_heap h.hC]
    refine cells_at N l 0 j v ?_
    rw [List.drop_zero]
    simp only [List.getElem?_map, List.getElem?_take] at hv ⊢
    split at hv
    · exact hv
    · cases hv
  case hfit => rw [Hlen.out]; have : Nat.min l.length n ≤ n := Nat.min_le_right _ _; omega
  intro w1 H1 C1
  have hr : (goInt ((l.take n).map (Value.int .u8)).length) = .int .i64 (min l.length n : Nat) := by rw [Hlen.out]; rfl
  rw [hr]
  clear hr
  go_wp2_with fail
  go_ret
  exact ⟨rfl, C1.of_drew, H1.out⟩

set_option maxHeartbeats 1000000 in
theorem wipe_any (bA bC N : Nat) (l : List Int) (w : World) (h : ArenaIs w bA bC N l) :
    Calls Try.prog 30 #[.pointer (some ⟨bA, 0, none⟩)] w fun e w' => e = .returned (.tuple #[]) ∧ Chg [bA, bC] w w' ∧ ArenaIs w' bA bC N [] := by
  have h0 := h.cell0
  have h1 := h.cell1
  have hle := h.le
  have hmost := h.most
  have hne := h.ne
  have hfit := Lib.hid (show 0 + N ≤ (cellsOf N l).length by rw [cellsOf_length N l hle]; omega)
  go_enter Try.func30, Try.ntmps30
  go_wp2_with ((with_reducible show wpList _ _ _ (⟨none, .call _, _, _, _, _⟩ :: _) _ _); refine wpList_clear_chg rfl (.tmp 7) 45 rfl 5 Try.underlying45 _ zero5 rfl rfl _ _ _ rfl bC 0 (cellsOf N l) 5 h.hC (fun _ => rfl) hfit.out (fun w1 H1 C1 => ?_); have k1 := C1.cell h1 (by simpa using hne); have HA1 := Lib.hid (C1.heap h.hA (by simpa using hne)); have g1 := free_of_heap HA1.out 1; clear h0 h1)
  go_end0
  refine ⟨rfl, (C1.mono (by simp)).setCell (by simp) _, ?_, ?_, by simp, hmost, h.pos, hne⟩
  · rw [setCell_heap _ HA1.out]; rfl
  · rw [setCell_heap_ne _ (Ne.symm hne), H1.out, wipe_cells N l hle]

theorem made_cells (n : Nat) : Go.madeCells #[Value.int .u8 0] n = (cellsOf n []).toArray := by
  unfold cellsOf Go.madeCells
  apply Array.ext
  · simp
  · intro i h1 h2
    simp [Nat.mod_one]

theorem infoU8 : (Try.prog.info? 5).map (fun i => (i.zero, i.size, i.bytes)) = some (some (.int .u8 0), 1, 1) := by kernel_rfl

theorem make_bytes (n : Nat) (h : n ≤ 281474976710656) (w : World) : (Instr.makeSlice 45 (.int .i64 (n : Int)) (.int .i64 (n : Int))).run Try.prog w =
    .ok (.slice (some ⟨w.heap.size, 0, none⟩) n n) (w.alloc (.cells (cellsOf n []).toArray 5)) := by
  rw [← made_cells]
  exact Go.run_make_row' _ _ _ 1 Try.underlying45 infoU8 rfl _ _ n (by omega) (by omega) w

set_option maxHeartbeats 1000000 in
theorem new_ok (n : Nat) (w : World) (h1 : 1 ≤ n) (h2 : n ≤ 4096) :
    Calls Try.prog 26 #[.int .i64 n] w fun e w' => e = .returned (.tuple #[.pointer (some ⟨w.heap.size + 1, 0, none⟩), .int .i64 0]) ∧ Chg [] w w' ∧ ArenaIs w' (w.heap.size + 1) w.heap.size n [] := by
  have e1 : ¬ (n : Int) < 1 := by omega
  have e2 : ¬ (4096 : Int) < (n : Int) := by omega
  have hmk := make_bytes n (by omega)
  go_enter Try.func26, Try.ntmps26
  go_wp2_with fail
  go_ret2
  refine ⟨rfl, ((Chg.refl _ _).alloc _).alloc _, ?_, ?_, by simp, h2, h1, by omega⟩
  · exact alloc2_heap w _ _
  · exact alloc_keeps (alloc_heap w _)

set_option maxHeartbeats 1000000 in
theorem new_bad (n : Int) (w : World) (h : n < 1 ∨ 4096 < n) :
    Calls Try.prog 26 #[.int .i64 n] w fun e w' => e = .returned (.tuple #[.pointer none, .int .i64 3]) ∧ w = w' := by
  by_cases h1 : n < 1
  · go_enter Try.func26, Try.ntmps26
    go_wp2_with fail
    go_ret2
    exact ⟨rfl, rfl⟩
  · have h2 : 4096 < n := by omega
    go_enter Try.func26, Try.ntmps26
    go_wp2_with fail
    go_ret2
    exact ⟨rfl, rfl⟩
end Go.Proofs.Ytojabenkhjgafaa
