import Derived.Test.YtafmnkngjjnpiaaGreatDoorAreD
import Derived.Test.YtafmnkngjjnpiaaGreatDoorAreP
namespace Go.Proofs.YtafmnkngjjnpiaaGreatDoor.Ar
set_option maxRecDepth 100000
set_option linter.unusedVariables false
end Go.Proofs.YtafmnkngjjnpiaaGreatDoor.Ar

namespace Go.Proofs.YtafmnkngjjnpiaaGreatDoor.Ar
set_option maxRecDepth 100000
set_option linter.unusedVariables false
open Go.RowKit
set_option maxHeartbeats 2000000 in
theorem delete_ok (bA bC N : Nat) (l : List Int) (i j : Nat) (w : World) (h : ArenaIs w bA bC N l) (hij : i ≤ j) (hj : j ≤ l.length) :
    Calls Tryz.prog 63 #[.pointer (some ⟨bA, 0, none⟩), .int .i64 i, .int .i64 j] w fun e w' => e = .returned (.int .i64 0) ∧ Chg [bA, bC] w w' ∧ ArenaIs w' bA bC N (l.take i ++ l.drop j) := by
  have h0 := h.cell0
  have h1 := h.cell1
  have hle := h.le
  have hmost := h.most
  have hne := h.ne
  have hp : partB l.length (i : Int) (j : Int) = true := decide_eq_true ⟨by omega, by omega, by omega⟩
  have e1 : (i : Int) ≤ (l.length : Int) := by omega
  have e2 : (j : Int) ≤ (l.length : Int) := by omega
  have e3 : (l.length : Int) ≤ (N : Int) := by omega
  go_enter Tryz.func63, Tryz.ntmps63
  go_wp2_with (go_at_call 95; refine (part_any _ _ _ _ _ _ _ h).mono ?_; rintro e w' ⟨rfl, rfl⟩)
  refine wp_region_tail 20 (by kernel_rfl) (by kernel_rfl) ?_
  simp only [List.take_succ_cons, List.take_zero, List.drop_succ_cons, List.drop_zero]
  repeat still_step
  refine wpStill_nil ?_
  refine wpList_copy_chg rfl (.tmp 25) (.tmp 35) 22 22 rfl 5 Tryz.underlying22 info5 _ _ _ _ _ _ rfl rfl bC i (cellsOf N l) 5 (show w.drew.heap[bC]? = _ from h.hC) ((l.drop j).map (Value.int .u8)) ?hn ?hpos ?hfit ?h1 ?k
  case hn => simp only [List.length_map, List.length_drop]; exact (Nat.min_eq_left (by omega)).symm
  case hpos =>
    intro hlen
    simp at hlen
    rw [if_neg (by omega), if_neg (by omega)]
    refine ⟨rfl, _, rfl, fun x v hv => ?_⟩
    show w.cell? _ = _
    rw [Addr.add_lit, cell_of_heap h.hC]
    exact cells_at N l j x v hv
  case hfit => simp [cellsOf_length N l hle]; omega
  case h1 => exact oneCell_u8 _
  intro w1 H1 C1'
  have C1 : Chg [bC] w w1 := C1'.of_drew
  have k0 := C1.cell h0 (by simpa using hne)
  have k1 := C1.cell h1 (by simpa using hne)
  have HA1 := Lib.hid (C1.heap h.hA (by simpa using hne))
  clear h0 h1 C1'
  generalize (if N = i then some ({ block := bC, off := 0 } : Addr) else some { block := bC, off := i }) = d1
  generalize (if N = j then some ({ block := bC, off := 0 } : Addr) else some { block := bC, off := j }) = d2
  go_wp2_with fail
  have e4 : IntKind.i64.wrap ((j : Int) - (i : Int)) = ((j - i : Nat) : Int) := by rw [IntWalk.i64_in _ (by omega)]; omega
  have e5 : IntKind.i64.wrap ((l.length : Int) - ((j - i : Nat) : Int)) = ((l.length - (j - i) : Nat) : Int) := by rw [IntWalk.i64_in _ (by omega)]; omega
  have e6 : ((l.length - (j - i) : Nat) : Int) ≤ (l.length : Int) := by omega
  have e7 : (0 : Int) ≤ ((l.length - (j - i) : Nat) : Int) := by omega
  have e8 : l.length - (l.length - (j - i)) = j - i := by omega
  refine wp_region_tail 17 (by kernel_rfl) (by kernel_rfl) ?_
  simp only [List.take_succ_cons, List.take_zero, List.drop_succ_cons, List.drop_zero]
  repeat still_step
  refine wpStill_nil ?_
  have hfit2 := Lib.hid (show (l.length - (j - i)) + (j - i) ≤ (splice (cellsOf N l) i ((l.drop j).map (Value.int .u8))).length by
    rw [length_splice _ _ _ (by simp [cellsOf_length N l hle]; omega), cellsOf_length N l hle]; omega)
  refine wpList_clear_chg rfl (.tmp 53) 22 rfl 5 Tryz.underlying22 _ zero5 rfl rfl _ (j - i) _ rfl bC (l.length - (j - i)) _ 5 H1.out ?_ hfit2.out (fun w2 H2 C2' => ?_)
  · intro hpos
    rw [if_neg (by omega)]
  have C2 : Chg [bC] w1 w2 := C2'.of_drew
  have k1' := C2.cell k1 (by simpa using hne)
  have HA2 := Lib.hid (C2.heap HA1.out (by simpa using hne))
  have g1' := free_of_heap HA2.out 1
  clear k0 k1 hfit2 C2'
  generalize (if N = l.length - (j - i) then some ({ block := bC, off := 0 } : Addr) else some { block := bC, off := l.length - (j - i) }) = d3
  go_wp2_with fail
  go_ret
  have hl3 : (l.take i ++ l.drop j).length = l.length - (j - i) := by simp; omega
  refine ⟨rfl, ?_, ?_⟩
  · exact ((C1.trans C2 (U := [bA, bC]) (by simp) (by simp)).setCell (by simp) _)
  · refine ⟨?_, ?_, by rw [hl3]; omega, hmost, h.pos, hne⟩
    · rw [setCell_heap _ HA2.out, hl3]; rfl
    · rw [setCell_heap_ne _ (Ne.symm hne), H2.out, delete_cells N l i j hij hj hle]
end Go.Proofs.YtafmnkngjjnpiaaGreatDoor.Ar
