/-
  The laws over arenas: the document's example.
-/
import Derived.Test.YtghefhhgckafdaaAreT
namespace Go.Proofs.Ytghefhhgckafdaa
open Go.RowKit

/-- New bytes, as a source. -/
theorem src_new {w : World} {t : TypeId} (xs : List Int) (S : List Nat) (hS : ∀ x ∈ S, x < w.heap.size) : SrcIs (w.alloc (.cells (xs.map (Value.int .u8)).toArray t)) (some ⟨w.heap.size, 0, none⟩) xs.length xs S :=
  ⟨rfl, fun _ => ⟨_, rfl, fun h => Nat.lt_irrefl _ (hS _ h), fun j v hv => by rw [Addr.add_lit, cell_of_heap (alloc_heap w _), Nat.zero_add]; simpa using hv⟩⟩

theorem ArenaIs.lt {w : World} {bA bC N : Nat} {l : List Int} (h : ArenaIs w bA bC N l) : bA < w.heap.size ∧ bC < w.heap.size := ⟨heap_lt h.hA, heap_lt h.hC⟩

theorem ArenaIs.alloc {w : World} {bA bC N : Nat} {l : List Int} (h : ArenaIs w bA bC N l) (o : Obj) : ArenaIs (w.alloc o) bA bC N l := h.chg ((Chg.refl [] w).alloc o) (by simp) (by simp)

set_option maxHeartbeats 4000000 in
theorem alive_any (w : World) : Calls Try.prog 10 #[] w fun e w' => e = .returned (.bool true) ∧ Chg [] w w' := by
  go_enter Try.func10, Try.ntmps10
  go_wp2_with fail
  refine (new_ok 5 _ (by omega) (by omega)).mono ?_
  rintro e w1 ⟨rfl, C1, A1⟩
  have hl1 := A1.lt
  go_wp2_with fail
  refine (insert_any _ _ _ _ 0 _ _ _ [1, 2, 3] _ (A1.alloc _) (src_new [1, 2, 3] _ (by simp; omega))).mono ?_
  rintro e w2 ⟨rfl, C2, A2⟩
  rw [show insL 5 [] 0 [1, 2, 3] = [1, 2, 3] by decide] at A2
  simp only [show insE 5 ([] : List Int).length 0 3 = 0 by decide]
  have hl2 := A2.lt
  have D2 : Chg [] w w2 := (C1.alloc _).trans C2 (by simp) (by simp)
  clear C1 C2 A1 hl1
  go_wp2_with fail
  refine (insert_any _ _ _ _ 1 _ _ _ [9] _ (A2.alloc _) (src_new [9] _ (by simp; omega))).mono ?_
  rintro e w3 ⟨rfl, C3, A3⟩
  rw [show insL 5 [1, 2, 3] 1 [9] = [1, 9, 2, 3] by decide] at A3
  simp only [show insE 5 ([1, 2, 3] : List Int).length 1 1 = 0 by decide]
  have hl3 := A3.lt
  have D3 : Chg [] w w3 := (D2.alloc _).trans C3 (by simp) (by simp)
  clear D2 C3 A2 hl2
  go_wp2_with fail
  refine (delete_any _ _ _ _ 0 2 _ A3).mono ?_
  rintro e w4 ⟨rfl, C4, A4⟩
  rw [show delL [1, 9, 2, 3] 0 2 = [2, 3] by decide] at A4
  simp only [show delE ([1, 9, 2, 3] : List Int).length 0 2 = 0 by decide]
  have D4 : Chg [] w w4 := D3.trans C4 (by simp) (by simp)
  clear D3 C4 A3 hl3
  go_wp2_with fail
  refine (text_any _ _ _ _ _ A4).mono ?_
  rintro e w5 ⟨rfl, C5⟩
  have A5 := A4.chg C5 (by simp) (by simp)
  have D5 : Chg [] w w5 := D4.trans C5 (by simp) (by simp)
  clear D4 C5 A4
  have s1 : (strOfNums [2, 3]).toList = [2, 3] := by decide +kernel
  go_wp2_with (go_at_call 29; refine (cap_any _ _ _ _ _ A5).mono ?_; rintro e w' ⟨rfl, rfl⟩)
  refine (cells_any _ _ _ _ _ A5).mono ?_
  rintro e w6 ⟨rfl, C6⟩
  have D6 : Chg [] w w6 := D5.trans C6 (by simp) (by simp)
  have s2 : (strOfNums [2, 3, 0, 0, 0]).toList = [2, 3, 0, 0, 0] := by decide +kernel
  clear D5 C6
  go_wp2_with fail
  go_ret
  exact ⟨rfl, D6⟩
end Go.Proofs.Ytghefhhgckafdaa
