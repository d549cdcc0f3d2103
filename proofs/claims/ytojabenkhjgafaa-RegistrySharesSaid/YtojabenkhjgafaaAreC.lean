/-
  Package arena: the contracts of New, Cell, At, zero, Clean, Zero, Copy, Wipe.
-/
import Derived.Test.YtojabenkhjgafaaAreB
namespace Go.Proofs.Ytojabenkhjgafaa
set_option linter.unusedVariables false
open Go.RowKit

/-- What a cell holds. -/
def cellV (l : List Int) (i : Int) : Int := l.getD i.toNat 0
def cellE (N : Nat) (i : Int) : Int := if i < 0 ∨ (N : Int) ≤ i then 3 else 0
def cellR (N : Nat) (l : List Int) (i : Int) : Int := if i < 0 ∨ (N : Int) ≤ i then 0 else cellV l i

theorem cells_get (N : Nat) (l : List Int) (i : Nat) (h : i < N) (hle : l.length ≤ N) : (cellsOf N l).toArray[i]? = some (.int .u8 (cellV l i)) := by
  unfold cellsOf cellV
  by_cases hi : i < l.length
  · simp [List.getElem?_append, hi, List.getD]
  · have h1 : l[i]? = none := List.getElem?_eq_none (by omega)
    have h2 : i - l.length < N - l.length := by omega
    simp [List.getElem?_append, hi, List.getD, h2]

set_option maxHeartbeats 1000000 in
theorem cell_any (bA bC N : Nat) (l : List Int) (i : Int) (w : World) (h : ArenaIs w bA bC N l) :
    Calls Try.prog 25 #[.pointer (some ⟨bA, 0, none⟩), .int .i64 i] w fun e w' => e = .returned (.tuple #[.int .u8 (cellR N l i), .int .i64 (cellE N i)]) ∧ w = w' := by
  have h0 := h.cell0
  have hmost := h.most
  unfold cellR cellE
  by_cases c1 : i < 0
  · rw [if_pos (Or.inl c1), if_pos (Or.inl c1)]
    go_enter Try.func25, Try.ntmps25
    go_wp2_with fail
    go_ret2
    exact ⟨rfl, rfl⟩
  · by_cases c2 : (N : Int) ≤ i
    · rw [if_pos (Or.inr c2), if_pos (Or.inr c2)]
      go_enter Try.func25, Try.ntmps25
      go_wp2_with fail
      go_ret2
      exact ⟨rfl, rfl⟩
    · rw [if_neg (by omega), if_neg (by omega)]
      obtain ⟨k, rfl⟩ := Int.eq_ofNat_of_zero_le (by omega : 0 ≤ i)
      have hk : k < N := by omega
      have hc : w.cell? ⟨bC, k, none⟩ = some (.int .u8 (cellV l k)) := by rw [cell_of_heap h.hC]; exact cells_get N l k hk h.le
      have hk' : (k : Int) < (N : Int) := by omega
      go_enter Try.func25, Try.ntmps25
      go_wp2_with fail
      go_ret2
      exact ⟨rfl, rfl⟩

def atE (n : Nat) (i : Int) : Int := if i < 0 ∨ (n : Int) ≤ i then 3 else 0
def atR (l : List Int) (i : Int) : Int := if i < 0 ∨ (l.length : Int) ≤ i then 0 else cellV l i


/-- Are all of them 0? -/
def zeroB (xs : List Int) : Bool := xs.all (· == 0)
theorem zeroB_true {xs : List Int} (h : ∀ j, j < xs.length → xs.getD j 0 = 0) : zeroB xs = true := by
  unfold zeroB
  rw [List.all_eq_true]
  intro x hx
  obtain ⟨j, hj, rfl⟩ := List.getElem_of_mem hx
  have := h j hj
  simp [List.getD, hj] at this
  simp [this]
theorem zeroB_false {xs : List Int} {j : Nat} (hj : j < xs.length) (h : xs.getD j 0 ≠ 0) : zeroB xs = false := by
  unfold zeroB
  rw [Bool.eq_false_iff]
  intro hc
  rw [List.all_eq_true] at hc
  have := hc _ (List.getElem_mem hj)
  simp [List.getD, hj] at h
  simp at this
  exact h this

theorem src_cell {w : World} {ao : Option Addr} {m : Nat} {ys : List Int} {S : List Nat} (h : SrcIs w ao m ys S) {k : Nat} (hk : k < m) :
    ∃ b off, ao = some ⟨b, off, none⟩ ∧ b ∉ S ∧ ∀ k, k < m → w.cell? ⟨b, off + k, none⟩ = some (.int .u8 (ys.getD k 0)) := by
  obtain ⟨ad, e, hS, hc⟩ := h.2 (by omega)
  obtain ⟨b, off, spot⟩ := ad
  have hlen := h.1
  have hv : ∀ k, k < m → (ys.map (Value.int .u8))[k]? = some (.int .u8 (ys.getD k 0)) := by
    intro k hk
    simp [List.getD, show k < ys.length by omega]
  have hsp := World.cell?_spot (hc 0 _ (hv 0 (by omega)))
  have : spot = none := by simpa [Addr.add] using hsp
  subst this
  exact ⟨b, off, e, hS, fun k hk => by have := hc k _ (hv k hk); rwa [Addr.add_lit] at this⟩

set_option maxHeartbeats 1000000 in
theorem zero_any (ao : Option Addr) (m c : Nat) (xs : List Int) (w : World) (h : SrcIs w ao m xs []) (hm : m ≤ 140737488355328) :
    Calls Try.prog 31 #[.slice ao m c] w fun e w' => e = .returned (.bool (zeroB xs)) ∧ w = w' := by
  have hlen := h.1
  go_enter Try.func31, Try.ntmps31
  go_wp2_with fail
  go_loop [7] (fun i => ∃ k : Nat, k ≤ m ∧ i = .int .i64 k ∧ ∀ j, j < k → xs.getD j 0 = 0) (fun i => m - (intOf i).toNat)
  case atStart => exact ⟨0, Nat.zero_le _, rfl, fun j hj => absurd hj (Nat.not_lt_zero _)⟩
  case round =>
    obtain ⟨k, hk, rfl, hz⟩ := hrel
    have Hz := Lib.hid hz
    clear hz hlen
    by_cases hlt : k < m
    · obtain ⟨b, off, rfl, _, hcell⟩ := src_cell h hlt
      have hc := hcell k hlt
      clear hcell
      by_cases hx : xs.getD k 0 = 0
      · rw [hx] at hc
        go_wp2_with fail
        go_round
        case rel =>
          refine ⟨k + 1, by omega, by go_num, fun j hj => ?_⟩
          by_cases hjk : j = k
          · rw [hjk]; exact hx
          · exact Hz.out j (by omega)
        case measure => simp [intOf]; omega
      · have hb : (xs.getD k 0 != 0) = true := by rw [bne_iff_ne]; exact hx
        have Hx := Lib.hid hx
        clear hx
        generalize hv : xs.getD k 0 = v at *
        have Hv := Lib.hid hv
        clear hv
        go_wp2_with fail
        go_ret
        refine ⟨ret_bool' ?_, rfl⟩
        exact (zeroB_false (j := k) (by rw [h.1]; exact hlt) (by rw [Hv.out]; exact Hx.out)).symm
    · go_wp2_with fail
      go_ret
      refine ⟨ret_bool' ?_, rfl⟩
      exact (zeroB_true (fun j hj => Hz.out j (by rw [h.1] at hj; omega))).symm
end Go.Proofs.Ytojabenkhjgafaa
