/-
  ArenaNone: the walk through the law.
-/
import Derived.Test.YtghefhhgckafdaaNil
import Derived.Test.YtghefhhgckafdaaParts
namespace Go.Proofs.Ytghefhhgckafdaa
set_option linter.unusedVariables false
open Go.RowKit

theorem make_3 (w : World) : (Instr.makeSlice 22 (.int .i64 3) (.int .i64 3)).run Try.prog w = .ok (.slice (some ⟨w.heap.size, 0, none⟩) 3 3) (w.alloc (.cells (cellsOf 3 []).toArray 5)) := make_bytes 3 (by omega) w

set_option maxRecDepth 100000 in
set_option maxHeartbeats 2000000 in
theorem none_walk (n i : Int) (a0 : Option Addr) (len cap : Nat) (zs : List Int) (w : World) (hr : IsRow .u8 w a0 len cap zs) :
    Calls Try.prog 8 #[.int .i64 n, .int .i64 i, .slice a0 len cap] w fun e w' => e = .returned (.bool true) ∧ Below w.heap.size w w' := by
  obtain ⟨hlc, hcm, hzl⟩ := hr.le
  unfold maxLen at hcm
  have hmk := make_3
  go_enter Try.func8, Try.ntmps8
  go_wp2_with (first
    | (go_at_call 22; refine (nilWipe _).mono ?_; rintro e w' ⟨rfl, rfl⟩)
    | (go_at_call 30; refine (nilAt _ _).mono ?_; rintro e w' ⟨rfl, rfl⟩)
    | (go_at_call 27; refine (nilCell _ _).mono ?_; rintro e w' ⟨rfl, rfl⟩)
    | (go_at_call 11; refine (nilInsert _ _).mono ?_; rintro e w' ⟨rfl, rfl⟩)
    | (go_at_call 14; refine (nilDelete _).mono ?_; rintro e w' ⟨rfl, rfl⟩)
    | (go_at_call 16; refine (nilMove _).mono ?_; rintro e w' ⟨rfl, rfl⟩)
    | (go_at_call 23; refine (nilLen _).mono ?_; rintro e w' ⟨rfl, rfl⟩)
    | (go_at_call 29; refine (nilCap _).mono ?_; rintro e w' ⟨rfl, rfl⟩)
    | (go_at_call 12; refine (nilCopy _ _).mono ?_; rintro e w' ⟨rfl, rfl⟩)
    | (go_at_call 24; refine (nilClean _).mono ?_; rintro e w1 ⟨rfl, C1⟩; have D1 : Chg [] w w1 := (((Chg.refl [] w).alloc _).alloc _).trans C1 (U := []) (by simp) (by simp); clear C1)
    | (go_at_call 25; refine (nilZero _).mono ?_; rintro e w' ⟨rfl, rfl⟩))
  clear hmk
  by_cases hb : n < 1 ∨ 4096 < n
  · have hbad := Lib.hid (fun w => new_bad n w hb)
    by_cases c1 : n < 1
    · go_wp2_with (go_at_call 9; refine (hbad.out _).mono ?_; rintro e w' ⟨rfl, rfl⟩)
      refine (alive_any _).mono ?_
      rintro e w2 ⟨rfl, C2⟩
      go_wp2_with fail
      go_ret
      exact ⟨rfl, Chg.below (Below.refl _ _) (D1.trans C2 (U := []) (by simp) (by simp)) (by simp) (Nat.le_refl _)⟩
    · have c2 : 4096 < n := by omega
      go_wp2_with (go_at_call 9; refine (hbad.out _).mono ?_; rintro e w' ⟨rfl, rfl⟩)
      refine (alive_any _).mono ?_
      rintro e w2 ⟨rfl, C2⟩
      go_wp2_with fail
      go_ret
      exact ⟨rfl, Chg.below (Below.refl _ _) (D1.trans C2 (U := []) (by simp) (by simp)) (by simp) (Nat.le_refl _)⟩
  · obtain ⟨N, rfl⟩ := Int.eq_ofNat_of_zero_le (by omega : 0 ≤ n)
    refine (new_at N _ (by omega) (by omega)).mono ?_
    rintro e w2 ⟨bA, bC, rfl, C2, A2, l1, l2⟩
    have D2 := D1.trans C2 (U := []) (by simp) (by simp)
    have hs1 := D1.size
    have e1 : ¬ (N : Int) < 1 := by omega
    have e2 : ¬ 4096 < (N : Int) := by omega
    clear hb D1 C2
    obtain ⟨m, hm⟩ : ∃ m : Nat, m = min len N := ⟨_, rfl⟩
    have hm1 : m ≤ len := by omega
    have hm2 : m ≤ N := by omega
    have hm3 : min (len : Int) (N : Int) = (m : Int) := by omega
    have hm4 : (m : Int) ≤ (cap : Int) := by omega
    clear hm
    go_wp2_with fail
    have hsrc := (hr.src m (by omega) [bA, bC] (by simp; omega)).chg D2 (by simp)
    have hyl : (zs.take m).length = m := hsrc.1
    have hcell := Lib.hid (hr.src m (by omega) [] (by simp))
    have hget : ∀ k, k < m → (zs.take m).getD k 0 = zs.getD k 0 := fun k hk => by simp [List.getD, List.getElem?_take, hk]
    refine (insert_0 bA bC N [] _ _ _ (zs.take m) _ A2 hsrc (by simp; omega)).mono ?_
    rintro e w3 ⟨rfl, C3, A3⟩
    have D3 : Chg [] w w3 := D2.trans C3 (by simp) (by simp; omega)
    rw [List.append_nil] at A3
    clear A2 D2 C3 hsrc
    generalize hys : zs.take m = ys at *
    have HYS := Lib.hid hys
    clear hys
    clear hm3 l1 l2 hs1 hcm hlc
    by_cases k1 : i < 0
    · have v1 : atR ys i = 0 := by unfold atR; rw [if_pos (Or.inl k1)]
      have v2 : atE ys.length i = 3 := by unfold atE; rw [if_pos (Or.inl k1)]
      have v3 : cellR N ys i = 0 := by unfold cellR; rw [if_pos (Or.inl k1)]
      have v4 : cellE N i = 3 := by unfold cellE; rw [if_pos (Or.inl k1)]
      have ha := at_any bA bC N ys i w3 A3
      have hc := cell_any bA bC N ys i w3 A3
      rw [v1, v2] at ha
      rw [v3, v4] at hc
      clear v1 v2 v3 v4 A3
      go_wp2_with (first | (go_at_call 30; refine ha.mono ?_; rintro e w' ⟨rfl, rfl⟩) | (go_at_call 27; refine hc.mono ?_; rintro e w' ⟨rfl, rfl⟩))
      refine (alive_any _).mono ?_
      rintro e w4 ⟨rfl, C4⟩
      clear ha hc
      go_wp2_with fail
      go_ret
      exact ⟨rfl, Chg.below (Below.refl _ _) (D3.trans C4 (U := []) (by simp) (by simp)) (by simp) (Nat.le_refl _)⟩
    · by_cases k2 : (N : Int) ≤ i
      · have v1 : atR ys i = 0 := by unfold atR; rw [if_pos (Or.inr (by omega))]
        have v2 : atE ys.length i = 3 := by unfold atE; rw [if_pos (Or.inr (by omega))]
        have v3 : cellR N ys i = 0 := by unfold cellR; rw [if_pos (Or.inr k2)]
        have v4 : cellE N i = 3 := by unfold cellE; rw [if_pos (Or.inr k2)]
        have ha := at_any bA bC N ys i w3 A3
        have hc := cell_any bA bC N ys i w3 A3
        rw [v1, v2] at ha
        rw [v3, v4] at hc
        clear v1 v2 v3 v4 A3
        go_wp2_with (first | (go_at_call 30; refine ha.mono ?_; rintro e w' ⟨rfl, rfl⟩) | (go_at_call 27; refine hc.mono ?_; rintro e w' ⟨rfl, rfl⟩))
        refine (alive_any _).mono ?_
        rintro e w4 ⟨rfl, C4⟩
        clear ha hc
        go_wp2_with fail
        go_ret
        exact ⟨rfl, Chg.below (Below.refl _ _) (D3.trans C4 (U := []) (by simp) (by simp)) (by simp) (Nat.le_refl _)⟩
      · by_cases k3 : (m : Int) ≤ i
        · have v1 : atR ys i = 0 := by unfold atR; rw [if_pos (Or.inr (by omega))]
          have v2 : atE ys.length i = 3 := by unfold atE; rw [if_pos (Or.inr (by omega))]
          have v3 : cellR N ys i = 0 := by unfold cellR; rw [if_neg (by omega)]; unfold cellV; rw [List.getD_eq_getElem?_getD, List.getElem?_eq_none (by omega)]; rfl
          have v4 : cellE N i = 0 := by unfold cellE; rw [if_neg (by omega)]
          have ha := at_any bA bC N ys i w3 A3
          have hc := cell_any bA bC N ys i w3 A3
          rw [v1, v2] at ha
          rw [v3, v4] at hc
          clear v1 v2 v3 v4 A3
          go_wp2_with (first | (go_at_call 30; refine ha.mono ?_; rintro e w' ⟨rfl, rfl⟩) | (go_at_call 27; refine hc.mono ?_; rintro e w' ⟨rfl, rfl⟩))
          refine (alive_any _).mono ?_
          rintro e w4 ⟨rfl, C4⟩
          clear ha hc
          go_wp2_with fail
          go_ret
          exact ⟨rfl, Chg.below (Below.refl _ _) (D3.trans C4 (U := []) (by simp) (by simp)) (by simp) (Nat.le_refl _)⟩
        · obtain ⟨k, rfl⟩ := Int.eq_ofNat_of_zero_le (by omega : 0 ≤ i)
          have hk : k < m := by omega
          have hkc : (k : Int) < (m : Int) := by omega
          obtain ⟨b, off, rfl, _, hcl⟩ := src_cell hcell.out hk
          have v1 : atR ys k = ys.getD k 0 := by unfold atR; rw [if_neg (by omega)]; rfl
          have v2 : atE ys.length k = 0 := by unfold atE; rw [if_neg (by omega)]
          have v3 : cellR N ys k = ys.getD k 0 := by unfold cellR; rw [if_neg (by omega)]; rfl
          have v4 : cellE N k = 0 := by unfold cellE; rw [if_neg (by omega)]
          have ha := at_any bA bC N ys k w3 A3
          have hc := cell_any bA bC N ys k w3 A3
          have hck := hcl k hk
          rw [v1, v2] at ha
          rw [v3, v4] at hc
          clear v1 v2 v3 v4 A3 hcl hget hcell
          generalize ys.getD k 0 = z at *
          have HCK := Lib.hid hck
          clear hck
          go_wp2_with (first | (go_at_call 30; refine ha.mono ?_; rintro e w' ⟨rfl, rfl⟩) | (go_at_call 27; refine hc.mono ?_; rintro e w' ⟨rfl, rfl⟩))
          refine (alive_any _).mono ?_
          rintro e w4 ⟨rfl, C4⟩
          have D4 := D3.trans C4 (U := []) (by simp) (by simp)
          have hck := D4.cell HCK.out (by simp)
          clear ha hc C4
          go_wp2_with fail
          go_ret
          exact ⟨rfl, Chg.below (Below.refl _ _) D4 (by simp) (Nat.le_refl _)⟩

theorem none_law (n i : Int) (a0 : Option Addr) (len cap : Nat) (zs : List Int) (w : World) (_ : (Lit.int .i64 n).wf = true) (_ : (Lit.int .i64 i).wf = true) (hr : IsRow .u8 w a0 len cap zs) :
    Calls Try.prog 8 #[.int .i64 n, .int .i64 i, .slice a0 len cap] w fun e w' => e = .returned (.bool true) ∧ Below w.heap.size w w' := none_walk n i a0 len cap zs w hr
end Go.Proofs.Ytghefhhgckafdaa
