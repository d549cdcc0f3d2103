/-
  ArenaVacates: the walk through the law.
-/
import Derived.Test.YtghefhhgckafdaaActC
import Derived.Test.YtghefhhgckafdaaAreE
import Derived.Lib.ConvBytes
namespace Go.Proofs.Ytghefhhgckafdaa
set_option linter.unusedVariables false
open Go.RowKit

theorem chg_bytesWorld (w : World) (e : TypeId) (s : ByteArray) : Chg [] w (Lib.bytesWorld w e s) :=
  ⟨rfl, rfl, rfl, by rw [Lib.bytesWorld_size]; omega, fun k hk _ => Lib.bytesWorld_at_old w e s k hk⟩

theorem src_bytes (w : World) (e : TypeId) (zs : List Int) (m : Nat) (hm : zs.length = m) (hz : ∀ z ∈ zs, 0 ≤ z ∧ z ≤ 255) : SrcIs (Lib.bytesWorld w e (strOfNums zs)) (some ⟨w.heap.size, 0, none⟩) m zs [] := by
  refine ⟨hm, fun h0 => ⟨_, rfl, by simp, fun j v hv => ?_⟩⟩
  simp only [List.getElem?_map, Option.map_eq_some_iff] at hv
  obtain ⟨z, hz1, rfl⟩ := hv
  have hjl : j < zs.length := by
    rcases Nat.lt_or_ge j zs.length with h | h
    · exact h
    · rw [List.getElem?_eq_none h] at hz1; cases hz1
  rw [Addr.add_lit, Nat.zero_add, Lib.bytesWorld_cell _ _ _ _ (by rw [strOfNums_size]; exact hjl)]
  have hb := hz z (List.mem_of_getElem? hz1)
  have : (strOfNums zs).data.toList.getD j 0 = UInt8.ofNat z.toNat := by
    unfold strOfNums
    simp [List.getD, hz1]
  rw [this]
  have h2 : (UInt8.ofNat z.toNat).toNat = z.toNat := by simp; omega
  rw [h2]
  congr 2
  omega

theorem conv_bytes (w : World) (zs : List Int) (m : Nat) (hm : zs.length = m) (hz : ∀ z ∈ zs, 0 ≤ z ∧ z ≤ 255) :
    ∃ w7 cp, (convert 9 22 (.string (strOfNums zs))).run Try.prog w = .ok (.slice (some ⟨w.heap.size, 0, none⟩) m cp) w7 ∧ Chg [] w w7 ∧ SrcIs w7 (some ⟨w.heap.size, 0, none⟩) m zs [] := by
  have h1 := Lib.run_convert_string_bytes (P := Try.prog) w 9 22 5 (strOfNums zs) Try.underlying9 Try.underlying22 Try.underlying5
  have h2 : (strOfNums zs).size = m := by rw [strOfNums_size, hm]
  rw [h2] at h1
  exact ⟨_, _, h1, chg_bytesWorld _ _ _, src_bytes w _ zs m hm hz⟩

theorem str_zero (zs : List Int) (j : Nat) (hb : j < (strOfNums zs).size) (h : zs[j]? = some 0) : ((((strOfNums zs)[j]'hb).toNat : Int) != 0) = false := by
  have : (strOfNums zs)[j]'hb = 0 := by
    have h1 : (strOfNums zs).data[j]? = some 0 := by
      unfold strOfNums
      simp [h]
    have h2 := Array.getElem?_eq_some_iff.1 h1
    obtain ⟨h3, h4⟩ := h2
    exact h4
  rw [this]; rfl

set_option maxRecDepth 100000 in
set_option maxHeartbeats 400000 in
theorem vacates_walk (n : Int) (a0 : Option Addr) (len cap : Nat) (acts : List ActD) (w : World) (hl : len ≤ maxLen) (h : ActsAt w a0 len acts) :
    Calls Try.prog 7 #[.int .i64 n, .slice a0 len cap] w fun e w' => e = .returned (.bool true) ∧ Below w.heap.size w w' := by
  unfold maxLen at hl
  have hN := sizeN_le n
  obtain ⟨N, hNe⟩ : ∃ N, N = sizeN n := ⟨_, rfl⟩
  rw [← hNe] at hN
  have hsz := Lib.hid (fun w => by have := size_any n w; rw [← hNe] at this; exact this)
  clear hNe
  go_enter Try.func7, Try.ntmps7
  go_wp2_with (go_at_call 17; refine (hsz.out _).mono ?_; rintro e w' ⟨rfl, rfl⟩)
  refine (new_at N _ (by omega) (by omega)).mono ?_
  rintro e w1 ⟨bA, bC, rfl, C1, A1, l1, l2⟩
  have D1 : Chg [] w w1 := C1
  go_wp2_with fail
  refine (alive_any _).mono ?_
  rintro e w2 ⟨rfl, C2⟩
  have A2 := A1.chg C2 (by simp) (by simp)
  have D2 := D1.trans C2 (U := []) (by simp) (by simp)
  clear A1 D1 C1 C2
  go_wp2_with fail
  refine (great_any a0 len cap acts _ (h.chg D2) hl).mono ?_
  rintro e w3 ⟨rfl | ⟨rfl, _⟩, C3⟩
  · have D3 := D2.trans C3 (U := []) (by simp) (by simp)
    go_wp2_with fail
    refine (alive_any _).mono ?_
    rintro e w4 ⟨rfl, C4⟩
    have D4 := D3.trans C4 (U := []) (by simp) (by simp)
    go_wp2_with fail
    go_ret
    exact ⟨rfl, Chg.below (Below.refl _ _) D4 (by simp) (Nat.le_refl _)⟩
  · have A3 := A2.chg C3 (by simp) (by simp)
    have D3 := D2.trans C3 (U := []) (by simp) (by simp)
    clear A2 D2 C3
    go_wp2_with fail
    go_loopw [42] (fun i wr => ∃ (k : Nat) (l : List Int), k ≤ len ∧ i = .int .i64 k ∧ ArenaIs wr bA bC N l ∧ Chg [] w wr) (fun i _ => len - (intOf i).toNat)
    case atStart => exact ⟨0, _, Nat.zero_le _, rfl, A3, D3⟩
    case round =>
      obtain ⟨k, l, hk, rfl, Ar, Dr⟩ := hrel
      by_cases hlt : k < len
      · obtain ⟨bl, off, x, rfl, hx, hat⟩ := h.get hlt
        obtain ⟨h0, h1, h2, h3, h4, hr⟩ := hat.chg Dr
        have hsrc := hat.2.2.2.2.2.src x.m (by have := hr.le; omega) [bA, bC] (by simp; omega)
        clear hat hr
        rcases (by omega : x.kind = 0 ∨ x.kind = 1 ∨ x.kind = 2 ∨ (¬ x.kind = 0 ∧ ¬ x.kind = 1 ∧ ¬ x.kind = 2)) with k0 | k0 | k0 | ⟨k0, k1, k2⟩
        all_goals (
          try rw [k0] at h0
          go_wp2_with fail
          generalize hw4 : wr.alloc _ = w4
          have E4 : Chg [] wr w4 := by rw [← hw4]; exact (Chg.refl _ _).alloc _
          have D4 := Dr.trans E4 (U := []) (by simp) (by simp)
          have A4 := Ar.chg E4 (by simp) (by simp)
          clear E4 hw4 Ar Dr h0 h1 h2 h3 h4)
        all_goals (first
          | (go_at_call 11; refine (insert_any bA bC N l x.a _ _ _ _ _ A4 (hsrc.chg D4 (by simp))).mono ?_; rintro e w5 ⟨rfl, C5, A5⟩; have D5 : Chg [] w w5 := D4.trans C5 (by simp) (by simp; omega); generalize insL N l x.a _ = l' at A5; go_wp2_with fail)
          | (go_at_call 14; refine (delete_any bA bC N l x.a x.b _ A4).mono ?_; rintro e w5 ⟨rfl, C5, A5⟩; have D5 : Chg [] w w5 := D4.trans C5 (by simp) (by simp; omega); generalize delL l x.a x.b = l' at A5; go_wp2_with fail)
          | (go_at_call 16; refine (move_any bA bC N l x.a x.b x.c _ A4).mono ?_; rintro e w5 ⟨rfl, C5, A5⟩; have D5 : Chg [] w w5 := D4.trans C5 (by simp) (by simp; omega); generalize movM l x.a x.b x.c = l' at A5; go_wp2_with fail)
          | (go_at_call 15; have A5 := A4; have D5 := D4; clear A4 D4; generalize l = l' at A5))
        all_goals (
          refine (cells_any bA bC N l' _ A5).mono ?_
          rintro e w6 ⟨rfl, C6⟩
          have A6 := A5.chg C6 (by simp) (by simp)
          have D6 := D5.trans C6 (U := []) (by simp) (by simp)
          clear A5 D5 C6)
        all_goals (
          have hZs : (strOfNums (l' ++ List.replicate (N - l'.length) 0)).size = N := by rw [strOfNums_size]; have := A6.le; simp; omega
          have hZi := Lib.hid (show ∀ j, l'.length ≤ j → j < N → (l' ++ List.replicate (N - l'.length) (0 : Int))[j]? = some 0 from fun j h1 h2 => by rw [List.getElem?_append_right h1, List.getElem?_replicate, if_pos (by omega)])
          have hle : (l'.length : Int) ≤ (N : Int) := by have := A6.le; omega
          go_wp2_with (first | (go_at_call 17; refine (hsz.out _).mono ?_; rintro e w' ⟨rfl, rfl⟩) | (go_at_call 23; refine (len_any _ _ _ _ _ A6).mono ?_; rintro e w' ⟨rfl, rfl⟩))
          go_loop [10] (fun i => ∃ j : Nat, l'.length ≤ j ∧ j ≤ N ∧ i = .int .i64 j) (fun i => N - (intOf i).toNat)
          case atStart => exact ⟨_, Nat.le_refl _, by omega, rfl⟩
          case round =>
            obtain ⟨j, hj1, hj2, rfl⟩ := hrel
            by_cases hjl : j < N
            · have hj0 : ∀ hb : j < (strOfNums (l' ++ List.replicate (N - l'.length) 0)).size, ((((strOfNums (l' ++ List.replicate (N - l'.length) 0))[j]'hb).toNat : Int) != 0) = false := fun hb => str_zero _ j hb (hZi.out j hj1 hjl)
              go_wp2_with fail
              exact ⟨⟨j + 1, by omega, by omega, by go_num⟩, by simp [intOf]; omega⟩
            · go_wp2_with fail
              exact ⟨⟨k + 1, l', by omega, by go_num, A6, D6⟩, by simp [intOf]; omega⟩)
      · have hkl : ¬ k < len := hlt
        go_wp2_with fail
        refine (wipe_any bA bC N l _ Ar).mono ?_
        rintro e w5 ⟨rfl, C5, A5⟩
        have D5 : Chg [] w w5 := Dr.trans C5 (by simp) (by simp; omega)
        clear Ar Dr C5
        go_wp2_with fail
        refine (cells_any bA bC N [] _ A5).mono ?_
        rintro e w6 ⟨rfl, C6⟩
        have A6 := A5.chg C6 (by simp) (by simp)
        have D6 := D5.trans C6 (U := []) (by simp) (by simp)
        clear A5 D5 C6
        obtain ⟨w7, cp, hcv, C7, hsrc⟩ : ∃ w7 cp, (convert 9 22 (.string (strOfNums (List.replicate N 0)))).run Try.prog w6 = .ok (.slice (some ⟨w6.heap.size, 0, none⟩) N cp) w7 ∧ Chg [] w6 w7 ∧ SrcIs w7 (some ⟨w6.heap.size, 0, none⟩) N (List.replicate N 0) [] := conv_bytes w6 (List.replicate N 0) N (by simp) (fun z hz => by simp at hz; omega)
        have A7 := A6.chg C7 (by simp) (by simp)
        have D7 := D6.trans C7 (U := []) (by simp) (by simp)
        clear A6 D6 C7
        go_wp2_with fail
        have hzl := zeroL_any (some ⟨w6.heap.size, 0, none⟩) N cp (List.replicate N 0) w7 hsrc (by omega)
        rw [zeroB_replicate] at hzl
        refine hzl.mono ?_
        rintro e w8 ⟨rfl, rfl⟩
        clear hsrc hcv hzl
        have hzm := zeroM_any bA bC N [] w7 A7
        rw [show zeroB [] = true from rfl] at hzm
        go_wp2_with fail
        refine hzm.mono ?_
        rintro e w8 ⟨rfl, rfl⟩
        clear hzm
        go_wp2_with fail
        refine (clean_any bA bC N [] _ A7).mono ?_
        rintro e w8 ⟨rfl, C8⟩
        have A8 := A7.chg C8 (by simp) (by simp)
        have D8 := D7.trans C8 (U := []) (by simp) (by simp)
        clear A7 D7 C8
        go_wp2_with (first | (go_at_call 17; refine (hsz.out _).mono ?_; rintro e w' ⟨rfl, rfl⟩) | (go_at_call 23; refine (len_any _ _ _ _ _ A8).mono ?_; rintro e w' ⟨rfl, rfl⟩) | (go_at_call 29; refine (cap_any _ _ _ _ _ A8).mono ?_; rintro e w' ⟨rfl, rfl⟩))
        go_ret
        exact ⟨rfl, Chg.below (Below.refl _ _) D8 (by simp) (Nat.le_refl _)⟩

theorem vacates_law (n : Int) (a0 : Option Addr) (len cap : Nat) (acts : List ActD) (w : World) (_ : (Lit.int .i64 n).wf = true) (hl : len ≤ maxLen) (h : ActsAt w a0 len acts) :
    Calls Try.prog 7 #[.int .i64 n, .slice a0 len cap] w fun e w' => e = .returned (.bool true) ∧ Below w.heap.size w w' := vacates_walk n a0 len cap acts w hl h
end Go.Proofs.Ytghefhhgckafdaa
