/-
  QueuePeeks: what is peeked is what is popped next. The walk.
-/
import Derived.Test.YtaddnhdfdpaieaaWords
namespace Go.Proofs.Ytaddnhdfdpaieaa
set_option linter.unusedVariables false
open Go.RowKit

set_option maxRecDepth 100000 in
set_option maxHeartbeats 4000000 in
theorem queuePeeks_walk (a0 : Option Addr) (len cap : Nat) (zs : List Int) (w : World) (hr : IsRow .u64 w a0 len cap zs) :
    Calls Try.prog 5 #[.slice a0 len cap] w fun e w' => e = .returned (.bool true) ∧ Below w.heap.size w w' := by
  obtain ⟨hlc, hcm, hzl⟩ := hr.le
  unfold maxLen at hcm
  have hW := hr.words
  generalize (zs.take len).map Int.toNat = ws at hW
  clear hr hzl
  have hf := frombits_run
  have hb := bits_run
  by_cases hbig : 300 < len
  · have hbig' : (300 : Int) < (len : Int) := by omega
    go_enter Try.func5, Try.ntmps5
    go_wp2_with fail
    refine (oNew_any w _ (Chg.refl _ _)).mono ?_
    rintro e w1 ⟨rfl, Q1⟩
    have HQ := Lib.hid Q1
    clear Q1
    go_wp2_with fail
    refine (alive_any _).mono ?_
    rintro e w2' ⟨rfl, C2⟩
    go_wp2_with fail
    refine (alive_any _).mono ?_
    rintro e w3' ⟨rfl, C3⟩
    go_wp2_with fail
    go_ret
    exact ⟨rfl, Chg.below (Below.refl _ _) ((HQ.out.c.trans C2 (U := []) (by simp) (by simp)).trans C3 (U := []) (by simp) (by simp)) (by simp) (Nat.le_refl _)⟩
  · go_enter Try.func5, Try.ntmps5
    go_wp2_with fail
    refine (oNew_any w _ (Chg.refl _ _)).mono ?_
    rintro e w1 ⟨rfl, Q1⟩
    obtain ⟨bQ, hbQ⟩ : ∃ bQ, bQ = w.heap.size := ⟨_, rfl⟩
    rw [← hbQ] at Q1 ⊢
    clear hbQ
    go_wp2_with fail
    refine (alive_any _).mono ?_
    rintro e w2' ⟨rfl, C2⟩
    have Q2 := Q1.chg0 C2
    clear Q1 C2
    have HW := Lib.hid hW
    clear hW
    go_wp2_with fail
    go_loopw [34] (fun i wr => ∃ (k : Nat) (v : Value) (M : List Ele), k ≤ len ∧ i = .int .i64 k ∧ OwnQ w wr bQ v M k ∧ Hid (M.length = k)) (fun i _ => len - (intOf i).toNat)
    case atStart => exact ⟨0, _, [], by omega, rfl, Q2, Lib.hid rfl⟩
    case round =>
      obtain ⟨k, v, M, hk, rfl, hq, hl⟩ := hrel
      by_cases hlt : k < len
      · obtain ⟨b1, b, off, rfl, hc⟩ := (HW.out.chg hq.c).2 k hlt
        generalize ws.getD k 0 = b0 at *
        go_wp2_with fail
        refine (oPush_any w bQ v M k b0 k _ hq (by have := hl.out; omega) b1 (by omega)).mono ?_
        rintro e w3 ⟨rfl, v3, Q3⟩
        go_wp2_with fail
        go_roundw
        case rel => exact ⟨k + 1, v3, _, by omega, by go_num, Q3, Lib.hid (by rw [(insQ_perm _ _ _).length_eq]; simp [hl.out])⟩
        case measure => simp [intOf]; omega
      · obtain rfl : k = len := by omega
        go_wp2_with fail
        obtain ⟨wo, hwo⟩ : ∃ wo : World, wo = wr := ⟨_, rfl⟩
        rw [← hwo] at hq ⊢
        clear hwo
        go_loopw [47] (fun i wr => ∃ (j : Nat) (v : Value) (M : List Ele), j ≤ k ∧ i = .int .i64 j ∧ OwnQ w wr bQ v M k ∧ Hid (M.length = k - j)) (fun i _ => k - (intOf i).toNat)
        case atStart => exact ⟨0, v, M, by omega, rfl, hq, Lib.hid (by rw [hl.out]; omega)⟩
        case round =>
          obtain ⟨j, v, M, hj, rfl, hq, hl⟩ := hrel
          by_cases hlt2 : j < k
          · cases M with
            | nil => have := hl.out; simp at this; omega
            | cons x M' =>
              have hl' := Lib.hid (show (M'.length : Int) + 1 = (k : Int) - (j : Int) by have := hl.out; simp at this; omega)
              have hl2 := Lib.hid (show M'.length = k - (j + 1) by have := hl.out; simp at this; omega)
              go_wp2_with fail
              refine (oPeek_any w bQ v x M' k _ hq).mono ?_
              rintro e w4 ⟨rfl, Q4⟩
              go_wp2_with fail
              refine (oPeek_any w bQ v x M' k _ Q4).mono ?_
              rintro e w5 ⟨rfl, Q5⟩
              go_wp2_with fail
              refine (qLen_any bQ v (x :: M') k _ Q5.q).mono ?_
              rintro e w5' ⟨rfl, rfl⟩
              rw [show ((x :: M').length : Int) = (k : Int) - (j : Int) from by rw [← hl'.out]; simp]
              go_wp2_with fail
              refine (oPop_any w bQ v x M' k _ Q5).mono ?_
              rintro e w6 ⟨rfl, v6, Q6⟩
              go_wp2_with fail
              go_roundw
              case rel => exact ⟨j + 1, v6, M', by omega, by go_num, Q6, Lib.hid hl2.out⟩
              case measure => simp [intOf]; omega
          · obtain rfl : j = k := by omega
            have h0 : M = [] := List.eq_nil_of_length_eq_zero (by rw [hl.out]; omega)
            subst h0
            go_wp2_with fail
            refine (qPeek_none bQ v j _ hq.q).mono ?_
            rintro e w4 ⟨rfl, rfl⟩
            go_wp2_with fail
            go_ret
            exact ⟨rfl, Chg.below (Below.refl _ _) hq.c (by simp) (Nat.le_refl _)⟩
end Go.Proofs.Ytaddnhdfdpaieaa
