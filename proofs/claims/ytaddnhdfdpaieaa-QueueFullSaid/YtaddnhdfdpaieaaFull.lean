/-
  QueueFull: as many numbers as there may be are taken, and not one more. The walk.
-/
import Derived.Test.YtaddnhdfdpaieaaWords
namespace Go.Proofs.Ytaddnhdfdpaieaa
set_option linter.unusedVariables false
open Go.RowKit

/-- A small number as a float's word. -/
def fwN (r : Nat) : Nat := if r = 0 then 0 else if r = 1 then 4607182418800017408 else if r = 2 then 4611686018427387904 else if r = 3 then 4613937818241073152 else if r = 4 then 4616189618054758400 else if r = 5 then 4617315517961601024 else 4618441417868443648

theorem conv_small (k : Nat) : ∃ fb, Wd fb ∧ ∀ w : World, (convert 3 28 (.int .i64 ((k : Int) % 7))).run Try.prog w = .ok (.float .f64 fb) w := by
  have h : (k : Int) % 7 = 0 ∨ (k : Int) % 7 = 1 ∨ (k : Int) % 7 = 2 ∨ (k : Int) % 7 = 3 ∨ (k : Int) % 7 = 4 ∨ (k : Int) % 7 = 5 ∨ (k : Int) % 7 = 6 := by omega
  rcases h with h | h | h | h | h | h | h <;> rw [h]
  · exact ⟨fwN 0, Wd_lit _ (by decide +kernel), fun w => by kernel_rfl⟩
  · exact ⟨fwN 1, Wd_lit _ (by decide +kernel), fun w => by kernel_rfl⟩
  · exact ⟨fwN 2, Wd_lit _ (by decide +kernel), fun w => by kernel_rfl⟩
  · exact ⟨fwN 3, Wd_lit _ (by decide +kernel), fun w => by kernel_rfl⟩
  · exact ⟨fwN 4, Wd_lit _ (by decide +kernel), fun w => by kernel_rfl⟩
  · exact ⟨fwN 5, Wd_lit _ (by decide +kernel), fun w => by kernel_rfl⟩
  · exact ⟨fwN 6, Wd_lit _ (by decide +kernel), fun w => by kernel_rfl⟩

set_option maxRecDepth 100000 in
set_option maxHeartbeats 8000000 in
theorem queueFull_walk (n at_ : Int) (w : World) (h0 : (Lit.int .u8 n).wf = true) (h1 : (Lit.int .u64 at_).wf = true) :
    Calls Try.prog 3 #[.int .u8 n, .int .u64 at_] w fun e w' => e = .returned (.bool true) ∧ Below w.heap.size w w' := by
  have hn : 0 ≤ n ∧ n ≤ 255 := by simpa [Lit.wf, IntKind.min, IntKind.max, IntKind.bits, IntKind.signed] using h0
  obtain ⟨m, rfl⟩ := Int.eq_ofNat_of_zero_le hn.1
  have hm : m ≤ 255 := by omega
  obtain ⟨b, rfl, hbW⟩ := word_of h1
  clear h0 h1 hn
  have hf := frombits_run
  go_enter Try.func3, Try.ntmps3
  go_wp2_with fail
  refine (oNew_any w _ (Chg.refl _ _)).mono ?_
  rintro e w1 ⟨rfl, Q1⟩
  obtain ⟨bQ, hbQ⟩ : ∃ bQ, bQ = w.heap.size := ⟨_, rfl⟩
  rw [← hbQ] at Q1 ⊢
  clear hbQ
  go_wp2_with fail
  refine (alive_any _).mono ?_
  rintro e w2' ⟨rfl, C2⟩
  have Q2 := Q1.chg0 C2
  clear Q1 C2
  go_wp2_with fail
  go_loopw [19] (fun i wr => ∃ (k : Nat) (v : Value) (M : List Ele), k ≤ 4096 ∧ i = .int .i64 k ∧ OwnQ w wr bQ v M k ∧ Hid (M.length = k)) (fun i _ => 4096 - (intOf i).toNat)
  case atStart => exact ⟨0, _, [], by omega, rfl, Q2, Lib.hid rfl⟩
  case round =>
    obtain ⟨k, v, M, hk, rfl, hq, hl⟩ := hrel
    by_cases hlt : k < 4096
    · obtain ⟨fb, hfb, hcv⟩ := conv_small k
      go_wp2_with fail
      refine (oPush_any w bQ v M k fb k _ hq (by have := hl.out; omega) hfb (by omega)).mono ?_
      rintro e w3 ⟨rfl, v3, Q3⟩
      go_wp2_with fail
      go_roundw
      case rel => exact ⟨k + 1, v3, _, by omega, by go_num, Q3, Lib.hid (by rw [(insQ_perm _ _ _).length_eq]; simp [hl.out])⟩
      case measure => simp [intOf]; omega
    · obtain rfl : k = 4096 := by omega
      have Hf := Lib.hid (show 4096 ≤ M.length by rw [hl.out]; exact Nat.le_refl _)
      have HL4 : ((M.length : Nat) : Int) = 4096 := by rw [hl.out]; rfl
      have HL4' := Lib.hid HL4
      clear HL4 hlt hk
      go_wp2_with fail
      refine (qPush_full bQ v M 4096 b 1 _ hq.q Hf.out).mono ?_
      rintro e w3 ⟨rfl, rfl⟩
      go_wp2_with fail
      refine (qLen_any bQ v M 4096 _ hq.q).mono ?_
      rintro e w3 ⟨rfl, rfl⟩
      rw [HL4'.out]
      go_wp2_with fail
      go_loopw [44] (fun i wr => ∃ (k : Nat) (v : Value) (M : List Ele), k ≤ m ∧ i = .int .i64 k ∧ OwnQ w wr bQ v M 4096 ∧ Hid (M.length = 4096 - k)) (fun i _ => m - (intOf i).toNat)
      case atStart => exact ⟨0, _, M, by omega, rfl, hq, Lib.hid hl.out⟩
      case round =>
        obtain ⟨k, v, M, hk, rfl, hq, hl⟩ := hrel
        clear HL4' Hf
        by_cases hlt : k < m
        · cases M with
          | nil => have := hl.out; simp at this; omega
          | cons x M' =>
            have hl2 := Lib.hid (show M'.length = 4096 - (k + 1) by have := hl.out; simp at this; omega)
            go_wp2_with fail
            refine (oPop_any w bQ v x M' _ _ hq).mono ?_
            rintro e w3 ⟨rfl, v3, Q3⟩
            go_wp2_with fail
            go_roundw
            case rel => exact ⟨k + 1, v3, M', by omega, by go_num, Q3, hl2⟩
            case measure => simp [intOf]; omega
        · obtain rfl : k = m := by omega
          clear hlt hk
          go_wp2_with fail
          go_loopw [56] (fun i wr => ∃ (j : Nat) (v : Value) (M : List Ele), j ≤ k ∧ i = .int .i64 j ∧ OwnQ w wr bQ v M (4096 + j) ∧ Hid (M.length = 4096 - k + j)) (fun i _ => k - (intOf i).toNat)
          case atStart => exact ⟨0, _, M, by omega, rfl, hq, Lib.hid hl.out⟩
          case round =>
            obtain ⟨j, v, M, hj, rfl, hq, hl⟩ := hrel
            by_cases hlt : j < k
            · go_wp2_with fail
              refine (oPush_any w bQ v M (4096 + j) b 1 _ hq (by have := hl.out; omega) hbW (by omega)).mono ?_
              rintro e w3 ⟨rfl, v3, Q3⟩
              go_wp2_with fail
              go_roundw
              case rel => exact ⟨j + 1, v3, _, by omega, by go_num, Q3, Lib.hid (by rw [(insQ_perm _ _ _).length_eq]; simp [hl.out]; omega)⟩
              case measure => simp [intOf]; omega
            · obtain rfl : j = k := by omega
              have Hf := Lib.hid (show 4096 ≤ M.length by rw [hl.out]; omega)
              go_wp2_with fail
              refine (qPush_full bQ v M _ b 1 _ hq.q Hf.out).mono ?_
              rintro e w3 ⟨rfl, rfl⟩
              go_wp2_with fail
              go_ret
              exact ⟨rfl, Chg.below (Below.refl _ _) hq.c (by simp) (Nat.le_refl _)⟩
end Go.Proofs.Ytaddnhdfdpaieaa
