import Derived.Test.YtafmnkngjjnpiaaGreatDoorCalm
import Derived.Test.YtafmnkngjjnpiaaGreatDoorTqV
namespace Go.Proofs.YtafmnkngjjnpiaaGreatDoor
set_option linter.unusedVariables false
set_option linter.unusedSimpArgs false
set_option maxRecDepth 100000
open Go.RowKit
def sizeR (c : Int) : Int := if c < 128 then 1 else if 194 ≤ c ∧ c ≤ 223 then 2 else if 224 ≤ c ∧ c ≤ 239 then 3 else if 240 ≤ c ∧ c ≤ 244 then 4 else 0
def secR (a c : Int) : Bool := if a = 224 then decide (160 ≤ c ∧ c ≤ 191) else if a = 237 then decide (128 ≤ c ∧ c ≤ 159) else if a = 240 then decide (144 ≤ c ∧ c ≤ 191) else if a = 244 then decide (128 ≤ c ∧ c ≤ 143) else decide (128 ≤ c ∧ c ≤ 191)
theorem rsize_any (c : Int) (w : World) : Calls Tryz.prog 78 #[.int .u8 c] w fun e w' => e = .returned (.int .i64 (sizeR c)) ∧ w = w' := by
  rcases (show (c < 128) ∨ (128 ≤ c ∧ c < 194) ∨ (194 ≤ c ∧ c ≤ 223) ∨ (224 ≤ c ∧ c ≤ 239) ∨ (240 ≤ c ∧ c ≤ 244) ∨ (245 ≤ c) by omega) with h | h | h | h | h | h
  · have hv : sizeR c = 1 := by unfold sizeR; rw [if_pos (by omega)]
    rw [hv]
    clear hv
    have d0 : (decide (c < 128)) = true := decide_eq_true (by omega)
    have d1 : (decide (194 ≤ c)) = false := decide_eq_false (by omega)
    have d2 : (decide (c ≤ 223)) = true := decide_eq_true (by omega)
    have d3 : (decide (224 ≤ c)) = false := decide_eq_false (by omega)
    have d4 : (decide (c ≤ 239)) = true := decide_eq_true (by omega)
    have d5 : (decide (240 ≤ c)) = false := decide_eq_false (by omega)
    have d6 : (decide (c ≤ 244)) = true := decide_eq_true (by omega)
    go_enter Tryz.func78, Tryz.ntmps78
    go_wp2_with fail
    go_ret
    exact ⟨rfl, rfl⟩
  · have hv : sizeR c = 0 := by unfold sizeR; rw [if_neg (by omega), if_neg (by omega), if_neg (by omega), if_neg (by omega)]
    rw [hv]
    clear hv
    have d0 : (decide (c < 128)) = false := decide_eq_false (by omega)
    have d1 : (decide (194 ≤ c)) = false := decide_eq_false (by omega)
    have d2 : (decide (c ≤ 223)) = true := decide_eq_true (by omega)
    have d3 : (decide (224 ≤ c)) = false := decide_eq_false (by omega)
    have d4 : (decide (c ≤ 239)) = true := decide_eq_true (by omega)
    have d5 : (decide (240 ≤ c)) = false := decide_eq_false (by omega)
    have d6 : (decide (c ≤ 244)) = true := decide_eq_true (by omega)
    go_enter Tryz.func78, Tryz.ntmps78
    go_wp2_with fail
    go_ret
    exact ⟨rfl, rfl⟩
  · have hv : sizeR c = 2 := by unfold sizeR; rw [if_neg (by omega), if_pos (by omega)]
    rw [hv]
    clear hv
    have d0 : (decide (c < 128)) = false := decide_eq_false (by omega)
    have d1 : (decide (194 ≤ c)) = true := decide_eq_true (by omega)
    have d2 : (decide (c ≤ 223)) = true := decide_eq_true (by omega)
    have d3 : (decide (224 ≤ c)) = false := decide_eq_false (by omega)
    have d4 : (decide (c ≤ 239)) = true := decide_eq_true (by omega)
    have d5 : (decide (240 ≤ c)) = false := decide_eq_false (by omega)
    have d6 : (decide (c ≤ 244)) = true := decide_eq_true (by omega)
    go_enter Tryz.func78, Tryz.ntmps78
    go_wp2_with fail
    go_ret
    exact ⟨rfl, rfl⟩
  · have hv : sizeR c = 3 := by unfold sizeR; rw [if_neg (by omega), if_neg (by omega), if_pos (by omega)]
    rw [hv]
    clear hv
    have d0 : (decide (c < 128)) = false := decide_eq_false (by omega)
    have d1 : (decide (194 ≤ c)) = true := decide_eq_true (by omega)
    have d2 : (decide (c ≤ 223)) = false := decide_eq_false (by omega)
    have d3 : (decide (224 ≤ c)) = true := decide_eq_true (by omega)
    have d4 : (decide (c ≤ 239)) = true := decide_eq_true (by omega)
    have d5 : (decide (240 ≤ c)) = false := decide_eq_false (by omega)
    have d6 : (decide (c ≤ 244)) = true := decide_eq_true (by omega)
    go_enter Tryz.func78, Tryz.ntmps78
    go_wp2_with fail
    go_ret
    exact ⟨rfl, rfl⟩
  · have hv : sizeR c = 4 := by unfold sizeR; rw [if_neg (by omega), if_neg (by omega), if_neg (by omega), if_pos (by omega)]
    rw [hv]
    clear hv
    have d0 : (decide (c < 128)) = false := decide_eq_false (by omega)
    have d1 : (decide (194 ≤ c)) = true := decide_eq_true (by omega)
    have d2 : (decide (c ≤ 223)) = false := decide_eq_false (by omega)
    have d3 : (decide (224 ≤ c)) = true := decide_eq_true (by omega)
    have d4 : (decide (c ≤ 239)) = false := decide_eq_false (by omega)
    have d5 : (decide (240 ≤ c)) = true := decide_eq_true (by omega)
    have d6 : (decide (c ≤ 244)) = true := decide_eq_true (by omega)
    go_enter Tryz.func78, Tryz.ntmps78
    go_wp2_with fail
    go_ret
    exact ⟨rfl, rfl⟩
  · have hv : sizeR c = 0 := by unfold sizeR; rw [if_neg (by omega), if_neg (by omega), if_neg (by omega), if_neg (by omega)]
    rw [hv]
    clear hv
    have d0 : (decide (c < 128)) = false := decide_eq_false (by omega)
    have d1 : (decide (194 ≤ c)) = true := decide_eq_true (by omega)
    have d2 : (decide (c ≤ 223)) = false := decide_eq_false (by omega)
    have d3 : (decide (224 ≤ c)) = true := decide_eq_true (by omega)
    have d4 : (decide (c ≤ 239)) = false := decide_eq_false (by omega)
    have d5 : (decide (240 ≤ c)) = true := decide_eq_true (by omega)
    have d6 : (decide (c ≤ 244)) = false := decide_eq_false (by omega)
    go_enter Tryz.func78, Tryz.ntmps78
    go_wp2_with fail
    go_ret
    exact ⟨rfl, rfl⟩
set_option maxHeartbeats 4000000 in
theorem rsecond_any (a c : Int) (w : World) : Calls Tryz.prog 79 #[.int .u8 a, .int .u8 c] w fun e w' => e = .returned (.bool (secR a c)) ∧ w = w' := by
  rcases (show a = 224 ∨ a = 237 ∨ a = 240 ∨ a = 244 ∨ (a ≠ 224 ∧ a ≠ 237 ∧ a ≠ 240 ∧ a ≠ 244) by omega) with rfl | rfl | rfl | rfl | ⟨h1, h2, h3, h4⟩
  · rcases (show c < 160 ∨ (160 ≤ c ∧ c ≤ 191) ∨ 191 < c by omega) with h | h | h
    · have hv : secR 224 c = false := by unfold secR; rw [if_pos rfl]; exact decide_eq_false (by omega)
      rw [hv]
      clear hv
      have d0 : (decide (160 ≤ c)) = false := decide_eq_false (by omega)
      have d1 : (decide (c ≤ 191)) = true := decide_eq_true (by omega)
      go_enter Tryz.func79, Tryz.ntmps79
      go_wp2_with fail
      go_ret
      exact ⟨rfl, rfl⟩
    · have hv : secR 224 c = true := by unfold secR; rw [if_pos rfl]; exact decide_eq_true (by omega)
      rw [hv]
      clear hv
      have d0 : (decide (160 ≤ c)) = true := decide_eq_true (by omega)
      have d1 : (decide (c ≤ 191)) = true := decide_eq_true (by omega)
      go_enter Tryz.func79, Tryz.ntmps79
      go_wp2_with fail
      go_ret
      exact ⟨rfl, rfl⟩
    · have hv : secR 224 c = false := by unfold secR; rw [if_pos rfl]; exact decide_eq_false (by omega)
      rw [hv]
      clear hv
      have d0 : (decide (160 ≤ c)) = true := decide_eq_true (by omega)
      have d1 : (decide (c ≤ 191)) = false := decide_eq_false (by omega)
      go_enter Tryz.func79, Tryz.ntmps79
      go_wp2_with fail
      go_ret
      exact ⟨rfl, rfl⟩
  · rcases (show c < 128 ∨ (128 ≤ c ∧ c ≤ 159) ∨ 159 < c by omega) with h | h | h
    · have hv : secR 237 c = false := by unfold secR; rw [if_neg (by omega), if_pos rfl]; exact decide_eq_false (by omega)
      rw [hv]
      clear hv
      have d0 : (decide (128 ≤ c)) = false := decide_eq_false (by omega)
      have d1 : (decide (c ≤ 159)) = true := decide_eq_true (by omega)
      go_enter Tryz.func79, Tryz.ntmps79
      go_wp2_with fail
      go_ret
      exact ⟨rfl, rfl⟩
    · have hv : secR 237 c = true := by unfold secR; rw [if_neg (by omega), if_pos rfl]; exact decide_eq_true (by omega)
      rw [hv]
      clear hv
      have d0 : (decide (128 ≤ c)) = true := decide_eq_true (by omega)
      have d1 : (decide (c ≤ 159)) = true := decide_eq_true (by omega)
      go_enter Tryz.func79, Tryz.ntmps79
      go_wp2_with fail
      go_ret
      exact ⟨rfl, rfl⟩
    · have hv : secR 237 c = false := by unfold secR; rw [if_neg (by omega), if_pos rfl]; exact decide_eq_false (by omega)
      rw [hv]
      clear hv
      have d0 : (decide (128 ≤ c)) = true := decide_eq_true (by omega)
      have d1 : (decide (c ≤ 159)) = false := decide_eq_false (by omega)
      go_enter Tryz.func79, Tryz.ntmps79
      go_wp2_with fail
      go_ret
      exact ⟨rfl, rfl⟩
  · rcases (show c < 144 ∨ (144 ≤ c ∧ c ≤ 191) ∨ 191 < c by omega) with h | h | h
    · have hv : secR 240 c = false := by unfold secR; rw [if_neg (by omega), if_neg (by omega), if_pos rfl]; exact decide_eq_false (by omega)
      rw [hv]
      clear hv
      have d0 : (decide (144 ≤ c)) = false := decide_eq_false (by omega)
      have d1 : (decide (c ≤ 191)) = true := decide_eq_true (by omega)
      go_enter Tryz.func79, Tryz.ntmps79
      go_wp2_with fail
      go_ret
      exact ⟨rfl, rfl⟩
    · have hv : secR 240 c = true := by unfold secR; rw [if_neg (by omega), if_neg (by omega), if_pos rfl]; exact decide_eq_true (by omega)
      rw [hv]
      clear hv
      have d0 : (decide (144 ≤ c)) = true := decide_eq_true (by omega)
      have d1 : (decide (c ≤ 191)) = true := decide_eq_true (by omega)
      go_enter Tryz.func79, Tryz.ntmps79
      go_wp2_with fail
      go_ret
      exact ⟨rfl, rfl⟩
    · have hv : secR 240 c = false := by unfold secR; rw [if_neg (by omega), if_neg (by omega), if_pos rfl]; exact decide_eq_false (by omega)
      rw [hv]
      clear hv
      have d0 : (decide (144 ≤ c)) = true := decide_eq_true (by omega)
      have d1 : (decide (c ≤ 191)) = false := decide_eq_false (by omega)
      go_enter Tryz.func79, Tryz.ntmps79
      go_wp2_with fail
      go_ret
      exact ⟨rfl, rfl⟩
  · rcases (show c < 128 ∨ (128 ≤ c ∧ c ≤ 143) ∨ 143 < c by omega) with h | h | h
    · have hv : secR 244 c = false := by unfold secR; rw [if_neg (by omega), if_neg (by omega), if_neg (by omega), if_pos rfl]; exact decide_eq_false (by omega)
      rw [hv]
      clear hv
      have d0 : (decide (128 ≤ c)) = false := decide_eq_false (by omega)
      have d1 : (decide (c ≤ 143)) = true := decide_eq_true (by omega)
      go_enter Tryz.func79, Tryz.ntmps79
      go_wp2_with fail
      go_ret
      exact ⟨rfl, rfl⟩
    · have hv : secR 244 c = true := by unfold secR; rw [if_neg (by omega), if_neg (by omega), if_neg (by omega), if_pos rfl]; exact decide_eq_true (by omega)
      rw [hv]
      clear hv
      have d0 : (decide (128 ≤ c)) = true := decide_eq_true (by omega)
      have d1 : (decide (c ≤ 143)) = true := decide_eq_true (by omega)
      go_enter Tryz.func79, Tryz.ntmps79
      go_wp2_with fail
      go_ret
      exact ⟨rfl, rfl⟩
    · have hv : secR 244 c = false := by unfold secR; rw [if_neg (by omega), if_neg (by omega), if_neg (by omega), if_pos rfl]; exact decide_eq_false (by omega)
      rw [hv]
      clear hv
      have d0 : (decide (128 ≤ c)) = true := decide_eq_true (by omega)
      have d1 : (decide (c ≤ 143)) = false := decide_eq_false (by omega)
      go_enter Tryz.func79, Tryz.ntmps79
      go_wp2_with fail
      go_ret
      exact ⟨rfl, rfl⟩
  · rcases (show c < 128 ∨ (128 ≤ c ∧ c ≤ 191) ∨ 191 < c by omega) with h | h | h
    · have hv : secR a c = false := by unfold secR; rw [if_neg (by omega), if_neg (by omega), if_neg (by omega), if_neg (by omega)]; exact decide_eq_false (by omega)
      rw [hv]
      clear hv
      have d0 : (decide (128 ≤ c)) = false := decide_eq_false (by omega)
      have d1 : (decide (c ≤ 191)) = true := decide_eq_true (by omega)
      go_enter Tryz.func79, Tryz.ntmps79
      go_wp2_with fail
      go_ret
      exact ⟨rfl, rfl⟩
    · have hv : secR a c = true := by unfold secR; rw [if_neg (by omega), if_neg (by omega), if_neg (by omega), if_neg (by omega)]; exact decide_eq_true (by omega)
      rw [hv]
      clear hv
      have d0 : (decide (128 ≤ c)) = true := decide_eq_true (by omega)
      have d1 : (decide (c ≤ 191)) = true := decide_eq_true (by omega)
      go_enter Tryz.func79, Tryz.ntmps79
      go_wp2_with fail
      go_ret
      exact ⟨rfl, rfl⟩
    · have hv : secR a c = false := by unfold secR; rw [if_neg (by omega), if_neg (by omega), if_neg (by omega), if_neg (by omega)]; exact decide_eq_false (by omega)
      rw [hv]
      clear hv
      have d0 : (decide (128 ≤ c)) = true := decide_eq_true (by omega)
      have d1 : (decide (c ≤ 191)) = false := decide_eq_false (by omega)
      go_enter Tryz.func79, Tryz.ntmps79
      go_wp2_with fail
      go_ret
      exact ⟨rfl, rfl⟩
theorem rfine_any (c : Int) (w : World) : Calls Tryz.prog 82 #[.int .i64 c] w fun e w' => e = .returned (.bool (okU c)) ∧ w = w' := by
  rcases (show c < 0 ∨ (0 ≤ c ∧ c < 55296) ∨ (55296 ≤ c ∧ c ≤ 57343) ∨ (57343 < c ∧ c ≤ 1114111) ∨ 1114111 < c by omega) with h | h | h | h | h
  · have hv : okU c = false := by unfold okU; exact decide_eq_false (by omega)
    rw [hv]
    clear hv
    have d0 : (decide (0 ≤ c)) = false := decide_eq_false (by omega)
    have d1 : (decide (c ≤ 1114111)) = true := decide_eq_true (by omega)
    have d2 : (decide (55296 ≤ c)) = false := decide_eq_false (by omega)
    have d3 : (decide (c ≤ 57343)) = true := decide_eq_true (by omega)
    go_enter Tryz.func82, Tryz.ntmps82
    go_wp2_with fail
    go_ret
    exact ⟨rfl, rfl⟩
  · have hv : okU c = true := by unfold okU; exact decide_eq_true (by omega)
    rw [hv]
    clear hv
    have d0 : (decide (0 ≤ c)) = true := decide_eq_true (by omega)
    have d1 : (decide (c ≤ 1114111)) = true := decide_eq_true (by omega)
    have d2 : (decide (55296 ≤ c)) = false := decide_eq_false (by omega)
    have d3 : (decide (c ≤ 57343)) = true := decide_eq_true (by omega)
    go_enter Tryz.func82, Tryz.ntmps82
    go_wp2_with fail
    go_ret
    exact ⟨rfl, rfl⟩
  · have hv : okU c = false := by unfold okU; exact decide_eq_false (by omega)
    rw [hv]
    clear hv
    have d0 : (decide (0 ≤ c)) = true := decide_eq_true (by omega)
    have d1 : (decide (c ≤ 1114111)) = true := decide_eq_true (by omega)
    have d2 : (decide (55296 ≤ c)) = true := decide_eq_true (by omega)
    have d3 : (decide (c ≤ 57343)) = true := decide_eq_true (by omega)
    go_enter Tryz.func82, Tryz.ntmps82
    go_wp2_with fail
    go_ret
    exact ⟨rfl, rfl⟩
  · have hv : okU c = true := by unfold okU; exact decide_eq_true (by omega)
    rw [hv]
    clear hv
    have d0 : (decide (0 ≤ c)) = true := decide_eq_true (by omega)
    have d1 : (decide (c ≤ 1114111)) = true := decide_eq_true (by omega)
    have d2 : (decide (55296 ≤ c)) = true := decide_eq_true (by omega)
    have d3 : (decide (c ≤ 57343)) = false := decide_eq_false (by omega)
    go_enter Tryz.func82, Tryz.ntmps82
    go_wp2_with fail
    go_ret
    exact ⟨rfl, rfl⟩
  · have hv : okU c = false := by unfold okU; exact decide_eq_false (by omega)
    rw [hv]
    clear hv
    have d0 : (decide (0 ≤ c)) = true := decide_eq_true (by omega)
    have d1 : (decide (c ≤ 1114111)) = false := decide_eq_false (by omega)
    have d2 : (decide (55296 ≤ c)) = true := decide_eq_true (by omega)
    have d3 : (decide (c ≤ 57343)) = false := decide_eq_false (by omega)
    go_enter Tryz.func82, Tryz.ntmps82
    go_wp2_with fail
    go_ret
    exact ⟨rfl, rfl⟩
theorem rprintable_any (c : Int) (w : World) : Calls Tryz.prog 53 #[.int .i64 c] w fun e w' => e = .returned (.bool (shownU c)) ∧ w = w' := by
  have HF := Lib.hid (rfine_any c w)
  have hs : shownU c = (okU c && decide (32 ≤ c) && (decide (c < 127) || decide (159 < c))) := rfl
  cases hok : okU c with
  | false =>
    rw [hok] at hs HF
    have hv : shownU c = false := by rw [hs]; rfl
    rw [hv]
    clear hv hs hok
    go_enter Tryz.func53, Tryz.ntmps53
    go_wp2_with fail
    refine (HF.out).mono ?_
    rintro e w2 ⟨rfl, rfl⟩
    go_wp2_with fail
    go_ret
    exact ⟨rfl, rfl⟩
  | true =>
    rw [hok] at hs HF
    clear hok
    rcases (show c < 32 ∨ (32 ≤ c ∧ c < 127) ∨ (127 ≤ c ∧ c ≤ 159) ∨ 159 < c by omega) with h | h | h | h
    · have hv : shownU c = false := by rw [hs]; simp; omega
      rw [hv]
      clear hv hs
      have d0 : (decide (32 ≤ c)) = false := decide_eq_false (by omega)
      have d1 : (decide (127 ≤ c)) = false := decide_eq_false (by omega)
      have d2 : (decide (c ≤ 159)) = true := decide_eq_true (by omega)
      go_enter Tryz.func53, Tryz.ntmps53
      go_wp2_with fail
      refine (HF.out).mono ?_
      rintro e w2 ⟨rfl, rfl⟩
      go_wp2_with fail
      go_ret
      exact ⟨rfl, rfl⟩
    · have hv : shownU c = true := by rw [hs]; simp; omega
      rw [hv]
      clear hv hs
      have d0 : (decide (32 ≤ c)) = true := decide_eq_true (by omega)
      have d1 : (decide (127 ≤ c)) = false := decide_eq_false (by omega)
      have d2 : (decide (c ≤ 159)) = true := decide_eq_true (by omega)
      go_enter Tryz.func53, Tryz.ntmps53
      go_wp2_with fail
      refine (HF.out).mono ?_
      rintro e w2 ⟨rfl, rfl⟩
      go_wp2_with fail
      go_ret
      exact ⟨rfl, rfl⟩
    · have hv : shownU c = false := by rw [hs]; simp; omega
      rw [hv]
      clear hv hs
      have d0 : (decide (32 ≤ c)) = true := decide_eq_true (by omega)
      have d1 : (decide (127 ≤ c)) = true := decide_eq_true (by omega)
      have d2 : (decide (c ≤ 159)) = true := decide_eq_true (by omega)
      go_enter Tryz.func53, Tryz.ntmps53
      go_wp2_with fail
      refine (HF.out).mono ?_
      rintro e w2 ⟨rfl, rfl⟩
      go_wp2_with fail
      go_ret
      exact ⟨rfl, rfl⟩
    · have hv : shownU c = true := by rw [hs]; simp; omega
      rw [hv]
      clear hv hs
      have d0 : (decide (32 ≤ c)) = true := decide_eq_true (by omega)
      have d1 : (decide (127 ≤ c)) = true := decide_eq_true (by omega)
      have d2 : (decide (c ≤ 159)) = false := decide_eq_false (by omega)
      go_enter Tryz.func53, Tryz.ntmps53
      go_wp2_with fail
      refine (HF.out).mono ?_
      rintro e w2 ⟨rfl, rfl⟩
      go_wp2_with fail
      go_ret
      exact ⟨rfl, rfl⟩
end Go.Proofs.YtafmnkngjjnpiaaGreatDoor

namespace Go.Proofs.YtafmnkngjjnpiaaGreatDoor
set_option linter.unusedVariables false
set_option linter.unusedSimpArgs false
set_option maxRecDepth 100000
open Go.RowKit
def badR (l : List Int) (i : Nat) : Bool := if i = 1 then !secR (l.getD 0 0) (l.getD 1 0) else decide (l.getD i 0 < 128) || decide (191 < l.getD i 0)
def refL (l : List Int) (n : Nat) : Nat → Nat → Int → Int × Nat × Int
  | 0, _, c => (c, n, 0)
  | f + 1, i, c => if i = l.length then (0, i, 7) else if badR l i = true then (0, i, 8) else refL l n f (i + 1) (64 * c + l.getD i 0 - 128)
def remR (n : Int) (a : Int) : Int := if n = 2 then a % 32 else if n = 3 then a % 16 else a % 8
def refN (l : List Int) : Int × Nat × Int :=
  if l.length = 0 then (0, 0, 6)
  else if sizeR (l.getD 0 0) = 0 then (0, 1, 8)
  else if sizeR (l.getD 0 0) = 1 then (l.getD 0 0, 1, 0)
  else refL l (sizeR (l.getD 0 0)).toNat ((sizeR (l.getD 0 0)).toNat - 1) 1 (remR (sizeR (l.getD 0 0)) (l.getD 0 0))
def RNextPost (R : Int × Nat × Int) (w : World) (e : Ending) (w' : World) : Prop := e = .returned (.tuple #[.int .i64 R.1, .int .i64 (R.2.1 : Nat), .int .i64 R.2.2]) ∧ Chg [] w w'
theorem cell_byte {w : World} {ao : Option Addr} {n c : Nat} {l : List Int} (h : SrcAt w ao n c (valsOf .u8 l)) {g off : Nat} (e : ao = some ⟨g, off, none⟩) {j : Nat} (hj : j < n) : w.cell? ⟨g, off + j, none⟩ = some (.int .u8 (l.getD j 0)) := by
  obtain ⟨g', off', e', h'⟩ := h.int hj
  rw [e] at e'
  injection e' with e'
  injection e' with e1 e2
  subst e1 e2
  exact h'
theorem byte_at {l : List Int} {n : Nat} (hb : ByR l) (hl : l.length = n) {j : Nat} (hj : j < n) : 0 ≤ l.getD j 0 ∧ l.getD j 0 < 256 := by
  rw [List.getD_eq_getElem?_getD, List.getElem?_eq_getElem (by omega)]
  exact hb _ (List.getElem_mem _)
theorem sec_in {a b : Int} (h : secR a b = true) : 128 ≤ b ∧ b ≤ 191 := by
  unfold secR at h
  split at h
  · have := of_decide_eq_true h; omega
  · split at h
    · have := of_decide_eq_true h; omega
    · split at h
      · have := of_decide_eq_true h; omega
      · split at h
        · have := of_decide_eq_true h; omega
        · exact of_decide_eq_true h
set_option maxHeartbeats 16000000 in
theorem rnext_loop (g off n c N : Nat) (l : List Int) (w : World) (h : SrcAt w (some ⟨g, off, none⟩) n c (valsOf .u8 l)) (hb : ByR l) (hn : n ≤ 140737488355328) (h1 : 0 < n) (hN : sizeR (l.getD 0 0) = (N : Int)) (h2 : 2 ≤ N) (h4 : N ≤ 4) :
    Calls Tryz.prog 49 #[.slice (some ⟨g, off, none⟩) n c] w (RNextPost (refN l) w) := by
  have hl : l.length = n := h.len
  have hR : refN l = refL l N (N - 1) 1 (remR (N : Int) (l.getD 0 0)) := by
    unfold refN
    rw [hN, if_neg (by omega), if_neg (by omega), if_neg (by omega)]
    rfl
  rw [hR]
  have x0 : w.cell? ⟨g, off, none⟩ = some (.int .u8 (l.getD 0 0)) := cell_byte h rfl h1
  have HZ := Lib.hid (rsize_any (l.getD 0 0) w)
  rw [hN] at HZ
  have b0 : 0 ≤ l.getD 0 0 ∧ l.getD 0 0 < 256 := byte_at hb hl h1
  have HS := Lib.hid (And.intro h (And.intro hb hl))
  obtain ⟨a, ha⟩ : ∃ a, l.getD 0 0 = a := ⟨_, rfl⟩
  rw [ha] at x0 HZ b0 ⊢
  have HA := Lib.hid ha
  have hwr : wrap64 a = a := by unfold wrap64; omega
  clear h hb hl hR hN ha
  obtain ⟨R, hRR⟩ : ∃ R, R = refL l N (N - 1) 1 (remR (N : Int) a) := ⟨_, rfl⟩
  rw [← hRR]
  have HR := Lib.hid hRR.symm
  have HB := Lib.hid b0
  clear hRR b0
  go_enter Tryz.func49, Tryz.ntmps49
  go_wp2_with fail
  refine (HZ.out).mono ?_
  rintro e w2 ⟨rfl, rfl⟩
  rcases (show N = 2 ∨ N = 3 ∨ N = 4 by omega) with rfl | rfl | rfl
  · go_wp2_with fail
    go_loopw [6, 7] (fun cc i wr => ∃ (k : Nat) (c : Int), i = .int .i64 k ∧ cc = .int .i64 c ∧ 1 ≤ k ∧ k ≤ 2 ∧ 0 ≤ c ∧ (k = 1 → c < 32) ∧ (k = 2 → c < 2048) ∧ (k = 3 → c < 131072) ∧ k ≤ n ∧ refL l 2 (2 - k) k c = R ∧ Chg [] w wr) (fun _ i _ => 2 - (intOf i).toNat)
    case atStart =>
      have hb := HB.out
      have em : a.tmod 32 = a % 32 := Int.tmod_eq_emod_of_nonneg hb.1
      exact ⟨1, _, rfl, rfl, Nat.le_refl _, by omega, by omega, fun _ => by omega, fun h => by omega, fun h => by omega, h1, by rw [em]; exact HR.out, Chg.refl _ _⟩
    case round =>
      obtain ⟨k, cc, rfl, rfl, hk1, hk2, hc0, hc1, hc2, hc3, hkn, hRk, hc⟩ := hrel
      have HRk := Lib.hid hRk
      have HC := Lib.hid hc
      clear hRk hc
      rcases Nat.lt_or_ge k 2 with hlt | hge
      · rcases Nat.lt_or_ge k n with hkl | hkl
        · have hs := HS.out
          have hS := hs.1.chg0 HC.out
          have z0 : wr.cell? ⟨g, off, none⟩ = some (.int .u8 a) := by rw [← HA.out]; exact cell_byte hS rfl h1
          have zk : wr.cell? ⟨g, off + k, none⟩ = some (.int .u8 (l.getD k 0)) := cell_byte hS rfl hkl
          have bk : 0 ≤ l.getD k 0 ∧ l.getD k 0 < 256 := byte_at hs.2.1 hs.2.2 hkl
          have hrk := HRk.out
          rw [show 2 - k = (2 - (k + 1)) + 1 by omega] at hrk
          unfold refL at hrk
          rw [if_neg (by rw [hs.2.2]; omega)] at hrk
          obtain ⟨b, hbk⟩ : ∃ b, l.getD k 0 = b := ⟨_, rfl⟩
          rw [hbk] at zk bk
          have hwb : wrap64 b = b := by unfold wrap64; omega
          have g0 : ∀ m : Calm wr, m.w.cell? ⟨g, off, none⟩ = some (.int .u8 a) := fun m => m.c.cell z0 (by simp)
          have gk : ∀ m : Calm wr, m.w.cell? ⟨g, off + k, none⟩ = some (.int .u8 b) := fun m => m.c.cell zk (by simp)
          by_cases hk : k = 1
          · subst hk
            have hbad : badR l 1 = !secR a b := by unfold badR; rw [if_pos rfl, HA.out, hbk]
            cases hsec : secR a b with
            | false =>
              rw [hbad, hsec, if_pos (show (!false) = true from rfl)] at hrk
              have HF := Lib.hid hrk
              clear hrk hs hS hbad HRk HR HA hbk
              have hsc : ∀ m : Calm wr, Calls Tryz.prog 79 #[.int .u8 a, .int .u8 b] m.w fun e w' => e = .returned (.bool false) ∧ m.w = w' := fun m => by rw [← hsec]; exact rsecond_any a b m.w
              clear hsec
              go_upto_region 18 with (fail)
              refine wp_region_calm (by kernel_rfl) (by kernel_rfl) ?_
              repeat (go_big_quiet_step ((first
                | (go_at_call 79; exact calm_same (hsc _))
                | fail)))
              refine wpQuiet_nil ?_
              intro w' hw'
              obtain ⟨⟨w4, C4⟩, rfl⟩ := hw'
              go_wp2_with fail
              have hf := HF.out
              subst hf
              refine ⟨rfl, _, by simp [results, Tryz.results49, go_sem] <;> rfl, ?_⟩
              exact ⟨rfl, HC.out.trans C4 (U := []) (by simp) (by simp)⟩
            | true =>
              rw [hbad, hsec, if_neg (show ¬ (!true) = true by decide)] at hrk
              rw [hbk] at hrk
              have HF := Lib.hid hrk
              clear hrk hs hS hbad HRk HR HA hbk
              have hsc : ∀ m : Calm wr, Calls Tryz.prog 79 #[.int .u8 a, .int .u8 b] m.w fun e w' => e = .returned (.bool true) ∧ m.w = w' := fun m => by rw [← hsec]; exact rsecond_any a b m.w
              have HSB : Hid (128 ≤ b ∧ b ≤ 191) := Lib.hid (sec_in hsec)
              clear hsec
              go_upto_region 18 with (fail)
              refine wp_region_calm (by kernel_rfl) (by kernel_rfl) ?_
              repeat (go_big_quiet_step ((first
                | (go_at_call 79; exact calm_same (hsc _))
                | fail)))
              refine wpQuiet_nil ?_
              intro w' hw'
              obtain ⟨⟨w4, C4⟩, rfl⟩ := hw'
              have zk4 := C4.cell zk (by simp)
              have q0 : wrap64 (64 * cc) = 64 * cc := by unfold wrap64; have := hc1 rfl; omega
              have q1 : wrap64 (64 * cc + b) = 64 * cc + b := by unfold wrap64; have := hc1 rfl; omega
              have q2 : wrap64 (64 * cc + b - 128) = 64 * cc + b - 128 := by unfold wrap64; have := hc1 rfl; omega
              go_wp2_with fail
              have hsb := HSB.out
              refine ⟨⟨2, _, rfl, rfl, by omega, by omega, by omega, fun h => by omega, fun _ => by have := hc1 rfl; omega, fun h => by omega, hkl, HF.out, HC.out.trans C4 (U := []) (by simp) (by simp)⟩, ?_⟩
              show 2 - 2 < 2 - 1
              omega
          · exfalso; omega
        · have hs := HS.out
          have ek : k = n := by omega
          have hrk := HRk.out
          rw [show 2 - k = (2 - (k + 1)) + 1 by omega] at hrk
          unfold refL at hrk
          rw [if_pos (by rw [hs.2.2]; exact ek)] at hrk
          have HF := Lib.hid hrk
          clear hrk hs HRk HR HA
          subst ek
          go_wp2_with fail
          have hf := HF.out
          subst hf
          refine ⟨rfl, _, by simp [results, Tryz.results49, go_sem] <;> rfl, ?_⟩
          exact ⟨rfl, HC.out⟩
      · have ek : k = 2 := by omega
        subst ek
        have hrk := HRk.out
        have HF := Lib.hid hrk
        clear hrk HRk HR HA
        go_wp2_with fail
        have hf := HF.out
        have hf2 : (cc, 2, 0) = R := hf
        subst hf2
        refine ⟨rfl, _, by simp [results, Tryz.results49, go_sem] <;> rfl, ?_⟩
        exact ⟨rfl, HC.out⟩
  · go_wp2_with fail
    go_loopw [6, 7] (fun cc i wr => ∃ (k : Nat) (c : Int), i = .int .i64 k ∧ cc = .int .i64 c ∧ 1 ≤ k ∧ k ≤ 3 ∧ 0 ≤ c ∧ (k = 1 → c < 32) ∧ (k = 2 → c < 2048) ∧ (k = 3 → c < 131072) ∧ k ≤ n ∧ refL l 3 (3 - k) k c = R ∧ Chg [] w wr) (fun _ i _ => 3 - (intOf i).toNat)
    case atStart =>
      have hb := HB.out
      have em : a.tmod 16 = a % 16 := Int.tmod_eq_emod_of_nonneg hb.1
      exact ⟨1, _, rfl, rfl, Nat.le_refl _, by omega, by omega, fun _ => by omega, fun h => by omega, fun h => by omega, h1, by rw [em]; exact HR.out, Chg.refl _ _⟩
    case round =>
      obtain ⟨k, cc, rfl, rfl, hk1, hk2, hc0, hc1, hc2, hc3, hkn, hRk, hc⟩ := hrel
      have HRk := Lib.hid hRk
      have HC := Lib.hid hc
      clear hRk hc
      rcases Nat.lt_or_ge k 3 with hlt | hge
      · rcases Nat.lt_or_ge k n with hkl | hkl
        · have hs := HS.out
          have hS := hs.1.chg0 HC.out
          have z0 : wr.cell? ⟨g, off, none⟩ = some (.int .u8 a) := by rw [← HA.out]; exact cell_byte hS rfl h1
          have zk : wr.cell? ⟨g, off + k, none⟩ = some (.int .u8 (l.getD k 0)) := cell_byte hS rfl hkl
          have bk : 0 ≤ l.getD k 0 ∧ l.getD k 0 < 256 := byte_at hs.2.1 hs.2.2 hkl
          have hrk := HRk.out
          rw [show 3 - k = (3 - (k + 1)) + 1 by omega] at hrk
          unfold refL at hrk
          rw [if_neg (by rw [hs.2.2]; omega)] at hrk
          obtain ⟨b, hbk⟩ : ∃ b, l.getD k 0 = b := ⟨_, rfl⟩
          rw [hbk] at zk bk
          have hwb : wrap64 b = b := by unfold wrap64; omega
          have g0 : ∀ m : Calm wr, m.w.cell? ⟨g, off, none⟩ = some (.int .u8 a) := fun m => m.c.cell z0 (by simp)
          have gk : ∀ m : Calm wr, m.w.cell? ⟨g, off + k, none⟩ = some (.int .u8 b) := fun m => m.c.cell zk (by simp)
          by_cases hk : k = 1
          · subst hk
            have hbad : badR l 1 = !secR a b := by unfold badR; rw [if_pos rfl, HA.out, hbk]
            cases hsec : secR a b with
            | false =>
              rw [hbad, hsec, if_pos (show (!false) = true from rfl)] at hrk
              have HF := Lib.hid hrk
              clear hrk hs hS hbad HRk HR HA hbk
              have hsc : ∀ m : Calm wr, Calls Tryz.prog 79 #[.int .u8 a, .int .u8 b] m.w fun e w' => e = .returned (.bool false) ∧ m.w = w' := fun m => by rw [← hsec]; exact rsecond_any a b m.w
              clear hsec
              go_upto_region 18 with (fail)
              refine wp_region_calm (by kernel_rfl) (by kernel_rfl) ?_
              repeat (go_big_quiet_step ((first
                | (go_at_call 79; exact calm_same (hsc _))
                | fail)))
              refine wpQuiet_nil ?_
              intro w' hw'
              obtain ⟨⟨w4, C4⟩, rfl⟩ := hw'
              go_wp2_with fail
              have hf := HF.out
              subst hf
              refine ⟨rfl, _, by simp [results, Tryz.results49, go_sem] <;> rfl, ?_⟩
              exact ⟨rfl, HC.out.trans C4 (U := []) (by simp) (by simp)⟩
            | true =>
              rw [hbad, hsec, if_neg (show ¬ (!true) = true by decide)] at hrk
              rw [hbk] at hrk
              have HF := Lib.hid hrk
              clear hrk hs hS hbad HRk HR HA hbk
              have hsc : ∀ m : Calm wr, Calls Tryz.prog 79 #[.int .u8 a, .int .u8 b] m.w fun e w' => e = .returned (.bool true) ∧ m.w = w' := fun m => by rw [← hsec]; exact rsecond_any a b m.w
              have HSB : Hid (128 ≤ b ∧ b ≤ 191) := Lib.hid (sec_in hsec)
              clear hsec
              go_upto_region 18 with (fail)
              refine wp_region_calm (by kernel_rfl) (by kernel_rfl) ?_
              repeat (go_big_quiet_step ((first
                | (go_at_call 79; exact calm_same (hsc _))
                | fail)))
              refine wpQuiet_nil ?_
              intro w' hw'
              obtain ⟨⟨w4, C4⟩, rfl⟩ := hw'
              have zk4 := C4.cell zk (by simp)
              have q0 : wrap64 (64 * cc) = 64 * cc := by unfold wrap64; have := hc1 rfl; omega
              have q1 : wrap64 (64 * cc + b) = 64 * cc + b := by unfold wrap64; have := hc1 rfl; omega
              have q2 : wrap64 (64 * cc + b - 128) = 64 * cc + b - 128 := by unfold wrap64; have := hc1 rfl; omega
              go_wp2_with fail
              have hsb := HSB.out
              refine ⟨⟨2, _, rfl, rfl, by omega, by omega, by omega, fun h => by omega, fun _ => by have := hc1 rfl; omega, fun h => by omega, hkl, HF.out, HC.out.trans C4 (U := []) (by simp) (by simp)⟩, ?_⟩
              show 3 - 2 < 3 - 1
              omega
          · have hbad : badR l k = (decide (b < 128) || decide (191 < b)) := by unfold badR; rw [if_neg hk, hbk]
            have hk2b : 1 < k := by omega
            have e2 : decide ((1 : Int) < (k : Int)) = true := decide_eq_true (by omega)
            have e1 : ((k : Int) == 1) = false := beq_eq_false_iff_ne.2 (by omega)
            have hsc : ∀ m : Calm wr, Calls Tryz.prog 79 #[.int .u8 a, .int .u8 b] m.w fun e w' => e = .returned (.bool (secR a b)) ∧ m.w = w' := fun m => rsecond_any a b m.w
            rcases (show b < 128 ∨ (128 ≤ b ∧ b ≤ 191) ∨ 191 < b by omega) with hb1 | hb1 | hb1
            · have d0 : decide (b < 128) = true := decide_eq_true hb1
              rw [hbad, d0, if_pos (show (true || _) = true from rfl)] at hrk
              have HF := Lib.hid hrk
              clear hrk hs hS hbad HRk HR HA hbk hb1
              go_upto_region 18 with (fail)
              refine wp_region_calm (by kernel_rfl) (by kernel_rfl) ?_
              repeat (go_big_quiet_step ((first
                | (go_at_call 79; exact calm_same (hsc _))
                | fail)))
              refine wpQuiet_nil ?_
              intro w' hw'
              obtain ⟨⟨w4, C4⟩, rfl⟩ := hw'
              go_wp2_with fail
              have hf := HF.out
              subst hf
              refine ⟨rfl, _, by simp [results, Tryz.results49, go_sem] <;> rfl, ?_⟩
              exact ⟨rfl, HC.out.trans C4 (U := []) (by simp) (by simp)⟩
            · have d0 : decide (b < 128) = false := decide_eq_false (by omega)
              have d1 : decide (191 < b) = false := decide_eq_false (by omega)
              rw [hbad, d0, d1, if_neg (show ¬ (false || false) = true by decide), hbk] at hrk
              have HF := Lib.hid hrk
              have HSB := Lib.hid hb1
              clear hrk hs hS hbad HRk HR HA hbk hb1
              go_upto_region 18 with (fail)
              refine wp_region_calm (by kernel_rfl) (by kernel_rfl) ?_
              repeat (go_big_quiet_step ((first
                | (go_at_call 79; exact calm_same (hsc _))
                | fail)))
              refine wpQuiet_nil ?_
              intro w' hw'
              obtain ⟨⟨w4, C4⟩, rfl⟩ := hw'
              have zk4 := C4.cell zk (by simp)
              have hcc : cc < 131072 := by
                have k2 := hc2
                have k3 := hc3
                rcases (show k = 2 ∨ k = 3 by omega) with h | h
                · have := k2 h
                  omega
                · exact k3 h
              have q0 : wrap64 (64 * cc) = 64 * cc := by unfold wrap64; omega
              have q1 : wrap64 (64 * cc + b) = 64 * cc + b := by unfold wrap64; omega
              have q2 : wrap64 (64 * cc + b - 128) = 64 * cc + b - 128 := by unfold wrap64; omega
              go_wp2_with fail
              have hsb := HSB.out
              refine ⟨⟨k + 1, _, by rw [Int.natCast_add]; rfl, rfl, by omega, by omega, by omega, fun h => by omega, fun h => by omega, fun h => by have := hc2 (by omega); omega, hkl, HF.out, HC.out.trans C4 (U := []) (by simp) (by simp)⟩, ?_⟩
              show 3 - (k + 1) < 3 - k
              omega
            · have d0 : decide (b < 128) = false := decide_eq_false (by omega)
              have d1 : decide (191 < b) = true := decide_eq_true hb1
              rw [hbad, d0, d1, if_pos (show (false || true) = true from rfl)] at hrk
              have HF := Lib.hid hrk
              clear hrk hs hS hbad HRk HR HA hbk hb1
              go_upto_region 18 with (fail)
              refine wp_region_calm (by kernel_rfl) (by kernel_rfl) ?_
              repeat (go_big_quiet_step ((first
                | (go_at_call 79; exact calm_same (hsc _))
                | fail)))
              refine wpQuiet_nil ?_
              intro w' hw'
              obtain ⟨⟨w4, C4⟩, rfl⟩ := hw'
              go_wp2_with fail
              have hf := HF.out
              subst hf
              refine ⟨rfl, _, by simp [results, Tryz.results49, go_sem] <;> rfl, ?_⟩
              exact ⟨rfl, HC.out.trans C4 (U := []) (by simp) (by simp)⟩
        · have hs := HS.out
          have ek : k = n := by omega
          have hrk := HRk.out
          rw [show 3 - k = (3 - (k + 1)) + 1 by omega] at hrk
          unfold refL at hrk
          rw [if_pos (by rw [hs.2.2]; exact ek)] at hrk
          have HF := Lib.hid hrk
          clear hrk hs HRk HR HA
          subst ek
          go_wp2_with fail
          have hf := HF.out
          subst hf
          refine ⟨rfl, _, by simp [results, Tryz.results49, go_sem] <;> rfl, ?_⟩
          exact ⟨rfl, HC.out⟩
      · have ek : k = 3 := by omega
        subst ek
        have hrk := HRk.out
        have HF := Lib.hid hrk
        clear hrk HRk HR HA
        go_wp2_with fail
        have hf := HF.out
        have hf2 : (cc, 3, 0) = R := hf
        subst hf2
        refine ⟨rfl, _, by simp [results, Tryz.results49, go_sem] <;> rfl, ?_⟩
        exact ⟨rfl, HC.out⟩
  · go_wp2_with fail
    go_loopw [6, 7] (fun cc i wr => ∃ (k : Nat) (c : Int), i = .int .i64 k ∧ cc = .int .i64 c ∧ 1 ≤ k ∧ k ≤ 4 ∧ 0 ≤ c ∧ (k = 1 → c < 32) ∧ (k = 2 → c < 2048) ∧ (k = 3 → c < 131072) ∧ k ≤ n ∧ refL l 4 (4 - k) k c = R ∧ Chg [] w wr) (fun _ i _ => 4 - (intOf i).toNat)
    case atStart =>
      have hb := HB.out
      have em : a.tmod 8 = a % 8 := Int.tmod_eq_emod_of_nonneg hb.1
      exact ⟨1, _, rfl, rfl, Nat.le_refl _, by omega, by omega, fun _ => by omega, fun h => by omega, fun h => by omega, h1, by rw [em]; exact HR.out, Chg.refl _ _⟩
    case round =>
      obtain ⟨k, cc, rfl, rfl, hk1, hk2, hc0, hc1, hc2, hc3, hkn, hRk, hc⟩ := hrel
      have HRk := Lib.hid hRk
      have HC := Lib.hid hc
      clear hRk hc
      rcases Nat.lt_or_ge k 4 with hlt | hge
      · rcases Nat.lt_or_ge k n with hkl | hkl
        · have hs := HS.out
          have hS := hs.1.chg0 HC.out
          have z0 : wr.cell? ⟨g, off, none⟩ = some (.int .u8 a) := by rw [← HA.out]; exact cell_byte hS rfl h1
          have zk : wr.cell? ⟨g, off + k, none⟩ = some (.int .u8 (l.getD k 0)) := cell_byte hS rfl hkl
          have bk : 0 ≤ l.getD k 0 ∧ l.getD k 0 < 256 := byte_at hs.2.1 hs.2.2 hkl
          have hrk := HRk.out
          rw [show 4 - k = (4 - (k + 1)) + 1 by omega] at hrk
          unfold refL at hrk
          rw [if_neg (by rw [hs.2.2]; omega)] at hrk
          obtain ⟨b, hbk⟩ : ∃ b, l.getD k 0 = b := ⟨_, rfl⟩
          rw [hbk] at zk bk
          have hwb : wrap64 b = b := by unfold wrap64; omega
          have g0 : ∀ m : Calm wr, m.w.cell? ⟨g, off, none⟩ = some (.int .u8 a) := fun m => m.c.cell z0 (by simp)
          have gk : ∀ m : Calm wr, m.w.cell? ⟨g, off + k, none⟩ = some (.int .u8 b) := fun m => m.c.cell zk (by simp)
          by_cases hk : k = 1
          · subst hk
            have hbad : badR l 1 = !secR a b := by unfold badR; rw [if_pos rfl, HA.out, hbk]
            cases hsec : secR a b with
            | false =>
              rw [hbad, hsec, if_pos (show (!false) = true from rfl)] at hrk
              have HF := Lib.hid hrk
              clear hrk hs hS hbad HRk HR HA hbk
              have hsc : ∀ m : Calm wr, Calls Tryz.prog 79 #[.int .u8 a, .int .u8 b] m.w fun e w' => e = .returned (.bool false) ∧ m.w = w' := fun m => by rw [← hsec]; exact rsecond_any a b m.w
              clear hsec
              go_upto_region 18 with (fail)
              refine wp_region_calm (by kernel_rfl) (by kernel_rfl) ?_
              repeat (go_big_quiet_step ((first
                | (go_at_call 79; exact calm_same (hsc _))
                | fail)))
              refine wpQuiet_nil ?_
              intro w' hw'
              obtain ⟨⟨w4, C4⟩, rfl⟩ := hw'
              go_wp2_with fail
              have hf := HF.out
              subst hf
              refine ⟨rfl, _, by simp [results, Tryz.results49, go_sem] <;> rfl, ?_⟩
              exact ⟨rfl, HC.out.trans C4 (U := []) (by simp) (by simp)⟩
            | true =>
              rw [hbad, hsec, if_neg (show ¬ (!true) = true by decide)] at hrk
              rw [hbk] at hrk
              have HF := Lib.hid hrk
              clear hrk hs hS hbad HRk HR HA hbk
              have hsc : ∀ m : Calm wr, Calls Tryz.prog 79 #[.int .u8 a, .int .u8 b] m.w fun e w' => e = .returned (.bool true) ∧ m.w = w' := fun m => by rw [← hsec]; exact rsecond_any a b m.w
              have HSB : Hid (128 ≤ b ∧ b ≤ 191) := Lib.hid (sec_in hsec)
              clear hsec
              go_upto_region 18 with (fail)
              refine wp_region_calm (by kernel_rfl) (by kernel_rfl) ?_
              repeat (go_big_quiet_step ((first
                | (go_at_call 79; exact calm_same (hsc _))
                | fail)))
              refine wpQuiet_nil ?_
              intro w' hw'
              obtain ⟨⟨w4, C4⟩, rfl⟩ := hw'
              have zk4 := C4.cell zk (by simp)
              have q0 : wrap64 (64 * cc) = 64 * cc := by unfold wrap64; have := hc1 rfl; omega
              have q1 : wrap64 (64 * cc + b) = 64 * cc + b := by unfold wrap64; have := hc1 rfl; omega
              have q2 : wrap64 (64 * cc + b - 128) = 64 * cc + b - 128 := by unfold wrap64; have := hc1 rfl; omega
              go_wp2_with fail
              have hsb := HSB.out
              refine ⟨⟨2, _, rfl, rfl, by omega, by omega, by omega, fun h => by omega, fun _ => by have := hc1 rfl; omega, fun h => by omega, hkl, HF.out, HC.out.trans C4 (U := []) (by simp) (by simp)⟩, ?_⟩
              show 4 - 2 < 4 - 1
              omega
          · have hbad : badR l k = (decide (b < 128) || decide (191 < b)) := by unfold badR; rw [if_neg hk, hbk]
            have hk2b : 1 < k := by omega
            have e2 : decide ((1 : Int) < (k : Int)) = true := decide_eq_true (by omega)
            have e1 : ((k : Int) == 1) = false := beq_eq_false_iff_ne.2 (by omega)
            have hsc : ∀ m : Calm wr, Calls Tryz.prog 79 #[.int .u8 a, .int .u8 b] m.w fun e w' => e = .returned (.bool (secR a b)) ∧ m.w = w' := fun m => rsecond_any a b m.w
            rcases (show b < 128 ∨ (128 ≤ b ∧ b ≤ 191) ∨ 191 < b by omega) with hb1 | hb1 | hb1
            · have d0 : decide (b < 128) = true := decide_eq_true hb1
              rw [hbad, d0, if_pos (show (true || _) = true from rfl)] at hrk
              have HF := Lib.hid hrk
              clear hrk hs hS hbad HRk HR HA hbk hb1
              go_upto_region 18 with (fail)
              refine wp_region_calm (by kernel_rfl) (by kernel_rfl) ?_
              repeat (go_big_quiet_step ((first
                | (go_at_call 79; exact calm_same (hsc _))
                | fail)))
              refine wpQuiet_nil ?_
              intro w' hw'
              obtain ⟨⟨w4, C4⟩, rfl⟩ := hw'
              go_wp2_with fail
              have hf := HF.out
              subst hf
              refine ⟨rfl, _, by simp [results, Tryz.results49, go_sem] <;> rfl, ?_⟩
              exact ⟨rfl, HC.out.trans C4 (U := []) (by simp) (by simp)⟩
            · have d0 : decide (b < 128) = false := decide_eq_false (by omega)
              have d1 : decide (191 < b) = false := decide_eq_false (by omega)
              rw [hbad, d0, d1, if_neg (show ¬ (false || false) = true by decide), hbk] at hrk
              have HF := Lib.hid hrk
              have HSB := Lib.hid hb1
              clear hrk hs hS hbad HRk HR HA hbk hb1
              go_upto_region 18 with (fail)
              refine wp_region_calm (by kernel_rfl) (by kernel_rfl) ?_
              repeat (go_big_quiet_step ((first
                | (go_at_call 79; exact calm_same (hsc _))
                | fail)))
              refine wpQuiet_nil ?_
              intro w' hw'
              obtain ⟨⟨w4, C4⟩, rfl⟩ := hw'
              have zk4 := C4.cell zk (by simp)
              have hcc : cc < 131072 := by
                have k2 := hc2
                have k3 := hc3
                rcases (show k = 2 ∨ k = 3 by omega) with h | h
                · have := k2 h
                  omega
                · exact k3 h
              have q0 : wrap64 (64 * cc) = 64 * cc := by unfold wrap64; omega
              have q1 : wrap64 (64 * cc + b) = 64 * cc + b := by unfold wrap64; omega
              have q2 : wrap64 (64 * cc + b - 128) = 64 * cc + b - 128 := by unfold wrap64; omega
              go_wp2_with fail
              have hsb := HSB.out
              refine ⟨⟨k + 1, _, by rw [Int.natCast_add]; rfl, rfl, by omega, by omega, by omega, fun h => by omega, fun h => by omega, fun h => by have := hc2 (by omega); omega, hkl, HF.out, HC.out.trans C4 (U := []) (by simp) (by simp)⟩, ?_⟩
              show 4 - (k + 1) < 4 - k
              omega
            · have d0 : decide (b < 128) = false := decide_eq_false (by omega)
              have d1 : decide (191 < b) = true := decide_eq_true hb1
              rw [hbad, d0, d1, if_pos (show (false || true) = true from rfl)] at hrk
              have HF := Lib.hid hrk
              clear hrk hs hS hbad HRk HR HA hbk hb1
              go_upto_region 18 with (fail)
              refine wp_region_calm (by kernel_rfl) (by kernel_rfl) ?_
              repeat (go_big_quiet_step ((first
                | (go_at_call 79; exact calm_same (hsc _))
                | fail)))
              refine wpQuiet_nil ?_
              intro w' hw'
              obtain ⟨⟨w4, C4⟩, rfl⟩ := hw'
              go_wp2_with fail
              have hf := HF.out
              subst hf
              refine ⟨rfl, _, by simp [results, Tryz.results49, go_sem] <;> rfl, ?_⟩
              exact ⟨rfl, HC.out.trans C4 (U := []) (by simp) (by simp)⟩
        · have hs := HS.out
          have ek : k = n := by omega
          have hrk := HRk.out
          rw [show 4 - k = (4 - (k + 1)) + 1 by omega] at hrk
          unfold refL at hrk
          rw [if_pos (by rw [hs.2.2]; exact ek)] at hrk
          have HF := Lib.hid hrk
          clear hrk hs HRk HR HA
          subst ek
          go_wp2_with fail
          have hf := HF.out
          subst hf
          refine ⟨rfl, _, by simp [results, Tryz.results49, go_sem] <;> rfl, ?_⟩
          exact ⟨rfl, HC.out⟩
      · have ek : k = 4 := by omega
        subst ek
        have hrk := HRk.out
        have HF := Lib.hid hrk
        clear hrk HRk HR HA
        go_wp2_with fail
        have hf := HF.out
        have hf2 : (cc, 4, 0) = R := hf
        subst hf2
        refine ⟨rfl, _, by simp [results, Tryz.results49, go_sem] <;> rfl, ?_⟩
        exact ⟨rfl, HC.out⟩
set_option maxHeartbeats 16000000 in
theorem rnext_nil (ao : Option Addr) (c : Nat) (w : World) : Calls Tryz.prog 49 #[.slice ao 0 c] w (RNextPost (refN []) w) := by
  go_enter Tryz.func49, Tryz.ntmps49
  go_wp2_with fail
  refine ⟨rfl, _, by simp [results, Tryz.results49, go_sem] <;> rfl, ?_⟩
  exact ⟨rfl, Chg.refl _ _⟩
set_option maxHeartbeats 16000000 in
theorem rnext_few (g off n c : Nat) (l : List Int) (w : World) (h : SrcAt w (some ⟨g, off, none⟩) n c (valsOf .u8 l)) (hb : ByR l) (hn : n ≤ 140737488355328) (h1 : 0 < n) (hN : sizeR (l.getD 0 0) = 0) :
    Calls Tryz.prog 49 #[.slice (some ⟨g, off, none⟩) n c] w (RNextPost (refN l) w) := by
  have hl : l.length = n := h.len
  have hR : refN l = (0, 1, 8) := by
    unfold refN
    rw [hN, if_neg (by omega), if_pos rfl]
  rw [hR]
  have x0 : w.cell? ⟨g, off, none⟩ = some (.int .u8 (l.getD 0 0)) := cell_byte h rfl h1
  have HZ := Lib.hid (rsize_any (l.getD 0 0) w)
  rw [hN] at HZ
  obtain ⟨a, ha⟩ : ∃ a, l.getD 0 0 = a := ⟨_, rfl⟩
  rw [ha] at x0 HZ
  clear h hb hl hR hN ha
  go_enter Tryz.func49, Tryz.ntmps49
  go_wp2_with fail
  refine (HZ.out).mono ?_
  rintro e w2 ⟨rfl, rfl⟩
  go_wp2_with fail
  refine ⟨rfl, _, by simp [results, Tryz.results49, go_sem] <;> rfl, ?_⟩
  exact ⟨rfl, Chg.refl _ _⟩
set_option maxHeartbeats 16000000 in
theorem rnext_one (g off n c : Nat) (l : List Int) (w : World) (h : SrcAt w (some ⟨g, off, none⟩) n c (valsOf .u8 l)) (hb : ByR l) (hn : n ≤ 140737488355328) (h1 : 0 < n) (hN : sizeR (l.getD 0 0) = 1) :
    Calls Tryz.prog 49 #[.slice (some ⟨g, off, none⟩) n c] w (RNextPost (refN l) w) := by
  have hl : l.length = n := h.len
  have hR : refN l = (l.getD 0 0, 1, 0) := by
    unfold refN
    rw [hN, if_neg (by omega), if_neg (by decide), if_pos rfl]
  rw [hR]
  have x0 : w.cell? ⟨g, off, none⟩ = some (.int .u8 (l.getD 0 0)) := cell_byte h rfl h1
  have HZ := Lib.hid (rsize_any (l.getD 0 0) w)
  rw [hN] at HZ
  have b0 : 0 ≤ l.getD 0 0 ∧ l.getD 0 0 < 256 := byte_at hb hl h1
  obtain ⟨a, ha⟩ : ∃ a, l.getD 0 0 = a := ⟨_, rfl⟩
  rw [ha] at x0 HZ b0 ⊢
  have hwr : wrap64 a = a := by unfold wrap64; omega
  clear h hb hl hR hN ha b0
  go_enter Tryz.func49, Tryz.ntmps49
  go_wp2_with fail
  refine (HZ.out).mono ?_
  rintro e w2 ⟨rfl, rfl⟩
  go_wp2_with fail
  refine ⟨rfl, _, by simp [results, Tryz.results49, go_sem] <;> rfl, ?_⟩
  exact ⟨by rw [hwr]; rfl, Chg.refl _ _⟩
theorem size_cases (a : Int) : sizeR a = 0 ∨ sizeR a = 1 ∨ ∃ N : Nat, sizeR a = (N : Int) ∧ 2 ≤ N ∧ N ≤ 4 := by
  unfold sizeR
  split
  · exact Or.inr (Or.inl rfl)
  · split
    · exact Or.inr (Or.inr ⟨2, rfl, by omega, by omega⟩)
    · split
      · exact Or.inr (Or.inr ⟨3, rfl, by omega, by omega⟩)
      · split
        · exact Or.inr (Or.inr ⟨4, rfl, by omega, by omega⟩)
        · exact Or.inl rfl
theorem rnext_any (ao : Option Addr) (n c : Nat) (l : List Int) (w : World) (h : SrcAt w ao n c (valsOf .u8 l)) (hb : ByR l) (hn : n ≤ 140737488355328) :
    Calls Tryz.prog 49 #[.slice ao n c] w (RNextPost (refN l) w) := by
  have hl : l.length = n := h.len
  by_cases h0 : n = 0
  · subst h0
    have : l = [] := List.length_eq_zero_iff.1 hl
    subst this
    exact rnext_nil ao c w
  · obtain ⟨g, off, e, _⟩ := h.int (j := 0) (by omega)
    subst e
    rcases size_cases (l.getD 0 0) with hN | hN | ⟨N, hN, h2, h4⟩
    · exact rnext_few g off n c l w h hb hn (by omega) hN
    · exact rnext_one g off n c l w h hb hn (by omega) hN
    · exact rnext_loop g off n c N l w h hb hn (by omega) hN h2 h4
end Go.Proofs.YtafmnkngjjnpiaaGreatDoor
