import Derived.Test.YtafmnkngjjnpiaaGreatDoorProg
import Derived.WalkKit
import Derived.WalkSpells
import Derived.WalkLawsBesides
import Derived.Deep.QuietTactic
import Derived.BigQuiet
import Derived.Lib.Hide
import GoSem.Core.Float
import Derived.Laws.BitsAllLaws
import Derived.RowKit
import Derived.Below
namespace Go.Proofs.YtafmnkngjjnpiaaGreatDoor
set_option maxRecDepth 100000
set_option linter.unusedVariables false
open Ieee Go.RowKit
def mgF (r : Nat) : Nat := if r < 4503599627370496 then r else (4503599627370496 + r % 4503599627370496) * 2 ^ (r / 4503599627370496 - 1)
theorem mgF_lt {r s : Nat} (h : r < s) : mgF r < mgF s := by
  unfold mgF
  by_cases h1 : s < 4503599627370496
  · rw [if_pos h1, if_pos (by omega)]; exact h
  · rw [if_neg h1]
    have hp : 1 ≤ 2 ^ (s / 4503599627370496 - 1) := Nat.one_le_two_pow
    by_cases h2 : r < 4503599627370496
    · rw [if_pos h2]
      calc r < 4503599627370496 + s % 4503599627370496 := by omega
        _ = (4503599627370496 + s % 4503599627370496) * 1 := by omega
        _ ≤ _ := Nat.mul_le_mul_left _ hp
    · rw [if_neg h2]
      by_cases h3 : r / 4503599627370496 = s / 4503599627370496
      · rw [h3]
        exact Nat.mul_lt_mul_of_pos_right (by omega) (by omega)
      · have h4 : r / 4503599627370496 < s / 4503599627370496 := by omega
        obtain ⟨d, hd⟩ : ∃ d, s / 4503599627370496 - 1 = (r / 4503599627370496 - 1) + 1 + d := ⟨s / 4503599627370496 - 1 - (r / 4503599627370496 - 1) - 1, by omega⟩
        have hq : 1 ≤ 2 ^ (r / 4503599627370496 - 1) := Nat.one_le_two_pow
        have hd1 : 1 ≤ 2 ^ d := Nat.one_le_two_pow
        rw [hd, Nat.pow_add, Nat.pow_add]
        generalize 2 ^ (r / 4503599627370496 - 1) = A at *
        generalize 2 ^ d = D at *
        calc (4503599627370496 + r % 4503599627370496) * A < (4503599627370496 * 2) * A := Nat.mul_lt_mul_of_pos_right (by omega) (by omega)
          _ = 4503599627370496 * (A * 2 ^ 1) := by rw [Nat.pow_one, Nat.mul_assoc, Nat.mul_comm 2 A]
          _ = 4503599627370496 * (A * 2 ^ 1) * 1 := by omega
          _ ≤ 4503599627370496 * (A * 2 ^ 1) * D := Nat.mul_le_mul_left _ hd1
          _ = 4503599627370496 * (A * 2 ^ 1 * D) := by rw [Nat.mul_assoc]
          _ ≤ _ := Nat.mul_le_mul_right _ (by omega)
def nanF (b : Nat) : Bool := decide (9218868437227405312 < b % 9223372036854775808)
def negF (b : Nat) : Bool := decide (9223372036854775808 ≤ b)
def svF (b : Nat) : Int := if 9223372036854775808 ≤ b then -((b % 9223372036854775808 : Nat) : Int) else (b % 9223372036854775808 : Nat)
theorem double_signWeight : double.signWeight = 9223372036854775808 := by decide +kernel
theorem double_binade : double.binade = 4503599627370496 := by decide +kernel
theorem double_infRung : double.infRung = 9218868437227405312 := by decide +kernel
theorem double_leastPlace : double.leastPlace = -1074 := by decide +kernel
theorem read_neg {b : Nat} (h : b < 18446744073709551616) : (b / 9223372036854775808 % 2 == 1) = negF b := by
  unfold negF
  by_cases h1 : 9223372036854775808 ≤ b
  · have : b / 9223372036854775808 = 1 := by omega
    rw [this]; simp [h1]
  · have : b / 9223372036854775808 = 0 := by omega
    rw [this]; simp [h1]
theorem read_nan {b : Nat} (hn : nanF b = true) : ∃ s f, double.read b = .nan s f := by
  have hn' : 9218868437227405312 < b % 9223372036854775808 := of_decide_eq_true hn
  unfold Format.read
  rw [double_signWeight, double_binade, double_infRung]
  dsimp only
  rw [if_neg (by omega), if_neg (by omega), if_neg (by omega)]
  exact ⟨_, _, rfl⟩
theorem read_num {b : Nat} (h : b < 18446744073709551616) (hn : nanF b = false) :
    (∃ m : Nat, ∃ k : Nat, double.read b = .number (negF b) m (-1074 + (k : Int)) ∧ m * 2 ^ k = mgF (b % 9223372036854775808) ∧ b % 9223372036854775808 < 9218868437227405312) ∨
    (double.read b = .infinity (negF b) ∧ b % 9223372036854775808 = 9218868437227405312) := by
  have hn' : ¬ 9218868437227405312 < b % 9223372036854775808 := of_decide_eq_false hn
  unfold Format.read
  rw [double_signWeight, double_binade, double_infRung, double_leastPlace, read_neg h]
  dsimp only
  generalize hr : b % 9223372036854775808 = r at *
  by_cases h1 : r < 4503599627370496
  · rw [if_pos h1]
    exact .inl ⟨r, 0, by simp, by simp [mgF, h1], by omega⟩
  · rw [if_neg h1]
    by_cases h2 : r < 9218868437227405312
    · rw [if_pos h2]
      refine .inl ⟨_, r / 4503599627370496 - 1, rfl, ?_, h2⟩
      simp [mgF, h1]
    · rw [if_neg h2, if_pos (by omega)]
      exact .inr ⟨rfl, by omega⟩
theorem signed_eq (s : Bool) (m k : Nat) : signed s m k = if s then -((m * 2 ^ k : Nat) : Int) else ((m * 2 ^ k : Nat) : Int) := by
  unfold signed
  rw [Nat.shiftLeft_eq]
theorem compare_scale (x y : Int) (n : Nat) : compare (x * (2 ^ n : Nat)) (y * (2 ^ n : Nat)) = compare x y := by
  have hp : (0 : Int) < ((2 ^ n : Nat) : Int) := by
    have : 1 ≤ 2 ^ n := Nat.one_le_two_pow
    omega
  generalize ((2 ^ n : Nat) : Int) = p at *
  simp only [compare, compareOfLessAndEq]
  have e1 : (x * p < y * p) = (x < y) := by
    apply propext
    constructor
    · intro h; exact Int.lt_of_mul_lt_mul_right h (Int.le_of_lt hp)
    · intro h; exact Int.mul_lt_mul_of_pos_right h hp
  have e2 : (x * p = y * p) = (x = y) := by
    apply propext
    constructor
    · intro h; exact Int.eq_of_mul_eq_mul_right (by omega) h
    · intro h; rw [h]
  simp only [e1, e2]
def sgF (s : Bool) (n : Nat) : Int := if s then -(n : Int) else n
theorem order_numbers (s t : Bool) (m n j k : Nat) :
    Datum.order (.number s m (-1074 + (j : Int))) (.number t n (-1074 + (k : Int))) = some (compare (sgF s (m * 2 ^ j)) (sgF t (n * 2 ^ k))) := by
  unfold Datum.order
  dsimp only
  congr 1
  rw [signed_eq, signed_eq]
  by_cases h : j ≤ k
  · have e1 : (-1074 + (j : Int) - min (-1074 + (j : Int)) (-1074 + (k : Int))).toNat = 0 := by omega
    have e2 : (-1074 + (k : Int) - min (-1074 + (j : Int)) (-1074 + (k : Int))).toNat = k - j := by omega
    rw [e1, e2]
    rw [← compare_scale _ _ j]
    unfold sgF
    have ek : k = (k - j) + j := by omega
    congr 1
    · cases s <;> simp [Int.neg_mul]
    · conv => rhs; rw [ek]
      cases t <;> simp [Nat.pow_add, Int.mul_assoc, Int.neg_mul]
  · have e1 : (-1074 + (j : Int) - min (-1074 + (j : Int)) (-1074 + (k : Int))).toNat = j - k := by omega
    have e2 : (-1074 + (k : Int) - min (-1074 + (j : Int)) (-1074 + (k : Int))).toNat = 0 := by omega
    rw [e1, e2]
    rw [← compare_scale _ _ k]
    unfold sgF
    have ek : j = (j - k) + k := by omega
    congr 1
    · conv => rhs; rw [ek]
      cases s <;> simp [Nat.pow_add, Int.mul_assoc, Int.neg_mul]
    · cases t <;> simp [Int.neg_mul]
theorem compare_eqF (x y : Int) : compare x y = if x < y then .lt else if x = y then .eq else .gt := rfl
theorem sgF_lt_iff (s t : Bool) (m n : Nat) : (sgF s (mgF m) < sgF t (mgF n)) ↔ (sgF s m < sgF t n) := by
  have h0 : mgF 0 = 0 := by decide
  have hm : 0 < m → 0 < mgF m := fun h => by have := mgF_lt h; omega
  have hn : 0 < n → 0 < mgF n := fun h => by have := mgF_lt h; omega
  have l1 : m < n → mgF m < mgF n := mgF_lt
  have l2 : n < m → mgF n < mgF m := mgF_lt
  have l3 : m = n → mgF m = mgF n := fun h => by rw [h]
  have z1 : m = 0 → mgF m = 0 := fun h => by rw [h, h0]
  have z2 : n = 0 → mgF n = 0 := fun h => by rw [h, h0]
  unfold sgF
  generalize mgF m = M at *
  generalize mgF n = N at *
  cases s <;> cases t <;> simp only [if_true, if_false, Bool.false_eq_true] <;> omega
theorem sgF_eq_iff (s t : Bool) (m n : Nat) : (sgF s (mgF m) = sgF t (mgF n)) ↔ (sgF s m = sgF t n) := by
  have h1 := sgF_lt_iff s t m n
  have h2 := sgF_lt_iff t s n m
  omega
theorem compare_sgF (s t : Bool) (m n : Nat) : compare (sgF s (mgF m)) (sgF t (mgF n)) = compare (sgF s m) (sgF t n) := by
  rw [compare_eqF, compare_eqF]
  simp only [sgF_lt_iff, sgF_eq_iff]
theorem svF_eq {b : Nat} : svF b = sgF (negF b) (b % 9223372036854775808) := by
  unfold svF sgF negF
  by_cases h : 9223372036854775808 ≤ b <;> simp [h]
theorem orderF {a b : Nat} (ha : a < 18446744073709551616) (hb : b < 18446744073709551616) (na : nanF a = false) (nb : nanF b = false) :
    FloatKind.f64.format.order a b = some (compare (svF a) (svF b)) := by
  show (double.read a).order (double.read b) = _
  rw [svF_eq, svF_eq]
  rcases read_num ha na with ⟨m, j, e1, q1, l1⟩ | ⟨e1, q1⟩ <;> rcases read_num hb nb with ⟨n, k, e2, q2, l2⟩ | ⟨e2, q2⟩ <;> rw [e1, e2]
  · rw [order_numbers, q1, q2, compare_sgF]
  · unfold Datum.order
    dsimp only
    congr 1
    rw [compare_eqF, q2]
    unfold sgF
    generalize a % 9223372036854775808 = r at *
    cases negF a <;> cases negF b <;> simp only [if_true, if_false, Bool.false_eq_true]
    · rw [if_pos (by omega)]
    · rw [if_neg (by omega), if_neg (by omega)]
    · rw [if_pos (by omega)]
    · rw [if_neg (by omega), if_neg (by omega)]
  · unfold Datum.order
    dsimp only
    congr 1
    rw [compare_eqF, q1]
    unfold sgF
    generalize b % 9223372036854775808 = r at *
    cases negF a <;> cases negF b <;> simp only [if_true, if_false, Bool.false_eq_true]
    · rw [if_neg (by omega), if_neg (by omega)]
    · rw [if_neg (by omega), if_neg (by omega)]
    · rw [if_pos (by omega)]
    · rw [if_pos (by omega)]
  · unfold Datum.order
    dsimp only
    congr 1
    rw [q1, q2]
    cases negF a <;> cases negF b <;> rfl
theorem order_nan_left {a b : Nat} (na : nanF a = true) : FloatKind.f64.format.order a b = none := by
  show (double.read a).order (double.read b) = _
  obtain ⟨s, f, e⟩ := read_nan na
  rw [e]; rfl
theorem self_neq {b : Nat} (hb : b < 18446744073709551616) : (FloatKind.f64.format.order b b != some Ordering.eq) = nanF b := by
  cases h : nanF b with
  | true => rw [order_nan_left h]; rfl
  | false => rw [orderF hb hb h h, compare_eqF]; simp
def keyF (b : Nat) : Nat := if nanF b then 18446744073709551615 else if 9223372036854775808 ≤ b then 18446744073709551615 - b else b + 9223372036854775808
def cmpN (a b : Nat) : Int := if a < b then -1 else if b < a then 1 else 0
def cmpF (a b : Nat) : Int := cmpN (keyF a) (keyF b)
theorem cmpF_tri (a b : Nat) : (keyF a < keyF b ∧ cmpF a b = -1) ∨ (keyF a = keyF b ∧ cmpF a b = 0) ∨ (keyF b < keyF a ∧ cmpF a b = 1) := by
  unfold cmpF cmpN
  rcases Nat.lt_trichotomy (keyF a) (keyF b) with h | h | h
  · exact .inl ⟨h, if_pos h⟩
  · exact .inr (.inl ⟨h, by rw [if_neg (by omega), if_neg (by omega)]⟩)
  · exact .inr (.inr ⟨h, by rw [if_neg (by omega), if_pos h]⟩)
theorem wrap64_neg {b : Nat} (hb : b < 18446744073709551616) : decide (wrap64 (b : Int) < 0) = negF b := by
  unfold negF wrap64
  congr 1
  apply propext
  omega
theorem not64 {b : Nat} (hb : b < 18446744073709551616) : bits BinOp.xor IntKind.u64 IntKind.u64.max (b : Int) = ((18446744073709551615 - b : Nat) : Int) := by
  have e : IntKind.u64.max = ((18446744073709551615 : Nat) : Int) := by decide +kernel
  rw [e, u64_xor_nat _ _ (by omega) hb]
  congr 1
  have h := BitVec.toNat_not (x := BitVec.ofNat 64 b)
  have h2 := congrArg BitVec.toNat (BitVec.allOnes_xor (x := BitVec.ofNat 64 b))
  rw [BitVec.toNat_xor, h] at h2
  simp at h2
  rw [Nat.mod_eq_of_lt hb] at h2
  exact h2
theorem or63 {b : Nat} (hb : b < 9223372036854775808) : bits BinOp.or IntKind.u64 (b : Int) 9223372036854775808 = ((b + 9223372036854775808 : Nat) : Int) := by
  have := u64_or_nat b 9223372036854775808 (by omega) (by omega)
  rw [show ((9223372036854775808 : Nat) : Int) = 9223372036854775808 from rfl] at this
  rw [this]
  congr 1
  rw [Nat.or_comm, nat_join 63 _ _ (by decide) (by omega)]; omega
end Go.Proofs.YtafmnkngjjnpiaaGreatDoor

namespace Go.Proofs.YtafmnkngjjnpiaaGreatDoor
set_option maxRecDepth 100000
set_option linter.unusedVariables false
open Go.RowKit
theorem bits_run (b : Nat) (w : World) : (callFunc 249 #[.float .f64 b]).run Tryz.prog w = .ok (.value (.int .u64 b)) w := by kernel_rfl
def Wd (b : Nat) : Prop := b < 18446744073709551616
set_option maxHeartbeats 400000 in
theorem isNaN_any (b : Nat) (w : World) (hb : Wd b) :
    Calls Tryz.prog 248 #[.float .f64 b] w fun e w' => e = .returned (.bool (nanF b)) ∧ w = w' := by
  rw [← self_neq hb]
  go_enter Tryz.func248, Tryz.ntmps248
  go_wp2
  go_ret
  exact ⟨rfl, rfl⟩
set_option maxHeartbeats 400000 in
theorem signbit_any (b : Nat) (w : World) (hb : Wd b) :
    Calls Tryz.prog 250 #[.float .f64 b] w fun e w' => e = .returned (.bool (negF b)) ∧ w = w' := by
  rw [← wrap64_neg hb]
  have hr := bits_run b
  go_enter Tryz.func250, Tryz.ntmps250
  go_wp2
  go_ret
  exact ⟨rfl, rfl⟩
set_option maxHeartbeats 400000 in
theorem key_any (b : Nat) (w : World) (hb : Wd b) :
    Calls Tryz.prog 246 #[.float .f64 b] w fun e w' => e = .returned (.int .u64 (keyF b : Nat)) ∧ w = w' := by
  have hr := bits_run b
  cases hn : nanF b with
  | true =>
    have hk : keyF b = 18446744073709551615 := by unfold keyF; rw [hn]; rfl
    rw [hk]; clear hk
    go_enter Tryz.func246, Tryz.ntmps246
    go_wp2_with (go_at_call 248; refine (isNaN_any _ _ hb).mono ?_; rintro e w' ⟨rfl, rfl⟩)
    go_ret
    exact ⟨rfl, rfl⟩
  | false =>
    cases hg : negF b with
    | true =>
      have hk : ((keyF b : Nat) : Int) = bits BinOp.xor IntKind.u64 IntKind.u64.max (b : Int) := by
        rw [not64 hb]; unfold keyF; rw [hn]
        have : 9223372036854775808 ≤ b := of_decide_eq_true hg
        simp [this]
      rw [hk]; clear hk
      go_enter Tryz.func246, Tryz.ntmps246
      go_wp2_with (first | (go_at_call 248; refine (isNaN_any _ _ hb).mono ?_; rintro e w' ⟨rfl, rfl⟩) | (go_at_call 250; refine (signbit_any _ _ hb).mono ?_; rintro e w' ⟨rfl, rfl⟩))
      all_goals (go_ret; exact ⟨rfl, rfl⟩)
    | false =>
      have hk : ((keyF b : Nat) : Int) = bits BinOp.or IntKind.u64 (b : Int) 9223372036854775808 := by
        have h0 : ¬ 9223372036854775808 ≤ b := of_decide_eq_false hg
        rw [or63 (by omega)]; unfold keyF; rw [hn]
        simp [h0]
      rw [hk]; clear hk
      go_enter Tryz.func246, Tryz.ntmps246
      go_wp2_with (first | (go_at_call 248; refine (isNaN_any _ _ hb).mono ?_; rintro e w' ⟨rfl, rfl⟩) | (go_at_call 250; refine (signbit_any _ _ hb).mono ?_; rintro e w' ⟨rfl, rfl⟩))
      all_goals (go_ret; exact ⟨rfl, rfl⟩)
set_option maxHeartbeats 400000 in
theorem cmpu_any (a b : Nat) (w : World) :
    Calls Tryz.prog 245 #[.int .u64 a, .int .u64 b] w fun e w' => e = .returned (.int .i64 (cmpN a b)) ∧ w = w' := by
  unfold cmpN
  by_cases h1 : a < b
  · rw [if_pos h1]
    go_enter Tryz.func245, Tryz.ntmps245
    go_wp2
    go_ret
    exact ⟨rfl, rfl⟩
  · rw [if_neg h1]
    by_cases h2 : b < a
    · rw [if_pos h2]
      go_enter Tryz.func245, Tryz.ntmps245
      go_wp2
      go_ret
      exact ⟨rfl, rfl⟩
    · rw [if_neg h2]
      go_enter Tryz.func245, Tryz.ntmps245
      go_wp2
      go_ret
      exact ⟨rfl, rfl⟩
set_option maxHeartbeats 400000 in
theorem compare_any (a b : Nat) (w : World) (ha : Wd a) (hb : Wd b) :
    Calls Tryz.prog 244 #[.float .f64 a, .float .f64 b] w fun e w' => e = .returned (.int .i64 (cmpF a b)) ∧ w = w' := by
  unfold cmpF
  go_enter Tryz.func244, Tryz.ntmps244
  go_wp2_with fail
  refine (key_any _ _ ha).mono ?_
  rintro e w' ⟨rfl, rfl⟩
  go_wp2_with fail
  refine (key_any _ _ hb).mono ?_
  rintro e w' ⟨rfl, rfl⟩
  go_wp2_with fail
  refine (cmpu_any _ _ _).mono ?_
  rintro e w' ⟨rfl, rfl⟩
  go_wp2_with fail
  go_ret
  exact ⟨rfl, rfl⟩
theorem run_store_float' (P : Program) (w : World) (a : Addr) (k : FloatKind) (b : Nat) (m : Mode) : (store a (.float k b) m).run P w = stored P w a (.float k b) m := run_store P w a _ m rfl
end Go.Proofs.YtafmnkngjjnpiaaGreatDoor
