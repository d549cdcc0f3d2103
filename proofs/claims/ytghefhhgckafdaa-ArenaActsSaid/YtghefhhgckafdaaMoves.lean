/-
  ArenaMoves: the walk through the law.
-/
import Derived.Test.YtghefhhgckafdaaParts
import Derived.Test.YtghefhhgckafdaaAreE
namespace Go.Proofs.Ytghefhhgckafdaa
set_option linter.unusedVariables false
open Go.RowKit
attribute [local go_sem ↓] Go.wp_at_zero Go.wp_at_succ

theorem movL_back (l : List Int) (i j p : Nat) (hij : i ≤ j) (hj : j ≤ l.length) (hp : p ≤ l.length - (j - i)) : movL (movL l i j p) p (p + (j - i)) i = l := by
  obtain ⟨A, hA⟩ : ∃ A, A = l.take i := ⟨_, rfl⟩
  obtain ⟨B, hB⟩ : ∃ B, B = (l.drop i).take (j - i) := ⟨_, rfl⟩
  obtain ⟨C, hC⟩ : ∃ C, C = l.drop j := ⟨_, rfl⟩
  have hl : A ++ B ++ C = l := by
    subst hA hB hC
    have : l.drop j = (l.drop i).drop (j - i) := by rw [List.drop_drop]; congr 1; omega
    rw [this, List.append_assoc, List.take_append_drop, List.take_append_drop]
  have hAl : A.length = i := by rw [hA, List.length_take]; omega
  have hBl : B.length = j - i := by rw [hB, List.length_take, List.length_drop]; omega
  obtain ⟨P, hP⟩ : ∃ P, P = (A ++ C).take p := ⟨_, rfl⟩
  obtain ⟨Q, hQ⟩ : ∃ Q, Q = (A ++ C).drop p := ⟨_, rfl⟩
  have hPl : P.length = p := by
    rw [hP, List.length_take, List.length_append]
    have := congrArg List.length hl
    simp at this
    omega
  have h1 : movL l i j p = P ++ B ++ Q := by unfold movL; rw [← hA, ← hB, ← hC, ← hP, ← hQ]
  have hPQ : P ++ Q = A ++ C := by rw [hP, hQ, List.take_append_drop]
  have h2 : (P ++ B ++ Q).take p = P := by rw [List.append_assoc, List.take_left' hPl]
  have h3 : (P ++ B ++ Q).drop p = B ++ Q := by rw [List.append_assoc, List.drop_left' hPl]
  have h4 : (P ++ B ++ Q).drop (p + (j - i)) = Q := by rw [List.drop_left' (by rw [List.length_append, hPl, hBl])]
  rw [h1]
  unfold movL
  rw [h2, h3, h4, hPQ, show p + (j - i) - p = j - i by omega, List.take_left' hBl, List.take_left' hAl, List.drop_left' hAl, hl]

theorem movL_length (l : List Int) (i j p : Nat) (hij : i ≤ j) (hj : j ≤ l.length) : (movL l i j p).length = l.length := by
  unfold movL
  simp
  omega

set_option maxRecDepth 100000 in
set_option maxHeartbeats 4000000 in
theorem moves_walk (a0 : Option Addr) (len cap : Nat) (zs : List Int) (x0 x1 x2 : Int) (w : World) (hr : IsRow .u8 w a0 len cap zs) :
    Calls Try.prog 5 #[.slice a0 len cap, .agg #[.int .i64 x0, .int .i64 x1], .int .i64 x2] w fun e w' => e = .returned (.bool true) ∧ Below w.heap.size w w' := by
  obtain ⟨hlc, hcm, hzl⟩ := hr.le
  unfold maxLen at hcm
  obtain ⟨m, hm⟩ : ∃ m : Nat, m = min len 200 := ⟨_, rfl⟩
  have hm1 : m ≤ len := by omega
  have hm2 : m ≤ 200 := by omega
  have hm3 : min (len : Int) 200 = (m : Int) := by omega
  have hm4 : (m : Int) ≤ (cap : Int) := by omega
  have HM := Lib.hid hm
  clear hm
  obtain ⟨ys, hys⟩ : ∃ ys, ys = zs.take m := ⟨_, rfl⟩
  have HY := Lib.hid hys
  go_enter Try.func5, Try.ntmps5
  go_wp2_with fail
  go_quiet (fail)
  go_wp2_with fail
  have hS1 := Lib.hid (show ∀ w' S, Chg [] w w' → (∀ x ∈ S, w.heap.size ≤ x) → SrcIs w' a0 m ys S from fun w' S hc hS => by
    have h1 := hr.src m (by omega) S hS
    rw [HY.out]; exact h1.chg hc (by simp))
  have hS2 := Lib.hid (show ∀ i k w' S, i ≤ k → k ≤ m → Chg [] w w' → (∀ x ∈ S, w.heap.size ≤ x) → SrcIs w' (if cap = i then a0 else a0.map (fun x => x.add i)) (k - i) ((ys.drop i).take (k - i)) S from fun i k w' S hik hk hc hS => by
    have h1 := hr.part i k hik (by omega) S hS
    have h2 : (ys.drop i).take (k - i) = (zs.take k).drop i := by
      rw [HY.out, ← List.drop_take, List.take_take, Nat.min_eq_left hk]
    rw [h2]; exact h1.chg hc (by simp))
  have hyl := Lib.hid (show ys.length = m by rw [HY.out, List.length_take, hzl]; omega)
  clear hys
  generalize hw0 : (w.alloc _).drewN _ = w0
  have D0 : Chg [] w w0 := by rw [← hw0]; exact ((Chg.refl [] w).alloc _).drewN _
  refine (new_at 200 _ (by omega) (by omega)).mono ?_
  rintro e w1 ⟨bA, bC, rfl, C1, A1, l1, l2⟩
  go_wp2_with fail
  refine (new_at 200 _ (by omega) (by omega)).mono ?_
  rintro e w2 ⟨bB, bD, rfl, C2, B2, l3, l4⟩
  have A2 := A1.chg C2 (by simp) (by simp)
  go_wp2_with fail
  refine (alive_any _).mono ?_
  rintro e w3 ⟨rfl, C3⟩
  have A3 := A2.chg C3 (by simp) (by simp)
  have B3 := B2.chg C3 (by simp) (by simp)
  have hlA := A1.lt
  have D3 : Chg [] w w3 := ((D0.trans C1 (U := []) (by simp) (by simp)).trans C2 (U := []) (by simp) (by simp)).trans C3 (by simp) (by simp)
  have hs1 := D0.size
  clear C1 C2 C3 A1 A2 B2 hw0 D0
  go_wp2_with fail
  refine (insert_0 bA bC 200 [] _ _ _ ys _ A3 (by exact hS1.out _ _ D3 (by simp; omega)) (by simp; omega)).mono ?_
  rintro e w4 ⟨rfl, C4, A4⟩
  have B4 := B3.chg C4 (by simp; omega) (by simp; omega)
  have D4 : Chg [] w w4 := D3.trans C4 (by simp) (by simp; omega)
  rw [List.append_nil] at A4
  clear A3 B3 D3 C4
  go_wp2_with fail
  refine (insert_0 bB bD 200 [] _ _ _ ys _ B4 (by exact hS1.out _ _ D4 (by simp; omega)) (by simp; omega)).mono ?_
  rintro e w5 ⟨rfl, C5, B5⟩
  have A5 := A4.chg C5 (by simp; omega) (by simp; omega)
  have D5 : Chg [] w w5 := D4.trans C5 (by simp) (by simp; omega)
  rw [List.append_nil] at B5
  clear A4 B4 D4 C5
  obtain ⟨i, hi1, hi2⟩ := rem_is x0 m (by omega)
  have hi3 : (i : Int) ≤ (m : Int) := by omega
  obtain ⟨r, hr1, hr2⟩ := rem_is' x1 ((m : Int) - (i : Int)) (by omega) (by omega)
  obtain ⟨j, hj⟩ : ∃ j : Nat, j = i + r := ⟨_, rfl⟩
  have hj1 : (i : Int) + (r : Int) = (j : Int) := by omega
  have hj2 : (j : Int) ≤ (m : Int) := by omega
  have hj3 : (i : Int) ≤ (j : Int) := by omega
  have hj4 : (j : Int) ≤ (cap : Int) := by omega
  obtain ⟨p, hp1, hp2⟩ := rem_is' x2 ((m : Int) - ((j : Int) - (i : Int))) (by omega) (by omega)
  have hij : i ≤ j ∧ j ≤ m ∧ p ≤ m - (j - i) := by omega
  obtain ⟨t, ht⟩ : ∃ t : Nat, t = p + (j - i) := ⟨_, rfl⟩
  have ht1 : (p : Int) + (j : Int) - (i : Int) = (t : Int) := by omega
  clear hj hr1
  go_wp2_with fail
  refine (move_ok bA bC 200 ys i j p _ A5 hij.1 (by rw [hyl.out]; omega) (by rw [hyl.out]; omega)).mono ?_
  rintro e w6 ⟨rfl, C6, A6⟩
  have B6 := B5.chg C6 (by simp; omega) (by simp; omega)
  have D6 : Chg [] w w6 := D5.trans C6 (by simp) (by simp; omega)
  clear A5 B5 D5 C6
  go_wp2_with fail
  refine (delete_ok bB bD 200 ys i j _ B6 hij.1 (by rw [hyl.out]; omega)).mono ?_
  rintro e w7 ⟨rfl, C7, B7⟩
  have A7 := A6.chg C7 (by simp; omega) (by simp; omega)
  have D7 : Chg [] w w7 := D6.trans C7 (by simp) (by simp; omega)
  clear A6 B6 D6 C7
  go_wp2_with ((go_at_call 11; refine (insert_ok bB bD 200 _ p _ _ _ ((ys.drop i).take (j - i)) _ B7 (by exact hS2.out i j _ _ hij.1 hij.2.1 D7 (by simp; omega)) (by rw [List.length_append, List.length_take, List.length_drop, hyl.out]; omega) (by rw [List.length_append, List.length_take, List.length_drop, hyl.out]; omega)).mono ?_; rintro e w8 ⟨rfl, C8, B8⟩; have A8 := A7.chg C8 (by simp; omega) (by simp; omega); have D8 : Chg [] w w8 := D7.trans C8 (by simp) (by simp; omega); generalize (if cap = i then a0 else Option.map (fun x => x.add i) a0) = dd))
  have hM : (ys.take i ++ ys.drop j).take p ++ (ys.drop i).take (j - i) ++ (ys.take i ++ ys.drop j).drop p = movL ys i j p := rfl
  rw [hM] at B8
  clear A7 B7 D7 C8 hM
  refine (text_any bA bC 200 _ _ A8).mono ?_
  rintro e w9 ⟨rfl, C9⟩
  have A9 := A8.chg C9 (by simp) (by simp)
  have B9 := B8.chg C9 (by simp) (by simp)
  have D9 : Chg [] w w9 := D8.trans C9 (by simp) (by simp)
  clear A8 B8 D8 C9
  go_wp2_with fail
  refine (text_any bB bD 200 _ _ B9).mono ?_
  rintro e w10 ⟨rfl, C10⟩
  have A10 := A9.chg C10 (by simp) (by simp)
  have D10 : Chg [] w w10 := D9.trans C10 (by simp) (by simp)
  clear A9 B9 D9 C10
  go_wp2_with fail
  have hback := Lib.hid (movL_back ys i j p hij.1 (by rw [hyl.out]; omega) (by rw [hyl.out]; omega))
  have hml := Lib.hid (movL_length ys i j p hij.1 (by rw [hyl.out]; omega))
  have A11 := A10.drew
  have D11 := D10.drew
  have hconv := Lib.hid (show ∀ w', Chg [] w w' → (convert 22 9 (.slice a0 m cap)).run Try.prog w' = .ok (.string (strOfNums ys)) w' from fun w' hc =>
    conv_src (hS1.out w' [] hc (by simp)))
  clear A10 D10
  have hw1 : IntKind.i64.wrap ((p : Int) + (j : Int)) = (p : Int) + (j : Int) := IntWalk.i64_in _ (by omega)
  have hw2 : IntKind.i64.wrap (t : Int) = (t : Int) := IntWalk.i64_in _ (by omega)
  have HT := Lib.hid ht
  have ht2 := Lib.hid (show p ≤ t ∧ t ≤ m ∧ i ≤ m - (t - p) from by omega)
  clear hi2 hr2 hp2 ht
  go_region_held3 (fun w' => (convert 22 9 (.slice a0 m cap)).run Try.prog w' = .ok (.string (strOfNums ys)) w') (exact hconv.out _ (by assumption))
    (first
      | (go_at_call 13; refine (text_any bA bC 200 ys _ (by assumption)).mono ?_; rintro e w13 ⟨rfl, C13⟩; have D13 : Chg [] w w13 := Chg.trans (by assumption) C13 (by simp) (by simp))
      | (go_at_call 16; (with_reducible show Calls _ _ #[_, .int .i64 (p : Int), .int .i64 (t : Int), .int .i64 (i : Int)] _ _); refine (move_ok bA bC 200 (movL ys i j p) p t i _ (by assumption) ht2.out.1 (by rw [hml.out, hyl.out]; exact ht2.out.2.1) (by rw [hml.out, hyl.out]; exact ht2.out.2.2)).mono ?_; rintro e w12 ⟨rfl, C12, A12⟩; have D12 : Chg [] w w12 := Chg.trans (by assumption) C12 (by simp) (by simp; omega); rw [HT.out, hback.out] at A12))
  go_wp2_with fail
  go_ret
  exact ⟨rfl, Chg.below (Below.refl _ _) D13 (by simp) (Nat.le_refl _)⟩

theorem moves_law (a0 : Option Addr) (len cap : Nat) (zs : List Int) (x0 x1 x2 : Int) (w : World) (hr : IsRow .u8 w a0 len cap zs) (_ : (Lit.int .i64 x2).wf = true) :
    Calls Try.prog 5 #[.slice a0 len cap, .agg ([x0, x1].map (Value.int .i64)).toArray, .int .i64 x2] w fun e w' => e = .returned (.bool true) ∧ Below w.heap.size w w' :=
  moves_walk a0 len cap zs x0 x1 x2 w hr
end Go.Proofs.Ytghefhhgckafdaa
