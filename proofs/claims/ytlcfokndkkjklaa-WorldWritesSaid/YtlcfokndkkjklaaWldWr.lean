/-
  WorldWrites: a write never takes more than it has, nor fewer than none; as many limits as there are are used up. The walk.
-/
import Derived.Test.YtlcfokndkkjklaaWldL
namespace Go.Proofs.Ytlcfokndkkjklaa
set_option linter.unusedVariables false
set_option linter.unusedSimpArgs false
set_option maxRecDepth 100000
open Go.RowKit

def wrPlan (a : Option Addr) (n c : Nat) (zs : List Int) : PlanD := ⟨0, 0, 0, none, 0, 0, [], a, n, c, zs, none, 0, 0, [], none, 0, 0, []⟩
theorem wrPlan_at {w : World} {a : Option Addr} {n c : Nat} {zs : List Int} (h : IsRow .i64 w a n c zs) : (wrPlan a n c zs).At w := ⟨⟨rfl, fun h => absurd h (by simp [wrPlan])⟩, Nat.zero_le _, h, .inl ⟨rfl, rfl, rfl, rfl⟩, .inl ⟨rfl, rfl, rfl, rfl⟩⟩
theorem wrPlan_chk (a : Option Addr) (n c : Nat) (zs : List Int) : (wrPlan a n c zs).chk = 0 := by unfold wrPlan PlanD.chk; simp [chkL]

theorem u8_range {w : World} {a : Option Addr} {len cap : Nat} {zs : List Int} (h : IsRow .u8 w a len cap zs) {k : Nat} (hk : k < len) : 0 ≤ (zs.take len).getD k 0 ∧ (zs.take len).getD k 0 ≤ 255 := by
  have hl := h.le
  have e : (zs.take len).getD k 0 = zs.getD k 0 := by
    simp only [List.getD_eq_getElem?_getD, List.getElem?_take, if_pos hk]
  rw [e]
  rcases h with ⟨_, h0, _, _⟩ | ⟨x, rfl, h1, h2, h3, h4, h5⟩
  · omega
  · have hw := h5 (zs.getD k 0) (by
      simp only [List.getD_eq_getElem?_getD]
      rw [List.getElem?_eq_getElem (by omega)]
      exact List.getElem_mem _)
    simpa [Lit.wf, IntKind.min, IntKind.max, IntKind.bits, IntKind.signed] using hw

set_option maxHeartbeats 16000000 in
theorem writes_walk (ao : Option Addr) (n c : Nat) (zs : List Int) (bo : Option Addr) (m d : Nat) (ys : List Int) (w : World) (hr : IsRow .i64 w ao n c zs) (hs : IsRow .u8 w bo m d ys) :
    Calls Try.prog 5 #[.slice ao n c, .slice bo m d] w fun e w' => e = .returned (.bool true) ∧ Below w.heap.size w w' := by
  have hll : (zs.take n).length = n := by have := hr.le; simp; omega
  have HR := Lib.hid hr
  have HS := Lib.hid hs
  have HLL := Lib.hid hll
  have hm1 : (n : Int) ≤ 9223372036854775807 := by have := hr.le; unfold maxLen at this; omega
  have hm2 : (m : Int) ≤ 9223372036854775807 := by have := hs.le; unfold maxLen at this; omega
  clear hr hs hll
  by_cases hbig : 100 < n ∨ 100 < m
  · rcases (show 100 < n ∨ (n ≤ 100 ∧ 100 < m) by omega) with hb | ⟨hb, hb2⟩
    all_goals
    go_enter Try.func5, Try.ntmps5
    go_wp2_with fail
    refine (alive_any _).mono ?_
    rintro e w1 ⟨rfl, C1⟩
    go_wp2_with fail
    all_goals (
      refine (alive_any _).mono ?_
      rintro e w2 ⟨rfl, C2⟩
      go_wp2_with fail
      go_ret
      exact ⟨rfl, Chg.below (Below.refl _ _) (C1.trans C2 (U := []) (fun y hy => hy) (by simp)) (by simp) (Nat.le_refl _)⟩)
  · have hb1 : n ≤ 100 := by omega
    have hb2 : m ≤ 100 := by omega
    clear hbig
    go_enter Try.func5, Try.ntmps5
    go_wp2_with fail
    refine (alive_any _).mono ?_
    rintro e w1 ⟨rfl, C1⟩
    go_wp2_with fail
    refine (wNew_any (wrPlan ao n c zs) _ (wrPlan_at (HR.out.chg0 C1)) (wrPlan_chk _ _ _ _) (by show n ≤ _; omega) (by show 0 ≤ _; omega) (by show 0 ≤ _; omega) (fun x hx => by cases hx)).mono ?_
    rintro e w2 ⟨μ, Z, rfl, O2, hz⟩
    clear hz
    have HC1 := Lib.hid C1
    clear C1
    go_wp2_with fail
    go_loopw [38] (fun iv wr => ∃ k : Nat, k ≤ m ∧ iv = .int .i64 k ∧ OwnWd w1 wr μ Z ⟨zs.take n, [], [], 0, 0, k⟩) (fun iv _ => m - (intOf iv).toNat)
    case atStart => exact ⟨0, by omega, rfl, O2⟩
    case round =>
      obtain ⟨k, hk, rfl, hO⟩ := hrel
      have D1 := HC1.out.trans hO.c0 (U := []) (fun y hy => hy) (by simp)
      by_cases hlt : k < m
      · obtain ⟨g, off, rfl, hcell⟩ := (HS.out.chg0 D1).src.int hlt
        obtain ⟨r1, r2⟩ := u8_range HS.out hlt
        generalize (ys.take m).getD k 0 = y at hcell r1 r2
        have HO := Lib.hid hO
        have HD := Lib.hid D1
        clear hO D1
        by_cases hkn : n ≤ k
        · have e1 : wrN (zs.take n) k y = y := by unfold wrN; rw [HLL.out, if_pos hkn]; omega
          have e2 : wrB (zs.take n) k = true := by unfold wrB; rw [HLL.out]; simp [hkn]
          have hkn' : (n : Int) ≤ (k : Int) := by omega
          have E := Lib.hid (And.intro e1 e2)
          clear e1 e2 hkn
          go_wp2_with fail
          refine (oWrite_any _ _ _ _ _ y HO.out (by show k ≤ _; omega)).mono ?_
          rintro e w3 ⟨rfl, F3, O3⟩
          dsimp only at O3 ⊢
          rw [E.out.1, E.out.2]
          have HO3 := Lib.hid O3
          clear F3 O3
          go_wp2_with fail
          go_roundw
          case rel => exact ⟨k + 1, by omega, by go_num, HO3.out⟩
          case measure => simp [intOf]; omega
        · have hkn : k < n := by omega
          have hkn' : (k : Int) < (n : Int) := by omega
          obtain ⟨x, hx⟩ : ∃ x, (zs.take n).getD k 0 = x := ⟨_, rfl⟩
          have HX := Lib.hid hx
          rcases (show x < 0 ∨ (0 ≤ x ∧ x < y) ∨ (0 ≤ x ∧ y ≤ x) by omega) with h | ⟨h, h'⟩ | ⟨h, h'⟩
          · have e1 : wrN (zs.take n) k y = 0 := by unfold wrN; rw [HLL.out, if_neg (by omega), hx, if_pos h]
            have e2 : wrB (zs.take n) k = false := by unfold wrB; rw [HLL.out, hx]; simp; omega
            have E := Lib.hid (And.intro e1 e2)
            clear e1 e2 hx
            go_wp2_with fail
            refine (oWrite_any _ _ _ _ _ y HO.out (by show k ≤ _; omega)).mono ?_
            rintro e w3 ⟨rfl, F3, O3⟩
            dsimp only at O3 ⊢
            rw [E.out.1, E.out.2]
            have HO3 := Lib.hid O3
            have x3 := (HC1.out.trans O3.c0 (U := []) (fun y hy => hy) (by simp))
            obtain ⟨g2, off2, hao, hc2⟩ := (HR.out.chg0 x3).src.int hkn
            rw [HX.out] at hc2
            subst hao
            clear F3 O3 x3
            go_wp2_with fail
            all_goals (
              go_roundw
              case rel => exact ⟨k + 1, by omega, by go_num, HO3.out⟩
              case measure => simp [intOf]; omega)
          · have e1 : wrN (zs.take n) k y = x := by unfold wrN; rw [HLL.out, if_neg (by omega), hx, if_neg (by omega)]; omega
            have e2 : wrB (zs.take n) k = true := by unfold wrB; rw [HLL.out, hx]; simp; omega
            have E := Lib.hid (And.intro e1 e2)
            clear e1 e2 hx
            go_wp2_with fail
            refine (oWrite_any _ _ _ _ _ y HO.out (by show k ≤ _; omega)).mono ?_
            rintro e w3 ⟨rfl, F3, O3⟩
            dsimp only at O3 ⊢
            rw [E.out.1, E.out.2]
            have HO3 := Lib.hid O3
            have x3 := (HC1.out.trans O3.c0 (U := []) (fun y hy => hy) (by simp))
            obtain ⟨g2, off2, hao, hc2⟩ := (HR.out.chg0 x3).src.int hkn
            rw [HX.out] at hc2
            subst hao
            clear F3 O3 x3
            go_wp2_with fail
            all_goals (
              go_roundw
              case rel => exact ⟨k + 1, by omega, by go_num, HO3.out⟩
              case measure => simp [intOf]; omega)
          · have e1 : wrN (zs.take n) k y = y := by unfold wrN; rw [HLL.out, if_neg (by omega), hx, if_neg (by omega)]; omega
            have e2 : wrB (zs.take n) k = true := by unfold wrB; rw [HLL.out, hx]; simp; omega
            have E := Lib.hid (And.intro e1 e2)
            clear e1 e2 hx
            go_wp2_with fail
            refine (oWrite_any _ _ _ _ _ y HO.out (by show k ≤ _; omega)).mono ?_
            rintro e w3 ⟨rfl, F3, O3⟩
            dsimp only at O3 ⊢
            rw [E.out.1, E.out.2]
            have HO3 := Lib.hid O3
            have x3 := (HC1.out.trans O3.c0 (U := []) (fun y hy => hy) (by simp))
            obtain ⟨g2, off2, hao, hc2⟩ := (HR.out.chg0 x3).src.int hkn
            rw [HX.out] at hc2
            subst hao
            clear F3 O3 x3
            go_wp2_with fail
            all_goals (
              go_roundw
              case rel => exact ⟨k + 1, by omega, by go_num, HO3.out⟩
              case measure => simp [intOf]; omega)
      · obtain rfl : k = m := by omega
        have HO := Lib.hid hO
        have HD := Lib.hid D1
        clear hO D1
        go_wp2_with fail
        go_ret
        exact ⟨rfl, Chg.below (Below.refl _ _) HD.out (by simp) (Nat.le_refl _)⟩
end Go.Proofs.Ytlcfokndkkjklaa
