/-
  WorldNone: of no world nothing is told; of a plan without items all has come. The walk.
-/
import Derived.Test.YtlcfokndkkjklaaWldL
namespace Go.Proofs.Ytlcfokndkkjklaa
set_option linter.unusedVariables false
set_option linter.unusedSimpArgs false
set_option maxRecDepth 100000
open Go.RowKit

theorem nNext_any (most : Int) (w : World) : Calls Try.prog 15 #[.pointer none, .int .i64 most] w fun e w' => e = .returned (.tuple #[.int .i64 0, .int .i64 0, .slice none 0 0, .int .i64 1]) ∧ w = w' := by
  go_enter Try.func15, Try.ntmps15
  go_wp2_with fail
  exact ⟨rfl, _, by simp [results, Try.results15, go_sem], rfl, rfl⟩
theorem nWrite_any (n : Int) (w : World) : Calls Try.prog 16 #[.pointer none, .int .i64 n] w fun e w' => e = .returned (.tuple #[.int .i64 0, .bool false]) ∧ w = w' := by
  go_enter Try.func16, Try.ntmps16
  go_wp2_with fail
  go_ret2
  exact ⟨rfl, rfl⟩
theorem nGet_any (w : World) : Calls Try.prog 17 #[.pointer none] w fun e w' => e = .returned (.bool false) ∧ w = w' := by
  go_enter Try.func17, Try.ntmps17
  go_wp2_with fail
  go_ret
  exact ⟨rfl, rfl⟩
theorem nSet_any (w : World) : Calls Try.prog 18 #[.pointer none] w fun e w' => e = .returned (.bool false) ∧ w = w' := by
  go_enter Try.func18, Try.ntmps18
  go_wp2_with fail
  go_ret
  exact ⟨rfl, rfl⟩
theorem nLeft_any (w : World) : Calls Try.prog 12 #[.pointer none] w fun e w' => e = .returned (.int .i64 0) ∧ w = w' := by
  go_enter Try.func12, Try.ntmps12
  go_wp2_with fail
  go_ret
  exact ⟨rfl, rfl⟩

/-- The plan without anything. -/
def noPlan : PlanD := ⟨0, 0, 0, none, 0, 0, [], none, 0, 0, [], none, 0, 0, [], none, 0, 0, []⟩
theorem noPlan_at (w : World) : noPlan.At w := ⟨⟨rfl, fun h => absurd h (by decide)⟩, Nat.zero_le _, .inl ⟨rfl, rfl, rfl, rfl⟩, .inl ⟨rfl, rfl, rfl, rfl⟩, .inl ⟨rfl, rfl, rfl, rfl⟩⟩
theorem noPlan_chk : noPlan.chk = 0 := by unfold noPlan PlanD.chk; simp [chkL]

theorem map_nil_of {Z : List Zt} (h : Z.map Zt.pr = []) : Z = [] := List.map_eq_nil_iff.1 h

set_option maxHeartbeats 8000000 in
theorem none_walk (n : Int) (w : World) (hn : (Lit.int .i64 n).wf = true) : Calls Try.prog 8 #[.int .i64 n] w fun e w' => e = .returned (.bool true) ∧ Below w.heap.size w w' := by
  have hb : -9223372036854775808 ≤ n ∧ n ≤ 9223372036854775807 := by simpa [Lit.wf, IntKind.min, IntKind.max, IntKind.bits, IntKind.signed] using hn
  have HB := Lib.hid hb
  clear hb hn
  have hcase : (0 < n ∧ ∃ y, y = n ∧ wrN noPlan.cnt.ws noPlan.cnt.wrote n = y) ∨ (n ≤ 0 ∧ ∃ y, y = (0 : Int) ∧ wrN noPlan.cnt.ws noPlan.cnt.wrote n = y) := by
    have e : wrN noPlan.cnt.ws noPlan.cnt.wrote n = max 0 n := by unfold wrN; exact if_pos (Nat.le_refl 0)
    rw [e]
    by_cases h : 0 < n
    · exact .inl ⟨h, n, rfl, by omega⟩
    · exact .inr ⟨by omega, 0, rfl, by omega⟩
  have hwb : wrB noPlan.cnt.ws noPlan.cnt.wrote = true := rfl
  have hg : (!decide ((noPlan.cnt.got : Int) ∈ noPlan.cnt.gs)) = true := rfl
  have hs : (!decide ((noPlan.cnt.set : Int) ∈ noPlan.cnt.ss)) = true := rfl
  have HW := Lib.hid hwb
  have HG := Lib.hid hg
  have HS := Lib.hid hs
  clear hwb hg hs
  rcases hcase with ⟨hn, y, rfl, hy⟩ | ⟨hn, y, rfl, hy⟩
  all_goals
  have HY := Lib.hid hy
  clear hy
  go_enter Try.func8, Try.ntmps8
  go_wp2_with (first | (go_at_call 15; refine (nNext_any _ _).mono ?_; rintro e w' ⟨rfl, rfl⟩) | (go_at_call 16; refine (nWrite_any _ _).mono ?_; rintro e w' ⟨rfl, rfl⟩) | (go_at_call 17; refine (nGet_any _).mono ?_; rintro e w' ⟨rfl, rfl⟩) | (go_at_call 18; refine (nSet_any _).mono ?_; rintro e w' ⟨rfl, rfl⟩) | (go_at_call 12; refine (nLeft_any _).mono ?_; rintro e w' ⟨rfl, rfl⟩))
  refine (wNew_any noPlan _ (noPlan_at _) noPlan_chk (by decide) (by decide) (by decide) (fun x hx => by cases hx)).mono ?_
  rintro e w1 ⟨μ, Z, rfl, O1, hz⟩
  obtain rfl : Z = [] := map_nil_of hz
  clear hz
  go_wp2_with fail
  refine (alive_any _).mono ?_
  rintro e w2 ⟨rfl, C2⟩
  have O2 := O1.chg0 C2
  clear O1 C2
  go_wp2_with fail
  all_goals (
    refine (oNext_none _ _ _ _ _ O2 (by omega)).mono ?_
    rintro e w3 ⟨rfl, rfl⟩
    go_wp2_with fail
    refine (oWrite_any _ _ _ _ _ _ O2 (by decide)).mono ?_
    rintro e w4 ⟨rfl, F4, O4⟩
    rw [HY.out, HW.out]
    clear O2 F4
    go_wp2_with fail)
  all_goals (
    refine (oGet_any _ _ _ _ _ O4 (by decide)).mono ?_
    rintro e w5 ⟨rfl, F5, O5⟩
    rw [show (!decide ((({ noPlan.cnt with wrote := noPlan.cnt.wrote + 1 } : Wc).got : Int) ∈ ({ noPlan.cnt with wrote := noPlan.cnt.wrote + 1 } : Wc).gs)) = true from rfl]
    clear O4 F5
    go_wp2_with fail)
  all_goals (
    refine (oSet_any _ _ _ _ _ O5 (by decide)).mono ?_
    rintro e w6 ⟨rfl, F6, O6⟩
    clear O5 F6
    go_wp2_with fail)
  all_goals (
    refine (oLeft_any _ _ _ _ _ O6).mono ?_
    rintro e w7 ⟨rfl, rfl⟩
    have HO := Lib.hid O6
    clear O6
    go_wp2_with fail
    go_ret
    exact ⟨rfl, Chg.below (Below.refl _ _) HO.out.c0 (by simp) (Nat.le_refl _)⟩)
end Go.Proofs.Ytlcfokndkkjklaa
