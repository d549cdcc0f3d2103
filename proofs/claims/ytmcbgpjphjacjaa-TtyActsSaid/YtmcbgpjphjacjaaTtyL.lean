/-
  Layer 17: the law's example.
-/
import Derived.Test.YtmcbgpjphjacjaaTtyC
namespace Go.Proofs.Ytmcbgpjphjacjaa
set_option linter.unusedVariables false
set_option linter.unusedSimpArgs false
set_option maxRecDepth 100000
open Go.RowKit

theorem ttint_row {w : World} {g : Nat} {z : Int} (h : w.heap[g]? = some (.cells #[.int .i64 z] 3 (0, 0))) (hz : (Lit.int .i64 z).wf = true) : IsRow .i64 w (some ⟨g, 0, none⟩) 1 1 [z] :=
  .inr ⟨⟨g, 0, none⟩, rfl, Nat.le_refl _, by unfold maxLen; simp, rfl, fun i hi => by
    rw [Addr.add_lit, cell_of_heap h]
    match i, hi with
    | 0, _ => rfl, fun n hn => by rw [List.mem_singleton.1 hn]; exact hz⟩

def alPlan (h : Nat) : PlanD := ⟨3, 0, 0, none, 0, 0, [], none, 0, 0, [], none, 0, 0, [], some ⟨h, 0, none⟩, 1, 1, [0]⟩

theorem alPlan_at (w : World) : (alPlan w.heap.size).At (w.alloc (.cells #[.int .i64 0] 3)) :=
  ⟨⟨rfl, fun h => absurd h (by unfold alPlan; simp)⟩, Nat.zero_le _, .inl ⟨rfl, rfl, rfl, rfl⟩, .inl ⟨rfl, rfl, rfl, rfl⟩, ttint_row (alloc_heap w _) (by decide)⟩

set_option maxHeartbeats 8000000 in
theorem talive_any (w : World) : Calls Try.prog 9 #[] w fun e w' => e = .returned (.bool true) ∧ Chg [] w w' := by
  have C0 : Chg [] w (w.alloc (.cells #[.int .i64 0] 3)) := (Chg.refl _ _).alloc _
  have HN := Lib.hid (tNew_any (alPlan w.heap.size) _ (alPlan_at w) rfl (by unfold alPlan; simp) (by unfold alPlan; simp) (by unfold alPlan; simp) (by unfold alPlan; simp))
  have HC0 := Lib.hid C0
  clear C0
  go_enter Try.func9, Try.ntmps9
  go_wp2_with fail
  refine (HN.out).mono ?_
  rintro e w1 ⟨⟨bT, v, μ, Z, c, A, E⟩, rfl, T1, hz, h1, h2, h3⟩
  dsimp only at hz h1 h2 h3
  subst h1 h2 h3
  have H1 := Lib.hid (T1.base HC0.out)
  clear hz T1 HN
  go_wp2_with fail
  refine (tGet_ok w w1 bT v μ Z _ _ _ H1.out (by simp [alPlan, PlanD.cnt]) (by show 0 ≤ _; omega) (by show 0 ≤ _; omega)).mono ?_
  rintro e w2 ⟨rfl, v2, G2⟩
  dsimp only at G2 ⊢
  have hx : (alPlan w.heap.size).fl = 3 ∧ (alPlan w.heap.size).mn = 0 ∧ (alPlan w.heap.size).tm = 0 := ⟨rfl, rfl, rfl⟩
  rw [hx.1, hx.2.1, hx.2.2] at G2
  rw [hx.1, hx.2.1, hx.2.2]
  have X := Lib.hid (G2.is.box0 (.cells #[.int .u32 3, .int .u8 0, .int .u8 0] 24))
  clear G2 hx H1
  go_wp2_with fail
  generalize w2.alloc _ = w3 at *
  generalize w2.heap.size = b3 at *
  have H3 := Lib.hid X.out.2.2
  refine (tSet_no w w3 bT v2 μ Z _ _ ⟨0, 0, 0⟩ _ H3.out (by simp [alPlan, PlanD.cnt]) (by show 0 ≤ _; omega) (by show 1 ≤ _; omega)).mono ?_
  rintro e w4 ⟨rfl, v4, G4⟩
  dsimp only at G4
  have X4 := Lib.hid (G4.box ⟨X.out.1, X.out.2.1⟩)
  have H4 := Lib.hid G4.is
  clear G4
  go_wp2_with fail
  refine (tSet_ok w w4 bT v4 μ Z _ _ ⟨0, 1, 0⟩ _ H4.out (by simp [alPlan, PlanD.cnt]) (by show 0 + 1 ≤ _; omega) (by show 2 ≤ _; omega)).mono ?_
  rintro e w5 ⟨rfl, v5, G5⟩
  dsimp only at G5
  have X5 := G5.box X4.out
  have H5 := Lib.hid G5.is
  have y0 : w5.cell? ⟨b3, 0, none⟩ = some (.int .u32 3) := by rw [cell_of_heap X5.1]; rfl
  clear G5 X5
  go_wp2_with fail
  refine (tCalls_at w w5 bT v5 μ Z _ _ _ H5.out).mono ?_
  rintro e w6 ⟨rfl, rfl⟩
  rw [show ∀ (a b c : EfD), ((([] ++ [a] ++ [b] ++ [c] : List EfD).length : Nat) : Int) = 3 from fun _ _ _ => rfl]
  go_wp2_with fail
  refine (tAttrs_at w w5 bT v5 μ Z _ _ _ H5.out).mono ?_
  rintro e w6 ⟨rfl, C6⟩
  dsimp only
  have hfd : ∀ w : World, (Instr.field 24 (.agg #[.int .u32 0, .int .u8 1, .int .u8 0]) 1).run Try.prog w = .ok (.int .u8 1) w := fun _ => by kernel_rfl
  have H6 := Lib.hid ((H5.out.W.c0).trans C6 (U := []) (by simp) (by simp))
  go_wp2_with fail
  go_ret
  exact ⟨rfl, H6.out⟩
end Go.Proofs.Ytmcbgpjphjacjaa
