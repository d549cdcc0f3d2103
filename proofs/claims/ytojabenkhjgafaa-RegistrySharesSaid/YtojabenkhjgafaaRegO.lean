/-
  The laws over the registry: the document's example.
-/
import Derived.Test.YtojabenkhjgafaaRegW
import Derived.Test.YtojabenkhjgafaaRegK
namespace Go.Proofs.Ytojabenkhjgafaa
set_option linter.unusedVariables false
open Go.RowKit Go.WideShapes

theorem rowS {w : World} {base : Nat} {v : Value} {n : Nat} {A : List Ent} (h : w.ownsRow base 9 1 v n (namesV A)) (hn : 0 < n) :
    ∃ g c, v = .slice (some ⟨g, 0, none⟩) n c ∧ ∀ k (hk : k < A.length), w.cell? ⟨g, k, none⟩ = some (.string A[k].name) := by
  rcases owns_srcS h with ⟨_, h0⟩ | ⟨g, c, rfl, _, _, hc⟩
  · omega
  · refine ⟨g, c, rfl, fun k hk => ?_⟩
    have := hc k (.string A[k].name) (by simp [namesV, hk])
    rwa [Addr.add_lit, Nat.zero_add] at this

theorem find_one (s t : ByteArray) (a c n : Nat) (l : List Int) (h : s ≠ t) : findP ([] ++ [⟨s, a, c, n, l⟩]) t = none := by simp [findP, h]
theorem find_two (s t : ByteArray) (a c n : Nat) (l : List Int) (B : List Ent) (h : s = t) : findP (([] ++ [⟨s, a, c, n, l⟩]) ++ B) t = some a := by simp [findP, h]

set_option maxRecDepth 100000 in
set_option maxHeartbeats 4000000 in
theorem alive_any (w : World) : Calls Try.prog 9 #[] w fun e w' => e = .returned (.bool true) ∧ Chg [] w w' := by
  go_enter Try.func9, Try.ntmps9
  go_wp2_with fail
  refine (rNew_any w _ (Chg.refl _ _)).mono ?_
  rintro e w1 ⟨rfl, Q1⟩
  generalize w.heap.size + 1 = bR at *
  generalize w.heap.size = bM at *
  go_wp2_with fail
  refine (rMake_ok w bR bM _ [] ⟨#[97]⟩ 5 _ Q1 (by simp [ByteArray.size, maxLen]) (by decide +kernel) rfl (by simp) (by omega) (by omega)).mono ?_
  rintro e w2 ⟨rfl, n2, Q2, _, _⟩
  generalize w1.heap.size + 1 = p1 at *
  generalize w1.heap.size = q1 at *
  go_wp2_with fail
  refine (rMake_ok w bR bM _ _ ⟨#[98]⟩ 3 _ Q2 (by simp [ByteArray.size, maxLen]) (by decide +kernel) (find_one _ _ _ _ _ _ (by decide)) (by simp) (by omega) (by omega)).mono ?_
  rintro e w3 ⟨rfl, n3, Q3, _, _⟩
  generalize w2.heap.size + 1 = p2 at *
  generalize w2.heap.size = q2 at *
  go_wp2_with fail
  refine (rMake_state bR bM _ _ ⟨#[97]⟩ 1 _ Q3.r (by simp [ByteArray.size, maxLen]) (by decide +kernel) p1 (find_two _ _ _ _ _ _ _ rfl)).mono ?_
  rintro e w4 ⟨rfl, rfl⟩
  go_wp2_with fail
  refine (rNames_any bR bM _ _ _ Q3.r).mono ?_
  rintro e w5 ⟨rv, rfl, C5, O5⟩
  have Q5 := Q3.chg0 C5
  obtain ⟨g, c, rfl, hc⟩ := rowS O5 (by simp)
  have c0 := hc 0 (by simp)
  have c1 := hc 1 (by simp)
  simp only [List.nil_append, List.cons_append, List.getElem_cons_zero, List.getElem_cons_succ] at c0 c1
  have hcells := rCells_any bR bM n3 _ w5 Q5.r
  rw [show sumE (([] ++ [(⟨⟨#[97]⟩, p1, q1, 5, []⟩ : Ent)]) ++ [⟨⟨#[98]⟩, p2, q2, 3, []⟩]) = 8 from rfl] at hcells
  rw [show (([] ++ [(⟨⟨#[97]⟩, p1, q1, 5, []⟩ : Ent)]) ++ [(⟨⟨#[98]⟩, p2, q2, 3, []⟩ : Ent)] : List Ent).length = 2 from rfl]
  have hC := Q5.c
  have HC5 := Lib.hid hcells
  clear hcells hc O5 Q1 Q2 Q3 C5
  go_wp2_with fail
  refine HC5.out.mono ?_
  rintro e w6 ⟨rfl, C6⟩
  have k0 := C6.cell c0 (by simp)
  have k1 := C6.cell c1 (by simp)
  have hC6 := hC.trans C6 (U := []) (by simp) (by simp)
  go_wp2_with fail
  go_ret
  exact ⟨rfl, hC6⟩
end Go.Proofs.Ytojabenkhjgafaa
