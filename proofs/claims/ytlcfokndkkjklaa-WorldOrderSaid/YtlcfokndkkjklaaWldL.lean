/-
  Layer 16's law: its example.
-/
import Derived.Test.YtlcfokndkkjklaaWldE
import Derived.Lib.SliceRun
import Derived.Lib.SlBytesConst
namespace Go.Proofs.Ytlcfokndkkjklaa
set_option linter.unusedVariables false
set_option linter.unusedSimpArgs false
set_option maxRecDepth 100000
open Go.RowKit
attribute [local go_sem] run_store_float'

/-- The words of 1 and 2. -/
def f1w : Nat := 4607182418800017408
def f2w : Nat := 4611686018427387904
theorem Wd_f1 : Wd f1w := Wd_lit _ (by decide +kernel)
theorem Wd_f2 : Wd f2w := Wd_lit _ (by decide +kernel)

/-- The example's plan. -/
def exPlan (g h : Nat) : PlanD := ⟨0, 0, 0, some ⟨h, 0, none⟩, 2, 2, [⟨f2w, 0, 0, some ⟨g, 0, none⟩, 2, 2, [97, 98]⟩, ⟨f1w, 1, 9, none, 0, 0, []⟩], none, 0, 0, [], none, 0, 0, [], none, 0, 0, []⟩

theorem exPlan_chk (g h : Nat) : (exPlan g h).chk = 0 := by
  unfold exPlan PlanD.chk
  simp [chkL, chk1]

theorem exPlan_ord (g h : Nat) : ordP (exPlan g h).its (exPlan g h).il = [((f1w, 1, 1), ⟨f1w, 1, 9, []⟩), ((f2w, 0, 0), ⟨f2w, 0, 0, [97, 98]⟩)] := by kernel_rfl

theorem exPlan_at {w : World} {g h : Nat} {fr : Nat × Nat} (hg : w.heap[g]? = some (.cells #[.int .u8 97, .int .u8 98] 5 fr)) (hh : w.heap[h]? = some (.cells #[.float .f64 f2w, .int .i64 0, .int .i64 0, .slice (some ⟨g, 0, none⟩) 2 2, .float .f64 f1w, .int .i64 1, .int .i64 9, .slice none 0 0] 26 (0, 0))) : (exPlan g h).At w := by
  have cg := fun j => cell_of_heap hg j
  have ch := fun j => cell_of_heap hh j
  refine ⟨⟨rfl, fun _ => ⟨h, 0, rfl, fun k x hx => ?_⟩⟩, by unfold exPlan maxLen; simp, .inl ⟨rfl, rfl, rfl, rfl⟩, .inl ⟨rfl, rfl, rfl, rfl⟩, .inl ⟨rfl, rfl, rfl, rfl⟩⟩
  match k, hx with
  | 0, hx =>
    cases hx
    refine ⟨by rw [ch]; rfl, by rw [ch]; rfl, by rw [ch]; rfl, by rw [ch]; rfl, IsRow.row (.inr ⟨⟨g, 0, none⟩, rfl, Nat.le_refl _, by unfold maxLen; simp, rfl, fun i hi => ?_, fun n hn => ?_⟩), Wd_f2⟩
    · rw [Addr.add_lit, cg]
      match i, hi with
      | 0, _ => rfl
      | 1, _ => rfl
    · simp only [List.mem_cons, List.not_mem_nil, or_false] at hn
      rcases hn with rfl | rfl <;> decide
  | 1, hx =>
    cases hx
    exact ⟨by rw [ch]; rfl, by rw [ch]; rfl, by rw [ch]; rfl, by rw [ch]; rfl, BRow.nil _, Wd_f1⟩
  | k + 2, hx => cases hx

theorem two_of {Z : List Zt} {a b : Ele × It} (h : Z.map Zt.pr = [a, b]) : ∃ z1 z2, Z = [z1, z2] ∧ z1.pr = a ∧ z2.pr = b := by
  match Z, h with
  | [z1, z2], h =>
    simp only [List.map_cons, List.map_nil, List.cons.injEq, and_true] at h
    exact ⟨z1, z2, rfl, h.1, h.2⟩

theorem conv_at {w : World} {ao : Option Addr} {n c : Nat} {xs : List Int} (h : SrcAt w ao n c (valsOf .u8 xs)) : (convert 24 9 (.slice ao n c)).run Try.prog w = .ok (.string (strOfNums xs)) w := by
  have hl : xs.length = n := by have := h.1; rwa [valsOf_length] at this
  by_cases hm : n = 0
  · subst hm
    have hx : xs = [] := List.eq_nil_of_length_eq_zero hl
    subst hx
    cases ao with
    | none => exact run_convert_bytes_nil w _ 5 Try.underlying24 Try.underlying5 0 c _ Try.underlying9
    | some ad =>
      have hl : (loadCells ad 0).run Try.prog w = .ok (([] : List Int).map (Value.int .u8)).toArray w := rfl
      rw [run_convert_bytes_string w _ _ 5 _ 0 c Try.underlying24 Try.underlying5 Try.underlying9, run_bytesToString w ad 0 c [] hl]
      rfl
  · obtain ⟨b, off, rfl, _⟩ := h.int (j := 0) (by omega)
    refine run_convert_bytes_arg w _ 5 Try.underlying24 Try.underlying5 b off n c xs hl (fun i hi => ?_) _ Try.underlying9
    obtain ⟨b', off', e, hc⟩ := h.int (j := i) (by omega)
    injection e with e
    injection e with e1 e2 _
    subst e1 e2
    exact hc

theorem owns_keepF {w w' : World} {base : Nat} {e : TypeId} {v : Value} {n : Nat} {xs : List Value} {f : Nat → Nat} (h : w.ownsRow base e 1 v n xs) (c : ChgF f w w') (hv : ∀ k, v.ownBlock = some k → f k = 0) : w'.ownsRow base e 1 v n xs := by
  obtain ⟨S, k1, k2⟩ := c
  exact owns_keep h k1 (fun j hj hm => k2 j hm (hv j hj))

set_option maxHeartbeats 8000000 in
theorem alive_any (w : World) : Calls Try.prog 11 #[] w fun e w' => e = .returned (.bool true) ∧ Chg [] w w' := by
  have kc := fun (w : World) (C : Array Value) (n c : Nat) => Lib.run_convert_bytes_const (P := Try.prog) w 24 5 C n c Try.underlying24 Try.underlying5
  have k1 : Chg [] w (w.alloc (.cells #[.int .u8 97, .int .u8 98] 5 (2, 3))) := (Chg.refl _ _).alloc _
  have k2 : Chg [] w ((w.alloc (.cells #[.int .u8 97, .int .u8 98] 5 (2, 3))).alloc (.cells #[.float .f64 f2w, .int .i64 0, .int .i64 0, .slice (some ⟨w.heap.size, 0, none⟩) 2 2, .float .f64 f1w, .int .i64 1, .int .i64 9, .slice none 0 0] 26)) := k1.alloc _
  have hP : (exPlan w.heap.size (w.heap.size + 1)).At ((w.alloc (.cells #[.int .u8 97, .int .u8 98] 5 (2, 3))).alloc (.cells #[.float .f64 f2w, .int .i64 0, .int .i64 0, .slice (some ⟨w.heap.size, 0, none⟩) 2 2, .float .f64 f1w, .int .i64 1, .int .i64 9, .slice none 0 0] 26)) :=
    exPlan_at (alloc_keeps (alloc_heap w _)) (alloc2_heap w _ _)
  have HP := Lib.hid hP
  have HK := Lib.hid k2
  clear hP k1 k2
  go_enter Try.func11, Try.ntmps11
  go_wp2_with fail
  refine (wNew_any (exPlan w.heap.size (w.heap.size + 1)) _ HP.out (exPlan_chk _ _) (by unfold exPlan; simp) (by unfold exPlan; simp) (by unfold exPlan; simp) (fun x hx => ?_)).mono ?_
  · unfold exPlan at hx
    simp only [List.mem_cons, List.not_mem_nil, or_false] at hx
    rcases hx with rfl | rfl <;> simp
  rintro e w1 ⟨μ, Z, rfl, O1, hz⟩
  rw [exPlan_ord] at hz
  obtain ⟨z1, z2, rfl, h1, h2⟩ : ∃ z1 z2, Z = [z1, z2] ∧ z1.pr = ((f1w, 1, 1), ⟨f1w, 1, 9, []⟩) ∧ z2.pr = ((f2w, 0, 0), ⟨f2w, 0, 0, [97, 98]⟩) := by
    exact two_of hz
  have i1 : z1.it = ⟨f1w, 1, 9, []⟩ := congrArg (·.2) h1
  have i2 : z2.it = ⟨f2w, 0, 0, [97, 98]⟩ := congrArg (·.2) h2
  have D1 := HK.out.trans (O1.c0) (U := []) (by simp) (by simp)
  clear hz h1 h2
  have I1 := Lib.hid i1
  have I2 := Lib.hid i2
  clear i1 i2
  have a1 : z1.it.kind = 1 := by rw [I1.out]
  have a2 : z1.it.n = 9 := by rw [I1.out]
  have a3 : z2.it.kind = 0 := by rw [I2.out]
  have a4 : z2.it.bs = [97, 98] := by rw [I2.out]
  have A1 := Lib.hid (And.intro a1 a2)
  have A2 := Lib.hid (And.intro a3 a4)
  clear a1 a2 a3 a4
  go_wp2_with fail
  refine (oNext_far _ _ μ z1 [z2] _ 1 O1 (by omega) (by rw [A1.out.1]; decide)).mono ?_
  rintro e w2 ⟨rfl, F2, v2, O2⟩
  rw [A1.out.1, A1.out.2]
  have D2 := Lib.hid F2
  clear F2 O1
  go_wp2_with fail
  refine (oNext_dat _ _ _ z2 [] _ 1 1 O2 (by omega) A2.out.1 (.inl ⟨rfl, by rw [A2.out.2]; decide⟩)).mono ?_
  rintro e w3 ⟨rv3, rfl, F3, R3, fo3, v3, O3⟩
  rw [if_neg (by rw [A2.out.2]; decide)] at O3
  rw [A2.out.2] at R3
  have D3 := Lib.hid F3
  have HR3 := Lib.hid (And.intro R3 fo3)
  obtain ⟨a3, c3, rfl, _, _⟩ := owns_srcAt R3
  have A3 : Hid ((z2.cut 1).it.kind = 0 ∧ (z2.cut 1).it.bs = [98]) := Lib.hid ⟨A2.out.1, by unfold Zt.cut; dsimp only; rw [A2.out.2]; rfl⟩
  clear F3 R3 fo3 O2
  go_wp2_with fail
  refine (oNext_dat _ _ _ (z2.cut 1) [] _ 5 1 O3 (by omega) A3.out.1 (.inr ⟨by rw [A3.out.2]; rfl, by rw [A3.out.2]; decide⟩)).mono ?_
  rintro e w4 ⟨rv4, rfl, F4, R4, fo4, v4, O4⟩
  rw [if_pos (by rw [A3.out.2]; rfl)] at O4
  rw [A3.out.2] at R4
  obtain ⟨a4, c4, rfl, S4, _⟩ := owns_srcAt R4
  obtain ⟨_, _, e3, S3, _⟩ := owns_srcAt (owns_keepF HR3.out.1 F4 HR3.out.2)
  injection e3 with e3a _ e3b
  subst e3a e3b
  have cv3 := conv_at S3
  have cv4 := conv_at S4
  have D4 := Lib.hid F4
  have l1 : (strOfNums [97]) = ⟨#[97]⟩ := by decide +kernel
  have l2 : (strOfNums [98]) = ⟨#[98]⟩ := by decide +kernel
  have l3 : ([97, 98] : List Int).take 1 = [97] := rfl
  have l4 : ([98] : List Int).take 1 = [98] := rfl
  rw [l3, l1] at cv3
  rw [l4, l2] at cv4
  clear l1 l2 l3 l4 F4 R4 fo4 O3 S3 S4
  go_wp2_with fail
  refine (oNext_none _ _ _ _ 1 O4 (by omega)).mono ?_
  rintro e w5 ⟨rfl, rfl⟩
  have HO4 := Lib.hid O4
  clear O4
  go_wp2_with fail
  go_ret
  exact ⟨rfl, HK.out.trans HO4.out.c0 (by simp) (by simp)⟩
end Go.Proofs.Ytlcfokndkkjklaa
