/-
  TtyNone: of no terminal nothing is told; without an arena, or with one that is too small, nothing comes. The walk.
-/
import Derived.Test.YtmcbgpjphjacjaaTtyN
import Derived.Test.YtmcbgpjphjacjaaTtyL
import Derived.Test.YtmcbgpjphjacjaaCalm
import Derived.Laws.StructEq
namespace Go.Proofs.Ytmcbgpjphjacjaa
set_option linter.unusedVariables false
set_option linter.unusedSimpArgs false
set_option maxRecDepth 100000
open Go.RowKit

def sigIt : ItD := ⟨0, 1, 5, none, 0, 0, []⟩
def sigPlan (h : Nat) : PlanD := ⟨0, 0, 0, some ⟨h, 0, none⟩, 1, 1, [sigIt], none, 0, 0, [], none, 0, 0, [], none, 0, 0, []⟩

theorem sigPlan_at (w : World) : (sigPlan w.heap.size).At (w.alloc (.cells #[.float .f64 0, .int .i64 1, .int .i64 5, .slice none 0 0] 55)) := by
  have hh := alloc_heap w (.cells #[.float .f64 0, .int .i64 1, .int .i64 5, .slice none 0 0] 55)
  refine ⟨⟨rfl, fun _ => ⟨_, _, rfl, fun k x hk => ?_⟩⟩, by unfold sigPlan maxLen; simp, .inl ⟨rfl, rfl, rfl, rfl⟩, .inl ⟨rfl, rfl, rfl, rfl⟩, .inl ⟨rfl, rfl, rfl, rfl⟩⟩
  have hk0 : k = 0 := by
    have := (List.getElem?_eq_some_iff.1 hk).1
    unfold sigPlan at this
    simp at this
    exact this
  subst hk0
  have hx : x = sigIt := by
    unfold sigPlan at hk
    simp at hk
    exact hk.symm
  subst hx
  exact ⟨by rw [cell_of_heap hh]; rfl, by rw [cell_of_heap hh]; rfl, by rw [cell_of_heap hh]; rfl, by rw [cell_of_heap hh]; rfl, BRow.nil _, Wd_zero⟩

theorem one_pr {Z : List Zt} {y : Ele × It} (h : Z.map Zt.pr = [y]) : ∃ z, Z = [z] ∧ z.it = y.2 := by
  cases Z with
  | nil => cases h
  | cons z r =>
    cases r with
    | nil =>
      rw [List.map_cons, List.map_nil] at h
      injection h with h1 _
      exact ⟨z, rfl, congrArg Prod.snd h1⟩
    | cons _ _ => simp at h

theorem small_cap (n : Int) : ∃ c : Nat, 1 ≤ c ∧ c < 64 ∧ wrap64 (1 + wrap64 ((IntKind.u64.wrap n).tmod 63)) = (c : Int) := by
  have hw : IntKind.u64.wrap n = n % 18446744073709551616 := rfl
  have h0 : 0 ≤ n % 18446744073709551616 := Int.emod_nonneg _ (by decide)
  rw [hw, Int.tmod_eq_emod_of_nonneg h0]
  have h1 : 0 ≤ n % 18446744073709551616 % 63 := Int.emod_nonneg _ (by omega)
  have h2 : n % 18446744073709551616 % 63 < 63 := Int.emod_lt_of_pos _ (by omega)
  generalize n % 18446744073709551616 % 63 = r at h1 h2
  refine ⟨(1 + r).toNat, by omega, by omega, ?_⟩
  unfold wrap64
  omega

set_option maxHeartbeats 16000000 in
theorem ttyNone_walk (n : Int) (a : Option Addr) (len cap : Nat) (zs : List Int) (w : World) (hn : (Lit.int .i64 n).wf = true) (hr : IsRow .u8 w a len cap zs) :
    Calls Try.prog 5 #[.int .i64 n, .slice a len cap] w fun e w' => e = .returned (.bool true) ∧ Below w.heap.size w w' := by
  clear hn hr
  go_enter Try.func5, Try.ntmps5
  go_wp2_with fail
  refine (nilGet_any w).mono ?_
  rintro e w1 ⟨rfl, C1⟩
  have hb := alloc_heap w1 (.cells #[.int .u32 0, .int .u8 0, .int .u8 0] 24)
  have C2 := C1.alloc (S := []) (.cells #[.int .u32 0, .int .u8 0, .int .u8 0] 24)
  go_wp2_with fail
  generalize hw2 : w1.alloc _ = w2 at *
  generalize hb2 : w1.heap.size = b2 at *
  refine (nilWrite_any w2 _).mono ?_
  rintro e w3 ⟨rfl, rfl⟩
  go_wp2_with fail
  refine (nilRead_any w2).mono ?_
  rintro e w3 ⟨rfl, rfl⟩
  have hb' := Lib.hid hb
  clear hw2 hb2 hb
  have g0 : ∀ n : Calm w2, n.w.cell? ⟨b2, 0, none⟩ = some (.int .u32 0) := fun n => n.c.cell (by rw [cell_of_heap hb'.out]; rfl) (by simp)
  have g1 : ∀ n : Calm w2, n.w.cell? ⟨b2, 1, none⟩ = some (.int .u8 0) := fun n => n.c.cell (by rw [cell_of_heap hb'.out]; rfl) (by simp)
  have g2 : ∀ n : Calm w2, n.w.cell? ⟨b2, 2, none⟩ = some (.int .u8 0) := fun n => n.c.cell (by rw [cell_of_heap hb'.out]; rfl) (by simp)
  go_wp2_with fail
  refine wp_region_calm (by kernel_rfl) (by kernel_rfl) ?_
  repeat (go_big_quiet_step ((first
    | (go_at_call 13; exact calm_of (nilSet_any _ _ _ _))
    | (go_at_call 15; exact calm_of (nilAttrs_any _))
    | (go_at_call 18; exact calm_same (nilRemember_any _))
    | (go_at_call 19; exact calm_same (nilEffects_any _))
    | (go_at_call 16; exact calm_same (nilCalls_any _)))))
  refine wpQuiet_nil ?_
  intro w' hw'
  obtain ⟨⟨w4, C4⟩, rfl⟩ := hw'
  have C5 := C2.trans C4 (U := []) (by simp) (by simp)
  clear g0 g1 g2 hb' C1 C2 C4
  rename World => w4
  have HN := Lib.hid (tNew_any (sigPlan w4.heap.size) _ (sigPlan_at w4) rfl (by unfold sigPlan; simp) (by unfold sigPlan; simp) (by unfold sigPlan; simp) (by unfold sigPlan sigIt; simp))
  have C6 := Lib.hid (C5.alloc (S := []) (.cells #[.float .f64 0, .int .i64 1, .int .i64 5, .slice none 0 0] 55))
  clear C5
  go_wp2_with fail
  refine (HN.out).mono ?_
  rintro e w5 ⟨⟨bT, v, μ, Z, c, A, E⟩, rfl, T5, hz, h1, h2, h3⟩
  dsimp only at hz h1 h2 h3
  subst h3
  obtain ⟨z, rfl, hzi⟩ := one_pr (y := ((0, 0, 0), itOf sigIt)) (hz.trans (by rfl))
  have HZ := Lib.hid (show z.it.kind = 1 ∧ z.it.n = 5 from ⟨by rw [hzi]; rfl, by rw [hzi]; rfl⟩)
  have HT5 := Lib.hid (T5.base C6.out)
  clear hz hzi h1 h2 T5 HN C6
  go_wp2_with fail
  refine (talive_any _).mono ?_
  rintro e w6 ⟨rfl, C6⟩
  have HT6 := Lib.hid (HT5.out.chg0 C6)
  clear C6 HT5
  obtain ⟨cN, hc1, hc2, hcn⟩ := small_cap n
  go_wp2_with fail
  rw [hcn]
  have HCN := Lib.hid (And.intro hc1 hc2)
  clear hc1 hc2 hcn
  refine (Arn.new_ok cN w6 HCN.out.1 (by have := HCN.out.2; omega)).mono ?_
  rintro e w7 ⟨rfl, C7, A7⟩
  have HT7 := Lib.hid (HT6.out.chg0 C7)
  have hn1 : ¬ Tt.own ⟨bT, v, μ, [z], c, A, []⟩ (w6.heap.size + 1) := fun ho => by have := (HT6.out.own_lt _ ho).2; omega
  have hn2 : ¬ Tt.own ⟨bT, v, μ, [z], c, A, []⟩ w6.heap.size := fun ho => by have := (HT6.out.own_lt _ ho).2; omega
  have hl1 := HT6.out.W.c0.size
  have C8 : Chg [] w7 (w7.alloc (.cells #[.int .u8 7] 5)) := (Chg.refl _ _).alloc _
  have A8 := Lib.hid (A7.chg C8 (by simp) (by simp))
  have hs7 := heap_lt A7.hA
  have hsrc : Arn.SrcIs (w7.alloc (.cells #[.int .u8 7] 5)) (some ⟨w7.heap.size, 0, none⟩) 1 [7] [w6.heap.size + 1, w6.heap.size] := by
    refine ⟨rfl, fun _ => ⟨_, rfl, ?_, fun j u hu => ?_⟩⟩
    · simp
      omega
    · rw [Addr.add_lit, Nat.zero_add, cell_of_heap (alloc_heap w7 _)]
      match j, hu with
      | 0, hu => exact hu
  have HI := Lib.hid (Arn.insert_any _ _ cN [] 0 (some ⟨w7.heap.size, 0, none⟩) 1 1 [7] _ A8.out hsrc)
  have HN := Lib.hid (And.intro hn1 (And.intro hn2 hl1))
  have HT8 := Lib.hid (HT7.out.chg0 C8)
  have he : Hid (Arn.insE cN ([] : List Int).length 0 1 = 0 ∧ Arn.insL cN [] 0 [7] = [7]) := Lib.hid (by
    have := HCN.out
    unfold Arn.insL Arn.insE
    simp
    omega)
  clear hn1 hn2 hl1 C7 A7 C8 hs7 hsrc HT7 HT6
  generalize w6.heap.size = bC at *
  rw [he.out.1] at HI
  rw [he.out.2] at HI
  clear he
  go_wp2_with fail
  refine (HI.out).mono ?_
  rintro e w9 ⟨rfl, C9, A9⟩
  have HR9 := Lib.hid (show RdOk w w9 ⟨bT, v, μ, [z], c, A, []⟩ (bC + 1) bC cN [7] from ⟨HT8.out.chg C9 (fun x hx => by
    rcases List.mem_cons.1 hx with e | e
    · exact ⟨e ▸ HN.out.1, by have := HN.out.2.2; omega⟩
    · exact ⟨(List.mem_singleton.1 e) ▸ HN.out.2.1, by have := List.mem_singleton.1 e; have := HN.out.2.2; omega⟩), A9, HN.out.1, HN.out.2.1, by have := HN.out.2.2; omega, HN.out.2.2⟩)
  clear C9 A9 HI A8 HT8
  go_wp2_with fail
  refine (noRead_any w9 bT).mono ?_
  rintro e w10 ⟨rfl, rfl⟩
  go_wp2_with fail
  refine (smallRead_any w9 bT _ _ cN [7] HR9.out.Ar HCN.out.2).mono ?_
  rintro e w10 ⟨rfl, rfl⟩
  go_wp2_with fail
  refine (tCalls_at w w9 bT v μ [z] c A [] HR9.out.T).mono ?_
  rintro e w10 ⟨rfl, rfl⟩
  go_wp2_with fail
  refine (Arn.len_any _ _ cN [7] w9 HR9.out.Ar).mono ?_
  rintro e w10 ⟨rfl, rfl⟩
  go_wp2_with fail
  refine (Arn.new_ok 64 w9 (by omega) (by omega)).mono ?_
  rintro e w10 ⟨rfl, C10, A10⟩
  have T10 := HR9.out.T.chg0 C10
  have hl := HR9.out.T.W.c0.size
  have HR10 := Lib.hid (show RdOk w w10 ⟨bT, v, μ, [z], c, A, []⟩ (w9.heap.size + 1) w9.heap.size 64 [] from ⟨T10, A10, fun ho => by have := (HR9.out.T.own_lt _ ho).2; omega, fun ho => by have := (HR9.out.T.own_lt _ ho).2; omega, by omega, hl⟩)
  clear C10 A10 T10 hl HR9
  generalize w9.heap.size = bD at *
  go_wp2_with fail
  refine (tRead_sig w w10 bT (bD + 1) bD 64 v μ z [] c A [] [] HR10.out (by omega) (by simp) HZ.out.1).mono ?_
  rintro e w11 ⟨rfl, v', mv, G⟩
  rw [HZ.out.2] at G ⊢
  have HG := Lib.hid G
  clear G HR10 HZ
  go_wp2_with fail
  refine (tCalls_at w w11 bT v' _ [] c A _ HG.out.ok.T).mono ?_
  rintro e w12 ⟨rfl, rfl⟩
  go_wp2_with fail
  go_ret
  exact ⟨rfl, Chg.below (Below.refl _ _) HG.out.ok.T.W.c0 (by simp) (Nat.le_refl _)⟩
end Go.Proofs.Ytmcbgpjphjacjaa
