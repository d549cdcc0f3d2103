/-
  QueueOrder: what is pushed is popped once, in the order of moments. The walk.
-/
import Derived.Test.YtaddnhdfdpaieaaWords
namespace Go.Proofs.Ytaddnhdfdpaieaa
set_option linter.unusedVariables false
open Go.RowKit

/-- The infinity below. -/
def nI : Nat := 18442240474082181120
theorem Wd_nI : Wd nI := Wd_lit _ (by decide +kernel)

set_option maxHeartbeats 400000 in
theorem ninf_any (w : World) : Calls Try.prog 19 #[.int .i64 (-1)] w fun e w' => e = .returned (.float .f64 nI) ∧ w = w' := by
  have hf := frombits_run
  go_enter Try.func19, Try.ntmps19
  go_wp2
  go_ret
  exact ⟨closed_float (by decide +kernel), rfl⟩

theorem ninf_least (b : Nat) (h : Wd b) : keyF nI ≤ keyF b := by
  have e : keyF nI = 4503599627370495 := by decide +kernel
  rw [e]
  unfold Wd at h
  unfold keyF
  cases hn : nanF b with
  | true => simp
  | false =>
    have hn' : ¬ 9218868437227405312 < b % 9223372036854775808 := of_decide_eq_false hn
    simp only [Bool.false_eq_true, if_false]
    split <;> omega

/-- All that was pushed: the k-th word, the number k. -/
def Fed (ws : List Nat) (k : Nat) (M : List Ele) : Prop := ∀ x ∈ M, ∃ n : Nat, n < k ∧ x = (ws.getD n 0, (n : Int), (n : Int))

theorem Fed.push {ws : List Nat} {k : Nat} {M : List Ele} (h : Fed ws k M) : Fed ws (k + 1) (insQ oE M (ws.getD k 0, (k : Int), (k : Int))) := by
  intro x hx
  rcases List.mem_append.1 ((insQ_perm oE M _).mem_iff.1 hx) with hx | hx
  · obtain ⟨n, hn, e⟩ := h x hx
    exact ⟨n, by omega, e⟩
  · exact ⟨k, by omega, List.mem_singleton.1 hx⟩

/-- All that is left stands behind what came last. -/
def After (lb : Nat) (nb : Int) (M : List Ele) : Prop := ∀ y ∈ M, keyF lb < keyF y.1 ∨ keyF lb = keyF y.1 ∧ nb < y.2.1

theorem after_next {ws : List Nat} {k : Nat} {b n : Nat} {M : List Ele} (hf : Fed ws k ((b, (n : Int), (n : Int)) :: M)) (hs : ((b, (n : Int), (n : Int)) :: M).Pairwise (fun x y => oE x < oE y)) (hk : k ≤ 1000000) : After b n M := by
  intro y hy
  have h1 := (List.pairwise_cons.1 hs).1 y hy
  obtain ⟨m, hm, e⟩ := hf y (List.mem_cons_of_mem _ hy)
  obtain ⟨n', hn, e'⟩ := hf _ List.mem_cons_self
  injection e' with _ e2
  injection e2 with e3 _
  subst e
  unfold oE at h1
  simp only [Int.toNat_natCast] at h1
  show keyF b < keyF (ws.getD m 0) ∨ keyF b = keyF (ws.getD m 0) ∧ (n : Int) < (m : Int)
  omega

theorem QueIs.sorted {w : World} {bQ : Nat} {v : Value} {M : List Ele} {p : Nat} (h : QueIs w bQ v M p) : M.Pairwise (fun x y => oE x < oE y) := by
  obtain ⟨H, _, hs⟩ := h.row
  exact hs.sorted

set_option maxRecDepth 100000 in
set_option maxHeartbeats 8000000 in
theorem queueOrder_walk (a0 : Option Addr) (len cap : Nat) (zs : List Int) (w : World) (hr : IsRow .u64 w a0 len cap zs) :
    Calls Try.prog 6 #[.slice a0 len cap] w fun e w' => e = .returned (.bool true) ∧ Below w.heap.size w w' := by
  obtain ⟨hlc, hcm, hzl⟩ := hr.le
  unfold maxLen at hcm
  have hW := hr.words
  generalize (zs.take len).map Int.toNat = ws at hW
  clear hr hzl
  have hf := frombits_run
  have hb := bits_run
  by_cases hbig : 400 < len
  · have hbig' : (400 : Int) < (len : Int) := by omega
    go_enter Try.func6, Try.ntmps6
    go_wp2_with fail
    refine (oNew_any w _ (Chg.refl _ _)).mono ?_
    rintro e w1 ⟨rfl, Q1⟩
    have HQ := Lib.hid Q1
    clear Q1
    go_wp2_with fail
    refine (alive_any _).mono ?_
    rintro e w2' ⟨rfl, C2⟩
    go_wp2_with fail
    refine (alive_any _).mono ?_
    rintro e w3' ⟨rfl, C3⟩
    go_wp2_with fail
    go_ret
    exact ⟨rfl, Chg.below (Below.refl _ _) ((HQ.out.c.trans C2 (U := []) (by simp) (by simp)).trans C3 (U := []) (by simp) (by simp)) (by simp) (Nat.le_refl _)⟩
  · go_enter Try.func6, Try.ntmps6
    go_wp2_with fail
    refine (oNew_any w _ (Chg.refl _ _)).mono ?_
    rintro e w1 ⟨rfl, Q1⟩
    obtain ⟨bQ, hbQ⟩ : ∃ bQ, bQ = w.heap.size := ⟨_, rfl⟩
    rw [← hbQ] at Q1 ⊢
    clear hbQ
    go_wp2_with fail
    refine (alive_any _).mono ?_
    rintro e w2' ⟨rfl, C2⟩
    have Q2 := Q1.chg0 C2
    clear Q1 C2
    have HW := Lib.hid hW
    clear hW
    go_wp2_with fail
    go_loopw [30] (fun i wr => ∃ (k : Nat) (v : Value) (M : List Ele), k ≤ len ∧ i = .int .i64 k ∧ OwnQ w wr bQ v M k ∧ Hid (M.length = k ∧ Fed ws k M)) (fun i _ => len - (intOf i).toNat)
    case atStart => exact ⟨0, _, [], by omega, rfl, Q2, Lib.hid ⟨rfl, fun x hx => by cases hx⟩⟩
    case round =>
      obtain ⟨k, v, M, hk, rfl, hq, hl⟩ := hrel
      by_cases hlt : k < len
      · obtain ⟨b1, b, off, rfl, hc⟩ := (HW.out.chg hq.c).2 k hlt
        have HF := Lib.hid (hl.out.2.push)
        generalize ws.getD k 0 = b0 at *
        go_wp2_with fail
        refine (oPush_any w bQ v M k b0 k _ hq (by have := hl.out.1; omega) b1 (by omega)).mono ?_
        rintro e w3 ⟨rfl, v3, Q3⟩
        go_wp2_with fail
        go_roundw
        case rel => exact ⟨k + 1, v3, _, by omega, by go_num, Q3, Lib.hid ⟨by rw [(insQ_perm _ _ _).length_eq]; simp [hl.out.1], HF.out⟩⟩
        case measure => simp [intOf]; omega
      · obtain rfl : k = len := by omega
        go_wp2_with (go_at_call 19; refine (ninf_any _).mono ?_; rintro e w' ⟨rfl, rfl⟩)
        obtain ⟨wo, hwo⟩ : ∃ wo : World, wo = wr := ⟨_, rfl⟩
        rw [← hwo] at hq ⊢
        clear hwo
        have HL := Lib.hid hl
        go_loopw [6, 7, 45] (fun lv nv i wr => ∃ (j lb : Nat) (nb : Int) (v : Value) (M : List Ele), j ≤ k ∧ i = .int .i64 j ∧ lv = .float .f64 lb ∧ nv = .int .i64 nb ∧ Hid (Wd lb) ∧ OwnQ w wr bQ v M k ∧ Hid (M.length = k - j ∧ Fed ws k M ∧ After lb nb M)) (fun _ _ i _ => k - (intOf i).toNat)
        case atStart =>
          refine ⟨0, nI, -1, v, M, by omega, rfl, rfl, rfl, Lib.hid Wd_nI, hq, Lib.hid ⟨by rw [hl.out.1]; omega, hl.out.2, fun y hy => ?_⟩⟩
          have := ninf_least y.1 (hq.q.ok y hy).1
          obtain ⟨n, _, e⟩ := hl.out.2 y hy
          subst e
          show keyF nI < keyF (ws.getD n 0) ∨ keyF nI = keyF (ws.getD n 0) ∧ (-1 : Int) < (n : Int)
          dsimp only at this
          omega
        case round =>
          obtain ⟨j, lb, nb, v, M, hj, rfl, rfl, rfl, hlb, hq, hl⟩ := hrel
          by_cases hlt2 : j < k
          · cases M with
            | nil => have := hl.out.1; simp at this; omega
            | cons x M' =>
              obtain ⟨l1, l2, l3⟩ := hl.out
              obtain ⟨n, hn, rfl⟩ := l2 x List.mem_cons_self
              have HF := Lib.hid (show Fed ws k M' from fun y hy => l2 y (List.mem_cons_of_mem _ hy))
              have HA := Lib.hid (after_next l2 hq.q.sorted (by omega))
              have HL2 := Lib.hid (show M'.length = k - (j + 1) by simp at l1; omega)
              have l4 := l3 _ List.mem_cons_self
              dsimp only at l4
              obtain ⟨b1, b, off, rfl, hc⟩ := HW.out.2 n hn
              have hcw := Lib.hid hc
              have HB := Lib.hid b1
              clear l1 l2 l3 hl HL hc b1
              generalize ws.getD n 0 = b0 at *
              have hn1 : (n : Int) < (k : Int) := by omega
              have hn2 : ¬ (n : Int) < 0 := by omega
              have hcmp : (cmpF lb b0 = -1) ∨ (cmpF lb b0 = 0 ∧ nb < (n : Int)) := by
                rcases cmpF_tri lb b0 with ⟨h1, h2⟩ | ⟨h1, h2⟩ | ⟨h1, h2⟩
                · exact .inl h2
                · exact .inr ⟨h2, by omega⟩
                · omega
              clear l4
              go_wp2_with fail
              refine (oPop_any w bQ v _ M' k _ hq).mono ?_
              rintro e w4 ⟨rfl, v4, Q4⟩
              have hc4 := Q4.c.cell hcw.out (by simp)
              go_wp2_with fail
              go_quiet (fail)
              go_wp2_with fail
              refine (compare_any _ _ _ hlb.out HB.out).mono ?_
              rintro e w5 ⟨rfl, rfl⟩
              rcases hcmp with h | ⟨h, h6⟩
              all_goals (
                rw [h]
                clear h
                go_wp2_with fail
                go_roundw
                case rel => exact ⟨j + 1, b0, n, v4, M', by omega, by go_num, rfl, rfl, HB, Q4.chg0 ((Chg.refl _ _).drewN _), Lib.hid ⟨HL2.out, HF.out, HA.out⟩⟩
                case measure => simp [intOf]; omega)
          · obtain rfl : j = k := by omega
            have h0 : M = [] := List.eq_nil_of_length_eq_zero (by rw [hl.out.1]; omega)
            subst h0
            have hq' : QueIs wr bQ v [] j := hq.q
            go_wp2_with fail
            refine (qPop_none bQ v j _ hq').mono ?_
            rintro e w4 ⟨rfl, rfl⟩
            go_wp2_with (go_at_call 14; refine (qLen_any bQ v [] j _ hq').mono ?_; rintro e w5' ⟨rfl, rfl⟩)
            go_ret
            exact ⟨rfl, Chg.below (Below.refl _ _) hq.c (by simp) (Nat.le_refl _)⟩
end Go.Proofs.Ytaddnhdfdpaieaa
