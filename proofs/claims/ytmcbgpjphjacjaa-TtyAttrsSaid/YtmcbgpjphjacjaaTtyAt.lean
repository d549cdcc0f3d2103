/-
  TtyAttrs: a terminal's attributes are those of the last setting that went well. The walk.
-/
import Derived.Test.YtmcbgpjphjacjaaTtyL
import Derived.Test.YtmcbgpjphjacjaaTtyO
import Derived.Test.YtmcbgpjphjacjaaWldGa
import Derived.Test.YtmcbgpjphjacjaaWldPl
import Derived.Test.YtmcbgpjphjacjaaCalm
import Derived.Laws.StructEq
namespace Go.Proofs.Ytmcbgpjphjacjaa
set_option linter.unusedVariables false
set_option linter.unusedSimpArgs false
set_option maxRecDepth 100000
open Go.RowKit

theorem box_set3 {w : World} {b : Nat} {A : At3} (h : w.heap[b]? = some (.cells #[.int .u32 A.fl, .int .u8 A.mn, .int .u8 A.tm] 24 (0, 0))) (B : At3) (W : World) (hW : W = ((w.setCell ⟨b, 0, none⟩ (.int .u32 B.fl)).setCell ⟨b, 1, none⟩ (.int .u8 B.mn)).setCell ⟨b, 2, none⟩ (.int .u8 B.tm)) :
    Chg [b] w W ∧ W.heap[b]? = some (.cells #[.int .u32 B.fl, .int .u8 B.mn, .int .u8 B.tm] 24 (0, 0)) := by
  refine ⟨?_, ?_⟩
  · rw [hW]
    exact (((Chg.refl [b] w).setCell (p := ⟨b, 0, none⟩) (Or.inl List.mem_cons_self) _).setCell (p := ⟨b, 1, none⟩) (Or.inl List.mem_cons_self) _).setCell (p := ⟨b, 2, none⟩) (Or.inl List.mem_cons_self) _
  · rw [hW, setCell_heap _ (setCell_heap _ (setCell_heap _ h))]
    rfl

theorem box3 {w : World} {b : Nat} {A : At3} (h : w.heap[b]? = some (.cells #[.int .u32 A.fl, .int .u8 A.mn, .int .u8 A.tm] 24 (0, 0))) :
    (w.cell? ⟨b, 0, none⟩ = some (.int .u32 A.fl) ∧ w.cell? ⟨b, 1, none⟩ = some (.int .u8 A.mn) ∧ w.cell? ⟨b, 2, none⟩ = some (.int .u8 A.tm)) ∧ (w.frozen? ⟨b, 0, none⟩ = false ∧ w.frozen? ⟨b, 1, none⟩ = false ∧ w.frozen? ⟨b, 2, none⟩ = false) := by
  refine ⟨⟨?_, ?_, ?_⟩, free_of_heap h 0, free_of_heap h 1, free_of_heap h 2⟩ <;> (rw [cell_of_heap h]; rfl)

set_option maxHeartbeats 16000000 in
theorem attrs_walk (p : PlanD) (a : Option Addr) (len cap : Nat) (l : List At3) (w : World) (hp : p.At w) (hm : ∀ y ∈ p.its, y.m ≤ reachBytes) (hr : p.wl ≤ reachBytes ∧ p.gl ≤ reachBytes ∧ p.sl ≤ reachBytes) (hlen : len ≤ maxLen) (ha : AtsR w a len l) :
    Calls Try.prog 3 #[.agg p.cells, .slice a len cap] w fun e w' => e = .returned (.bool true) ∧ Below w.heap.size w w' := by
  have hcs : p.cells = #[.int .u32 p.fl, .int .u8 p.mn, .int .u8 p.tm, .slice p.ia p.il p.ic, .slice p.wa p.wl p.wc, .slice p.ga p.gl p.gc, .slice p.sa p.sl p.sc] := rfl
  have HA := Lib.hid ha
  have HP := Lib.hid hp
  have HM := Lib.hid (And.intro hm hr)
  unfold maxLen at hlen
  rw [hcs]
  clear hp hm hr hcs ha
  have CB : Chg [] w (w.alloc (.cells #[.int .u32 p.fl, .int .u8 p.mn, .int .u8 p.tm, .slice p.ia p.il p.ic, .slice p.wa p.wl p.wc, .slice p.ga p.gl p.gc, .slice p.sa p.sl p.sc] 28)) := (Chg.refl _ _).alloc _
  have hB : (w.alloc (.cells #[.int .u32 p.fl, .int .u8 p.mn, .int .u8 p.tm, .slice p.ia p.il p.ic, .slice p.wa p.wl p.wc, .slice p.ga p.gl p.gc, .slice p.sa p.sl p.sc] 28)).heap[w.heap.size]? = some (.cells p.cells 28 (0, 0)) := alloc_heap w _
  have HCB := Lib.hid (And.intro CB hB)
  clear CB hB
  go_enter Try.func3, Try.ntmps3
  go_wp2_with fail
  refine (talive_any _).mono ?_
  rintro e w1 ⟨rfl, C1⟩
  have D1 := Lib.hid (HCB.out.1.trans C1 (U := []) (by simp) (by simp))
  have B1 := Lib.hid (C1.heap HCB.out.2 (by simp))
  obtain ⟨q0, q1, q2, q3, q4, q5, q6⟩ := plan_cells B1.out
  clear C1
  go_wp2_with fail
  refine (great_all p _ (HP.out.chg D1.out) HM.out.1 HM.out.2).mono ?_
  rintro e w2 ⟨rfl, C2⟩
  have D2 := Lib.hid (D1.out.trans C2 (U := []) (by simp) (by simp))
  have B2 := Lib.hid (C2.heap B1.out (by simp))
  clear C2 q0 q1 q2 q3 q4 q5 q6
  obtain ⟨q0, q1, q2, q3, q4, q5, q6⟩ := plan_cells B2.out
  have hgr : greatV p = 1 ∨ greatV p = 0 := by unfold greatV; split <;> simp
  rcases hgr with hv | hv
  · rw [hv]
    have HV0 := Lib.hid hv
    clear hv
    go_wp2_with fail
    refine (talive_any _).mono ?_
    rintro e w3 ⟨rfl, C3⟩
    go_wp2_with fail
    go_ret
    exact ⟨rfl, Chg.below (Below.refl _ _) (D2.out.trans C3 (U := []) (by simp) (by simp)) (by simp) (Nat.le_refl _)⟩
  · rw [hv]
    have HV0 := Lib.hid hv
    clear hv
    go_wp2_with fail
    refine (refCheck_any p _ (HP.out.chg D2.out)).mono ?_
    rintro e w3 ⟨rfl, C3⟩
    have D3 := Lib.hid (D2.out.trans C3 (U := []) (by simp) (by simp))
    have B3 := Lib.hid (C3.heap B2.out (by simp))
    clear C3 q0 q1 q2 q3 q4 q5 q6
    obtain ⟨q0, q1, q2, q3, q4, q5, q6⟩ := plan_cells B3.out
    by_cases hbig : p.chk ≠ 0 ∨ 100 < len
    · have hcases : (p.chk != 0) = true ∨ (p.chk = 0 ∧ (100 : Int) < (len : Int)) := by
        by_cases hc : p.chk = 0
        · exact .inr ⟨hc, by omega⟩
        · exact .inl (by rw [bne_iff_ne]; exact hc)
      clear hbig
      rcases hcases with hck' | ⟨hck, hl⟩
      · generalize hcc : p.chk = y at *
        go_wp2_with fail
        refine (talive_any _).mono ?_
        rintro e w4 ⟨rfl, C4⟩
        go_wp2_with fail
        go_ret
        exact ⟨rfl, Chg.below (Below.refl _ _) (D3.out.trans C4 (U := []) (by simp) (by simp)) (by simp) (Nat.le_refl _)⟩
      · rw [hck]
        clear hck
        go_wp2_with fail
        refine (talive_any _).mono ?_
        rintro e w4 ⟨rfl, C4⟩
        go_wp2_with fail
        go_ret
        exact ⟨rfl, Chg.below (Below.refl _ _) (D3.out.trans C4 (U := []) (by simp) (by simp)) (by simp) (Nat.le_refl _)⟩
    · have hck : p.chk = 0 := by omega
      have hl : ¬ (100 : Int) < (len : Int) := by omega
      clear hbig
      rw [hck]
      have HCK := Lib.hid hck
      clear hck
      have HSM : Hid (p.wl ≤ 4000 ∧ p.gl ≤ 4000 ∧ p.sl ≤ 4000 ∧ p.il ≤ 300 ∧ (∀ y ∈ p.its, y.m ≤ 4000) ∧ sumL p.its ≤ 4000) := Lib.hid (by
        have hv := HV0.out
        unfold greatV at hv
        split at hv
        · cases hv
        · rename_i hn
          have h1 : ∀ y ∈ p.its, y.m ≤ sumL p.its := fun y hy => by
            obtain ⟨k, hk⟩ := List.getElem?_of_mem hy
            have := sumL_take hk
            have := sumL_le p.its (k + 1)
            omega
          unfold greatN at hn
          exact ⟨by omega, by omega, by omega, by omega, fun y hy => by have := h1 y hy; omega, by omega⟩)
      go_wp2_with fail
      refine (tNew_any p _ (HP.out.chg D3.out) HCK.out (by have := HSM.out; omega) (by have := HSM.out; omega) (by have := HSM.out; omega) (fun x hx => by have := HSM.out.2.2.2.2.1 x hx; omega)).mono ?_
      rintro e w4 ⟨⟨bT, v, μ, Z, c, A, E⟩, rfl, T4, hz, h1, h2, h3⟩
      dsimp only at hz h1 h2 h3
      have hcn : Hid (c.got = 0 ∧ c.set = 0 ∧ E.length = 0) := Lib.hid ⟨by rw [h1]; rfl, by rw [h1]; rfl, by rw [h3]; rfl⟩
      have B4 := Lib.hid (T4.W.c0.heap B3.out (by simp))
      have HT4 := Lib.hid T4
      have hpa : p.fl = A.fl ∧ p.mn = A.mn ∧ p.tm = A.tm := by rw [h2]; exact ⟨rfl, rfl, rfl⟩
      clear hz h1 h2 h3 T4 q0 q1 q2 q3 q4 q5 q6
      obtain ⟨q0, q1, q2, _⟩ := plan_cells B4.out
      rw [hpa.1] at q0
      rw [hpa.2.1] at q1
      rw [hpa.2.2] at q2
      clear hpa
      go_wp2_with fail
      have X5 := HT4.out.box0 (.cells #[.int .u32 A.fl, .int .u8 A.mn, .int .u8 A.tm] 24)
      have hs5 : w3.heap.size ≤ w4.heap.size := HT4.out.W.c0.size
      generalize w4.alloc _ = w5 at *
      generalize w4.heap.size = b7 at *
      have HX5 := Lib.hid (And.intro X5 hs5)
      clear X5 hs5 q0 q1 q2
      go_loopw [45] (fun i wr => ∃ (k : Nat) (v : Value) (c : Wc) (A : At3) (E : List EfD), k ≤ len ∧ i = .int .i64 k ∧ TtIs w3 wr ⟨bT, v, μ, Z, c, A, E⟩ ∧ (wr.heap[b7]? = some (.cells #[.int .u32 A.fl, .int .u8 A.mn, .int .u8 A.tm] 24 (0, 0)) ∧ ¬ Tt.own ⟨bT, v, μ, Z, c, A, E⟩ b7) ∧ (c.got ≤ k ∧ c.set ≤ k ∧ E.length = 2 * k)) (fun i _ => len - (intOf i).toNat)
      case atStart => exact ⟨0, v, c, A, E, by omega, rfl, HX5.out.1.2.2, ⟨HX5.out.1.1, HX5.out.1.2.1⟩, by have := hcn.out; omega⟩
      case round =>
        obtain ⟨k, v, c, A, E, hk, rfl, hT, hb, hc⟩ := hrel
        by_cases hlt : k < len
        · obtain ⟨bl, off, rfl, hat⟩ := HA.out.2 (by omega)
          obtain ⟨B, hx0⟩ : ∃ x, l[k]? = some x := ⟨l[k]'(by rw [HA.out.1]; exact hlt), List.getElem?_eq_getElem _⟩
          obtain ⟨x0, x1, x2⟩ := hat k B hx0
          have y0 := hT.W.c0.cell (D3.out.cell x0 (by simp)) (by simp)
          have y1 := hT.W.c0.cell (D3.out.cell x1 (by simp)) (by simp)
          have y2 := hT.W.c0.cell (D3.out.cell x2 (by simp)) (by simp)
          clear x0 x1 x2 hat hx0
          have X6 := hT.box0 (.cells #[.int .u32 B.fl, .int .u8 B.mn, .int .u8 B.tm] 24)
          have hb6 : (wr.alloc (.cells #[.int .u32 B.fl, .int .u8 B.mn, .int .u8 B.tm] 24)).heap[b7]? = _ ∧ _ := ⟨alloc_keeps hb.1, hb.2⟩
          have hne : b7 ≠ wr.heap.size := by have := heap_lt hb.1; omega
          have HNE := Lib.hid hne
          have HKK := Lib.hid hc
          obtain ⟨w6, hw6⟩ : ∃ w6, w6 = wr.alloc (.cells #[.int .u32 B.fl, .int .u8 B.mn, .int .u8 B.tm] 24) := ⟨_, rfl⟩
          obtain ⟨b9, hb9⟩ : ∃ b9, b9 = wr.heap.size := ⟨_, rfl⟩
          rw [← hw6, ← hb9] at X6
          rw [← hw6] at hb6
          rw [← hb9] at HNE
          have HW6 := Lib.hid hw6
          have HB9 := Lib.hid hb9
          have HX6 := Lib.hid X6
          have HB6 := Lib.hid hb6
          clear hw6 hb9 X6 hb6 hT hb hne hc
          obtain ⟨hc1, hc2, hc3⟩ := HKK.out
          by_cases hms : ((c.set : Nat) : Int) ∈ c.ss
          · go_wp2_with fail
            rw [← HW6.out, ← HB9.out]
            refine (tSet_no w3 w6 bT v μ Z c A B E HX6.out.2.2 hms (by omega) (by omega)).mono ?_
            rintro e w7 ⟨rfl, v7, G7⟩
            have hst : Hid (∃ v7 c7 A7 E7, TtIs w3 w7 ⟨bT, v7, μ, Z, c7, A7, E7⟩ ∧ (w7.heap[b7]? = some (.cells #[.int .u32 A7.fl, .int .u8 A7.mn, .int .u8 A7.tm] 24 (0, 0)) ∧ ¬ Tt.own ⟨bT, v7, μ, Z, c7, A7, E7⟩ b7) ∧ (c7.got ≤ k ∧ c7.set ≤ k + 1 ∧ E7.length = 2 * k + 1)) :=
              Lib.hid ⟨_, _, _, _, G7.is, G7.box HB6.out, hc1, by show c.set + 1 ≤ _; omega, by rw [List.length_append]; simp; omega⟩
            clear G7 hms HX6 HB6
            go_wp2_with fail
            obtain ⟨v7, c7, A7, E7, T7, X7, hn1, hn2, hn3⟩ := hst.out
            have HT7 := Lib.hid T7
            have HX7 := Lib.hid X7
            have HN7 := Lib.hid (And.intro hn1 (And.intro hn2 hn3))
            clear hst T7 X7
            by_cases hmg : ((c7.got : Nat) : Int) ∈ c7.gs
            · refine (tGet_no w3 w7 bT v7 μ Z c7 A7 E7 HT7.out hmg (by omega) (by omega)).mono ?_
              rintro e w8 ⟨rfl, v8, G8⟩
              have X8 := Lib.hid (G8.box HX7.out)
              have Y8 := G8.is.box0 (.cells #[.int .u32 0, .int .u8 0, .int .u8 0] 24)
              have X9 := Lib.hid (show (w8.alloc (.cells #[.int .u32 0, .int .u8 0, .int .u8 0] 24)).heap[b7]? = _ ∧ _ from ⟨alloc_keeps X8.out.1, X8.out.2⟩)
              have HY9 := Lib.hid Y8
              clear G8 X8 Y8 hmg
              go_wp2_with fail
              generalize w8.alloc _ = w9 at *
              generalize w8.heap.size = b10 at *
              have hS := Lib.hid (And.intro (box3 (A := ⟨0, 0, 0⟩) HY9.out.1).1 (box3 X9.out.1).1)
              obtain ⟨⟨z0, z1, z2⟩, u0, u1, u2⟩ := hS.out
              dsimp only at z0 z1 z2
              have HD9 := Lib.hid HY9.out.2.2
              have g0 : ∀ n : Calm w9, n.w.cell? ⟨b10, 0, none⟩ = some _ := fun n => n.c.cell z0 (by simp)
              have g1 : ∀ n : Calm w9, n.w.cell? ⟨b10, 1, none⟩ = some _ := fun n => n.c.cell z1 (by simp)
              have g2 : ∀ n : Calm w9, n.w.cell? ⟨b10, 2, none⟩ = some _ := fun n => n.c.cell z2 (by simp)
              have g3 : ∀ n : Calm w9, n.w.cell? ⟨b7, 0, none⟩ = some _ := fun n => n.c.cell u0 (by simp)
              have g4 : ∀ n : Calm w9, n.w.cell? ⟨b7, 1, none⟩ = some _ := fun n => n.c.cell u1 (by simp)
              have g5 : ∀ n : Calm w9, n.w.cell? ⟨b7, 2, none⟩ = some _ := fun n => n.c.cell u2 (by simp)
              have hat : ∀ n : Calm w9, _ := fun n => tAttrs_at w3 n.w bT v8 μ Z _ A7 _ (HD9.out.chg0 n.c)
              refine wp_region_calm (by kernel_rfl) (by kernel_rfl) ?_
              repeat (go_big_quiet_step ((go_at_call 15; exact calm_of (hat _))))
              refine wpQuiet_nil ?_
              intro w' hw'
              obtain ⟨⟨w10, C10⟩, rfl⟩ := hw'
              have HE := Lib.hid (And.intro (HD9.out.chg0 C10) (And.intro (C10.heap X9.out.1 (by simp)) X9.out.2))
              clear g0 g1 g2 g3 g4 g5 hat z0 z1 z2 u0 u1 u2 hS
              go_wp2_with fail
              go_roundw
              case rel => exact ⟨k + 1, v8, _, A7, _, by omega, by go_num, HE.out.1, ⟨HE.out.2.1, HE.out.2.2⟩, by have := HN7.out; dsimp only; omega, by have := HN7.out; omega, by rw [List.length_append]; have := HN7.out; simp; omega⟩
              case measure => simp [intOf]; omega
            · refine (tGet_ok w3 w7 bT v7 μ Z c7 A7 E7 HT7.out hmg (by omega) (by omega)).mono ?_
              rintro e w8 ⟨rfl, v8, G8⟩
              have X8 := Lib.hid (G8.box HX7.out)
              have Y8 := G8.is.box0 (.cells #[.int .u32 A7.fl, .int .u8 A7.mn, .int .u8 A7.tm] 24)
              have X9 := Lib.hid (show (w8.alloc (.cells #[.int .u32 A7.fl, .int .u8 A7.mn, .int .u8 A7.tm] 24)).heap[b7]? = _ ∧ _ from ⟨alloc_keeps X8.out.1, X8.out.2⟩)
              have HY9 := Lib.hid Y8
              clear G8 X8 Y8 hmg
              go_wp2_with fail
              generalize w8.alloc _ = w9 at *
              generalize w8.heap.size = b10 at *
              have hS := Lib.hid (And.intro (box3 HY9.out.1).1 (box3 X9.out.1).1)
              obtain ⟨⟨z0, z1, z2⟩, u0, u1, u2⟩ := hS.out
              have HD9 := Lib.hid HY9.out.2.2
              have g0 : ∀ n : Calm w9, n.w.cell? ⟨b10, 0, none⟩ = some _ := fun n => n.c.cell z0 (by simp)
              have g1 : ∀ n : Calm w9, n.w.cell? ⟨b10, 1, none⟩ = some _ := fun n => n.c.cell z1 (by simp)
              have g2 : ∀ n : Calm w9, n.w.cell? ⟨b10, 2, none⟩ = some _ := fun n => n.c.cell z2 (by simp)
              have g3 : ∀ n : Calm w9, n.w.cell? ⟨b7, 0, none⟩ = some _ := fun n => n.c.cell u0 (by simp)
              have g4 : ∀ n : Calm w9, n.w.cell? ⟨b7, 1, none⟩ = some _ := fun n => n.c.cell u1 (by simp)
              have g5 : ∀ n : Calm w9, n.w.cell? ⟨b7, 2, none⟩ = some _ := fun n => n.c.cell u2 (by simp)
              have hat : ∀ n : Calm w9, _ := fun n => tAttrs_at w3 n.w bT v8 μ Z _ A7 _ (HD9.out.chg0 n.c)
              refine wp_region_calm (by kernel_rfl) (by kernel_rfl) ?_
              repeat (go_big_quiet_step ((go_at_call 15; exact calm_of (hat _))))
              refine wpQuiet_nil ?_
              intro w' hw'
              obtain ⟨⟨w10, C10⟩, rfl⟩ := hw'
              have HE := Lib.hid (And.intro (HD9.out.chg0 C10) (And.intro (C10.heap X9.out.1 (by simp)) X9.out.2))
              clear g0 g1 g2 g3 g4 g5 hat z0 z1 z2 u0 u1 u2 hS
              go_wp2_with fail
              go_roundw
              case rel => exact ⟨k + 1, v8, _, A7, _, by omega, by go_num, HE.out.1, ⟨HE.out.2.1, HE.out.2.2⟩, by have := HN7.out; dsimp only; omega, by have := HN7.out; omega, by rw [List.length_append]; have := HN7.out; simp; omega⟩
              case measure => simp [intOf]; omega
          · go_wp2_with fail
            rw [← HW6.out, ← HB9.out]
            refine (tSet_ok w3 w6 bT v μ Z c A B E HX6.out.2.2 hms (by omega) (by omega)).mono ?_
            rintro e w6' ⟨rfl, v7, G7⟩
            have X9 := G7.box ⟨HX6.out.1, HX6.out.2.1⟩
            have X7 := G7.box HB6.out
            obtain ⟨⟨a0, a1, a2⟩, _⟩ := box3 X9.1
            obtain ⟨⟨d0, d1, d2⟩, f0, f1, f2⟩ := box3 X7.1
            have HG7 := Lib.hid G7
            have HX7 := Lib.hid X7
            clear G7 hms HX6 HB6 X9 X7
            go_wp2_with fail
            have hW := box_set3 HX7.out.1 B _ rfl
            generalize hw7 : ((w6'.setCell ⟨b7, 0, none⟩ (.int .u32 B.fl)).setCell ⟨b7, 1, none⟩ (.int .u8 B.mn)).setCell ⟨b7, 2, none⟩ (.int .u8 B.tm) = w7 at *
            have T7 := HG7.out.is.chg hW.1 (fun x hx => by rw [List.mem_singleton.1 hx]; exact ⟨HX7.out.2, HX5.out.2⟩)
            have hst : Hid (∃ v7 c7 A7 E7, TtIs w3 w7 ⟨bT, v7, μ, Z, c7, A7, E7⟩ ∧ (w7.heap[b7]? = some (.cells #[.int .u32 A7.fl, .int .u8 A7.mn, .int .u8 A7.tm] 24 (0, 0)) ∧ ¬ Tt.own ⟨bT, v7, μ, Z, c7, A7, E7⟩ b7) ∧ (c7.got ≤ k ∧ c7.set ≤ k + 1 ∧ E7.length = 2 * k + 1)) :=
              Lib.hid ⟨_, _, _, _, T7, ⟨hW.2, HX7.out.2⟩, hc1, by show c.set + 1 ≤ _; omega, by rw [List.length_append]; simp; omega⟩
            clear HG7 HX7 hW T7 hw7 a0 a1 a2 d0 d1 d2 f0 f1 f2
            obtain ⟨v7, c7, A7, E7, T7, X7, hn1, hn2, hn3⟩ := hst.out
            have HT7 := Lib.hid T7
            have HX7 := Lib.hid X7
            have HN7 := Lib.hid (And.intro hn1 (And.intro hn2 hn3))
            clear hst T7 X7
            by_cases hmg : ((c7.got : Nat) : Int) ∈ c7.gs
            · refine (tGet_no w3 w7 bT v7 μ Z c7 A7 E7 HT7.out hmg (by omega) (by omega)).mono ?_
              rintro e w8 ⟨rfl, v8, G8⟩
              have X8 := Lib.hid (G8.box HX7.out)
              have Y8 := G8.is.box0 (.cells #[.int .u32 0, .int .u8 0, .int .u8 0] 24)
              have X9 := Lib.hid (show (w8.alloc (.cells #[.int .u32 0, .int .u8 0, .int .u8 0] 24)).heap[b7]? = _ ∧ _ from ⟨alloc_keeps X8.out.1, X8.out.2⟩)
              have HY9 := Lib.hid Y8
              clear G8 X8 Y8 hmg
              go_wp2_with fail
              generalize w8.alloc _ = w9 at *
              generalize w8.heap.size = b10 at *
              have hS := Lib.hid (And.intro (box3 (A := ⟨0, 0, 0⟩) HY9.out.1).1 (box3 X9.out.1).1)
              obtain ⟨⟨z0, z1, z2⟩, u0, u1, u2⟩ := hS.out
              dsimp only at z0 z1 z2
              have HD9 := Lib.hid HY9.out.2.2
              have g0 : ∀ n : Calm w9, n.w.cell? ⟨b10, 0, none⟩ = some _ := fun n => n.c.cell z0 (by simp)
              have g1 : ∀ n : Calm w9, n.w.cell? ⟨b10, 1, none⟩ = some _ := fun n => n.c.cell z1 (by simp)
              have g2 : ∀ n : Calm w9, n.w.cell? ⟨b10, 2, none⟩ = some _ := fun n => n.c.cell z2 (by simp)
              have g3 : ∀ n : Calm w9, n.w.cell? ⟨b7, 0, none⟩ = some _ := fun n => n.c.cell u0 (by simp)
              have g4 : ∀ n : Calm w9, n.w.cell? ⟨b7, 1, none⟩ = some _ := fun n => n.c.cell u1 (by simp)
              have g5 : ∀ n : Calm w9, n.w.cell? ⟨b7, 2, none⟩ = some _ := fun n => n.c.cell u2 (by simp)
              have hat : ∀ n : Calm w9, _ := fun n => tAttrs_at w3 n.w bT v8 μ Z _ A7 _ (HD9.out.chg0 n.c)
              refine wp_region_calm (by kernel_rfl) (by kernel_rfl) ?_
              repeat (go_big_quiet_step ((go_at_call 15; exact calm_of (hat _))))
              refine wpQuiet_nil ?_
              intro w' hw'
              obtain ⟨⟨w10, C10⟩, rfl⟩ := hw'
              have HE := Lib.hid (And.intro (HD9.out.chg0 C10) (And.intro (C10.heap X9.out.1 (by simp)) X9.out.2))
              clear g0 g1 g2 g3 g4 g5 hat z0 z1 z2 u0 u1 u2 hS
              go_wp2_with fail
              go_roundw
              case rel => exact ⟨k + 1, v8, _, A7, _, by omega, by go_num, HE.out.1, ⟨HE.out.2.1, HE.out.2.2⟩, by have := HN7.out; dsimp only; omega, by have := HN7.out; omega, by rw [List.length_append]; have := HN7.out; simp; omega⟩
              case measure => simp [intOf]; omega
            · refine (tGet_ok w3 w7 bT v7 μ Z c7 A7 E7 HT7.out hmg (by omega) (by omega)).mono ?_
              rintro e w8 ⟨rfl, v8, G8⟩
              have X8 := Lib.hid (G8.box HX7.out)
              have Y8 := G8.is.box0 (.cells #[.int .u32 A7.fl, .int .u8 A7.mn, .int .u8 A7.tm] 24)
              have X9 := Lib.hid (show (w8.alloc (.cells #[.int .u32 A7.fl, .int .u8 A7.mn, .int .u8 A7.tm] 24)).heap[b7]? = _ ∧ _ from ⟨alloc_keeps X8.out.1, X8.out.2⟩)
              have HY9 := Lib.hid Y8
              clear G8 X8 Y8 hmg
              go_wp2_with fail
              generalize w8.alloc _ = w9 at *
              generalize w8.heap.size = b10 at *
              have hS := Lib.hid (And.intro (box3 HY9.out.1).1 (box3 X9.out.1).1)
              obtain ⟨⟨z0, z1, z2⟩, u0, u1, u2⟩ := hS.out
              have HD9 := Lib.hid HY9.out.2.2
              have g0 : ∀ n : Calm w9, n.w.cell? ⟨b10, 0, none⟩ = some _ := fun n => n.c.cell z0 (by simp)
              have g1 : ∀ n : Calm w9, n.w.cell? ⟨b10, 1, none⟩ = some _ := fun n => n.c.cell z1 (by simp)
              have g2 : ∀ n : Calm w9, n.w.cell? ⟨b10, 2, none⟩ = some _ := fun n => n.c.cell z2 (by simp)
              have g3 : ∀ n : Calm w9, n.w.cell? ⟨b7, 0, none⟩ = some _ := fun n => n.c.cell u0 (by simp)
              have g4 : ∀ n : Calm w9, n.w.cell? ⟨b7, 1, none⟩ = some _ := fun n => n.c.cell u1 (by simp)
              have g5 : ∀ n : Calm w9, n.w.cell? ⟨b7, 2, none⟩ = some _ := fun n => n.c.cell u2 (by simp)
              have hat : ∀ n : Calm w9, _ := fun n => tAttrs_at w3 n.w bT v8 μ Z _ A7 _ (HD9.out.chg0 n.c)
              refine wp_region_calm (by kernel_rfl) (by kernel_rfl) ?_
              repeat (go_big_quiet_step ((go_at_call 15; exact calm_of (hat _))))
              refine wpQuiet_nil ?_
              intro w' hw'
              obtain ⟨⟨w10, C10⟩, rfl⟩ := hw'
              have HE := Lib.hid (And.intro (HD9.out.chg0 C10) (And.intro (C10.heap X9.out.1 (by simp)) X9.out.2))
              clear g0 g1 g2 g3 g4 g5 hat z0 z1 z2 u0 u1 u2 hS
              go_wp2_with fail
              go_roundw
              case rel => exact ⟨k + 1, v8, _, A7, _, by omega, by go_num, HE.out.1, ⟨HE.out.2.1, HE.out.2.2⟩, by have := HN7.out; dsimp only; omega, by have := HN7.out; omega, by rw [List.length_append]; have := HN7.out; simp; omega⟩
              case measure => simp [intOf]; omega
        · obtain rfl : k = len := by omega
          have HO := Lib.hid hT.W.c0
          have HT := Lib.hid hT
          have he : E.length = 2 * k := hc.2.2
          clear hT hb hc
          go_wp2_with fail
          refine (tCalls_at w3 wr bT v μ Z c A E HT.out).mono ?_
          rintro e w6 ⟨rfl, rfl⟩
          rw [he]
          go_wp2_with fail
          go_ret
          exact ⟨rfl, Chg.below (Below.refl _ _) (D3.out.trans HO.out (U := []) (by simp) (by simp)) (by simp) (Nat.le_refl _)⟩
end Go.Proofs.Ytmcbgpjphjacjaa
