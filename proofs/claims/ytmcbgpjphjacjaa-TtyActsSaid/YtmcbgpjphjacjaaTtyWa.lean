/-
  TtyActs: each answer is the document's. The walk.
-/
import Derived.Test.YtmcbgpjphjacjaaTtyL
import Derived.Test.YtmcbgpjphjacjaaTtyAa
import Derived.Test.YtmcbgpjphjacjaaTtyAc
import Derived.Test.YtmcbgpjphjacjaaTtyTx
import Derived.Test.YtmcbgpjphjacjaaWldG
import Derived.Test.YtmcbgpjphjacjaaTtyC
import Derived.Deep.DeepCutAuto
import Derived.Deep.CutBlock
import Derived.Laws.StructEq
namespace Go.Proofs.Ytmcbgpjphjacjaa
set_option linter.unusedVariables false
set_option linter.unusedSimpArgs false
set_option maxRecDepth 100000
open Go.RowKit
attribute [local go_sem] run_store_float'

set_option maxHeartbeats 4000000 in
theorem wNewBad_any (p : PlanD) (w : World) (h : p.At w) (hc : p.chk ≠ 0) :
    Calls Try.prog 33 #[.agg p.cells] w fun e w' => e = .returned (.tuple #[.pointer none, .int .i64 p.chk]) ∧ Chg [] w w' := by
  have hchk := fun W cW => wCheck_any p W (h.chg cW)
  have HCK := Lib.hid hchk
  have hne : (p.chk != 0) = true := by rw [bne_iff_ne]; exact hc
  clear h hchk hc
  generalize p.chk = y at *
  have CB : Chg [] w (w.alloc (.cells p.cells 28)) := (Chg.refl _ _).alloc _
  have hcs : p.cells = #[.int .u32 p.fl, .int .u8 p.mn, .int .u8 p.tm, .slice p.ia p.il p.ic, .slice p.wa p.wl p.wc, .slice p.ga p.gl p.gc, .slice p.sa p.sl p.sc] := rfl
  rw [hcs] at HCK CB ⊢
  go_enter Try.func33, Try.ntmps33
  go_wp2_with fail
  refine (HCK.out _ CB).mono ?_
  rintro e w1 ⟨rfl, C1⟩
  go_wp2_with fail
  go_ret2
  exact ⟨rfl, CB.trans C1 (by simp) (by simp)⟩

set_option maxHeartbeats 4000000 in
theorem tNew_bad (p : PlanD) (w : World) (h : p.At w) (hc : p.chk ≠ 0) :
    Calls Try.prog 12 #[.agg p.cells] w fun e w' => e = .returned (.tuple #[.pointer none, .int .i64 p.chk]) ∧ Chg [] w w' := by
  have CB : Chg [] w (w.alloc (.cells p.cells 28)) := (Chg.refl _ _).alloc _
  have HN := Lib.hid (wNewBad_any p _ (h.chg CB) hc)
  have hcs : p.cells = #[.int .u32 p.fl, .int .u8 p.mn, .int .u8 p.tm, .slice p.ia p.il p.ic, .slice p.wa p.wl p.wc, .slice p.ga p.gl p.gc, .slice p.sa p.sl p.sc] := rfl
  have hne : (p.chk != 0) = true := by rw [bne_iff_ne]; exact hc
  rw [hcs] at HN CB ⊢
  have HCB := Lib.hid CB
  clear hcs CB h hc
  generalize p.chk = y at *
  go_enter Try.func12, Try.ntmps12
  go_wp2_with fail
  refine (HN.out).mono ?_
  rintro e w1 ⟨rfl, C1⟩
  go_wp2_with fail
  go_ret2
  exact ⟨rfl, HCB.out.trans C1 (U := []) (by simp) (by simp)⟩
end Go.Proofs.Ytmcbgpjphjacjaa

namespace Go.Proofs.Ytmcbgpjphjacjaa
set_option linter.unusedVariables false
set_option linter.unusedSimpArgs false
set_option maxRecDepth 100000
open Go.RowKit

/-- The plan's box, cell by cell. -/
theorem plan_cells {W : World} {b : Nat} {p : PlanD} (h : W.heap[b]? = some (.cells p.cells 28 (0, 0))) :
    W.cell? ⟨b, 0, none⟩ = some (.int .u32 p.fl) ∧ W.cell? ⟨b, 1, none⟩ = some (.int .u8 p.mn) ∧ W.cell? ⟨b, 2, none⟩ = some (.int .u8 p.tm) ∧ W.cell? ⟨b, 3, none⟩ = some (.slice p.ia p.il p.ic) ∧ W.cell? ⟨b, 4, none⟩ = some (.slice p.wa p.wl p.wc) ∧ W.cell? ⟨b, 5, none⟩ = some (.slice p.ga p.gl p.gc) ∧ W.cell? ⟨b, 6, none⟩ = some (.slice p.sa p.sl p.sc) := by
  refine ⟨?_, ?_, ?_, ?_, ?_, ?_, ?_⟩ <;> (rw [cell_of_heap h]; rfl)

/-- What Great tells, whatever the sum. -/
theorem great_all (p : PlanD) (w : World) (h : p.At w) (hm : ∀ y ∈ p.its, y.m ≤ reachBytes) (hr : p.wl ≤ reachBytes ∧ p.gl ≤ reachBytes ∧ p.sl ≤ reachBytes) :
    Calls Try.prog 10 #[.agg p.cells] w fun e w' => e = .returned (.int .i64 (greatV p)) ∧ Chg [] w w' := by
  by_cases hb : 300 < p.il
  · exact (great_big p w h hb).mono fun e w' ⟨he, hc⟩ => ⟨by rw [he]; unfold greatV; rw [if_pos (.inl hb)], hc⟩
  · refine great_any p w h ?_
    have hl : p.its.length ≤ 300 := by rw [h.its.1]; omega
    have hs : ∀ (l : List ItD), (∀ y ∈ l, y.m ≤ reachBytes) → sumL l ≤ l.length * (1 + reachBytes) := by
      intro l
      induction l with
      | nil => intro _; simp [sumL]
      | cons y r ih =>
        intro hy
        have h1 := ih (fun z hz => hy z (List.mem_cons_of_mem _ hz))
        have h2 := hy y List.mem_cons_self
        have e : sumL (y :: r) = (1 + y.m) + sumL r := by unfold sumL; simp
        rw [e, List.length_cons, Nat.add_mul]
        omega
    have h3 := hs p.its hm
    have h4 : p.its.length * (1 + reachBytes) ≤ 300 * (1 + reachBytes) := Nat.mul_le_mul_right _ hl
    unfold greatN
    unfold reachBytes at *
    omega

end Go.Proofs.Ytmcbgpjphjacjaa

namespace Go.Proofs.Ytmcbgpjphjacjaa
set_option linter.unusedVariables false
set_option linter.unusedSimpArgs false
set_option maxRecDepth 100000
open Go.RowKit

/-- What a plan is where Great does not tell of it. -/
theorem plan_smallW {p : PlanD} (hv : greatV p = 0) : p.wl ≤ 4000 ∧ p.gl ≤ 4000 ∧ p.sl ≤ 4000 ∧ p.il ≤ 300 ∧ (∀ y ∈ p.its, y.m ≤ 4000) ∧ sumL p.its ≤ 4000 := by
  unfold greatV at hv
  split at hv
  · cases hv
  · rename_i hn
    have h1 : ∀ y ∈ p.its, y.m ≤ sumL p.its := fun y hy => by
      obtain ⟨k, hk⟩ := List.getElem?_of_mem hy
      have := sumL_take hk
      have := sumL_le p.its (k + 1)
      omega
    unfold greatN at hn
    exact ⟨by omega, by omega, by omega, by omega, fun y hy => by have := h1 y hy; omega, by omega⟩

set_option maxHeartbeats 16000000 in
theorem ttyActs_walk (p : PlanD) (a : Option Addr) (len cap : Nat) (l : List ActT) (w : World) (hp : p.At w) (hm : ∀ y ∈ p.its, y.m ≤ reachBytes) (hr : p.wl ≤ reachBytes ∧ p.gl ≤ reachBytes ∧ p.sl ≤ reachBytes) (hlen : len ≤ maxLen) (ha : ActsT w a len l) (hmm : ∀ x ∈ l, x.m ≤ 140737488355328) :
    Calls Try.prog 6 #[.agg p.cells, .slice a len cap] w fun e w' => e = .returned (.bool true) ∧ Below w.heap.size w w' := by
  have hcs : p.cells = #[.int .u32 p.fl, .int .u8 p.mn, .int .u8 p.tm, .slice p.ia p.il p.ic, .slice p.wa p.wl p.wc, .slice p.ga p.gl p.gc, .slice p.sa p.sl p.sc] := rfl
  have HA := Lib.hid ha
  have HP := Lib.hid hp
  have HM := Lib.hid (And.intro hm hr)
  have HL := Lib.hid (And.intro hlen hmm)
  unfold maxLen at hlen
  rw [hcs]
  clear hp hm hr hcs ha hmm
  have CB : Chg [] w (w.alloc (.cells #[.int .u32 p.fl, .int .u8 p.mn, .int .u8 p.tm, .slice p.ia p.il p.ic, .slice p.wa p.wl p.wc, .slice p.ga p.gl p.gc, .slice p.sa p.sl p.sc] 28)) := (Chg.refl _ _).alloc _
  have hB : (w.alloc (.cells #[.int .u32 p.fl, .int .u8 p.mn, .int .u8 p.tm, .slice p.ia p.il p.ic, .slice p.wa p.wl p.wc, .slice p.ga p.gl p.gc, .slice p.sa p.sl p.sc] 28)).heap[w.heap.size]? = some (.cells p.cells 28 (0, 0)) := alloc_heap w _
  have HCB := Lib.hid (And.intro CB hB)
  clear CB hB
  go_enter Try.func6, Try.ntmps6
  go_wp2_with fail
  refine (talive_any _).mono ?_
  rintro e w1 ⟨rfl, C1⟩
  have D1 := Lib.hid (HCB.out.1.trans C1 (U := []) (by simp) (by simp))
  have B1 := Lib.hid (C1.heap HCB.out.2 (by simp))
  obtain ⟨q0, q1, q2, q3, q4, q5, q6⟩ := plan_cells B1.out
  clear C1
  go_wp2_with fail
  refine (great_all p _ (HP.out.chg D1.out) HM.out.1 HM.out.2).mono ?_
  rintro e w2 ⟨rfl, C2⟩
  have D2 := Lib.hid (D1.out.trans C2 (U := []) (by simp) (by simp))
  have B2 := Lib.hid (C2.heap B1.out (by simp))
  clear C2 q0 q1 q2 q3 q4 q5 q6
  obtain ⟨q0, q1, q2, q3, q4, q5, q6⟩ := plan_cells B2.out
  have hgr : greatV p = 1 ∨ greatV p = 0 := by unfold greatV; split <;> simp
  rcases hgr with hv | hv
  · rw [hv]
    have HV0 := Lib.hid hv
    clear hv
    go_wp2_with fail
    refine (talive_any _).mono ?_
    rintro e w3 ⟨rfl, C3⟩
    go_wp2_with fail
    go_ret
    exact ⟨rfl, Chg.below (Below.refl _ _) (D2.out.trans C3 (U := []) (by simp) (by simp)) (by simp) (Nat.le_refl _)⟩
  · rw [hv]
    have HSM := Lib.hid (plan_smallW hv)
    clear hv
    go_wp2_with fail
    refine (tgreat_any a len cap l _ (HA.out.chg D2.out) HL.out.1 HL.out.2).mono ?_
    rintro e w3 ⟨hg, C3⟩
    have D3 := Lib.hid (D2.out.trans C3 (U := []) (by simp) (by simp))
    have B3 := Lib.hid (C3.heap B2.out (by simp))
    clear C3 q0 q1 q2 q3 q4 q5 q6
    obtain ⟨q0, q1, q2, q3, q4, q5, q6⟩ := plan_cells B3.out
    rcases hg with rfl | ⟨rfl, hl1, hl2⟩
    · go_wp2_with fail
      refine (talive_any _).mono ?_
      rintro e w4 ⟨rfl, C4⟩
      go_wp2_with fail
      go_ret
      exact ⟨rfl, Chg.below (Below.refl _ _) (D3.out.trans C4 (U := []) (by simp) (by simp)) (by simp) (Nat.le_refl _)⟩
    · have HL2 := Lib.hid (And.intro hl1 hl2)
      clear hl1 hl2
      go_wp2_with fail
      by_cases hck : p.chk = 0
      · have HCK := Lib.hid hck
        refine (tNew_any p _ (HP.out.chg D3.out) hck (by have := HSM.out; omega) (by have := HSM.out; omega) (by have := HSM.out; omega) (fun x hx => by have := HSM.out.2.2.2.2.1 x hx; omega)).mono ?_
        clear hck
        rintro e w4 ⟨τ, rfl, T4, hz, h1, h2, h3⟩
        have HZ := Lib.hid (And.intro hz (And.intro h1 (And.intro h2 h3)))
        have HT4 := Lib.hid (T4.base D3.out)
        have B4 := Lib.hid (T4.W.c0.heap B3.out (by simp))
        have D4 := Lib.hid (D3.out.trans T4.W.c0 (U := []) (by simp) (by simp))
        clear hz h1 h2 h3 T4 q0 q1 q2 q3 q4 q5 q6
        obtain ⟨q0, q1, q2, q3, q4, q5, q6⟩ := plan_cells B4.out
        go_wp2_with fail
        refine (refCheck_any p _ (HP.out.chg D4.out)).mono ?_
        rintro e w5 ⟨rfl, C5⟩
        rw [HCK.out]
        have HT5 := Lib.hid (HT4.out.chg0 C5)
        have B5 := Lib.hid (C5.heap B4.out (by simp))
        clear C5 q0 q1 q2 q3 q4 q5 q6
        obtain ⟨q0, q1, q2, q3, q4, q5, q6⟩ := plan_cells B5.out
        go_wp2_with fail
        refine (Arn.new_ok 64 w5 (by omega) (by omega)).mono ?_
        rintro e w6 ⟨rfl, C6, A6⟩
        have HR6 : Hid (RdOk w w6 τ (w5.heap.size + 1) w5.heap.size 64 []) := Lib.hid (by
          have hl := HT5.out.W.c0.size
          exact ⟨HT5.out.chg0 C6, A6, fun ho => by have := (HT5.out.own_lt _ ho).2; omega, fun ho => by have := (HT5.out.own_lt _ ho).2; omega, by omega, hl⟩)
        have B6 := Lib.hid (C6.heap B5.out (by simp))
        clear C6 A6 q0 q1 q2 q3 q4 q5 q6
        obtain ⟨q0, q1, q2, q3, q4, q5, q6⟩ := plan_cells B6.out
        generalize w5.heap.size = bC at *
        go_wp2_with fail
        refine (rtNew_any p w6 (HP.out.chg HR6.out.T.W.c0) (by have := HSM.out; omega)).mono ?_
        rintro e w7 ⟨ρ, rfl, R7, g1, g2, g3, g4⟩
        have hmem : ∀ y ∈ ordL p.its p.il, y ∈ p.its := fun y hy => by
          unfold ordL at hy
          obtain ⟨z, hz, rfl⟩ := List.mem_map.1 hy
          exact ((ordD_ok p.its p.il (by have := HSM.out; omega)).2 z hz).2.2.2.1
        have R7' := R7.base HR6.out.T.W.c0 HP.out (fun y hy => its_row HP.out y (hmem y (by rw [← g1]; exact hy)))
        have HS7 : Hid (Sep w w7 p τ ρ (bC + 1) bC []) := Lib.hid (by
          have hlA := heap_lt HR6.out.Ar.hA
          have hlC := heap_lt HR6.out.Ar.hC
          exact ⟨HR6.out.chg0 R7.W.c0, R7', fun k h1 h2 => by have := (HR6.out.T.own_lt k h1).2; have := (R7.own_lt k h2).1; omega, fun ho => by have := (R7.own_lt _ ho).1; omega, fun ho => by have := (R7.own_lt _ ho).1; omega⟩)
        have HQ7 : Hid (Eqs p τ ρ) := Lib.hid (by
          obtain ⟨hz, h1, h2, h3⟩ := HZ.out
          refine ⟨by rw [h2, g3], by rw [h3, g4], by rw [h1, g2.1, g2.2.1, g2.2.2]; exact ⟨rfl, rfl, rfl⟩, by rw [h1]; exact ⟨rfl, rfl, rfl⟩, ?_⟩
          have h1 := congrArg (List.map Prod.snd) (ordD_P p.its p.il)
          rw [← hz] at h1
          rw [g1]
          unfold ordL
          simpa [List.map_map, Function.comp_def, Zt.pr] using h1)
        have hcn : Hid (τ.c.wrote = 0 ∧ τ.c.got = 0 ∧ τ.c.set = 0 ∧ τ.E.length = 0 ∧ τ.Z.length ≤ 300) := Lib.hid (by
          obtain ⟨hz, h1, h2, h3⟩ := HZ.out
          have h5 := ordP_len p.its p.il
          rw [← hz, List.length_map] at h5
          rw [h1, h3]
          exact ⟨rfl, rfl, rfl, rfl, by have := HSM.out; omega⟩)
        clear R7 g1 g2 g3 g4 hmem R7' q0 q1 q2 q3 q4 q5 q6 HR6 HZ HT4 HT5 B6 B5 B4 B3 B2 B1 D4 D3 D2 D1 HCB
        generalize hbT : τ.bT = bT at *
        generalize hbR : ρ.bR = bR at *
        have HBT := Lib.hid (And.intro hbT hbR)
        clear hbT hbR
        go_wp2_with fail
        go_loopw [74] (fun i wr => ∃ (k : Nat) (τ : Tt) (ρ : Rt) (l' : List Int), k ≤ len ∧ i = .int .i64 k ∧ Sep w wr p τ ρ (bC + 1) bC l' ∧ Eqs p τ ρ ∧ τ.bT = bT ∧ ρ.bR = bR ∧ (τ.c.wrote ≤ k ∧ τ.c.got ≤ k ∧ τ.c.set ≤ k ∧ τ.E.length ≤ k ∧ τ.Z.length ≤ 300)) (fun i _ => len - (intOf i).toNat)
        case atStart => exact ⟨0, τ, ρ, [], by omega, rfl, HS7.out, HQ7.out, HBT.out.1, HBT.out.2, by have := hcn.out; omega⟩
        case round =>
          clear HS7 HQ7 HBT hcn
          obtain ⟨k, τ, ρ, l', hk, rfl, hS, hQ, hb1, hb2, hc⟩ := hrel
          subst hb1
          subst hb2
          by_cases hlt : k < len
          · obtain ⟨bl, off, x, rfl, hx, x0, x1, x2, x3, x4, x5⟩ := HA.out.get hlt
            have hx6 : x.m ≤ 3000 := HL2.out.2 x (List.mem_of_getElem? hx)
            obtain ⟨kind, B, ao, xm, xcap, xs⟩ := x
            dsimp only at x0 x1 x2 x3 x4 x5 hx6
            have HX5 := Lib.hid (And.intro x5 hx6)
            replace x0 := hS.t.T.W.c0.cell x0 (by simp)
            replace x1 := hS.t.T.W.c0.cell x1 (by simp)
            replace x2 := hS.t.T.W.c0.cell x2 (by simp)
            replace x3 := hS.t.T.W.c0.cell x3 (by simp)
            replace x4 := hS.t.T.W.c0.cell x4 (by simp)
            have hk3 : k ≤ 100 := by have := HL2.out.1; omega
            have ka : Chg [] wr (wr.alloc (.cells #[.int .i64 kind, .int .u32 B.fl, .int .u8 B.mn, .int .u8 B.tm, .slice ao xm xcap] 67)) := (Chg.refl _ _).alloc _
            have hA1 : (wr.alloc (.cells #[.int .i64 kind, .int .u32 B.fl, .int .u8 B.mn, .int .u8 B.tm, .slice ao xm xcap] 67)).heap[wr.heap.size]? = some (.cells #[.int .i64 kind, .int .u32 B.fl, .int .u8 B.mn, .int .u8 B.tm, .slice ao xm xcap] 67 (0, 0)) := alloc_heap wr _
            have HB8 := Lib.hid (And.intro hA1 hS.new)
            have HS8 := Lib.hid (hS.chg0 ka)
            have HQ8 := Lib.hid hQ
            have HC := Lib.hid hc
            clear ka hA1 hS hQ hc hx x5 hx6
            go_upto_block 2 with (fail)
            generalize wr.alloc _ = w8 at *
            generalize wr.heap.size = b12 at *
            clear x0 x1 x2 x3 x4
            have z1 : w8.cell? ⟨b12, 1, none⟩ = some (.int .u32 B.fl) := by rw [cell_of_heap HB8.out.1]; rfl
            have z2 : w8.cell? ⟨b12, 2, none⟩ = some (.int .u8 B.mn) := by rw [cell_of_heap HB8.out.1]; rfl
            have z3 : w8.cell? ⟨b12, 3, none⟩ = some (.int .u8 B.tm) := by rw [cell_of_heap HB8.out.1]; rfl
            have z4 : w8.cell? ⟨b12, 4, none⟩ = some (.slice ao xm xcap) := by rw [cell_of_heap HB8.out.1]; rfl
            go_cut [] (fun wx => ∃ (τ' : Tt) (ρ' : Rt) (l2 : List Int), Sep w wx p τ' ρ' (bC + 1) bC l2 ∧ Eqs p τ' ρ' ∧ τ'.bT = τ.bT ∧ ρ'.bR = ρ.bR ∧ (τ'.c.wrote ≤ k + 1 ∧ τ'.c.got ≤ k + 1 ∧ τ'.c.set ≤ k + 1 ∧ τ'.E.length ≤ k + 1 ∧ τ'.Z.length ≤ 300))
            case first =>
              by_cases hk0 : kind = 0
              · subst hk0
                clear z1 z2 z3 z4
                have hcg : τ.c.got ≤ 1000000 := by have := HC.out; omega
                have hel : τ.E.length ≤ 1000000 := by have := HC.out; omega
                have hel2 : ρ.E.length ≤ 1000000 := by rw [HQ8.out.len]; exact hel
                have hcb : ρ.b ≤ 1000000 := by rw [← HQ8.out.c.2.1]; exact hcg
                go_wp2_with fail
                by_cases hmg : ((τ.c.got : Nat) : Int) ∈ τ.c.gs
                · have hmr : ((ρ.b : Nat) : Int) ∈ p.gs.take p.gl := by rw [← HQ8.out.c.2.1, ← HQ8.out.cp.2.1]; exact hmg
                  refine (tGet_no w w8 τ.bT τ.v τ.μ τ.Z τ.c τ.A τ.E HS8.out.t.T hmg hcg hel).mono ?_
                  rintro e w9 ⟨rfl, v9, G9⟩
                  have S9 := HS8.out.left ((RdGo.refl HS8.out.t).go G9)
                  have K9 : Chg [] w9 (w9.alloc (.cells #[.int .u32 0, .int .u8 0, .int .u8 0] 24)) := (Chg.refl _ _).alloc _
                  have hB9 := alloc_heap w9 (.cells #[.int .u32 0, .int .u8 0, .int .u8 0] 24)
                  have F9 := S9.new
                  have HS9 := Lib.hid (S9.chg0 K9)
                  have HB9 := Lib.hid (And.intro hB9 F9)
                  clear G9 S9 K9 hB9 F9
                  go_wp2_with fail
                  generalize w9.alloc _ = w10 at *
                  generalize w9.heap.size = b13 at *
                  refine (rtGet_no w w10 p ρ HS9.out.r hmr hcb (by have := HSM.out; omega) hel2).mono ?_
                  rintro e w11 ⟨rfl, v11, G11⟩
                  have F11 := Far.right G11 HB9.out.1 HB9.out.2
                  have K11 : Chg [] w11 (w11.alloc (.cells #[.int .u32 0, .int .u8 0, .int .u8 0] 24)) := (Chg.refl _ _).alloc _
                  have hB13 := K11.heap F11.1 (by simp)
                  have hB15 := alloc_heap w11 (.cells #[.int .u32 0, .int .u8 0, .int .u8 0] 24)
                  have HS11 := Lib.hid ((HS9.out.right G11).chg0 K11)
                  obtain ⟨⟨a0, a1, a2⟩, _⟩ := res3 hB13
                  obtain ⟨⟨d0, d1, d2⟩, _⟩ := res3 hB15
                  clear G11 F11 K11 hB13 hB15
                  go_wp2_with fail
                  go_meet
                  case rel =>
                    refine ⟨_, _, _, HS11.out, ⟨HQ8.out.A, ?_, ⟨HQ8.out.c.1, by rw [← HQ8.out.c.2.1], HQ8.out.c.2.2⟩, HQ8.out.cp, HQ8.out.it⟩, rfl, rfl, ?_⟩
                    · show (τ.E ++ [_]).map EfD.pl = (ρ.E ++ [_]).map EfD.pl
                      rw [List.map_append, List.map_append, HQ8.out.E]
                    · dsimp only
                      have := HC.out
                      rw [List.length_append]
                      simp
                      omega
                · have hmr : ¬ ((ρ.b : Nat) : Int) ∈ p.gs.take p.gl := by rw [← HQ8.out.c.2.1, ← HQ8.out.cp.2.1]; exact hmg
                  refine (tGet_ok w w8 τ.bT τ.v τ.μ τ.Z τ.c τ.A τ.E HS8.out.t.T hmg hcg hel).mono ?_
                  rintro e w9 ⟨rfl, v9, G9⟩
                  have S9 := HS8.out.left ((RdGo.refl HS8.out.t).go G9)
                  have K9 : Chg [] w9 (w9.alloc (.cells #[.int .u32 τ.A.fl, .int .u8 τ.A.mn, .int .u8 τ.A.tm] 24)) := (Chg.refl _ _).alloc _
                  have hB9 := alloc_heap w9 (.cells #[.int .u32 τ.A.fl, .int .u8 τ.A.mn, .int .u8 τ.A.tm] 24)
                  have F9 := S9.new
                  have HS9 := Lib.hid (S9.chg0 K9)
                  have HB9 := Lib.hid (And.intro hB9 F9)
                  clear G9 S9 K9 hB9 F9
                  go_wp2_with fail
                  generalize w9.alloc _ = w10 at *
                  generalize w9.heap.size = b13 at *
                  refine (rtGet_ok w w10 p ρ HS9.out.r hmr hcb (by have := HSM.out; omega) hel2).mono ?_
                  rintro e w11 ⟨rfl, v11, G11⟩
                  rw [← HQ8.out.A] at G11 ⊢
                  have F11 := Far.right G11 HB9.out.1 HB9.out.2
                  have K11 : Chg [] w11 (w11.alloc (.cells #[.int .u32 τ.A.fl, .int .u8 τ.A.mn, .int .u8 τ.A.tm] 24)) := (Chg.refl _ _).alloc _
                  have hB13 := K11.heap F11.1 (by simp)
                  have hB15 := alloc_heap w11 (.cells #[.int .u32 τ.A.fl, .int .u8 τ.A.mn, .int .u8 τ.A.tm] 24)
                  have HS11 := Lib.hid ((HS9.out.right G11).chg0 K11)
                  obtain ⟨⟨a0, a1, a2⟩, _⟩ := res3 hB13
                  obtain ⟨⟨d0, d1, d2⟩, _⟩ := res3 hB15
                  clear G11 F11 K11 hB13 hB15
                  go_wp2_with fail
                  go_meet
                  case rel =>
                    refine ⟨_, _, _, HS11.out, ⟨rfl, ?_, ⟨HQ8.out.c.1, by rw [← HQ8.out.c.2.1], HQ8.out.c.2.2⟩, HQ8.out.cp, HQ8.out.it⟩, rfl, rfl, ?_⟩
                    · show (τ.E ++ [_]).map EfD.pl = (ρ.E ++ [_]).map EfD.pl
                      rw [List.map_append, List.map_append, HQ8.out.E]
                    · dsimp only
                      have := HC.out
                      rw [List.length_append]
                      simp
                      omega
              · have g0 : (kind == 0) = false := by simpa using hk0
                clear hk0
                by_cases hk1 : kind = 1
                · subst hk1
                  clear z4 g0
                  have hcs : τ.c.set ≤ 1000000 := by have := HC.out; omega
                  have hel : τ.E.length ≤ 1000000 := by have := HC.out; omega
                  have hel2 : ρ.E.length ≤ 1000000 := by rw [HQ8.out.len]; exact hel
                  obtain ⟨ok, hok⟩ : ∃ ok, ok = SetOk τ := ⟨_, rfl⟩
                  have hokr : (!decide (((ρ.d : Nat) : Int) ∈ p.ss.take p.sl)) = ok := by rw [hok, ← HQ8.out.c.2.2, ← HQ8.out.cp.2.2]; rfl
                  obtain ⟨r, hr⟩ : ∃ r : Int, r = (if ok = true then 0 else 5) := ⟨_, rfl⟩
                  have HS1 := Lib.hid (show ∀ W, Chg [] w8 W → Calls Try.prog 13 #[.pointer (some ⟨τ.bT, 0, none⟩), .agg #[.int .u32 B.fl, .int .u8 B.mn, .int .u8 B.tm]] W fun e w' => e = .returned (.int .i64 r) ∧ ∃ v', TtGo w W τ { τ with v := v', c := { τ.c with set := τ.c.set + 1 }, A := if ok = true then B else τ.A, E := τ.E ++ [ef0 1 B 0 ok] } w' from fun W c => by
                    have := tSet_any w W τ B (HS8.out.chg0 c).t.T hcs hel
                    unfold TSetPost at this
                    rw [← hok, ← hr] at this
                    exact this)
                  have HS2 := Lib.hid (show ∀ W, RtIs w W p ρ → Calls Try.prog 27 #[.pointer (some ⟨ρ.bR, 0, none⟩), .agg #[.int .u32 B.fl, .int .u8 B.mn, .int .u8 B.tm]] W fun e w' => e = .returned (.int .i64 r) ∧ ∃ v', RtGo w W p ρ { ρ with v := v', d := ρ.d + 1, A := if ok = true then B else ρ.A, E := ρ.E ++ [ef0 1 B 0 ok] } w' from fun W h => by
                    have := rtSet_any w W p ρ B ok h hokr (by rw [← HQ8.out.c.2.2]; exact hcs) (by have := HSM.out; omega) hel2
                    rw [← hr] at this
                    exact this)
                  have HEL := Lib.hid (And.intro hel hel2)
                  clear hcs hel hel2 hok hokr hr
                  go_wp2_with fail
                  have HCELL := Lib.hid (And.intro z1 (And.intro z2 z3))
                  go_region_held3 (fun w' => w'.cell? ⟨b12, 1, none⟩ = some (.int .u32 B.fl) ∧ w'.cell? ⟨b12, 2, none⟩ = some (.int .u8 B.mn) ∧ w'.cell? ⟨b12, 3, none⟩ = some (.int .u8 B.tm)) (first | exact ⟨by rw [cell_of_heap F10.1]; rfl, by rw [cell_of_heap F10.1]; rfl, by rw [cell_of_heap F10.1]; rfl⟩ | exact ⟨by rw [cell_of_heap F9.1]; rfl, by rw [cell_of_heap F9.1]; rfl, by rw [cell_of_heap F9.1]; rfl⟩ | go_keep)
                    (first
                      | (go_at_call 13; refine (HS1.out _ (by first | exact Chg.refl _ _ | exact (Chg.refl _ _).drew | exact (Chg.refl _ _).drewN _)).mono ?_; rintro e w9 ⟨rfl, v9, G9⟩; have S9 := (HS8.out.chg0 (by first | exact Chg.refl [] w8 | exact (Chg.refl [] w8).drew | exact (Chg.refl [] w8).drewN _)).left ((RdGo.refl (HS8.out.chg0 (by first | exact Chg.refl [] w8 | exact (Chg.refl [] w8).drew | exact (Chg.refl [] w8).drewN _)).t).go G9); have F9 := Far.left ((RdGo.refl (HS8.out.chg0 (by first | exact Chg.refl [] w8 | exact (Chg.refl [] w8).drew | exact (Chg.refl [] w8).drewN _)).t).go G9) HB8.out.1 HB8.out.2; clear G9)
                      | (go_at_call 27; refine (HS2.out _ S9.r).mono ?_; rintro e w10 ⟨rfl, v10, G10⟩; have S10 := S9.right G10; have F10 := Far.right G10 F9.1 F9.2; clear G10))
                  all_goals (
                    have HS10 := Lib.hid S10
                    clear S9 F9 S10 F10
                    go_wp2_with fail
                    go_meet
                    case rel =>
                      refine ⟨_, _, _, HS10.out, ⟨by show (if ok = true then B else τ.A) = (if ok = true then B else ρ.A); rw [HQ8.out.A], ?_, ⟨HQ8.out.c.1, HQ8.out.c.2.1, by rw [← HQ8.out.c.2.2]⟩, HQ8.out.cp, HQ8.out.it⟩, rfl, rfl, ?_⟩
                      · show (τ.E ++ [_]).map EfD.pl = (ρ.E ++ [_]).map EfD.pl
                        rw [List.map_append, List.map_append, HQ8.out.E]
                      · dsimp only
                        have := HC.out
                        rw [List.length_append]
                        simp
                        omega)
                · have g1 : (kind == 1) = false := by simpa using hk1
                  clear hk1
                  by_cases hk2 : kind = 2
                  · subst hk2
                    clear z1 z2 z3 g0 g1
                    have hBX := HB8.out.1
                    have hcw : τ.c.wrote ≤ 1000000 := by have := HC.out; omega
                    have hel : τ.E.length ≤ 1000000 := by have := HC.out; omega
                    have hw1 := tWrite_any w w8 τ ao xm xcap (xs.take xm) HS8.out.t.T ((HX5.out.1.chg0 HS8.out.t.T.W.c0).src) (fun h0 q hq => HS8.out.t.T.W.lo q (row_lt HX5.out.1 h0 q hq)) (by have := HX5.out.2; omega) hcw hel
                    unfold TWrPost at hw1
                    obtain ⟨m1, hm1⟩ : ∃ m : Int, m = (if wrB τ.c.ws τ.c.wrote = true then wrN τ.c.ws τ.c.wrote (xs.take xm).length else 0) := ⟨_, rfl⟩
                    obtain ⟨m2, hm2⟩ : ∃ m : Int, m = (if wrB τ.c.ws τ.c.wrote = true then 0 else 5) := ⟨_, rfl⟩
                    rw [← hm1, ← hm2] at hw1
                    have HW1 := Lib.hid hw1
                    have HM := Lib.hid (And.intro hm1 hm2)
                    clear hw1 hm1 hm2 hBX
                    go_wp2_with fail
                    refine (HW1.out).mono ?_
                    rintro e w9 ⟨rfl, v9, a9, c9, G9, _⟩
                    have GR9 := (RdGo.refl HS8.out.t).go G9
                    have S9 := HS8.out.left GR9
                    have F9 := Far.left GR9 HB8.out.1 HB8.out.2
                    have y4 : w9.cell? ⟨b12, 4, none⟩ = some (.slice ao xm xcap) := by rw [cell_of_heap F9.1]; rfl
                    have hl2 : ρ.E.length ≤ 1000000 := by rw [HQ8.out.len]; exact hel
                    have hw2 := rtWrite_any w w9 p ρ ao xm xcap (xs.take xm) S9.r ((HX5.out.1.chg0 S9.t.T.W.c0).src) (fun h0 q hq => row_lt HX5.out.1 h0 q hq) (by have := HX5.out.2; omega) (by rw [← HQ8.out.c.1]; exact hcw) (by have := HSM.out; omega) hl2
                    unfold RWrPost at hw2
                    rw [← HQ8.out.cp.1, ← HQ8.out.c.1, ← HM.out.1, ← HM.out.2] at hw2
                    have HW2 := Lib.hid hw2
                    have HS9 := Lib.hid S9
                    clear hw2 GR9 S9 F9 G9 z4 HW1
                    go_wp2_with fail
                    refine (HW2.out).mono ?_
                    rintro e w10 ⟨rfl, v10, a10, c10, G10⟩
                    have HS10 := Lib.hid (HS9.out.right G10)
                    clear G10 HW2 y4
                    go_wp2_with fail
                    go_meet
                    case rel =>
                      refine ⟨_, _, _, HS10.out, ⟨HQ8.out.A, ?_, ⟨rfl, HQ8.out.c.2⟩, HQ8.out.cp, HQ8.out.it⟩, rfl, rfl, ?_⟩
                      · show (τ.E ++ [_]).map EfD.pl = (ρ.E ++ [_]).map EfD.pl
                        rw [List.map_append, List.map_append, HQ8.out.E]
                        rfl
                      · dsimp only
                        have := HC.out
                        rw [List.length_append]
                        simp
                        omega
                  · have g2 : (kind == 2) = false := by simpa using hk2
                    clear hk2
                    by_cases hk3 : kind = 3
                    · subst hk3
                      clear z1 z2 z3 z4 g0 g1 g2
                      have hel : τ.E.length ≤ 1000000 := by have := HC.out; omega
                      obtain ⟨K, n, f, d, l2, Z2, L2, hz2, hi2, hrl, hrr⟩ := rd_both w w8 p τ ρ (bC + 1) bC l' HS8.out HQ8.out hel (by have := HC.out; omega)
                      have HRR := Lib.hid hrr
                      have HRL := Lib.hid hrl
                      have HZ2 := Lib.hid (And.intro hz2 hi2)
                      clear hel hz2 hi2 hrr hrl
                      go_wp2_with fail
                      refine (HRL.out).mono ?_
                      rintro e w9 ⟨rfl, v9, μ9, G9⟩
                      have HS9 := Lib.hid (HS8.out.left G9)
                      clear G9 HRL
                      go_wp2_with fail
                      refine (HRR.out _ HS9.out.r).mono ?_
                      rintro e w10 ⟨ao, m, co, rfl, hs10, v10, u10, G10⟩
                      have HS10 := Lib.hid (HS9.out.right G10)
                      have htx : ∀ n : Calm w10, Calls Try.prog 30 #[.pointer (some ⟨bC + 1, 0, none⟩)] n.w fun e w' => e = .returned (.string (strOfNums l2)) ∧ Chg [] n.w w' := fun n => text_any _ bC 64 l2 n.w (HS10.out.chg0 n.c).t.Ar (by omega)
                      have cv : ∀ n : Calm w10, _ := fun n => tconv_at (hs10.chg0 n.c)
                      generalize strOfNums l2 = s at htx cv
                      have HTX := Lib.hid htx
                      clear G10 HRR htx hs10
                      go_wp2_with fail
                      refine wp_region_calm (by kernel_rfl) (by kernel_rfl) ?_
                      repeat (go_big_quiet_step ((go_at_call 30; exact calm_of (HTX.out _))))
                      refine wpQuiet_nil ?_
                      intro w' hw'
                      obtain ⟨⟨w11, C11⟩, rfl⟩ := hw'
                      have HS11 := Lib.hid (HS10.out.chg0 C11)
                      clear cv C11
                      go_wp2_with fail
                      go_meet
                      case rel =>
                        refine ⟨_, _, _, HS11.out, ⟨HQ8.out.A, ?_, HQ8.out.c, HQ8.out.cp, HZ2.out.2⟩, rfl, rfl, ?_⟩
                        · show (τ.E ++ [_]).map EfD.pl = (ρ.E ++ [_]).map EfD.pl
                          rw [List.map_append, List.map_append, HQ8.out.E]
                        · dsimp only
                          have := HC.out
                          have := HZ2.out.1
                          rw [List.length_append]
                          simp
                          omega
                    · have g3 : (kind == 3) = false := by simpa using hk3
                      clear hk3
                      by_cases hk4 : kind = 4
                      · subst hk4
                        clear z1 z2 z3 z4 g0 g1 g2 g3
                        obtain ⟨i0, hi, hz0, hz1, hz2⟩ := info_parts infoEff
                        have hel : τ.E.length ≤ 1000000 := by have := HC.out; omega
                        have hel2 : ρ.E.length ≤ 1000000 := by rw [HQ8.out.len]; exact hel
                        obtain ⟨ra, rc, hv, _⟩ := HS8.out.r.reads
                        have hT := HS8.out.r.hT
                        have hrow := HS8.out.r.row
                        have hne := HS8.out.r.ne
                        rw [hv] at hT hrow hne
                        have K8 : Chg [] w8 (w8.alloc (.cells (ef0 6 at0 0 false).cells.toArray 49)) := (Chg.refl _ _).alloc _
                        have x4 : w8.cell? ⟨ρ.bR, 4, none⟩ = some (.slice ra ρ.E.length rc) := by rw [cell_of_heap hT]; rfl
                        have y4 := K8.cell x4 (by simp)
                        have HROW := Lib.hid (hrow.chg K8 (by simp))
                        have HNEW := Lib.hid (seven_new w8 49 (ef0 6 at0 0 false))
                        have HT := Lib.hid (And.intro hT (And.intro hne hv))
                        have HK8 := Lib.hid K8
                        have HEL := Lib.hid (And.intro hel hel2)
                        clear K8 hT hrow hne hv hel hel2
                        go_wp2_with (at_builtin; refine wpList_append_off rfl (.tmp 177) (.tmp 179) 46 rfl 49 i0 (.agg #[.int .i64 0, .int .u32 0, .int .u8 0, .int .u8 0, .slice none 0 0, .int .i64 0, .bool false]) 7 56 Try.underlying46 hi hz0 hz1 hz2 rfl (by decide) (.slice ra ρ.E.length rc) ρ.E.length (cellsF ρ.E) (by rfl) HROW.out ⟨w8.heap.size, 0, none⟩ 1 1 (ef0 6 at0 0 false).cells (by rfl) rfl HNEW.out (ef_one _) (by have := HEL.out.2; unfold maxLen; omega) (by have := HEL.out.2; omega) (fun v' w9 R9 C9 B9 => ?_); obtain ⟨ao9, c9, rfl, _, _, _⟩ := R9.slice; have h9 := C9.heap (HK8.out.heap HT.out.1 (by simp)) (fun hm => HT.out.2.1 (by simpa [Option.mem_toList] using hm)); have f9 := free_of_heap h9 4; have y9 : w9.cell? ⟨ρ.bR, 4, none⟩ = some (.slice ra ρ.E.length rc) := (by rw [cell_of_heap h9]; rfl); have HE9 := Lib.hid (And.intro R9 (And.intro C9 B9)); clear R9 C9 B9 h9)
                        have hN := RtGo.noted (RtGo.refl HS8.out.r) (datR0 6 at0 0 false) (fun q hq => by cases hq) (rnote_end (v := ρ.v) HS8.out.r.hT HS8.out.r.ne HK8.out HE9.out.1 (by rw [HT.out.2.2]; exact HE9.out.2.1) (by rw [HT.out.2.2]; exact HE9.out.2.2))
                        obtain ⟨_, v10, G10⟩ := hN
                        have HS10 := Lib.hid (HS8.out.right G10)
                        clear G10 x4 y4 hi hz0 hz1 hz2
                        refine (tRemember_any w _ τ HS10.out.t.T HEL.out.1).mono ?_
                        rintro e w11 ⟨rfl, v11, G11⟩
                        have HS11 := Lib.hid (HS10.out.left ((RdGo.refl HS10.out.t).go G11))
                        clear G11 f9 y9
                        go_wp2_with fail
                        go_meet
                        case rel =>
                          refine ⟨_, _, _, HS11.out, ⟨HQ8.out.A, ?_, HQ8.out.c, HQ8.out.cp, HQ8.out.it⟩, rfl, rfl, ?_⟩
                          · show (τ.E ++ [_]).map EfD.pl = (ρ.E ++ [_]).map EfD.pl
                            rw [List.map_append, List.map_append, HQ8.out.E]
                          · dsimp only
                            have := HC.out
                            rw [List.length_append]
                            simp
                            omega
                      · have g4 : (kind == 4) = false := by simpa using hk4
                        clear hk4
                        clear z1 z2 z3 z4
                        go_wp2_with fail
                        go_meet
                        case rel => exact ⟨τ, ρ, l', HS8.out, HQ8.out, rfl, rfl, by have := HC.out; omega⟩
            case rest =>
              obtain ⟨τ', ρ', l2, hS, hQ, e1, e2, hc⟩ := hcut
              obtain ⟨ra, rc, hv, _⟩ := hS.r.reads
              obtain ⟨u0, u1, u2, _, u4⟩ := hS.r.c3
              rw [e2, ← hQ.A] at u0 u1 u2
              rw [e2, hv, hQ.len] at u4
              have g0 : ∀ n : Calm wc, n.w.cell? ⟨ρ.bR, 0, none⟩ = some (.int .u32 τ'.A.fl) := fun n => n.c.cell u0 (by simp)
              have g1 : ∀ n : Calm wc, n.w.cell? ⟨ρ.bR, 1, none⟩ = some (.int .u8 τ'.A.mn) := fun n => n.c.cell u1 (by simp)
              have g2 : ∀ n : Calm wc, n.w.cell? ⟨ρ.bR, 2, none⟩ = some (.int .u8 τ'.A.tm) := fun n => n.c.cell u2 (by simp)
              have g4 : ∀ n : Calm wc, n.w.cell? ⟨ρ.bR, 4, none⟩ = some (.slice ra τ'.E.length rc) := fun n => n.c.cell u4 (by simp)
              have hat : ∀ n : Calm wc, Calls Try.prog 15 #[.pointer (some ⟨τ.bT, 0, none⟩)] n.w fun e w' => e = .returned (.agg #[.int .u32 τ'.A.fl, .int .u8 τ'.A.mn, .int .u8 τ'.A.tm]) ∧ Chg [] n.w w' := fun n => by
                have := tAttrs_any w n.w τ' (hS.t.T.chg0 n.c)
                rw [e1] at this
                exact this
              have hcl : ∀ n : Calm wc, Calls Try.prog 16 #[.pointer (some ⟨τ.bT, 0, none⟩)] n.w fun e w' => e = .returned (.int .i64 (τ'.E.length : Nat)) ∧ n.w = w' := fun n => by
                have := tCalls_any w n.w τ' (hS.t.T.chg0 n.c)
                rw [e1] at this
                exact this
              have HE := Lib.hid (And.intro hS (And.intro hQ (And.intro e1 (And.intro e2 hc))))
              have HAT := Lib.hid hat
              have HCL := Lib.hid hcl
              clear hS hQ e1 e2 hc hv u0 u1 u2 u4 hat hcl z1 z2 z3 z4 HS8 HQ8 HB8 HX5
              go_wp2_with fail
              refine wp_region_calm (by kernel_rfl) (by kernel_rfl) ?_
              repeat (go_big_quiet_step ((first
                | (go_at_call 15; exact calm_of (HAT.out _))
                | (go_at_call 16; exact calm_same (HCL.out _)))))
              refine wpQuiet_nil ?_
              intro w' hw'
              obtain ⟨⟨w10, C10⟩, rfl⟩ := hw'
              have HE10 := Lib.hid (HE.out.1.chg0 C10)
              clear g0 g1 g2 g4 C10
              go_wp2_with fail
              go_roundw
              case rel => exact ⟨k + 1, τ', ρ', l2, by omega, by go_num, HE10.out, HE.out.2.1, HE.out.2.2.1, HE.out.2.2.2.1, HE.out.2.2.2.2⟩
              case measure => simp [intOf]; omega
          · obtain rfl : k = len := by omega
            obtain ⟨ra, rc, hv, hER⟩ := hS.r.reads
            have t4 := hS.r.c3.2.2.2.2
            have hlen2 := hQ.len
            rw [hv, hlen2] at t4
            rw [hlen2] at hER
            have HER := Lib.hid hER
            have HP := Lib.hid hQ.E
            have HEF := Lib.hid (show ∀ W, Chg [] wr W → Calls Try.prog 19 #[.pointer (some ⟨τ.bT, 0, none⟩)] W (EffPost τ.E W) from fun W c => tEffects_any w W τ (hS.t.T.chg0 c) (by have := HL2.out.1; omega))
            have HC0 := Lib.hid hS.t.T.W.c0
            have hfew : τ.E.length ≤ 1000000 := by have := HL2.out.1; omega
            have HFW := Lib.hid hfew
            clear hS hQ hc hv hlen2 hER hfew
            go_wp2_with fail
            go_region_held3 (fun w' => w'.cell? ⟨ρ.bR, 4, none⟩ = some (.slice ra τ.E.length rc)) (first | exact st9.cell t4 (by simp) | exact st.cell t4 (by simp) | go_keep)
              (first
                | (go_at_call 19; refine (HEF.out _ (by first | exact Chg.refl _ _ | exact (Chg.refl _ _).drew | exact (Chg.refl _ _).drewN _)).mono ?_; rintro e w8 ⟨rv, E', rfl, C8, X8⟩; obtain ⟨qa, qm, qc, rfl, _, _⟩ := X8.slice; obtain ⟨hq1, _, ER8⟩ := X8.reads rfl; obtain rfl : qm = τ.E.length := hq1; have HP8 := Lib.hid X8.pl; have st : Chg [] wr w8 := (by first | exact C8 | exact C8.of_drew | exact C8.of_drewN))
                | (go_at_call 31; refine (rSame_any qa ra τ.E.length qc rc E' ρ.E _ ER8 (HER.out.chg st) (by rw [HP8.out, HP.out]) HFW.out).mono ?_; rintro e w9 ⟨rfl, C9⟩; have st9 := st.trans C9 (U := []) (by simp) (by simp)))
            all_goals (
              go_wp2_with fail
              go_ret
              exact ⟨rfl, Chg.below (Below.refl _ _) (HC0.out.trans st9 (U := []) (by simp) (by simp)) (by simp) (Nat.le_refl _)⟩)
      · have hck' : (p.chk != 0) = true := by rw [bne_iff_ne]; exact hck
        refine (tNew_bad p _ (HP.out.chg D3.out) hck).mono ?_
        rintro e w4 ⟨rfl, C4⟩
        have D4 := Lib.hid (D3.out.trans C4 (U := []) (by simp) (by simp))
        have B4 := Lib.hid (C4.heap B3.out (by simp))
        clear C4 q0 q1 q2 q3 q4 q5 q6
        obtain ⟨q0, q1, q2, q3, q4, q5, q6⟩ := plan_cells B4.out
        have HRC := Lib.hid (refCheck_any p _ (HP.out.chg D4.out))
        clear hck
        generalize hy : p.chk = y at *
        clear hy
        go_wp2_with fail
        refine (HRC.out).mono ?_
        rintro e w5 ⟨rfl, C5⟩
        go_wp2_with fail
        go_ret
        exact ⟨rfl, Chg.below (Below.refl _ _) (D4.out.trans C5 (U := []) (by simp) (by simp)) (by simp) (Nat.le_refl _)⟩
end Go.Proofs.Ytmcbgpjphjacjaa
