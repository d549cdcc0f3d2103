/-
  TtyCalls: each call that is met has one effect, of its kind, behind all that were there. The walk.
-/
import Derived.Test.YtmcbgpjphjacjaaTtyL
import Derived.Test.YtmcbgpjphjacjaaTtyM
import Derived.Test.YtmcbgpjphjacjaaWldGa
import Derived.Deep.DeepCutAuto
import Derived.Deep.CutBlock
namespace Go.Proofs.Ytmcbgpjphjacjaa
set_option linter.unusedVariables false
set_option linter.unusedSimpArgs false
set_option maxRecDepth 100000
open Go.RowKit

/-- What a plan is where Great does not tell of it. -/
theorem plan_small {p : PlanD} (hv : greatV p = 0) : p.wl ≤ 4000 ∧ p.gl ≤ 4000 ∧ p.sl ≤ 4000 ∧ p.il ≤ 300 ∧ (∀ y ∈ p.its, y.m ≤ 4000) ∧ sumL p.its ≤ 4000 := by
  unfold greatV at hv
  split at hv
  · cases hv
  · rename_i hn
    have h1 : ∀ y ∈ p.its, y.m ≤ sumL p.its := fun y hy => by
      obtain ⟨k, hk⟩ := List.getElem?_of_mem hy
      have := sumL_take hk
      have := sumL_le p.its (k + 1)
      omega
    unfold greatN at hn
    exact ⟨by omega, by omega, by omega, by omega, fun y hy => by have := h1 y hy; omega, by omega⟩

set_option maxHeartbeats 16000000 in
theorem ttyCalls_walk (p : PlanD) (a : Option Addr) (len cap : Nat) (l : List ActT) (w : World) (hp : p.At w) (hm : ∀ y ∈ p.its, y.m ≤ reachBytes) (hr : p.wl ≤ reachBytes ∧ p.gl ≤ reachBytes ∧ p.sl ≤ reachBytes) (hlen : len ≤ maxLen) (ha : ActsT w a len l) (hmm : ∀ x ∈ l, x.m ≤ 140737488355328) :
    Calls Try.prog 8 #[.agg p.cells, .slice a len cap] w fun e w' => e = .returned (.bool true) ∧ Below w.heap.size w w' := by
  have hcs : p.cells = #[.int .u32 p.fl, .int .u8 p.mn, .int .u8 p.tm, .slice p.ia p.il p.ic, .slice p.wa p.wl p.wc, .slice p.ga p.gl p.gc, .slice p.sa p.sl p.sc] := rfl
  have HA := Lib.hid ha
  have HP := Lib.hid hp
  have HM := Lib.hid (And.intro hm hr)
  have HL := Lib.hid (And.intro hlen hmm)
  unfold maxLen at hlen
  rw [hcs]
  clear hp hm hr hcs ha hmm
  have CB : Chg [] w (w.alloc (.cells #[.int .u32 p.fl, .int .u8 p.mn, .int .u8 p.tm, .slice p.ia p.il p.ic, .slice p.wa p.wl p.wc, .slice p.ga p.gl p.gc, .slice p.sa p.sl p.sc] 28)) := (Chg.refl _ _).alloc _
  have hB : (w.alloc (.cells #[.int .u32 p.fl, .int .u8 p.mn, .int .u8 p.tm, .slice p.ia p.il p.ic, .slice p.wa p.wl p.wc, .slice p.ga p.gl p.gc, .slice p.sa p.sl p.sc] 28)).heap[w.heap.size]? = some (.cells p.cells 28 (0, 0)) := alloc_heap w _
  have HCB := Lib.hid (And.intro CB hB)
  clear CB hB
  go_enter Try.func8, Try.ntmps8
  go_wp2_with fail
  refine (talive_any _).mono ?_
  rintro e w1 ⟨rfl, C1⟩
  have D1 := Lib.hid (HCB.out.1.trans C1 (U := []) (by simp) (by simp))
  have B1 := Lib.hid (C1.heap HCB.out.2 (by simp))
  obtain ⟨q0, q1, q2, q3, q4, q5, q6⟩ := plan_cells B1.out
  clear C1
  go_wp2_with fail
  refine (great_all p _ (HP.out.chg D1.out) HM.out.1 HM.out.2).mono ?_
  rintro e w2 ⟨rfl, C2⟩
  have D2 := Lib.hid (D1.out.trans C2 (U := []) (by simp) (by simp))
  have B2 := Lib.hid (C2.heap B1.out (by simp))
  clear C2 q0 q1 q2 q3 q4 q5 q6
  obtain ⟨q0, q1, q2, q3, q4, q5, q6⟩ := plan_cells B2.out
  have hgr : greatV p = 1 ∨ greatV p = 0 := by unfold greatV; split <;> simp
  rcases hgr with hv | hv
  · rw [hv]
    have HV0 := Lib.hid hv
    clear hv
    go_wp2_with fail
    refine (talive_any _).mono ?_
    rintro e w3 ⟨rfl, C3⟩
    go_wp2_with fail
    go_ret
    exact ⟨rfl, Chg.below (Below.refl _ _) (D2.out.trans C3 (U := []) (by simp) (by simp)) (by simp) (Nat.le_refl _)⟩
  · rw [hv]
    have HSM := Lib.hid (plan_small hv)
    clear hv
    go_wp2_with fail
    refine (tgreat_any a len cap l _ (HA.out.chg D2.out) HL.out.1 HL.out.2).mono ?_
    rintro e w3 ⟨hg, C3⟩
    have D3 := Lib.hid (D2.out.trans C3 (U := []) (by simp) (by simp))
    have B3 := Lib.hid (C3.heap B2.out (by simp))
    clear C3 q0 q1 q2 q3 q4 q5 q6
    obtain ⟨q0, q1, q2, q3, q4, q5, q6⟩ := plan_cells B3.out
    rcases hg with rfl | ⟨rfl, hl1, hl2⟩
    · go_wp2_with fail
      refine (talive_any _).mono ?_
      rintro e w4 ⟨rfl, C4⟩
      go_wp2_with fail
      go_ret
      exact ⟨rfl, Chg.below (Below.refl _ _) (D3.out.trans C4 (U := []) (by simp) (by simp)) (by simp) (Nat.le_refl _)⟩
    · have HL2 := Lib.hid (And.intro hl1 hl2)
      clear hl1 hl2
      go_wp2_with fail
      refine (refCheck_any p _ (HP.out.chg D3.out)).mono ?_
      rintro e w4 ⟨rfl, C4⟩
      have D4 := Lib.hid (D3.out.trans C4 (U := []) (by simp) (by simp))
      have B4 := Lib.hid (C4.heap B3.out (by simp))
      clear C4 q0 q1 q2 q3 q4 q5 q6
      obtain ⟨q0, q1, q2, q3, q4, q5, q6⟩ := plan_cells B4.out
      by_cases hck : p.chk = 0
      · rw [hck]
        have HCK := Lib.hid hck
        clear hck
        go_wp2_with fail
        refine (tNew_any p _ (HP.out.chg D4.out) HCK.out (by have := HSM.out; omega) (by have := HSM.out; omega) (by have := HSM.out; omega) (fun x hx => by have := HSM.out.2.2.2.2.1 x hx; omega)).mono ?_
        rintro e w5 ⟨τ, rfl, T5, hz, h1, h2, h3⟩
        have hcn : Hid (τ.c.wrote = 0 ∧ τ.c.got = 0 ∧ τ.c.set = 0 ∧ τ.E.length = 0) := Lib.hid ⟨by rw [h1]; rfl, by rw [h1]; rfl, by rw [h1]; rfl, by rw [h3]; rfl⟩
        have HT5 := Lib.hid (T5.base D4.out)
        clear hz h1 h2 h3 T5 q0 q1 q2 q3 q4 q5 q6
        go_wp2_with fail
        refine (Arn.new_ok 64 w5 (by omega) (by omega)).mono ?_
        rintro e w6 ⟨rfl, C6, A6⟩
        have HR6 : Hid (RdOk w w6 τ (w5.heap.size + 1) w5.heap.size 64 []) := Lib.hid (by
          have hl := HT5.out.W.c0.size
          exact ⟨HT5.out.chg0 C6, A6, fun ho => by have := (HT5.out.own_lt _ ho).2; omega, fun ho => by have := (HT5.out.own_lt _ ho).2; omega, by omega, hl⟩)
        clear C6 A6 HT5
        generalize w5.heap.size = bC at *
        generalize hbT : τ.bT = bT at *
        have HBT := Lib.hid hbT
        clear hbT
        go_wp2_with fail
        go_loopw [53] (fun i wr => ∃ (k : Nat) (τ : Tt) (l' : List Int), k ≤ len ∧ i = .int .i64 k ∧ RdOk w wr τ (bC + 1) bC 64 l' ∧ τ.bT = bT ∧ (τ.c.wrote ≤ k ∧ τ.c.got ≤ k ∧ τ.c.set ≤ k ∧ τ.E.length = k)) (fun i _ => len - (intOf i).toNat)
        case atStart => exact ⟨0, τ, [], by omega, rfl, HR6.out, HBT.out, by have := hcn.out; omega⟩
        case round =>
          obtain ⟨k, τ, l', hk, rfl, hR, hb, hc⟩ := hrel
          by_cases hlt : k < len
          · subst hb
            obtain ⟨bl, off, x, rfl, hx, x0, x1, x2, x3, x4, x5⟩ := HA.out.get hlt
            have hx6 : x.m ≤ 3000 := HL2.out.2 x (List.mem_of_getElem? hx)
            obtain ⟨kind, B, ao, xm, xcap, xs⟩ := x
            dsimp only at x0 x1 x2 x3 x4 x5 hx6
            have HX5 := Lib.hid (And.intro x5 hx6)
            replace x0 := hR.T.W.c0.cell x0 (by simp)
            replace x1 := hR.T.W.c0.cell x1 (by simp)
            replace x2 := hR.T.W.c0.cell x2 (by simp)
            replace x3 := hR.T.W.c0.cell x3 (by simp)
            replace x4 := hR.T.W.c0.cell x4 (by simp)
            obtain ⟨w7, hw7⟩ : ∃ w7, w7 = wr.alloc (.cells #[.int .i64 kind, .int .u32 B.fl, .int .u8 B.mn, .int .u8 B.tm, .slice ao xm xcap] 67) := ⟨_, rfl⟩
            have hB7 : w7.heap[wr.heap.size]? = some (.cells #[.int .i64 kind, .int .u32 B.fl, .int .u8 B.mn, .int .u8 B.tm, .slice ao xm xcap] 67 (0, 0)) := by rw [hw7]; exact alloc_heap wr _
            have HR7 := Lib.hid (hR.chg0 (w' := w7) (by rw [hw7]; exact (Chg.refl _ _).alloc _))
            obtain ⟨b10, hb10⟩ : ∃ b10, b10 = wr.heap.size := ⟨_, rfl⟩
            rw [← hb10] at hB7
            have HW7 := Lib.hid hw7
            have HB10 := Lib.hid hb10
            have HB7 := Lib.hid hB7
            have HC := Lib.hid hc
            have hk3 : k ≤ 100 := by have := HL2.out.1; omega
            clear hw7 hb10 hB7 hc hR hx x5 hx6
            go_wp2_with fail
            rw [← HW7.out, ← HB10.out]
            clear HW7 HB10 x0 x1 x2 x3 x4
            refine (tEffects_any w w7 τ HR7.out.T (by have := HC.out; omega)).mono ?_
            rintro e w8 ⟨rv, E', rfl, C8, X8⟩
            obtain ⟨ra, rm, rc, rfl, _, _⟩ := X8.slice
            have HX8 := Lib.hid X8
            have HR8 := Lib.hid (HR7.out.chg0 C8)
            have hB8 := C8.heap HB7.out (by simp)
            have z0 : w8.cell? ⟨b10, 0, none⟩ = some (.int .i64 kind) := by rw [cell_of_heap hB8]; rfl
            have z1 : w8.cell? ⟨b10, 1, none⟩ = some (.int .u32 B.fl) := by rw [cell_of_heap hB8]; rfl
            have z2 : w8.cell? ⟨b10, 2, none⟩ = some (.int .u8 B.mn) := by rw [cell_of_heap hB8]; rfl
            have z3 : w8.cell? ⟨b10, 3, none⟩ = some (.int .u8 B.tm) := by rw [cell_of_heap hB8]; rfl
            have z4 : w8.cell? ⟨b10, 4, none⟩ = some (.slice ao xm xcap) := by rw [cell_of_heap hB8]; rfl
            have HLT := Lib.hid (fun y hy => (HR7.out.lt y hy).2)
            clear X8 C8 hB8 HB7 HR7
            go_upto_block 2 with (fail)
            go_cut [12, 13] (fun lo hi wx => ∃ l1 l2 : Int, lo = .int .i64 l1 ∧ hi = .int .i64 l2 ∧ StepP w w8 τ (bC + 1) bC l1 l2 wx)
            case first =>
              by_cases hk0 : kind = 0
              · subst hk0
                clear z0 z1 z2 z3 z4
                go_wp2_with fail
                refine (stGet w w8 τ (bC + 1) bC l' HR8.out (by have := HC.out; omega) (by have := HC.out; omega)).mono ?_
                rintro e w9 ⟨v, rfl, st⟩
                go_wp2_with fail
                go_meet
                case rel => exact ⟨_, _, rfl, rfl, st⟩
              · have g0 : (kind == 0) = false := by simpa using hk0
                clear hk0
                by_cases hk1 : kind = 1
                · subst hk1
                  clear z0 z4 g0
                  go_wp2_with fail
                  refine (stSet w w8 τ B (bC + 1) bC l' HR8.out (by have := HC.out; omega) (by have := HC.out; omega)).mono ?_
                  rintro e w9 ⟨v, rfl, st⟩
                  go_wp2_with fail
                  go_meet
                  case rel => exact ⟨_, _, rfl, rfl, st⟩
                · have g1 : (kind == 1) = false := by simpa using hk1
                  clear hk1
                  by_cases hk2 : kind = 2
                  · subst hk2
                    clear z0 z1 z2 z3 g0 g1
                    go_wp2_with fail
                    refine (stWrite w w8 τ ao xm xcap xs (bC + 1) bC l' HR8.out HX5.out.1 (by have := HX5.out.2; omega) (by have := HC.out; omega) (by have := HC.out; omega)).mono ?_
                    rintro e w9 ⟨v, rfl, st⟩
                    go_wp2_with fail
                    go_meet
                    case rel => exact ⟨_, _, rfl, rfl, st⟩
                  · have g2 : (kind == 2) = false := by simpa using hk2
                    clear hk2
                    by_cases hk4 : kind = 4
                    · subst hk4
                      clear z0 z1 z2 z3 z4 g0 g1 g2
                      go_wp2_with fail
                      refine (stRemember w w8 τ (bC + 1) bC l' HR8.out (by have := HC.out; omega)).mono ?_
                      rintro e w9 ⟨v, rfl, st⟩
                      go_wp2_with fail
                      go_meet
                      case rel => exact ⟨_, _, rfl, rfl, st⟩
                    · have g4 : (kind == 4) = false := by simpa using hk4
                      clear hk4 z0 z1 z2 z3 z4
                      go_wp2_with fail
                      refine (stRead w w8 τ (bC + 1) bC l' HR8.out (by have := HC.out; omega)).mono ?_
                      rintro e w9 ⟨v, rfl, st⟩
                      go_wp2_with fail
                      go_meet
                      case rel => exact ⟨_, _, rfl, rfl, st⟩
            case rest =>
              clear z0 z1 z2 z3 z4 HX5
              obtain ⟨l1, l2, rfl, rfl, τ', l'', y, R9, C9, e1, e2, e3, e4⟩ := hcut
              have HR9 := Lib.hid R9
              have hlE : τ'.E.length = k + 1 := by rw [e2, List.length_append, HC.out.2.2.2]; rfl
              have HE := Lib.hid (And.intro e1 (And.intro e2 (And.intro e4 hlE)))
              have X9 := HX8.out.chgO C9 HLT.out
              obtain ⟨hr1, hr2, ER9⟩ := X9.reads rfl
              have hkk : τ.E.length = k := HC.out.2.2.2
              obtain rfl : k = rm := by rw [hr1]; exact hkk.symm
              have HPL := Lib.hid (show E'.map EfD.pl = τ.E.map EfD.pl from X9.pl)
              have HER := Lib.hid ER9
              have hlo : ¬ y.kind < l1 := by omega
              have hhi : ¬ l2 < y.kind := by omega
              have HKD := Lib.hid (And.intro hlo hhi)
              clear R9 C9 e2 e3 e4 X9 hr1 hr2 ER9 hkk HX8 HLT hlE hlo hhi
              go_wp2_with fail
              have hef := tEffects_any w wc τ' HR9.out.T (by have := HE.out.2.2.2; omega)
              rw [e1] at hef
              refine hef.mono ?_
              rintro e w10 ⟨rv2, E2, rfl, C10, X10⟩
              obtain ⟨qa, qm, qc, rfl, hqc, hqm⟩ := X10.slice
              obtain ⟨hq1, hq2, ER10⟩ := X10.reads rfl
              obtain rfl : qm = k + 1 := by rw [hq1]; exact HE.out.2.2.2
              have HPL2 := Lib.hid (show E2.map EfD.pl = τ'.E.map EfD.pl from X10.pl)
              have hlE := HE.out.2.2.2
              have HR10 := Lib.hid (HR9.out.chg0 C10)
              have HER1 := Lib.hid (HER.out.chg C10)
              have HER2 := Lib.hid ER10
              obtain ⟨g, o, y2, rfl, hy2, k0, _⟩ := ER10.get (k := k) (by omega)
              have hkd : y2.kind = y.kind := by
                have h := congrArg (fun l => l[k]?) HPL2.out
                rw [HE.out.2.1] at h
                have hkk : τ.E.length = k := HC.out.2.2.2
                simp only [List.getElem?_map, hy2, List.getElem?_append_right (Nat.le_of_eq hkk), hkk, Nat.sub_self] at h
                injection h with h
                injection h
              rw [hkd] at k0
              have hcl := tCalls_any w w10 τ' HR10.out.T
              rw [e1, hlE] at hcl
              have HCL := Lib.hid hcl
              clear hef hq1 hq2 ER10 HER C10 X10 hy2 hkd hcl hlE e1
              have hpl : (E2.take k).map EfD.pl = E'.map EfD.pl := by
                rw [List.map_take, HPL2.out, HPL.out, HE.out.2.1, List.map_append, List.take_append_of_le_length (by rw [List.length_map, HC.out.2.2.2]; exact Nat.le_refl _), List.take_of_length_le (by rw [List.length_map, HC.out.2.2.2]; exact Nat.le_refl _)]
              have HSA := Lib.hid (sSame_any (some ⟨g, o, none⟩) ra k qc rc (E2.take k) E' w10 (HER2.out.take (by omega)) HER1.out hpl (by omega))
              unfold maxLen at hqm
              have hqm' : qc ≤ 9223372036854775807 := by omega
              obtain ⟨hlo, hhi⟩ := HKD.out
              clear hpl hqm
              go_wp2_with fail
              refine (HCL.out).mono ?_
              rintro e w11 ⟨rfl, rfl⟩
              go_wp2_with fail
              refine (HSA.out).mono ?_
              rintro e w12 ⟨rfl, C12⟩
              have HR12 := Lib.hid (HR10.out.chg0 C12)
              clear C12
              go_wp2_with fail
              go_roundw
              case rel => exact ⟨k + 1, τ', l'', by omega, by go_num, HR12.out, HE.out.1, by have h1 := HE.out.2.2.1; have h2 := HC.out; have h3 := HE.out.2.2.2; omega⟩
              case measure => simp [intOf]; omega
          · have HR := Lib.hid hR
            clear hR hc hb
            go_wp2_with fail
            go_ret
            exact ⟨rfl, Chg.below (Below.refl _ _) HR.out.T.W.c0 (by simp) (Nat.le_refl _)⟩
      · have hck' : (p.chk != 0) = true := by rw [bne_iff_ne]; exact hck
        generalize p.chk = y at *
        clear hck
        go_wp2_with fail
        refine (talive_any _).mono ?_
        rintro e w5 ⟨rfl, C5⟩
        go_wp2_with fail
        go_ret
        exact ⟨rfl, Chg.below (Below.refl _ _) (D4.out.trans C5 (U := []) (by simp) (by simp)) (by simp) (Nat.le_refl _)⟩
end Go.Proofs.Ytmcbgpjphjacjaa
