/-
  TtyHides: two plans that are alike but for the bytes that come have the same effects. The walk.
-/
import Derived.Test.YtmcbgpjphjacjaaTtyL
import Derived.Test.YtmcbgpjphjacjaaTtyH
import Derived.Test.YtmcbgpjphjacjaaWldGa
import Derived.Deep.DeepCutAuto
import Derived.Deep.CutBlock
import Derived.Laws.StructEq
namespace Go.Proofs.Ytmcbgpjphjacjaa
set_option linter.unusedVariables false
set_option linter.unusedSimpArgs false
set_option maxRecDepth 100000
open Go.RowKit
attribute [local go_sem] run_store_float'

/-- What a plan is where Great does not tell of it. -/
theorem plan_smallH {p : PlanD} (hv : greatV p = 0) : p.wl ≤ 4000 ∧ p.gl ≤ 4000 ∧ p.sl ≤ 4000 ∧ p.il ≤ 300 ∧ (∀ y ∈ p.its, y.m ≤ 4000) ∧ sumL p.its ≤ 4000 := by
  unfold greatV at hv
  split at hv
  · cases hv
  · rename_i hn
    have h1 : ∀ y ∈ p.its, y.m ≤ sumL p.its := fun y hy => by
      obtain ⟨k, hk⟩ := List.getElem?_of_mem hy
      have := sumL_take hk
      have := sumL_le p.its (k + 1)
      omega
    unfold greatN at hn
    exact ⟨by omega, by omega, by omega, by omega, fun y hy => by have := h1 y hy; omega, by omega⟩

theorem its_src {w : World} {a : Option Addr} {n : Nat} {its : List ItD} (h : ItsAt w a n its) : ∀ ad, a = some ad → ∀ (j : Nat) (u : Value), (cellsJ its)[j]? = some u → w.cell? (ad.add j) = some u := by
  intro ad e j u hu
  have hj := (List.getElem?_eq_some_iff.1 hu).1
  rw [cellsJ_length] at hj
  obtain ⟨bl, off, y, e2, hy, y0, y1, y2, y3, _⟩ := h.get (k := j / 4) (by have := h.1; omega)
  rw [e] at e2
  injection e2 with e2
  subst e2
  rw [Addr.add_lit]
  have hj4 : j = j / 4 * 4 + j % 4 := by omega
  rw [hj4, cellsJ_get its (j / 4) y hy (j % 4) (Nat.mod_lt _ (by omega))] at hu
  rw [hj4, ← Nat.add_assoc]
  have h4 : j % 4 < 4 := Nat.mod_lt _ (by omega)
  generalize j % 4 = r at *
  match r, h4, hu with
  | 0, _, hu => rw [Nat.add_zero, y0]; exact hu
  | 1, _, hu => rw [y1]; exact hu
  | 2, _, hu => rw [y2]; exact hu
  | 3, _, hu => rw [y3]; exact hu

set_option maxHeartbeats 16000000 in
theorem ttyHides_walk (p : PlanD) (turn : Int) (a : Option Addr) (len cap : Nat) (l : List ActT) (w : World) (hp : p.At w) (hm : ∀ y ∈ p.its, y.m ≤ reachBytes) (hr : p.wl ≤ reachBytes ∧ p.gl ≤ reachBytes ∧ p.sl ≤ reachBytes) (ht : (Lit.int .u8 turn).wf = true) (hlen : len ≤ maxLen) (ha : ActsT w a len l) (hmm : ∀ x ∈ l, x.m ≤ 140737488355328) (hnil : p.ia = none → p.ic = 0) :
    Calls Try.prog 7 #[.agg p.cells, .int .u8 turn, .slice a len cap] w fun e w' => e = .returned (.bool true) ∧ Below w.heap.size w w' := by
  have hcs : p.cells = #[.int .u32 p.fl, .int .u8 p.mn, .int .u8 p.tm, .slice p.ia p.il p.ic, .slice p.wa p.wl p.wc, .slice p.ga p.gl p.gc, .slice p.sa p.sl p.sc] := rfl
  have HA := Lib.hid ha
  have HP := Lib.hid hp
  have HM := Lib.hid (And.intro hm hr)
  have HL := Lib.hid (And.intro hlen hmm)
  unfold maxLen at hlen
  rw [hcs]
  have HNIL := Lib.hid hnil
  clear ht
  clear hp hm hr hcs ha hmm hnil
  have CB : Chg [] w (w.alloc (.cells #[.int .u32 p.fl, .int .u8 p.mn, .int .u8 p.tm, .slice p.ia p.il p.ic, .slice p.wa p.wl p.wc, .slice p.ga p.gl p.gc, .slice p.sa p.sl p.sc] 28)) := (Chg.refl _ _).alloc _
  have hB : (w.alloc (.cells #[.int .u32 p.fl, .int .u8 p.mn, .int .u8 p.tm, .slice p.ia p.il p.ic, .slice p.wa p.wl p.wc, .slice p.ga p.gl p.gc, .slice p.sa p.sl p.sc] 28)).heap[w.heap.size]? = some (.cells p.cells 28 (0, 0)) := alloc_heap w _
  have HCB := Lib.hid (And.intro CB hB)
  clear CB hB
  go_enter Try.func7, Try.ntmps7
  go_wp2_with fail
  refine (talive_any _).mono ?_
  rintro e w1 ⟨rfl, C1⟩
  have D1 := Lib.hid (HCB.out.1.trans C1 (U := []) (by simp) (by simp))
  have B1 := Lib.hid (C1.heap HCB.out.2 (by simp))
  obtain ⟨q0, q1, q2, q3, q4, q5, q6⟩ := plan_cells B1.out
  clear C1
  go_wp2_with fail
  refine (great_all p _ (HP.out.chg D1.out) HM.out.1 HM.out.2).mono ?_
  rintro e w2 ⟨rfl, C2⟩
  have D2 := Lib.hid (D1.out.trans C2 (U := []) (by simp) (by simp))
  have B2 := Lib.hid (C2.heap B1.out (by simp))
  clear C2 q0 q1 q2 q3 q4 q5 q6
  obtain ⟨q0, q1, q2, q3, q4, q5, q6⟩ := plan_cells B2.out
  have hgr : greatV p = 1 ∨ greatV p = 0 := by unfold greatV; split <;> simp
  rcases hgr with hv | hv
  · rw [hv]
    have HV0 := Lib.hid hv
    clear hv
    go_wp2_with fail
    refine (talive_any _).mono ?_
    rintro e w3 ⟨rfl, C3⟩
    go_wp2_with fail
    go_ret
    exact ⟨rfl, Chg.below (Below.refl _ _) (D2.out.trans C3 (U := []) (by simp) (by simp)) (by simp) (Nat.le_refl _)⟩
  · rw [hv]
    have HSM := Lib.hid (plan_smallH hv)
    clear hv
    go_wp2_with fail
    refine (tgreat_any a len cap l _ (HA.out.chg D2.out) HL.out.1 HL.out.2).mono ?_
    rintro e w3 ⟨hg, C3⟩
    have D3 := Lib.hid (D2.out.trans C3 (U := []) (by simp) (by simp))
    have B3 := Lib.hid (C3.heap B2.out (by simp))
    clear C3 q0 q1 q2 q3 q4 q5 q6
    obtain ⟨q0, q1, q2, q3, q4, q5, q6⟩ := plan_cells B3.out
    rcases hg with rfl | ⟨rfl, hl1, hl2⟩
    · go_wp2_with fail
      refine (talive_any _).mono ?_
      rintro e w4 ⟨rfl, C4⟩
      go_wp2_with fail
      go_ret
      exact ⟨rfl, Chg.below (Below.refl _ _) (D3.out.trans C4 (U := []) (by simp) (by simp)) (by simp) (Nat.le_refl _)⟩
    · have HL2 := Lib.hid (And.intro hl1 hl2)
      clear hl1 hl2
      go_wp2_with fail
      refine (refCheck_any p _ (HP.out.chg D3.out)).mono ?_
      rintro e w4 ⟨rfl, C4⟩
      have D4 := Lib.hid (D3.out.trans C4 (U := []) (by simp) (by simp))
      have B4 := Lib.hid (C4.heap B3.out (by simp))
      clear C4 q0 q1 q2 q3 q4 q5 q6
      obtain ⟨q0, q1, q2, q3, q4, q5, q6⟩ := plan_cells B4.out
      by_cases hck : p.chk = 0
      · rw [hck]
        have HCK := Lib.hid hck
        clear hck
        have CQ : Chg [] w4 ((w4.alloc (.cells #[.int .u32 p.fl, .int .u8 p.mn, .int .u8 p.tm, .slice p.ia p.il p.ic, .slice p.wa p.wl p.wc, .slice p.ga p.gl p.gc, .slice p.sa p.sl p.sc] 28)).alloc (.cells #[] 55)) := ((Chg.refl _ _).alloc _).alloc _
        have BQ : ((w4.alloc (.cells #[.int .u32 p.fl, .int .u8 p.mn, .int .u8 p.tm, .slice p.ia p.il p.ic, .slice p.wa p.wl p.wc, .slice p.ga p.gl p.gc, .slice p.sa p.sl p.sc] 28)).alloc (.cells #[] 55)).heap[w4.heap.size]? = some (.cells p.cells 28 (0, 0)) := alloc_keeps (alloc_heap w4 _)
        have O0 : ((w4.alloc (.cells #[.int .u32 p.fl, .int .u8 p.mn, .int .u8 p.tm, .slice p.ia p.il p.ic, .slice p.wa p.wl p.wc, .slice p.ga p.gl p.gc, .slice p.sa p.sl p.sc] 28)).alloc (.cells #[] 55)).ownsRow (w4.heap.size + 1) 55 4 (.slice (some ⟨w4.heap.size + 1, 0, none⟩) 0 0) 0 [] := ⟨rfl, Or.inr ⟨w4.heap.size + 1, 0, #[], rfl, Nat.le_refl _, alloc2_heap w4 _ _, Nat.le_refl _, Nat.zero_le _, rfl, rfl⟩⟩
        have r3 := CQ.cell q3 (by simp)
        have HO0 := Lib.hid (And.intro O0 (And.intro CQ BQ))
        have HPW := Lib.hid (HP.out.chg D4.out)
        obtain ⟨i0, hi, hz0, hz1, hz2⟩ := info_parts infoItem7
        have hil : p.il ≤ 300 := HSM.out.2.2.2.1
        have hnw := its_src (HPW.out.its.chg CQ)
        have HNW := Lib.hid hnw
        have hcl : (cellsJ p.its).length = p.il * 4 := by rw [cellsJ_length, HPW.out.its.1]
        have HCL := Lib.hid hcl
        have hno : p.ia = none → p.il = 0 ∧ p.ic = 0 := fun e => by
          refine ⟨?_, HNIL.out e⟩
          rcases Nat.eq_zero_or_pos p.il with h | h
          · exact h
          · obtain ⟨bl, off, e2, _⟩ := HPW.out.its.2 h
            rw [e] at e2
            exact absurd e2 (by simp)
        have HNO := Lib.hid hno
        have hsz : w4.heap.size + 1 ≤ ((w4.alloc (.cells #[.int .u32 p.fl, .int .u8 p.mn, .int .u8 p.tm, .slice p.ia p.il p.ic, .slice p.wa p.wl p.wc, .slice p.ga p.gl p.gc, .slice p.sa p.sl p.sc] 28)).alloc (.cells #[] 55)).heap.size := by simp
        have HSZ := Lib.hid hsz
        clear O0 CQ BQ hnw hcl hno hsz
        go_wp2_with (at_builtin; refine wpList_append_src rfl (.tmp 41) (.tmp 43) 25 rfl (w4.heap.size + 1) 55 i0 (.agg #[.float .f64 0, .int .i64 0, .int .i64 0, .slice none 0 0]) 4 48 Try.underlying25 hi hz0 hz1 hz2 rfl (by decide) _ 0 [] (by rfl) HO0.out.1 p.ia p.il p.ic (cellsJ p.its) (by rfl) HCL.out HNO.out HNW.out (cellsJ_one p.its) (by unfold maxLen; omega) (by omega) HSZ.out (fun v7 w7 O7 C7 _ => ?_); rw [List.nil_append, Nat.zero_add] at O7; obtain ⟨va, vc, rfl, hvc, _⟩ := owns_sliceJ O7; have H7 := Lib.hid (And.intro O7 C7); have hbb := HO0.out.2.2; have hb7 := C7.heap hbb (by simp [Value.ownBlock]); have f7 := free_of_heap hb7 3; have t7 : w7.cell? ⟨w4.heap.size, 3, none⟩ = some (.slice p.ia p.il p.ic) := (by rw [cell_of_heap hb7]; rfl); have HB7 := Lib.hid hb7; have hlt := heap_lt B4.out; have hP7 := C7.heap (HO0.out.2.1.heap B4.out (by simp)) (by simp [Value.ownBlock]; omega); have hs3 := (((Chg.refl [w4.heap.size] w7).setCell (p := ⟨w4.heap.size, 3, none⟩) (Or.inl List.mem_cons_self) (.slice va p.il vc)).heap hP7 (by simp; omega)); have t3 : (w7.setCell ⟨w4.heap.size, 3, none⟩ (.slice va p.il vc)).cell? ⟨w.heap.size, 3, none⟩ = some (.slice p.ia p.il p.ic) := (by rw [cell_of_heap hs3]; rfl); clear O7 C7 hbb hb7 hlt hP7 hs3)
        obtain ⟨b7, hb7⟩ : ∃ b7, b7 = w4.heap.size := ⟨_, rfl⟩
        obtain ⟨bP, hbP⟩ : ∃ bP, bP = w.heap.size := ⟨_, rfl⟩
        obtain ⟨w8, hw8⟩ : ∃ w8, w8 = w7.setCell ⟨w4.heap.size, 3, none⟩ (.slice va p.il vc) := ⟨_, rfl⟩
        rw [← hw8]
        have HQ8 : Hid (w8.heap[b7]? = some (.cells #[.int .u32 p.fl, .int .u8 p.mn, .int .u8 p.tm, .slice va p.il vc, .slice p.wa p.wl p.wc, .slice p.ga p.gl p.gc, .slice p.sa p.sl p.sc] 28 (0, 0))) := Lib.hid (by rw [hw8, hb7, setCell_heap _ HB7.out]; rfl)
        have C8 : Chg [b7] w7 w8 := by rw [hw8]; exact (Chg.refl [b7] w7).setCell (p := ⟨w4.heap.size, 3, none⟩) (Or.inl (by rw [hb7]; exact List.mem_cons_self)) _
        have C48 : Chg [] w4 w8 := (HO0.out.2.1.trans H7.out.2 (U := []) (by simp) (fun x hx hl => by
          have : x = w4.heap.size + 1 := by simpa [Value.ownBlock] using hx
          omega)).trans C8 (U := []) (by simp) (fun x hx hl => by have := List.mem_singleton.1 hx; omega)
        have hwl : w.heap.size ≤ w4.heap.size := D4.out.size
        have C47 : Chg [] w4 w7 := HO0.out.2.1.trans H7.out.2 (U := []) (by simp) (fun x hx hl => by
          have : x = w4.heap.size + 1 := by simpa [Value.ownBlock] using hx
          omega)
        have HK8 : Hid (Cpy (b7 + 1) w8 (.slice va p.il vc) b7 p.its p.its) := Lib.hid ((Cpy.first HP.out (by rw [hb7]; exact H7.out.1) (D4.out.trans C47 (U := []) (by simp) (by simp)) (by omega) (by omega)).chg7 C8 (by omega))
        have HC8 := Lib.hid C48
        have hP8 := C48.heap B4.out (by simp)
        rw [← hbP] at hP8
        have HLB := Lib.hid (show bP < w4.heap.size ∧ w4.heap.size = b7 ∧ bP = w.heap.size from ⟨by have := heap_lt B4.out; omega, hb7.symm, hbP⟩)
        have s3 : w8.cell? ⟨bP, 3, none⟩ = some (.slice p.ia p.il p.ic) := by rw [cell_of_heap hP8]; rfl
        rw [← hbP, ← hb7]
        clear C8 C48 C47 hwl hw8 hb7 hbP hP8 H7 HB7 f7 t7 HO0 HNW HCL HNO HSZ r3 q0 q1 q2 q3 q4 q5 q6 hi hz0 hz1 hz2
        go_wp2_with fail
        generalize hIA : p.ia = IA
        have HIA := Lib.hid hIA
        clear hIA s3 t3
        go_loopw [49] (fun iv wr => ∃ (i : Nat) (its' : List ItD), i ≤ p.il ∧ iv = .int .i64 i ∧ Cpy (b7 + 1) wr (.slice va p.il vc) b7 p.its its' ∧ wr.heap[b7]? = some (.cells #[.int .u32 p.fl, .int .u8 p.mn, .int .u8 p.tm, .slice va p.il vc, .slice p.wa p.wl p.wc, .slice p.ga p.gl p.gc, .slice p.sa p.sl p.sc] 28 (0, 0)) ∧ Chg [] w4 wr) (fun iv _ => p.il - (intOf iv).toNat)
        case atStart => exact ⟨0, p.its, Nat.zero_le _, rfl, HK8.out, HQ8.out, HC8.out⟩
        case round =>
          obtain ⟨i, its', hi, rfl, hK, hQ, hC⟩ := hrel
          by_cases hlt : i < p.il
          · obtain ⟨bl, off, x, hia, hx, x0, x1, x2, x3, xr, xw⟩ := (HPW.out.chg hC).its.get hlt
            obtain rfl : IA = some ⟨bl, off, none⟩ := by rw [← HIA.out, hia]
            obtain ⟨g, rfl⟩ : ∃ g, va = some ⟨g, 0, none⟩ := by
              rcases hK.row.2 with ⟨e, h0⟩ | ⟨g, cap, cur, e, _⟩
              · rw [HPW.out.its.1] at h0; omega
              · injection e with e1; exact ⟨g, e1⟩
            obtain ⟨xb, xk, xn, xa, xm, xcap, xzs⟩ := x
            dsimp only at x0 x1 x2 x3 xr xw
            have hxm : xm ≤ 4000 := HSM.out.2.2.2.2.1 _ (List.mem_of_getElem? hx)
            have C9 : Chg [] wr (wr.alloc (.cells #[.float .f64 xb, .int .i64 xk, .int .i64 xn, .slice xa xm xcap] 55)) := (Chg.refl _ _).alloc _
            have m3 : (wr.alloc (.cells #[.float .f64 xb, .int .i64 xk, .int .i64 xn, .slice xa xm xcap] 55)).cell? ⟨wr.heap.size, 3, none⟩ = some (.slice xa xm xcap) := by rw [cell_of_heap (alloc_heap wr _)]; rfl
            have HK9 := Lib.hid (hK.chg C9)
            have HQ9 := Lib.hid (C9.heap hQ (by simp))
            have HC9 := Lib.hid (hC.trans C9 (U := []) (by simp) (by simp))
            have hS9 := xr.src.chg0 C9
            have hbl : (xzs.take xm).length = xm := by rw [List.length_take]; have := xr.le; omega
            generalize xzs.take xm = xs at hS9 hbl
            have HS9 := Lib.hid (And.intro hS9 hbl)
            have HX := Lib.hid hx
            have HI := Lib.hid hia
            clear C9 hK hQ hC xr xw hS9 hbl hx hia
            go_wp2_with fail
            generalize wr.alloc _ = w9 at *
            have HO9 : Hid (w9.ownsRow w9.heap.size 5 1 (.slice none 0 0) 0 (valsOf .u8 [])) := Lib.hid (World.ownsRow_nil _ _ _ _)
            clear m3 x0 x1 x2 x3
            go_loopw [10, 57] (fun bv jv wr => ∃ (j : Nat) (zs' : List Int), j ≤ xm ∧ jv = .int .i64 j ∧ zs'.length = j ∧ wr.ownsRow w9.heap.size 5 1 bv j (valsOf .u8 zs') ∧ Chg [] w9 wr) (fun _ jv _ => xm - (intOf jv).toNat)
            case atStart => exact ⟨0, [], Nat.zero_le _, rfl, rfl, HO9.out, Chg.refl _ _⟩
            case round =>
              obtain ⟨j, zs', hj, rfl, hzl, hO, hC⟩ := hrel
              by_cases hlt2 : j < xm
              · obtain ⟨bd, od, rfl, hc⟩ := (HS9.out.1.chg0 hC).int hlt2
                generalize xs.getD j 0 = y at hc
                obtain ⟨E, hE⟩ : ∃ E, E = bits .xor .u8 y turn := ⟨_, rfl⟩
                have C5 : Chg [] wr (wr.alloc (.cells #[.int .u8 E] 5)) := (Chg.refl _ _).alloc _
                have HB5 : Hid ((wr.alloc (.cells #[.int .u8 E] 5)).heap[wr.heap.size]? = some (.cells #[.int .u8 E] 5 (0, 0))) := Lib.hid (alloc_heap wr _)
                have HO := Lib.hid (owns_keep hO C5 (by simp))
                have HC := Lib.hid (hC.trans C5 (U := []) (by simp) (by simp))
                have hl1 : ∀ u ∈ ([.int .u8 E] : List Value), u.oneCell' = true := fun u hu => by rw [List.mem_singleton.1 hu]; rfl
                have HL1 := Lib.hid hl1
                have HE := Lib.hid hE
                obtain ⟨i1, hi1, hy0, hy1, hy2⟩ := info_parts infoB
                clear hO hC C5 hE hl1
                go_wp2_with (at_builtin; rw [← HE.out]; refine wpList_append_src rfl (.tmp 61) (.tmp 65) 42 rfl w9.heap.size 5 i1 (.int .u8 0) 1 1 Try.underlying42 hi1 hy0 hy1 hy2 rfl (by decide) u10 j (valsOf .u8 zs') (by rfl) HO.out (some ⟨wr.heap.size, 0, none⟩) 1 1 [.int .u8 E] (by rfl) rfl (fun e => by cases e) (fun ad e j u hu => by cases e; rw [Addr.add_lit, cell_of_heap HB5.out, Nat.zero_add]; simpa using hu) HL1.out (by unfold maxLen; omega) (by omega) HC.out.size (fun v7 w7 O7 C7 _ => ?_); have HO7 := Lib.hid O7; have HC7 := Lib.hid (HC.out.trans C7 (U := []) (by simp) (fun x hx hl => absurd (HO.out.lt x (by simpa [Option.mem_toList] using hx)).1 (by omega))); clear O7 C7)
                go_roundw
                case rel => exact ⟨j + 1, zs' ++ [E], by omega, by go_num, by rw [List.length_append, hzl]; rfl, by have := HO7.out; rw [show valsOf .u8 (zs' ++ [E]) = valsOf .u8 zs' ++ [.int .u8 E] by unfold valsOf; rw [List.map_append]; rfl]; exact this, HC7.out⟩
                case measure => simp [intOf]; omega
              · obtain rfl : j = xm := by omega
                obtain ⟨ba, bc, rfl, _, _⟩ := owns_sliceJ hO
                have hst := HK9.out.step (m := j) (ao := ba) (cap := bc) (zs := zs') HX.out rfl hC hO (heap_lt HQ9.out)
                have hK' := HK9.out.chg hC
                have hQ' := hC.heap HQ9.out (by simp)
                obtain ⟨⟨u0, hu0⟩, hfr⟩ := hK'.slot i (by rw [HPW.out.its.1] ; exact hlt)
                have hfr0 := hfr (i * 4 + 3)
                have t3 : wr.cell? ⟨b7, 3, none⟩ = some (.slice (some ⟨g, 0, none⟩) p.il vc) := by rw [cell_of_heap hQ']; rfl
                have hg7 : g ≠ b7 := by have := (hK'.row.lt g rfl).1; omega
                have CS : Chg [g] wr (wr.setCell ⟨g, i * 4 + 3, none⟩ (.slice ba j bc)) := (Chg.refl [g] wr).setCell (p := ⟨g, i * 4 + 3, none⟩) (Or.inl List.mem_cons_self) _
                have HST := Lib.hid hst
                have HQS := Lib.hid (CS.heap hQ' (by simp; omega))
                have HCS := Lib.hid ((HC9.out.trans hC (U := []) (by simp) (by simp)).trans CS (U := []) (by simp) (fun x hx hl => by rw [List.mem_singleton.1 hx] at hl; have := (hK'.row.lt g rfl).1; have := HLB.out; omega))
                clear hst hK' hQ' hfr hO hC hzl CS hg7
                go_wp2_with fail
                go_roundw
                case rel =>
                  obtain ⟨its'', hi''⟩ := HST.out
                  exact ⟨i + 1, its'', by omega, by go_num, hi'', HQS.out, HCS.out⟩
                case measure => simp [intOf]; omega
          · obtain rfl : i = p.il := by omega
            have HK := Lib.hid hK
            have HC := Lib.hid hC
            have HQ := Lib.hid hQ
            have hPw := hC.heap B4.out (by simp)
            rw [← HLB.out.2.2] at hPw
            have HPB := Lib.hid hPw
            obtain ⟨q0, q1, q2, q3, q4, q5, q6⟩ := plan_cells hPw
            clear hK hC hQ hPw
            go_wp2_with fail
            have D5 := Lib.hid (D4.out.trans HC.out (U := []) (by simp) (by simp))
            refine (tNew_any p _ (HPW.out.chg HC.out) HCK.out (by have := HSM.out; omega) (by have := HSM.out; omega) (by have := HSM.out; omega) (fun x hx => by have := HSM.out.2.2.2.2.1 x hx; omega)).mono ?_
            rintro e w5 ⟨τ, rfl, T5, hz, h1, h2, h3⟩
            obtain ⟨hkn, hki⟩ := (HK.out.chg T5.W.c0).its
            have hq := T5.W.c0.heap HQ.out (by simp)
            obtain ⟨q, hqq⟩ : ∃ q : PlanD, q = ⟨p.fl, p.mn, p.tm, va, p.il, vc, its', p.wa, p.wl, p.wc, p.ws, p.ga, p.gl, p.gc, p.gs, p.sa, p.sl, p.sc, p.ss⟩ := ⟨_, rfl⟩
            have hPq := HPW.out.chg (HC.out.trans T5.W.c0 (U := []) (by simp) (by simp))
            have hqA : q.At w5 := by rw [hqq]; exact ⟨hki, HP.out.ilm, hPq.ws, hPq.gs, hPq.ss⟩
            have hqc : q.chk = 0 := by
              have := HCK.out
              unfold PlanD.chk at this ⊢
              rw [hqq]
              dsimp only
              rw [chkL_sh4 _ _ HK.out.sh]
              exact this
            have hqm : ∀ y ∈ q.its, y.m ≤ 1000000 := fun y hy => by
              rw [hqq] at hy
              have := sh4_few HK.out.sh HSM.out.2.2.2.2.1 y hy
              omega
            have hqN := tNew_any q w5 hqA hqc (by rw [hqq]; have := HSM.out; dsimp only; omega) (by rw [hqq]; have := HSM.out; dsimp only; omega) (by rw [hqq]; have := HSM.out; dsimp only; omega) hqm
            have hqcs : q.cells = #[.int .u32 p.fl, .int .u8 p.mn, .int .u8 p.tm, .slice va p.il vc, .slice p.wa p.wl p.wc, .slice p.ga p.gl p.gc, .slice p.sa p.sl p.sc] := by rw [hqq]; rfl
            rw [hqcs] at hqN
            have HQN := Lib.hid hqN
            have hord : τ.Z.map zsh = ((ordP q.its q.il).map gsh).map (·.2) := by
              rw [sh_map hz, hqq]
              dsimp only
              rw [ordP_sh HK.out.sh (BRow.enough HPW.out.its) (BRow.enough hki)]
            have hcnt : q.cnt = p.cnt ∧ q.fl = p.fl ∧ q.mn = p.mn ∧ q.tm = p.tm := by rw [hqq]; exact ⟨rfl, rfl, rfl, rfl⟩
            have HT5 := Lib.hid T5
            have HOR := Lib.hid (And.intro hord (And.intro hcnt (And.intro h1 (And.intro h2 h3))))
            clear q0 q1 q2 q3 q4 q5 q6
            have q0 : w5.cell? ⟨b7, 0, none⟩ = some (.int .u32 p.fl) := by rw [cell_of_heap hq]; rfl
            have q1 : w5.cell? ⟨b7, 1, none⟩ = some (.int .u8 p.mn) := by rw [cell_of_heap hq]; rfl
            have q2 : w5.cell? ⟨b7, 2, none⟩ = some (.int .u8 p.tm) := by rw [cell_of_heap hq]; rfl
            have q3 : w5.cell? ⟨b7, 3, none⟩ = some (.slice va p.il vc) := by rw [cell_of_heap hq]; rfl
            have q4 : w5.cell? ⟨b7, 4, none⟩ = some (.slice p.wa p.wl p.wc) := by rw [cell_of_heap hq]; rfl
            have q5 : w5.cell? ⟨b7, 5, none⟩ = some (.slice p.ga p.gl p.gc) := by rw [cell_of_heap hq]; rfl
            have q6 : w5.cell? ⟨b7, 6, none⟩ = some (.slice p.sa p.sl p.sc) := by rw [cell_of_heap hq]; rfl
            clear T5 hz h1 h2 h3 hkn hki hq hPq hqA hqc hqm hqN hqcs hord hcnt hqq
            go_wp2_with fail
            refine (HQN.out).mono ?_
            rintro e w6 ⟨σ, rfl, S6, hz, h1, h2, h3⟩
            have HSH : Hid (τ.sh = σ.sh) := Lib.hid (by
              obtain ⟨o1, ⟨o2, o3, o4, o5⟩, o6, o7, o8⟩ := HOR.out
              unfold Tt.sh
              rw [o6, o7, o8, h1, h2, h3, o2, o3, o4, o5, o1, sh_map hz])
            have HDI : Hid (∀ k, τ.own k → ¬ σ.own k) := Lib.hid (fun k h1 h2 => by have := (HT5.out.own_lt k h1).2; have := (S6.own_lt k h2).1; omega)
            have HT6 := Lib.hid ((HT5.out.chg0 S6.W.c0).base D5.out)
            have HS6 := Lib.hid (S6.base (D5.out.trans HT5.out.W.c0 (U := []) (by simp) (by simp)))
            have hcn : Hid (τ.c.wrote = 0 ∧ τ.c.got = 0 ∧ τ.c.set = 0 ∧ τ.E.length = 0) := Lib.hid (by
              obtain ⟨_, _, o6, _, o8⟩ := HOR.out
              rw [o6, o8]; exact ⟨rfl, rfl, rfl, rfl⟩)
            clear S6 hz h1 h2 h3 q0 q1 q2 q3 q4 q5 q6 HQN HOR
            go_wp2_with fail
            refine (Arn.new_ok 64 w6 (by omega) (by omega)).mono ?_
            rintro e w7 ⟨rfl, C7, A7⟩
            have HW7 : Hid (Two w w7 τ σ (w6.heap.size + 1) w6.heap.size []) := Lib.hid (by
              have hl := HT6.out.W.c0.size
              have t1 := HT6.out.own_lt
              have t2 := HS6.out.own_lt
              exact ⟨⟨HT6.out.chg0 C7, A7, fun ho => by have := (t1 _ ho).2; omega, fun ho => by have := (t1 _ ho).2; omega, by omega, hl⟩,
                ⟨HS6.out.chg0 C7, A7, fun ho => by have := (t2 _ ho).2; omega, fun ho => by have := (t2 _ ho).2; omega, by omega, hl⟩, HDI.out⟩)
            clear C7 A7 HT6 HS6 HT5 HDI HK HQ HPB HK8 HQ8 HC8
            generalize w6.heap.size = bC at *
            generalize hbT : τ.bT = bT at *
            generalize hbS : σ.bT = bS at *
            have HBT := Lib.hid (And.intro hbT hbS)
            clear hbT hbS
            go_wp2_with fail
            go_loopw [109] (fun i wr => ∃ (k : Nat) (τ σ : Tt) (l' : List Int), k ≤ len ∧ i = .int .i64 k ∧ Two w wr τ σ (bC + 1) bC l' ∧ τ.bT = bT ∧ σ.bT = bS ∧ τ.sh = σ.sh ∧ (τ.c.wrote ≤ k ∧ τ.c.got ≤ k ∧ τ.c.set ≤ k ∧ τ.E.length = k)) (fun i _ => len - (intOf i).toNat)
            case atStart => exact ⟨0, τ, σ, [], by omega, rfl, HW7.out, HBT.out.1, HBT.out.2, HSH.out, by have := hcn.out; omega⟩
            case round =>
              clear HW7 HBT HSH hcn
              obtain ⟨k, τ, σ, l', hk, rfl, hT, hb1, hb2, hsh, hc⟩ := hrel
              by_cases hlt : k < len
              · obtain ⟨bl, off, x, rfl, hx, x0, x1, x2, x3, x4, x5⟩ := HA.out.get hlt
                have hx6 : x.m ≤ 3000 := HL2.out.2 x (List.mem_of_getElem? hx)
                obtain ⟨kind, B, ao, xm, xcap, xs⟩ := x
                dsimp only at x0 x1 x2 x3 x4 x5 hx6
                have HX5 := Lib.hid (And.intro x5 hx6)
                replace x0 := hT.a.T.W.c0.cell x0 (by simp)
                replace x1 := hT.a.T.W.c0.cell x1 (by simp)
                replace x2 := hT.a.T.W.c0.cell x2 (by simp)
                replace x3 := hT.a.T.W.c0.cell x3 (by simp)
                replace x4 := hT.a.T.W.c0.cell x4 (by simp)
                have hk3 : k ≤ 100 := by have := HL2.out.1; omega
                have ka : Chg [] wr (wr.alloc (.cells #[.int .i64 kind, .int .u32 B.fl, .int .u8 B.mn, .int .u8 B.tm, .slice ao xm xcap] 67)) := (Chg.refl _ _).alloc _
                have kb : Chg [] wr ((wr.alloc (.cells #[.int .i64 kind, .int .u32 B.fl, .int .u8 B.mn, .int .u8 B.tm, .slice ao xm xcap] 67)).alloc (.cells #[.pointer (some ⟨bT, 0, none⟩), .pointer (some ⟨bS, 0, none⟩)] 32)) := ka.alloc _
                have hA1 : ((wr.alloc (.cells #[.int .i64 kind, .int .u32 B.fl, .int .u8 B.mn, .int .u8 B.tm, .slice ao xm xcap] 67)).alloc (.cells #[.pointer (some ⟨bT, 0, none⟩), .pointer (some ⟨bS, 0, none⟩)] 32)).heap[wr.heap.size]? = some (.cells #[.int .i64 kind, .int .u32 B.fl, .int .u8 B.mn, .int .u8 B.tm, .slice ao xm xcap] 67 (0, 0)) := alloc_keeps (alloc_heap wr _)
                have hR1 : ((wr.alloc (.cells #[.int .i64 kind, .int .u32 B.fl, .int .u8 B.mn, .int .u8 B.tm, .slice ao xm xcap] 67)).alloc (.cells #[.pointer (some ⟨bT, 0, none⟩), .pointer (some ⟨bS, 0, none⟩)] 32)).heap[wr.heap.size + 1]? = some (.cells #[.pointer (some ⟨bT, 0, none⟩), .pointer (some ⟨bS, 0, none⟩)] 32 (0, 0)) := alloc2_heap wr _ _
                have hap1 := hT.new
                have hap2 := (hT.chg0 ka).new
                have es : (wr.alloc (.cells #[.int .i64 kind, .int .u32 B.fl, .int .u8 B.mn, .int .u8 B.tm, .slice ao xm xcap] 67)).heap.size = wr.heap.size + 1 := by simp
                rw [es] at hap2
                have HT8 := Lib.hid (hT.chg0 kb)
                have HB8 := Lib.hid (And.intro (And.intro hA1 hap1) (And.intro hR1 hap2))
                have HSB := Lib.hid (And.intro hb1 (And.intro hb2 (And.intro hsh hc)))
                clear ka kb hA1 hR1 hap1 hap2 es hT hb1 hb2 hsh hc hx x5 hx6
                go_wp2_with fail
                generalize (wr.alloc _).alloc _ = w8 at *
                generalize wr.heap.size + 1 = bR at *
                generalize wr.heap.size = b20 at *
                clear x0 x1 x2 x3 x4
                generalize hs0 : τ.sh = s0 at *
                have HS0 := Lib.hid hs0
                clear hs0
                go_loopw [117] (fun iv wr => ∃ (j : Nat) (α β : Tt) (l' : List Int), j ≤ 2 ∧ iv = .int .i64 j ∧ Two w wr α β (bC + 1) bC l' ∧ α.bT = bT ∧ β.bT = bS ∧ α.sh = (if 1 ≤ j then stepA kind B (xs.take xm) s0 else s0) ∧ β.sh = (if 2 ≤ j then stepA kind B (xs.take xm) s0 else s0) ∧ (wr.heap[b20]? = some (.cells #[.int .i64 kind, .int .u32 B.fl, .int .u8 B.mn, .int .u8 B.tm, .slice ao xm xcap] 67 (0, 0)) ∧ Apart α β (bC + 1) bC b20) ∧ (wr.heap[bR]? = some (.cells #[.pointer (some ⟨bT, 0, none⟩), .pointer (some ⟨bS, 0, none⟩)] 32 (0, 0)) ∧ Apart α β (bC + 1) bC bR)) (fun iv _ => 2 - (intOf iv).toNat)
                case atStart => exact ⟨0, τ, σ, l', by omega, rfl, HT8.out, HSB.out.1, HSB.out.2.1, by rw [if_neg (by omega)]; exact HS0.out, by rw [if_neg (by omega)]; exact HSB.out.2.2.1.symm, HB8.out.1, HB8.out.2⟩
                case round =>
                  obtain ⟨j, α, β, l2, hj, rfl, hT, hb1, hb2, hs1, hs2, hA, hR⟩ := hrel
                  have hfew : s0.c.wrote ≤ k ∧ s0.c.got ≤ k ∧ s0.c.set ≤ k ∧ s0.P.length = k := by
                    obtain ⟨h1, h2, h3, h4⟩ := HSB.out.2.2.2
                    rw [← HS0.out]
                    exact ⟨h1, h2, h3, by show (τ.E.map EfD.pl).length = k; rw [List.length_map]; exact h4⟩
                  by_cases hlt2 : j < 2
                  · obtain ⟨γ, δ, hTT, hg, hcell, hA', hR', hw⟩ : ∃ γ δ : Tt, Two w wr γ δ (bC + 1) bC l2 ∧ γ.sh = s0 ∧ wr.cell? ⟨bR, j, none⟩ = some (.pointer (some ⟨γ.bT, 0, none⟩)) ∧ Apart γ δ (bC + 1) bC b20 ∧ Apart γ δ (bC + 1) bC bR ∧ ((j = 0 ∧ γ = α ∧ δ = β) ∨ (j = 1 ∧ γ = β ∧ δ = α)) := by
                      have hjj : j = 0 ∨ j = 1 := by omega
                      rcases hjj with rfl | rfl
                      · exact ⟨α, β, hT, by rw [hs1, if_neg (by omega)], by rw [cell_of_heap hR.1, hb1]; rfl, hA.2, hR.2, .inl ⟨rfl, rfl, rfl⟩⟩
                      · exact ⟨β, α, hT.swap, by rw [hs2, if_neg (by omega)], by rw [cell_of_heap hR.1, hb2]; rfl, hA.2.swap, hR.2.swap, .inr ⟨rfl, rfl, rfl⟩⟩
                    have z0 : wr.cell? ⟨b20, 0, none⟩ = some (.int .i64 kind) := by rw [cell_of_heap hA.1]; rfl
                    have z1 : wr.cell? ⟨b20, 1, none⟩ = some (.int .u32 B.fl) := by rw [cell_of_heap hA.1]; rfl
                    have z2 : wr.cell? ⟨b20, 2, none⟩ = some (.int .u8 B.mn) := by rw [cell_of_heap hA.1]; rfl
                    have z3 : wr.cell? ⟨b20, 3, none⟩ = some (.int .u8 B.tm) := by rw [cell_of_heap hA.1]; rfl
                    have z4 : wr.cell? ⟨b20, 4, none⟩ = some (.slice ao xm xcap) := by rw [cell_of_heap hA.1]; rfl
                    have hgc : γ.c.wrote ≤ 1000000 ∧ γ.c.got ≤ 1000000 ∧ γ.c.set ≤ 1000000 ∧ γ.E.length ≤ 1000000 := by
                      have e1 : γ.c = s0.c := congrArg Sh.c hg
                      have e2 : γ.E.map EfD.pl = s0.P := congrArg Sh.P hg
                      have e3 := congrArg List.length e2
                      rw [List.length_map] at e3
                      rw [e1, e3]
                      omega
                    have HTT := Lib.hid hTT
                    have HG := Lib.hid (And.intro hg hgc)
                    have HAR := Lib.hid (And.intro (And.intro hA.1 hA') (And.intro hR.1 hR'))
                    have HWY := Lib.hid (And.intro hw (And.intro hb1 (And.intro hb2 (And.intro hs1 hs2))))
                    have HFW := Lib.hid hfew
                    clear hTT hg hgc hA hA' hR hR' hw hT hb1 hb2 hs1 hs2 hfew
                    go_upto_block 7 with (fail)
                    go_cut [] (fun wx => ∃ (γ' : Tt) (l3 : List Int), Two w wx γ' δ (bC + 1) bC l3 ∧ γ'.bT = γ.bT ∧ γ'.sh = stepA kind B (xs.take xm) s0 ∧ (wx.heap[b20]? = some (.cells #[.int .i64 kind, .int .u32 B.fl, .int .u8 B.mn, .int .u8 B.tm, .slice ao xm xcap] 67 (0, 0)) ∧ Apart γ' δ (bC + 1) bC b20) ∧ (wx.heap[bR]? = some (.cells #[.pointer (some ⟨bT, 0, none⟩), .pointer (some ⟨bS, 0, none⟩)] 32 (0, 0)) ∧ Apart γ' δ (bC + 1) bC bR))
                    case first =>
                      by_cases hk0 : kind = 0
                      · subst hk0
                        clear z1 z2 z3 z4
                        go_wp2_with fail
                        refine (hsGet w wr γ (bC + 1) bC l2 HTT.out.a HG.out.2.2.1 HG.out.2.2.2.2).mono ?_
                        rintro e w10 ⟨v, rfl, γ', l3, G, gb, gs⟩
                        have HE := Lib.hid (And.intro G (And.intro gb gs))
                        clear G gb gs
                        go_wp2_with fail
                        go_meet
                        case rel => exact ⟨γ', l3, HTT.out.go HE.out.1, HE.out.2.1, by rw [HE.out.2.2, HG.out.1]; unfold stepA; rw [if_pos rfl], Two.box HE.out.1 HAR.out.1.1 HAR.out.1.2, Two.box HE.out.1 HAR.out.2.1 HAR.out.2.2⟩
                      · have g0 : (kind == 0) = false := by simpa using hk0
                        have HN0 := Lib.hid hk0
                        clear hk0
                        by_cases hk1 : kind = 1
                        · subst hk1
                          clear z4 g0
                          go_wp2_with fail
                          refine (hsSet w wr γ B (bC + 1) bC l2 HTT.out.a HG.out.2.2.2.1 HG.out.2.2.2.2).mono ?_
                          rintro e w10 ⟨v, rfl, γ', l3, G, gb, gs⟩
                          have HE := Lib.hid (And.intro G (And.intro gb gs))
                          clear G gb gs
                          go_wp2_with fail
                          go_meet
                          case rel => exact ⟨γ', l3, HTT.out.go HE.out.1, HE.out.2.1, by rw [HE.out.2.2, HG.out.1]; unfold stepA; rw [if_neg (by omega), if_pos rfl], Two.box HE.out.1 HAR.out.1.1 HAR.out.1.2, Two.box HE.out.1 HAR.out.2.1 HAR.out.2.2⟩
                        · have g1 : (kind == 1) = false := by simpa using hk1
                          have HN1 := Lib.hid hk1
                          clear hk1
                          by_cases hk2 : kind = 2
                          · subst hk2
                            clear z1 z2 z3 g0 g1
                            go_wp2_with fail
                            refine (hsWrite w wr γ ao xm xcap xs (bC + 1) bC l2 HTT.out.a HX5.out.1 (by have := HX5.out.2; omega) HG.out.2.1 HG.out.2.2.2.2).mono ?_
                            rintro e w10 ⟨v, rfl, γ', l3, G, gb, gs⟩
                            have HE := Lib.hid (And.intro G (And.intro gb gs))
                            clear G gb gs
                            go_wp2_with fail
                            go_meet
                            case rel => exact ⟨γ', l3, HTT.out.go HE.out.1, HE.out.2.1, by rw [HE.out.2.2, HG.out.1]; unfold stepA; rw [if_neg (by omega), if_neg (by omega), if_pos rfl], Two.box HE.out.1 HAR.out.1.1 HAR.out.1.2, Two.box HE.out.1 HAR.out.2.1 HAR.out.2.2⟩
                          · have g2 : (kind == 2) = false := by simpa using hk2
                            have HN2 := Lib.hid hk2
                            clear hk2 z1 z2 z3 z4
                            go_wp2_with fail
                            refine (hsRead w wr γ (bC + 1) bC l2 HTT.out.a HG.out.2.2.2.2).mono ?_
                            rintro e w10 ⟨v, rfl, γ', l3, G, gb, gs⟩
                            have HE := Lib.hid (And.intro G (And.intro gb gs))
                            clear G gb gs
                            go_wp2_with fail
                            go_meet
                            case rel => exact ⟨γ', l3, HTT.out.go HE.out.1, HE.out.2.1, by rw [HE.out.2.2, HG.out.1]; unfold stepA; rw [if_neg HN0.out, if_neg HN1.out, if_neg HN2.out], Two.box HE.out.1 HAR.out.1.1 HAR.out.1.2, Two.box HE.out.1 HAR.out.2.1 HAR.out.2.2⟩
                    case rest =>
                      obtain ⟨γ', l3, T10, gb, gs, a10, r10⟩ := hcut
                      have HE := Lib.hid (And.intro T10 (And.intro gb (And.intro gs (And.intro a10 r10))))
                      clear T10 gb gs a10 r10 z0 z1 z2 z3 z4 hcell
                      go_wp2_with fail
                      go_roundw
                      case rel =>
                        obtain ⟨T10, gb, gs, a10, r10⟩ := HE.out
                        obtain ⟨hw, hb1, hb2, hs1, hs2⟩ := HWY.out
                        rcases hw with ⟨rfl, rfl, rfl⟩ | ⟨rfl, rfl, rfl⟩
                        · exact ⟨1, γ', δ, l3, by omega, by go_num, T10, by rw [gb]; exact hb1, hb2, by rw [gs, if_pos (by omega)], by rw [hs2, if_neg (by omega), if_neg (by omega)], a10, r10⟩
                        · exact ⟨2, δ, γ', l3, by omega, by go_num, T10.swap, hb1, by rw [gb]; exact hb2, by rw [hs1, if_pos (by omega), if_pos (by omega)], by rw [gs, if_pos (by omega)], ⟨a10.1, a10.2.swap⟩, ⟨r10.1, r10.2.swap⟩⟩
                      case measure => simp [intOf]; omega
                  · obtain rfl : j = 2 := by omega
                    rw [if_pos (by omega)] at hs1 hs2
                    have hst := stepA_few kind B (xs.take xm) s0
                    have hE : α.E.length = k + 1 := by
                      have e2 : α.E.map EfD.pl = (stepA kind B (xs.take xm) s0).P := congrArg Sh.P hs1
                      have e3 := congrArg List.length e2
                      rw [List.length_map] at e3
                      omega
                    have hcc : α.c = (stepA kind B (xs.take xm) s0).c := congrArg Sh.c hs1
                    have HE := Lib.hid (And.intro hT (And.intro hb1 (And.intro hb2 (And.intro (hs1.trans hs2.symm) (show α.c.wrote ≤ k + 1 ∧ α.c.got ≤ k + 1 ∧ α.c.set ≤ k + 1 ∧ α.E.length = k + 1 by rw [hcc]; omega)))))
                    clear hT hb1 hb2 hs1 hs2 hst hE hcc hA hR hfew
                    go_wp2_with fail
                    go_roundw
                    case rel => exact ⟨k + 1, α, β, l2, by omega, by go_num, HE.out.1, HE.out.2.1, HE.out.2.2.1, HE.out.2.2.2.1, HE.out.2.2.2.2⟩
                    case measure => simp [intOf]; omega
              · obtain rfl : k = len := by omega
                subst hb1
                subst hb2
                have hEl : σ.E.length = k := by
                  have e := congrArg (fun s => (Sh.P s).length) hsh
                  have e2 : (τ.E.map EfD.pl).length = (σ.E.map EfD.pl).length := e
                  rw [List.length_map, List.length_map] at e2
                  omega
                have hk3 : k ≤ 100 := HL2.out.1
                have HTa := Lib.hid hT.a.T
                have HTb := Lib.hid hT.b.T
                have HSE := Lib.hid (And.intro (show τ.A = σ.A from congrArg Sh.A hsh) (And.intro (show τ.E.map EfD.pl = σ.E.map EfD.pl from congrArg Sh.P hsh) (And.intro hc.2.2.2 hEl)))
                clear hT hsh hc hEl hlt
                go_wp2_with fail
                refine (tEffects_any w wr τ HTa.out (by have := HSE.out.2.2.1; omega)).mono ?_
                rintro e w8 ⟨rv1, E1, rfl, C8, X8⟩
                obtain ⟨ra, rm, rc, rfl, hrc1, hrc2⟩ := X8.slice
                obtain ⟨hr1, hr2, ER8⟩ := X8.reads rfl
                obtain rfl : rm = k := by rw [hr1]; exact HSE.out.2.2.1
                have HP1 := Lib.hid (show E1.map EfD.pl = τ.E.map EfD.pl from X8.pl)
                have HE1 := Lib.hid ER8
                have HC8 := Lib.hid C8
                clear X8 ER8 C8 hr1 hr2
                go_wp2_with fail
                refine (tEffects_any w w8 σ (HTb.out.chg0 HC8.out) (by have := HSE.out.2.2.2; omega)).mono ?_
                rintro e w9 ⟨rv2, E2, rfl, C9, X9⟩
                obtain ⟨qa, qm, qc, rfl, hqc1, hqc2⟩ := X9.slice
                obtain ⟨hq1, hq2, ER9⟩ := X9.reads rfl
                obtain rfl : qm = rm := by rw [hq1]; exact HSE.out.2.2.2
                have HP2 := Lib.hid (show E2.map EfD.pl = σ.E.map EfD.pl from X9.pl)
                have HE2 := Lib.hid ER9
                have HE1' := Lib.hid (HE1.out.chg C9)
                have HC9 := Lib.hid (HC8.out.trans C9 (U := []) (by simp) (by simp))
                clear X9 ER9 C9 hq1 hq2
                go_wp2_with fail
                refine (sSame_any ra qa qm rc qc E1 E2 w9 HE1'.out HE2.out (by rw [HP1.out, HP2.out, HSE.out.2.1]) (by omega)).mono ?_
                rintro e w10 ⟨rfl, C10⟩
                have HC10 := Lib.hid (HC9.out.trans C10 (U := []) (by simp) (by simp))
                clear C10
                go_wp2_with fail
                have hat := tAttrs_any w w10 τ (HTa.out.chg0 HC10.out)
                unfold At3.val at hat
                refine hat.mono ?_
                clear hat
                rintro e w11 ⟨rfl, C11⟩
                have HC11 := Lib.hid (HC10.out.trans C11 (U := []) (by simp) (by simp))
                clear C11
                go_wp2_with fail
                have hat := tAttrs_any w w11 σ (HTb.out.chg0 HC11.out)
                unfold At3.val at hat
                refine hat.mono ?_
                clear hat
                rintro e w12 ⟨rfl, C12⟩
                have HC12 := Lib.hid (HC11.out.trans C12 (U := []) (by simp) (by simp))
                clear C12
                rw [HSE.out.1]
                go_wp2_with fail
                go_ret
                exact ⟨rfl, Chg.below (Below.refl _ _) (HTa.out.W.c0.trans HC12.out (U := []) (by simp) (by simp)) (by simp) (Nat.le_refl _)⟩
      · have hck' : (p.chk != 0) = true := by rw [bne_iff_ne]; exact hck
        generalize p.chk = y at *
        clear hck
        go_wp2_with fail
        refine (talive_any _).mono ?_
        rintro e w5 ⟨rfl, C5⟩
        go_wp2_with fail
        go_ret
        exact ⟨rfl, Chg.below (Below.refl _ _) (D4.out.trans C5 (U := []) (by simp) (by simp)) (by simp) (Nat.le_refl _)⟩
end Go.Proofs.Ytmcbgpjphjacjaa
