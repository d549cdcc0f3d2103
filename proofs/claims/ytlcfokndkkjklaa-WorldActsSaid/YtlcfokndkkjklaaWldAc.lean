/-
  WorldActs: of any plan that may be, and any calls, each answer, and how many items are left. The walk.
-/
import Derived.Test.YtlcfokndkkjklaaWldLg
import Derived.Test.YtlcfokndkkjklaaWldAd
import Derived.Test.YtlcfokndkkjklaaWldG
import Derived.Test.YtlcfokndkkjklaaWldTi
import Derived.Test.YtlcfokndkkjklaaWldAt
import Derived.Test.YtlcfokndkkjklaaWldPl
import Derived.Test.YtlcfokndkkjklaaWldTj
import Derived.Test.YtlcfokndkkjklaaWldX
import Derived.Test.YtlcfokndkkjklaaRfQ
namespace Go.Proofs.Ytlcfokndkkjklaa
set_option linter.unusedVariables false
set_option linter.unusedSimpArgs false
set_option maxRecDepth 100000
open Go.RowKit

theorem conv_nil (w : World) : (convert 24 9 (.slice none 0 0)).run Try.prog w = .ok (.string (strOfNums [])) w := run_convert_bytes_nil w _ 5 Try.underlying24 Try.underlying5 0 0 _ Try.underlying9

theorem tie_left {w0 w : World} {μ : Wm} {Z : List Zt} {c : Wc} {bM b : Nat} {u : Value} {L : List ItD} {p : PlanD} (h : Tie w0 w μ Z c bM u L p) (hb : μ.bW = b) :
    Calls Try.prog 12 #[.pointer (some ⟨b, 0, none⟩)] w fun e w' => e = .returned (.int .i64 (L.length : Nat)) ∧ w = w' := by
  subst hb
  exact (oLeft_any _ _ _ _ _ h.W).mono fun e w' ⟨h1, h2⟩ => ⟨by rw [h1, h.len], h2⟩

set_option maxHeartbeats 16000000 in
theorem acts_walk (p : PlanD) (a : Option Addr) (len cap : Nat) (acts : List ActW) (w : World) (hp : p.At w) (hm : ∀ y ∈ p.its, y.m ≤ reachBytes) (hr : p.wl ≤ reachBytes ∧ p.gl ≤ reachBytes ∧ p.sl ≤ reachBytes) (hlen : len ≤ maxLen) (ha : ActsW w a len acts) :
    Calls Try.prog 7 #[.agg p.cells, .slice a len cap] w fun e w' => e = .returned (.bool true) ∧ Below w.heap.size w w' := by
  have hcs : p.cells = #[.int .u32 p.fl, .int .u8 p.mn, .int .u8 p.tm, .slice p.ia p.il p.ic, .slice p.wa p.wl p.wc, .slice p.ga p.gl p.gc, .slice p.sa p.sl p.sc] := rfl
  have HP := Lib.hid hp
  have HA := Lib.hid ha
  have HM := Lib.hid (And.intro hm hr)
  unfold maxLen at hlen
  rw [hcs]
  clear hp ha hm hr hcs
  have CB : Chg [] w (w.alloc (.cells #[.int .u32 p.fl, .int .u8 p.mn, .int .u8 p.tm, .slice p.ia p.il p.ic, .slice p.wa p.wl p.wc, .slice p.ga p.gl p.gc, .slice p.sa p.sl p.sc] 36)) := (Chg.refl _ _).alloc _
  have hB : (w.alloc (.cells #[.int .u32 p.fl, .int .u8 p.mn, .int .u8 p.tm, .slice p.ia p.il p.ic, .slice p.wa p.wl p.wc, .slice p.ga p.gl p.gc, .slice p.sa p.sl p.sc] 36)).heap[w.heap.size]? = some (.cells p.cells 36 (0, 0)) := alloc_heap w _
  have HCB := Lib.hid (And.intro CB hB)
  clear CB hB
  go_enter Try.func7, Try.ntmps7
  go_wp2_with fail
  refine (alive_any _).mono ?_
  rintro e w1 ⟨rfl, C1⟩
  have D1 := Lib.hid (HCB.out.1.trans C1 (U := []) (by simp) (by simp))
  have B1 := Lib.hid (C1.heap HCB.out.2 (by simp))
  obtain ⟨q0, q1, q2, q3, q4, q5, q6⟩ := plan_cells B1.out
  clear C1
  go_wp2_with fail
  refine (great_all p _ (HP.out.chg D1.out) HM.out.1 HM.out.2).mono ?_
  rintro e w2 ⟨rfl, C2⟩
  have D2 := Lib.hid (D1.out.trans C2 (U := []) (by simp) (by simp))
  have B2 := Lib.hid (C2.heap B1.out (by simp))
  clear C2 q0 q1 q2 q3 q4 q5 q6
  obtain ⟨q0, q1, q2, q3, q4, q5, q6⟩ := plan_cells B2.out
  have hgr : greatV p = 1 ∨ greatV p = 0 := by unfold greatV; split <;> simp
  by_cases hbig : greatV p = 1 ∨ 200 < len
  · have hcs : greatV p = 1 ∨ (greatV p = 0 ∧ (200 : Int) < (len : Int)) := by omega
    clear hgr hbig
    rcases hcs with hv | ⟨hv, hl2⟩
    all_goals (
      rw [hv]
      have HV0 := Lib.hid hv
      clear hv
      go_wp2_with fail
      refine (alive_any _).mono ?_
      rintro e w3 ⟨rfl, C3⟩
      go_wp2_with fail
      go_ret
      exact ⟨rfl, Chg.below (Below.refl _ _) (D2.out.trans C3 (U := []) (by simp) (by simp)) (by simp) (Nat.le_refl _)⟩)
  · have hv0 : greatV p = 0 := by omega
    have hl2 : ¬ (200 : Int) < (len : Int) := by omega
    rw [hv0]
    have HV0 := Lib.hid hv0
    clear hv0 hgr hbig
    go_wp2_with fail
    by_cases hck : p.chk = 0
    · have HSM : Hid (p.wl ≤ 4000 ∧ p.gl ≤ 4000 ∧ p.sl ≤ 4000 ∧ p.il ≤ 300 ∧ ∀ y ∈ p.its, y.m ≤ 4000) := Lib.hid (by
        have hv := HV0.out
        unfold greatV at hv
        split at hv
        · cases hv
        · rename_i hn
          have h1 : ∀ y ∈ p.its, y.m ≤ sumL p.its := fun y hy => by
            obtain ⟨k, hk⟩ := List.getElem?_of_mem hy
            have := sumL_take hk
            have := sumL_le p.its (k + 1)
            omega
          unfold greatN at hn
          exact ⟨by omega, by omega, by omega, by omega, fun y hy => by have := h1 y hy; omega⟩)
      refine (wNew_any p _ (HP.out.chg D2.out) hck (by have := HSM.out; omega) (by have := HSM.out; omega) (by have := HSM.out; omega) (fun x hx => by have := HSM.out.2.2.2.2 x hx; omega)).mono ?_
      rintro e w3 ⟨μ, Z, rfl, O3, hz⟩
      have HZ := Lib.hid hz
      have HO3 := Lib.hid O3
      have D3 := Lib.hid (D2.out.trans O3.c0 (U := []) (by simp) (by simp))
      have B3 := Lib.hid (O3.c0.heap B2.out (by simp))
      clear hz O3 q0 q1 q2 q3 q4 q5 q6
      obtain ⟨q0, q1, q2, q3, q4, q5, q6⟩ := plan_cells B3.out
      go_wp2_with fail
      refine (refCheck_any p _ (HP.out.chg D3.out)).mono ?_
      rintro e w4 ⟨rfl, C4⟩
      rw [hck]
      have HO4 := Lib.hid (HO3.out.chg0 C4)
      have D4 := Lib.hid (D3.out.trans C4 (U := []) (by simp) (by simp))
      have B4 := Lib.hid (C4.heap B3.out (by simp))
      clear C4 q0 q1 q2 q3 q4 q5 q6
      obtain ⟨q0, q1, q2, q3, q4, q5, q6⟩ := plan_cells B4.out
      have HCK := Lib.hid hck
      clear hck
      go_wp2_with fail
      refine (wCheck_any p _ (HP.out.chg D4.out)).mono ?_
      rintro e w5 ⟨rfl, C5⟩
      rw [HCK.out]
      have HO5 := Lib.hid (HO4.out.chg0 C5)
      have D5 := Lib.hid (D4.out.trans C5 (U := []) (by simp) (by simp))
      have B5 := Lib.hid (C5.heap B4.out (by simp))
      clear C5 q0 q1 q2 q3 q4 q5 q6
      obtain ⟨q0, q1, q2, q3, q4, q5, q6⟩ := plan_cells B5.out
      go_wp2_with fail
      refine (rNew_any p _ (HP.out.chg D5.out) (by have := HSM.out; omega)).mono ?_
      rintro e w6 ⟨bM, u, rfl, R6⟩
      have hmem : ∀ y ∈ ordL p.its p.il, y ∈ p.its := fun y hy => by
        unfold ordL at hy
        obtain ⟨z, hz, rfl⟩ := List.mem_map.1 hy
        exact ((ordD_ok p.its p.il (by have := HSM.out; omega)).2 z hz).2.2.2.1
      have T6 : Tie w2 w6 μ Z p.cnt bM u (ordL p.its p.il) p := by
        refine ⟨HO5.out.chg0 R6.c0, R6.base HO5.out.c0 (HP.out.chg D2.out) (fun y hy => its_row (HP.out.chg D2.out) y (hmem y hy)), ?_, ⟨rfl, rfl, rfl⟩, HO5.out.hi _ R6.b1, fun k hk => HO5.out.hi _ (R6.b2 k hk)⟩
        have h1 := congrArg (List.map Prod.snd) (ordD_P p.its p.il)
        rw [← HZ.out] at h1
        unfold ordL
        simpa [List.map_map, Function.comp_def, Zt.pr] using h1
      have HT := Lib.hid T6
      clear R6 T6 hmem
      go_wp2_with fail
      have HLN := Lib.hid (show Z.length ≤ 300 by
        have h1 := ordP_len p.its p.il
        rw [← HZ.out, List.length_map] at h1
        have := HSM.out; omega)
      have HT' : Hid (∃ v, Tie w2 w6 { μ with v := v } Z p.cnt bM u (ordL p.its p.il) p) := Lib.hid ⟨μ.v, HT.out⟩
      clear q0 q1 q2 q3 q4 q5 q6 HZ HO3 D3 B3 HO4 D4 B4 HO5 D5 B5 B2 B1 D1 HCB
      have hcn : Hid (p.cnt.wrote = 0 ∧ p.cnt.got = 0 ∧ p.cnt.set = 0) := Lib.hid ⟨rfl, rfl, rfl⟩
      generalize p.cnt = c0 at *
      generalize ordL p.its p.il = L0 at *
      clear HT
      go_loopw [74] (fun i wr => ∃ (k : Nat) (v : Value) (Z : List Zt) (c : Wc) (u : Value) (L : List ItD), k ≤ len ∧ i = .int .i64 k ∧ Tie w2 wr { μ with v := v } Z c bM u L p ∧ (c.wrote ≤ k ∧ c.got ≤ k ∧ c.set ≤ k ∧ Z.length ≤ 300)) (fun i _ => len - (intOf i).toNat)
      case atStart =>
        obtain ⟨v, hv⟩ := HT'.out
        exact ⟨0, v, Z, c0, u, L0, by omega, rfl, hv, by have := hcn.out; omega, by have := hcn.out; omega, by have := hcn.out; omega, HLN.out⟩
      case round =>
        obtain ⟨k, v, Z, c, u, L, hk, rfl, hx, hc⟩ := hrel
        by_cases hlt : k < len
        · obtain ⟨bl, off, rfl, hat⟩ := HA.out.2 (by omega)
          obtain ⟨x, hx0⟩ : ∃ x, acts[k]? = some x := ⟨acts[k]'(by rw [HA.out.1]; exact hlt), List.getElem?_eq_getElem _⟩
          obtain ⟨x0, x1⟩ := hat k x hx0
          have y0 := hx.W.c0.cell (D2.out.cell x0 (by simp)) (by simp)
          have y1 := hx.W.c0.cell (D2.out.cell x1 (by simp)) (by simp)
          clear x0 x1 hat hx0
          obtain ⟨kind, n⟩ := x
          dsimp only at y0 y1
          have HF := Lib.hid hx.free
          obtain ⟨w3, hw3⟩ : ∃ w3, w3 = wr.alloc (.cells #[.int .i64 kind, .int .i64 n] 54) := ⟨_, rfl⟩
          have H3 : w3.heap[wr.heap.size]? = some (.cells #[.int .i64 kind, .int .i64 n] 54 (0, 0)) := by rw [hw3]; exact alloc_heap wr _
          have HX := Lib.hid (hx.chg0 (w' := w3) (by rw [hw3]; exact (Chg.refl _ _).alloc _))
          obtain ⟨b6, hb6⟩ : ∃ b6, b6 = wr.heap.size := ⟨_, rfl⟩
          rw [← hb6] at H3 HF
          have z0 : w3.cell? ⟨b6, 0, none⟩ = some (.int .i64 kind) := by rw [cell_of_heap H3]; rfl
          have z1 : w3.cell? ⟨b6, 1, none⟩ = some (.int .i64 n) := by rw [cell_of_heap H3]; rfl
          have HW3 := Lib.hid hw3
          have HB6 := Lib.hid hb6
          have HZ0 := Lib.hid (And.intro z0 z1)
          have HK := Lib.hid hc
          clear hw3 hb6 H3 hx hc z0 z1
          by_cases hk0 : kind = 0
          · subst hk0
            go_wp2_with fail
            rw [← HW3.out, ← HB6.out]
            obtain ⟨z0, z1⟩ := HZ0.out
            by_cases hn : n < 1
            · refine (oNext_bad _ _ _ _ _ n HX.out.W hn).mono ?_
              rintro e w4 ⟨rfl, rfl⟩
              go_wp2_with fail
              refine (rNext_bad bM n _ hn).mono ?_
              rintro e w5 ⟨rfl, rfl⟩
              have cvn := conv_nil w3
              go_wp2_with fail
              clear cvn
              have ST := HX
              clear HX
              have HC : Hid (c.wrote ≤ k + 1 ∧ c.got ≤ k + 1 ∧ c.set ≤ k + 1 ∧ Z.length ≤ 300) := Lib.hid (by have := HK.out; omega)
              obtain ⟨ao9, c9, e9, _, _, _⟩ := ST.out.R.row.slice
              subst e9
              have g9 := ST.out.R.cells.2.2.2.1
              go_quiet ((go_at_call 12; exact quiet_same (tie_left (ST.out.chg0 ((Chg.refl _ _).drewN _)) rfl)))
              go_wp2_with fail
              go_roundw
              case rel => exact ⟨k + 1, _, _, _, _, _, by omega, by go_num, ST.out.chg0 ((Chg.refl _ _).drewN _), HC.out⟩
              case measure => simp [intOf]; omega
            · have hn1 : 1 ≤ n := by omega
              cases Z with
              | nil =>
                obtain rfl := HX.out.none
                refine (oNext_none _ _ _ _ n HX.out.W hn1).mono ?_
                rintro e w4 ⟨rfl, rfl⟩
                go_wp2_with fail
                refine (rNext_none _ _ _ _ _ _ _ _ n HX.out.R hn1).mono ?_
                rintro e w5 ⟨rfl, rfl⟩
                have cvn := conv_nil w3
                go_wp2_with fail
                clear cvn
                have ST := HX
                clear HX
                have HC : Hid (c.wrote ≤ k + 1 ∧ c.got ≤ k + 1 ∧ c.set ≤ k + 1 ∧ ([] : List Zt).length ≤ 300) := Lib.hid (by have := HK.out; omega)
                obtain ⟨ao9, c9, e9, _, _, _⟩ := ST.out.R.row.slice
                subst e9
                have g9 := ST.out.R.cells.2.2.2.1
                go_quiet ((go_at_call 12; exact quiet_same (tie_left (ST.out.chg0 ((Chg.refl _ _).drewN _)) rfl)))
                go_wp2_with fail
                go_roundw
                case rel => exact ⟨k + 1, _, _, _, _, _, by omega, by go_num, ST.out.chg0 ((Chg.refl _ _).drewN _), HC.out⟩
                case measure => simp [intOf]; omega
              | cons z Z =>
                obtain ⟨x, L', rfl, _, _⟩ := HX.out.head
                by_cases hz : z.it.kind = 0
                · obtain ⟨kk, hkk, hkl⟩ : ∃ kk : Nat, ((n = (kk : Int) ∧ kk ≤ z.it.bs.length) ∨ (kk = z.it.bs.length ∧ (z.it.bs.length : Int) < n)) ∧ kk ≤ z.it.bs.length := by
                    by_cases h : n ≤ (z.it.bs.length : Int)
                    · exact ⟨n.toNat, .inl ⟨by omega, by omega⟩, by omega⟩
                    · exact ⟨z.it.bs.length, .inr ⟨rfl, by omega⟩, Nat.le_refl _⟩
                  have hB := HX.out.bytes hkl
                  have hkd := HX.out.W.kind
                  have hlx : x.m = z.it.bs.length ∧ 0 < x.m ∧ x.m ≤ 1000000 := ⟨hB.2.2.1, by rw [hB.2.2.1]; omega, by rw [hB.2.2.1]; omega⟩
                  have hLL := HX.out.len
                  rw [List.length_cons, List.length_cons] at hLL
                  have hZ3 := HK.out
                  rw [List.length_cons] at hZ3
                  have HN := Lib.hid (And.intro hkk (And.intro hlx (show L'.length ≤ 1000000 by omega)))
                  have HBB := Lib.hid hB
                  have HC : Hid (c.wrote ≤ k + 1 ∧ c.got ≤ k + 1 ∧ c.set ≤ k + 1 ∧ (if kk = z.it.bs.length then Z else z.cut kk :: Z).length ≤ 300) := Lib.hid (by
                    refine ⟨by omega, by omega, by omega, ?_⟩
                    split
                    · omega
                    · rw [List.length_cons]; omega)
                  have hzz := Lib.hid hz
                  clear hkd hlx hLL hZ3 hB hkk hkl hz
                  refine (oNext_dat _ _ _ z Z _ n kk HX.out.W hn1 hzz.out HN.out.1).mono ?_
                  rintro e w4 ⟨rv1, rfl, F4, R4, fo4, v4, O4⟩
                  have hR4 := HX.out.rf F4
                  replace z0 := F4.cell z0 HF.out.1
                  replace z1 := F4.cell z1 HF.out.1
                  obtain ⟨a4, c4, rfl, _, _⟩ := owns_srcAt R4
                  have HR4 := Lib.hid (And.intro R4 fo4)
                  have HO4 := Lib.hid O4
                  have HRR := Lib.hid hR4
                  clear F4 R4 fo4 O4 hR4
                  go_wp2_with fail
                  refine (rNext_dat _ _ bM u x L' p _ _ _ n kk HRR.out hn1 (by rw [HBB.out.1]; exact hzz.out) HN.out.2.1.2.1 HN.out.2.1.2.2 HN.out.2.2 (by rw [HN.out.2.1.1]; exact HN.out.1)).mono ?_
                  rintro e w5 ⟨rv2, rfl, k5, R5, ne5, u5, O5, hn5, hu5⟩
                  rw [HBB.out.2.2.2] at R5
                  have ST := Lib.hid (HX.out.dat HO4.out k5 O5 hu5)
                  replace z0 := k5.cell z0 (by simp; exact HF.out.2)
                  obtain ⟨a5, c5, rfl, S5, _⟩ := owns_srcAt R5
                  obtain ⟨_, _, e4, S4, _⟩ := owns_srcAt (owns_keep HR4.out.1 k5 (fun j hj hm => by rw [List.mem_singleton.1 hm] at hj; have := HR4.out.2 _ hj; have := (HR4.out.1.lt _ hj).1; have := heap_lt HX.out.R.hM; omega))
                  injection e4 with e4a _ e4b
                  subst e4a e4b
                  have cv1 := conv_at S4
                  have cv2 := conv_at S5
                  generalize strOfNums (z.it.bs.take kk) = sv at *
                  generalize (if kk = z.it.bs.length then Z else z.cut kk :: Z) = Z5 at *
                  generalize (if kk = x.m then L' else x.cut kk :: L') = L5 at *
                  clear HR4 HO4 HRR k5 R5 ne5 O5 hn5 hu5 S4 S5 HX
                  go_wp2_with fail
                  obtain ⟨ao9, c9, e9, _, _, _⟩ := ST.out.R.row.slice
                  subst e9
                  have g9 := ST.out.R.cells.2.2.2.1
                  go_quiet ((go_at_call 12; exact quiet_same (tie_left (ST.out.chg0 ((Chg.refl _ _).drewN _)) rfl)))
                  go_wp2_with fail
                  go_roundw
                  case rel => exact ⟨k + 1, _, _, _, _, _, by omega, by go_num, ST.out.chg0 ((Chg.refl _ _).drewN _), HC.out⟩
                  case measure => simp [intOf]; omega
                · obtain ⟨hb1, hb2, _, _⟩ := HX.out.bytes (k := 0) (Nat.zero_le _)
                  have hzz := Lib.hid hz
                  have HBB := Lib.hid (And.intro hb1 hb2)
                  clear hb1 hb2 hz
                  refine (oNext_far _ _ _ z Z _ n HX.out.W hn1 hzz.out).mono ?_
                  rintro e w4 ⟨rfl, F4, v4, O4⟩
                  have hR4 := HX.out.rf F4
                  replace z0 := F4.cell z0 HF.out.1
                  replace z1 := F4.cell z1 HF.out.1
                  have HO4 := Lib.hid O4
                  have HRR := Lib.hid hR4
                  clear F4 O4 hR4
                  go_wp2_with fail
                  refine (rNext_far _ _ bM u x L' p _ _ _ n HRR.out hn1 (by rw [HBB.out.1]; exact hzz.out)).mono ?_
                  rintro e w5 ⟨rfl, k5, u5, O5, hu5⟩
                  have ST := Lib.hid (HX.out.far HO4.out k5 O5 hu5)
                  replace z0 := k5.cell z0 (by simp; exact HF.out.2)
                  rw [HBB.out.1, HBB.out.2]
                  have HC : Hid (c.wrote ≤ k + 1 ∧ c.got ≤ k + 1 ∧ c.set ≤ k + 1 ∧ Z.length ≤ 300) := Lib.hid (by
                    have hZ3 := HK.out
                    rw [List.length_cons] at hZ3
                    omega)
                  clear HO4 HRR k5 O5 hu5 HX
                  have cvn := conv_nil w5
                  go_wp2_with fail
                  clear cvn
                  obtain ⟨ao9, c9, e9, _, _, _⟩ := ST.out.R.row.slice
                  subst e9
                  have g9 := ST.out.R.cells.2.2.2.1
                  go_quiet ((go_at_call 12; exact quiet_same (tie_left (ST.out.chg0 ((Chg.refl _ _).drewN _)) rfl)))
                  go_wp2_with fail
                  go_roundw
                  case rel => exact ⟨k + 1, _, _, _, _, _, by omega, by go_num, ST.out.chg0 ((Chg.refl _ _).drewN _), HC.out⟩
                  case measure => simp [intOf]; omega
          · by_cases hk1 : kind = 1
            · subst hk1
              go_wp2_with fail
              rw [← HW3.out, ← HB6.out]
              obtain ⟨z0, z1⟩ := HZ0.out
              refine (oWrite_any _ _ _ _ _ n HX.out.W (by have := HK.out; omega)).mono ?_
              rintro e w4 ⟨rfl, F4, O4⟩
              have R4 := HX.out.rf F4
              replace z0 := F4.cell z0 HF.out.1
              replace z1 := F4.cell z1 HF.out.1
              rw [HX.out.cp.1]
              dsimp only at O4 ⊢
              have HO4 := Lib.hid O4
              have HR4 := Lib.hid R4
              clear F4 O4 R4
              go_wp2_with fail
              refine (rWrite_any _ _ _ _ _ _ _ _ _ n HR4.out (by have := HK.out; omega) (by have := HSM.out; omega)).mono ?_
              rintro e w5 ⟨rfl, k5, R5⟩
              have ST := Lib.hid (HX.out.turn k5 HO4.out R5 ⟨rfl, rfl, rfl⟩)
              replace z0 := k5.cell z0 (by simp; exact HF.out.2)
              clear k5 R5 HO4 HR4
              go_wp2_with fail
              have HC : Hid (c.wrote + 1 ≤ k + 1 ∧ c.got ≤ k + 1 ∧ c.set ≤ k + 1 ∧ Z.length ≤ 300) := Lib.hid (by have := HK.out; omega)
              obtain ⟨ao9, c9, e9, _, _, _⟩ := ST.out.R.row.slice
              subst e9
              have g9 := ST.out.R.cells.2.2.2.1
              go_quiet ((go_at_call 12; exact quiet_same (tie_left (ST.out.chg0 ((Chg.refl _ _).drewN _)) rfl)))
              go_wp2_with fail
              go_roundw
              case rel => exact ⟨k + 1, _, _, _, _, _, by omega, by go_num, ST.out.chg0 ((Chg.refl _ _).drewN _), HC.out⟩
              case measure => simp [intOf]; omega
            · by_cases hk2 : kind = 2
              · subst hk2
                go_wp2_with fail
                rw [← HW3.out, ← HB6.out]
                obtain ⟨z0, z1⟩ := HZ0.out
                refine (oGet_any _ _ _ _ _ HX.out.W (by have := HK.out; omega)).mono ?_
                rintro e w4 ⟨rfl, F4, O4⟩
                have R4 := HX.out.rf F4
                replace z0 := F4.cell z0 HF.out.1
                rw [HX.out.cp.2.1]
                dsimp only at O4 ⊢
                have HO4 := Lib.hid O4
                have HR4 := Lib.hid R4
                clear F4 O4 R4
                go_wp2_with fail
                refine (rGet_any _ _ _ _ _ _ _ _ _ HR4.out (by have := HK.out; omega) (by have := HSM.out; omega)).mono ?_
                rintro e w5 ⟨rfl, k5, R5⟩
                have ST := Lib.hid (HX.out.turn k5 HO4.out R5 ⟨rfl, rfl, rfl⟩)
                replace z0 := k5.cell z0 (by simp; exact HF.out.2)
                clear k5 R5 HO4 HR4
                go_wp2_with fail
                have HC : Hid (c.wrote ≤ k + 1 ∧ c.got + 1 ≤ k + 1 ∧ c.set ≤ k + 1 ∧ Z.length ≤ 300) := Lib.hid (by have := HK.out; omega)
                obtain ⟨ao9, c9, e9, _, _, _⟩ := ST.out.R.row.slice
                subst e9
                have g9 := ST.out.R.cells.2.2.2.1
                go_quiet ((go_at_call 12; exact quiet_same (tie_left (ST.out.chg0 ((Chg.refl _ _).drewN _)) rfl)))
                go_wp2_with fail
                go_roundw
                case rel => exact ⟨k + 1, _, _, _, _, _, by omega, by go_num, ST.out.chg0 ((Chg.refl _ _).drewN _), HC.out⟩
                case measure => simp [intOf]; omega
              · by_cases hk3 : kind = 3
                · subst hk3
                  go_wp2_with fail
                  rw [← HW3.out, ← HB6.out]
                  obtain ⟨z0, z1⟩ := HZ0.out
                  refine (oSet_any _ _ _ _ _ HX.out.W (by have := HK.out; omega)).mono ?_
                  rintro e w4 ⟨rfl, F4, O4⟩
                  have R4 := HX.out.rf F4
                  replace z0 := F4.cell z0 HF.out.1
                  rw [HX.out.cp.2.2]
                  dsimp only at O4 ⊢
                  have HO4 := Lib.hid O4
                  have HR4 := Lib.hid R4
                  clear F4 O4 R4
                  go_wp2_with fail
                  refine (rSet_any _ _ _ _ _ _ _ _ _ HR4.out (by have := HK.out; omega) (by have := HSM.out; omega)).mono ?_
                  rintro e w5 ⟨rfl, k5, R5⟩
                  have ST := Lib.hid (HX.out.turn k5 HO4.out R5 ⟨rfl, rfl, rfl⟩)
                  replace z0 := k5.cell z0 (by simp; exact HF.out.2)
                  clear k5 R5 HO4 HR4
                  go_wp2_with fail
                  have HC : Hid (c.wrote ≤ k + 1 ∧ c.got ≤ k + 1 ∧ c.set + 1 ≤ k + 1 ∧ Z.length ≤ 300) := Lib.hid (by have := HK.out; omega)
                  obtain ⟨ao9, c9, e9, _, _, _⟩ := ST.out.R.row.slice
                  subst e9
                  have g9 := ST.out.R.cells.2.2.2.1
                  go_quiet ((go_at_call 12; exact quiet_same (tie_left (ST.out.chg0 ((Chg.refl _ _).drewN _)) rfl)))
                  go_wp2_with fail
                  go_roundw
                  case rel => exact ⟨k + 1, _, _, _, _, _, by omega, by go_num, ST.out.chg0 ((Chg.refl _ _).drewN _), HC.out⟩
                  case measure => simp [intOf]; omega
                · go_wp2_with fail
                  rw [← HW3.out]
                  have ST := HX
                  clear HX
                  have HC : Hid (c.wrote ≤ k + 1 ∧ c.got ≤ k + 1 ∧ c.set ≤ k + 1 ∧ Z.length ≤ 300) := Lib.hid (by have := HK.out; omega)
                  obtain ⟨ao9, c9, e9, _, _, _⟩ := ST.out.R.row.slice
                  subst e9
                  have g9 := ST.out.R.cells.2.2.2.1
                  go_quiet ((go_at_call 12; exact quiet_same (tie_left (ST.out.chg0 ((Chg.refl _ _).drewN _)) rfl)))
                  go_wp2_with fail
                  go_roundw
                  case rel => exact ⟨k + 1, _, _, _, _, _, by omega, by go_num, ST.out.chg0 ((Chg.refl _ _).drewN _), HC.out⟩
                  case measure => simp [intOf]; omega
        · obtain rfl : k = len := by omega
          have HO := Lib.hid hx.W.c0
          clear hx
          go_wp2_with fail
          go_ret
          exact ⟨rfl, Chg.below (Below.refl _ _) (D2.out.trans HO.out (U := []) (by simp) (by simp)) (by simp) (Nat.le_refl _)⟩
    · refine (wNew_bad p _ (HP.out.chg D2.out) hck).mono ?_
      rintro e w3 ⟨rfl, C3⟩
      have D3 := Lib.hid (D2.out.trans C3 (U := []) (by simp) (by simp))
      have B3 := Lib.hid (C3.heap B2.out (by simp))
      clear C3 q0 q1 q2 q3 q4 q5 q6
      obtain ⟨q0, q1, q2, q3, q4, q5, q6⟩ := plan_cells B3.out
      go_wp2_with fail
      refine (refCheck_any p _ (HP.out.chg D3.out)).mono ?_
      rintro e w4 ⟨rfl, C4⟩
      have D4 := Lib.hid (D3.out.trans C4 (U := []) (by simp) (by simp))
      have B4 := Lib.hid (C4.heap B3.out (by simp))
      clear C4 q0 q1 q2 q3 q4 q5 q6
      obtain ⟨q0, q1, q2, q3, q4, q5, q6⟩ := plan_cells B4.out
      have hck' : (p.chk != 0) = true := by rw [bne_iff_ne]; exact hck
      generalize hcc : p.chk = y at *
      go_wp2_with fail
      refine (wCheck_any p _ (HP.out.chg D4.out)).mono ?_
      rintro e w5 ⟨rfl, C5⟩
      rw [hcc]
      have D5 := Lib.hid (D4.out.trans C5 (U := []) (by simp) (by simp))
      clear C5
      go_wp2_with fail
      go_ret
      exact ⟨rfl, Chg.below (Below.refl _ _) D5.out (by simp) (Nat.le_refl _)⟩
end Go.Proofs.Ytlcfokndkkjklaa
