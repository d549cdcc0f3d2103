/-
  WorldPieces: asked for in pieces of one size, or another, the bytes are the same. The walk.
-/
import Derived.Test.YtlcfokndkkjklaaWldLg
import Derived.Test.YtlcfokndkkjklaaWldAd
import Derived.Test.YtlcfokndkkjklaaWldPq
namespace Go.Proofs.Ytlcfokndkkjklaa
set_option linter.unusedVariables false
set_option linter.unusedSimpArgs false
set_option maxRecDepth 100000
open Go.RowKit

/-- The two texts in memory: the k-th is s, those before it are whole. -/
def TwoIs (w : World) (bA k : Nat) (s F : ByteArray) : Prop := w.heap[bA]? = some (.cells (if k = 0 then #[.string s, .string ByteArray.empty] else #[.string F, .string s]) 41 (0, 0))

theorem OwnWd.base {w0 w1 w : World} {μ : Wm} {Z : List Zt} {c : Wc} (h : OwnWd w1 w μ Z c) (k : Chg [] w0 w1) : OwnWd w0 w μ Z c :=
  ⟨h.is, k.trans h.c0 (fun y hy => hy) (by simp), fun x hx => h.lo x (Nat.lt_of_lt_of_le hx k.size), h.hi⟩

theorem TwoIs.cell {w : World} {bA k : Nat} {s F : ByteArray} (h : TwoIs w bA k s F) (hk : k < 2) : w.cell? ⟨bA, k, none⟩ = some (.string s) ∧ w.frozen? ⟨bA, k, none⟩ = false := by
  refine ⟨?_, free_of_heap h k⟩
  rw [cell_of_heap h]
  rcases (by omega : k = 0 ∨ k = 1) with rfl | rfl <;> rfl

theorem TwoIs.set {w : World} {bA k : Nat} {s F : ByteArray} (h : TwoIs w bA k s F) (hk : k < 2) (s' : ByteArray) : TwoIs (w.setCell ⟨bA, k, none⟩ (.string s')) bA k s' F := by
  unfold TwoIs
  rw [setCell_heap _ h]
  rcases (by omega : k = 0 ∨ k = 1) with rfl | rfl <;> rfl

theorem TwoIs.chg {w w' : World} {bA k : Nat} {s F : ByteArray} (h : TwoIs w bA k s F) {S : List Nat} (c : Chg S w w') (hb : bA ∉ S) : TwoIs w' bA k s F := c.heap h hb

/-- Between the rounds. -/
def TwoAt (w : World) (bA k : Nat) (F : ByteArray) : Prop := w.heap[bA]? = some (.cells #[.string (if k = 0 then ByteArray.empty else F), .string (if k < 2 then ByteArray.empty else F)] 41 (0, 0))

theorem TwoAt.is {w : World} {bA k : Nat} {F : ByteArray} (h : TwoAt w bA k F) (hk : k < 2) : TwoIs w bA k ByteArray.empty F := by
  unfold TwoAt at h
  unfold TwoIs
  rcases (by omega : k = 0 ∨ k = 1) with rfl | rfl <;> exact h

theorem TwoIs.at {w : World} {bA k : Nat} {F : ByteArray} (h : TwoIs w bA k F F) (hk : k < 2) : TwoAt w bA (k + 1) F := by
  unfold TwoIs at h
  unfold TwoAt
  rcases (by omega : k = 0 ∨ k = 1) with rfl | rfl <;> exact h

theorem pc_step {w3 w6 W : World} {μ : Wm} {Z : List Zt} {c : Wc} {bA bS k : Nat} {s F : ByteArray} {o : Obj} (O : OwnWd w3 w6 μ Z c) (T : TwoIs w6 bA k s F) (hk : k < 2) (hS : w6.heap[bS]? = some o) (hne : bS ≠ bA) (hf : μ.f bA = 0) (hb : w3.heap.size ≤ bA) (s' : ByteArray)
    (hW : W = (w6.setCell ⟨bA, k, none⟩ (.string s')).drew) : OwnWd w3 W μ Z c ∧ TwoIs W bA k s' F ∧ W.heap[bS]? = some o := by
  have c1 : Chg [bA] w6 (w6.setCell ⟨bA, k, none⟩ (.string s')) := (Chg.refl [bA] w6).setCell (p := ⟨bA, k, none⟩) (Or.inl List.mem_cons_self) _
  have c2 : Chg [bA] w6 W := by rw [hW]; exact c1.drew
  refine ⟨O.chg c2 (fun x hx => by rw [List.mem_singleton.1 hx]; exact ⟨hf, hb⟩), ?_, c2.heap hS (by simpa using hne)⟩
  rw [hW]
  exact (T.set hk s').chg ((Chg.refl [] _).drew) (by simp)

theorem src_two (w : World) (x y : Int) : SrcAt (w.alloc (.cells #[.int .u8 x, .int .u8 y] 5)) (some ⟨w.heap.size, 0, none⟩) 2 2 (valsOf .u8 [x, y]) := by
  refine ⟨rfl, fun e => (by cases e), fun ad e j u hu => ?_⟩
  cases e
  rw [Addr.add_lit, cell_of_heap (alloc_heap w _), Nat.zero_add]
  simpa [valsOf] using hu

theorem conv_nil (w : World) : (convert 24 9 (.slice none 0 0)).run Try.prog w = .ok (.string (strOfNums [])) w := run_convert_bytes_nil w _ 5 Try.underlying24 Try.underlying5 0 0 _ Try.underlying9

set_option maxHeartbeats 16000000 in
theorem pieces_walk (p : PlanD) (a b : Int) (w : World) (hp : p.At w) (hm : ∀ y ∈ p.its, y.m ≤ reachBytes) (hr : p.wl ≤ reachBytes ∧ p.gl ≤ reachBytes ∧ p.sl ≤ reachBytes) (ha : (Lit.int .u8 a).wf = true) (hb : (Lit.int .u8 b).wf = true) :
    Calls Try.prog 4 #[.agg p.cells, .int .u8 a, .int .u8 b] w fun e w' => e = .returned (.bool true) ∧ Below w.heap.size w w' := by
  have hcs : p.cells = #[.int .u32 p.fl, .int .u8 p.mn, .int .u8 p.tm, .slice p.ia p.il p.ic, .slice p.wa p.wl p.wc, .slice p.ga p.gl p.gc, .slice p.sa p.sl p.sc] := rfl
  have HAB : Hid ((0 ≤ a ∧ a ≤ 255) ∧ (0 ≤ b ∧ b ≤ 255)) := Lib.hid ⟨by simpa [Lit.wf, IntKind.min, IntKind.max, IntKind.bits, IntKind.signed] using ha, by simpa [Lit.wf, IntKind.min, IntKind.max, IntKind.bits, IntKind.signed] using hb⟩
  have HP := Lib.hid hp
  have HM := Lib.hid (And.intro hm hr)
  rw [hcs]
  clear hp hm hr hcs ha hb
  have CB : Chg [] w (w.alloc (.cells #[.int .u32 p.fl, .int .u8 p.mn, .int .u8 p.tm, .slice p.ia p.il p.ic, .slice p.wa p.wl p.wc, .slice p.ga p.gl p.gc, .slice p.sa p.sl p.sc] 36)) := (Chg.refl _ _).alloc _
  have hB : (w.alloc (.cells #[.int .u32 p.fl, .int .u8 p.mn, .int .u8 p.tm, .slice p.ia p.il p.ic, .slice p.wa p.wl p.wc, .slice p.ga p.gl p.gc, .slice p.sa p.sl p.sc] 36)).heap[w.heap.size]? = some (.cells p.cells 36 (0, 0)) := alloc_heap w _
  have HCB := Lib.hid (And.intro CB hB)
  clear CB hB
  go_enter Try.func4, Try.ntmps4
  go_wp2_with fail
  refine (alive_any _).mono ?_
  rintro e w1 ⟨rfl, C1⟩
  have D1 := Lib.hid (HCB.out.1.trans C1 (U := []) (by simp) (by simp))
  have B1 := Lib.hid (C1.heap HCB.out.2 (by simp))
  obtain ⟨q0, q1, q2, q3, q4, q5, q6⟩ := plan_cells B1.out
  clear C1
  go_wp2_with fail
  refine (great_all p _ (HP.out.chg D1.out) HM.out.1 HM.out.2).mono ?_
  rintro e w2 ⟨rfl, C2⟩
  have D2 := Lib.hid (D1.out.trans C2 (U := []) (by simp) (by simp))
  have B2 := Lib.hid (C2.heap B1.out (by simp))
  clear C2 q0 q1 q2 q3 q4 q5 q6
  obtain ⟨q0, q1, q2, q3, q4, q5, q6⟩ := plan_cells B2.out
  have hgr : greatV p = 1 ∨ greatV p = 0 := by unfold greatV; split <;> simp
  rcases hgr with hv | hv
  · rw [hv]
    have HV0 := Lib.hid hv
    clear hv
    go_wp2_with fail
    refine (alive_any _).mono ?_
    rintro e w3 ⟨rfl, C3⟩
    go_wp2_with fail
    go_ret
    exact ⟨rfl, Chg.below (Below.refl _ _) (D2.out.trans C3 (U := []) (by simp) (by simp)) (by simp) (Nat.le_refl _)⟩
  · rw [hv]
    have HV0 := Lib.hid hv
    clear hv
    go_wp2_with fail
    refine (refCheck_any p _ (HP.out.chg D2.out)).mono ?_
    rintro e w3 ⟨rfl, C3⟩
    have D3 := Lib.hid (D2.out.trans C3 (U := []) (by simp) (by simp))
    have B3 := Lib.hid (C3.heap B2.out (by simp))
    clear C3 q0 q1 q2 q3 q4 q5 q6
    by_cases hck : p.chk = 0
    · rw [hck]
      have HCK := Lib.hid hck
      clear hck
      have HSM : Hid (p.wl ≤ 4000 ∧ p.gl ≤ 4000 ∧ p.sl ≤ 4000 ∧ p.il ≤ 300 ∧ (∀ y ∈ p.its, y.m ≤ 4000) ∧ sumL p.its ≤ 4000) := Lib.hid (by
        have hv := HV0.out
        unfold greatV at hv
        split at hv
        · cases hv
        · rename_i hn
          have h1 : ∀ y ∈ p.its, y.m ≤ sumL p.its := fun y hy => by
            obtain ⟨k, hk⟩ := List.getElem?_of_mem hy
            have := sumL_take hk
            have := sumL_le p.its (k + 1)
            omega
          unfold greatN at hn
          exact ⟨by omega, by omega, by omega, by omega, fun y hy => by have := h1 y hy; omega, by omega⟩)
      have HF : Hid (sumL p.its ≤ 4000 ∧ wtI ((ordP p.its p.il).map (·.2)) ≤ 4000) := Lib.hid ⟨HSM.out.2.2.2.2.2, by
        have h1 := wtI_ord p.its p.il
        have h2 := sumL_le p.its p.il
        have := HSM.out
        omega⟩
      have hFe : ∃ F, F = flatT ((ordP p.its p.il).map (·.2)) := ⟨_, rfl⟩
      obtain ⟨F, hFe⟩ := hFe
      have HFE := Lib.hid hFe
      have HFS : Hid (F.size ≤ 16000) := Lib.hid (by
        have := flatT_size ((ordP p.its p.il).map (·.2))
        rw [← hFe] at this
        have := HF.out
        omega)
      clear hFe
      go_wp2_with fail
      obtain ⟨w4, hw4⟩ : ∃ w4, w4 = (w3.alloc (.cells #[.string ⟨#[]⟩, .string ⟨#[]⟩] 41)).alloc (.cells #[.int .u8 a, .int .u8 b] 5) := ⟨_, rfl⟩
      rw [← hw4]
      have hA4 : TwoAt w4 w3.heap.size 0 F := by rw [hw4]; exact alloc_keeps (alloc_heap w3 _)
      have hS4 : w4.heap[w3.heap.size + 1]? = some (.cells #[.int .u8 a, .int .u8 b] 5 (0, 0)) := by rw [hw4]; exact alloc2_heap w3 _ _
      have C4 : Chg [] w3 w4 := by rw [hw4]; exact ((Chg.refl _ _).alloc _).alloc _
      have HB0 := Lib.hid (show w3.heap.size + 1 ≠ w3.heap.size by omega)
      clear hw4
      generalize w3.heap.size + 1 = bS at *
      obtain ⟨bA, hbA⟩ : ∃ bA, bA = w3.heap.size := ⟨_, rfl⟩
      have HBA := Lib.hid hbA
      rw [← hbA] at hA4 ⊢
      clear hbA
      have HA4 := Lib.hid hA4
      have HS4 := Lib.hid hS4
      have HC4 := Lib.hid C4
      clear hA4 hS4 C4
      go_loopw [33] (fun i wr => ∃ k : Nat, k ≤ 2 ∧ i = .int .i64 k ∧ Chg [] w3 wr ∧ TwoAt wr bA k F ∧ wr.heap[bS]? = some (.cells #[.int .u8 a, .int .u8 b] 5 (0, 0))) (fun i _ => 2 - (intOf i).toNat)
      case atStart => exact ⟨0, by omega, rfl, HC4.out, HA4.out, HS4.out⟩
      case round =>
        obtain ⟨k, hk, rfl, hC, hA, hS⟩ := hrel
        have HC := Lib.hid hC
        have HS := Lib.hid hS
        by_cases hlt : k < 2
        · obtain ⟨y, hy, hy2⟩ : ∃ y : Int, wr.cell? ⟨bS, k, none⟩ = some (.int .u8 y) ∧ (0 ≤ y ∧ y ≤ 255) := by
            rw [cell_of_heap hS]
            have := HAB.out
            rcases (by omega : k = 0 ∨ k = 1) with rfl | rfl
            · exact ⟨a, rfl, by omega⟩
            · exact ⟨b, rfl, by omega⟩
          have HA := Lib.hid (hA.is hlt)
          obtain ⟨q0, q1, q2, q3, q4, q5, q6⟩ := plan_cells (hC.heap B3.out (by simp))
          have HPC := Lib.hid (HP.out.chg (D3.out.trans hC (U := []) (by simp) (by simp)))
          clear hC hA hS
          go_wp2_with fail
          refine (wNew_any p _ HPC.out HCK.out (by have := HSM.out; omega) (by have := HSM.out; omega) (by have := HSM.out; omega) (fun x hx => by have := HSM.out.2.2.2.2.1 x hx; omega)).mono ?_
          rintro e w5 ⟨μ, Z, rfl, O5, hz⟩
          have hz' : Z.map (·.it) = (ordP p.its p.il).map (·.2) := by rw [← hz, List.map_map]; rfl
          have HX : Hid (Z.map (·.it) = (ordP p.its p.il).map (·.2) ∧ OwnWd w3 w5 μ Z p.cnt ∧ TwoIs w5 bA k ByteArray.empty F ∧ w5.heap[bS]? = some (.cells #[.int .u8 a, .int .u8 b] 5 (0, 0)) ∧ μ.f bA = 0 ∧ μ.f bS = 0) := Lib.hid
            ⟨hz', O5.base HC.out, HA.out.chg O5.c0 (by simp), O5.c0.heap HS.out (by simp), O5.lo _ (heap_lt HA.out), O5.lo _ (heap_lt HS.out)⟩
          clear hz hz' O5 q0 q1 q2 q3 q4 q5 q6 hy
          generalize p.cnt = c0 at *
          go_wp2_with fail
          go_loopw [49] (fun iv wy => ∃ (i : Nat) (v : Value) (Z : List Zt) (s : ByteArray), i ≤ 5000 ∧ iv = .int .i64 i ∧ OwnWd w3 wy { μ with v := v } Z c0 ∧ TwoIs wy bA k s F ∧ s ++ flatT (Z.map (·.it)) = F ∧ i + wtI (Z.map (·.it)) ≤ 4000 ∧ wy.heap[bS]? = some (.cells #[.int .u8 a, .int .u8 b] 5 (0, 0))) (fun iv _ => 5000 - (intOf iv).toNat)
          case atStart => exact ⟨0, μ.v, Z, ByteArray.empty, by omega, rfl, HX.out.2.1, HX.out.2.2.1, by rw [HX.out.1, ba_empty_append]; exact HFE.out.symm, by rw [HX.out.1]; have := HF.out; omega, HX.out.2.2.2.1⟩
          case round =>
            obtain ⟨i, v, Z, s, hi, rfl, hO, hT, hs, hwt, hS⟩ := hrel
            have hi' : (i : Int) < 5000 := by omega
            have HI := Lib.hid hwt
            have HO := Lib.hid hO
            have HT := Lib.hid hT
            have HS' := Lib.hid hS
            have HSF := Lib.hid hs
            clear hwt hi hO hT hS hs
            cases Z with
            | nil =>
              go_wp2_with fail
              refine (oNext_none _ _ _ _ _ HO.out (by omega)).mono ?_
              rintro e w6 ⟨rfl, rfl⟩
              go_wp2_with fail
              refine (oLeft_any _ _ _ _ _ HO.out).mono ?_
              rintro e w7 ⟨rfl, rfl⟩
              have hF' : s = F := by
                have h := HSF.out
                rw [show flatT (([] : List Zt).map (·.it)) = ByteArray.empty from rfl, ba_append_empty] at h
                exact h
              subst hF'
              have HE := Lib.hid (HT.out.at hlt)
              have HE2 := Lib.hid HO.out.c0
              clear HO HT
              go_wp2_with fail
              go_roundw
              case rel => exact ⟨k + 1, by omega, by go_num, HE2.out, HE.out, HS'.out⟩
              case measure => simp [intOf]; omega
            | cons z Z =>
              by_cases hz : z.it.kind = 0
              · go_wp2_with fail
                obtain ⟨kk, hkk, hkl, hk1⟩ : ∃ kk : Nat, ((1 + y = (kk : Int) ∧ kk ≤ z.it.bs.length) ∨ (kk = z.it.bs.length ∧ (z.it.bs.length : Int) < 1 + y)) ∧ kk ≤ z.it.bs.length ∧ 0 < kk := by
                  have hkd := HO.out.kind
                  by_cases h : 1 + y ≤ (z.it.bs.length : Int)
                  · exact ⟨(1 + y).toNat, .inl ⟨by omega, by omega⟩, by omega, by omega⟩
                  · exact ⟨z.it.bs.length, .inr ⟨rfl, by omega⟩, Nat.le_refl _, by omega⟩
                have HKK := Lib.hid (And.intro hkk (And.intro hkl hk1))
                clear hkk hkl hk1
                refine (oNext_dat _ _ _ z Z _ _ kk HO.out (by omega) hz HKK.out.1).mono ?_
                rintro e w6 ⟨rv1, rfl, F4, R4, fo4, v4, O4⟩
                obtain ⟨a4, c4, rfl, S4, _⟩ := owns_srcAt R4
                have cv := conv_at (S4.chg0 ((Chg.refl [] w6).drew))
                have HT6 := Lib.hid (show TwoIs w6 bA k s F from F4.heap HT.out HX.out.2.2.2.2.1)
                have HS6 := Lib.hid (F4.heap HS'.out HX.out.2.2.2.2.2)
                have t1 := (HT6.out.cell hlt).1
                have t2 := (HT6.out.cell hlt).2
                have HO4 := Lib.hid O4
                clear F4 R4 fo4 O4 S4
                have hsz : s.size ≤ 16000 := Nat.le_trans (flat_le HSF.out) HFS.out
                have hs' := flat_dat HSF.out hz HKK.out.2.1
                have hw' := wt_dat (Z := Z) hz HKK.out.2.1 HKK.out.2.2
                have hsz' : s.size + (strOfNums (z.it.bs.take kk)).size ≤ 16000 := by
                  have := flat_le hs'
                  rw [ba_size] at this
                  have := HFS.out; omega
                have HN := Lib.hid (And.intro hs' hw')
                clear hs' hw'
                generalize strOfNums (z.it.bs.take kk) = sv at *
                go_wp2_with fail
                go_region
                all_goals (go_wp2_with fail)
                all_goals (
                  have hst := Lib.hid (pc_step HO4.out HT6.out hlt HS6.out (by rw [HBA.out]; exact HB0.out) HX.out.2.2.2.2.1 (by rw [HBA.out]; exact Nat.le_refl _) (s ++ sv) rfl)
                  go_roundw
                  case rel => exact ⟨i + 1, v4, _, _, by have := HI.out; omega, by go_num, hst.out.1, hst.out.2.1, HN.out.1, by have := HN.out.2; have := HI.out; omega, hst.out.2.2⟩
                  case measure => simp [intOf]; omega)
              · go_wp2_with fail
                refine (oNext_far _ _ _ z Z _ _ HO.out (by omega) hz).mono ?_
                rintro e w6 ⟨rfl, F4, v4, O4⟩
                have HT6 := Lib.hid (show TwoIs w6 bA k s F from F4.heap HT.out HX.out.2.2.2.2.1)
                have HS6 := Lib.hid (F4.heap HS'.out HX.out.2.2.2.2.2)
                have t1 := (HT6.out.cell hlt).1
                have t2 := (HT6.out.cell hlt).2
                have HO4 := Lib.hid O4
                have cvn := conv_nil w6.drew
                have hsz : s.size ≤ 16000 := Nat.le_trans (flat_le HSF.out) HFS.out
                have hs' := flat_far HSF.out hz
                have hsz' : s.size + (strOfNums []).size ≤ 16000 := by
                  rw [strOfNums_size]; simpa using hsz
                have hsz2 : (s ++ strOfNums []).size ≤ 16000 := by rw [ba_size]; exact hsz'
                have HN := Lib.hid (And.intro hs' (wt_far (Z := Z) hz))
                clear hs' F4 O4
                generalize strOfNums [] = sv at *
                go_wp2_with fail
                go_region
                all_goals (
                  have hst := Lib.hid (pc_step HO4.out HT6.out hlt HS6.out (by rw [HBA.out]; exact HB0.out) HX.out.2.2.2.2.1 (by rw [HBA.out]; exact Nat.le_refl _) (s ++ sv) rfl)
                  generalize hw7 : (w6.setCell ⟨bA, k, none⟩ (.string (s ++ sv))).drew = w7 at *
                  have t1 := (hst.out.2.1.cell hlt).1
                  have t2 := (hst.out.2.1.cell hlt).2
                  have C8 : Chg [] w7 (w7.alloc (.cells #[.int .u8 (z.it.kind % 256), .int .u8 (z.it.n % 256)] 5)) := (Chg.refl _ _).alloc _
                  have T8 := hst.out.2.1.chg C8 (by simp)
                  have H8 := Lib.hid (And.intro (hst.out.1.chg0 C8) (And.intro T8 (C8.heap hst.out.2.2 (by simp))))
                  have t3 := (T8.cell hlt).1
                  have t4 := (T8.cell hlt).2
                  have cv8 := conv_at ((src_two w7 (z.it.kind % 256) (z.it.n % 256)).chg0 ((Chg.refl [] _).drew))
                  have hsw : (strOfNums [(z.it.kind % 256), (z.it.n % 256)]).size = 2 := strOfNums_size _
                  have hfar := Lib.hid (show farT z.it.kind z.it.n = (ByteArray.mk #[60] ++ strOfNums [(z.it.kind % 256), (z.it.n % 256)]) ++ ByteArray.mk #[62] from rfl)
                  clear hw7 C8 T8
                  generalize strOfNums [(z.it.kind % 256), (z.it.n % 256)] = sw at *
                  go_wp2_with fail
                  go_region
                  all_goals (go_wp2_with fail)
                  all_goals (
                    have hst2 := Lib.hid (pc_step H8.out.1 H8.out.2.1 hlt H8.out.2.2 (by rw [HBA.out]; exact HB0.out) HX.out.2.2.2.2.1 (by rw [HBA.out]; exact Nat.le_refl _) (s ++ sv ++ ((ByteArray.mk #[60] ++ sw) ++ ByteArray.mk #[62])) rfl)
                    go_roundw
                    case rel => exact ⟨i + 1, v4, _, _, by have := HI.out; omega, by go_num, hst2.out.1, hst2.out.2.1, by rw [← hfar.out]; exact HN.out.1, by have := HN.out.2; have := HI.out; omega, hst2.out.2.2⟩
                    case measure => simp [intOf]; omega))
        · obtain rfl : k = 2 := by omega
          have r0 : wr.cell? ⟨bA, 0, none⟩ = some (.string F) := by rw [cell_of_heap hA]; rfl
          have r1 : wr.cell? ⟨bA, 1, none⟩ = some (.string F) := by rw [cell_of_heap hA]; rfl
          clear hA hC hS
          go_wp2_with fail
          go_ret
          exact ⟨rfl, Chg.below (Below.refl _ _) (D3.out.trans HC.out (U := []) (by simp) (by simp)) (by simp) (Nat.le_refl _)⟩
    · have hck' : (p.chk != 0) = true := by rw [bne_iff_ne]; exact hck
      generalize hcc : p.chk = y at *
      go_wp2_with fail
      refine (alive_any _).mono ?_
      rintro e w4 ⟨rfl, C4⟩
      go_wp2_with fail
      go_ret
      exact ⟨rfl, Chg.below (Below.refl _ _) (D3.out.trans C4 (U := []) (by simp) (by simp)) (by simp) (Nat.le_refl _)⟩
end Go.Proofs.Ytlcfokndkkjklaa
