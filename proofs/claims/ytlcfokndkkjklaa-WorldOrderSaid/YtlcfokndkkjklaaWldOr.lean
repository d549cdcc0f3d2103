/-
  WorldOrder: all bytes come once, in the order of items, in whatever pieces they are asked for; so do signals and faults. The walk.
-/
import Derived.Test.YtlcfokndkkjklaaWldLg
import Derived.Test.YtlcfokndkkjklaaWldGa
import Derived.Test.YtlcfokndkkjklaaWldOq
namespace Go.Proofs.Ytlcfokndkkjklaa
set_option linter.unusedVariables false
set_option linter.unusedSimpArgs false
set_option maxRecDepth 100000
open Go.RowKit
attribute [local go_sem] run_store_float'

theorem OwnWd.base {w0 w1 w : World} {μ : Wm} {Z : List Zt} {c : Wc} (h : OwnWd w1 w μ Z c) (k : Chg [] w0 w1) : OwnWd w0 w μ Z c :=
  ⟨h.is, k.trans h.c0 (fun y hy => hy) (by simp), fun x hx => h.lo x (Nat.lt_of_lt_of_le hx k.size), h.hi⟩

theorem SrcAt.get_at {w : World} {ao : Option Addr} {n c : Nat} {xs : List Value} (h : SrcAt w ao n c xs) {j : Nat} {u : Value} (hu : xs[j]? = some u) : ∃ g off, ao = some ⟨g, off, none⟩ ∧ w.cell? ⟨g, off + j, none⟩ = some u := by
  cases ao with
  | none =>
    have h1 := (h.2.1 rfl).1
    have h2 := h.1
    have := (List.getElem?_eq_some_iff.1 hu).1
    omega
  | some ad =>
    have hc := h.2.2 ad rfl j u hu
    have hj := (List.getElem?_eq_some_iff.1 hu).1
    have hsp := World.cell?_spot (h.2.2 ad rfl 0 xs[0] (List.getElem?_eq_getElem (by omega)))
    obtain ⟨g, off, spot⟩ := ad
    have : spot = none := by simpa [Addr.add] using hsp
    subst this
    rw [Addr.add_lit] at hc
    exact ⟨g, off, rfl, hc⟩

theorem or_row {w : World} {p : PlanD} (h : p.At w) : ∀ y ∈ p.its, BRow w y.ao y.m y.cap y.zs ∧ Wd y.b := fun y hy => by
  obtain ⟨k, hk⟩ := List.getElem?_of_mem hy
  have hlt := (List.getElem?_eq_some_iff.1 hk).1
  obtain ⟨bl, off, e, hx⟩ := h.its.2 (by have := h.its.1; omega)
  have ha := hx k y hk
  exact ⟨ha.2.2.2.2.1, ha.2.2.2.2.2⟩

/-- The text of the first j. -/
def preT (its : List ItD) (l' : List Tag) (j : Nat) : ByteArray := flatS ((l'.take j).map (itT its))

/-- Which are used, in memory. -/
def UseIs (w : World) (bU : Nat) (L : List Bool) : Prop := w.heap[bU]? = some (.cells (L.map Value.bool).toArray 4 (0, 0))

theorem UseIs.cell {w : World} {bU : Nat} {L : List Bool} (h : UseIs w bU L) {i : Nat} {b : Bool} (hi : L[i]? = some b) : w.cell? ⟨bU, i, none⟩ = some (.bool b) ∧ w.frozen? ⟨bU, i, none⟩ = false := by
  refine ⟨?_, free_of_heap h i⟩
  rw [cell_of_heap h]
  simp [hi]

theorem UseIs.set {w : World} {bU : Nat} {L : List Bool} (h : UseIs w bU L) (i : Nat) (b : Bool) : UseIs (w.setCell ⟨bU, i, none⟩ (.bool b)) bU (L.set i b) := by
  unfold UseIs
  rw [setCell_heap _ h, List.setIfInBounds_toArray, ← List.map_set]

theorem infoBool : (Try.prog.info? 4).map (fun i => (i.zero, i.size, i.bytes)) = some (some (.bool false), 1, 1) := by kernel_rfl

theorem make_bools (n : Nat) (h : n ≤ 1000000) (w : World) : (Instr.makeSlice 62 (.int .i64 (n : Int)) (.int .i64 (n : Int))).run Try.prog w =
    .ok (.slice (some ⟨w.heap.size, 0, none⟩) n n) (w.alloc (.cells (Array.replicate n (Value.bool false)) 4)) := by
  have e : Go.madeCells #[Value.bool false] n = Array.replicate n (Value.bool false) := by
    unfold Go.madeCells
    apply Array.ext
    · simp
    · intro i h1 h2
      simp [Nat.mod_one]
  rw [← e]
  exact Go.run_make_row' _ _ _ 1 Try.underlying62 infoBool rfl _ _ n (by omega) (by omega) w

theorem fwords_take (ws : List Nat) (k : Nat) (h : k < ws.length) : fwords (ws.take (k + 1)) = fwords (ws.take k) ++ [.float .f64 ws[k]] := by
  unfold fwords
  rw [List.take_succ_eq_append_getElem h, List.map_append]
  rfl

set_option maxHeartbeats 16000000 in
theorem order_walk (p : PlanD) (a : Option Addr) (len cap : Nat) (zs : List Int) (w : World) (hp : p.At w) (hm : ∀ y ∈ p.its, y.m ≤ reachBytes) (hr : p.wl ≤ reachBytes ∧ p.gl ≤ reachBytes ∧ p.sl ≤ reachBytes) (ha : IsRow .u8 w a len cap zs) :
    Calls Try.prog 9 #[.agg p.cells, .slice a len cap] w fun e w' => e = .returned (.bool true) ∧ Below w.heap.size w w' := by
  have hcs : p.cells = #[.int .u32 p.fl, .int .u8 p.mn, .int .u8 p.tm, .slice p.ia p.il p.ic, .slice p.wa p.wl p.wc, .slice p.ga p.gl p.gc, .slice p.sa p.sl p.sc] := rfl
  have HA := Lib.hid ha
  have HP := Lib.hid hp
  have HM := Lib.hid (And.intro hm hr)
  have hlen := ha.le
  unfold maxLen at hlen
  rw [hcs]
  clear hp hm hr hcs ha
  have CB : Chg [] w (w.alloc (.cells #[.int .u32 p.fl, .int .u8 p.mn, .int .u8 p.tm, .slice p.ia p.il p.ic, .slice p.wa p.wl p.wc, .slice p.ga p.gl p.gc, .slice p.sa p.sl p.sc] 36)) := (Chg.refl _ _).alloc _
  have hB : (w.alloc (.cells #[.int .u32 p.fl, .int .u8 p.mn, .int .u8 p.tm, .slice p.ia p.il p.ic, .slice p.wa p.wl p.wc, .slice p.ga p.gl p.gc, .slice p.sa p.sl p.sc] 36)).heap[w.heap.size]? = some (.cells p.cells 36 (0, 0)) := alloc_heap w _
  have HCB := Lib.hid (And.intro CB hB)
  clear CB hB
  go_enter Try.func9, Try.ntmps9
  go_wp2_with fail
  refine (alive_any _).mono ?_
  rintro e w1 ⟨rfl, C1⟩
  have D1 := Lib.hid (HCB.out.1.trans C1 (U := []) (by simp) (by simp))
  have B1 := Lib.hid (C1.heap HCB.out.2 (by simp))
  obtain ⟨q0, q1, q2, q3, q4, q5, q6⟩ := plan_cells B1.out
  clear C1
  go_wp2_with fail
  refine (great_all p _ (HP.out.chg D1.out) HM.out.1 HM.out.2).mono ?_
  rintro e w2 ⟨rfl, C2⟩
  have D2 := Lib.hid (D1.out.trans C2 (U := []) (by simp) (by simp))
  have B2 := Lib.hid (C2.heap B1.out (by simp))
  clear C2 q0 q1 q2 q3 q4 q5 q6
  obtain ⟨q0, q1, q2, q3, q4, q5, q6⟩ := plan_cells B2.out
  have hgr : greatV p = 1 ∨ greatV p = 0 := by unfold greatV; split <;> simp
  rcases hgr with hv | hv
  · rw [hv]
    have HV0 := Lib.hid hv
    clear hv
    go_wp2_with fail
    refine (alive_any _).mono ?_
    rintro e w3 ⟨rfl, C3⟩
    go_wp2_with fail
    go_ret
    exact ⟨rfl, Chg.below (Below.refl _ _) (D2.out.trans C3 (U := []) (by simp) (by simp)) (by simp) (Nat.le_refl _)⟩
  · rw [hv]
    have HV0 := Lib.hid hv
    clear hv
    go_wp2_with fail
    refine (refCheck_any p _ (HP.out.chg D2.out)).mono ?_
    rintro e w3 ⟨rfl, C3⟩
    have D3 := Lib.hid (D2.out.trans C3 (U := []) (by simp) (by simp))
    have B3 := Lib.hid (C3.heap B2.out (by simp))
    clear C3 q0 q1 q2 q3 q4 q5 q6
    obtain ⟨q0, q1, q2, q3, q4, q5, q6⟩ := plan_cells B3.out
    by_cases hbig : p.chk ≠ 0 ∨ 200 < len
    · have hcases : (p.chk != 0) = true ∨ (p.chk = 0 ∧ (200 : Int) < (len : Int)) := by
        by_cases hc : p.chk = 0
        · exact .inr ⟨hc, by omega⟩
        · exact .inl (by rw [bne_iff_ne]; exact hc)
      clear hbig
      rcases hcases with hck' | ⟨hck, hl⟩
      · generalize hcc : p.chk = y at *
        go_wp2_with fail
        refine (alive_any _).mono ?_
        rintro e w4 ⟨rfl, C4⟩
        go_wp2_with fail
        go_ret
        exact ⟨rfl, Chg.below (Below.refl _ _) (D3.out.trans C4 (U := []) (by simp) (by simp)) (by simp) (Nat.le_refl _)⟩
      · rw [hck]
        clear hck
        go_wp2_with fail
        refine (alive_any _).mono ?_
        rintro e w4 ⟨rfl, C4⟩
        go_wp2_with fail
        go_ret
        exact ⟨rfl, Chg.below (Below.refl _ _) (D3.out.trans C4 (U := []) (by simp) (by simp)) (by simp) (Nat.le_refl _)⟩
    · have hck : p.chk = 0 := by omega
      have hl : ¬ (200 : Int) < (len : Int) := by omega
      clear hbig
      rw [hck]
      have HCK := Lib.hid hck
      clear hck
      have HSM : Hid (p.wl ≤ 4000 ∧ p.gl ≤ 4000 ∧ p.sl ≤ 4000 ∧ p.il ≤ 300 ∧ (∀ y ∈ p.its, y.m ≤ 4000) ∧ sumL p.its ≤ 4000) := Lib.hid (by
        have hv := HV0.out
        unfold greatV at hv
        split at hv
        · cases hv
        · rename_i hn
          have h1 : ∀ y ∈ p.its, y.m ≤ sumL p.its := fun y hy => by
            obtain ⟨k, hk⟩ := List.getElem?_of_mem hy
            have := sumL_take hk
            have := sumL_le p.its (k + 1)
            omega
          unfold greatN at hn
          exact ⟨by omega, by omega, by omega, by omega, fun y hy => by have := h1 y hy; omega, by omega⟩)
      go_wp2_with fail
      refine (wNew_any p _ (HP.out.chg D3.out) HCK.out (by have := HSM.out; omega) (by have := HSM.out; omega) (by have := HSM.out; omega) (fun x hx => by have := HSM.out.2.2.2.2.1 x hx; omega)).mono ?_
      rintro e w4 ⟨μ, Z, rfl, O4, hz⟩
      have hz' : Z.map (·.it) = (ordP p.its p.il).map (·.2) := by rw [← hz, List.map_map]; rfl
      have HZ := Lib.hid hz'
      have B4 := Lib.hid (O4.c0.heap B3.out (by simp))
      have HO4 := Lib.hid O4
      clear hz hz' O4 q0 q1 q2 q3 q4 q5 q6
      generalize p.cnt = c0 at *
      obtain ⟨A, hA⟩ : ∃ A, A = p.ia := ⟨_, rfl⟩
      obtain ⟨_, _, _, q3, _⟩ := plan_cells B4.out
      rw [← hA] at q3
      have HIA := Lib.hid hA
      have hil : p.il ≤ 300 := HSM.out.2.2.2.1
      have HIL := Lib.hid (show p.its.length = p.il from HP.out.its.1)
      clear hA
      go_wp2_with fail
      have O9 : w4.ownsRow w4.heap.size 23 1 (.slice none 0 0) 0 (fwords ((p.its.map (·.b)).take 0)) := World.ownsRow_nil _ _ _ _
      have HO9 := Lib.hid O9
      obtain ⟨i0, hi, hz0, hz1, hz2⟩ := info_parts infoF
      clear O9 q3
      go_loopw [9, 55] (fun av iv wr => ∃ k : Nat, k ≤ p.il ∧ iv = .int .i64 k ∧ Chg [] w4 wr ∧ wr.ownsRow w4.heap.size 23 1 av k (fwords ((p.its.map (·.b)).take k))) (fun _ iv _ => p.il - (intOf iv).toNat)
      case atStart => exact ⟨0, Nat.zero_le _, rfl, Chg.refl _ _, HO9.out⟩
      case round =>
        obtain ⟨k, hk, rfl, hC, hO⟩ := hrel
        by_cases hlt : k < p.il
        · have hPw := HP.out.chg ((D3.out.trans HO4.out.c0 (U := []) (by simp) (by simp)).trans hC (U := []) (by simp) (by simp))
          obtain ⟨bl, off, x, hia, hx0, hat⟩ := hPw.its.get hlt
          obtain rfl : A = some ⟨bl, off, none⟩ := by rw [HIA.out, hia]
          obtain ⟨y0, y1, y2, y3, yr, yw⟩ := hat
          have hxb : (p.its.map (·.b))[k]'(by rw [List.length_map, HIL.out]; exact hlt) = x.b := by
            rw [List.getElem_map]
            have : p.its[k]'(by rw [HIL.out]; exact hlt) = x := by rw [List.getElem?_eq_getElem (by rw [HIL.out]; exact hlt)] at hx0; exact Option.some.inj hx0
            rw [this]
          have C6 : Chg [] wr (wr.alloc (.cells #[.float .f64 x.b, .int .i64 x.kind, .int .i64 x.n, .slice x.ao x.m x.cap] 26)) := (Chg.refl _ _).alloc _
          have m0 : (wr.alloc (.cells #[.float .f64 x.b, .int .i64 x.kind, .int .i64 x.n, .slice x.ao x.m x.cap] 26)).cell? ⟨wr.heap.size, 0, none⟩ = some (.float .f64 x.b) := by rw [cell_of_heap (alloc_heap wr _)]; rfl
          generalize hw6 : wr.alloc (.cells #[.float .f64 x.b, .int .i64 x.kind, .int .i64 x.n, .slice x.ao x.m x.cap] 26) = w6 at *
          have HW6 := Lib.hid hw6
          have HC6 := Lib.hid (hC.trans C6 (U := []) (by simp) (by simp))
          have C7 : Chg [] w6 (w6.alloc (.cells #[.float .f64 x.b] 23)) := (Chg.refl _ _).alloc _
          have HO7 := Lib.hid (owns_keep (owns_keep hO C6 (by simp)) C7 (by simp))
          have HC7 := Lib.hid (HC6.out.trans C7 (U := []) (by simp) (by simp))
          have e6 : wr.heap.size + 1 = w6.heap.size := by rw [← hw6]; simp
          have HB7 : Hid ((w6.alloc (.cells #[.float .f64 x.b] 23)).heap[wr.heap.size + 1]? = some (.cells #[.float .f64 x.b] 23 (0, 0))) := Lib.hid (by rw [e6]; exact alloc_heap w6 (.cells #[.float .f64 x.b] 23))
          have HXB := Lib.hid hxb
          clear hC hO hPw hia hx0 yr yw C6 C7 hxb hw6 e6
          have hl1 : ∀ u ∈ ([.float .f64 x.b] : List Value), u.oneCell' = true := fun u hu => by rw [List.mem_singleton.1 hu]; rfl
          go_wp2_with (at_builtin; rw [HW6.out]; refine wpList_append_src rfl (.tmp 59) (.tmp 62) 61 rfl w4.heap.size 23 i0 (.float .f64 0) 1 8 Try.underlying61 hi hz0 hz1 hz2 rfl (by decide) u9 k (fwords ((p.its.map (·.b)).take k)) (by rfl) HO7.out (some ⟨wr.heap.size + 1, 0, none⟩) 1 1 [.float .f64 x.b] (by rfl) rfl (fun e => by cases e) (fun ad e j u hu => by cases e; rw [Addr.add_lit, cell_of_heap HB7.out, Nat.zero_add]; simpa using hu) hl1 (by unfold maxLen; omega) (by omega) HC7.out.size (fun v8 w8 O8 C8 _ => ?_); rw [← HXB.out, ← fwords_take (p.its.map (·.b)) k (by rw [List.length_map, HIL.out]; exact hlt)] at O8; have HO8 := Lib.hid O8; have HC8 := Lib.hid (HC7.out.trans C8 (U := []) (by simp) (fun y hy hl => absurd (owns_block HO7.out y (by simpa [Option.mem_toList] using hy)) (by omega))); clear O8 C8)
          go_roundw
          case rel => exact ⟨k + 1, by omega, by go_num, HC8.out, HO8.out⟩
          case measure => simp [intOf]; omega
        · obtain rfl : k = p.il := by omega
          have hws : (p.its.map (·.b)).take p.il = p.its.map (·.b) := List.take_of_length_le (by rw [List.length_map, HIL.out]; exact Nat.le_refl _)
          rw [hws] at hO
          have HOa := Lib.hid hO
          have HCa := Lib.hid hC
          obtain ⟨_, _, _, q3, _⟩ := plan_cells (hC.heap B4.out (by simp))
          rw [← HIA.out] at q3
          have hmk := make_bools p.il (by omega)
          clear hO hC hws
          go_wp2_with fail
          have CU : Chg [] wr (wr.alloc (.cells (Array.replicate p.il (Value.bool false)) 4)) := (Chg.refl _ _).alloc _
          have hU : UseIs (wr.alloc (.cells (Array.replicate p.il (Value.bool false)) 4)) wr.heap.size (List.replicate p.il false) := by
            unfold UseIs
            rw [alloc_heap]
            simp
          have hbU : w4.heap.size ≤ wr.heap.size := HCa.out.size
          have HOu := Lib.hid (owns_low (base' := 0) (owns_keep HOa.out CU (by simp)) (Nat.zero_le _))
          have HCu := Lib.hid (HCa.out.trans CU (U := []) (by simp) (by simp))
          generalize wr.alloc _ = w5 at *
          generalize wr.heap.size = bU at *
          have HU5 := Lib.hid (And.intro hU hbU)
          clear CU hU hbU q3
          have hwd : ∀ y ∈ p.its.map (·.b), Wd y := fun y hy => by
            obtain ⟨x, hx, rfl⟩ := List.mem_map.1 hy
            exact (or_row HP.out x hx).2
          have hln : (p.its.map (·.b)).length = p.il := by rw [List.length_map, HIL.out]
          have hso := momSort_any u9 (p.its.map (·.b)) w5 (by rw [hln]; exact HOu.out) (by rw [hln]; omega) hwd
          refine hso.mono ?_
          rintro e w6 ⟨rv, vs, rfl, C6, ⟨l', hs, hvs⟩, OV⟩
          rw [hln] at OV hs
          obtain ⟨ao, cc, rfl, SV, hbb⟩ := owns_srcAt OV
          have HNB := Lib.hid (show ∀ ad, ao = some ad → ad.block ∉ [bU] from fun ad e hm => by
            have h1 := (OV.lt _ (hbb ad e)).1
            have h2 := heap_lt HU5.out.1
            rw [List.mem_singleton.1 hm] at h1
            omega)
          have HB3 := Lib.hid (show w3.heap.size ≤ bU ∧ w.heap.size ≠ bU from ⟨Nat.le_trans HO4.out.c0.size HU5.out.2, by have := heap_lt B4.out; have := HU5.out.2; omega⟩)
          have HSV := Lib.hid SV
          have HLs := Lib.hid (And.intro hs hvs)
          have HC6 := Lib.hid (HCu.out.trans C6 (U := []) (by simp) (by simp))
          have HU6 := Lib.hid (show UseIs w6 bU (usedB l' 0 p.il) from by rw [usedB_zero]; exact C6.heap HU5.out.1 (by simp))
          have hFm : p.its.length ≤ 1000000 := by rw [HIL.out]; omega
          have hFs := flat_srt p.its l' hFm (by rw [HIL.out]; exact hs)
          rw [HIL.out] at hFs
          obtain ⟨F, hF⟩ : ∃ F, F = flatS ((ordP p.its p.il).map (·.2)) := ⟨_, rfl⟩
          rw [← hF] at hFs
          have hwt : wtI ((ordP p.its p.il).map (·.2)) ≤ 4000 := by
            have h1 := wtI_ord p.its p.il
            have h2 := sumL_le p.its p.il
            have := HSM.out
            omega
          have hll : l'.length = p.il := by rw [hs.mv.len, tagged_length, hln]
          have HF := Lib.hid (And.intro hF (And.intro hFs (show F.size ≤ 28000 from by rw [hF]; have := flatS_size ((ordP p.its p.il).map (·.2)); omega)))
          have HLL := Lib.hid (And.intro hll hwt)
          have hfst := fun (j : Nat) (t : Tag) (ht : l'[j]? = some t) => srt_first (p.its.map (·.b)) l' (by rw [hln]; omega) (by rw [hln]; exact hs) j t ht
          rw [hln] at hfst
          have HFST := Lib.hid hfst
          have HWD := Lib.hid hwd
          clear hso hwd OV SV hs hvs C6 hmk hF hFs hwt hll hFm hfst
          go_wp2_with fail
          go_loopw [7, 72] (fun sv iv wr => ∃ j : Nat, j ≤ p.il ∧ iv = .int .i64 j ∧ sv = .string (preT p.its l' j) ∧ Chg [bU] w6 wr ∧ UseIs wr bU (usedB l' j p.il)) (fun _ iv _ => p.il - (intOf iv).toNat)
          case atStart => exact ⟨0, Nat.zero_le _, rfl, rfl, Chg.refl _ _, HU6.out⟩
          case round =>
            obtain ⟨j, hj, rfl, rfl, hC, hU⟩ := hrel
            by_cases hlt : j < p.il
            · obtain ⟨t, ht⟩ : ∃ t, l'[j]? = some t := ⟨l'[j]'(by rw [HLL.out.1]; exact hlt), List.getElem?_eq_getElem _⟩
              have hvs : (fwords vs)[j]? = some (.float .f64 t.1) := by
                rw [← HLs.out.2]
                unfold fwords
                rw [List.map_map, List.getElem?_map, ht]
                rfl
              obtain ⟨f1, f2, f3, f4⟩ := HFST.out j t ht
              obtain ⟨gv, ov, hao, hcv⟩ := (HSV.out.chg hC (fun ad e => HNB.out ad e)).get_at hvs
              have HK3 := Lib.hid (((HO4.out.c0.trans HC6.out (U := []) (by simp) (by simp)).trans hC (U := []) (by simp) (fun y hy hl => absurd HB3.out.1 (by rw [← List.mem_singleton.1 hy]; omega)) : Chg [] w3 wr))
              have hbox := hC.heap (HC6.out.heap B4.out (by simp)) (by simpa using HB3.out.2)
              obtain ⟨_, _, _, q3, _⟩ := plan_cells hbox
              rw [← HIA.out] at q3
              have HC := Lib.hid hC
              have HU := Lib.hid hU
              have HT := Lib.hid (And.intro ht (And.intro f1 (And.intro f2 (And.intro f3 f4))))
              have hil2 : t.2 < p.il := f1
              subst hao
              clear hC hU hbox hvs f1 f2 f3 f4 ht
              go_wp2_with fail
              obtain ⟨w7, rfl⟩ : ∃ wo : World, wo = wr := ⟨_, rfl⟩
              go_loopw [7, 79] (fun sv iv wy => ∃ i : Nat, i ≤ t.2 ∧ iv = .int .i64 i ∧ sv = .string (preT p.its l' j) ∧ Chg [] w7 wy) (fun _ iv _ => p.il - (intOf iv).toNat)
              case atStart => exact ⟨0, Nat.zero_le _, rfl, rfl, Chg.refl _ _⟩
              case round =>
                obtain ⟨i, hi2, rfl, rfl, hY⟩ := hrel
                have hilt : i < p.il := by omega
                have hPy := HP.out.chg ((D3.out.trans HK3.out (U := []) (by simp) (by simp)).trans hY (U := []) (by simp) (by simp))
                obtain ⟨bl, off, x, hia, hx0, hat⟩ := hPy.its.get hilt
                obtain rfl : A = some ⟨bl, off, none⟩ := by rw [HIA.out, hia]
                obtain ⟨y0, y1, y2, y3, yr, yw⟩ := hat
                have hgi : (p.its.map (·.b)).getD i 0 = x.b := by
                  rw [List.getD_eq_getElem?_getD, List.getElem?_map, hx0]; rfl
                have hit : itT p.its (x.b, i) = itOf x := by
                  unfold itT
                  rw [List.getD_eq_getElem?_getD, hx0]; rfl
                have C8 : Chg [] wr (wr.alloc (.cells #[.float .f64 x.b, .int .i64 x.kind, .int .i64 x.n, .slice x.ao x.m x.cap] 26)) := (Chg.refl _ _).alloc _
                have hh8 := alloc_heap wr (.cells #[.float .f64 x.b, .int .i64 x.kind, .int .i64 x.n, .slice x.ao x.m x.cap] 26)
                have HY8 := Lib.hid (hY.trans C8 (U := []) (by simp) (by simp))
                have hU8 : UseIs (wr.alloc (.cells #[.float .f64 x.b, .int .i64 x.kind, .int .i64 x.n, .slice x.ao x.m x.cap] 26)) bU (usedB l' j p.il) := C8.heap (hY.heap HU.out (by simp)) (by simp)
                have hnb16 : ¬ bU = wr.heap.size := by have := heap_lt (hY.heap HU.out (by simp)); omega
                obtain ⟨w8, hw8⟩ : ∃ w8, w8 = wr.alloc (.cells #[.float .f64 x.b, .int .i64 x.kind, .int .i64 x.n, .slice x.ao x.m x.cap] 26) := ⟨_, rfl⟩
                obtain ⟨b16, hb16⟩ : ∃ b16, b16 = wr.heap.size := ⟨_, rfl⟩
                rw [← hw8, ← hb16] at hh8
                rw [← hw8] at hU8 HY8
                rw [← hb16] at hnb16
                have HW8 := Lib.hid hw8
                have HB16 := Lib.hid hb16
                have HU8 := Lib.hid hU8
                have HH8 := Lib.hid hh8
                have HN16 := Lib.hid hnb16
                have hug := usedB_get l' j p.il i hilt
                have HX := Lib.hid (And.intro yr (And.intro yw (And.intro hgi (And.intro hit hx0))))
                clear hh8 hU8 hnb16 hw8 hb16 hPy hY C8 yr yw hgi hit hx0 hia
                by_cases hfound : i = t.2
                · subst hfound
                  rw [decide_eq_false HT.out.2.2.2.1] at hug
                  have u0 := (HU8.out.cell hug).1
                  have u1 := (HU8.out.cell hug).2
                  have m0 : w8.cell? ⟨b16, 0, none⟩ = some (.float .f64 x.b) := by rw [cell_of_heap HH8.out]; rfl
                  have m1 : w8.cell? ⟨b16, 1, none⟩ = some (.int .i64 x.kind) := by rw [cell_of_heap HH8.out]; rfl
                  have m3 : w8.cell? ⟨b16, 3, none⟩ = some (.slice x.ao x.m x.cap) := by rw [cell_of_heap HH8.out]; rfl
                  have hxt : x.b = t.1 := by rw [← HX.out.2.2.1]; exact HT.out.2.2.1
                  have hcmp : cmpF x.b t.1 = 0 := by
                    rw [hxt]
                    rcases cmpF_tri t.1 t.1 with ⟨h1, _⟩ | ⟨_, h2⟩ | ⟨h1, _⟩
                    · omega
                    · exact h2
                    · omega
                  have hwt : Wd t.1 := by rw [← hxt]; exact HX.out.2.1
                  have hne := HN16.out
                  have CW : Chg [bU] w8 (w8.setCell ⟨bU, t.2, none⟩ (.bool true)) := (Chg.refl [bU] w8).setCell (p := ⟨bU, t.2, none⟩) (Or.inl List.mem_cons_self) _
                  have CWw : Chg [] w (w8.setCell ⟨bU, t.2, none⟩ (.bool true)) := ((D3.out.trans HK3.out (U := []) (by simp) (by simp)).trans HY8.out (U := []) (by simp) (by simp)).trans CW (by simp) (fun y hy hl => by
                    have e := List.mem_singleton.1 hy
                    have h1 := D3.out.size
                    have := HB3.out.1
                    omega)
                  have hbr := or_row HP.out x (List.mem_of_getElem? HX.out.2.2.2.2)
                  have cv := conv_at (hbr.1.src.chg0 CWw)
                  have hl'j : l'.take (j + 1) = l'.take j ++ [t] := by
                    obtain ⟨hjl, rfl⟩ := List.getElem?_eq_some_iff.1 HT.out.1
                    rw [List.take_succ_eq_append_getElem hjl]
                  have hti : itT p.its t = itOf x := by
                    have : itT p.its t = itT p.its (x.b, t.2) := rfl
                    rw [this, HX.out.2.2.2.1]
                  obtain ⟨T, hTT⟩ : ∃ T, T = txS x.kind (x.zs.take x.m) := ⟨_, rfl⟩
                  have hs1 : preT p.its l' (j + 1) = preT p.its l' j ++ T := by
                    unfold preT
                    rw [hl'j, List.map_append, flatS_append, List.map_cons, List.map_nil, hti, flatS_cons, hTT]
                    show _ ++ (_ ++ ByteArray.empty) = _
                    rw [ba_append_empty]
                    rfl
                  have hsz : (preT p.its l' j).size + T.size ≤ 28000 := by
                    have h1 : flatS (l'.map (itT p.its)) = preT p.its l' (j + 1) ++ flatS ((l'.drop (j + 1)).map (itT p.its)) := by
                      unfold preT
                      rw [← flatS_append, ← List.map_append, List.take_append_drop]
                    rw [HF.out.2.1, hs1] at h1
                    have h2 := HF.out.2.2
                    rw [h1, ba_size, ba_size] at h2
                    omega
                  have HS1 := Lib.hid hs1
                  have HTT := Lib.hid hTT
                  have HE := Lib.hid (show Chg [bU] w6 (w8.setCell ⟨bU, t.2, none⟩ (.bool true)) ∧ UseIs (w8.setCell ⟨bU, t.2, none⟩ (.bool true)) bU (usedB l' (j + 1) p.il) from
                    ⟨(HC.out.trans HY8.out (U := [bU]) (fun y hy => hy) (by simp)).trans CW (U := [bU]) (fun y hy => hy) (fun y hy _ => hy), by rw [usedB_next l' j p.il t HT.out.1]; exact HU8.out.set t.2 true⟩)
                  generalize preT p.its l' j = s at *
                  rw [HW8.out, HB16.out] at m0 m1 m3
                  rw [HW8.out] at u0 u1 cv HE
                  rw [HB16.out] at hne
                  clear hug hxt CW CWw hbr hl'j hti hs1 hTT
                  have hkind : x.kind = 0 ∨ x.kind = 1 ∨ ((x.kind == 0) = false ∧ (x.kind == 1) = false) := by
                    by_cases h0 : x.kind = 0
                    · exact .inl h0
                    · by_cases h1 : x.kind = 1
                      · exact .inr (.inl h1)
                      · exact .inr (.inr ⟨by rw [beq_eq_false_iff_ne]; exact h0, by rw [beq_eq_false_iff_ne]; exact h1⟩)
                  generalize hkk : x.kind = kd at *
                  have HKK := Lib.hid hkk
                  clear hkk
                  rcases hkind with hk0 | hk1 | ⟨hk0, hk1⟩
                  · have hT0 : T = strOfNums (x.zs.take x.m) := by rw [HTT.out]; unfold txS; rw [if_pos hk0]
                    rw [← hT0] at cv
                    subst hk0
                    have HT0 := Lib.hid hT0
                    clear hT0
                    go_wp2_with fail
                    refine (compare_any x.b t.1 _ HX.out.2.1 hwt).mono ?_
                    rintro e w9 ⟨rfl, rfl⟩
                    rw [hcmp]
                    go_wp2_with fail
                    go_roundw
                    case rel => exact ⟨j + 1, by omega, by go_num, by rw [HS1.out], HE.out.1, HE.out.2⟩
                    case measure => simp [intOf]; omega
                  · have hT0 : T = ByteArray.mk #[60, 115, 105, 103, 62] := by rw [HTT.out]; unfold txS; rw [if_neg (by omega), if_pos hk1]
                    subst hk1
                    rw [hT0] at hsz HS1
                    clear hT0 cv
                    go_wp2_with fail
                    refine (compare_any x.b t.1 _ HX.out.2.1 hwt).mono ?_
                    rintro e w9 ⟨rfl, rfl⟩
                    rw [hcmp]
                    go_wp2_with fail
                    go_roundw
                    case rel => exact ⟨j + 1, by omega, by go_num, by rw [HS1.out], HE.out.1, HE.out.2⟩
                    case measure => simp [intOf]; omega
                  · have hT0 : T = ByteArray.mk #[60, 102, 97, 117, 108, 116, 62] := by
                      rw [HTT.out]; unfold txS; rw [if_neg (by simpa using hk0), if_neg (by simpa using hk1)]
                    rw [hT0] at hsz HS1
                    clear hT0 cv
                    go_wp2_with fail
                    refine (compare_any x.b t.1 _ HX.out.2.1 hwt).mono ?_
                    rintro e w9 ⟨rfl, rfl⟩
                    rw [hcmp]
                    go_wp2_with fail
                    go_roundw
                    case rel => exact ⟨j + 1, by omega, by go_num, by rw [HS1.out], HE.out.1, HE.out.2⟩
                    case measure => simp [intOf]; omega
                · have hlt2 : i < t.2 := by omega
                  by_cases hu : i ∈ (l'.take j).map (·.2)
                  · rw [decide_eq_true hu] at hug
                    have u0 := (HU8.out.cell hug).1
                    rw [HW8.out] at u0
                    clear hu hug hfound
                    go_wp2_with fail
                    go_roundw
                    case rel => exact ⟨i + 1, by omega, by go_num, rfl, by rw [← HW8.out]; exact HY8.out⟩
                    case measure => simp [intOf]; omega
                  · have hkey : keyF x.b ≠ keyF t.1 := fun e => hu (HT.out.2.2.2.2 i hlt2 (by rw [HX.out.2.2.1]; exact e))
                    have hcmp : (cmpF x.b t.1 == 0) = false := by
                      rw [beq_eq_false_iff_ne]
                      rcases cmpF_tri x.b t.1 with ⟨h1, h2⟩ | ⟨h1, h2⟩ | ⟨h1, h2⟩
                      · rw [h2]; omega
                      · exact absurd h1 hkey
                      · rw [h2]; omega
                    rw [decide_eq_false hu] at hug
                    have u0 := (HU8.out.cell hug).1
                    have m0 : w8.cell? ⟨b16, 0, none⟩ = some (.float .f64 x.b) := by rw [cell_of_heap HH8.out]; rfl
                    rw [HW8.out, HB16.out] at m0
                    rw [HW8.out] at u0
                    have hwt : Wd t.1 := by
                      have := HT.out.2.2.1
                      rw [← this, List.getD_eq_getElem?_getD, List.getElem?_eq_getElem (by rw [hln]; exact hil2)]
                      exact HWD.out _ (List.getElem_mem _)
                    clear hu hug hfound hkey
                    go_wp2_with fail
                    refine (compare_any x.b t.1 _ HX.out.2.1 hwt).mono ?_
                    rintro e w9 ⟨rfl, rfl⟩
                    generalize cmpF x.b t.1 = cm at *
                    go_wp2_with fail
                    go_roundw
                    case rel => exact ⟨i + 1, by omega, by go_num, rfl, by rw [← HW8.out]; exact HY8.out⟩
                    case measure => simp [intOf]; omega
            · obtain rfl : j = p.il := by omega
              have hall : l'.take p.il = l' := List.take_of_length_le (by rw [HLL.out.1]; exact Nat.le_refl _)
              have hpre : preT p.its l' p.il = F := by unfold preT; rw [hall, HF.out.2.1]
              rw [hpre]
              clear hpre
              have HO6 := Lib.hid ((HO4.out.chg0 HC6.out).chg hC (fun y hy => by rw [List.mem_singleton.1 hy]; exact ⟨HO4.out.hi _ HU5.out.2, HB3.out.1⟩))
              obtain ⟨w7, rfl⟩ : ∃ wo : World, wo = wr := ⟨_, rfl⟩
              clear hC hU hall
              go_wp2_with fail
              go_loopw [8, 116] (fun gv iv wx => ∃ (i : Nat) (v : Value) (Z : List Zt) (s : ByteArray), i ≤ 5000 ∧ iv = .int .i64 i ∧ gv = .string s ∧ OwnWd w3 wx { μ with v := v } Z c0 ∧ s ++ flatS (Z.map (·.it)) = F ∧ i + wtI (Z.map (·.it)) ≤ 4000) (fun _ iv _ => 5000 - (intOf iv).toNat)
              case atStart => exact ⟨0, μ.v, Z, ByteArray.empty, by omega, rfl, rfl, HO6.out, by rw [ba_empty_append, HZ.out]; exact HF.out.1.symm, by rw [HZ.out]; have := HLL.out.2; omega⟩
              case round =>
                obtain ⟨i, v, Z, s, hi, rfl, rfl, hO, hs, hwt⟩ := hrel
                have hi' : (i : Int) < 5000 := by omega
                have HI := Lib.hid (And.intro hi hwt)
                have HO := Lib.hid hO
                have HSF := Lib.hid hs
                have hmost : ∃ y : Int, 1 ≤ y ∧ y ≤ 256 ∧ (((len : Int) ≤ (i : Int) ∧ y = 3) ∨ ((i : Int) < (len : Int) ∧ ∃ g off z, a = some ⟨g, off, none⟩ ∧ wr.cell? ⟨g, off + i, none⟩ = some (.int .u8 z) ∧ y = 1 + z ∧ 0 ≤ z ∧ z ≤ 255)) := by
                  by_cases hli : i < len
                  · have hsr := HA.out.src.chg0 (D3.out.trans hO.c0 (U := []) (by simp) (by simp))
                    obtain ⟨g, off, e, hc⟩ := hsr.int hli
                    have hz : 0 ≤ (zs.take len).getD i 0 ∧ (zs.take len).getD i 0 ≤ 255 := by
                      have hle := HA.out.le
                      have hil : i < (zs.take len).length := by rw [List.length_take]; omega
                      rw [List.getD_eq_getElem?_getD, List.getElem?_eq_getElem hil]
                      have hmem : (zs.take len)[i] ∈ zs := List.mem_of_mem_take (List.getElem_mem hil)
                      rcases HA.out with ⟨_, h2, _⟩ | ⟨_, _, _, _, _, _, hw⟩
                      · omega
                      · have := hw _ hmem
                        simpa [Lit.wf, IntKind.min, IntKind.max, IntKind.bits, IntKind.signed] using this
                    exact ⟨1 + (zs.take len).getD i 0, by omega, by omega, .inr ⟨by omega, g, off, _, e, hc, rfl, hz.1, hz.2⟩⟩
                  · exact ⟨3, by omega, by omega, .inl ⟨by omega, rfl⟩⟩
                obtain ⟨y, hy1, hy2, hor⟩ := hmost
                clear hwt hi hO hs
                rcases hor with ⟨hli, HY⟩ | ⟨hli, g, off, z, rfl, hcz, HY, hz0, hz1⟩
                all_goals (
                  cases Z with
                  | nil =>
                    have c := oNext_none w3 wr _ c0 y HO.out hy1
                    rw [HY] at c
                    go_wp2_with fail
                    refine c.mono ?_
                    rintro e w8 ⟨rfl, rfl⟩
                    have hF' : s = F := by
                      have h := HSF.out
                      rw [show flatS (([] : List Zt).map (·.it)) = ByteArray.empty from rfl, ba_append_empty] at h
                      exact h
                    subst hF'
                    clear c
                    go_wp2_with fail
                    refine (oLeft_any _ _ _ _ _ HO.out).mono ?_
                    rintro e w9 ⟨rfl, rfl⟩
                    go_wp2_with fail
                    go_ret
                    exact ⟨rfl, Chg.below (Below.refl _ _) (D3.out.trans HO.out.c0 (U := []) (by simp) (by simp)) (by simp) (Nat.le_refl _)⟩
                  | cons zt Z =>
                    by_cases hz : zt.it.kind = 0
                    · obtain ⟨kk, hkk, hkl, hk1⟩ : ∃ kk : Nat, ((y = (kk : Int) ∧ kk ≤ zt.it.bs.length) ∨ (kk = zt.it.bs.length ∧ (zt.it.bs.length : Int) < y)) ∧ kk ≤ zt.it.bs.length ∧ 0 < kk := by
                        have hkd := HO.out.kind
                        by_cases h : y ≤ (zt.it.bs.length : Int)
                        · exact ⟨y.toNat, .inl ⟨by omega, by omega⟩, by omega, by omega⟩
                        · exact ⟨zt.it.bs.length, .inr ⟨rfl, by omega⟩, Nat.le_refl _, by omega⟩
                      have c := oNext_dat w3 wr _ zt Z c0 y kk HO.out hy1 hz hkk
                      have hgt : ¬ y < (kk : Int) := by omega
                      rw [HY] at c hgt
                      have HKK := Lib.hid (And.intro hkl hk1)
                      clear hkk hkl hk1
                      go_wp2_with fail
                      refine c.mono ?_
                      rintro e w8 ⟨rv1, rfl, F4, R4, fo4, v4, O4⟩
                      obtain ⟨a4, c4, rfl, S4, _⟩ := owns_srcAt R4
                      have cv := conv_at S4
                      have hs' := flatS_dat HSF.out hz HKK.out.1
                      have hsz : s.size + (strOfNums (zt.it.bs.take kk)).size ≤ 28000 := by
                        have h1 := flatS_le hs'
                        rw [ba_size] at h1
                        have := HF.out.2.2
                        omega
                      have HN := Lib.hid (And.intro hs' (wt_dat (Z := Z) hz HKK.out.1 HKK.out.2))
                      have HO8 := Lib.hid O4
                      clear hs' F4 R4 fo4 O4 S4 c
                      generalize strOfNums (zt.it.bs.take kk) = sv at *
                      go_wp2_with fail
                      go_roundw
                      case rel => exact ⟨i + 1, v4, _, _, by have := HI.out; omega, by go_num, rfl, HO8.out, HN.out.1, by have := HN.out.2; have := HI.out; omega⟩
                      case measure => simp [intOf]; omega
                    · have c := oNext_far w3 wr _ zt Z c0 y HO.out hy1 hz
                      have hgt : ¬ y < (0 : Int) := by omega
                      rw [HY] at c hgt
                      go_wp2_with fail
                      refine c.mono ?_
                      rintro e w8 ⟨rfl, F4, v4, O4⟩
                      have hs' := flatS_far HSF.out
                      have hsz : s.size + (txS zt.it.kind zt.it.bs).size ≤ 28000 := by
                        have h1 := flatS_le hs'
                        rw [ba_size] at h1
                        have := HF.out.2.2
                        omega
                      have HN := Lib.hid (And.intro hs' (wt_far (Z := Z) hz))
                      have HO8 := Lib.hid O4
                      clear hs' F4 O4 c
                      by_cases hz1' : zt.it.kind = 1
                      · have hT0 : txS zt.it.kind zt.it.bs = ByteArray.mk #[60, 115, 105, 103, 62] := by unfold txS; rw [if_neg hz, if_pos hz1']
                        rw [hT0] at hsz HN
                        have hk0 : (zt.it.kind == 0) = false := by rw [beq_eq_false_iff_ne]; exact hz
                        clear hT0 hk0 hz
                        rw [hz1']
                        go_wp2_with fail
                        go_roundw
                        case rel => exact ⟨i + 1, v4, _, _, by have := HI.out; omega, by go_num, rfl, HO8.out, HN.out.1, by have := HN.out.2; have := HI.out; omega⟩
                        case measure => simp [intOf]; omega
                      · have hT0 : txS zt.it.kind zt.it.bs = ByteArray.mk #[60, 102, 97, 117, 108, 116, 62] := by unfold txS; rw [if_neg hz, if_neg hz1']
                        rw [hT0] at hsz HN
                        have hk0 : (zt.it.kind == 0) = false := by rw [beq_eq_false_iff_ne]; exact hz
                        have hk1 : (zt.it.kind == 1) = false := by rw [beq_eq_false_iff_ne]; exact hz1'
                        clear hT0
                        generalize zt.it.kind = kd at *
                        go_wp2_with fail
                        go_roundw
                        case rel => exact ⟨i + 1, v4, _, _, by have := HI.out; omega, by go_num, rfl, HO8.out, HN.out.1, by have := HN.out.2; have := HI.out; omega⟩
                        case measure => simp [intOf]; omega)
end Go.Proofs.Ytlcfokndkkjklaa
