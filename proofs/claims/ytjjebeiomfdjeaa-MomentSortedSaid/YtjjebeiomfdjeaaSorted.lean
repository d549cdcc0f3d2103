/-
  MomentSorted: moments in order are as many, each not behind the next one; turned about they are, as keys, the same. The walk.
-/
import Derived.Test.YtjjebeiomfdjeaaSorts
import Derived.Test.YtjjebeiomfdjeaaQueA
namespace Go.Proofs.Ytjjebeiomfdjeaa
set_option linter.unusedVariables false
open Go.RowKit

attribute [local go_sem] run_store_float'

theorem heap_cell_lt' {w : World} {b : Nat} {o : Nat} {v : Value} (h : w.cell? ⟨b, o, none⟩ = some v) : b < w.heap.size := by
  unfold World.cell? at h
  cases hb : w.heap[b]? with
  | none => simp only [hb] at h; cases h
  | some o => exact heap_lt hb

theorem Ordered.keys {ws vs : List Nat} (h : Ordered ws vs) (hm : ws.length ≤ 1000000) : (vs.map keyF).Pairwise (· ≤ ·) ∧ (vs.map keyF).Perm (ws.map keyF) := by
  obtain ⟨l1, s1, rfl⟩ := h
  have hp := s1.pairwise (tagged_length ws)
  constructor
  · rw [List.map_map, List.pairwise_map]
    refine List.Pairwise.imp_of_mem (R := fun x y => oT x < oT y) (fun {x y} hx hy hxy => ?_) hp
    have small : ∀ z ∈ l1, z.2 < 1000000 := fun z hz => by
      have hz' := (s1.mv.perm.mem_iff).1 hz
      obtain ⟨k, hk, rfl⟩ := List.getElem_of_mem hz'
      simp only [tagged, List.getElem_zipIdx]
      simp [tagged] at hk
      omega
    have h1 := small x hx
    have h2 := small y hy
    unfold oT at hxy
    show keyF x.1 ≤ keyF y.1
    omega
  · have := (s1.mv.perm.map (·.1)).map keyF
    have e : (tagged ws).map (·.1) = ws := by
      apply List.ext_getElem?
      intro k
      simp only [tagged, List.getElem?_map, List.getElem?_zipIdx, Option.map_map]
      cases ws[k]? <;> rfl
    rwa [e] at this

theorem keys_one {ws v1 v2 : List Nat} (h1 : Ordered ws v1) (h2 : Ordered ws.reverse v2) (hm : ws.length ≤ 1000000) : v1.map keyF = v2.map keyF := by
  obtain ⟨a1, b1⟩ := h1.keys hm
  obtain ⟨a2, b2⟩ := h2.keys (by simpa using hm)
  refine List.Perm.eq_of_pairwise (le := (· ≤ ·)) (fun a b _ _ h k => Nat.le_antisymm h k) a1 a2 (b1.trans ?_)
  refine List.Perm.trans ?_ b2.symm
  exact (List.reverse_perm ws).symm.map keyF

theorem key_at {v1 v2 : List Nat} (h : v1.map keyF = v2.map keyF) (k : Nat) (h1 : k < v1.length) : keyF (v2.getD k 0) = keyF (v1.getD k 0) := by
  have hl : v1.length = v2.length := by have := congrArg List.length h; simpa using this
  have e := congrArg (fun l => l[k]?) h
  simp only [List.getElem?_map, List.getElem?_eq_getElem h1, List.getElem?_eq_getElem (show k < v2.length by omega), Option.map_some, Option.some.injEq] at e
  simp [List.getD_eq_getElem?_getD, List.getElem?_eq_getElem h1, List.getElem?_eq_getElem (show k < v2.length by omega), e]

theorem key_next {ws vs : List Nat} (h : Ordered ws vs) (hm : ws.length ≤ 1000000) (k : Nat) (hk : k + 1 < vs.length) : decide ((0 : Int) < cmpF (vs.getD k 0) (vs.getD (k + 1) 0)) = false := by
  have h1 := (h.keys hm).1
  rw [List.pairwise_map, List.pairwise_iff_getElem] at h1
  have := h1 k (k + 1) (by omega) hk (by omega)
  simp only [List.getD_eq_getElem?_getD, List.getElem?_eq_getElem (show k < vs.length by omega), List.getElem?_eq_getElem hk, Option.getD_some]
  unfold cmpF cmpN
  by_cases c : keyF vs[k] < keyF vs[k + 1]
  · rw [if_pos c]; rfl
  · rw [if_neg c, if_neg (by omega)]; rfl

theorem rev_words (ws : List Nat) (k : Nat) (h : k < ws.length) : ws.reverse.take (k + 1) = ws.reverse.take k ++ [ws.getD (ws.length - 1 - k) 0] := by
  rw [List.take_succ_eq_append_getElem (by simpa using h), List.getElem_reverse, List.getD_eq_getElem?_getD, List.getElem?_eq_getElem (by omega)]; rfl

set_option maxRecDepth 100000 in
set_option maxHeartbeats 8000000 in
theorem sorted_walk (a0 : Option Addr) (len cap : Nat) (zs : List Int) (w : World) (hr : IsRow .u64 w a0 len cap zs) :
    Calls Try.prog 9 #[.slice a0 len cap] w fun e w' => e = .returned (.bool true) ∧ Below w.heap.size w w' := by
  obtain ⟨i0, hi, hz0, hz1, hz2⟩ := info_parts infoF
  obtain ⟨hlc, hcm, hzl⟩ := hr.le
  unfold maxLen at hcm
  have hW := hr.words
  generalize (zs.take len).map Int.toNat = ws at hW
  clear hr hzl
  have hf := frombits_run
  by_cases hbig : 300 < len
  · have hbig' : (300 : Int) < (len : Int) := by omega
    go_enter Try.func9, Try.ntmps9
    go_wp2_with (go_at_call 13; refine (alive_any _).mono ?_; rintro e w' ⟨rfl, rfl⟩)
    go_ret
    exact ⟨rfl, Below.refl _ _⟩
  · have HW := Lib.hid hW
    clear hW
    go_enter Try.func9, Try.ntmps9
    go_wp2_with fail
    go_loopw [3, 4, 15] (fun v u i wr => ∃ k : Nat, k ≤ len ∧ i = .int .i64 k ∧ wr.ownsRow w.heap.size 23 1 v k (fwords (ws.take k)) ∧ wr.ownsRow w.heap.size 23 1 u k (fwords (ws.reverse.take k)) ∧ (∀ j, v.ownBlock = some j → u.ownBlock ≠ some j) ∧ Chg [] w wr) (fun _ _ i _ => len - (intOf i).toNat)
    case atStart => exact ⟨0, by omega, rfl, by simpa [fwords] using World.ownsRow_nil w w.heap.size 23 1, by simpa [fwords] using World.ownsRow_nil w w.heap.size 23 1, by simp [Value.ownBlock], Chg.refl _ _⟩
    case round =>
      obtain ⟨k, hk, rfl, ho, hu, hd, hc⟩ := hrel
      by_cases hlt : k < len
      · obtain ⟨b1, b, off, rfl, hcell⟩ := HW.out.2 k hlt
        obtain ⟨b2, b', off', e', hcell2⟩ := HW.out.2 (len - 1 - k) (by omega)
        injection e' with e'
        injection e' with e1 e2 _
        subst e1 e2
        have hbl := heap_cell_lt' hcell
        replace hcell := hc.cell hcell (by simp)
        replace hcell2 := hc.cell hcell2 (by simp)
        have HT := Lib.hid (take_words ws k (by rw [HW.out.1]; exact hlt))
        have HU := Lib.hid (rev_words ws k (by rw [HW.out.1]; exact hlt))
        have hL := HW.out.1
        rw [hL] at HU
        clear hL
        have hs := hc.size
        have i3 : (len : Int) - 1 - (k : Int) = ((len - 1 - k : Nat) : Int) := by omega
        have i4 : ((len - 1 - k : Nat) : Int) < (len : Int) := by omega
        generalize ws.getD k 0 = x0 at *
        generalize ws.getD (len - 1 - k) 0 = y0 at *
        have HD := Lib.hid hd
        have HOU := Lib.hid hu
        have HO := Lib.hid ho
        clear hd ho hu
        have l1 := fun k hk => (HO.out.lt k hk).1
        have l2 := fun k hk => (HOU.out.lt k hk).1
        have l3 := fun k hk => (HOU.out.lt k hk).2
        have hc2 := hcell2
        go_wp2_with (first
          | ((with_reducible show wpList _ _ _ (⟨some 25, _, _, _, _, _⟩ :: _) _ _); refine wpList_append_where rfl (.tmp 18) (.tmp 24) 35 rfl w.heap.size 23 i0 (.float .f64 0) 1 8 Try.underlying35 hi hz0 hz1 hz2 rfl (by decide) _ k (fwords (ws.take k)) (by rfl) (HO.out.alloc _) ⟨wr.heap.size, 0, none⟩ 1 1 [.float .f64 x0] (by rfl) rfl (cellF_new _ _ _) (by simp [Value.oneCell']) (by unfold maxLen; omega) (by omega) (by simp; omega) (fun v3 w3 hown3 hg3 hw3 => ?_); have D3 : Chg u3.ownBlock.toList wr w3 := ((Chg.refl [] wr).alloc _).trans hg3 (by simp) (fun y hy _ => hy); have hU3 := Lib.hid (ownsF_chg HOU.out D3 (fun j hj hm => HD.out j (by simpa [Option.mem_toList] using hm) hj)); have hcell2 := D3.cell hc2 (fun hm => by have := l1 _ (by simpa [Option.mem_toList] using hm); omega); have HO3 := Lib.hid hown3; have HW3 := Lib.hid hw3; have HD3 := Lib.hid D3; have hs3 := D3.size; clear hown3 hg3 hw3 D3)
          | ((with_reducible show wpList _ _ _ (⟨some 37, _, _, _, _, _⟩ :: _) _ _); refine wpList_append_where rfl (.tmp 26) (.tmp 36) 35 rfl w.heap.size 23 i0 (.float .f64 0) 1 8 Try.underlying35 hi hz0 hz1 hz2 rfl (by decide) _ k (fwords (ws.reverse.take k)) (by rfl) (hU3.out.alloc _) ⟨w3.heap.size, 0, none⟩ 1 1 [.float .f64 y0] (by rfl) rfl (cellF_new _ _ _) (by simp [Value.oneCell']) (by unfold maxLen; omega) (by omega) (by simp; omega) (fun v4 w4 hown4 hg4 hw4 => ?_); have D4 : Chg u4.ownBlock.toList w3 w4 := ((Chg.refl [] w3).alloc _).trans hg4 (by simp) (fun y hy _ => hy); have HO4 := Lib.hid hown4; have HW4 := Lib.hid hw4; have HD4 := Lib.hid D4; clear hown4 hg4 hw4 D4))
        go_roundw
        case rel =>
          have e1 : fwords (ws.take k ++ [x0]) = fwords (ws.take k) ++ [Value.float .f64 x0] := by simp [fwords]
          have e2 : fwords (ws.reverse.take k ++ [y0]) = fwords (ws.reverse.take k) ++ [Value.float .f64 y0] := by simp [fwords]
          have n34 : ∀ j, v3.ownBlock = some j → u4.ownBlock ≠ some j := fun j hj hu => by
            rcases HW3.out j hj with h | h
            · exact HD.out j h hu
            · have := l3 j hu; simp at h; omega
          refine ⟨k + 1, by omega, by go_num, ?_, ?_, ?_, ?_⟩
          · rw [HT.out, e1]
            exact ownsF_chg HO3.out HD4.out (fun j hj hm => n34 j hj (by simpa [Option.mem_toList] using hm))
          · rw [HU.out, e2]; exact HO4.out
          · intro j hj hu
            rcases HW4.out j hu with h | h
            · exact n34 j hj h
            · have := (HO3.out.lt j hj).2; simp at h; omega
          · refine (hc.trans HD3.out (U := []) (by simp) (fun y hy hl => ?_)).trans HD4.out (U := []) (by simp) (fun y hy hl => ?_)
            · have := l1 y (by simpa [Option.mem_toList] using hy); omega
            · have := l2 y (by simpa [Option.mem_toList] using hy); omega
        case measure => simp [intOf]; omega
      · obtain rfl : k = len := by omega
        have HL : Hid (ws.length = k) := Lib.hid HW.out.1
        have hT : ws.take k = ws := List.take_of_length_le (by rw [HW.out.1]; exact Nat.le_refl _)
        have hU : ws.reverse.take k = ws.reverse := List.take_of_length_le (by rw [List.length_reverse, HW.out.1]; exact Nat.le_refl _)
        rw [hT] at ho
        rw [hU] at hu
        have hW := words_mem HW.out
        have hs := hc.size
        clear hT hU hd
        have ho0 : wr.ownsRow 0 23 1 u3 ws.length (fwords ws) := by rw [HL.out]; exact ownsF_lower ho (Nat.zero_le _)
        have hu0 : wr.ownsRow 0 23 1 u4 ws.reverse.length (fwords ws.reverse) := by rw [List.length_reverse, HL.out]; exact ownsF_lower hu (Nat.zero_le _)
        clear ho hu
        go_wp2_with fail
        refine (momSort_any u3 ws _ ho0 (by rw [HL.out]; omega) hW).mono ?_
        rintro e w1 ⟨rv1, vs1, rfl, C1, R1, O1⟩
        have hu1 := ownsF_chg hu0 C1 (by simp)
        have HR1 := Lib.hid R1
        have HO1 := Lib.hid O1
        have hc1 := hc.trans C1 (U := []) (by simp) (by simp)
        clear R1 O1 C1 ho0 hu0 hc
        go_wp2_with fail
        refine (momSort_any u4 ws.reverse _ hu1 (by rw [List.length_reverse, HL.out]; omega) (fun x hx => hW x (List.mem_reverse.1 hx))).mono ?_
        rintro e w2 ⟨rv2, vs2, rfl, C2, R2, O2⟩
        have hm : ws.length ≤ 1000000 := by rw [HL.out]; omega
        have HK := Lib.hid (keys_one HR1.out R2 hm)
        have hV1 : vs1.length = k := HR1.out.len.trans HL.out
        have hV2 : vs2.length = k := by rw [R2.len, List.length_reverse, HL.out]
        have HV := Lib.hid (And.intro hV1 hV2)
        have HW1 := Lib.hid (HR1.out.getD_wd hW)
        have HW2 := Lib.hid (R2.getD_wd (fun x hx => hW x (List.mem_reverse.1 hx)))
        have HM := Lib.hid hm
        have O1 := ownsF_chg HO1.out C2 (by simp)
        rw [List.length_reverse, HL.out] at O2
        rw [HL.out] at O1
        have hc2 := hc1.trans C2 (U := []) (by simp) (by simp)
        obtain ⟨ao1, c1, e1⟩ := slice_any O1
        obtain ⟨ao2, c2, e2⟩ := slice_any O2
        subst e1 e2
        have HO1' := Lib.hid O1
        have HO2' := Lib.hid O2
        clear O1 O2 R2 C2 hc1 hu1 HO1 hV1 hV2 hm hW
        go_wp2_with (go_at_call 13; refine (alive_any _).mono ?_; rintro e w' ⟨rfl, rfl⟩)
        go_loopw [61] (fun i wx => ∃ q : Nat, q ≤ k ∧ i = .int .i64 q ∧ Chg [] w2 wx) (fun i _ => k - (intOf i).toNat)
        case atStart => exact ⟨0, by omega, rfl, Chg.refl _ _⟩
        case round =>
          obtain ⟨q, hq, rfl, cx⟩ := hrel
          by_cases hqt : q < k
          · obtain ⟨g1, c1', e1, d1⟩ := fword_at HO1'.out hqt
            obtain ⟨g2, c2', e2, d2⟩ := fword_at HO2'.out hqt
            injection e1 with e1 _ e1'
            injection e2 with e2 _ e2'
            subst e1 e2 e1' e2'
            have d1 := cx.cell d1 (by simp)
            have d2 := cx.cell d2 (by simp)
            have hkk := key_at HK.out q (by have := HV.out; omega)
            have wa : Wd (vs1.getD q 0) := HW1.out _ (by
              rw [List.getD_eq_getElem?_getD, List.getElem?_eq_getElem (by have := HV.out; omega)]; exact List.getElem_mem _)
            have wb : Wd (vs2.getD q 0) := HW2.out _ (by
              rw [List.getD_eq_getElem?_getD, List.getElem?_eq_getElem (by have := HV.out; omega)]; exact List.getElem_mem _)
            cases q with
            | zero =>
              generalize vs1.getD 0 0 = t at *
              generalize vs2.getD 0 0 = t2 at *
              go_wp2_with fail
              go_quiet ((go_at_call 12; exact quiet_same (key_any _ _ (by assumption))))
              go_wp2_with fail
              go_roundw
              case rel => exact ⟨1, by omega, rfl, cx.drewN _⟩
              case measure => simp [intOf]; omega
            | succ q =>
              obtain ⟨g3, c3', e3, d3⟩ := fword_at HO1'.out (show q < k by omega)
              injection e3 with e3 _ e3'
              injection e3 with e3
              injection e3 with e3 _ _
              subst e3 e3'
              have d3 := cx.cell d3 (by simp)
              have hnx := key_next HR1.out HM.out q (by have := HV.out; omega)
              have wc : Wd (vs1.getD q 0) := HW1.out _ (by
                rw [List.getD_eq_getElem?_getD, List.getElem?_eq_getElem (by have := HV.out; omega)]; exact List.getElem_mem _)
              generalize vs1.getD (q + 1) 0 = t at *
              generalize vs1.getD q 0 = t0 at *
              generalize vs2.getD (q + 1) 0 = t2 at *
              have i1 : (q : Int) + 1 < (k : Int) := by omega
              have i2 : (q : Int) < (k : Int) := by omega
              have i5 : (0 : Int) < (q : Int) + 1 := by omega
              go_wp2_with fail
              go_quiet ((first | (go_at_call 11; exact quiet_same (compare_any _ _ _ (by assumption) (by assumption))) | (go_at_call 12; exact quiet_same (key_any _ _ (by assumption)))))
              go_wp2_with fail
              go_roundw
              case rel => exact ⟨q + 1 + 1, by omega, by go_num, cx.drewN _⟩
              case measure => simp [intOf]; omega
          · go_wp2_with fail
            go_ret
            exact ⟨rfl, Chg.below (Below.refl _ _) (hc2.trans cx (U := []) (by simp) (by simp)) (by simp) (Nat.le_refl _)⟩
end Go.Proofs.Ytjjebeiomfdjeaa
