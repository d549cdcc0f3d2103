/-
  RegistryWipes: behind a wipe all cells of all arenas are 0. The walk.
-/
import Derived.Test.YtojabenkhjgafaaRegB
import Derived.Lib.MinMax
namespace Go.Proofs.Ytojabenkhjgafaa
set_option linter.unusedVariables false
open Go.RowKit Go.WideShapes

set_option maxRecDepth 100000 in
set_option maxHeartbeats 8000000 in
theorem registryWipes_walk (a0 : Option Addr) (len cap : Nat) (zs : Nat → List Int) (w : World) (hl : len ≤ maxLen) (hr : BytesAt w a0 len zs) :
    Calls Try.prog 7 #[.slice a0 len cap] w fun e w' => e = .returned (.bool true) ∧ Below w.heap.size w w' := by
  unfold maxLen at hl
  have HR := Lib.hid hr
  clear hr
  by_cases hbig : 16 < len
  · have hbig' : (16 : Int) < (len : Int) := by omega
    go_enter Try.func7, Try.ntmps7
    go_wp2_with fail
    refine (rNew_any w _ (Chg.refl _ _)).mono ?_
    rintro e w1 ⟨rfl, Q1⟩
    have HQ := Lib.hid Q1
    clear Q1
    go_wp2_with fail
    refine (alive_any _).mono ?_
    rintro e w2' ⟨rfl, C2⟩
    go_wp2_with fail
    refine (alive_any _).mono ?_
    rintro e w3' ⟨rfl, C3⟩
    go_wp2_with fail
    go_ret
    exact ⟨rfl, Chg.below (Below.refl _ _) ((HQ.out.c.trans C2 (U := []) (by simp) (by simp)).trans C3 (U := []) (by simp) (by simp)) (by simp) (Nat.le_refl _)⟩
  · go_enter Try.func7, Try.ntmps7
    go_wp2_with fail
    refine (rNew_any w _ (Chg.refl _ _)).mono ?_
    rintro e w1 ⟨rfl, Q1⟩
    have hszw : w.heap.size ≤ w.heap.size + 1 := by omega
    generalize w.heap.size + 1 = bR at *
    obtain ⟨bM, hbM⟩ : ∃ bM, bM = w.heap.size := ⟨_, rfl⟩
    rw [← hbM] at Q1
    clear hbM
    go_wp2_with fail
    refine (alive_any _).mono ?_
    rintro e w2 ⟨rfl, C2⟩
    have Q2 := Q1.chg0 C2
    clear Q1 C2
    go_wp2_with fail
    go_loopw [32, 4] (fun i d wr => ∃ (nv : Value) (A : List Ent) (b : Bool), A.length ≤ len ∧ i = .int .i64 (A.length : Nat) ∧ d = .bool b ∧ b = !allZero A ∧ OwnR w wr bR bM nv A ∧ WIs A) (fun i _ _ => len - (intOf i).toNat)
    case atStart => exact ⟨_, [], false, by simp, rfl, rfl, rfl, Q2, fun j hj => by simp at hj⟩
    case round =>
      obtain ⟨nv, A, b, hk, rfl, rfl, hd, hq, hwi⟩ := hrel
      have HD := Lib.hid hd
      have HWI := Lib.hid hwi
      have hA16 : A.length ≤ 16 := by omega
      clear hd hwi
      obtain ⟨k, hkA⟩ : ∃ k, k = A.length := ⟨_, rfl⟩
      rw [← hkA] at hk hA16 ⊢
      have HK := Lib.hid hkA
      clear hkA
      by_cases hlt : k < len
      · obtain ⟨bl, off, x, l, c, rfl, hcell, hrow⟩ := HR.out k hlt
        have hcell := hq.c.cell hcell (by simp)
        obtain ⟨hlc, hcm, hzl⟩ := hrow.le
        unfold maxLen at hcm
        obtain ⟨m, hm⟩ : ∃ m : Nat, m = min l 100 := ⟨_, rfl⟩
        have e0 : min (l : Int) 100 = (m : Int) := by omega
        have f0 : (m : Int) ≤ (c : Int) := by omega
        have g0 : m ≤ 100 := by omega
        have s0 := Lib.hid (fun S hS => hrow.src m (by omega) S hS)
        generalize (zs k).take m = ys at s0
        have hcv : (convert 45 9 (.slice (some ⟨wr.heap.size, 0, none⟩) 1 1)).run Try.prog (wr.alloc (.cells #[.int .u8 (97 + (k : Int))] 5)) = .ok (.string (strOfNums [97 + (k : Int)])) _ := conv_src (src_new [97 + (k : Int)] [] (by simp))
        have hss : (strOfNums [97 + (k : Int)]).size ≤ 2 := by rw [strOfNums_size]; simp
        have HF := Lib.hid (show findP A (nmW k) = none by rw [HK.out]; exact HWI.out.fresh (by rw [← HK.out]; omega))
        have HS := Lib.hid (show (nmW k).size ≤ maxLen by rw [nmW_size]; unfold maxLen; omega)
        have HE := Lib.hid (show (nmW k).toList.isEmpty = false by
          rw [ByteArray.toList_eq, nmW_toList]; rfl)
        have Q1 := hq.chg0 ((Chg.refl [] wr).alloc (.cells #[.int .u8 (97 + (k : Int))] 5))
        have HL16 := Lib.hid (show A.length < 16 by rw [← HK.out]; omega)
        clear hrow hm hzl hlc hq
        go_wp2_with fail
        rw [show (⟨#[110]⟩ : ByteArray) ++ strOfNums [97 + (k : Int)] = nmW k from rfl]
        refine (rMake_ok w bR bM _ A (nmW k) 100 _ Q1 HS.out HE.out HF.out HL16.out (by omega) (by omega)).mono ?_
        rintro e w3 ⟨rfl, nv3, Q3, _, _⟩
        have hA3 := Q3.r.ar _ (List.mem_append.2 (.inr (List.mem_singleton.2 rfl)))
        have b1 := Q3.b _ (mem_blks_ar (List.mem_append.2 (.inr (List.mem_singleton.2 rfl)))).1
        have b2 := Q3.b _ (mem_blks_ar (List.mem_append.2 (.inr (List.mem_singleton.2 rfl)))).2
        dsimp only at hA3 b1 b2
        generalize (wr.alloc (.cells #[.int .u8 (97 + (k : Int))] 5)).heap.size + 1 = pA at *
        generalize (wr.alloc (.cells #[.int .u8 (97 + (k : Int))] 5)).heap.size = pC at *
        clear Q1 hcv hss
        have HIE := Lib.hid (show insE 100 0 0 m = 0 by unfold insE; rw [if_neg (by omega), if_neg (by omega)])
        have HY := Lib.hid (s0.out [] (by simp)).1
        have HIL := Lib.hid (show insL 100 [] 0 ys = ys by unfold insL; rw [HY.out]; show (if insE 100 0 0 m = 0 then _ else _) = _; rw [HIE.out]; simp)
        have HP := Lib.hid (show ∀ y ∈ [pA, pC], w.heap.size ≤ y by intro y hy; simp at hy; omega)
        clear b1 b2
        go_wp2_with fail
        refine (insert_any pA pC 100 [] 0 _ _ _ ys _ hA3 ((s0.out [pA, pC] HP.out).chg Q3.c (by simp))).mono ?_
        rintro e w5 ⟨rfl, C5, A5⟩
        rw [HIL.out] at A5
        have Q5 := Q3.setLast ys C5 A5
        rw [show ([] : List Int).length = 0 from rfl, HIE.out]
        have s5 := Lib.hid ((s0.out [] (by simp)).chg Q5.c (by simp))
        have HQ5 := Lib.hid Q5
        clear hA3 C5 A5 Q3 Q5
        go_wp2_with fail
        go_loop [67, 4] (fun j d => ∃ (q : Nat) (b' : Bool), q ≤ m ∧ j = .int .i64 q ∧ d = .bool b' ∧ b' = !(allZero A && zeroB (ys.take q))) (fun j _ => m - (intOf j).toNat)
        case atStart => exact ⟨0, b, by omega, rfl, rfl, by rw [HD.out]; simp [zeroB]⟩
        case round =>
          obtain ⟨q, b', hq, rfl, rfl, hb'⟩ := hrel
          have HB' := Lib.hid hb'
          clear hb'
          by_cases hqt : q < m
          · obtain ⟨⟨g, o, spot⟩, rfl, _, hcells⟩ := s5.out.2 (by omega)
            have hqy : q < ys.length := by rw [HY.out]; exact hqt
            have hc := hcells q (.int .u8 ys[q]) (by simp [hqy])
            have hsp := World.cell?_spot (hcells 0 (.int .u8 (ys[0]'(by omega))) (by simp [show 0 < ys.length by omega]))
            have : spot = none := by simpa [Addr.add] using hsp
            subst this
            rw [Addr.add_lit] at hc
            have HT := Lib.hid (zeroB_take hqy)
            generalize ys[q] = v at *
            clear hcells hsp hqy
            have HR' : ∀ b'' : Bool, b'' = (b' || !(v == 0)) → b'' = !(allZero A && zeroB (ys.take (q + 1))) := fun b'' e => by
              rw [e, HB'.out, HT.out]
              cases allZero A <;> cases zeroB (ys.take q) <;> cases (v == 0) <;> rfl
            have HR'' := Lib.hid HR'
            clear HR' HT
            cases b'
            · by_cases hv : v = 0
              · have hv' : (v == 0) = true := by simpa using hv
                go_wp2_with fail
                go_round
                case rel => exact ⟨q + 1, _, by omega, by go_num, rfl, HR''.out _ (by simp [hv])⟩
                case measure => simp [intOf]; omega
              · have hv' : (v == 0) = false := by simpa using hv
                go_wp2_with fail
                go_round
                case rel => exact ⟨q + 1, _, by omega, by go_num, rfl, HR''.out _ (by simp [bne])⟩
                case measure => simp [intOf]; omega
            · go_wp2_with fail
              go_round
              case rel => exact ⟨q + 1, _, by omega, by go_num, rfl, HR''.out _ (by simp)⟩
              case measure => simp [intOf]; omega
          · obtain rfl : q = m := by omega
            go_wp2_with fail
            go_roundw
            case rel =>
              refine ⟨nv3, A ++ [⟨nmW k, pA, pC, 100, ys⟩], b', by rw [List.length_append, ← HK.out]; simp; omega, by rw [List.length_append, ← HK.out]; rfl, rfl, ?_, HQ5.out, HWI.out.append _ (by rw [HK.out]) rfl⟩
              rw [allZero_append, HB'.out, List.take_of_length_le (by rw [HY.out]; omega)]
            case measure => simp [intOf]; omega
      · obtain rfl : k = len := by omega
        generalize hz : allZero A = z at *
        have hb : (z == b) = false := by rw [HD.out]; cases z <;> rfl
        have HZ := Lib.hid hz
        clear hz
        go_wp2_with fail
        refine (rZero_any bR bM nv A _ hq.r).mono ?_
        rintro e w4 ⟨rfl, C4⟩
        rw [HZ.out]
        have Q4 := hq.chg0 C4
        clear C4 hq
        go_wp2_with fail
        refine (rClean_any bR bM nv A _ Q4.r).mono ?_
        rintro e w5 ⟨rfl, C5⟩
        have Q5 := Q4.chg0 C5
        clear C5 Q4
        go_wp2_with fail
        refine (rWipe_any bR bM nv A _ Q5.r).mono ?_
        rintro e w6 ⟨rfl, C6, R6⟩
        have Q6 := Q5.wiped C6 R6
        clear C6 R6 Q5
        go_wp2_with fail
        go_loopw [91] (fun i wr => ∃ j : Nat, j ≤ k ∧ i = .int .i64 j ∧ OwnR w wr bR bM nv (wiped A)) (fun i _ => k - (intOf i).toNat)
        case atStart => exact ⟨0, by omega, rfl, Q6⟩
        case round =>
          obtain ⟨j, hj, rfl, hq⟩ := hrel
          by_cases hjt : j < k
          · have hw2 := HWI.out.wiped
            have hlen : (wiped A).length = k := by rw [HK.out]; simp [wiped]
            have hf := hw2.find (by omega) (k := j) (by omega)
            have hN := (hw2 j (by omega)).2
            have hmem : (wiped A)[j] ∈ wiped A := List.getElem_mem _
            have hl0 : (wiped A)[j].l = [] := by simp [wiped]
            have hA := fun wx (c : Chg [] wr wx) => (hq.chg0 c).r.ar _ hmem
            rw [hN, hl0] at hA
            generalize (wiped A)[j].bA = pA at *
            generalize (wiped A)[j].bC = pC at *
            have HF := Lib.hid hf
            have HA := Lib.hid hA
            have hcv : (convert 45 9 (.slice (some ⟨wr.heap.size, 0, none⟩) 1 1)).run Try.prog (wr.alloc (.cells #[.int .u8 (97 + (j : Int))] 5)) = .ok (.string (strOfNums [97 + (j : Int)])) _ := conv_src (src_new [97 + (j : Int)] [] (by simp))
            have hss : (strOfNums [97 + (j : Int)]).size ≤ 2 := by rw [strOfNums_size]; simp
            have HS := Lib.hid (show (nmW j).size ≤ maxLen by rw [nmW_size]; unfold maxLen; omega)
            have C1 : Chg [] wr (wr.alloc (.cells #[.int .u8 (97 + (j : Int))] 5)) := (Chg.refl [] wr).alloc _
            have Q1 := hq.chg0 C1
            have A1 := HA.out _ C1
            clear hw2 hlen hf hN hmem hl0 hA
            go_wp2_with fail
            rw [show (⟨#[110]⟩ : ByteArray) ++ strOfNums [97 + (j : Int)] = nmW j from rfl]
            refine (rGet_any bR bM _ _ (nmW j) _ Q1.r HS.out).mono ?_
            rintro e w7 ⟨rfl, rfl⟩
            rw [HF.out]
            simp only [ptrV, Option.map_some, Option.isSome_some, if_true]
            generalize wr.alloc (.cells #[.int .u8 (97 + (j : Int))] 5) = w7 at *
            clear hcv hss C1
            go_wp2_with fail
            refine (len_any _ _ _ _ _ A1).mono ?_
            rintro e w8 ⟨rfl, rfl⟩
            go_wp2_with fail
            refine (zeroM_any _ _ _ _ _ A1).mono ?_
            rintro e w8 ⟨rfl, rfl⟩
            rw [show zeroB [] = true from rfl]
            go_wp2_with fail
            go_loop [117] (fun i => ∃ q : Nat, q ≤ 100 ∧ i = .int .i64 q) (fun i => 100 - (intOf i).toNat)
            case atStart => exact ⟨0, by omega, rfl⟩
            case round =>
              obtain ⟨q, hq', rfl⟩ := hrel
              by_cases hqt : q < 100
              · have HC1 := Lib.hid (show cellR 100 [] (q : Int) = 0 by unfold cellR; split <;> rfl)
                have HC2 := Lib.hid (show cellE 100 (q : Int) = 0 by unfold cellE; rw [if_neg (by omega)])
                go_wp2_with fail
                refine (cell_any _ _ _ _ _ _ A1).mono ?_
                rintro e w8 ⟨rfl, rfl⟩
                rw [HC1.out, HC2.out]
                go_wp2_with fail
                go_round
                case rel => exact ⟨q + 1, by omega, by go_num⟩
                case measure => simp [intOf]; omega
              · go_wp2_with fail
                go_roundw
                case rel => exact ⟨j + 1, by omega, by go_num, Q1⟩
                case measure => simp [intOf]; omega
          · go_wp2_with fail
            refine (rZero_any bR bM nv _ _ hq.r).mono ?_
            rintro e w7 ⟨rfl, C7⟩
            rw [allZero_wiped]
            have Q7 := hq.chg0 C7
            clear hq C7
            go_wp2_with fail
            refine (rClean_any bR bM nv _ _ Q7.r).mono ?_
            rintro e w8 ⟨rfl, C8⟩
            have hC := (Q7.chg0 C8).c
            go_wp2_with fail
            go_ret
            exact ⟨rfl, Chg.below (Below.refl _ _) hC (by simp) (Nat.le_refl _)⟩
end Go.Proofs.Ytojabenkhjgafaa
