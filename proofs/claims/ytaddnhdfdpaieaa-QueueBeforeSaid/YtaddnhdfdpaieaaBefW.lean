/-
  QueueBefore: what comes ahead of a moment, and then all else, are what would have been popped. The walk.
-/
import Derived.Test.YtaddnhdfdpaieaaBef
namespace Go.Proofs.Ytaddnhdfdpaieaa
set_option linter.unusedVariables false
open Go.RowKit

set_option maxRecDepth 100000 in
set_option maxHeartbeats 8000000 in
theorem queueBefore_walk (a0 : Option Addr) (len cap : Nat) (zs : List Int) (at_ : Int) (w : World) (hr : IsRow .u64 w a0 len cap zs) (h1 : (Lit.int .u64 at_).wf = true) :
    Calls Try.prog 9 #[.slice a0 len cap, .int .u64 at_] w fun e w' => e = .returned (.bool true) ∧ Below w.heap.size w w' := by
  obtain ⟨hlc, hcm, hzl⟩ := hr.le
  unfold maxLen at hcm
  have hW := hr.words
  generalize (zs.take len).map Int.toNat = ws at hW
  obtain ⟨b, rfl, hbW⟩ := word_of h1
  clear hr hzl h1
  have hf := frombits_run
  have hb := bits_run
  by_cases hbig : 400 < len
  · have hbig' : (400 : Int) < (len : Int) := by omega
    go_enter Try.func9, Try.ntmps9
    go_wp2_with fail
    refine (oNew_any w _ (Chg.refl _ _)).mono ?_
    rintro e w1 ⟨rfl, Q1⟩
    have D1 := Lib.hid Q1.c
    clear Q1
    go_wp2_with fail
    refine (qNew_any _).mono ?_
    rintro e w2 ⟨rfl, C2, _⟩
    go_wp2_with fail
    refine (alive_any _).mono ?_
    rintro e w3' ⟨rfl, C3⟩
    go_wp2_with fail
    refine (alive_any _).mono ?_
    rintro e w4' ⟨rfl, C4⟩
    go_wp2_with fail
    go_ret
    exact ⟨rfl, Chg.below (Below.refl _ _) (((D1.out.trans C2 (U := []) (by simp) (by simp)).trans C3 (U := []) (by simp) (by simp)).trans C4 (U := []) (by simp) (by simp)) (by simp) (Nat.le_refl _)⟩
  · go_enter Try.func9, Try.ntmps9
    go_wp2_with fail
    refine (oNew_any w _ (Chg.refl _ _)).mono ?_
    rintro e w1 ⟨rfl, Q1⟩
    go_wp2_with fail
    refine (qNew_any _).mono ?_
    rintro e w2 ⟨rfl, C2, p2⟩
    have hsz := Q1.q.lt
    obtain ⟨bQ, hbQ⟩ : ∃ bQ, bQ = w.heap.size := ⟨_, rfl⟩
    obtain ⟨bP, hbP⟩ : ∃ bP, bP = w1.heap.size := ⟨_, rfl⟩
    have Q2 := Q1.chg0 C2
    rw [← hbQ] at Q2 hsz
    have P2 : OwnQ w w2 bP (.slice none 0 0) [] 0 := ⟨by rw [hbP]; exact p2, Q2.c, by rw [hbP]; exact Q1.c.size, by simp [Value.ownBlock]⟩
    have A2 : Apart bQ (.slice none 0 0) bP (.slice none 0 0) := ⟨by omega, by simp [Value.ownBlock], by simp [Value.ownBlock], by simp [Value.ownBlock]⟩
    rw [← hbQ, ← hbP]
    clear hbQ hbP Q1 hsz C2 p2
    go_wp2_with fail
    refine (alive_any _).mono ?_
    rintro e w3 ⟨rfl, C3⟩
    have Q3 := Q2.chg0 C3
    have P3 := P2.chg0 C3
    clear Q2 P2 C3
    have HW := Lib.hid hW
    clear hW
    go_wp2_with fail
    go_loopw [36] (fun i wr => ∃ (k : Nat) (v u : Value) (M : List Ele), k ≤ len ∧ i = .int .i64 k ∧ OwnQ w wr bQ v M k ∧ OwnQ w wr bP u M k ∧ Apart bQ v bP u ∧ Hid (M.length = k)) (fun i _ => len - (intOf i).toNat)
    case atStart => exact ⟨0, _, _, [], by omega, rfl, Q3, P3, A2, Lib.hid rfl⟩
    case round =>
      obtain ⟨k, v, u, M, hk, rfl, hq, hp, ha, hl⟩ := hrel
      by_cases hlt : k < len
      · obtain ⟨b1, bl, off, rfl, hc⟩ := (HW.out.chg hq.c).2 k hlt
        generalize ws.getD k 0 = b0 at *
        go_wp2_with fail
        refine (qPush_any bQ v M k b0 k _ hq.q (by have := hl.out; omega) b1 (by omega)).mono ?_
        rintro e w4 ⟨rfl, C4, v4, q4, f4⟩
        have Q4 : OwnQ w w4 bQ v4 _ _ := ⟨q4, hq.c.trans C4 (fun x hx => hx) (fun x hx hl => hq.none hx hl), hq.b1, fun k hk => (f4 k hk).elim (hq.b2 k) (fun h1 => Nat.le_trans hq.c.size h1)⟩
        have p4 := ha.kept hp.q C4
        have P4 : OwnQ w w4 bP u M k := ⟨p4, Q4.c, hp.b1, hp.b2⟩
        have A4 := ha.step hp.q f4
        go_wp2_with fail
        refine (qPush_any bP u M k b0 k _ P4.q (by have := hl.out; omega) b1 (by omega)).mono ?_
        rintro e w5 ⟨rfl, C5, u5', p5, f5⟩
        have P5 : OwnQ w w5 bP u5' _ _ := ⟨p5, P4.c.trans C5 (fun x hx => hx) (fun x hx hl => P4.none hx hl), hp.b1, fun k hk => (f5 k hk).elim (hp.b2 k) (fun h1 => Nat.le_trans P4.c.size h1)⟩
        have q5 := A4.symm.kept Q4.q C5
        have Q5 : OwnQ w w5 bQ v4 _ _ := ⟨q5, P5.c, Q4.b1, Q4.b2⟩
        have A5 := (A4.symm.step Q4.q f5).symm
        clear q4 p4 p5 q5 Q4 P4 A4
        go_wp2_with fail
        go_roundw
        case rel => exact ⟨k + 1, v4, u5', _, by omega, by go_num, Q5, P5, A5, Lib.hid (by rw [(insQ_perm _ _ _).length_eq]; simp [hl.out])⟩
        case measure => simp [intOf]; omega
      · obtain rfl : k = len := by omega
        go_wp2_with fail
        refine (qBefore_any bQ v M k b _ hq.q hbW).mono ?_
        rintro e w4 ⟨lv1, v4, rfl, C4, q4, f4, O4⟩
        have P4 : OwnQ w w4 bP u M k := ⟨ha.kept hp.q C4, hq.c.trans C4 (fun x hx => hx) (fun x hx hl => hq.none hx hl), hp.b1, hp.b2⟩
        have A4 : Apart bQ v4 bP u := ha.step hp.q (fun k hk => .inl (by rw [← f4]; exact hk))
        have hz1 := C4.size
        obtain ⟨ao1, c1, rfl, n1, s1⟩ := owns_src O4
        have hsplit := take_drop_while b M
        have HSORT := Lib.hid hp.q.sorted
        have HOK := Lib.hid (show ∀ x ∈ M, 0 ≤ x.2.2 ∧ x.2.2 < 1000000 from fun x hx => by have := (hp.q.ok x hx).2; omega)
        have hle1 : (M.takeWhile (befB b)).length + (M.dropWhile (befB b)).length ≤ k := by rw [← List.length_append, hsplit, hl.out]; exact Nat.le_refl _
        have hle2 : k ≤ (M.takeWhile (befB b)).length + (M.dropWhile (befB b)).length := by rw [← List.length_append, hsplit, hl.out]; exact Nat.le_refl _
        have HLEN := Lib.hid (show (M.takeWhile (befB b)).length + (M.dropWhile (befB b)).length = k by rw [← List.length_append, hsplit]; exact hl.out)
        have HAT := Lib.hid (bef_at b M HSORT.out HOK.out)
        have HS := Lib.hid hsplit
        have hne1 : ∀ x, x ∈ bQ :: v4.ownBlock.toList → x < wr.heap.size := fun x hx => by
          rcases List.mem_cons.1 hx with e | e
          · rw [e]; exact hq.q.lt
          · exact hq.q.lt2 x (by rw [← f4]; simpa [Option.mem_toList] using e)
        have HN1 := Lib.hid hne1
        have HN0 := Lib.hid (show ∀ x, x ∈ bQ :: v4.ownBlock.toList → x < w.heap.size → x ∈ ([] : List Nat) from fun x hx hl => hq.none (v := v) (by rw [← f4]; exact hx) hl)
        have HN2 := Lib.hid n1
        have HPl := Lib.hid (show bP < wr.heap.size ∧ ∀ k, u.ownBlock = some k → k < wr.heap.size from ⟨hp.q.lt, hp.q.lt2⟩)
        clear hq hp ha C4 f4 hsplit hne1 n1 s1
        generalize M.takeWhile (befB b) = T at *
        generalize M.dropWhile (befB b) = R at *
        go_wp2_with (go_at_call 24; refine (nan_any _).mono ?_; rintro e w' ⟨rfl, rfl⟩)
        refine (qBefore_any bQ v4 R k aN _ q4 Wd_aN).mono ?_
        rintro e w5 ⟨lv2, v5, rfl, C5, q5, f5, O5⟩
        obtain ⟨t1, t2⟩ := takeWhile_all aN R (fun x _ => befB_nan x)
        rw [t2] at q5
        rw [t1] at O5
        have P5 : OwnQ w w5 bP u M k := ⟨A4.kept P4.q C5, P4.c.trans C5 (fun x hx => hx) (fun x hx hl => HN0.out x hx hl), P4.b1, P4.b2⟩
        have hz2 := C5.size
        have O4' := owns_chg O4 C5 (fun k hk hm => by have := HN1.out k hm; have := (O4.lt k hk).1; omega)
        obtain ⟨ao2, c2, rfl, n2, s2⟩ := owns_src O5
        have HN3 := Lib.hid n2
        clear t1 t2 C5 O4 n2 s2 f5
        have O0 : (w5.alloc (.cells #[] 3)).ownsRow w5.heap.size 3 1 (.slice (some ⟨w5.heap.size, 0, none⟩) 0 0) 0 [] := owns_empty w5 w5.heap.size 3 (Nat.le_refl _)
        have C0 : Chg [] w5 (w5.alloc (.cells #[] 3)) := (Chg.refl _ _).alloc _
        have HO4 := Lib.hid (owns_chg O4' C0 (by simp))
        have HO5 := Lib.hid (owns_chg O5 C0 (by simp))
        have HOS4 := Lib.hid (fun k hk => (O4'.lt k hk).2)
        have HOS5 := Lib.hid (fun k hk => (O5.lt k hk).2)
        have S1 := Lib.hid (src_owns (owns_chg O4' C0 (by simp)))
        obtain ⟨i0, hi, hz0, hz1, hz2⟩ := info_parts infoInt
        clear O4' O5
        go_wp2_with (first
          | (go_at_call 14; refine (qLen_any bQ _ _ _ _ q5).mono ?_; rintro e w5' ⟨rfl, rfl⟩)
          | (refine wpList_append_src rfl (.tmp 72) (.tmp 73) 54 rfl w5.heap.size 3 i0 (.int .i64 0) 1 8 Try.underlying54 hi hz0 hz1 hz2 rfl (by decide) _ 0 [] (by rfl) O0 ao1 T.length c1 (intsE T) (by rfl) (by simp [intsE]) HN2.out S1.out (oneCell_intsE T) (by unfold maxLen; omega) (by omega) C0.size (fun v6 w6 O6 C6 _ => ?_); have D6 : Chg [] w5 w6 := C0.trans C6 (by simp) (by simp [Value.ownBlock]); have S2 := Lib.hid (src_owns (owns_chg HO5.out C6 (by intro k hk hm; have := HOS5.out k hk; simp [Value.ownBlock] at hm; omega))); have HD6 := Lib.hid D6; have hz6 := D6.size; clear D6)
          | (refine wpList_append_src rfl (.tmp 74) (.tmp 75) 54 rfl w5.heap.size 3 i0 (.int .i64 0) 1 8 Try.underlying54 hi hz0 hz1 hz2 rfl (by decide) v6 (0 + T.length) _ (by rfl) O6 ao2 R.length c2 (intsE R) (by rfl) (by simp [intsE]) HN3.out S2.out (oneCell_intsE R) (by unfold maxLen; omega) (by omega) hz6 (fun v7 w7 O7 C7 _ => ?_); have D7 : Chg [] w5 w7 := HD6.out.trans C7 (by simp) (fun x hx hl => absurd (owns_block O6 x (by simpa [Option.mem_toList] using hx)) (by omega)); have HD7 := Lib.hid D7; rw [List.nil_append, ← intsE_append, HS.out, Nat.zero_add, HLEN.out] at O7; obtain ⟨ao7, c7, rfl⟩ := owns_slice O7; have HO7 := Lib.hid O7; clear O7 D7))
        have P7 := P5.chg0 HD7.out
        have HU := Lib.hid (show ∀ x ∈ bP :: u.ownBlock.toList, x < w5.heap.size from fun x hx => by
          rcases List.mem_cons.1 hx with e | e
          · rw [e]; exact P5.q.lt
          · exact P5.q.lt2 x (by simpa [Option.mem_toList] using e))
        clear O0 O6 C6 C7 q4 q5 P4 P5 A4 Q3 P3 A2 C0
        clear HN1 HPl HO4 HN0
        go_loopw [78] (fun i wr => ∃ (j : Nat) (u' : Value), j ≤ k ∧ i = .int .i64 j ∧ OwnQ w wr bP u' (M.drop j) k ∧ Hid (u'.ownBlock = u.ownBlock) ∧ Hid (wr.ownsRow w5.heap.size 3 1 (.slice ao7 k c7) k (intsE M))) (fun i _ => k - (intOf i).toNat)
        case atStart => exact ⟨0, u, by omega, rfl, P7, Lib.hid rfl, HO7⟩
        case round =>
          obtain ⟨j, u', hj, rfl, hp, hu, ho⟩ := hrel
          by_cases hlt2 : j < k
          · have hjM : j < M.length := by rw [hl.out]; exact hlt2
            obtain ⟨x, hx⟩ : ∃ x, M.drop j = x :: M.drop (j + 1) := ⟨M[j], List.drop_eq_getElem_cons hjM⟩
            have hxj : M[j]? = some x := by
              have := congrArg (fun l : List Ele => l[0]?) hx
              simpa using this
            rcases ho.out.2 with ⟨_, h0⟩ | ⟨g, cap', cur, e7, hg, _⟩
            · omega
            · injection e7 with e8 e9 e10
              have hcell : wr.cell? ⟨g, j, none⟩ = some (.int .i64 x.2.1) := by
                have h9 := src_owns ho.out _ e8 j (.int .i64 x.2.1) (by simp [intsE, hxj])
                rwa [Addr.add_lit, Nat.zero_add] at h9
              subst e8
              have hat := HAT.out j x _ hx
              rw [hx] at hp
              have hxm : Wd x.1 := (hp.q.ok x List.mem_cons_self).1
              have HXM := Lib.hid hxm
              clear hx hxj hxm hjM hg e9 e10
              have hc4 : ∀ w', Chg (bP :: u'.ownBlock.toList) wr w' → w'.ownsRow w5.heap.size 3 1 (.slice (some ⟨g, 0, none⟩) k c7) k (intsE M) := fun w' hc => owns_chg ho.out hc (fun y hy hm => by
                rw [hu.out] at hm
                have := HU.out y hm
                have := (ho.out.lt y hy).1
                omega)
              have HC4 := Lib.hid hc4
              clear hc4
              have hc := befB_cmp b x
              by_cases hjt : j < T.length
              · rw [decide_eq_true hjt] at hat
                rw [hat] at hc
                have hle0 : ¬ (0 : Int) < cmpF x.1 b := of_decide_eq_false hc
                have hjt' : (j : Int) < (T.length : Int) := by omega
                clear hc hat
                go_wp2_with fail
                refine (qPop_any bP u' x _ k _ hp.q).mono ?_
                rintro e w8 ⟨rfl, C8, u8', q8, f8⟩
                have P8 : OwnQ w w8 bP u8' (M.drop (j + 1)) k := ⟨q8, hp.c.trans C8 (fun x hx => hx) (fun x hx hl => hp.none hx hl), hp.b1, by rw [f8]; exact hp.b2⟩
                have HO8 := Lib.hid (HC4.out _ C8)
                have HF8 := Lib.hid (f8.trans hu.out)
                clear f8 q8 C8
                go_wp2_with (go_at_call 17; refine (compare_any _ _ _ HXM.out hbW).mono ?_; rintro e w8' ⟨rfl, rfl⟩)
                go_roundw
                case rel => exact ⟨j + 1, u8', by omega, by go_num, P8, HF8, HO8⟩
                case measure => simp [intOf]; omega
              · rw [decide_eq_false hjt] at hat
                rw [hat] at hc
                have hle0 : (0 : Int) < cmpF x.1 b := of_decide_eq_true hc
                have hjt' : ¬ (j : Int) < (T.length : Int) := by omega
                clear hc hat
                go_wp2_with fail
                refine (qPop_any bP u' x _ k _ hp.q).mono ?_
                rintro e w8 ⟨rfl, C8, u8', q8, f8⟩
                have P8 : OwnQ w w8 bP u8' (M.drop (j + 1)) k := ⟨q8, hp.c.trans C8 (fun x hx => hx) (fun x hx hl => hp.none hx hl), hp.b1, by rw [f8]; exact hp.b2⟩
                have HO8 := Lib.hid (HC4.out _ C8)
                have HF8 := Lib.hid (f8.trans hu.out)
                clear f8 q8 C8
                go_wp2_with (go_at_call 17; refine (compare_any _ _ _ HXM.out hbW).mono ?_; rintro e w8' ⟨rfl, rfl⟩)
                go_roundw
                case rel => exact ⟨j + 1, u8', by omega, by go_num, P8, HF8, HO8⟩
                case measure => simp [intOf]; omega
          · go_wp2_with fail
            go_ret
            exact ⟨rfl, Chg.below (Below.refl _ _) hp.c (by simp) (Nat.le_refl _)⟩
end Go.Proofs.Ytaddnhdfdpaieaa
