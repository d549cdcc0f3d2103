/-
  ArenaCopies: the walk through the law.
-/
import Derived.Test.YtghefhhgckafdaaAreL
import Derived.Lib.MinMax
import Derived.Test.YtghefhhgckafdaaApp
namespace Go.Proofs.Ytghefhhgckafdaa
open Go.RowKit

/-- k cells of 77, and noughts behind them. -/
def toC (n k : Nat) : List Int := List.replicate k 77 ++ List.replicate (n - k) 0
theorem toC_length (n k : Nat) (h : k ≤ n) : (toC n k).length = n := by unfold toC; simp; omega
theorem toC_set (n k : Nat) (h : k < n) : ((toC n k).map (Value.int .u8)).toArray.setIfInBounds k (.int .u8 77) = ((toC n (k + 1)).map (Value.int .u8)).toArray := by
  rw [List.setIfInBounds_toArray, ← List.map_set]
  congr 2
  unfold toC
  rw [List.set_append_right _ _ (by simp)]
  simp only [List.length_replicate, Nat.sub_self]
  obtain ⟨d, hd⟩ : ∃ d, n - k = d + 1 := ⟨n - k - 1, by omega⟩
  rw [hd, List.replicate_succ, List.set_cons_zero, show n - (k + 1) = d by omega, List.replicate_succ']
  simp
theorem toC_done (n : Nat) : toC n n = List.replicate n 77 := by unfold toC; simp

theorem make_bytes8 (n : Nat) (h : n ≤ 255) (w : World) : (Instr.makeSlice 22 (.int .u8 (n : Int)) (.int .u8 (n : Int))).run Try.prog w =
    .ok (.slice (some ⟨w.heap.size, 0, none⟩) n n) (w.alloc (.cells ((toC n 0).map (Value.int .u8)).toArray 5)) := by
  have e : (cellsOf n []).toArray = ((toC n 0).map (Value.int .u8)).toArray := by unfold cellsOf toC; simp
  rw [← e, ← made_cells]
  exact Go.run_make_row' _ _ _ 1 Try.underlying22 infoU8 rfl _ _ n (by omega) (by omega) w

set_option maxHeartbeats 4000000 in
theorem copies_walk (a0 : Option Addr) (len cap : Nat) (zs : List Int) (n : Nat) (w : World) (hr : IsRow .u8 w a0 len cap zs) (hn : n ≤ 255) :
    Calls Try.prog 3 #[.slice a0 len cap, .int .u8 n] w fun e w' => e = .returned (.bool true) ∧ Below w.heap.size w w' := by
  obtain ⟨hlc, hcm, hzl⟩ := hr.le
  unfold maxLen at hcm
  obtain ⟨m, hm⟩ : ∃ m : Nat, m = min len 200 := ⟨_, rfl⟩
  have hm1 : m ≤ len := by omega
  have hm2 : m ≤ 200 := by omega
  have hm3 : min (len : Int) 200 = (m : Int) := by omega
  have hm4 : (m : Int) ≤ (cap : Int) := by omega
  have HM := Lib.hid hm
  clear hm
  have hsrc := Lib.hid (hr.src m (by omega) [] (by simp))
  have hnone := Lib.hid (show a0 = none → m = 0 ∧ cap = 0 by
    intro h
    rcases hr with ⟨_, h1, h2, _⟩ | ⟨x, hx, _⟩
    · exact ⟨by omega, h2⟩
    · rw [hx] at h; cases h)
  obtain ⟨i0, hi, hz0, hz1, hz2⟩ := info_parts infoU8
  obtain ⟨ys, hys⟩ : ∃ ys, ys = zs.take m := ⟨_, rfl⟩
  rw [← hys] at hsrc
  have HY := Lib.hid hys
  clear hys
  go_enter Try.func3, Try.ntmps3
  go_wp2_with fail
  refine (new_ok 200 _ (by omega) (by omega)).mono ?_
  rintro e w1 ⟨rfl, C1, A1⟩
  go_wp2_with fail
  refine (alive_any _).mono ?_
  rintro e w2 ⟨rfl, C2⟩
  have A2 := A1.chg C2 (by simp) (by simp)
  have hl2 := A2.lt
  have D2 : Chg [] w w2 := C1.trans C2 (by simp) (by simp)
  have hw2 := D2.size
  have S2 := Lib.hid ((hsrc.out.chg D2 (by simp)).chg ((Chg.refl [] w2).alloc (.cells #[] 5)) (by simp))
  have hget := Lib.hid (show ∀ ad, a0 = some ad → ∀ j u, (ys.map (Value.int .u8))[j]? = some u → (w2.alloc (.cells #[] 5)).cell? (ad.add j) = some u by
    intro ad had j u hu
    by_cases hm0 : 0 < m
    · obtain ⟨ad', e, _, hc⟩ := S2.out.2 hm0
      rw [had] at e; cases e
      exact hc j u hu
    · have := S2.out.1
      rw [List.getElem?_eq_none (by simp; omega)] at hu
      cases hu)
  clear C1 C2 A1
  go_wp2_with ((with_reducible show wpList _ _ _ (⟨some 36, _, _, _, _, _⟩ :: _) _ _); refine wpList_append_src rfl (.tmp 34) (.tmp 35) 22 rfl w2.heap.size 5 i0 (.int .u8 0) 1 1 Try.underlying22 hi hz0 hz1 hz2 rfl (by decide) (.slice (some ⟨w2.heap.size, 0, none⟩) 0 0) 0 [] rfl (owns_empty w2 _ _ (Nat.le_refl _)) _ m _ (ys.map (Value.int .u8)) rfl (by rw [List.length_map, hsrc.out.1, Nat.mul_one]) hnone.out hget.out (oneCell_u8 _) (by unfold maxLen; omega) (by omega) (by simp) (fun v3 w3 O3 C3 N3 => ?_))
  have hv3 := N3 (by simp)
  have C3' : Chg [w2.heap.size] (w2.alloc (.cells #[] 5)) w3 := C3
  have D3 : Chg [] w2 w3 := ((Chg.refl [] w2).alloc _).trans C3' (by simp) (by simp)
  obtain ⟨g, c3, cur, hvg, hg2, hgh, hgm, hgc, hgs, hgt⟩ : ∃ g cap cur, v3 = .slice (some ⟨g, 0, none⟩) m cap ∧ w2.heap.size ≤ g ∧ w3.heap[g]? = some (.cells cur 5 (0, 0)) ∧ m ≤ cap ∧ cap ≤ maxLen ∧ cur.size = cap ∧ cur.toList.take m = ys.map (Value.int .u8) := by
    rcases O3.2 with ⟨h, _⟩ | ⟨g, cap, cur, h1, h2, h3, h4, h5, h6, h7⟩
    · exact absurd h hv3
    · rw [Nat.zero_add] at h1 h4 h7
      exact ⟨g, cap, cur, h1, h2, h3, h4, h5, by omega, by simpa using h7⟩
  subst hvg
  have A3 := A2.chg D3 (by simp) (by simp)
  have S3 : SrcIs w3 (some ⟨g, 0, none⟩) m ys [w.heap.size + 1, w.heap.size] := by
    refine ⟨hsrc.out.1, fun _ => ⟨_, rfl, ?_, fun j u hu => ?_⟩⟩
    · simp; omega
    · rw [Addr.add_lit, Nat.zero_add, cell_of_heap hgh]
      rw [← hgt, List.getElem?_take] at hu
      split at hu
      · simpa using hu
      · cases hu
  have hnn : insE 200 0 0 m = 0 := by unfold insE; rw [if_neg (by omega), if_neg (by omega)]
  have hnl : insL 200 [] 0 ys = ys := by unfold insL; rw [hsrc.out.1]; show (if insE 200 0 0 m = 0 then _ else _) = _; rw [hnn]; simp
  clear O3 N3 C3 C3' hv3 hget S2
  refine (insert_any _ _ _ _ 0 _ _ _ ys _ A3 S3).mono ?_
  rintro e w4 ⟨rfl, C4, A4⟩
  rw [hnl] at A4
  have D4 : Chg [w.heap.size + 1, w.heap.size] w2 w4 := D3.trans C4 (by simp) (by intro x hx _; exact hx)
  have hgh4 := C4.heap hgh (by simp; omega)
  have hcur : ∀ j, j < m → ∃ x, cur[j]? = some (.int .u8 x) := by
    intro j hj
    have h1 := hsrc.out.1
    have : (cur.toList.take m)[j]? = some (.int .u8 (ys.getD j 0)) := by
      rw [hgt]; simp [List.getD, show j < ys.length by omega]
    rw [List.getElem?_take, if_pos hj] at this
    exact ⟨_, by simpa using this⟩
  have HC := Lib.hid hcur
  have HG4 := Lib.hid hgh4
  have HS3 := Lib.hid hgs
  clear hnl hgh hgt S3 A3 C4 hcur hgh4 D3 hgs
  go_wp2_with fail
  go_loopw [43, 8] (fun v _ wr => ∃ k : Nat, k ≤ m ∧ v = .int .i64 k ∧ Chg [g] w4 wr ∧ ∃ cu : Array Value, wr.heap[g]? = some (.cells cu 5 (0, 0)) ∧ ∀ j, j < m → ∃ x, cu[j]? = some (.int .u8 x)) (fun v _ _ => m - (intOf v).toNat)
  case atStart => exact ⟨0, Nat.zero_le _, rfl, Chg.refl _ _, cur, HG4.out, HC.out⟩
  case round =>
    obtain ⟨k, hk, rfl, C5, cu, hcu, hcx⟩ := hrel
    have HCU := Lib.hid hcu
    have HCX := Lib.hid hcx
    clear hcu hcx
    by_cases hlt : k < m
    · obtain ⟨x, hx⟩ := HCX.out k hlt
      have hc := (cell_of_heap HCU.out k).trans hx
      have hf := free_of_heap HCU.out k
      have HX := Lib.hid hx
      clear hx
      go_wp2_with fail
      go_roundw
      case rel =>
        refine ⟨k + 1, by omega, by go_num, C5.setCell (Or.inl (by simp)) _, _, setCell_heap _ HCU.out, fun j hj => ?_⟩
        by_cases hjk : j = k
        · subst hjk
          exact ⟨_, by rw [Array.getElem?_setIfInBounds_self_of_lt]; exact (Array.getElem?_eq_some_iff.1 HX.out).1⟩
        · obtain ⟨y, hy⟩ := HCX.out j hj
          exact ⟨y, by rw [Array.getElem?_setIfInBounds_ne (by omega)]; exact hy⟩
      case measure => simp [intOf]; omega
    · have A5 := A4.chg C5 (by simp; omega) (by simp; omega)
      have D5 : Chg [w.heap.size + 1, w.heap.size, g] w2 wr := D4.trans C5 (by simp) (by simp)
      clear HCU HCX C5 A4 D4 HC HG4
      obtain ⟨w5, rfl⟩ : ∃ wo : World, wo = wr := ⟨_, rfl⟩
      have hmk := make_bytes8 n hn
      have hA6 := A5.alloc (.cells ((toC n 0).map (Value.int .u8)).toArray 5)
      have hlr := A5.lt
      go_wp2_with fail
      go_loopw [57, 10] (fun v _ wq => ∃ k : Nat, k ≤ n ∧ v = .int .i64 k ∧ Chg [w5.heap.size] (w5.alloc (.cells ((toC n 0).map (Value.int .u8)).toArray 5)) wq ∧ wq.heap[w5.heap.size]? = some (.cells ((toC n k).map (Value.int .u8)).toArray 5 (0, 0))) (fun v _ _ => n - (intOf v).toNat)
      case atStart => exact ⟨0, Nat.zero_le _, rfl, Chg.refl _ _, alloc_heap w5 _⟩
      case round =>
        obtain ⟨k2, hk2, rfl, C6, hT⟩ := hrel
        by_cases hlt2 : k2 < n
        · have hc := cell_of_heap hT k2
          have hcv : ((toC n k2).map (Value.int .u8)).toArray[k2]? = some (.int .u8 0) := by
            unfold toC
            simp only [List.getElem?_toArray, List.getElem?_map]
            rw [List.getElem?_append_right (by simp), List.getElem?_replicate, if_pos (by simp; omega)]; rfl
          rw [hcv] at hc
          have hf := free_of_heap hT k2
          have HT := Lib.hid hT
          clear hT hcv
          go_wp2_with fail
          go_roundw
          case rel =>
            refine ⟨k2 + 1, by omega, by go_num, C6.setCell (Or.inl (by simp)) _, ?_⟩
            rw [setCell_heap _ HT.out, toC_set n k2 hlt2]
          case measure => simp [intOf]; omega
        · have hkn : k2 = n := by omega
          rw [hkn, toC_done] at hT
          have HT := Lib.hid hT
          have A6 := hA6.chg C6 (by simp; omega) (by simp; omega)
          have D6 : Chg [w.heap.size + 1, w.heap.size, g] w2 wr := (D5.alloc _).trans C6 (by intro x hx; exact hx) (by intro x hx h2; have h3 := D5.size; simp at hx; omega)
          have hb5 := D5.size
          clear hT C6 hkn
          go_wp2_with fail
          have hl77 : ((List.replicate n (77 : Int)).map (Value.int .u8)).length = n := by simp
          refine (copy_any _ _ _ ys w5.heap.size 0 n n _ _ _ A6 HT.out (by rw [hl77]; omega)).mono ?_
          rintro e w7 ⟨rfl, C7, HT7⟩
          obtain ⟨q, hq⟩ : ∃ q, q = min m n := ⟨_, rfl⟩
          have hysl : ys.length = m := hsrc.out.1
          have hsp : splice ((List.replicate n (77 : Int)).map (Value.int .u8)) 0 ((ys.take n).map (Value.int .u8)) = (ys.take n ++ List.replicate (n - q) 77).map (Value.int .u8) := by
            unfold splice; simp; omega
          rw [hsp] at HT7
          rw [hysl, ← hq]
          have A7 := A6.chg C7 (by simp; omega) (by simp; omega)
          have D7 : Chg [w.heap.size + 1, w.heap.size, g, w5.heap.size] w2 w7 := D6.trans C7 (by intro x hx; simp at hx ⊢; omega) (by intro x hx _; simp at hx ⊢; omega)
          have hq1 : q ≤ m := by omega
          have hq2 : q ≤ n := by omega
          have hq3 : min (m : Int) (n : Int) = (q : Int) := by omega
          have hq4 : (q : Int) ≤ (n : Int) := by omega
          have hq5 : (q : Int) ≤ (cap : Int) := by omega
          have htk : (ys.take n).length = q := by simp; omega
          have htk2 : (ys.take n ++ List.replicate (n - q) 77).length = n := by simp; omega
          have hst : SrcIs w7 (some ⟨w5.heap.size, 0, none⟩) q (ys.take q) [] := by
            refine ⟨by simp; omega, fun _ => ⟨_, rfl, by simp, fun j u hu => ?_⟩⟩
            rw [Addr.add_lit, Nat.zero_add, cell_of_heap HT7]
            simp only [List.getElem?_map, List.getElem?_take, Option.map_eq_some_iff] at hu
            obtain ⟨x, hx, rfl⟩ := hu
            split at hx
            · have hjl := (List.getElem?_eq_some_iff.1 hx).1
              simp only [List.getElem?_toArray, List.getElem?_map, List.getElem?_append, htk, show j < q by omega, if_true, List.getElem?_take, show j < n by omega, hx]
              rfl
            · cases hx
          have D72 : Chg [] w w7 := D2.trans D7 (by simp) (by intro x hx h2; simp at hx; omega)
          have hsb : ∀ q, q ≤ m → SrcIs w7 a0 q (ys.take q) [] := by
            intro q hq
            have h1 := hsrc.out.chg D72 (by simp)
            refine ⟨by simp; omega, fun h0 => ?_⟩
            obtain ⟨ad, e, h2, h3⟩ := h1.2 (by omega)
            refine ⟨ad, e, h2, fun j u hu => h3 j u ?_⟩
            simp only [List.getElem?_map, List.getElem?_take, Option.map_eq_some_iff] at hu ⊢
            obtain ⟨x, hx, rfl⟩ := hu
            split at hx
            · exact ⟨x, hx, rfl⟩
            · cases hx
          have c1 := fun k => conv_src (c := n) (hst.drewN k)
          have c2 := fun k => conv_src (c := cap) ((hsb q hq1).drewN k)
          have HT7' := Lib.hid HT7
          have HSB := Lib.hid hsb
          have HQ := Lib.hid hq
          have HTK := Lib.hid htk
          have HTK2 := Lib.hid htk2
          clear hmk hA6 hlr HT A6 D6 C7 HT7 hst hsb hq htk htk2 hsp hl77 hysl A5 D5 hm3 hnn
          go_wp2_with fail
          go_quiet (fail)
          have htake : ys.take m = ys := List.take_of_length_le (by rw [hsrc.out.1]; exact Nat.le_refl _)
          have c3 := fun k => conv_src (c := cap) (((HSB.out m (Nat.le_refl _)).drewN k).drewN 1)
          rw [htake] at c3
          have HTAKE := Lib.hid htake
          clear htake
          by_cases hnq : n = q
          · subst hnq
            go_wp2_with fail
            refine wp_loop_rounds 1 ?_
            rw [rounds_succ]
            go_wp2_with fail
            generalize hw8 : w7.drewN _ = w8
            have A8 : ArenaIs w8 (w.heap.size + 1) w.heap.size 200 ys := by rw [← hw8]; exact A7.drewN _
            have S8 : SrcIs w8 a0 m ys [] := by rw [← hw8, ← HTAKE.out]; exact (HSB.out m (Nat.le_refl _)).drewN _
            have D8 : Chg [] w w8 := by rw [← hw8]; exact D72.drewN _
            have c5 := conv_src (w := w8.drew) (c := cap) (S8.drewN 1)
            clear c1 c2 c3 A7 HT7' hw8
            go_region_with (go_at_call 13; refine (text_any _ _ _ _ _ A8.drew).mono ?_; rintro e w9 ⟨rfl, C9⟩; have c4 := conv_src (c := cap) ((S8.drewN 1).chg C9 (by simp)); have D9 : Chg [] w w9 := D8.drew.trans C9 (by simp) (by simp))
            all_goals
              go_wp2_with fail
              go_ret
              exact ⟨rfl, Chg.below (Below.refl _ _) D9 (by simp) (Nat.le_refl _)⟩
          · have hnq' : (q : Int) < (n : Int) := by omega
            go_wp2_with fail
            go_loop [97, 13] (fun v _ => ∃ k3 : Nat, k3 ≤ n - q ∧ v = .int .i64 k3) (fun v _ => (n - q) - (intOf v).toNat)
            case atStart => exact ⟨0, Nat.zero_le _, rfl⟩
            case round =>
              obtain ⟨k3, hk3, rfl⟩ := hrel
              by_cases hlt3 : k3 < n - q
              · have hc : w7.cell? ⟨w5.heap.size, q + k3, none⟩ = some (.int .u8 77) := by
                  rw [cell_of_heap HT7'.out]
                  simp only [List.getElem?_toArray, List.getElem?_map]
                  rw [List.getElem?_append_right (by rw [HTK.out]; omega), List.getElem?_replicate, HTK.out, if_pos (by omega)]; rfl
                go_wp2_with fail
                go_round
                case rel => exact ⟨k3 + 1, by omega, by go_num⟩
                case measure => simp [intOf]; omega
              · go_wp2_with fail
                generalize hw8 : w7.drewN _ = w8
                have A8 : ArenaIs w8 (w.heap.size + 1) w.heap.size 200 ys := by rw [← hw8]; exact A7.drewN _
                have S8 : SrcIs w8 a0 m ys [] := by rw [← hw8, ← HTAKE.out]; exact (HSB.out m (Nat.le_refl _)).drewN _
                have D8 : Chg [] w w8 := by rw [← hw8]; exact D72.drewN _
                have c5 := conv_src (w := w8.drew) (c := cap) (S8.drewN 1)
                clear c1 c2 c3 A7 HT7' hw8
                go_region_with (go_at_call 13; refine (text_any _ _ _ _ _ A8.drew).mono ?_; rintro e w9 ⟨rfl, C9⟩; have c4 := conv_src (c := cap) ((S8.drewN 1).chg C9 (by simp)); have D9 : Chg [] w w9 := D8.drew.trans C9 (by simp) (by simp))
                all_goals
                  go_wp2_with fail
                  go_ret
                  exact ⟨rfl, Chg.below (Below.refl _ _) D9 (by simp) (Nat.le_refl _)⟩

theorem copies_law (a0 : Option Addr) (len cap : Nat) (zs : List Int) (n : Int) (w : World) (hr : IsRow .u8 w a0 len cap zs) (hn : (Lit.int .u8 n).wf = true) :
    Calls Try.prog 3 #[.slice a0 len cap, .int .u8 n] w fun e w' => e = .returned (.bool true) ∧ Below w.heap.size w w' := by
  have h1 : 0 ≤ n ∧ n ≤ 255 := by simpa [Lit.wf, IntKind.min, IntKind.max, IntKind.bits, IntKind.signed] using hn
  obtain ⟨k, rfl⟩ := Int.eq_ofNat_of_zero_le h1.1
  exact copies_walk a0 len cap zs k w hr (by omega)
end Go.Proofs.Ytghefhhgckafdaa
