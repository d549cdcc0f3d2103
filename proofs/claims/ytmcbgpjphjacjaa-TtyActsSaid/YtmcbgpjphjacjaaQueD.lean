/-
  container/heap over the queue's row: down.
-/
import Derived.Test.YtmcbgpjphjacjaaQueT
namespace Go.Proofs.Ytmcbgpjphjacjaa
set_option linter.unusedVariables false
open Go.RowKit

/-- What 'down' leaves. -/
def DownPost (g n : Nat) (H : List Ele) (cur : Array Value) (w : World) (e : Ending) (w' : World) : Prop :=
  ∃ b H' cur', e = .returned (.bool b) ∧ Chg [g] w w' ∧ RowAt w' g H' cur' ∧ cur'.size = cur.size ∧ H'.Perm H ∧ IsHeap oE H' n ∧ ∀ k, n ≤ k → H'.getD k default = H.getD k default

set_option maxHeartbeats 8000000 in
theorem down_any (bQ g L c : Nat) (H : List Ele) (cur : Array Value) (i0 n : Nat) (p : Value) (w : World) (hb : w.heap[bQ]? = some (.cells #[.slice (some ⟨g, 0, none⟩) L c, p] 133 (0, 0))) (hne : bQ ≠ g)
    (h : RowAt w g H cur) (hn : H.length = L) (hnl : n ≤ L) (hu : DownInv oE H n i0) (hi0 : i0 ≤ n) (hok : ∀ x ∈ H, EleOk x) (hbig : L ≤ 1000000) :
    Calls Try.prog 72 #[.iface 137 (.pointer (some ⟨bQ, 0, none⟩)), .int .i64 i0, .int .i64 n] w (DownPost g n H cur w) := by
  have hML := fun w' v h => method_Less ⟨bQ, 0, none⟩ v w' h
  have hMS := fun w' v h => method_Swap ⟨bQ, 0, none⟩ v w' h
  go_enter Try.func72, Try.ntmps72
  go_wp2_with fail
  go_loopw [7] (fun i wr => ∃ (k : Nat) (H1 : List Ele) (cur1 : Array Value), k ≤ n ∧ i = .int .i64 k ∧ RowAt wr g H1 cur1 ∧ cur1.size = cur.size ∧ H1.Perm H ∧ DownInv oE H1 n k ∧ (∀ m, n ≤ m → H1.getD m default = H.getD m default) ∧ Chg [g] w wr) (fun i _ => n - (intOf i).toNat)
  case atStart => exact ⟨i0, H, cur, hi0, rfl, h, rfl, List.Perm.refl _, hu, fun _ _ => rfl, Chg.refl _ _⟩
  case round =>
    obtain ⟨i, H1, cur1, hi, rfl, hr, hs, hp, hu1, ht, hc⟩ := hrel
    have hl : H1.length = L := by rw [hp.length_eq]; exact hn
    have hc0 : wr.cell? ⟨bQ, 0, none⟩ = some (.slice (some ⟨g, 0, none⟩) L c) := by rw [cell_of_heap (hc.heap hb (by simpa using hne))]; rfl
    have HS := Lib.hid hs
    have HL := Lib.hid hl
    have HN := Lib.hid hn
    have HU := Lib.hid hu1
    have HP := Lib.hid hp
    have HT := Lib.hid ht
    clear hs hl hu1 hp hn hu hb ht
    by_cases hA : n ≤ 2 * i + 1
    · go_wp2_with fail
      go_ret
      exact ⟨_, H1, cur1, rfl, hc, hr, HS.out, HP.out, down_done _ _ _ _ HU.out (fun k h0 hk hp => by omega), HT.out⟩
    · have HQ1 := Lib.hid (show (2 : Int) * (i : Int) + 1 = ((2 * i + 1 : Nat) : Int) by omega)
      have HQ2 := Lib.hid (show (2 : Int) * (i : Int) + 1 + 1 = ((2 * i + 2 : Nat) : Int) by omega)
      have hok1 : ∀ x ∈ H1, EleOk x := fun x hx => hok x (HP.out.mem_iff.1 hx)
      have x0 := getD_ok hok1 (k := i) (by rw [HL.out]; omega)
      have x1 := getD_ok hok1 (k := 2 * i + 1) (by rw [HL.out]; omega)
      by_cases hB : 2 * i + 2 < n
      · have x2 := getD_ok hok1 (k := 2 * i + 2) (by rw [HL.out]; omega)
        clear hok1
        by_cases hs2 : oE (H1.getD (2 * i + 2) default) < oE (H1.getD (2 * i + 1) default)
        · have hmin := Lib.hid (show ∀ k, 0 < k → k < n → (k - 1) / 2 = i → oE (H1.getD (2 * i + 2) default) ≤ oE (H1.getD k default) from fun k h0 hk hp => by
            rcases (by omega : k = 2 * i + 1 ∨ k = 2 * i + 2) with h | h <;> subst h <;> omega)
          have hs' := Lib.hid (decide_eq_true hs2)
          clear hs2
          by_cases hd : oE (H1.getD (2 * i + 2) default) < oE (H1.getD i default)
          · have hd' := Lib.hid (decide_eq_true hd)
            have HD := Lib.hid hd
            clear hd
            go_wp2_with fail
            rw [HQ2.out, HQ1.out]
            refine (less_any g L c H1 (2 * i + 2) (2 * i + 1) _ hr.eles HL.out (by omega) (by omega) x2 x1).mono ?_
            rintro e w0 ⟨rfl, C0⟩
            rw [hs'.out]
            have hc0' := C0.cell hc0 (by simp)
            have hr0 := hr.chg C0 (by simp)
            have D0 : Chg [g] w w0 := hc.trans C0 (by simp) (by simp)
            go_wp2_with fail
            refine (less_any g L c H1 (2 * i + 2) i _ hr0.eles HL.out (by omega) (by omega) x2 x0).mono ?_
            rintro e w1 ⟨rfl, C1⟩
            rw [hd'.out]
            have hc1 := C1.cell hc0' (by simp)
            have hr1 := hr0.chg C1 (by simp)
            have D1 : Chg [g] w w1 := D0.trans C1 (by simp) (by simp)
            go_wp2_with fail
            refine (swap_any g L c H1 cur1 i (2 * i + 2) _ hr1 HL.out (by omega) (by omega)).mono ?_
            rintro e w2 ⟨rfl, C2, cur2, hr2, hs2⟩
            have HS2 := Lib.hid hs2
            clear hs2
            go_wp2_with fail
            go_roundw
            case rel => exact ⟨2 * i + 2, swapH H1 i (2 * i + 2), cur2, by omega, rfl, hr2, by rw [HS2.out, HS.out], (swapH_perm _ _ _ (by rw [HL.out]; omega) (by rw [HL.out]; omega)).trans HP.out, down_step oE H1 n i (2 * i + 2) HU.out (by rw [HL.out]; exact hnl) (by omega) (by omega) (by omega) (hmin.out) HD.out, fun k hk => by rw [swapH_get _ _ _ _ (by rw [HL.out]; omega) (by rw [HL.out]; omega), if_neg (by omega), if_neg (by omega)]; exact HT.out k hk, D1.trans C2 (by simp) (by simp)⟩
            case measure => simp [intOf]; omega
          · have hd' := Lib.hid (decide_eq_false hd)
            have HD := Lib.hid hd
            clear hd
            go_wp2_with fail
            rw [HQ2.out, HQ1.out]
            refine (less_any g L c H1 (2 * i + 2) (2 * i + 1) _ hr.eles HL.out (by omega) (by omega) x2 x1).mono ?_
            rintro e w0 ⟨rfl, C0⟩
            rw [hs'.out]
            have hc0' := C0.cell hc0 (by simp)
            have hr0 := hr.chg C0 (by simp)
            have D0 : Chg [g] w w0 := hc.trans C0 (by simp) (by simp)
            go_wp2_with fail
            refine (less_any g L c H1 (2 * i + 2) i _ hr0.eles HL.out (by omega) (by omega) x2 x0).mono ?_
            rintro e w1 ⟨rfl, C1⟩
            rw [hd'.out]
            have hc1 := C1.cell hc0' (by simp)
            have hr1 := hr0.chg C1 (by simp)
            have D1 : Chg [g] w w1 := D0.trans C1 (by simp) (by simp)
            go_wp2_with fail
            go_ret
            exact ⟨_, H1, cur1, rfl, D1, hr1, HS.out, HP.out, down_done _ _ _ _ HU.out (fun k h0 hk hp => by have h1 := hmin.out k h0 hk hp; have h2 := HD.out; omega), HT.out⟩
        · have hmin := Lib.hid (show ∀ k, 0 < k → k < n → (k - 1) / 2 = i → oE (H1.getD (2 * i + 1) default) ≤ oE (H1.getD k default) from fun k h0 hk hp => by
            rcases (by omega : k = 2 * i + 1 ∨ k = 2 * i + 2) with h | h <;> subst h <;> omega)
          have hs' := Lib.hid (decide_eq_false hs2)
          clear hs2
          by_cases hd : oE (H1.getD (2 * i + 1) default) < oE (H1.getD i default)
          · have hd' := Lib.hid (decide_eq_true hd)
            have HD := Lib.hid hd
            clear hd
            go_wp2_with fail
            rw [HQ2.out, HQ1.out]
            refine (less_any g L c H1 (2 * i + 2) (2 * i + 1) _ hr.eles HL.out (by omega) (by omega) x2 x1).mono ?_
            rintro e w0 ⟨rfl, C0⟩
            rw [hs'.out]
            have hc0' := C0.cell hc0 (by simp)
            have hr0 := hr.chg C0 (by simp)
            have D0 : Chg [g] w w0 := hc.trans C0 (by simp) (by simp)
            go_wp2_with fail
            refine (less_any g L c H1 (2 * i + 1) i _ hr0.eles HL.out (by omega) (by omega) x1 x0).mono ?_
            rintro e w1 ⟨rfl, C1⟩
            rw [hd'.out]
            have hc1 := C1.cell hc0' (by simp)
            have hr1 := hr0.chg C1 (by simp)
            have D1 : Chg [g] w w1 := D0.trans C1 (by simp) (by simp)
            go_wp2_with fail
            refine (swap_any g L c H1 cur1 i (2 * i + 1) _ hr1 HL.out (by omega) (by omega)).mono ?_
            rintro e w2 ⟨rfl, C2, cur2, hr2, hs2⟩
            have HS2 := Lib.hid hs2
            clear hs2
            go_wp2_with fail
            go_roundw
            case rel => exact ⟨2 * i + 1, swapH H1 i (2 * i + 1), cur2, by omega, rfl, hr2, by rw [HS2.out, HS.out], (swapH_perm _ _ _ (by rw [HL.out]; omega) (by rw [HL.out]; omega)).trans HP.out, down_step oE H1 n i (2 * i + 1) HU.out (by rw [HL.out]; exact hnl) (by omega) (by omega) (by omega) (hmin.out) HD.out, fun k hk => by rw [swapH_get _ _ _ _ (by rw [HL.out]; omega) (by rw [HL.out]; omega), if_neg (by omega), if_neg (by omega)]; exact HT.out k hk, D1.trans C2 (by simp) (by simp)⟩
            case measure => simp [intOf]; omega
          · have hd' := Lib.hid (decide_eq_false hd)
            have HD := Lib.hid hd
            clear hd
            go_wp2_with fail
            rw [HQ2.out, HQ1.out]
            refine (less_any g L c H1 (2 * i + 2) (2 * i + 1) _ hr.eles HL.out (by omega) (by omega) x2 x1).mono ?_
            rintro e w0 ⟨rfl, C0⟩
            rw [hs'.out]
            have hc0' := C0.cell hc0 (by simp)
            have hr0 := hr.chg C0 (by simp)
            have D0 : Chg [g] w w0 := hc.trans C0 (by simp) (by simp)
            go_wp2_with fail
            refine (less_any g L c H1 (2 * i + 1) i _ hr0.eles HL.out (by omega) (by omega) x1 x0).mono ?_
            rintro e w1 ⟨rfl, C1⟩
            rw [hd'.out]
            have hc1 := C1.cell hc0' (by simp)
            have hr1 := hr0.chg C1 (by simp)
            have D1 : Chg [g] w w1 := D0.trans C1 (by simp) (by simp)
            go_wp2_with fail
            go_ret
            exact ⟨_, H1, cur1, rfl, D1, hr1, HS.out, HP.out, down_done _ _ _ _ HU.out (fun k h0 hk hp => by have h1 := hmin.out k h0 hk hp; have h2 := HD.out; omega), HT.out⟩
      · clear hok1
        have hmin := Lib.hid (show ∀ k, 0 < k → k < n → (k - 1) / 2 = i → oE (H1.getD (2 * i + 1) default) ≤ oE (H1.getD k default) from fun k h0 hk hp => by
          obtain rfl : k = 2 * i + 1 := by omega
          exact Nat.le_refl _)
        by_cases hd : oE (H1.getD (2 * i + 1) default) < oE (H1.getD i default)
        · have hd' := Lib.hid (decide_eq_true hd)
          have HD := Lib.hid hd
          clear hd
          go_wp2_with fail
          rw [HQ1.out]
          have hc0' := hc0
          have hr0 := hr
          have D0 := hc
          refine (less_any g L c H1 (2 * i + 1) i _ hr0.eles HL.out (by omega) (by omega) x1 x0).mono ?_
          rintro e w1 ⟨rfl, C1⟩
          rw [hd'.out]
          have hc1 := C1.cell hc0' (by simp)
          have hr1 := hr0.chg C1 (by simp)
          have D1 : Chg [g] w w1 := D0.trans C1 (by simp) (by simp)
          go_wp2_with fail
          refine (swap_any g L c H1 cur1 i (2 * i + 1) _ hr1 HL.out (by omega) (by omega)).mono ?_
          rintro e w2 ⟨rfl, C2, cur2, hr2, hs2⟩
          have HS2 := Lib.hid hs2
          clear hs2
          go_wp2_with fail
          go_roundw
          case rel => exact ⟨2 * i + 1, swapH H1 i (2 * i + 1), cur2, by omega, rfl, hr2, by rw [HS2.out, HS.out], (swapH_perm _ _ _ (by rw [HL.out]; omega) (by rw [HL.out]; omega)).trans HP.out, down_step oE H1 n i (2 * i + 1) HU.out (by rw [HL.out]; exact hnl) (by omega) (by omega) (by omega) (hmin.out) HD.out, fun k hk => by rw [swapH_get _ _ _ _ (by rw [HL.out]; omega) (by rw [HL.out]; omega), if_neg (by omega), if_neg (by omega)]; exact HT.out k hk, D1.trans C2 (by simp) (by simp)⟩
          case measure => simp [intOf]; omega
        · have hd' := Lib.hid (decide_eq_false hd)
          have HD := Lib.hid hd
          clear hd
          go_wp2_with fail
          rw [HQ1.out]
          have hc0' := hc0
          have hr0 := hr
          have D0 := hc
          refine (less_any g L c H1 (2 * i + 1) i _ hr0.eles HL.out (by omega) (by omega) x1 x0).mono ?_
          rintro e w1 ⟨rfl, C1⟩
          rw [hd'.out]
          have hc1 := C1.cell hc0' (by simp)
          have hr1 := hr0.chg C1 (by simp)
          have D1 : Chg [g] w w1 := D0.trans C1 (by simp) (by simp)
          go_wp2_with fail
          go_ret
          exact ⟨_, H1, cur1, rfl, D1, hr1, HS.out, HP.out, down_done _ _ _ _ HU.out (fun k h0 hk hp => by have h1 := hmin.out k h0 hk hp; have h2 := HD.out; omega), HT.out⟩
end Go.Proofs.Ytmcbgpjphjacjaa
