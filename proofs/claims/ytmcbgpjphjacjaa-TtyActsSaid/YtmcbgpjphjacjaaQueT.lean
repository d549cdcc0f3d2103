/-
  container/heap over the queue's row: up.
-/
import Derived.Test.YtmcbgpjphjacjaaQueS
namespace Go.Proofs.Ytmcbgpjphjacjaa
set_option linter.unusedVariables false
open Go.RowKit

theorem RowAt.chg {w w' : World} {g : Nat} {H : List Ele} {cur : Array Value} {S : List Nat} (h : RowAt w g H cur) (c : Chg S w w') (hg : g ∉ S) : RowAt w' g H cur := ⟨c.heap h.1 hg, h.2⟩

theorem getD_ok {H : List Ele} (h : ∀ x ∈ H, EleOk x) {k : Nat} (hk : k < H.length) : EleOk (H.getD k default) := h _ (getD_mem H k hk)

set_option maxHeartbeats 2000000 in
theorem up_any (bQ g n c : Nat) (H : List Ele) (cur : Array Value) (j : Nat) (p : Value) (w : World) (hb : w.heap[bQ]? = some (.cells #[.slice (some ⟨g, 0, none⟩) n c, p] 133 (0, 0))) (hne : bQ ≠ g)
    (h : RowAt w g H cur) (hn : H.length = n) (hu : UpInv oE H n j) (hj : j < n) (hok : ∀ x ∈ H, EleOk x) (hbig : n ≤ 1000000) :
    Calls Try.prog 71 #[.iface 137 (.pointer (some ⟨bQ, 0, none⟩)), .int .i64 j] w fun e w' => e = .returned (.tuple #[]) ∧ Chg [g] w w' ∧ ∃ H' cur', RowAt w' g H' cur' ∧ cur'.size = cur.size ∧ H'.Perm H ∧ IsHeap oE H' n := by
  have hML := fun w' v h => method_Less ⟨bQ, 0, none⟩ v w' h
  have hMS := fun w' v h => method_Swap ⟨bQ, 0, none⟩ v w' h
  go_enter Try.func71, Try.ntmps71
  go_wp2_with fail
  go_loopw [1] (fun i wr => ∃ (k : Nat) (H1 : List Ele) (cur1 : Array Value), k < n ∧ i = .int .i64 k ∧ RowAt wr g H1 cur1 ∧ cur1.size = cur.size ∧ H1.Perm H ∧ UpInv oE H1 n k ∧ Chg [g] w wr) (fun i _ => (intOf i).toNat)
  case atStart => exact ⟨j, H, cur, hj, rfl, h, rfl, List.Perm.refl _, hu, Chg.refl _ _⟩
  case round =>
    obtain ⟨k, H1, cur1, hk, rfl, hr, hs, hp, hu1, hc⟩ := hrel
    have hl : H1.length = n := by rw [hp.length_eq]; exact hn
    have hc0 : wr.cell? ⟨bQ, 0, none⟩ = some (.slice (some ⟨g, 0, none⟩) n c) := by rw [cell_of_heap (hc.heap hb (by simpa using hne))]; rfl
    have HS := Lib.hid hs
    have HL := Lib.hid hl
    have HN := Lib.hid hn
    have HU := Lib.hid hu1
    have HP := Lib.hid hp
    clear hs hl hu1 hp hn hu hb
    by_cases h0 : k = 0
    · subst h0
      go_wp2_with fail
      go_end0
      exact ⟨rfl, hc, H1, cur1, hr, HS.out, HP.out, up_done _ _ _ _ HU.out (.inl rfl)⟩
    · have h1 : 1 ≤ k := by omega
      have hq : ((k : Int) - 1) / 2 = (((k - 1) / 2 : Nat) : Int) := by omega
      have hqn : (k - 1) / 2 < n := by omega
      have hqk : (k - 1) / 2 < k := by omega
      have hok1 : ∀ x ∈ H1, EleOk x := fun x hx => hok x (HP.out.mem_iff.1 hx)
      have x1 := getD_ok hok1 (k := k) (by rw [HL.out]; exact hk)
      have x2 := getD_ok hok1 (k := (k - 1) / 2) (by rw [HL.out]; exact hqn)
      by_cases hd : oE (H1.getD k default) < oE (H1.getD ((k - 1) / 2) default)
      · have hd' := Lib.hid (decide_eq_true hd)
        have HD := Lib.hid hd
        have HQ := Lib.hid hq
        clear hd hq
        go_wp2_with fail
        rw [HQ.out]
        refine (less_any g n c H1 k ((k - 1) / 2) _ hr.eles HL.out hk hqn x1 x2).mono ?_
        rintro e w1 ⟨rfl, C1⟩
        rw [hd'.out]
        have hc1 := C1.cell hc0 (by simp)
        have hr1 := hr.chg C1 (by simp)
        go_wp2_with fail
        refine (swap_any g n c H1 cur1 ((k - 1) / 2) k _ hr1 HL.out hqn hk).mono ?_
        rintro e w2 ⟨rfl, C2, cur2, hr2, hs2⟩
        have HS2 := Lib.hid hs2
        clear hs2
        go_wp2_with fail
        go_roundw
        case rel => exact ⟨(k - 1) / 2, swapH H1 ((k - 1) / 2) k, cur2, hqn, rfl, hr2, by rw [HS2.out, HS.out], (swapH_perm _ _ _ (by rw [HL.out]; exact hqn) (by rw [HL.out]; exact hk)).trans HP.out,
          by have := up_step oE H1 k (by rw [HL.out]; exact HU.out) (by rw [HL.out]; exact hk) (by omega) HD.out; rwa [HL.out] at this, (hc.trans C1 (U := [g]) (by simp) (by simp)).trans C2 (by simp) (by simp)⟩
        case measure => simp [intOf]; omega
      · have hd' := Lib.hid (decide_eq_false hd)
        have HD := Lib.hid hd
        have HQ := Lib.hid hq
        clear hd hq
        go_wp2_with fail
        rw [HQ.out]
        refine (less_any g n c H1 k ((k - 1) / 2) _ hr.eles HL.out hk hqn x1 x2).mono ?_
        rintro e w1 ⟨rfl, C1⟩
        rw [hd'.out]
        go_wp2_with fail
        go_end0
        exact ⟨rfl, hc.trans C1 (by simp) (by simp), H1, cur1, hr.chg C1 (by simp), HS.out, HP.out, up_done _ _ _ _ HU.out (.inr (by have := HD.out; omega))⟩
end Go.Proofs.Ytmcbgpjphjacjaa
