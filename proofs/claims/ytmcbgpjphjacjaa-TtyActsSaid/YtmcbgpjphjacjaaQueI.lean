/-
  container/heap over the queue's row: Pop.
-/
import Derived.Test.YtmcbgpjphjacjaaQueH
namespace Go.Proofs.Ytmcbgpjphjacjaa
set_option linter.unusedVariables false
open Go.RowKit

theorem RowAt.part {w : World} {g n : Nat} {H : List Ele} {cur : Array Value} (h : RowAt w g H cur) (hn : n ≤ H.length) : RowAt w g (H.take n) cur :=
  ⟨h.1, fun k hk => by
    rw [List.length_take] at hk
    have e : (H.take n).getD k default = H.getD k default := by simp only [List.getD_eq_getElem?_getD]; rw [List.getElem?_take, if_pos (by omega)]
    rw [e]; exact h.2 k (by omega)⟩

theorem take_getD {H : List Ele} {n k : Nat} (hk : k < n) : (H.take n).getD k default = H.getD k default := by
  simp only [List.getD_eq_getElem?_getD]; rw [List.getElem?_take, if_pos hk]

theorem take_last {H : List Ele} {n : Nat} (h : H.length = n + 1) : H.take n ++ [H.getD n default] = H := by
  apply List.ext_getElem?
  intro k
  rw [List.getElem?_append, List.length_take]
  by_cases hk : k < n
  · rw [if_pos (by omega), List.getElem?_take, if_pos hk]
  · rw [if_neg (by omega)]
    by_cases e : k = n
    · subst e
      rw [show k - min k H.length = 0 by omega]
      simp [List.getD_eq_getElem?_getD, List.getElem?_eq_getElem (show k < H.length by omega)]
    · rw [List.getElem?_eq_none (by simp; omega), List.getElem?_eq_none (by omega)]

def HPopPost (bQ g n c : Nat) (p : Value) (H : List Ele) (w : World) (e : Ending) (w' : World) : Prop :=
  e = .returned (.iface 139 (eleV (H.getD 0 default))) ∧ Chg [bQ, g] w w' ∧ w'.heap[bQ]? = some (.cells #[.slice (some ⟨g, 0, none⟩) n c, p] 133 (0, 0)) ∧
    ∃ H' cur', RowAt w' g H' cur' ∧ cur'.size = c * 3 ∧ H'.length = n ∧ (H' ++ [H.getD 0 default]).Perm H ∧ IsHeap oE H' n

set_option maxHeartbeats 1000000 in
theorem heapPop_any (bQ g n c : Nat) (H : List Ele) (cur : Array Value) (p : Value) (w : World) (hb : w.heap[bQ]? = some (.cells #[.slice (some ⟨g, 0, none⟩) (n + 1) c, p] 133 (0, 0))) (hne : bQ ≠ g)
    (h : RowAt w g H cur) (hs : cur.size = c * 3) (hl : H.length = n + 1) (hc : n + 1 ≤ c) (hm : c ≤ maxLen) (hh : IsHeap oE H H.length) (hok : ∀ y ∈ H, EleOk y) (hn : n ≤ 100000) :
    Calls Try.prog 69 #[.iface 137 (.pointer (some ⟨bQ, 0, none⟩))] w (HPopPost bQ g n c p H w) := by
  have hML := fun w' v h => method_Len ⟨bQ, 0, none⟩ v w' h
  have hMS := fun w' v h => method_Swap ⟨bQ, 0, none⟩ v w' h
  have hMP := method_Pop ⟨bQ, 0, none⟩
  have hc0 : w.cell? ⟨bQ, 0, none⟩ = some (.slice (some ⟨g, 0, none⟩) (n + 1) c) := by rw [cell_of_heap hb]; rfl
  have HB := Lib.hid hb
  have HL := Lib.hid hl
  have HS := Lib.hid hs
  clear hb hl hs
  go_enter Try.func69, Try.ntmps69
  go_wp2_with (go_at_call 92; refine (len_any _ _ _ _).mono ?_; rintro e w' ⟨rfl, rfl⟩)
  refine (swap_any g (n + 1) c H cur 0 n _ h HL.out (by omega) (by omega)).mono ?_
  rintro e w1 ⟨rfl, C1, cur1, R1, s1⟩
  have HB1 := Lib.hid (C1.heap HB.out (by simpa using hne))
  have HS1 := Lib.hid s1
  clear s1 hc0
  have hc1 : w1.cell? ⟨bQ, 0, none⟩ = some (.slice (some ⟨g, 0, none⟩) (n + 1) c) := by rw [cell_of_heap HB1.out]; rfl
  have l1 := Lib.hid (show (swapH H 0 n).length = n + 1 by rw [swapH_length]; exact HL.out)
  have p1 := Lib.hid (swapH_perm H 0 n (by rw [HL.out]; omega) (by rw [HL.out]; omega))
  have t1 := Lib.hid (show (swapH H 0 n).getD n default = H.getD 0 default by rw [swapH_get _ _ _ _ (by rw [HL.out]; omega) (by rw [HL.out]; omega), if_pos rfl])
  have HH := Lib.hid (down_start oE H n HL.out.symm (by have := hh; rwa [HL.out] at this))
  clear hh
  go_wp2_with fail
  refine (down_any bQ g (n + 1) c (swapH H 0 n) cur1 0 n p _ HB1.out hne R1 l1.out (by omega) HH.out (by omega) (fun y hy => hok y (p1.out.mem_iff.1 hy)) (by omega)).mono ?_
  rintro e w2 ⟨b, H2, cur2, rfl, C2, R2, s2, p2, i2, t2⟩
  have HB2 := Lib.hid (C2.heap HB1.out (by simpa using hne))
  have HS2 := Lib.hid s2
  have P2 := Lib.hid (p2.trans p1.out)
  have T2 := Lib.hid ((t2 n (Nat.le_refl _)).trans t1.out)
  have L2 := Lib.hid (show H2.length = n + 1 by rw [p2.length_eq]; exact l1.out)
  clear s2 hc1 p2 t2
  go_wp2_with fail
  refine (rowPop_any bQ g (n + 1) c H2 cur2 p _ HB2.out hne R2 L2.out (by omega) hc hm).mono ?_
  rintro e w3 ⟨rfl, C3, HB3⟩
  have HB3' := Lib.hid HB3
  clear HB3
  go_wp2_with fail
  go_ret
  refine ⟨(show Ending.returned (.iface 139 (eleV (H2[n]?.getD default))) = _ by rw [← List.getD_eq_getElem?_getD, T2.out]), ((C1.trans C2 (U := [bQ, g]) (by simp) (by simp)).trans C3 (by simp) (by simp)), HB3'.out, H2.take n, cur2, (R2.chg C3 (by simpa using Ne.symm hne)).part (by rw [L2.out]; omega), by rw [HS2.out, HS1.out, HS.out], by rw [List.length_take, L2.out]; omega, ?_, ?_⟩
  · rw [← T2.out, take_last L2.out]; exact P2.out
  · intro k k0 hk
    rw [take_getD (by omega), take_getD hk]
    exact i2 k k0 hk
end Go.Proofs.Ytmcbgpjphjacjaa
