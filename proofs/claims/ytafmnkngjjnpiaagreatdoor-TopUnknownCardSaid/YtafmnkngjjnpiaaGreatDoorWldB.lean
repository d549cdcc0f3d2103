import Derived.Test.YtafmnkngjjnpiaaGreatDoorWldA
import Derived.Test.YtafmnkngjjnpiaaGreatDoorQueD
import Derived.Test.YtafmnkngjjnpiaaGreatDoorQueA
namespace Go.Proofs.YtafmnkngjjnpiaaGreatDoor
set_option maxRecDepth 100000
set_option linter.unusedVariables false
open Go.RowKit
attribute [local go_sem] run_store_float'
abbrev eleV (x : Ele) : Value := .agg #[.float .f64 x.1, .int .i64 x.2.1, .int .i64 x.2.2]
set_option maxHeartbeats 1000000 in
theorem rowPop_any (bQ g n c : Nat) (H : List Ele) (cur : Array Value) (p : Value) (w : World) (hb : w.heap[bQ]? = some (.cells #[.slice (some ⟨g, 0, none⟩) n c, p] 241 (0, 0))) (hne : bQ ≠ g)
    (h : RowAt w g H cur) (hn : H.length = n) (h1 : 1 ≤ n) (hc : n ≤ c) (hbig : c ≤ maxLen) :
    Calls Tryz.prog 251 #[.pointer (some ⟨bQ, 0, none⟩)] w fun e w' => e = .returned (.iface 252 (eleV (H.getD (n - 1) default))) ∧ Chg [bQ] w w' ∧ w'.heap[bQ]? = some (.cells #[.slice (some ⟨g, 0, none⟩) (n - 1) c, p] 241 (0, 0)) := by
  obtain ⟨a0, a1, a2⟩ := h.eles (n - 1) (by omega)
  have hc0 : w.cell? ⟨bQ, 0, none⟩ = some (.slice (some ⟨g, 0, none⟩) n c) := by rw [cell_of_heap hb]; rfl
  have f0 := free_of_heap hb 0
  have hlt := heap_lt hb
  unfold maxLen at hbig
  generalize H.getD (n - 1) default = x at *
  go_enter Tryz.func251, Tryz.ntmps251
  go_wp2_with fail
  go_ret
  exact ⟨rfl, ((Chg.refl _ _).setCell (Or.inl (by simp)) _).alloc _, alloc_keeps (setCell_heap _ hb)⟩
theorem infoOne : (Tryz.prog.info? 252).map (fun i => (i.zero, i.size, i.bytes)) = some (some (.agg #[.float .f64 0, .int .i64 0, .int .i64 0]), 3, 24) := by kernel_rfl
def eleC (x : Ele) : List Value := [.float .f64 x.1, .int .i64 x.2.1, .int .i64 x.2.2]
theorem owns_pos {w : World} {base : Nat} {e : TypeId} {size : Nat} {v : Value} {n : Nat} {xs : List Value} (h : w.ownsRow base e size v (n + 1) xs) : ∃ g c, v = .slice (some ⟨g, 0, none⟩) (n + 1) c := by
  rcases h.2 with ⟨_, h0⟩ | ⟨g, cap, cur, e, _⟩
  · omega
  · exact ⟨g, cap, e⟩
theorem owns_set {w : World} {base : Nat} {e : TypeId} {size : Nat} {v : Value} {n : Nat} {xs : List Value} (h : w.ownsRow base e size v n xs) (b o : Nat) (u : Value) (hb : v.ownBlock ≠ some b) : (w.setCell ⟨b, o, none⟩ u).ownsRow base e size v n xs := by
  refine ⟨h.1, h.2.imp id ?_⟩
  rintro ⟨g, cap, cur, rfl, h1, h2, h3⟩
  exact ⟨g, cap, cur, rfl, h1, by rw [setCell_heap_ne _ (fun e => hb (by rw [← e]; rfl))]; exact h2, h3⟩
theorem push_end {w w1 w2 : World} {bQ : Nat} {v v2 p : Value} {n : Nat} {xs : List Value} (hb : w1.heap[bQ]? = some (.cells #[v, p] 241 (0, 0))) (hne : v.ownBlock ≠ some bQ) (hs : w1.heap.size = w.heap.size + 1) (hlt : bQ < w.heap.size)
    (C1 : Chg [] w w1) (C2 : Chg v.ownBlock.toList w1 w2) (O2 : w2.ownsRow 0 252 3 v2 n xs) (B2 : ∀ k, v2.ownBlock = some k → v.ownBlock = some k ∨ w1.heap.size ≤ k) :
    Chg (bQ :: v.ownBlock.toList) w (w2.setCell ⟨bQ, 0, none⟩ v2) ∧ ∃ v', (w2.setCell ⟨bQ, 0, none⟩ v2).heap[bQ]? = some (.cells #[v', p] 241 (0, 0)) ∧ (w2.setCell ⟨bQ, 0, none⟩ v2).ownsRow 0 252 3 v' n xs ∧ (∀ k, v'.ownBlock = some k → v.ownBlock = some k ∨ w.heap.size ≤ k) := by
  have hmem : bQ ∉ v.ownBlock.toList := fun hm => hne (by simpa [Option.mem_toList] using hm)
  refine ⟨(C1.trans C2 (U := bQ :: v.ownBlock.toList) (by simp) (fun x hx _ => List.mem_cons_of_mem _ hx)).setCell (Or.inl List.mem_cons_self) _, v2, setCell_heap _ (C2.heap hb hmem), owns_set O2 bQ 0 v2 ?_, fun k hk => (B2 k hk).imp id (fun h => by omega)⟩
  intro h
  rcases B2 bQ h with h1 | h1
  · exact hne h1
  · omega
set_option maxHeartbeats 1000000 in
theorem rowPush_any (bQ : Nat) (v : Value) (n : Nat) (xs : List Value) (p : Value) (x : Ele) (w : World) (hb : w.heap[bQ]? = some (.cells #[v, p] 241 (0, 0))) (hne : v.ownBlock ≠ some bQ)
    (h : w.ownsRow 0 252 3 v n xs) (hn : n ≤ 1000000) :
    Calls Tryz.prog 252 #[.pointer (some ⟨bQ, 0, none⟩), .iface 252 (eleV x)] w fun e w' => e = .returned (.tuple #[]) ∧ Chg (bQ :: v.ownBlock.toList) w w' ∧
      ∃ v', w'.heap[bQ]? = some (.cells #[v', p] 241 (0, 0)) ∧ w'.ownsRow 0 252 3 v' (n + 1) (xs ++ eleC x) ∧ (∀ k, v'.ownBlock = some k → v.ownBlock = some k ∨ w.heap.size ≤ k) := by
  have hc0 : w.cell? ⟨bQ, 0, none⟩ = some v := by rw [cell_of_heap hb]; rfl
  have f0 := free_of_heap hb 0
  have hlt := heap_lt hb
  have hta : ∀ (v : Value) (w : World), (Instr.typeAssert (.iface 252 v) 20 252 false).run Tryz.prog w = .ok v w := fun v w => by kernel_rfl
  obtain ⟨i0, hi, hz0, hz1, hz2⟩ := info_parts infoOne
  obtain ⟨w1, hw1⟩ : ∃ w1, w1 = (w.alloc (.cells #[.float .f64 x.1, .int .i64 x.2.1, .int .i64 x.2.2] 252)).drew := ⟨_, rfl⟩
  have O1 : w1.ownsRow 0 252 3 v n xs := by rw [hw1]; exact h.alloc _
  have C1 : Chg [] w w1 := by rw [hw1]; exact ((Chg.refl [] w).alloc _).drew
  have hB1 := Lib.hid (C1.heap hb (by simp))
  have hS1 := Lib.hid (show w1.heap.size = w.heap.size + 1 by rw [hw1]; simp)
  have hK := Lib.hid (show ∀ w', Chg v.ownBlock.toList w1 w' → w'.cell? ⟨bQ, 0, none⟩ = some v ∧ w'.frozen? ⟨bQ, 0, none⟩ = false from fun w' hc => by
    have hb' := hc.heap hB1.out (by intro hm; exact hne (by simpa [Option.mem_toList] using hm))
    exact ⟨by rw [cell_of_heap hb']; rfl, free_of_heap hb' 0⟩)
  have hnews : ∀ j u, (eleC x)[j]? = some u → w1.cell? ((⟨w.heap.size, 0, none⟩ : Addr).add j) = some u := by
    intro j u hu
    rw [Addr.add_lit, hw1]
    show (w.alloc _).cell? _ = _
    rw [cell_of_heap (alloc_heap w _), Nat.zero_add]
    simpa [eleC] using hu
  have hone : ∀ u ∈ eleC x, u.oneCell' = true := by intro u hu; simp [eleC] at hu; rcases hu with rfl | rfl | rfl <;> rfl
  have HB := Lib.hid hb
  have HN := Lib.hid hnews
  have HC := Lib.hid C1
  rw [hw1] at O1 hnews
  subst hw1
  have HE := Lib.hid hne
  clear hb hne h C1
  go_enter Tryz.func252, Tryz.ntmps252
  go_region_law
    (refine step_append_where rfl _ _ 239 (by rfl) 0 252 i0 (.agg #[.float .f64 0, .int .i64 0, .int .i64 0]) 3 24 Tryz.underlying239 hi hz0 hz1 hz2 rfl (by decide) v n xs (by rfl) O1 ⟨w.heap.size, 0, none⟩ 1 1 (eleC x) (by rfl) rfl hnews hone (by unfold maxLen; omega) (by omega) (Nat.zero_le _) ?_; intro v2 w2 O2 C2 B2; obtain ⟨r0, r1⟩ := hK.out _ C2; obtain ⟨g2, c2, rfl⟩ := owns_pos O2)
  all_goals (go_end0; exact ⟨rfl, push_end hB1.out HE.out hS1.out hlt HC.out C2 O2 B2⟩)
end Go.Proofs.YtafmnkngjjnpiaaGreatDoor

namespace Go.Proofs.YtafmnkngjjnpiaaGreatDoor
set_option maxRecDepth 100000
set_option linter.unusedVariables false
open Go.RowKit
def cellsE (H : List Ele) : List Value := H.flatMap eleC
theorem cellsE_length (H : List Ele) : (cellsE H).length = H.length * 3 := by
  induction H with
  | nil => rfl
  | cons x H ih => unfold cellsE at ih ⊢; rw [List.flatMap_cons, List.length_append, ih]; simp [eleC]; omega
theorem cellsE_append (H K : List Ele) : cellsE (H ++ K) = cellsE H ++ cellsE K := by unfold cellsE; rw [List.flatMap_append]
theorem cellsE_get (H : List Ele) : ∀ (k r : Nat), r < 3 → k < H.length → (cellsE H)[k * 3 + r]? = (eleC (H.getD k default))[r]? := by
  induction H with
  | nil => intro k r _ h; simp at h
  | cons x H ih =>
    intro k r hr hk
    have e : cellsE (x :: H) = eleC x ++ cellsE H := by unfold cellsE; rw [List.flatMap_cons]
    have hl : (eleC x).length = 3 := rfl
    rw [e]
    cases k with
    | zero => rw [List.getElem?_append_left (by rw [hl]; omega), Nat.zero_mul, Nat.zero_add]; rfl
    | succ k =>
      rw [List.getElem?_append_right (by rw [hl]; omega), hl, show (k + 1) * 3 + r - 3 = k * 3 + r by omega, ih k r hr (by simpa using hk)]
      simp
theorem RowAt.take {w : World} {g : Nat} {H : List Ele} {cur : Array Value} (h : RowAt w g H cur) (hs : H.length * 3 ≤ cur.size) : cur.toList.take (H.length * 3) = cellsE H := by
  apply List.ext_getElem?
  intro j
  by_cases hj : j < H.length * 3
  · rw [List.getElem?_take, if_pos hj]
    have hk : j / 3 < H.length := by omega
    have ej : j = j / 3 * 3 + j % 3 := by omega
    have h3 := h.2 (j / 3) hk
    rw [ej, cellsE_get H (j / 3) (j % 3) (by omega) hk, Array.getElem?_toList]
    rcases (by omega : j % 3 = 0 ∨ j % 3 = 1 ∨ j % 3 = 2) with e | e | e <;> rw [e]
    · rw [Nat.add_zero]; exact h3.1
    · exact h3.2.1
    · exact h3.2.2
  · rw [List.getElem?_eq_none (by rw [List.length_take]; omega), List.getElem?_eq_none (by rw [cellsE_length]; omega)]
theorem RowAt.owns {w : World} {g c : Nat} {H : List Ele} {cur : Array Value} (h : RowAt w g H cur) (hc : H.length ≤ c) (hm : c ≤ maxLen) (hs : cur.size = c * 3) :
    w.ownsRow 0 252 3 (.slice (some ⟨g, 0, none⟩) H.length c) H.length (cellsE H) :=
  ⟨cellsE_length H, .inr ⟨g, c, cur, rfl, Nat.zero_le _, h.1, hc, hm, hs, h.take (by rw [hs]; omega)⟩⟩
theorem owns_row {w : World} {v : Value} {H : List Ele} (h : w.ownsRow 0 252 3 v H.length (cellsE H)) :
    (v = .slice none 0 0 ∧ H = []) ∨ ∃ g c cur, v = .slice (some ⟨g, 0, none⟩) H.length c ∧ RowAt w g H cur ∧ H.length ≤ c ∧ c ≤ maxLen ∧ cur.size = c * 3 := by
  rcases h.2 with ⟨e, h0⟩ | ⟨g, c, cur, e, _, hh, h1, h2, h3, h4⟩
  · exact .inl ⟨e, List.eq_nil_of_length_eq_zero h0⟩
  · refine .inr ⟨g, c, cur, e, ⟨hh, fun k hk => ?_⟩, h1, h2, h3⟩
    have f : ∀ r, r < 3 → cur[k * 3 + r]? = (eleC (H.getD k default))[r]? := fun r hr => by
      rw [← cellsE_get H k r hr hk, ← h4, List.getElem?_take, if_pos (by omega), Array.getElem?_toList]
    exact ⟨f 0 (by omega), f 1 (by omega), f 2 (by omega)⟩
def HPushPost (bQ : Nat) (v p : Value) (H : List Ele) (x : Ele) (w : World) (e : Ending) (w' : World) : Prop :=
  e = .returned (.tuple #[]) ∧ Chg (bQ :: v.ownBlock.toList) w w' ∧ ∃ v' H', w'.heap[bQ]? = some (.cells #[v', p] 241 (0, 0)) ∧ w'.ownsRow 0 252 3 v' H'.length (cellsE H') ∧
    H'.Perm (H ++ [x]) ∧ IsHeap oE H' H'.length ∧ v'.ownBlock ≠ some bQ ∧ (∀ k, v'.ownBlock = some k → v.ownBlock = some k ∨ w.heap.size ≤ k)
set_option maxHeartbeats 1000000 in
theorem heapPush_any (bQ : Nat) (v : Value) (H : List Ele) (p : Value) (x : Ele) (w : World) (hb : w.heap[bQ]? = some (.cells #[v, p] 241 (0, 0))) (hne : v.ownBlock ≠ some bQ)
    (h : w.ownsRow 0 252 3 v H.length (cellsE H)) (hh : IsHeap oE H H.length) (hok : ∀ y ∈ H, EleOk y) (hx : EleOk x) (hn : H.length ≤ 100000) :
    Calls Tryz.prog 155 #[.iface 250 (.pointer (some ⟨bQ, 0, none⟩)), .iface 252 (eleV x)] w (HPushPost bQ v p H x w) := by
  have hMP := method_Push ⟨bQ, 0, none⟩
  have hML := fun w' v h => method_Len ⟨bQ, 0, none⟩ v w' h
  go_enter Tryz.func155, Tryz.ntmps155
  go_wp2_with fail
  refine (rowPush_any bQ v H.length (cellsE H) p x _ hb hne h (by omega)).mono ?_
  rintro e w1 ⟨rfl, C1, v1, hb1, O1, B1⟩
  have hc1 : w1.cell? ⟨bQ, 0, none⟩ = some v1 := by rw [cell_of_heap hb1]; rfl
  have O1' : w1.ownsRow 0 252 3 v1 (H ++ [x]).length (cellsE (H ++ [x])) := by rw [cellsE_append, List.length_append]; simpa [cellsE] using O1
  have hlt := heap_lt hb
  have hne1 : v1.ownBlock ≠ some bQ := fun e => (B1 bQ e).elim hne (by omega)
  obtain ⟨hv, h0⟩ | ⟨g, c, cur, rfl, R1, k1, k2, k3⟩ := owns_row O1'
  · simp at h0
  · have hl : (H ++ [x]).length = H.length + 1 := by simp
    have HL := Lib.hid hl
    rw [hl] at hc1 hb1 k1 B1 hne1
    have HB1 := Lib.hid hb1
    have HO := Lib.hid O1
    clear hl O1 hb1 O1'
    have hg : bQ ≠ g := fun e => hne1 (by rw [e]; rfl)
    go_wp2_with (go_at_call 241; refine (len_any _ _ _ _).mono ?_; rintro e w' ⟨rfl, rfl⟩)
    refine (up_any bQ g (H.length + 1) c (H ++ [x]) cur H.length p _ HB1.out hg R1 HL.out (up_start oE H x hh) (by omega) ?_ (by omega)).mono ?_
    · intro y hy
      rcases List.mem_append.1 hy with hy | hy
      · exact hok y hy
      · rw [List.mem_singleton.1 hy]; exact hx
    rintro e w2 ⟨rfl, C2, H2, cur2, R2, s2, P2, I2⟩
    go_wp2_with fail
    go_end0
    have hl2 : H2.length = H.length + 1 := by rw [P2.length_eq]; exact HL.out
    refine ⟨rfl, C1.trans C2 (by simp) ?_, _, H2, C2.heap HB1.out (by simpa using hg), ?_, P2, by rw [hl2]; exact I2, hne1, B1⟩
    · intro y hy hlt'
      rw [List.mem_singleton.1 hy] at hlt' ⊢
      rcases B1 g rfl with e | e
      · rw [e]; simp
      · omega
    · have := R2.owns (c := c) (by rw [hl2]; exact k1) k2 (by rw [s2]; exact k3)
      rwa [hl2] at this ⊢
end Go.Proofs.YtafmnkngjjnpiaaGreatDoor

namespace Go.Proofs.YtafmnkngjjnpiaaGreatDoor
set_option maxRecDepth 100000
set_option linter.unusedVariables false
open Go.RowKit
theorem RowAt.part {w : World} {g n : Nat} {H : List Ele} {cur : Array Value} (h : RowAt w g H cur) (hn : n ≤ H.length) : RowAt w g (H.take n) cur :=
  ⟨h.1, fun k hk => by
    rw [List.length_take] at hk
    have e : (H.take n).getD k default = H.getD k default := by simp only [List.getD_eq_getElem?_getD]; rw [List.getElem?_take, if_pos (by omega)]
    rw [e]; exact h.2 k (by omega)⟩
theorem take_getD {H : List Ele} {n k : Nat} (hk : k < n) : (H.take n).getD k default = H.getD k default := by
  simp only [List.getD_eq_getElem?_getD]; rw [List.getElem?_take, if_pos hk]
theorem take_last {H : List Ele} {n : Nat} (h : H.length = n + 1) : H.take n ++ [H.getD n default] = H := by
  apply List.ext_getElem?
  intro k
  rw [List.getElem?_append, List.length_take]
  by_cases hk : k < n
  · rw [if_pos (by omega), List.getElem?_take, if_pos hk]
  · rw [if_neg (by omega)]
    by_cases e : k = n
    · subst e
      rw [show k - min k H.length = 0 by omega]
      simp [List.getD_eq_getElem?_getD, List.getElem?_eq_getElem (show k < H.length by omega)]
    · rw [List.getElem?_eq_none (by simp; omega), List.getElem?_eq_none (by omega)]
def HPopPost (bQ g n c : Nat) (p : Value) (H : List Ele) (w : World) (e : Ending) (w' : World) : Prop :=
  e = .returned (.iface 252 (eleV (H.getD 0 default))) ∧ Chg [bQ, g] w w' ∧ w'.heap[bQ]? = some (.cells #[.slice (some ⟨g, 0, none⟩) n c, p] 241 (0, 0)) ∧
    ∃ H' cur', RowAt w' g H' cur' ∧ cur'.size = c * 3 ∧ H'.length = n ∧ (H' ++ [H.getD 0 default]).Perm H ∧ IsHeap oE H' n
set_option maxHeartbeats 1000000 in
theorem heapPop_any (bQ g n c : Nat) (H : List Ele) (cur : Array Value) (p : Value) (w : World) (hb : w.heap[bQ]? = some (.cells #[.slice (some ⟨g, 0, none⟩) (n + 1) c, p] 241 (0, 0))) (hne : bQ ≠ g)
    (h : RowAt w g H cur) (hs : cur.size = c * 3) (hl : H.length = n + 1) (hc : n + 1 ≤ c) (hm : c ≤ maxLen) (hh : IsHeap oE H H.length) (hok : ∀ y ∈ H, EleOk y) (hn : n ≤ 100000) :
    Calls Tryz.prog 212 #[.iface 250 (.pointer (some ⟨bQ, 0, none⟩))] w (HPopPost bQ g n c p H w) := by
  have hML := fun w' v h => method_Len ⟨bQ, 0, none⟩ v w' h
  have hMS := fun w' v h => method_Swap ⟨bQ, 0, none⟩ v w' h
  have hMP := method_Pop ⟨bQ, 0, none⟩
  have hc0 : w.cell? ⟨bQ, 0, none⟩ = some (.slice (some ⟨g, 0, none⟩) (n + 1) c) := by rw [cell_of_heap hb]; rfl
  have HB := Lib.hid hb
  have HL := Lib.hid hl
  have HS := Lib.hid hs
  clear hb hl hs
  go_enter Tryz.func212, Tryz.ntmps212
  go_wp2_with (go_at_call 241; refine (len_any _ _ _ _).mono ?_; rintro e w' ⟨rfl, rfl⟩)
  refine (swap_any g (n + 1) c H cur 0 n _ h HL.out (by omega) (by omega)).mono ?_
  rintro e w1 ⟨rfl, C1, cur1, R1, s1⟩
  have HB1 := Lib.hid (C1.heap HB.out (by simpa using hne))
  have HS1 := Lib.hid s1
  clear s1 hc0
  have hc1 : w1.cell? ⟨bQ, 0, none⟩ = some (.slice (some ⟨g, 0, none⟩) (n + 1) c) := by rw [cell_of_heap HB1.out]; rfl
  have l1 := Lib.hid (show (swapH H 0 n).length = n + 1 by rw [swapH_length]; exact HL.out)
  have p1 := Lib.hid (swapH_perm H 0 n (by rw [HL.out]; omega) (by rw [HL.out]; omega))
  have t1 := Lib.hid (show (swapH H 0 n).getD n default = H.getD 0 default by rw [swapH_get _ _ _ _ (by rw [HL.out]; omega) (by rw [HL.out]; omega), if_pos rfl])
  have HH := Lib.hid (down_start oE H n HL.out.symm (by have := hh; rwa [HL.out] at this))
  clear hh
  go_wp2_with fail
  refine (down_any bQ g (n + 1) c (swapH H 0 n) cur1 0 n p _ HB1.out hne R1 l1.out (by omega) HH.out (by omega) (fun y hy => hok y (p1.out.mem_iff.1 hy)) (by omega)).mono ?_
  rintro e w2 ⟨b, H2, cur2, rfl, C2, R2, s2, p2, i2, t2⟩
  have HB2 := Lib.hid (C2.heap HB1.out (by simpa using hne))
  have HS2 := Lib.hid s2
  have P2 := Lib.hid (p2.trans p1.out)
  have T2 := Lib.hid ((t2 n (Nat.le_refl _)).trans t1.out)
  have L2 := Lib.hid (show H2.length = n + 1 by rw [p2.length_eq]; exact l1.out)
  clear s2 hc1 p2 t2
  go_wp2_with fail
  refine (rowPop_any bQ g (n + 1) c H2 cur2 p _ HB2.out hne R2 L2.out (by omega) hc hm).mono ?_
  rintro e w3 ⟨rfl, C3, HB3⟩
  have HB3' := Lib.hid HB3
  clear HB3
  go_wp2_with fail
  go_ret
  refine ⟨(show Ending.returned (.iface 252 (eleV (H2[n]?.getD default))) = _ by rw [← List.getD_eq_getElem?_getD, T2.out]), ((C1.trans C2 (U := [bQ, g]) (by simp) (by simp)).trans C3 (by simp) (by simp)), HB3'.out, H2.take n, cur2, (R2.chg C3 (by simpa using Ne.symm hne)).part (by rw [L2.out]; omega), by rw [HS2.out, HS1.out, HS.out], by rw [List.length_take, L2.out]; omega, ?_, ?_⟩
  · rw [← T2.out, take_last L2.out]; exact P2.out
  · intro k k0 hk
    rw [take_getD (by omega), take_getD hk]
    exact i2 k k0 hk
end Go.Proofs.YtafmnkngjjnpiaaGreatDoor

namespace Go.Proofs.YtafmnkngjjnpiaaGreatDoor
set_option linter.unusedVariables false
set_option maxRecDepth 100000
open Go.RowKit
structure QueIs (w : World) (bQ : Nat) (v : Value) (M : List Ele) (p : Nat) : Prop where
  hQ : w.heap[bQ]? = some (.cells #[v, .int .i64 (p : Nat)] 241 (0, 0))
  row : ∃ H, w.ownsRow 0 252 3 v H.length (cellsE H) ∧ Stands oE H M
  ne : v.ownBlock ≠ some bQ
  ok : ∀ x ∈ M, Wd x.1 ∧ 0 ≤ x.2.2 ∧ x.2.2 < (p : Int)
  most : M.length ≤ 4096
  pb : p ≤ 1000000
theorem QueIs.chg {w w' : World} {bQ : Nat} {v : Value} {M : List Ele} {p : Nat} {S : List Nat} (h : QueIs w bQ v M p) (c : Chg S w w') (hb : bQ ∉ S) (hv : ∀ k, v.ownBlock = some k → k ∉ S) : QueIs w' bQ v M p := by
  obtain ⟨H, ho, hs⟩ := h.row
  refine ⟨c.heap h.hQ hb, ⟨H, ⟨ho.1, ho.2.imp id ?_⟩, hs⟩, h.ne, h.ok, h.most, h.pb⟩
  rintro ⟨g, cap, cur, rfl, h1, h2, h3⟩
  exact ⟨g, cap, cur, rfl, h1, c.heap h2 (hv g rfl), h3⟩
theorem owns_slice {w : World} {base : Nat} {e : TypeId} {size : Nat} {v : Value} {n : Nat} {xs : List Value} (h : w.ownsRow base e size v n xs) : ∃ ao c, v = .slice ao n c := by
  rcases h.2 with ⟨rfl, rfl⟩ | ⟨g, cap, cur, rfl, _⟩
  · exact ⟨none, 0, rfl⟩
  · exact ⟨_, _, rfl⟩
theorem QueIs.slice {w : World} {bQ : Nat} {v : Value} {M : List Ele} {p : Nat} (h : QueIs w bQ v M p) : ∃ ao c, v = .slice ao M.length c := by
  obtain ⟨H, ho, hs⟩ := h.row
  rw [hs.len]; exact owns_slice ho
theorem QueIs.cell0 {w : World} {bQ : Nat} {v : Value} {M : List Ele} {p : Nat} (h : QueIs w bQ v M p) : w.cell? ⟨bQ, 0, none⟩ = some v := by rw [cell_of_heap h.hQ]; rfl
theorem QueIs.cell1 {w : World} {bQ : Nat} {v : Value} {M : List Ele} {p : Nat} (h : QueIs w bQ v M p) : w.cell? ⟨bQ, 1, none⟩ = some (.int .i64 (p : Nat)) := by rw [cell_of_heap h.hQ]; rfl
theorem QueIs.lt {w : World} {bQ : Nat} {v : Value} {M : List Ele} {p : Nat} (h : QueIs w bQ v M p) : bQ < w.heap.size := heap_lt h.hQ
theorem QueIs.lt2 {w : World} {bQ : Nat} {v : Value} {M : List Ele} {p : Nat} (h : QueIs w bQ v M p) : ∀ k, v.ownBlock = some k → k < w.heap.size := by
  obtain ⟨H, ho, hs⟩ := h.row
  exact fun k hk => (ho.lt k hk).2
set_option maxHeartbeats 1000000 in
theorem qNew_any (w : World) :
    Calls Tryz.prog 124 #[] w fun e w' => e = .returned (.pointer (some ⟨w.heap.size, 0, none⟩)) ∧ Chg [] w w' ∧ QueIs w' w.heap.size (.slice none 0 0) [] 0 := by
  go_enter Tryz.func124, Tryz.ntmps124
  go_wp2_with fail
  go_ret
  refine ⟨rfl, (Chg.refl _ _).alloc _, ⟨alloc_heap w _, ⟨[], World.ownsRow_nil _ _ _ _, ⟨fun k _ hk => by simp at hk, List.Pairwise.nil, List.Perm.refl _⟩⟩, by simp [Value.ownBlock], by simp, by simp, by omega⟩⟩
def QPushPost (bQ : Nat) (v : Value) (M : List Ele) (p : Nat) (x : Ele) (w : World) (e : Ending) (w' : World) : Prop :=
  e = .returned (.int .i64 0) ∧ Chg (bQ :: v.ownBlock.toList) w w' ∧ ∃ v', QueIs w' bQ v' (insQ oE M x) (p + 1) ∧ (∀ k, v'.ownBlock = some k → v.ownBlock = some k ∨ w.heap.size ≤ k)
set_option maxHeartbeats 2000000 in
theorem qPush_any (bQ : Nat) (v : Value) (M : List Ele) (p : Nat) (b : Nat) (n : Int) (w : World) (h : QueIs w bQ v M p) (hf : M.length < 4096) (hb : Wd b) (hp : p < 1000000) :
    Calls Tryz.prog 127 #[.pointer (some ⟨bQ, 0, none⟩), .float .f64 b, .int .i64 n] w (QPushPost bQ v M p (b, n, (p : Int)) w) := by
  obtain ⟨ao, c, rfl⟩ := h.slice
  have h0 := h.cell0
  have h1 := h.cell1
  have hf' : ¬ (4096 : Int) ≤ (M.length : Int) := by omega
  go_enter Tryz.func127, Tryz.ntmps127
  go_wp2_with fail
  refine wp_region_tail 12 (by kernel_rfl) (by kernel_rfl) ?_
  simp only [List.take_succ_cons, List.take_zero, List.drop_succ_cons, List.drop_zero]
  repeat still_step
  refine wpStill_nil ?_
  obtain ⟨H, ho, hs⟩ := h.row
  have hl := hs.len
  rw [hl] at ho
  have ho' : w.drew.ownsRow 0 252 3 (.slice ao M.length c) H.length (cellsE H) := by rw [← hl]; exact (show w.ownsRow _ _ _ _ _ _ from by rw [hl]; exact ho)
  have hQ := Lib.hid h.hQ
  have HL := Lib.hid hl
  have HH := Lib.hid h
  have HS := Lib.hid hs
  have hokM := h.ok
  have hpb := h.pb
  have hok : ∀ y ∈ H, EleOk y := fun y hy => by
    obtain ⟨k1, k2, k3⟩ := hokM y (hs.perm.mem_iff.2 hy)
    exact ⟨k1, k2, by omega⟩
  have hne := h.ne
  have hlt := h.lt
  clear h0 h1 h ho hl hs hokM
  go_wp2_with fail
  refine (heapPush_any bQ _ H _ (b, n, (p : Int)) _ (show w.drew.heap[bQ]? = _ from hQ.out) hne ho' HS.out.heap hok ⟨hb, (by show (0 : Int) ≤ (p : Int); omega), (by show (p : Int) < _; omega)⟩ (by have := HL.out; omega)).mono ?_
  rintro e w1 ⟨rfl, C1, v1, H1, hb1, O1, P1, I1, N1, B1⟩
  have k1 : w1.cell? ⟨bQ, 1, none⟩ = some (.int .i64 (p : Nat)) := by rw [cell_of_heap hb1]; rfl
  have f1 := free_of_heap hb1 1
  have HB1 := Lib.hid hb1
  have HO1 := Lib.hid O1
  clear hb1 O1 hQ ho' hok
  have C1' := C1.of_drew
  go_wp2_with fail
  go_ret
  refine ⟨rfl, C1'.setCell (Or.inl List.mem_cons_self) _, v1, ⟨?_, ⟨H1, owns_set HO1.out bQ 1 _ N1, ?_⟩, N1, ?_, ?_, by omega⟩, B1⟩
  · rw [setCell_heap _ HB1.out]; rfl
  · refine HS.out.push P1 I1 (fun y hy e => ?_)
    obtain ⟨_, k2, k3⟩ := HH.out.ok y hy
    unfold oE at e
    simp only [Int.toNat_natCast] at e
    omega
  · intro y hy
    rcases List.mem_append.1 ((insQ_perm oE M _).mem_iff.1 hy) with hy | hy
    · obtain ⟨k1, k2, k3⟩ := HH.out.ok y hy
      exact ⟨k1, k2, by omega⟩
    · rw [List.mem_singleton.1 hy]; exact ⟨hb, (by show (0 : Int) ≤ (p : Int); omega), by show (p : Int) < _; omega⟩
  · rw [(insQ_perm oE M _).length_eq]; simp; omega
end Go.Proofs.YtafmnkngjjnpiaaGreatDoor

namespace Go.Proofs.YtafmnkngjjnpiaaGreatDoor
set_option linter.unusedVariables false
set_option maxRecDepth 100000
open Go.RowKit
attribute [local go_sem] run_store_float'
theorem QueIs.top {w : World} {bQ : Nat} {v : Value} {x : Ele} {M : List Ele} {p : Nat} (h : QueIs w bQ v (x :: M) p) :
    ∃ g c H cur, v = .slice (some ⟨g, 0, none⟩) (M.length + 1) c ∧ RowAt w g H cur ∧ H.length = M.length + 1 ∧ M.length + 1 ≤ c ∧ c ≤ maxLen ∧ cur.size = c * 3 ∧ Stands oE H (x :: M) ∧ H.getD 0 default = x ∧ bQ ≠ g := by
  obtain ⟨H, ho, hs⟩ := h.row
  have hl : H.length = M.length + 1 := by rw [← hs.len]; rfl
  obtain ⟨_, h0⟩ | ⟨g, c, cur, rfl, R, k1, k2, k3⟩ := owns_row ho
  · rw [h0] at hl; simp at hl
  · exact ⟨g, c, H, cur, by rw [hl], R, hl, by omega, k2, k3, hs, hs.top, fun e => h.ne (by rw [e]; rfl)⟩
set_option maxHeartbeats 1000000 in
theorem qPeek_none (bQ : Nat) (v : Value) (p : Nat) (w : World) (h : QueIs w bQ v [] p) :
    Calls Tryz.prog 203 #[.pointer (some ⟨bQ, 0, none⟩)] w fun e w' => e = .returned (.tuple #[.float .f64 0, .int .i64 0, .int .i64 6]) ∧ w = w' := by
  obtain ⟨ao, c, rfl⟩ := h.slice
  have h0 := h.cell0
  clear h
  go_enter Tryz.func203, Tryz.ntmps203
  go_wp2_with fail
  go_ret3
  exact ⟨rfl, rfl⟩
set_option maxHeartbeats 1000000 in
theorem qPeek_any (bQ : Nat) (v : Value) (x : Ele) (M : List Ele) (p : Nat) (w : World) (h : QueIs w bQ v (x :: M) p) :
    Calls Tryz.prog 203 #[.pointer (some ⟨bQ, 0, none⟩)] w fun e w' => e = .returned (.tuple #[.float .f64 x.1, .int .i64 x.2.1, .int .i64 0]) ∧ Chg [] w w' := by
  obtain ⟨g, c, H, cur, rfl, R, hl, k1, k2, k3, hs, ht, hne⟩ := h.top
  have h0 := h.cell0
  obtain ⟨a0, a1, a2⟩ := R.eles 0 (by omega)
  rw [ht] at a0 a1 a2
  rw [Nat.zero_mul] at a0 a1 a2
  rw [Nat.zero_add] at a1 a2
  have hM : ¬ ((M.length : Int) + 1 = 0) := by omega
  have hM2 : (0 : Int) < (M.length : Int) + 1 := by omega
  clear h R hl k1 k2 k3 hs ht
  go_enter Tryz.func203, Tryz.ntmps203
  go_wp2_with fail
  go_quiet (fail)
  go_wp2_with fail
  go_ret3
  exact ⟨rfl, (Chg.refl _ _).drewN _⟩
def QPopPost (bQ : Nat) (v : Value) (x : Ele) (M : List Ele) (p : Nat) (w : World) (e : Ending) (w' : World) : Prop :=
  e = .returned (.tuple #[.float .f64 x.1, .int .i64 x.2.1, .int .i64 0]) ∧ Chg (bQ :: v.ownBlock.toList) w w' ∧ ∃ v', QueIs w' bQ v' M p ∧ v'.ownBlock = v.ownBlock
set_option maxHeartbeats 2000000 in
theorem qPop_any (bQ : Nat) (v : Value) (x : Ele) (M : List Ele) (p : Nat) (w : World) (h : QueIs w bQ v (x :: M) p) :
    Calls Tryz.prog 204 #[.pointer (some ⟨bQ, 0, none⟩)] w (QPopPost bQ v x M p w) := by
  go_enter Tryz.func204, Tryz.ntmps204
  go_wp2_with fail
  refine (qPeek_any bQ v x M p _ h).mono ?_
  rintro e w1 ⟨rfl, C1⟩
  have h1 := h.chg C1 (by simp) (by simp)
  obtain ⟨g, c, H, cur, rfl, R, hl, k1, k2, k3, hs, ht, hne⟩ := h1.top
  have hm := h.most
  have HH := Lib.hid h1
  have HL := Lib.hid hl
  have HS := Lib.hid hs
  have HT := Lib.hid ht
  have H3 := Lib.hid k3
  have hok : ∀ y ∈ H, EleOk y := fun y hy => by
    obtain ⟨k1, k2, k3⟩ := h1.ok y (hs.perm.mem_iff.2 hy)
    have := h1.pb
    exact ⟨k1, k2, by omega⟩
  clear h h1 hl hs ht k3
  go_wp2_with fail
  refine (heapPop_any bQ g M.length c H cur _ _ HH.out.hQ hne R H3.out HL.out k1 k2 HS.out.heap hok (by simp at hm; omega)).mono ?_
  rintro e w2 ⟨rfl, C2, hb2, H2, cur2, R2, s2, l2, P2, I2⟩
  rw [HT.out] at P2
  have HT' := HT.out
  have hlt := heap_lt hb2
  have HB := Lib.hid hb2
  have HS2 := Lib.hid s2
  have HL2 := Lib.hid l2
  clear hb2 s2 l2 HT'
  rw [HT.out]
  have hta : ∀ (v : Value) (w : World), (Instr.typeAssert (.iface 252 v) 20 252 false).run Tryz.prog w = .ok v w := fun v w => by kernel_rfl
  go_wp2_with fail
  go_quiet (fail)
  go_wp2_with fail
  have Q2 : QueIs w2 bQ (.slice (some ⟨g, 0, none⟩) M.length c) M p := by
    refine ⟨HB.out, ⟨H2, ?_, HS.out.pop P2 (by rw [HL2.out]; exact I2)⟩, fun e => hne (by cases e; rfl), fun y hy => HH.out.ok y (List.mem_cons_of_mem _ hy), by simp at hm; omega, HH.out.pb⟩
    have := R2.owns (c := c) (by rw [HL2.out]; omega) k2 HS2.out
    rwa [HL2.out] at this ⊢
  go_ret3
  have C3 : ∀ o n, Chg [] w2 ((w2.alloc o).drewN n) := fun o n => ((Chg.refl [] w2).alloc o).drewN n
  exact ⟨rfl, (C1.trans C2 (by simp) (fun x hx _ => by simpa [Value.ownBlock] using hx)).trans (C3 _ _) (fun x hx => hx) (by simp), _, Q2.chg (C3 _ _) (by simp) (by simp), rfl⟩
end Go.Proofs.YtafmnkngjjnpiaaGreatDoor

namespace Go.Proofs.YtafmnkngjjnpiaaGreatDoor
set_option linter.unusedVariables false
set_option maxRecDepth 100000
open Go.RowKit
end Go.Proofs.YtafmnkngjjnpiaaGreatDoor

namespace Go.Proofs.YtafmnkngjjnpiaaGreatDoor
set_option linter.unusedVariables false
set_option maxRecDepth 100000
open Go.RowKit
structure It where
  b : Nat
  kind : Int
  n : Int
  bs : List Int
structure Zt where
  e : Ele
  it : It
  ix : Nat
  val : Value
  pb : Nat
  g : Nat
  off : Nat
  cap : Nat
structure DatIs (w : World) (f : Nat → Nat) (z : Zt) : Prop where
  val : z.val = .iface 246 (.pointer (some ⟨z.pb, 0, none⟩))
  pb : w.heap[z.pb]? = some (.cells #[.slice (some ⟨z.g, z.off, none⟩) z.it.bs.length z.cap] 248 (0, 0))
  row : ∃ cur : List Value, w.heap[z.g]? = some (.cells cur.toArray 5 (0, 0)) ∧ z.off + z.it.bs.length ≤ cur.length ∧ ∀ j, j < z.it.bs.length → cur[z.off + j]? = some (.int .u8 (z.it.bs.getD j 0))
  pos : 0 < z.it.bs.length
  le : z.it.bs.length ≤ z.cap
  cm : z.cap ≤ maxLen
  few : z.it.bs.length ≤ 1000000
  fp : f z.pb = 8 + 2 * z.ix
  fg : f z.g = 9 + 2 * z.ix
structure ZIs (w : World) (f : Nat → Nat) (ivs : List Value) (z : Zt) : Prop where
  wd : Wd z.it.b
  eb : z.e.1 = z.it.b
  ei : z.e.2.1 = (z.ix : Int)
  iv : ivs[z.ix]? = some z.val
  kd : (z.it.kind = 1 ∧ z.it.bs = [] ∧ z.val = .iface 243 (.agg #[.int .i64 z.it.n])) ∨ (z.it.kind = 2 ∧ z.it.n = 0 ∧ z.it.bs = [] ∧ z.val = .iface 245 (.agg #[])) ∨ (z.it.kind = 0 ∧ z.it.n = 0 ∧ DatIs w f z)
def ChgF (f : Nat → Nat) (w w' : World) : Prop := ∃ S, Chg S w w' ∧ ∀ x ∈ S, f x ≠ 0
theorem ChgF.of {f : Nat → Nat} {w w' : World} {S : List Nat} (c : Chg S w w') (h : ∀ x ∈ S, f x ≠ 0) : ChgF f w w' := ⟨S, c, h⟩
theorem ChgF.of0 {f : Nat → Nat} {w w' : World} (c : Chg [] w w') : ChgF f w w' := ⟨[], c, by simp⟩
theorem ChgF.trans {f : Nat → Nat} {a b c : World} (h : ChgF f a b) (k : ChgF f b c) : ChgF f a c := by
  obtain ⟨S, h1, h2⟩ := h
  obtain ⟨T, k1, k2⟩ := k
  exact ⟨S ++ T, h1.trans k1 (fun x hx => List.mem_append_left _ hx) (fun x hx _ => List.mem_append_right _ hx), fun x hx => (List.mem_append.1 hx).elim (h2 x) (k2 x)⟩
theorem ChgF.size {f : Nat → Nat} {a b : World} (h : ChgF f a b) : a.heap.size ≤ b.heap.size := by obtain ⟨S, h1, _⟩ := h; exact h1.size
structure Wc where
  ws : List Int
  gs : List Int
  ss : List Int
  got : Nat
  set : Nat
  wrote : Nat
structure WldIs (w : World) (f : Nat → Nat) (bW bQ : Nat) (v iv wv gv sv : Value) (ivs : List Value) (Z : List Zt) (p : Nat) (c : Wc) : Prop where
  hW : w.heap[bW]? = some (.cells #[.pointer (some ⟨bQ, 0, none⟩), iv, wv, gv, sv, .int .i64 (c.got : Nat), .int .i64 (c.set : Nat), .int .i64 (c.wrote : Nat)] 206 (0, 0))
  q : QueIs w bQ v (Z.map (·.e)) p
  row : w.ownsRow 0 20 1 iv ivs.length ivs
  rw_ : w.ownsRow 0 3 1 wv c.ws.length (valsOf .i64 c.ws)
  rg : w.ownsRow 0 3 1 gv c.gs.length (valsOf .i64 c.gs)
  rs : w.ownsRow 0 3 1 sv c.ss.length (valsOf .i64 c.ss)
  few : c.ws.length ≤ 1000000 ∧ c.gs.length ≤ 1000000 ∧ c.ss.length ≤ 1000000 ∧ ivs.length ≤ 4096
  zs : ∀ z ∈ Z, ZIs w f ivs z
  ap : (Z.map (·.ix)).Nodup
  f1 : f bW = 1
  f2 : f bQ = 2
  f3 : ∀ k, v.ownBlock = some k → f k = 3
  f4 : ∀ k, iv.ownBlock = some k → f k = 4
  f5 : ∀ k, wv.ownBlock = some k → f k = 5
  f6 : ∀ k, gv.ownBlock = some k → f k = 6
  f7 : ∀ k, sv.ownBlock = some k → f k = 7
theorem owns_keep {w w' : World} {base : Nat} {e : TypeId} {v : Value} {n : Nat} {xs : List Value} {S : List Nat} (h : w.ownsRow base e 1 v n xs) (c : Chg S w w') (hv : ∀ k, v.ownBlock = some k → k ∉ S) : w'.ownsRow base e 1 v n xs := by
  refine ⟨h.1, h.2.imp id ?_⟩
  rintro ⟨g, cap, cur, rfl, h1, h2, h3⟩
  exact ⟨g, cap, cur, rfl, h1, c.heap h2 (hv g rfl), h3⟩
theorem DatIs.chg {w w' : World} {f : Nat → Nat} {z : Zt} {S : List Nat} (h : DatIs w f z) (c : Chg S w w') (h1 : z.pb ∉ S) (h2 : z.g ∉ S) : DatIs w' f z := by
  obtain ⟨cur, r1, r2, r3⟩ := h.row
  exact ⟨h.val, c.heap h.pb h1, ⟨cur, c.heap r1 h2, r2, r3⟩, h.pos, h.le, h.cm, h.few, h.fp, h.fg⟩
theorem ZIs.chg {w w' : World} {f : Nat → Nat} {ivs : List Value} {z : Zt} {S : List Nat} (h : ZIs w f ivs z) (c : Chg S w w') (hS : ∀ x ∈ S, f x ≠ 8 + 2 * z.ix ∧ f x ≠ 9 + 2 * z.ix) : ZIs w' f ivs z :=
  ⟨h.wd, h.eb, h.ei, h.iv, h.kd.imp id (fun h => h.imp id (fun ⟨k1, k2, k3⟩ => ⟨k1, k2, k3.chg c (fun hm => (hS _ hm).1 k3.fp) (fun hm => (hS _ hm).2 k3.fg)⟩))⟩
theorem WldIs.chg {w w' : World} {f : Nat → Nat} {bW bQ : Nat} {v iv wv gv sv : Value} {ivs : List Value} {Z : List Zt} {p : Nat} {c : Wc} {S : List Nat} (h : WldIs w f bW bQ v iv wv gv sv ivs Z p c) (k : Chg S w w') (hS : ∀ x ∈ S, f x = 0) : WldIs w' f bW bQ v iv wv gv sv ivs Z p c := by
  have no : ∀ x, f x ≠ 0 → x ∉ S := fun x hx hm => hx (hS x hm)
  exact ⟨k.heap h.hW (no _ (by rw [h.f1]; omega)), h.q.chg k (no _ (by rw [h.f2]; omega)) (fun j hj => no _ (by rw [h.f3 j hj]; omega)), owns_keep h.row k (fun j hj => no _ (by rw [h.f4 j hj]; omega)), owns_keep h.rw_ k (fun j hj => no _ (by rw [h.f5 j hj]; omega)),
    owns_keep h.rg k (fun j hj => no _ (by rw [h.f6 j hj]; omega)), owns_keep h.rs k (fun j hj => no _ (by rw [h.f7 j hj]; omega)), h.few, fun z hz => (h.zs z hz).chg k (fun x hx => by rw [hS x hx]; omega), h.ap, h.f1, h.f2, h.f3, h.f4, h.f5, h.f6, h.f7⟩
theorem WldIs.chg0 {w w' : World} {f : Nat → Nat} {bW bQ : Nat} {v iv wv gv sv : Value} {ivs : List Value} {Z : List Zt} {p : Nat} {c : Wc} (h : WldIs w f bW bQ v iv wv gv sv ivs Z p c) (k : Chg [] w w') : WldIs w' f bW bQ v iv wv gv sv ivs Z p c := h.chg k (by simp)
theorem WldIs.count {w w' : World} {f : Nat → Nat} {bW bQ : Nat} {v iv wv gv sv : Value} {ivs : List Value} {Z : List Zt} {p : Nat} {c : Wc} (h : WldIs w f bW bQ v iv wv gv sv ivs Z p c) (k : Chg [bW] w w') (a b d : Nat)
    (hW : w'.heap[bW]? = some (.cells #[.pointer (some ⟨bQ, 0, none⟩), iv, wv, gv, sv, .int .i64 (a : Nat), .int .i64 (b : Nat), .int .i64 (d : Nat)] 206 (0, 0))) : WldIs w' f bW bQ v iv wv gv sv ivs Z p { c with got := a, set := b, wrote := d } := by
  have no : ∀ x, f x ≠ 1 → x ∉ [bW] := fun x hx hm => hx (by rw [List.mem_singleton.1 hm]; exact h.f1)
  exact ⟨hW, h.q.chg k (no _ (by rw [h.f2]; omega)) (fun j hj => no _ (by rw [h.f3 j hj]; omega)), owns_keep h.row k (fun j hj => no _ (by rw [h.f4 j hj]; omega)), owns_keep h.rw_ k (fun j hj => no _ (by rw [h.f5 j hj]; omega)),
    owns_keep h.rg k (fun j hj => no _ (by rw [h.f6 j hj]; omega)), owns_keep h.rs k (fun j hj => no _ (by rw [h.f7 j hj]; omega)), h.few, fun z hz => (h.zs z hz).chg k (fun x hx => by rw [List.mem_singleton.1 hx, h.f1]; omega), h.ap, h.f1, h.f2, h.f3, h.f4, h.f5, h.f6, h.f7⟩
theorem WldIs.cells {w : World} {f : Nat → Nat} {bW bQ : Nat} {v iv wv gv sv : Value} {ivs : List Value} {Z : List Zt} {p : Nat} {c : Wc} (h : WldIs w f bW bQ v iv wv gv sv ivs Z p c) :
    w.cell? ⟨bW, 0, none⟩ = some (.pointer (some ⟨bQ, 0, none⟩)) ∧ w.cell? ⟨bW, 1, none⟩ = some iv ∧ w.cell? ⟨bW, 2, none⟩ = some wv ∧ w.cell? ⟨bW, 3, none⟩ = some gv ∧ w.cell? ⟨bW, 4, none⟩ = some sv ∧ w.cell? ⟨bW, 5, none⟩ = some (.int .i64 (c.got : Nat)) ∧ w.cell? ⟨bW, 6, none⟩ = some (.int .i64 (c.set : Nat)) ∧ w.cell? ⟨bW, 7, none⟩ = some (.int .i64 (c.wrote : Nat)) := by
  refine ⟨?_, ?_, ?_, ?_, ?_, ?_, ?_, ?_⟩ <;> (rw [cell_of_heap h.hW]; rfl)
def wrN (ws : List Int) (k : Nat) (n : Int) : Int := if ws.length ≤ k then max 0 n else if ws.getD k 0 < 0 then 0 else min (max 0 n) (ws.getD k 0)
def wrB (ws : List Int) (k : Nat) : Bool := decide (ws.length ≤ k) || decide (0 ≤ ws.getD k 0)
theorem WldIs.wroteUp {w : World} {f : Nat → Nat} {bW bQ : Nat} {v iv wv gv sv : Value} {ivs : List Value} {Z : List Zt} {p : Nat} {c : Wc} (h : WldIs w f bW bQ v iv wv gv sv ivs Z p c) :
    Chg [bW] w (w.setCell ⟨bW, 7, none⟩ (.int .i64 ((c.wrote : Int) + 1))) ∧ WldIs (w.setCell ⟨bW, 7, none⟩ (.int .i64 ((c.wrote : Int) + 1))) f bW bQ v iv wv gv sv ivs Z p { c with wrote := c.wrote + 1 } := by
  have k : Chg [bW] w (w.setCell ⟨bW, 7, none⟩ (.int .i64 ((c.wrote : Int) + 1))) := (Chg.refl [bW] w).setCell (p := ⟨bW, 7, none⟩) (Or.inl List.mem_cons_self) _
  exact ⟨k, h.count k c.got c.set (c.wrote + 1) (by rw [setCell_heap _ h.hW]; rfl)⟩
theorem WldIs.gotUp {w : World} {f : Nat → Nat} {bW bQ : Nat} {v iv wv gv sv : Value} {ivs : List Value} {Z : List Zt} {p : Nat} {c : Wc} (h : WldIs w f bW bQ v iv wv gv sv ivs Z p c) :
    Chg [bW] w (w.setCell ⟨bW, 5, none⟩ (.int .i64 ((c.got : Int) + 1))) ∧ WldIs (w.setCell ⟨bW, 5, none⟩ (.int .i64 ((c.got : Int) + 1))) f bW bQ v iv wv gv sv ivs Z p { c with got := c.got + 1 } := by
  have k : Chg [bW] w (w.setCell ⟨bW, 5, none⟩ (.int .i64 ((c.got : Int) + 1))) := (Chg.refl [bW] w).setCell (p := ⟨bW, 5, none⟩) (Or.inl List.mem_cons_self) _
  exact ⟨k, h.count k (c.got + 1) c.set c.wrote (by rw [setCell_heap _ h.hW]; rfl)⟩
theorem WldIs.setUp {w : World} {f : Nat → Nat} {bW bQ : Nat} {v iv wv gv sv : Value} {ivs : List Value} {Z : List Zt} {p : Nat} {c : Wc} (h : WldIs w f bW bQ v iv wv gv sv ivs Z p c) :
    Chg [bW] w (w.setCell ⟨bW, 6, none⟩ (.int .i64 ((c.set : Int) + 1))) ∧ WldIs (w.setCell ⟨bW, 6, none⟩ (.int .i64 ((c.set : Int) + 1))) f bW bQ v iv wv gv sv ivs Z p { c with set := c.set + 1 } := by
  have k : Chg [bW] w (w.setCell ⟨bW, 6, none⟩ (.int .i64 ((c.set : Int) + 1))) := (Chg.refl [bW] w).setCell (p := ⟨bW, 6, none⟩) (Or.inl List.mem_cons_self) _
  exact ⟨k, h.count k c.got (c.set + 1) c.wrote (by rw [setCell_heap _ h.hW]; rfl)⟩
theorem ret_wr {a a' : Int} {b b' : Bool} (h : a = a') (k : b = b') : Ending.returned (.tuple #[.int .i64 a, .bool b]) = .returned (.tuple #[.int .i64 a', .bool b']) := by rw [h, k]
set_option maxHeartbeats 4000000 in
theorem wWrite_any (f : Nat → Nat) (bW bQ : Nat) (v iv wv gv sv : Value) (ivs : List Value) (Z : List Zt) (p : Nat) (c : Wc) (n : Int) (w : World) (h : WldIs w f bW bQ v iv wv gv sv ivs Z p c) (hc : c.wrote ≤ 1000000) :
    Calls Tryz.prog 188 #[.pointer (some ⟨bW, 0, none⟩), .int .i64 n] w fun e w' => e = .returned (.tuple #[.int .i64 (wrN c.ws c.wrote n), .bool (wrB c.ws c.wrote)]) ∧ Chg [bW] w w' ∧ WldIs w' f bW bQ v iv wv gv sv ivs Z p { c with wrote := c.wrote + 1 } := by
  obtain ⟨x0, x1, x2, x3, x4, x5, x6, x7⟩ := h.cells
  have hfr := free_of_heap h.hW 7
  obtain ⟨ao, cw, rfl, hsrc, hown⟩ := owns_srcAt h.rw_
  have HU := Lib.hid h.wroteUp
  have hle := h.few.1
  have f1 := h.f1
  have f5 := h.f5
  by_cases hk : c.ws.length ≤ c.wrote
  · have hk' : (c.ws.length : Int) ≤ (c.wrote : Int) := by omega
    have HB : Hid (wrB c.ws c.wrote = true) := Lib.hid (by unfold wrB; simp [hk])
    have HN : Hid (wrN c.ws c.wrote n = max 0 n) := Lib.hid (by unfold wrN; rw [if_pos hk])
    clear h f5 hsrc hown f1
    go_enter Tryz.func188, Tryz.ntmps188
    go_wp2_with fail
    all_goals (go_ret2; exact ⟨ret_wr (by rw [HN.out]; omega) HB.out.symm, HU.out⟩)
  · have hk' : (c.wrote : Int) < (c.ws.length : Int) := by omega
    obtain ⟨g, off, rfl, hcell⟩ := hsrc.int (j := c.wrote) (by omega)
    have hg : f g = 5 := f5 g (hown _ rfl)
    have d1 : ¬ g = bW := fun e => by rw [e] at hg; omega
    have d2 : ¬ bW = g := fun e => d1 e.symm
    have hcell2 := HU.out.1.cell hcell (by simpa using d1)
    have HB : Hid (wrB c.ws c.wrote = decide (0 ≤ c.ws.getD c.wrote 0)) := Lib.hid (by unfold wrB; simp [hk])
    have HN : Hid (wrN c.ws c.wrote n = if c.ws.getD c.wrote 0 < 0 then 0 else min (max 0 n) (c.ws.getD c.wrote 0)) := Lib.hid (by unfold wrN; rw [if_neg hk])
    clear h f5 hsrc hown f1 hg hk
    generalize c.ws.getD c.wrote 0 = y at *
    by_cases hy : y < 0
    · have HB' : Hid (wrB c.ws c.wrote = false) := Lib.hid (by rw [HB.out]; simp; omega)
      have HN' : Hid (wrN c.ws c.wrote n = 0) := Lib.hid (by rw [HN.out, if_pos hy])
      go_enter Tryz.func188, Tryz.ntmps188
      go_wp2_with fail
      all_goals (go_ret2; exact ⟨ret_wr HN'.out.symm HB'.out.symm, HU.out⟩)
    · have HB' : Hid (wrB c.ws c.wrote = true) := Lib.hid (by rw [HB.out]; simp; omega)
      have HN' : Hid (wrN c.ws c.wrote n = min (max 0 n) y) := Lib.hid (by rw [HN.out, if_neg hy])
      go_enter Tryz.func188, Tryz.ntmps188
      go_wp2_with fail
      all_goals (go_ret2; exact ⟨ret_wr (by rw [HN'.out]; omega) HB'.out.symm, HU.out⟩)
set_option maxHeartbeats 4000000 in
theorem wGet_any (f : Nat → Nat) (bW bQ : Nat) (v iv wv gv sv : Value) (ivs : List Value) (Z : List Zt) (p : Nat) (c : Wc) (w : World) (h : WldIs w f bW bQ v iv wv gv sv ivs Z p c) (hc : c.got ≤ 1000000) :
    Calls Tryz.prog 156 #[.pointer (some ⟨bW, 0, none⟩)] w fun e w' => e = .returned (.bool (!decide ((c.got : Int) ∈ c.gs))) ∧ Chg [bW] w w' ∧ WldIs w' f bW bQ v iv wv gv sv ivs Z p { c with got := c.got + 1 } := by
  obtain ⟨x0, x1, x2, x3, x4, x5, x6, x7⟩ := h.cells
  have hfr := free_of_heap h.hW 5
  have HU := Lib.hid h.gotUp
  obtain ⟨ao, cw, rfl, hsrc, hown⟩ := owns_srcAt HU.out.2.rg
  have hle := h.few.2.1
  have HS := Lib.hid hsrc
  clear h hsrc hown
  go_enter Tryz.func156, Tryz.ntmps156
  go_wp2_with fail
  go_quiet ((go_at_call 171; exact quiet_same (contains_any ao _ cw c.gs c.got _ (HS.out.chg0 ((Chg.refl _ _).drewN _)) hle)))
  go_wp2_with fail
  go_ret
  exact ⟨rfl, HU.out.1.drewN _, HU.out.2.chg0 ((Chg.refl _ _).drewN _)⟩
set_option maxHeartbeats 4000000 in
theorem wSet_any (f : Nat → Nat) (bW bQ : Nat) (v iv wv gv sv : Value) (ivs : List Value) (Z : List Zt) (p : Nat) (c : Wc) (w : World) (h : WldIs w f bW bQ v iv wv gv sv ivs Z p c) (hc : c.set ≤ 1000000) :
    Calls Tryz.prog 158 #[.pointer (some ⟨bW, 0, none⟩)] w fun e w' => e = .returned (.bool (!decide ((c.set : Int) ∈ c.ss))) ∧ Chg [bW] w w' ∧ WldIs w' f bW bQ v iv wv gv sv ivs Z p { c with set := c.set + 1 } := by
  obtain ⟨x0, x1, x2, x3, x4, x5, x6, x7⟩ := h.cells
  have hfr := free_of_heap h.hW 6
  have HU := Lib.hid h.setUp
  obtain ⟨ao, cw, rfl, hsrc, hown⟩ := owns_srcAt HU.out.2.rs
  have hle := h.few.2.2.1
  have HS := Lib.hid hsrc
  clear h hsrc hown
  go_enter Tryz.func158, Tryz.ntmps158
  go_wp2_with fail
  go_quiet ((go_at_call 171; exact quiet_same (contains_any ao _ cw c.ss c.set _ (HS.out.chg0 ((Chg.refl _ _).drewN _)) hle)))
  go_wp2_with fail
  go_ret
  exact ⟨rfl, HU.out.1.drewN _, HU.out.2.chg0 ((Chg.refl _ _).drewN _)⟩
end Go.Proofs.YtafmnkngjjnpiaaGreatDoor
