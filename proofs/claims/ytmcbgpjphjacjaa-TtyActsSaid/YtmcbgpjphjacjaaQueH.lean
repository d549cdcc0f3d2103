/-
  container/heap over the queue's row: Push and Pop.
-/
import Derived.Test.YtmcbgpjphjacjaaQueP
namespace Go.Proofs.Ytmcbgpjphjacjaa
set_option linter.unusedVariables false
open Go.RowKit

/-- The cells of a row. -/
def cellsE (H : List Ele) : List Value := H.flatMap eleC

theorem cellsE_length (H : List Ele) : (cellsE H).length = H.length * 3 := by
  induction H with
  | nil => rfl
  | cons x H ih => unfold cellsE at ih ⊢; rw [List.flatMap_cons, List.length_append, ih]; simp [eleC]; omega

theorem cellsE_append (H K : List Ele) : cellsE (H ++ K) = cellsE H ++ cellsE K := by unfold cellsE; rw [List.flatMap_append]

theorem cellsE_get (H : List Ele) : ∀ (k r : Nat), r < 3 → k < H.length → (cellsE H)[k * 3 + r]? = (eleC (H.getD k default))[r]? := by
  induction H with
  | nil => intro k r _ h; simp at h
  | cons x H ih =>
    intro k r hr hk
    have e : cellsE (x :: H) = eleC x ++ cellsE H := by unfold cellsE; rw [List.flatMap_cons]
    have hl : (eleC x).length = 3 := rfl
    rw [e]
    cases k with
    | zero => rw [List.getElem?_append_left (by rw [hl]; omega), Nat.zero_mul, Nat.zero_add]; rfl
    | succ k =>
      rw [List.getElem?_append_right (by rw [hl]; omega), hl, show (k + 1) * 3 + r - 3 = k * 3 + r by omega, ih k r hr (by simpa using hk)]
      simp

theorem RowAt.take {w : World} {g : Nat} {H : List Ele} {cur : Array Value} (h : RowAt w g H cur) (hs : H.length * 3 ≤ cur.size) : cur.toList.take (H.length * 3) = cellsE H := by
  apply List.ext_getElem?
  intro j
  by_cases hj : j < H.length * 3
  · rw [List.getElem?_take, if_pos hj]
    have hk : j / 3 < H.length := by omega
    have ej : j = j / 3 * 3 + j % 3 := by omega
    have h3 := h.2 (j / 3) hk
    rw [ej, cellsE_get H (j / 3) (j % 3) (by omega) hk, Array.getElem?_toList]
    rcases (by omega : j % 3 = 0 ∨ j % 3 = 1 ∨ j % 3 = 2) with e | e | e <;> rw [e]
    · rw [Nat.add_zero]; exact h3.1
    · exact h3.2.1
    · exact h3.2.2
  · rw [List.getElem?_eq_none (by rw [List.length_take]; omega), List.getElem?_eq_none (by rw [cellsE_length]; omega)]

theorem RowAt.owns {w : World} {g c : Nat} {H : List Ele} {cur : Array Value} (h : RowAt w g H cur) (hc : H.length ≤ c) (hm : c ≤ maxLen) (hs : cur.size = c * 3) :
    w.ownsRow 0 139 3 (.slice (some ⟨g, 0, none⟩) H.length c) H.length (cellsE H) :=
  ⟨cellsE_length H, .inr ⟨g, c, cur, rfl, Nat.zero_le _, h.1, hc, hm, hs, h.take (by rw [hs]; omega)⟩⟩

theorem owns_row {w : World} {v : Value} {H : List Ele} (h : w.ownsRow 0 139 3 v H.length (cellsE H)) :
    (v = .slice none 0 0 ∧ H = []) ∨ ∃ g c cur, v = .slice (some ⟨g, 0, none⟩) H.length c ∧ RowAt w g H cur ∧ H.length ≤ c ∧ c ≤ maxLen ∧ cur.size = c * 3 := by
  rcases h.2 with ⟨e, h0⟩ | ⟨g, c, cur, e, _, hh, h1, h2, h3, h4⟩
  · exact .inl ⟨e, List.eq_nil_of_length_eq_zero h0⟩
  · refine .inr ⟨g, c, cur, e, ⟨hh, fun k hk => ?_⟩, h1, h2, h3⟩
    have f : ∀ r, r < 3 → cur[k * 3 + r]? = (eleC (H.getD k default))[r]? := fun r hr => by
      rw [← cellsE_get H k r hr hk, ← h4, List.getElem?_take, if_pos (by omega), Array.getElem?_toList]
    exact ⟨f 0 (by omega), f 1 (by omega), f 2 (by omega)⟩

def HPushPost (bQ : Nat) (v p : Value) (H : List Ele) (x : Ele) (w : World) (e : Ending) (w' : World) : Prop :=
  e = .returned (.tuple #[]) ∧ Chg (bQ :: v.ownBlock.toList) w w' ∧ ∃ v' H', w'.heap[bQ]? = some (.cells #[v', p] 133 (0, 0)) ∧ w'.ownsRow 0 139 3 v' H'.length (cellsE H') ∧
    H'.Perm (H ++ [x]) ∧ IsHeap oE H' H'.length ∧ v'.ownBlock ≠ some bQ ∧ (∀ k, v'.ownBlock = some k → v.ownBlock = some k ∨ w.heap.size ≤ k)

set_option maxHeartbeats 1000000 in
theorem heapPush_any (bQ : Nat) (v : Value) (H : List Ele) (p : Value) (x : Ele) (w : World) (hb : w.heap[bQ]? = some (.cells #[v, p] 133 (0, 0))) (hne : v.ownBlock ≠ some bQ)
    (h : w.ownsRow 0 139 3 v H.length (cellsE H)) (hh : IsHeap oE H H.length) (hok : ∀ y ∈ H, EleOk y) (hx : EleOk x) (hn : H.length ≤ 100000) :
    Calls Try.prog 67 #[.iface 137 (.pointer (some ⟨bQ, 0, none⟩)), .iface 139 (eleV x)] w (HPushPost bQ v p H x w) := by
  have hMP := method_Push ⟨bQ, 0, none⟩
  have hML := fun w' v h => method_Len ⟨bQ, 0, none⟩ v w' h
  go_enter Try.func67, Try.ntmps67
  go_wp2_with fail
  refine (rowPush_any bQ v H.length (cellsE H) p x _ hb hne h (by omega)).mono ?_
  rintro e w1 ⟨rfl, C1, v1, hb1, O1, B1⟩
  have hc1 : w1.cell? ⟨bQ, 0, none⟩ = some v1 := by rw [cell_of_heap hb1]; rfl
  have O1' : w1.ownsRow 0 139 3 v1 (H ++ [x]).length (cellsE (H ++ [x])) := by rw [cellsE_append, List.length_append]; simpa [cellsE] using O1
  have hlt := heap_lt hb
  have hne1 : v1.ownBlock ≠ some bQ := fun e => (B1 bQ e).elim hne (by omega)
  obtain ⟨hv, h0⟩ | ⟨g, c, cur, rfl, R1, k1, k2, k3⟩ := owns_row O1'
  · simp at h0
  · have hl : (H ++ [x]).length = H.length + 1 := by simp
    have HL := Lib.hid hl
    rw [hl] at hc1 hb1 k1 B1 hne1
    have HB1 := Lib.hid hb1
    have HO := Lib.hid O1
    clear hl O1 hb1 O1'
    have hg : bQ ≠ g := fun e => hne1 (by rw [e]; rfl)
    go_wp2_with (go_at_call 92; refine (len_any _ _ _ _).mono ?_; rintro e w' ⟨rfl, rfl⟩)
    refine (up_any bQ g (H.length + 1) c (H ++ [x]) cur H.length p _ HB1.out hg R1 HL.out (up_start oE H x hh) (by omega) ?_ (by omega)).mono ?_
    · intro y hy
      rcases List.mem_append.1 hy with hy | hy
      · exact hok y hy
      · rw [List.mem_singleton.1 hy]; exact hx
    rintro e w2 ⟨rfl, C2, H2, cur2, R2, s2, P2, I2⟩
    go_wp2_with fail
    go_end0
    have hl2 : H2.length = H.length + 1 := by rw [P2.length_eq]; exact HL.out
    refine ⟨rfl, C1.trans C2 (by simp) ?_, _, H2, C2.heap HB1.out (by simpa using hg), ?_, P2, by rw [hl2]; exact I2, hne1, B1⟩
    · intro y hy hlt'
      rw [List.mem_singleton.1 hy] at hlt' ⊢
      rcases B1 g rfl with e | e
      · rw [e]; simp
      · omega
    · have := R2.owns (c := c) (by rw [hl2]; exact k1) k2 (by rw [s2]; exact k3)
      rwa [hl2] at this ⊢
end Go.Proofs.Ytmcbgpjphjacjaa
