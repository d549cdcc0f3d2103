/-
  The queue's row: Swap.
-/
import Derived.Test.YtmcbgpjphjacjaaQueR
namespace Go.Proofs.Ytmcbgpjphjacjaa
set_option linter.unusedVariables false
set_option maxRecDepth 100000
open Go.RowKit

/-- The row's block: its elements, three cells each. -/
def RowAt (w : World) (g : Nat) (H : List Ele) (cur : Array Value) : Prop :=
  w.heap[g]? = some (.cells cur 139 (0, 0)) ∧ ∀ k, k < H.length → cur[k * 3]? = some (.float .f64 (H.getD k default).1) ∧ cur[k * 3 + 1]? = some (.int .i64 (H.getD k default).2.1) ∧ cur[k * 3 + 2]? = some (.int .i64 (H.getD k default).2.2)

theorem RowAt.eles {w : World} {g : Nat} {H : List Ele} {cur : Array Value} (h : RowAt w g H cur) : ElesAt w g H := fun k hk =>
  ⟨by rw [cell_of_heap h.1]; exact (h.2 k hk).1, by rw [cell_of_heap h.1]; exact (h.2 k hk).2.1, by rw [cell_of_heap h.1]; exact (h.2 k hk).2.2⟩

def put3 (cur : Array Value) (j : Nat) (x : Ele) : Array Value := ((cur.setIfInBounds (j * 3) (.float .f64 x.1)).setIfInBounds (j * 3 + 1) (.int .i64 x.2.1)).setIfInBounds (j * 3 + 2) (.int .i64 x.2.2)

theorem put3_size (cur : Array Value) (j : Nat) (x : Ele) : (put3 cur j x).size = cur.size := by simp [put3]

theorem put3_get (cur : Array Value) (j k : Nat) (x : Ele) (r : Nat) (hr : r < 3) (hs : j * 3 + 2 < cur.size) :
    (put3 cur j x)[k * 3 + r]? = if k = j then some (if r = 0 then .float .f64 x.1 else if r = 1 then .int .i64 x.2.1 else .int .i64 x.2.2) else cur[k * 3 + r]? := by
  unfold put3
  simp only [Array.getElem?_setIfInBounds, Array.size_setIfInBounds]
  by_cases hkj : k = j
  · subst hkj
    rw [if_pos rfl]
    rcases (by omega : r = 0 ∨ r = 1 ∨ r = 2) with h | h | h <;> subst h
    · rw [if_neg (by omega), if_neg (by omega), if_pos (by omega), if_pos (by omega)]; rfl
    · rw [if_neg (by omega), if_pos (by omega), if_pos (by omega)]; rfl
    · rw [if_pos (by omega), if_pos (by omega)]; rfl
  · rw [if_neg hkj, if_neg (by omega), if_neg (by omega), if_neg (by omega)]

theorem RowAt.size {w : World} {g : Nat} {H : List Ele} {cur : Array Value} (h : RowAt w g H cur) {j : Nat} (hj : j < H.length) : j * 3 + 2 < cur.size := by
  have := (h.2 j hj).2.2
  exact (Array.getElem?_eq_some_iff.1 this).1

theorem swap_end {w : World} {g : Nat} {H : List Ele} {cur : Array Value} {i k : Nat} (h : RowAt w g H cur) (hi : i < H.length) (hk : k < H.length) (w' : World)
    (hw : w'.heap[g]? = some (.cells (put3 (put3 cur i (H.getD k default)) k (H.getD i default)) 139 (0, 0))) : RowAt w' g (swapH H i k) (put3 (put3 cur i (H.getD k default)) k (H.getD i default)) := by
  refine ⟨hw, fun j hj => ?_⟩
  rw [swapH_length] at hj
  have si := h.size hi
  have sk := h.size hk
  have hcur := h.2 j hj
  have e : ∀ r, r < 3 → (put3 (put3 cur i (H.getD k default)) k (H.getD i default))[j * 3 + r]? = if j = k then some (if r = 0 then .float .f64 (H.getD i default).1 else if r = 1 then .int .i64 (H.getD i default).2.1 else .int .i64 (H.getD i default).2.2) else if j = i then some (if r = 0 then .float .f64 (H.getD k default).1 else if r = 1 then .int .i64 (H.getD k default).2.1 else .int .i64 (H.getD k default).2.2) else cur[j * 3 + r]? := fun r hr => by
    rw [put3_get _ _ _ _ r hr (by rw [put3_size]; exact sk), put3_get _ _ _ _ r hr si]
  rw [swapH_get _ _ _ _ hi hk]
  have e0 := e 0 (by omega)
  have e1 := e 1 (by omega)
  have e2 := e 2 (by omega)
  rw [Nat.add_zero] at e0
  rw [e0, e1, e2]
  by_cases c1 : j = k
  · subst c1; simp
  · by_cases c2 : j = i
    · subst c2; simp [c1]
    · simp only [if_neg c1, if_neg c2]; exact hcur

/-- What the six stores of an exchange leave. -/
theorem swap_post {w : World} {g : Nat} {H : List Ele} {cur : Array Value} {i k : Nat} (h : RowAt w g H cur) (hi : i < H.length) (hk : k < H.length) (x y : Ele) (hx : x = H.getD i default) (hy : y = H.getD k default) :
    Chg [g] w ((((((w.setCell ⟨g, i * 3, none⟩ (.float .f64 y.1)).setCell ⟨g, i * 3 + 1, none⟩ (.int .i64 y.2.1)).setCell ⟨g, i * 3 + 2, none⟩ (.int .i64 y.2.2)).setCell ⟨g, k * 3, none⟩ (.float .f64 x.1)).setCell ⟨g, k * 3 + 1, none⟩ (.int .i64 x.2.1)).setCell ⟨g, k * 3 + 2, none⟩ (.int .i64 x.2.2)).drew ∧
      ∃ cur', RowAt ((((((w.setCell ⟨g, i * 3, none⟩ (.float .f64 y.1)).setCell ⟨g, i * 3 + 1, none⟩ (.int .i64 y.2.1)).setCell ⟨g, i * 3 + 2, none⟩ (.int .i64 y.2.2)).setCell ⟨g, k * 3, none⟩ (.float .f64 x.1)).setCell ⟨g, k * 3 + 1, none⟩ (.int .i64 x.2.1)).setCell ⟨g, k * 3 + 2, none⟩ (.int .i64 x.2.2)).drew g (swapH H i k) cur' ∧ cur'.size = cur.size := by
  have e1 := setCell_heap (i := i * 3) (.float .f64 y.1) h.1
  have e2 := setCell_heap (i := i * 3 + 1) (.int .i64 y.2.1) e1
  have e3 := setCell_heap (i := i * 3 + 2) (.int .i64 y.2.2) e2
  have e4 := setCell_heap (i := k * 3) (.float .f64 x.1) e3
  have e5 := setCell_heap (i := k * 3 + 1) (.int .i64 x.2.1) e4
  have e6 := setCell_heap (i := k * 3 + 2) (.int .i64 x.2.2) e5
  have C1 : Chg [g] w (w.setCell ⟨g, i * 3, none⟩ (.float .f64 y.1)) := (Chg.refl [g] w).setCell (Or.inl List.mem_cons_self) _
  have C2 := C1.setCell (p := ⟨g, i * 3 + 1, none⟩) (Or.inl List.mem_cons_self) (.int .i64 y.2.1)
  have C3 := C2.setCell (p := ⟨g, i * 3 + 2, none⟩) (Or.inl List.mem_cons_self) (.int .i64 y.2.2)
  have C4 := C3.setCell (p := ⟨g, k * 3, none⟩) (Or.inl List.mem_cons_self) (.float .f64 x.1)
  have C5 := C4.setCell (p := ⟨g, k * 3 + 1, none⟩) (Or.inl List.mem_cons_self) (.int .i64 x.2.1)
  have C6 := C5.setCell (p := ⟨g, k * 3 + 2, none⟩) (Or.inl List.mem_cons_self) (.int .i64 x.2.2)
  generalize (((((w.setCell ⟨g, i * 3, none⟩ (.float .f64 y.1)).setCell ⟨g, i * 3 + 1, none⟩ (.int .i64 y.2.1)).setCell ⟨g, i * 3 + 2, none⟩ (.int .i64 y.2.2)).setCell ⟨g, k * 3, none⟩ (.float .f64 x.1)).setCell ⟨g, k * 3 + 1, none⟩ (.int .i64 x.2.1)).setCell ⟨g, k * 3 + 2, none⟩ (.int .i64 x.2.2) = w6 at *
  refine ⟨C6.drew, put3 (put3 cur i y) k x, ?_, by rw [put3_size, put3_size]⟩
  subst hx hy
  exact swap_end h hi hk w6.drew e6

theorem run_store_float (P : Program) (w : World) (a : Addr) (k : FloatKind) (b : Nat) (m : Mode) : (store a (.float k b) m).run P w = stored P w a (.float k b) m := run_store P w a _ m rfl
attribute [local go_sem] run_store_float

set_option maxHeartbeats 1000000 in
theorem swap_any (g n c : Nat) (H : List Ele) (cur : Array Value) (i k : Nat) (w : World) (h : RowAt w g H cur) (hn : H.length = n) (hi : i < n) (hk : k < n) :
    Calls Try.prog 94 #[.slice (some ⟨g, 0, none⟩) n c, .int .i64 i, .int .i64 k] w fun e w' => e = .returned (.tuple #[]) ∧ Chg [g] w w' ∧ ∃ cur', RowAt w' g (swapH H i k) cur' ∧ cur'.size = cur.size := by
  obtain ⟨a0, a1, a2⟩ := h.eles i (by omega)
  obtain ⟨b0, b1, b2⟩ := h.eles k (by omega)
  have f1 : (i : Int) < (n : Int) := by omega
  have f2 : (k : Int) < (n : Int) := by omega
  have g0 := free_of_heap h.1 (i * 3)
  have g1 := free_of_heap h.1 (i * 3 + 1)
  have g2 := free_of_heap h.1 (i * 3 + 2)
  have k0 := free_of_heap h.1 (k * 3)
  have k1 := free_of_heap h.1 (k * 3 + 1)
  have k2 := free_of_heap h.1 (k * 3 + 2)
  obtain ⟨x, hx⟩ : ∃ x, x = H.getD i default := ⟨_, rfl⟩
  obtain ⟨y, hy⟩ : ∃ y, y = H.getD k default := ⟨_, rfl⟩
  rw [← hx] at a0 a1 a2
  rw [← hy] at b0 b1 b2
  have HX := Lib.hid hx
  have HY := Lib.hid hy
  have HH := Lib.hid h
  have HN := Lib.hid hn
  clear hx hy h hn
  by_cases hik : i = k
  · subst hik
    have hxy : x = y := by rw [HX.out, HY.out]
    subst hxy
    go_enter Try.func94, Try.ntmps94
    go_wp2_with fail
    go_region
    all_goals go_wp2_with fail
    all_goals (go_end0; exact ⟨rfl, swap_post HH.out (by rw [HN.out]; exact hi) (by rw [HN.out]; exact hk) _ _ HX.out HY.out⟩)
  · have d0 : ¬ i * 3 = k * 3 := by omega
    have d1 : ¬ i * 3 = k * 3 + 1 := by omega
    have d2 : ¬ i * 3 = k * 3 + 2 := by omega
    have d3 : ¬ i * 3 + 1 = k * 3 := by omega
    have d4 : ¬ i * 3 + 1 = k * 3 + 1 := by omega
    have d5 : ¬ i * 3 + 1 = k * 3 + 2 := by omega
    have d6 : ¬ i * 3 + 2 = k * 3 := by omega
    have d7 : ¬ i * 3 + 2 = k * 3 + 1 := by omega
    have d8 : ¬ i * 3 + 2 = k * 3 + 2 := by omega
    go_enter Try.func94, Try.ntmps94
    go_wp2_with fail
    go_region
    all_goals go_wp2_with fail
    all_goals (go_end0; exact ⟨rfl, swap_post HH.out (by rw [HN.out]; exact hi) (by rw [HN.out]; exact hk) _ _ HX.out HY.out⟩)
end Go.Proofs.Ytmcbgpjphjacjaa
