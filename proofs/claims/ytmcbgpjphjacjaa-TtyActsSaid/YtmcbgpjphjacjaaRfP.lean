/-
  Layer 16's reference: an insertion of items by exchanges, in plain Lean and in memory.
-/
import Derived.Test.YtmcbgpjphjacjaaRfW
namespace Go.Proofs.Ytmcbgpjphjacjaa
set_option linter.unusedVariables false
open Go.RowKit

/-- The list with x at place i. -/
def insA {α : Type} (M : List α) (x : α) (i : Nat) : List α := M.take i ++ x :: M.drop i

theorem insA_length {α : Type} (M : List α) (x : α) (i : Nat) (h : i ≤ M.length) : (insA M x i).length = M.length + 1 := by
  unfold insA; simp; omega

theorem insA_get {α : Type} (M : List α) (x : α) (i : Nat) (h : i ≤ M.length) (k : Nat) : (insA M x i)[k]? = if k < i then M[k]? else if k = i then some x else M[k - 1]? := by
  unfold insA
  have hl : (M.take i).length = i := by simp; omega
  rw [List.getElem?_append, hl]
  by_cases h1 : k < i
  · rw [if_pos h1, if_pos h1, List.getElem?_take, if_pos h1]
  · rw [if_neg h1, if_neg h1]
    by_cases h2 : k = i
    · subst h2; rw [Nat.sub_self, if_pos rfl]; rfl
    · rw [if_neg h2]
      obtain ⟨d, hd⟩ : ∃ d, k - i = d + 1 := ⟨k - i - 1, by omega⟩
      rw [hd, List.getElem?_cons_succ, List.getElem?_drop]
      congr 1
      omega

theorem insA_end {α : Type} (M : List α) (x : α) : insA M x M.length = M ++ [x] := by unfold insA; simp

theorem insA_map {α β : Type} (f : α → β) (M : List α) (x : α) (i : Nat) : (insA M x i).map f = insA (M.map f) (f x) i := by
  unfold insA; simp [List.map_take, List.map_drop]

/-- Where it stops is where it belongs. -/
theorem insG_at {α : Type} (o : α → Nat) (M : List α) (x : α) (i : Nat) (h1 : ∀ k (hk : k < M.length), k < i → o M[k] < o x) (h2 : ∀ k (hk : k < M.length), i ≤ k → ¬ o M[k] < o x) : insG o M x = insA M x i := by
  have hA : ∀ y ∈ M.take i, decide (o y < o x) = true := fun y hy => by
    obtain ⟨k, hk, rfl⟩ := List.getElem_of_mem hy
    rw [List.length_take] at hk
    rw [List.getElem_take]
    exact decide_eq_true (h1 k (by omega) (by omega))
  have hB : ∀ y ∈ M.drop i, decide (o y < o x) = false := fun y hy => by
    obtain ⟨k, hk, rfl⟩ := List.getElem_of_mem hy
    rw [List.length_drop] at hk
    rw [List.getElem_drop]
    exact decide_eq_false (h2 (i + k) (by omega) (by omega))
  unfold insG insA
  have e1 : M.filter (fun y => decide (o y < o x)) = M.take i := by
    conv => lhs; rw [← List.take_append_drop i M]
    rw [List.filter_append, List.filter_eq_self.2 (fun y hy => hA y hy), List.filter_eq_nil_iff.2 (fun y hy => by rw [hB y hy]; simp), List.append_nil]
  have e2 : M.filter (fun y => !decide (o y < o x)) = M.drop i := by
    conv => lhs; rw [← List.take_append_drop i M]
    rw [List.filter_append, List.filter_eq_nil_iff.2 (fun y hy => by rw [hA y hy]; simp), List.filter_eq_self.2 (fun y hy => by rw [hB y hy]; rfl), List.nil_append]
  rw [e1, e2]

/-! ### The items in order, with all that they lead to -/

def ordDStep (M : List (Ele × ItD)) (x : ItD) (k : Nat) : List (Ele × ItD) := if comes x = true then insG (fun y => oE y.1) M ((x.b, (k : Int), (M.length : Int)), x) else M

def ordD (its : List ItD) : Nat → List (Ele × ItD)
  | 0 => []
  | k + 1 => match its[k]? with
    | some x => ordDStep (ordD its k) x k
    | none => ordD its k

theorem ordD_succ {its : List ItD} {k : Nat} {x : ItD} (h : its[k]? = some x) : ordD its (k + 1) = ordDStep (ordD its k) x k := by
  show (match its[k]? with | some x => ordDStep (ordD its k) x k | none => ordD its k) = _
  rw [h]

/-- What New's model tells is the same. -/
theorem ordD_P (its : List ItD) (k : Nat) : (ordD its k).map (fun y => (y.1, itOf y.2)) = ordP its k := by
  induction k with
  | zero => rfl
  | succ k ih =>
    show (match its[k]? with | some x => ordDStep (ordD its k) x k | none => ordD its k).map _ = (match its[k]? with | some x => ordStep (ordP its k) x k | none => ordP its k)
    have hl : (ordD its k).length = (ordP its k).length := by rw [← ih, List.length_map]
    cases its[k]? with
    | none => exact ih
    | some x =>
      dsimp only
      unfold ordDStep ordStep
      split
      · rw [insG_map (fun y : Ele × ItD => (y.1, itOf y.2)) (fun z : Ele × It => oE z.1) (ordD its k), ih, hl]
        rfl
      · exact ih

/-! ### In memory -/

theorem hasRow_cellsI {w : World} {g off cap n : Nat} {cur : Array Value} {L : List ItD} (hg : w.heap[g]? = some (.cells cur 55 (0, 0))) (hn : L.length = n) (h1 : n ≤ cap) (h2 : cap ≤ maxLen) (h3 : off + cap * 4 ≤ cur.size)
    (h : ∀ k (hk : k < L.length), cur[off + k * 4]? = some (.float .f64 L[k].b) ∧ cur[off + k * 4 + 1]? = some (.int .i64 L[k].kind) ∧ cur[off + k * 4 + 2]? = some (.int .i64 L[k].n) ∧ cur[off + k * 4 + 3]? = some (.slice L[k].ao L[k].m L[k].cap)) :
    HasRow w 55 4 (.slice (some ⟨g, off, none⟩) n cap) n (cellsI L) := by
  refine ⟨by rw [cellsI_length, hn], .inr ⟨g, off, cap, cur, rfl, hg, h1, h2, h3, ?_⟩⟩
  apply List.ext_getElem?
  intro j
  rw [List.getElem?_take]
  by_cases hj : j < n * 4
  · rw [if_pos hj, List.getElem?_drop, Array.getElem?_toList]
    have hk : j / 4 < L.length := by omega
    obtain ⟨a0, a1, a2, a3⟩ := h (j / 4) hk
    obtain ⟨b0, b1, b2, b3⟩ := cellsI_get L (j / 4) hk
    rcases (by omega : j = j / 4 * 4 ∨ j = j / 4 * 4 + 1 ∨ j = j / 4 * 4 + 2 ∨ j = j / 4 * 4 + 3) with e | e | e | e
    · rw [← e] at a0 b0
      rw [a0, b0]
    · rw [Nat.add_assoc, ← e] at a1
      rw [← e] at b1
      rw [a1, b1]
    · rw [Nat.add_assoc, ← e] at a2
      rw [← e] at b2
      rw [a2, b2]
    · rw [Nat.add_assoc, ← e] at a3
      rw [← e] at b3
      rw [a3, b3]
  · rw [if_neg hj, List.getElem?_eq_none (by rw [cellsI_length]; omega)]

/-- One exchange in memory. -/
theorem step_rowI {w w8 W : World} {g off cap n : Nat} {M : List ItD} {x y : ItD} {j : Nat} (h : HasRow w 55 4 (.slice (some ⟨g, off, none⟩) n cap) n (cellsI (insA M x (j + 1)))) (hj : j < M.length) (hn : M.length + 1 = n) (hy : M[j] = y)
    (h8 : w8 = ((((w.setCell ⟨g, off + (j + 1) * 4, none⟩ (.float .f64 y.b)).setCell ⟨g, off + (j + 1) * 4 + 1, none⟩ (.int .i64 y.kind)).setCell ⟨g, off + (j + 1) * 4 + 2, none⟩ (.int .i64 y.n)).setCell ⟨g, off + (j + 1) * 4 + 3, none⟩ (.slice y.ao y.m y.cap)))
    (hW : W = ((((w8.setCell ⟨g, off + j * 4, none⟩ (.float .f64 x.b)).setCell ⟨g, off + j * 4 + 1, none⟩ (.int .i64 x.kind)).setCell ⟨g, off + j * 4 + 2, none⟩ (.int .i64 x.n)).setCell ⟨g, off + j * 4 + 3, none⟩ (.slice x.ao x.m x.cap)).drew.drew) :
    Chg [g] w W ∧ HasRow W 55 4 (.slice (some ⟨g, off, none⟩) n cap) n (cellsI (insA M x j)) := by
  rcases h.2 with ⟨e, _⟩ | ⟨g', off', cap', cur, e, hg, h1, h2, h3, h4⟩
  · cases e
  · injection e with e1 e2 e3
    injection e1 with e1
    injection e1 with e1 e4 _
    subst e1 e3 e4
    have k1 := setCell_heap (w := w) (i := off + (j + 1) * 4) (.float .f64 y.b) hg
    have k2 := setCell_heap (i := off + (j + 1) * 4 + 1) (.int .i64 y.kind) k1
    have k3 := setCell_heap (i := off + (j + 1) * 4 + 2) (.int .i64 y.n) k2
    have k4 := setCell_heap (i := off + (j + 1) * 4 + 3) (.slice y.ao y.m y.cap) k3
    rw [← h8] at k4
    have k5 := setCell_heap (w := w8) (i := off + j * 4) (.float .f64 x.b) k4
    have k6 := setCell_heap (i := off + j * 4 + 1) (.int .i64 x.kind) k5
    have k7 := setCell_heap (i := off + j * 4 + 2) (.int .i64 x.n) k6
    have k8 := setCell_heap (i := off + j * 4 + 3) (.slice x.ao x.m x.cap) k7
    have C1 : Chg [g] w w8 := by
      rw [h8]
      exact ((((Chg.refl [g] w).setCell (p := ⟨g, off + (j + 1) * 4, none⟩) (Or.inl List.mem_cons_self) _).setCell (p := ⟨g, off + (j + 1) * 4 + 1, none⟩) (Or.inl List.mem_cons_self) _).setCell (p := ⟨g, off + (j + 1) * 4 + 2, none⟩) (Or.inl List.mem_cons_self) _).setCell (p := ⟨g, off + (j + 1) * 4 + 3, none⟩) (Or.inl List.mem_cons_self) _
    have C2 : Chg [g] w W := by
      rw [hW]
      exact (((((C1.setCell (p := ⟨g, off + j * 4, none⟩) (Or.inl List.mem_cons_self) _).setCell (p := ⟨g, off + j * 4 + 1, none⟩) (Or.inl List.mem_cons_self) _).setCell (p := ⟨g, off + j * 4 + 2, none⟩) (Or.inl List.mem_cons_self) _).setCell (p := ⟨g, off + j * 4 + 3, none⟩) (Or.inl List.mem_cons_self) _).drew).drew
    have hWh : W.heap[g]? = ((((w8.setCell ⟨g, off + j * 4, none⟩ (.float .f64 x.b)).setCell ⟨g, off + j * 4 + 1, none⟩ (.int .i64 x.kind)).setCell ⟨g, off + j * 4 + 2, none⟩ (.int .i64 x.n)).setCell ⟨g, off + j * 4 + 3, none⟩ (.slice x.ao x.m x.cap)).heap[g]? := by rw [hW]; rfl
    rw [← hWh] at k8
    have hL := insA_length M x (j + 1) (by omega)
    have hL' := insA_length M x j (by omega)
    have hcur : ∀ k (hk : k < (insA M x (j + 1)).length), cur[off + k * 4]? = some (.float .f64 (insA M x (j + 1))[k].b) ∧ cur[off + k * 4 + 1]? = some (.int .i64 (insA M x (j + 1))[k].kind) ∧ cur[off + k * 4 + 2]? = some (.int .i64 (insA M x (j + 1))[k].n) ∧ cur[off + k * 4 + 3]? = some (.slice (insA M x (j + 1))[k].ao (insA M x (j + 1))[k].m (insA M x (j + 1))[k].cap) := fun k hk => by
      obtain ⟨b0, b1, b2, b3⟩ := cellsI_get (insA M x (j + 1)) k hk
      rw [← h4, List.getElem?_take, if_pos (by omega), List.getElem?_drop, Array.getElem?_toList] at b0 b1 b2 b3
      exact ⟨b0, by rw [Nat.add_assoc]; exact b1, by rw [Nat.add_assoc]; exact b2, by rw [Nat.add_assoc]; exact b3⟩
    refine ⟨C2, hasRow_cellsI k8 (by omega) h1 h2 (by simpa using h3) fun k hk => ?_⟩
    have hk2 := (List.getElem?_eq_getElem hk).symm
    rw [insA_get M x j (by omega)] at hk2
    have hmul : (j + 1) * 4 = j * 4 + 4 := by omega
    simp only [Array.getElem?_setIfInBounds, Array.size_setIfInBounds]
    by_cases c1 : k = j
    · subst c1
      rw [if_neg (by omega), if_pos rfl] at hk2
      injection hk2 with hk2
      rw [hk2]
      refine ⟨?_, ?_, ?_, ?_⟩
      · rw [if_neg (by omega), if_neg (by omega), if_neg (by omega), if_pos rfl, if_pos (by omega)]
      · rw [if_neg (by omega), if_neg (by omega), if_pos rfl, if_pos (by omega)]
      · rw [if_neg (by omega), if_pos rfl, if_pos (by omega)]
      · rw [if_pos rfl, if_pos (by omega)]
    · by_cases c2 : k = j + 1
      · subst c2
        rw [if_neg (by omega), if_neg (by omega), Nat.add_sub_cancel, List.getElem?_eq_getElem hj, hy] at hk2
        injection hk2 with hk2
        rw [hk2]
        refine ⟨?_, ?_, ?_, ?_⟩
        · rw [if_neg (by omega), if_neg (by omega), if_neg (by omega), if_neg (by omega), if_neg (by omega), if_neg (by omega), if_neg (by omega), if_pos rfl, if_pos (by omega)]
        · rw [if_neg (by omega), if_neg (by omega), if_neg (by omega), if_neg (by omega), if_neg (by omega), if_neg (by omega), if_pos rfl, if_pos (by omega)]
        · rw [if_neg (by omega), if_neg (by omega), if_neg (by omega), if_neg (by omega), if_neg (by omega), if_pos rfl, if_pos (by omega)]
        · rw [if_neg (by omega), if_neg (by omega), if_neg (by omega), if_neg (by omega), if_pos rfl, if_pos (by omega)]
      · have hk3 : k < (insA M x (j + 1)).length := by omega
        have b := hcur k hk3
        have hsame : (insA M x j)[k] = (insA M x (j + 1))[k] := by
          have e5 := (List.getElem?_eq_getElem hk3).symm
          rw [insA_get M x (j + 1) (by omega)] at e5
          have e6 : some (insA M x j)[k] = some (insA M x (j + 1))[k] := by
            rw [hk2, e5]
            by_cases c3 : k < j
            · rw [if_pos c3, if_pos (by omega)]
            · rw [if_neg c3, if_neg c1, if_neg (by omega), if_neg c2]
          injection e6
        rw [hsame]
        obtain ⟨b0, b1, b2, b3⟩ := b
        refine ⟨?_, ?_, ?_, ?_⟩ <;> (rw [if_neg (by omega), if_neg (by omega), if_neg (by omega), if_neg (by omega), if_neg (by omega), if_neg (by omega), if_neg (by omega), if_neg (by omega)]; assumption)
end Go.Proofs.Ytmcbgpjphjacjaa
