/-
  The reference queue: an insertion by exchanges, in plain Lean.
-/
import Derived.Test.YtaddnhdfdpaieaaRefBef
namespace Go.Proofs.Ytaddnhdfdpaieaa
set_option linter.unusedVariables false
open Go.RowKit

theorem cellsO_get (L : List Ele) : ∀ (k : Nat) (h : k < L.length), (cellsO L)[k * 2]? = some (.float .f64 L[k].1) ∧ (cellsO L)[k * 2 + 1]? = some (.int .i64 L[k].2.1) := by
  induction L with
  | nil => intro k h; simp at h
  | cons x L ih =>
    intro k hk
    rw [cellsO_cons]
    cases k with
    | zero => exact ⟨rfl, rfl⟩
    | succ k =>
      rw [List.getElem?_append_right (by simp; omega), List.getElem?_append_right (by simp; omega)]
      simp only [List.length_cons, List.length_nil, List.getElem_cons_succ]
      rw [show (k + 1) * 2 - (0 + 1 + 1) = k * 2 by omega, show (k + 1) * 2 + 1 - (0 + 1 + 1) = k * 2 + 1 by omega]
      exact ih k (by simpa using hk)

theorem hasRow_cells {w : World} {g off cap n : Nat} {cur : Array Value} {L : List Ele} (hg : w.heap[g]? = some (.cells cur 51 (0, 0))) (hn : L.length = n) (h1 : n ≤ cap) (h2 : cap ≤ maxLen) (h3 : off + cap * 2 ≤ cur.size)
    (h : ∀ k (hk : k < L.length), cur[off + k * 2]? = some (.float .f64 L[k].1) ∧ cur[off + k * 2 + 1]? = some (.int .i64 L[k].2.1)) :
    HasRow w 51 2 (.slice (some ⟨g, off, none⟩) n cap) n (cellsO L) := by
  refine ⟨by rw [cellsO_length, hn], .inr ⟨g, off, cap, cur, rfl, hg, h1, h2, h3, ?_⟩⟩
  apply List.ext_getElem?
  intro j
  rw [List.getElem?_take]
  by_cases hj : j < n * 2
  · rw [if_pos hj, List.getElem?_drop, Array.getElem?_toList]
    have hk : j / 2 < L.length := by omega
    obtain ⟨a1, a2⟩ := h (j / 2) hk
    obtain ⟨b1, b2⟩ := cellsO_get L (j / 2) hk
    rcases (by omega : j = j / 2 * 2 ∨ j = j / 2 * 2 + 1) with e | e
    · rw [← e] at a1 b1
      rw [a1, b1]
    · rw [Nat.add_assoc, ← e] at a2
      rw [← e] at b2
      rw [a2, b2]
  · rw [if_neg hj, List.getElem?_eq_none (by rw [cellsO_length]; omega)]

/-- The list with x at place i. -/
def insAt (M : List Ele) (x : Ele) (i : Nat) : List Ele := M.take i ++ x :: M.drop i

theorem insAt_length (M : List Ele) (x : Ele) (i : Nat) (h : i ≤ M.length) : (insAt M x i).length = M.length + 1 := by
  unfold insAt; simp; omega

theorem insAt_get (M : List Ele) (x : Ele) (i : Nat) (h : i ≤ M.length) (k : Nat) : (insAt M x i)[k]? = if k < i then M[k]? else if k = i then some x else M[k - 1]? := by
  unfold insAt
  have hl : (M.take i).length = i := by simp; omega
  rw [List.getElem?_append, hl]
  by_cases h1 : k < i
  · rw [if_pos h1, if_pos h1, List.getElem?_take, if_pos h1]
  · rw [if_neg h1, if_neg h1]
    by_cases h2 : k = i
    · subst h2; rw [Nat.sub_self, if_pos rfl]; rfl
    · rw [if_neg h2]
      obtain ⟨d, hd⟩ : ∃ d, k - i = d + 1 := ⟨k - i - 1, by omega⟩
      rw [hd, List.getElem?_cons_succ, List.getElem?_drop]
      congr 1
      omega

theorem insAt_end (M : List Ele) (x : Ele) : insAt M x M.length = M ++ [x] := by unfold insAt; simp

/-- One exchange in memory. -/
theorem step_row {w w8 W : World} {g off cap n : Nat} {M : List Ele} {x y : Ele} {j : Nat} (h : HasRow w 51 2 (.slice (some ⟨g, off, none⟩) n cap) n (cellsO (insAt M x (j + 1)))) (hj : j < M.length) (hn : M.length + 1 = n) (hy : M[j] = y)
    (h8 : w8 = ((w.setCell ⟨g, off + (j + 1) * 2, none⟩ (.float .f64 y.1)).setCell ⟨g, off + (j + 1) * 2 + 1, none⟩ (.int .i64 y.2.1)))
    (hW : W = ((w8.setCell ⟨g, off + j * 2, none⟩ (.float .f64 x.1)).setCell ⟨g, off + j * 2 + 1, none⟩ (.int .i64 x.2.1)).drew.drew) :
    Chg [g] w W ∧ HasRow W 51 2 (.slice (some ⟨g, off, none⟩) n cap) n (cellsO (insAt M x j)) := by
  rcases h.2 with ⟨e, _⟩ | ⟨g', off', cap', cur, e, hg, h1, h2, h3, h4⟩
  · cases e
  · injection e with e1 e2 e3
    injection e1 with e1
    injection e1 with e1 e4 _
    subst e1 e3 e4
    have k1 := setCell_heap (w := w) (i := off + (j + 1) * 2) (.float .f64 y.1) hg
    have k2 := setCell_heap (i := off + (j + 1) * 2 + 1) (.int .i64 y.2.1) k1
    rw [← h8] at k2
    have k3 := setCell_heap (w := w8) (i := off + j * 2) (.float .f64 x.1) k2
    have k4 := setCell_heap (i := off + j * 2 + 1) (.int .i64 x.2.1) k3
    have hWh : W.heap = ((w8.setCell ⟨g, off + j * 2, none⟩ (.float .f64 x.1)).setCell ⟨g, off + j * 2 + 1, none⟩ (.int .i64 x.2.1)).heap := by rw [hW]; rfl
    rw [← hWh] at k4
    have hL := insAt_length M x (j + 1) (by omega)
    have hL' := insAt_length M x j (by omega)
    have hcur : ∀ k (hk : k < (insAt M x (j + 1)).length), cur[off + k * 2]? = some (.float .f64 (insAt M x (j + 1))[k].1) ∧ cur[off + k * 2 + 1]? = some (.int .i64 (insAt M x (j + 1))[k].2.1) := fun k hk => by
      obtain ⟨b1, b2⟩ := cellsO_get (insAt M x (j + 1)) k hk
      rw [← h4, List.getElem?_take, if_pos (by omega), List.getElem?_drop, Array.getElem?_toList] at b1 b2
      exact ⟨b1, by rw [Nat.add_assoc]; exact b2⟩
    refine ⟨?_, hasRow_cells k4 (by omega) h1 h2 (by simpa using h3) fun k hk => ?_⟩
    · have C1 : Chg [g] w w8 := by
        rw [h8]
        exact ((Chg.refl [g] w).setCell (p := ⟨g, off + (j + 1) * 2, none⟩) (Or.inl List.mem_cons_self) _).setCell (p := ⟨g, off + (j + 1) * 2 + 1, none⟩) (Or.inl List.mem_cons_self) _
      rw [hW]
      exact (((C1.setCell (p := ⟨g, off + j * 2, none⟩) (Or.inl List.mem_cons_self) _).setCell (p := ⟨g, off + j * 2 + 1, none⟩) (Or.inl List.mem_cons_self) _).drew).drew
    · have hget : ∀ k (hk : k < (insAt M x j).length), some (insAt M x j)[k] = (insAt M x j)[k]? := fun k hk => (List.getElem?_eq_getElem hk).symm
      have hk2 := hget k hk
      rw [insAt_get M x j (by omega)] at hk2
      have hmul : (j + 1) * 2 = j * 2 + 2 := by omega
      simp only [Array.getElem?_setIfInBounds, Array.size_setIfInBounds]
      by_cases c1 : k = j
      · subst c1
        rw [if_neg (by omega), if_pos rfl] at hk2
        injection hk2 with hk2
        rw [hk2]
        refine ⟨?_, ?_⟩
        · rw [if_neg (by omega), if_pos rfl, if_pos (by omega)]
        · rw [if_pos rfl, if_pos (by omega)]
      · by_cases c2 : k = j + 1
        · subst c2
          rw [if_neg (by omega), if_neg (by omega), Nat.add_sub_cancel, List.getElem?_eq_getElem hj, hy] at hk2
          injection hk2 with hk2
          rw [hk2]
          refine ⟨?_, ?_⟩
          · rw [if_neg (by omega), if_neg (by omega), if_neg (by omega), if_pos rfl, if_pos (by omega)]
          · rw [if_neg (by omega), if_neg (by omega), if_pos rfl, if_pos (by omega)]
        · have hk3 : k < (insAt M x (j + 1)).length := by omega
          obtain ⟨b1, b2⟩ := hcur k hk3
          have hsame : (insAt M x j)[k] = (insAt M x (j + 1))[k] := by
            have e5 := (List.getElem?_eq_getElem hk3).symm
            rw [insAt_get M x (j + 1) (by omega)] at e5
            have e6 : some (insAt M x j)[k] = some (insAt M x (j + 1))[k] := by
              rw [hk2, e5]
              by_cases c3 : k < j
              · rw [if_pos c3, if_pos (by omega)]
              · rw [if_neg c3, if_neg c1, if_neg (by omega), if_neg c2]
            injection e6
          rw [hsame]
          refine ⟨?_, ?_⟩
          · rw [if_neg (by omega), if_neg (by omega), if_neg (by omega), if_neg (by omega)]; exact b1
          · rw [if_neg (by omega), if_neg (by omega), if_neg (by omega), if_neg (by omega)]; exact b2

/-- Where it stops is where it belongs. -/
theorem insAt_insQ (M : List Ele) (x : Ele) (i : Nat) (h : i ≤ M.length) (hs : M.Pairwise (fun x y => oE x < oE y)) (hok : ∀ y ∈ M, 0 ≤ y.2.2 ∧ y.2.2 < x.2.2) (hx : x.2.2 < 1000000)
    (hhi : ∀ k (hk : k < M.length), i ≤ k → keyF x.1 < keyF M[k].1) (hlo : ∀ (hi : 0 < i), keyF (M[i - 1]'(by omega)).1 ≤ keyF x.1) : insAt M x i = insQ oE M x := by
  have hA : ∀ y ∈ M.take i, decide (oE y < oE x) = true := fun y hy => by
    obtain ⟨k, hk, rfl⟩ := List.getElem_of_mem hy
    have hk1 : k < i := by have : (M.take i).length ≤ i := by simp; omega
                           omega
    have hk2 : k < M.length := by omega
    rw [List.getElem_take]
    have hl := hlo (by omega)
    have h1 := hok _ (List.getElem_mem hk2)
    have h2 := hok _ (List.getElem_mem (show i - 1 < M.length by omega))
    have hle : oE M[k] ≤ oE (M[i - 1]'(by omega)) := by
      by_cases e : k = i - 1
      · subst e; exact Nat.le_refl _
      · exact Nat.le_of_lt (List.pairwise_iff_getElem.1 hs k (i - 1) hk2 (by omega) (by omega))
    apply decide_eq_true
    unfold oE at hle ⊢
    omega
  have hB : ∀ y ∈ M.drop i, ¬ (decide (oE y < oE x) = true) := fun y hy => by
    obtain ⟨k, hk, rfl⟩ := List.getElem_of_mem hy
    have hk2 : i + k < M.length := by simp at hk; omega
    rw [List.getElem_drop]
    have hl := hhi (i + k) hk2 (by omega)
    have h1 := hok _ (List.getElem_mem hk2)
    intro hd
    have := of_decide_eq_true hd
    unfold oE at this
    omega
  unfold insAt insQ
  have e1 : M.filter (fun y => decide (oE y < oE x)) = M.take i := by
    conv => lhs; rw [← List.take_append_drop i M]
    rw [List.filter_append, List.filter_eq_self.2 hA, List.filter_eq_nil_iff.2 hB, List.append_nil]
  have e2 : M.filter (fun y => !decide (oE y < oE x)) = M.drop i := by
    conv => lhs; rw [← List.take_append_drop i M]
    rw [List.filter_append, List.filter_eq_nil_iff.2 (fun y hy => by rw [hA y hy]; simp), List.filter_eq_self.2 (fun y hy => by have := hB y hy; simpa using this), List.nil_append]
  rw [e1, e2]
end Go.Proofs.Ytaddnhdfdpaieaa
