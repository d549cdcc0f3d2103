import Derived.Test.YtafmnkngjjnpiaaGreatDoorTpM
namespace Go.Proofs.YtafmnkngjjnpiaaGreatDoor
set_option linter.unusedVariables false
set_option linter.unusedSimpArgs false
set_option maxRecDepth 100000
open Go.RowKit
theorem count_set : ∀ (l : List Bool) (i : Nat), l[i]? = some false → (l.set i true).count false + 1 = l.count false
  | [], i, h => by cases h
  | x :: l, 0, h => by
    injection h with h
    subst h
    simp
  | x :: l, i + 1, h => by
    have := count_set l i h
    rw [List.set_cons_succ, List.count_cons, List.count_cons]
    omega
theorem getD_bit {L : Array Bool} {i : Nat} (h : L.getD i true = false) : i < L.size ∧ L.toList[i]? = some false := by
  rw [Array.getD_eq_getD_getElem?] at h
  rcases Nat.lt_or_ge i L.size with hi | hi
  · refine ⟨hi, ?_⟩
    rw [Array.getElem?_eq_getElem hi] at h
    rw [Array.getElem?_toList, Array.getElem?_eq_getElem hi]
    exact congrArg some h
  · rw [Array.getElem?_eq_none hi] at h
    cases h
theorem wpAny_inv {P : Program} {md : Region.Mode} {ops : Array Oper} {Q : Exit → Act → World → Prop} (I : Array Bool → Act → World → Prop)
    (hd : ∀ L a w, I L a w → Region.ready md ops L = [] → Q .normal a w) (hs : ∀ L a w i, I L a w → i ∈ Region.ready md ops L → wpOp P ops Q i (I (L.setIfInBounds i true)) a w) :
    ∀ fuel L a w, I L a w → L.toList.count false ≤ fuel → wpAny P md ops Q fuel L a w := by
  intro fuel
  induction fuel with
  | zero =>
    intro L a w h hc
    have hr : Region.ready md ops L = [] := by
      rw [Region.ready, List.filter_eq_nil_iff]
      intro i hi hx
      simp only [Bool.and_eq_true, Bool.not_eq_true'] at hx
      obtain ⟨_, hb⟩ := getD_bit hx.1
      have := count_set _ _ hb
      omega
    exact ⟨hr, hd L a w h hr⟩
  | succ fuel ih =>
    intro L a w h hc
    refine ⟨fun hr => hd L a w h hr, fun i hi => wpOp_mono (fun a w hI => ih _ a w hI ?_) (hs L a w i h hi)⟩
    have hx := hi
    rw [Region.ready, List.mem_filter] at hx
    simp only [Bool.and_eq_true, Bool.not_eq_true'] at hx
    obtain ⟨_, hb⟩ := getD_bit hx.2.1
    have := count_set _ _ hb
    rw [Array.toList_setIfInBounds]
    omega
def bit (L : Array Bool) (i : Nat) : Bool := L.getD i false
theorem bit_same {L : Array Bool} {i : Nat} (h : i < L.size) : bit (L.setIfInBounds i true) i = true := by
  unfold bit
  rw [Array.getD_eq_getD_getElem?, Array.getElem?_setIfInBounds, if_pos rfl, if_pos h]
  rfl
theorem bit_other {L : Array Bool} {i j : Nat} (h : i ≠ j) : bit (L.setIfInBounds i true) j = bit L j := by
  unfold bit
  rw [Array.getD_eq_getD_getElem?, Array.getElem?_setIfInBounds, if_neg h, ← Array.getD_eq_getD_getElem?]
theorem bo {L : Array Bool} {i j : Nat} (h : i ≠ j) (hb : bit (L.setIfInBounds i true) j = true) : bit L j = true := by rw [bit_other h] at hb; exact hb
end Go.Proofs.YtafmnkngjjnpiaaGreatDoor

namespace Go.Proofs.YtafmnkngjjnpiaaGreatDoor
set_option linter.unusedVariables false
set_option linter.unusedSimpArgs false
set_option maxRecDepth 100000
open Go.RowKit
def wantC (L : Array Bool) (k : Int) : Option Value :=
  if bit L 2 = true ∧ k = 13 then some (.int .i64 1) else if bit L 4 = true ∧ k = 10 then some (.int .i64 1) else if bit L 6 = true ∧ k = 8 then some (.int .i64 2) else if bit L 7 = true ∧ k = 127 then some (.int .i64 2) else if bit L 9 = true ∧ k = 2 then some (.int .i64 4) else if bit L 11 = true ∧ k = 6 then some (.int .i64 5) else if bit L 13 = true ∧ k = 1 then some (.int .i64 6) else if bit L 15 = true ∧ k = 5 then some (.int .i64 7) else if bit L 17 = true ∧ k = 21 then some (.int .i64 8) else if bit L 19 = true ∧ k = 11 then some (.int .i64 9) else if bit L 21 = true ∧ k = 12 then some (.int .i64 10) else if bit L 23 = true ∧ k = 3 then some (.int .i64 11) else if bit L 25 = true ∧ k = 4 then some (.int .i64 12) else none
def charV (k : Int) : Option Value := (charK k).map (.int .i64)
structure CharI (w0 : World) (b : Nat) (L : Array Bool) (a : Act) (w : World) : Prop where
  size : L.size = 28
  act : ∃ u0 u1 u2 u3 u4 u5 u6 u7 u8 u9 u10 u11 u12 u13 u14 : Value, a = ⟨#[u0, u1, u2, u3, u4, u5, u6, u7, u8, u9, u10, u11, u12, u13, u14], []⟩ ∧ (bit L 0 = true → u1 = .map (some b)) ∧ (bit L 1 = true → u2 = .int .i64 13) ∧ (bit L 3 = true → u3 = .int .i64 10) ∧ (bit L 5 = true → u4 = .int .i64 8) ∧ (bit L 8 = true → u5 = .int .i64 2) ∧ (bit L 10 = true → u6 = .int .i64 6) ∧ (bit L 12 = true → u7 = .int .i64 1) ∧ (bit L 14 = true → u8 = .int .i64 5) ∧ (bit L 16 = true → u9 = .int .i64 21) ∧ (bit L 18 = true → u10 = .int .i64 11) ∧ (bit L 20 = true → u11 = .int .i64 12) ∧ (bit L 22 = true → u12 = .int .i64 3) ∧ (bit L 24 = true → u13 = .int .i64 4) ∧ (bit L 26 = true → u14 = .map (some b)) ∧ (bit L 27 = true → u0 = .map (some b))
  none0 : bit L 0 = false → Chg [] w0 w ∧ w.heap.size = b ∧ ∀ k, wantC L k = none
  some0 : bit L 0 = true → ∃ es c, w.heap[b]? = some (.map es c) ∧ MapV (Value.int .i64) (.int .i64) es (wantC L) ∧ Chg [] w0 w
  lo : w0.heap.size ≤ b
theorem want_2 {L : Array Bool} (h : L.size = 28) (hb : bit L 2 = false) : wantC (L.setIfInBounds 2 true) = (fun k => if k = 13 then some (.int .i64 1) else wantC L k) ∧ wantC L 13 = none := by
  refine ⟨?_, by unfold wantC; simp [hb]⟩
  funext k
  unfold wantC
  simp only [bit_same (show 2 < L.size by omega), bit_other (L := L) (show 2 ≠ 4 by decide), bit_other (L := L) (show 2 ≠ 6 by decide), bit_other (L := L) (show 2 ≠ 7 by decide), bit_other (L := L) (show 2 ≠ 9 by decide), bit_other (L := L) (show 2 ≠ 11 by decide), bit_other (L := L) (show 2 ≠ 13 by decide), bit_other (L := L) (show 2 ≠ 15 by decide), bit_other (L := L) (show 2 ≠ 17 by decide), bit_other (L := L) (show 2 ≠ 19 by decide), bit_other (L := L) (show 2 ≠ 21 by decide), bit_other (L := L) (show 2 ≠ 23 by decide), bit_other (L := L) (show 2 ≠ 25 by decide), hb]
  by_cases hk : k = 13
  · subst hk; simp
  · simp [hk]
theorem want_4 {L : Array Bool} (h : L.size = 28) (hb : bit L 4 = false) : wantC (L.setIfInBounds 4 true) = (fun k => if k = 10 then some (.int .i64 1) else wantC L k) ∧ wantC L 10 = none := by
  refine ⟨?_, by unfold wantC; simp [hb]⟩
  funext k
  unfold wantC
  simp only [bit_same (show 4 < L.size by omega), bit_other (L := L) (show 4 ≠ 2 by decide), bit_other (L := L) (show 4 ≠ 6 by decide), bit_other (L := L) (show 4 ≠ 7 by decide), bit_other (L := L) (show 4 ≠ 9 by decide), bit_other (L := L) (show 4 ≠ 11 by decide), bit_other (L := L) (show 4 ≠ 13 by decide), bit_other (L := L) (show 4 ≠ 15 by decide), bit_other (L := L) (show 4 ≠ 17 by decide), bit_other (L := L) (show 4 ≠ 19 by decide), bit_other (L := L) (show 4 ≠ 21 by decide), bit_other (L := L) (show 4 ≠ 23 by decide), bit_other (L := L) (show 4 ≠ 25 by decide), hb]
  by_cases hk : k = 10
  · subst hk; simp
  · simp [hk]
theorem want_6 {L : Array Bool} (h : L.size = 28) (hb : bit L 6 = false) : wantC (L.setIfInBounds 6 true) = (fun k => if k = 8 then some (.int .i64 2) else wantC L k) ∧ wantC L 8 = none := by
  refine ⟨?_, by unfold wantC; simp [hb]⟩
  funext k
  unfold wantC
  simp only [bit_same (show 6 < L.size by omega), bit_other (L := L) (show 6 ≠ 2 by decide), bit_other (L := L) (show 6 ≠ 4 by decide), bit_other (L := L) (show 6 ≠ 7 by decide), bit_other (L := L) (show 6 ≠ 9 by decide), bit_other (L := L) (show 6 ≠ 11 by decide), bit_other (L := L) (show 6 ≠ 13 by decide), bit_other (L := L) (show 6 ≠ 15 by decide), bit_other (L := L) (show 6 ≠ 17 by decide), bit_other (L := L) (show 6 ≠ 19 by decide), bit_other (L := L) (show 6 ≠ 21 by decide), bit_other (L := L) (show 6 ≠ 23 by decide), bit_other (L := L) (show 6 ≠ 25 by decide), hb]
  by_cases hk : k = 8
  · subst hk; simp
  · simp [hk]
theorem want_7 {L : Array Bool} (h : L.size = 28) (hb : bit L 7 = false) : wantC (L.setIfInBounds 7 true) = (fun k => if k = 127 then some (.int .i64 2) else wantC L k) ∧ wantC L 127 = none := by
  refine ⟨?_, by unfold wantC; simp [hb]⟩
  funext k
  unfold wantC
  simp only [bit_same (show 7 < L.size by omega), bit_other (L := L) (show 7 ≠ 2 by decide), bit_other (L := L) (show 7 ≠ 4 by decide), bit_other (L := L) (show 7 ≠ 6 by decide), bit_other (L := L) (show 7 ≠ 9 by decide), bit_other (L := L) (show 7 ≠ 11 by decide), bit_other (L := L) (show 7 ≠ 13 by decide), bit_other (L := L) (show 7 ≠ 15 by decide), bit_other (L := L) (show 7 ≠ 17 by decide), bit_other (L := L) (show 7 ≠ 19 by decide), bit_other (L := L) (show 7 ≠ 21 by decide), bit_other (L := L) (show 7 ≠ 23 by decide), bit_other (L := L) (show 7 ≠ 25 by decide), hb]
  by_cases hk : k = 127
  · subst hk; simp
  · simp [hk]
theorem want_9 {L : Array Bool} (h : L.size = 28) (hb : bit L 9 = false) : wantC (L.setIfInBounds 9 true) = (fun k => if k = 2 then some (.int .i64 4) else wantC L k) ∧ wantC L 2 = none := by
  refine ⟨?_, by unfold wantC; simp [hb]⟩
  funext k
  unfold wantC
  simp only [bit_same (show 9 < L.size by omega), bit_other (L := L) (show 9 ≠ 2 by decide), bit_other (L := L) (show 9 ≠ 4 by decide), bit_other (L := L) (show 9 ≠ 6 by decide), bit_other (L := L) (show 9 ≠ 7 by decide), bit_other (L := L) (show 9 ≠ 11 by decide), bit_other (L := L) (show 9 ≠ 13 by decide), bit_other (L := L) (show 9 ≠ 15 by decide), bit_other (L := L) (show 9 ≠ 17 by decide), bit_other (L := L) (show 9 ≠ 19 by decide), bit_other (L := L) (show 9 ≠ 21 by decide), bit_other (L := L) (show 9 ≠ 23 by decide), bit_other (L := L) (show 9 ≠ 25 by decide), hb]
  by_cases hk : k = 2
  · subst hk; simp
  · simp [hk]
theorem want_11 {L : Array Bool} (h : L.size = 28) (hb : bit L 11 = false) : wantC (L.setIfInBounds 11 true) = (fun k => if k = 6 then some (.int .i64 5) else wantC L k) ∧ wantC L 6 = none := by
  refine ⟨?_, by unfold wantC; simp [hb]⟩
  funext k
  unfold wantC
  simp only [bit_same (show 11 < L.size by omega), bit_other (L := L) (show 11 ≠ 2 by decide), bit_other (L := L) (show 11 ≠ 4 by decide), bit_other (L := L) (show 11 ≠ 6 by decide), bit_other (L := L) (show 11 ≠ 7 by decide), bit_other (L := L) (show 11 ≠ 9 by decide), bit_other (L := L) (show 11 ≠ 13 by decide), bit_other (L := L) (show 11 ≠ 15 by decide), bit_other (L := L) (show 11 ≠ 17 by decide), bit_other (L := L) (show 11 ≠ 19 by decide), bit_other (L := L) (show 11 ≠ 21 by decide), bit_other (L := L) (show 11 ≠ 23 by decide), bit_other (L := L) (show 11 ≠ 25 by decide), hb]
  by_cases hk : k = 6
  · subst hk; simp
  · simp [hk]
theorem want_13 {L : Array Bool} (h : L.size = 28) (hb : bit L 13 = false) : wantC (L.setIfInBounds 13 true) = (fun k => if k = 1 then some (.int .i64 6) else wantC L k) ∧ wantC L 1 = none := by
  refine ⟨?_, by unfold wantC; simp [hb]⟩
  funext k
  unfold wantC
  simp only [bit_same (show 13 < L.size by omega), bit_other (L := L) (show 13 ≠ 2 by decide), bit_other (L := L) (show 13 ≠ 4 by decide), bit_other (L := L) (show 13 ≠ 6 by decide), bit_other (L := L) (show 13 ≠ 7 by decide), bit_other (L := L) (show 13 ≠ 9 by decide), bit_other (L := L) (show 13 ≠ 11 by decide), bit_other (L := L) (show 13 ≠ 15 by decide), bit_other (L := L) (show 13 ≠ 17 by decide), bit_other (L := L) (show 13 ≠ 19 by decide), bit_other (L := L) (show 13 ≠ 21 by decide), bit_other (L := L) (show 13 ≠ 23 by decide), bit_other (L := L) (show 13 ≠ 25 by decide), hb]
  by_cases hk : k = 1
  · subst hk; simp
  · simp [hk]
theorem want_15 {L : Array Bool} (h : L.size = 28) (hb : bit L 15 = false) : wantC (L.setIfInBounds 15 true) = (fun k => if k = 5 then some (.int .i64 7) else wantC L k) ∧ wantC L 5 = none := by
  refine ⟨?_, by unfold wantC; simp [hb]⟩
  funext k
  unfold wantC
  simp only [bit_same (show 15 < L.size by omega), bit_other (L := L) (show 15 ≠ 2 by decide), bit_other (L := L) (show 15 ≠ 4 by decide), bit_other (L := L) (show 15 ≠ 6 by decide), bit_other (L := L) (show 15 ≠ 7 by decide), bit_other (L := L) (show 15 ≠ 9 by decide), bit_other (L := L) (show 15 ≠ 11 by decide), bit_other (L := L) (show 15 ≠ 13 by decide), bit_other (L := L) (show 15 ≠ 17 by decide), bit_other (L := L) (show 15 ≠ 19 by decide), bit_other (L := L) (show 15 ≠ 21 by decide), bit_other (L := L) (show 15 ≠ 23 by decide), bit_other (L := L) (show 15 ≠ 25 by decide), hb]
  by_cases hk : k = 5
  · subst hk; simp
  · simp [hk]
theorem want_17 {L : Array Bool} (h : L.size = 28) (hb : bit L 17 = false) : wantC (L.setIfInBounds 17 true) = (fun k => if k = 21 then some (.int .i64 8) else wantC L k) ∧ wantC L 21 = none := by
  refine ⟨?_, by unfold wantC; simp [hb]⟩
  funext k
  unfold wantC
  simp only [bit_same (show 17 < L.size by omega), bit_other (L := L) (show 17 ≠ 2 by decide), bit_other (L := L) (show 17 ≠ 4 by decide), bit_other (L := L) (show 17 ≠ 6 by decide), bit_other (L := L) (show 17 ≠ 7 by decide), bit_other (L := L) (show 17 ≠ 9 by decide), bit_other (L := L) (show 17 ≠ 11 by decide), bit_other (L := L) (show 17 ≠ 13 by decide), bit_other (L := L) (show 17 ≠ 15 by decide), bit_other (L := L) (show 17 ≠ 19 by decide), bit_other (L := L) (show 17 ≠ 21 by decide), bit_other (L := L) (show 17 ≠ 23 by decide), bit_other (L := L) (show 17 ≠ 25 by decide), hb]
  by_cases hk : k = 21
  · subst hk; simp
  · simp [hk]
theorem want_19 {L : Array Bool} (h : L.size = 28) (hb : bit L 19 = false) : wantC (L.setIfInBounds 19 true) = (fun k => if k = 11 then some (.int .i64 9) else wantC L k) ∧ wantC L 11 = none := by
  refine ⟨?_, by unfold wantC; simp [hb]⟩
  funext k
  unfold wantC
  simp only [bit_same (show 19 < L.size by omega), bit_other (L := L) (show 19 ≠ 2 by decide), bit_other (L := L) (show 19 ≠ 4 by decide), bit_other (L := L) (show 19 ≠ 6 by decide), bit_other (L := L) (show 19 ≠ 7 by decide), bit_other (L := L) (show 19 ≠ 9 by decide), bit_other (L := L) (show 19 ≠ 11 by decide), bit_other (L := L) (show 19 ≠ 13 by decide), bit_other (L := L) (show 19 ≠ 15 by decide), bit_other (L := L) (show 19 ≠ 17 by decide), bit_other (L := L) (show 19 ≠ 21 by decide), bit_other (L := L) (show 19 ≠ 23 by decide), bit_other (L := L) (show 19 ≠ 25 by decide), hb]
  by_cases hk : k = 11
  · subst hk; simp
  · simp [hk]
theorem want_21 {L : Array Bool} (h : L.size = 28) (hb : bit L 21 = false) : wantC (L.setIfInBounds 21 true) = (fun k => if k = 12 then some (.int .i64 10) else wantC L k) ∧ wantC L 12 = none := by
  refine ⟨?_, by unfold wantC; simp [hb]⟩
  funext k
  unfold wantC
  simp only [bit_same (show 21 < L.size by omega), bit_other (L := L) (show 21 ≠ 2 by decide), bit_other (L := L) (show 21 ≠ 4 by decide), bit_other (L := L) (show 21 ≠ 6 by decide), bit_other (L := L) (show 21 ≠ 7 by decide), bit_other (L := L) (show 21 ≠ 9 by decide), bit_other (L := L) (show 21 ≠ 11 by decide), bit_other (L := L) (show 21 ≠ 13 by decide), bit_other (L := L) (show 21 ≠ 15 by decide), bit_other (L := L) (show 21 ≠ 17 by decide), bit_other (L := L) (show 21 ≠ 19 by decide), bit_other (L := L) (show 21 ≠ 23 by decide), bit_other (L := L) (show 21 ≠ 25 by decide), hb]
  by_cases hk : k = 12
  · subst hk; simp
  · simp [hk]
theorem want_23 {L : Array Bool} (h : L.size = 28) (hb : bit L 23 = false) : wantC (L.setIfInBounds 23 true) = (fun k => if k = 3 then some (.int .i64 11) else wantC L k) ∧ wantC L 3 = none := by
  refine ⟨?_, by unfold wantC; simp [hb]⟩
  funext k
  unfold wantC
  simp only [bit_same (show 23 < L.size by omega), bit_other (L := L) (show 23 ≠ 2 by decide), bit_other (L := L) (show 23 ≠ 4 by decide), bit_other (L := L) (show 23 ≠ 6 by decide), bit_other (L := L) (show 23 ≠ 7 by decide), bit_other (L := L) (show 23 ≠ 9 by decide), bit_other (L := L) (show 23 ≠ 11 by decide), bit_other (L := L) (show 23 ≠ 13 by decide), bit_other (L := L) (show 23 ≠ 15 by decide), bit_other (L := L) (show 23 ≠ 17 by decide), bit_other (L := L) (show 23 ≠ 19 by decide), bit_other (L := L) (show 23 ≠ 21 by decide), bit_other (L := L) (show 23 ≠ 25 by decide), hb]
  by_cases hk : k = 3
  · subst hk; simp
  · simp [hk]
theorem want_25 {L : Array Bool} (h : L.size = 28) (hb : bit L 25 = false) : wantC (L.setIfInBounds 25 true) = (fun k => if k = 4 then some (.int .i64 12) else wantC L k) ∧ wantC L 4 = none := by
  refine ⟨?_, by unfold wantC; simp [hb]⟩
  funext k
  unfold wantC
  simp only [bit_same (show 25 < L.size by omega), bit_other (L := L) (show 25 ≠ 2 by decide), bit_other (L := L) (show 25 ≠ 4 by decide), bit_other (L := L) (show 25 ≠ 6 by decide), bit_other (L := L) (show 25 ≠ 7 by decide), bit_other (L := L) (show 25 ≠ 9 by decide), bit_other (L := L) (show 25 ≠ 11 by decide), bit_other (L := L) (show 25 ≠ 13 by decide), bit_other (L := L) (show 25 ≠ 15 by decide), bit_other (L := L) (show 25 ≠ 17 by decide), bit_other (L := L) (show 25 ≠ 19 by decide), bit_other (L := L) (show 25 ≠ 21 by decide), bit_other (L := L) (show 25 ≠ 23 by decide), hb]
  by_cases hk : k = 4
  · subst hk; simp
  · simp [hk]
theorem want_other {L : Array Bool} {i : Nat} (h : i ≠ 2 ∧ i ≠ 4 ∧ i ≠ 6 ∧ i ≠ 7 ∧ i ≠ 9 ∧ i ≠ 11 ∧ i ≠ 13 ∧ i ≠ 15 ∧ i ≠ 17 ∧ i ≠ 19 ∧ i ≠ 21 ∧ i ≠ 23 ∧ i ≠ 25) : wantC (L.setIfInBounds i true) = wantC L := by
  funext k
  unfold wantC
  rw [bit_other (L := L) (show i ≠ 2 by omega), bit_other (L := L) (show i ≠ 4 by omega), bit_other (L := L) (show i ≠ 6 by omega), bit_other (L := L) (show i ≠ 7 by omega), bit_other (L := L) (show i ≠ 9 by omega), bit_other (L := L) (show i ≠ 11 by omega), bit_other (L := L) (show i ≠ 13 by omega), bit_other (L := L) (show i ≠ 15 by omega), bit_other (L := L) (show i ≠ 17 by omega), bit_other (L := L) (show i ≠ 19 by omega), bit_other (L := L) (show i ≠ 21 by omega), bit_other (L := L) (show i ≠ 23 by omega), bit_other (L := L) (show i ≠ 25 by omega)]
theorem want_all {L : Array Bool} (h : ∀ i, i < 28 → bit L i = true) : wantC L = charV := by
  funext k
  unfold wantC charV charK
  simp only [h 2 (by decide), h 4 (by decide), h 6 (by decide), h 7 (by decide), h 9 (by decide), h 11 (by decide), h 13 (by decide), h 15 (by decide), h 17 (by decide), h 19 (by decide), h 21 (by decide), h 23 (by decide), h 25 (by decide), true_and]
  simp only [apply_ite (Option.map (Value.int .i64)), Option.map_some, Option.map_none]
theorem ctrl_77 (w : World) : Calls Tryz.prog 145 #[.int .i32 77] w fun e w' => e = .returned (.int .i64 13) ∧ w = w' := by
  go_enter Tryz.func145, Tryz.ntmps145
  go_wp2_with fail
  go_ret
  exact ⟨by kernel_rfl, rfl⟩
theorem ctrl_74 (w : World) : Calls Tryz.prog 145 #[.int .i32 74] w fun e w' => e = .returned (.int .i64 10) ∧ w = w' := by
  go_enter Tryz.func145, Tryz.ntmps145
  go_wp2_with fail
  go_ret
  exact ⟨by kernel_rfl, rfl⟩
theorem ctrl_72 (w : World) : Calls Tryz.prog 145 #[.int .i32 72] w fun e w' => e = .returned (.int .i64 8) ∧ w = w' := by
  go_enter Tryz.func145, Tryz.ntmps145
  go_wp2_with fail
  go_ret
  exact ⟨by kernel_rfl, rfl⟩
theorem ctrl_66 (w : World) : Calls Tryz.prog 145 #[.int .i32 66] w fun e w' => e = .returned (.int .i64 2) ∧ w = w' := by
  go_enter Tryz.func145, Tryz.ntmps145
  go_wp2_with fail
  go_ret
  exact ⟨by kernel_rfl, rfl⟩
theorem ctrl_70 (w : World) : Calls Tryz.prog 145 #[.int .i32 70] w fun e w' => e = .returned (.int .i64 6) ∧ w = w' := by
  go_enter Tryz.func145, Tryz.ntmps145
  go_wp2_with fail
  go_ret
  exact ⟨by kernel_rfl, rfl⟩
theorem ctrl_65 (w : World) : Calls Tryz.prog 145 #[.int .i32 65] w fun e w' => e = .returned (.int .i64 1) ∧ w = w' := by
  go_enter Tryz.func145, Tryz.ntmps145
  go_wp2_with fail
  go_ret
  exact ⟨by kernel_rfl, rfl⟩
theorem ctrl_69 (w : World) : Calls Tryz.prog 145 #[.int .i32 69] w fun e w' => e = .returned (.int .i64 5) ∧ w = w' := by
  go_enter Tryz.func145, Tryz.ntmps145
  go_wp2_with fail
  go_ret
  exact ⟨by kernel_rfl, rfl⟩
theorem ctrl_85 (w : World) : Calls Tryz.prog 145 #[.int .i32 85] w fun e w' => e = .returned (.int .i64 21) ∧ w = w' := by
  go_enter Tryz.func145, Tryz.ntmps145
  go_wp2_with fail
  go_ret
  exact ⟨by kernel_rfl, rfl⟩
theorem ctrl_75 (w : World) : Calls Tryz.prog 145 #[.int .i32 75] w fun e w' => e = .returned (.int .i64 11) ∧ w = w' := by
  go_enter Tryz.func145, Tryz.ntmps145
  go_wp2_with fail
  go_ret
  exact ⟨by kernel_rfl, rfl⟩
theorem ctrl_76 (w : World) : Calls Tryz.prog 145 #[.int .i32 76] w fun e w' => e = .returned (.int .i64 12) ∧ w = w' := by
  go_enter Tryz.func145, Tryz.ntmps145
  go_wp2_with fail
  go_ret
  exact ⟨by kernel_rfl, rfl⟩
theorem ctrl_67 (w : World) : Calls Tryz.prog 145 #[.int .i32 67] w fun e w' => e = .returned (.int .i64 3) ∧ w = w' := by
  go_enter Tryz.func145, Tryz.ntmps145
  go_wp2_with fail
  go_ret
  exact ⟨by kernel_rfl, rfl⟩
theorem ctrl_68 (w : World) : Calls Tryz.prog 145 #[.int .i32 68] w fun e w' => e = .returned (.int .i64 4) ∧ w = w' := by
  go_enter Tryz.func145, Tryz.ntmps145
  go_wp2_with fail
  go_ret
  exact ⟨by kernel_rfl, rfl⟩
def CharsPost (w : World) (e : Ending) (w' : World) : Prop := ∃ b es c, e = .returned (.map (some b)) ∧ Chg [] w w' ∧ w'.heap[b]? = some (.map es c) ∧ MapV (Value.int .i64) (.int .i64) es charV ∧ w.heap.size ≤ b
theorem char_bits {L : Array Bool} (hs : L.size = 28) (hr : ∀ i, i < 28 → bit L i = false → (∀ j, j < i → bit L j = true) → False) : ∀ i, i < 28 → bit L i = true := by
  intro i
  induction i using Nat.strongRecOn with
  | _ i ih =>
    intro hi
    cases hb : bit L i with
    | true => rfl
    | false => exact (hr i hi hb (fun j hj => ih j hj (by omega))).elim
theorem bit_getD {L : Array Bool} {i : Nat} (h : i < L.size) (d : Bool) : L.getD i d = bit L i := by
  unfold bit
  rw [Array.getD_eq_getD_getElem?, Array.getD_eq_getD_getElem?, Array.getElem?_eq_getElem h]
  rfl
theorem dep_of {ops : Array Oper} {L : Array Bool} {i j : Nat} {o : Oper} (ho : ops[i]? = some o) (hm : (o.after.any fun e => Region.binds .any e && e.on == j) = true)
    (h : ((ops[i]?).map (·.after.all fun e => !Region.binds .any e || L.getD e.on false)).getD false = true) : bit L j = true := by
  rw [ho] at h
  simp only [Option.map_some, Option.getD_some] at h
  obtain ⟨e, he, hb⟩ := Array.any_eq_true'.1 hm
  simp only [Bool.and_eq_true, beq_iff_eq] at hb
  have := Array.all_eq_true'.1 h e he
  rw [hb.1, hb.2] at this
  simpa [bit] using this
theorem ready_mem {ops : Array Oper} {L : Array Bool} {i : Nat} {o : Oper} (ho : ops[i]? = some o) (hi : i < ops.size) (hs : i < L.size) (hb : bit L i = false) (hlt : (o.after.all fun e => decide (e.on < i)) = true) (hj : ∀ j, j < i → bit L j = true) :
    i ∈ Region.ready .any ops L := by
  rw [Region.ready, List.mem_filter]
  refine ⟨List.mem_range.2 hi, ?_⟩
  rw [ho, show L.getD i true = false by rw [bit_getD hs]; exact hb]
  simp only [Bool.not_false, Bool.true_and, Option.map_some, Option.getD_some]
  refine Array.all_eq_true'.2 (fun e he => ?_)
  have := Array.all_eq_true'.1 hlt e he
  have h2 := hj e.on (of_decide_eq_true this)
  simp only [bit] at h2
  rw [h2, Bool.or_true]
set_option maxHeartbeats 32000000 in
theorem chars_any (w : World) : Calls Tryz.prog 119 #[] w (CharsPost w) := by
  have hmm := @run_makeMap Tryz.prog
  go_enter Tryz.func119, Tryz.ntmps119
  go_wp2_with fail
  refine wp_region_any (by kernel_rfl) ?_
  refine wpAny_inv (CharI w w.heap.size) ?_ ?_ _ _ _ _ ?_ ?_
  · intro L a w1 hI hr
    have hall := char_bits hI.size (fun i hi hb hj => by
      have hn : ∀ j, ¬ j ∈ ([] : List Nat) := by simp
      rw [← hr] at hn
      refine hn i ?_
      rcases (by omega : i = 0 ∨ i = 1 ∨ i = 2 ∨ i = 3 ∨ i = 4 ∨ i = 5 ∨ i = 6 ∨ i = 7 ∨ i = 8 ∨ i = 9 ∨ i = 10 ∨ i = 11 ∨ i = 12 ∨ i = 13 ∨ i = 14 ∨ i = 15 ∨ i = 16 ∨ i = 17 ∨ i = 18 ∨ i = 19 ∨ i = 20 ∨ i = 21 ∨ i = 22 ∨ i = 23 ∨ i = 24 ∨ i = 25 ∨ i = 26 ∨ i = 27) with rfl | rfl | rfl | rfl | rfl | rfl | rfl | rfl | rfl | rfl | rfl | rfl | rfl | rfl | rfl | rfl | rfl | rfl | rfl | rfl | rfl | rfl | rfl | rfl | rfl | rfl | rfl | rfl <;> exact ready_mem rfl (by decide) (by rw [hI.size]; exact hi) hb (by kernel_rfl) hj)
    obtain ⟨es, cc, m0, m1, m2⟩ := hI.some0 (hall 0 (by decide))
    rw [want_all hall] at m1
    obtain ⟨u0, u1, u2, u3, u4, u5, u6, u7, u8, u9, u10, u11, u12, u13, u14, rfl, p0, p1, p2, p3, p4, p5, p6, p7, p8, p9, p10, p11, p12, p13, p14⟩ := hI.act
    obtain rfl := p14 (hall 27 (by decide))
    have HE := Lib.hid (show CharsPost w (.returned (.map (some w.heap.size))) w1 from ⟨_, es, cc, rfl, m2, m0, m1, Nat.le_refl _⟩)
    clear p0 p1 p2 p3 p4 p5 p6 p7 p8 p9 p10 p11 p12 p13 p14 hall m0 m1 m2 hI hr
    go_wp2_with fail
    go_ret
    exact HE.out
  · intro L a w1 i hI hi
    have hi' := hi
    rw [Region.ready, List.mem_filter] at hi'
    obtain ⟨hlt, hrd⟩ := hi'
    replace hlt : i < 28 := List.mem_range.1 hlt
    simp only [Bool.and_eq_true, Bool.not_eq_true'] at hrd
    obtain ⟨hfree, hdep⟩ := hrd
    rw [bit_getD (by rw [hI.size]; exact hlt)] at hfree
    clear hi
    have hsz := hI.size
    have hlo := hI.lo
    obtain ⟨u0, u1, u2, u3, u4, u5, u6, u7, u8, u9, u10, u11, u12, u13, u14, rfl, p0, p1, p2, p3, p4, p5, p6, p7, p8, p9, p10, p11, p12, p13, p14⟩ := hI.act
    rcases (by omega : i = 0 ∨ i = 1 ∨ i = 2 ∨ i = 3 ∨ i = 4 ∨ i = 5 ∨ i = 6 ∨ i = 7 ∨ i = 8 ∨ i = 9 ∨ i = 10 ∨ i = 11 ∨ i = 12 ∨ i = 13 ∨ i = 14 ∨ i = 15 ∨ i = 16 ∨ i = 17 ∨ i = 18 ∨ i = 19 ∨ i = 20 ∨ i = 21 ∨ i = 22 ∨ i = 23 ∨ i = 24 ∨ i = 25 ∨ i = 26 ∨ i = 27) with rfl | rfl | rfl | rfl | rfl | rfl | rfl | rfl | rfl | rfl | rfl | rfl | rfl | rfl | rfl | rfl | rfl | rfl | rfl | rfl | rfl | rfl | rfl | rfl | rfl | rfl | rfl | rfl
    · obtain ⟨c0, s0, n0⟩ := hI.none0 hfree
      have b0 : w1.heap.size = w.heap.size → (w1.alloc (.map #[] 0)).heap[w.heap.size]? = some (.map #[] 0) := fun e => by rw [← e]; exact alloc_heap w1 _
      have hw := want_other (L := L) (i := 0) (by decide)
      have HE := Lib.hid (And.intro c0 (And.intro s0 (And.intro n0 (And.intro b0 hw))))
      clear c0 s0 n0 b0 hw
      clear hdep
      refine wpOp_step rfl ?_
      intro K' hK'
      rw [if_pos (by rfl)]
      go_wp2_with fail
      refine ⟨by simpa using hsz, ⟨_, _, _, _, _, _, _, _, _, _, _, _, _, _, _, rfl, fun _ => by rw [HE.out.2.1], fun h => p1 (bo (by decide) h), fun h => p2 (bo (by decide) h), fun h => p3 (bo (by decide) h), fun h => p4 (bo (by decide) h), fun h => p5 (bo (by decide) h), fun h => p6 (bo (by decide) h), fun h => p7 (bo (by decide) h), fun h => p8 (bo (by decide) h), fun h => p9 (bo (by decide) h), fun h => p10 (bo (by decide) h), fun h => p11 (bo (by decide) h), fun h => p12 (bo (by decide) h), fun h => p13 (bo (by decide) h), fun h => p14 (bo (by decide) h)⟩, fun h => (by rw [bit_same (by omega)] at h; cases h), fun _ => ?_, hlo⟩
      refine ⟨#[], 0, HE.out.2.2.2.1 HE.out.2.1, ?_, HE.out.1.alloc _⟩
      rw [HE.out.2.2.2.2, show wantC L = fun _ => none from funext HE.out.2.2.1]
      exact MapV.nil _ _
    · have hw := want_other (L := L) (i := 1) (by decide)
      have HW := Lib.hid hw
      clear hw
      clear hdep
      refine wpOp_step rfl ?_
      intro K' hK'
      rw [if_pos (by rfl)]
      go_wp2_with fail
      refine (ctrl_77 _).mono ?_
      rintro e w2 ⟨rfl, rfl⟩
      refine hK' _ _ ⟨by simpa using hsz, ⟨_, _, _, _, _, _, _, _, _, _, _, _, _, _, _, rfl, fun h => p0 (bo (by decide) h), fun _ => rfl, fun h => p2 (bo (by decide) h), fun h => p3 (bo (by decide) h), fun h => p4 (bo (by decide) h), fun h => p5 (bo (by decide) h), fun h => p6 (bo (by decide) h), fun h => p7 (bo (by decide) h), fun h => p8 (bo (by decide) h), fun h => p9 (bo (by decide) h), fun h => p10 (bo (by decide) h), fun h => p11 (bo (by decide) h), fun h => p12 (bo (by decide) h), fun h => p13 (bo (by decide) h), fun h => p14 (bo (by decide) h)⟩, fun h => ?_, fun h => ?_, hlo⟩
      · rw [bit_other (by decide)] at h; rw [HW.out]; exact hI.none0 h
      · rw [bit_other (by decide)] at h; rw [HW.out]; exact hI.some0 h
    · have h0 : bit L 0 = true := dep_of (j := 0) rfl (by kernel_rfl) hdep
      have hc : bit L 1 = true := dep_of (j := 1) rfl (by kernel_rfl) hdep
      obtain ⟨es, cc, m0, m1, m2⟩ := hI.some0 h0
      obtain ⟨hw, hn⟩ := want_2 hsz hfree
      obtain ⟨w3, es3, r3, n1, n2, n3, _⟩ := MapV.put (mt := 192) Tryz.underlying192 Tryz.underlying3 m1 keyI keyI_inj m0 13 hn (.int .i64 1)
      obtain rfl := p0 h0
      obtain rfl := p1 hc
      have HE := Lib.hid (And.intro m2 (And.intro hw (And.intro n1 (And.intro n2 n3))))
      clear m0 m1 m2 hw hn n1 n2 n3
      clear hdep
      refine wpOp_step rfl ?_
      intro K' hK'
      rw [if_pos (by rfl)]
      go_wp2_with fail
      refine ⟨by simpa using hsz, ⟨_, _, _, _, _, _, _, _, _, _, _, _, _, _, _, rfl, fun _ => rfl, fun _ => rfl, fun h => p2 (bo (by decide) h), fun h => p3 (bo (by decide) h), fun h => p4 (bo (by decide) h), fun h => p5 (bo (by decide) h), fun h => p6 (bo (by decide) h), fun h => p7 (bo (by decide) h), fun h => p8 (bo (by decide) h), fun h => p9 (bo (by decide) h), fun h => p10 (bo (by decide) h), fun h => p11 (bo (by decide) h), fun h => p12 (bo (by decide) h), fun h => p13 (bo (by decide) h), fun h => p14 (bo (by decide) h)⟩, fun h => ?_, fun _ => ?_, hlo⟩
      · rw [bit_other (by decide), h0] at h; cases h
      · rw [HE.out.2.1]; exact ⟨_, _, HE.out.2.2.1, HE.out.2.2.2.1, HE.out.1.trans HE.out.2.2.2.2 (U := []) (by simp) (fun x hx hl => by have := List.mem_singleton.1 hx; omega)⟩
    · have hw := want_other (L := L) (i := 3) (by decide)
      have HW := Lib.hid hw
      clear hw
      clear hdep
      refine wpOp_step rfl ?_
      intro K' hK'
      rw [if_pos (by rfl)]
      go_wp2_with fail
      refine (ctrl_74 _).mono ?_
      rintro e w2 ⟨rfl, rfl⟩
      refine hK' _ _ ⟨by simpa using hsz, ⟨_, _, _, _, _, _, _, _, _, _, _, _, _, _, _, rfl, fun h => p0 (bo (by decide) h), fun h => p1 (bo (by decide) h), fun _ => rfl, fun h => p3 (bo (by decide) h), fun h => p4 (bo (by decide) h), fun h => p5 (bo (by decide) h), fun h => p6 (bo (by decide) h), fun h => p7 (bo (by decide) h), fun h => p8 (bo (by decide) h), fun h => p9 (bo (by decide) h), fun h => p10 (bo (by decide) h), fun h => p11 (bo (by decide) h), fun h => p12 (bo (by decide) h), fun h => p13 (bo (by decide) h), fun h => p14 (bo (by decide) h)⟩, fun h => ?_, fun h => ?_, hlo⟩
      · rw [bit_other (by decide)] at h; rw [HW.out]; exact hI.none0 h
      · rw [bit_other (by decide)] at h; rw [HW.out]; exact hI.some0 h
    · have h0 : bit L 0 = true := dep_of (j := 0) rfl (by kernel_rfl) hdep
      have hc : bit L 3 = true := dep_of (j := 3) rfl (by kernel_rfl) hdep
      obtain ⟨es, cc, m0, m1, m2⟩ := hI.some0 h0
      obtain ⟨hw, hn⟩ := want_4 hsz hfree
      obtain ⟨w3, es3, r3, n1, n2, n3, _⟩ := MapV.put (mt := 192) Tryz.underlying192 Tryz.underlying3 m1 keyI keyI_inj m0 10 hn (.int .i64 1)
      obtain rfl := p0 h0
      obtain rfl := p2 hc
      have HE := Lib.hid (And.intro m2 (And.intro hw (And.intro n1 (And.intro n2 n3))))
      clear m0 m1 m2 hw hn n1 n2 n3
      clear hdep
      refine wpOp_step rfl ?_
      intro K' hK'
      rw [if_pos (by rfl)]
      go_wp2_with fail
      refine ⟨by simpa using hsz, ⟨_, _, _, _, _, _, _, _, _, _, _, _, _, _, _, rfl, fun _ => rfl, fun h => p1 (bo (by decide) h), fun _ => rfl, fun h => p3 (bo (by decide) h), fun h => p4 (bo (by decide) h), fun h => p5 (bo (by decide) h), fun h => p6 (bo (by decide) h), fun h => p7 (bo (by decide) h), fun h => p8 (bo (by decide) h), fun h => p9 (bo (by decide) h), fun h => p10 (bo (by decide) h), fun h => p11 (bo (by decide) h), fun h => p12 (bo (by decide) h), fun h => p13 (bo (by decide) h), fun h => p14 (bo (by decide) h)⟩, fun h => ?_, fun _ => ?_, hlo⟩
      · rw [bit_other (by decide), h0] at h; cases h
      · rw [HE.out.2.1]; exact ⟨_, _, HE.out.2.2.1, HE.out.2.2.2.1, HE.out.1.trans HE.out.2.2.2.2 (U := []) (by simp) (fun x hx hl => by have := List.mem_singleton.1 hx; omega)⟩
    · have hw := want_other (L := L) (i := 5) (by decide)
      have HW := Lib.hid hw
      clear hw
      clear hdep
      refine wpOp_step rfl ?_
      intro K' hK'
      rw [if_pos (by rfl)]
      go_wp2_with fail
      refine (ctrl_72 _).mono ?_
      rintro e w2 ⟨rfl, rfl⟩
      refine hK' _ _ ⟨by simpa using hsz, ⟨_, _, _, _, _, _, _, _, _, _, _, _, _, _, _, rfl, fun h => p0 (bo (by decide) h), fun h => p1 (bo (by decide) h), fun h => p2 (bo (by decide) h), fun _ => rfl, fun h => p4 (bo (by decide) h), fun h => p5 (bo (by decide) h), fun h => p6 (bo (by decide) h), fun h => p7 (bo (by decide) h), fun h => p8 (bo (by decide) h), fun h => p9 (bo (by decide) h), fun h => p10 (bo (by decide) h), fun h => p11 (bo (by decide) h), fun h => p12 (bo (by decide) h), fun h => p13 (bo (by decide) h), fun h => p14 (bo (by decide) h)⟩, fun h => ?_, fun h => ?_, hlo⟩
      · rw [bit_other (by decide)] at h; rw [HW.out]; exact hI.none0 h
      · rw [bit_other (by decide)] at h; rw [HW.out]; exact hI.some0 h
    · have h0 : bit L 0 = true := dep_of (j := 0) rfl (by kernel_rfl) hdep
      have hc : bit L 5 = true := dep_of (j := 5) rfl (by kernel_rfl) hdep
      obtain ⟨es, cc, m0, m1, m2⟩ := hI.some0 h0
      obtain ⟨hw, hn⟩ := want_6 hsz hfree
      obtain ⟨w3, es3, r3, n1, n2, n3, _⟩ := MapV.put (mt := 192) Tryz.underlying192 Tryz.underlying3 m1 keyI keyI_inj m0 8 hn (.int .i64 2)
      obtain rfl := p0 h0
      obtain rfl := p3 hc
      have HE := Lib.hid (And.intro m2 (And.intro hw (And.intro n1 (And.intro n2 n3))))
      clear m0 m1 m2 hw hn n1 n2 n3
      clear hdep
      refine wpOp_step rfl ?_
      intro K' hK'
      rw [if_pos (by rfl)]
      go_wp2_with fail
      refine ⟨by simpa using hsz, ⟨_, _, _, _, _, _, _, _, _, _, _, _, _, _, _, rfl, fun _ => rfl, fun h => p1 (bo (by decide) h), fun h => p2 (bo (by decide) h), fun _ => rfl, fun h => p4 (bo (by decide) h), fun h => p5 (bo (by decide) h), fun h => p6 (bo (by decide) h), fun h => p7 (bo (by decide) h), fun h => p8 (bo (by decide) h), fun h => p9 (bo (by decide) h), fun h => p10 (bo (by decide) h), fun h => p11 (bo (by decide) h), fun h => p12 (bo (by decide) h), fun h => p13 (bo (by decide) h), fun h => p14 (bo (by decide) h)⟩, fun h => ?_, fun _ => ?_, hlo⟩
      · rw [bit_other (by decide), h0] at h; cases h
      · rw [HE.out.2.1]; exact ⟨_, _, HE.out.2.2.1, HE.out.2.2.2.1, HE.out.1.trans HE.out.2.2.2.2 (U := []) (by simp) (fun x hx hl => by have := List.mem_singleton.1 hx; omega)⟩
    · have h0 : bit L 0 = true := dep_of (j := 0) rfl (by kernel_rfl) hdep
      obtain ⟨es, cc, m0, m1, m2⟩ := hI.some0 h0
      obtain ⟨hw, hn⟩ := want_7 hsz hfree
      obtain ⟨w3, es3, r3, n1, n2, n3, _⟩ := MapV.put (mt := 192) Tryz.underlying192 Tryz.underlying3 m1 keyI keyI_inj m0 127 hn (.int .i64 2)
      obtain rfl := p0 h0
      have HE := Lib.hid (And.intro m2 (And.intro hw (And.intro n1 (And.intro n2 n3))))
      clear m0 m1 m2 hw hn n1 n2 n3
      clear hdep
      refine wpOp_step rfl ?_
      intro K' hK'
      rw [if_pos (by rfl)]
      go_wp2_with fail
      refine ⟨by simpa using hsz, ⟨_, _, _, _, _, _, _, _, _, _, _, _, _, _, _, rfl, fun _ => rfl, fun h => p1 (bo (by decide) h), fun h => p2 (bo (by decide) h), fun h => p3 (bo (by decide) h), fun h => p4 (bo (by decide) h), fun h => p5 (bo (by decide) h), fun h => p6 (bo (by decide) h), fun h => p7 (bo (by decide) h), fun h => p8 (bo (by decide) h), fun h => p9 (bo (by decide) h), fun h => p10 (bo (by decide) h), fun h => p11 (bo (by decide) h), fun h => p12 (bo (by decide) h), fun h => p13 (bo (by decide) h), fun h => p14 (bo (by decide) h)⟩, fun h => ?_, fun _ => ?_, hlo⟩
      · rw [bit_other (by decide), h0] at h; cases h
      · rw [HE.out.2.1]; exact ⟨_, _, HE.out.2.2.1, HE.out.2.2.2.1, HE.out.1.trans HE.out.2.2.2.2 (U := []) (by simp) (fun x hx hl => by have := List.mem_singleton.1 hx; omega)⟩
    · have hw := want_other (L := L) (i := 8) (by decide)
      have HW := Lib.hid hw
      clear hw
      clear hdep
      refine wpOp_step rfl ?_
      intro K' hK'
      rw [if_pos (by rfl)]
      go_wp2_with fail
      refine (ctrl_66 _).mono ?_
      rintro e w2 ⟨rfl, rfl⟩
      refine hK' _ _ ⟨by simpa using hsz, ⟨_, _, _, _, _, _, _, _, _, _, _, _, _, _, _, rfl, fun h => p0 (bo (by decide) h), fun h => p1 (bo (by decide) h), fun h => p2 (bo (by decide) h), fun h => p3 (bo (by decide) h), fun _ => rfl, fun h => p5 (bo (by decide) h), fun h => p6 (bo (by decide) h), fun h => p7 (bo (by decide) h), fun h => p8 (bo (by decide) h), fun h => p9 (bo (by decide) h), fun h => p10 (bo (by decide) h), fun h => p11 (bo (by decide) h), fun h => p12 (bo (by decide) h), fun h => p13 (bo (by decide) h), fun h => p14 (bo (by decide) h)⟩, fun h => ?_, fun h => ?_, hlo⟩
      · rw [bit_other (by decide)] at h; rw [HW.out]; exact hI.none0 h
      · rw [bit_other (by decide)] at h; rw [HW.out]; exact hI.some0 h
    · have h0 : bit L 0 = true := dep_of (j := 0) rfl (by kernel_rfl) hdep
      have hc : bit L 8 = true := dep_of (j := 8) rfl (by kernel_rfl) hdep
      obtain ⟨es, cc, m0, m1, m2⟩ := hI.some0 h0
      obtain ⟨hw, hn⟩ := want_9 hsz hfree
      obtain ⟨w3, es3, r3, n1, n2, n3, _⟩ := MapV.put (mt := 192) Tryz.underlying192 Tryz.underlying3 m1 keyI keyI_inj m0 2 hn (.int .i64 4)
      obtain rfl := p0 h0
      obtain rfl := p4 hc
      have HE := Lib.hid (And.intro m2 (And.intro hw (And.intro n1 (And.intro n2 n3))))
      clear m0 m1 m2 hw hn n1 n2 n3
      clear hdep
      refine wpOp_step rfl ?_
      intro K' hK'
      rw [if_pos (by rfl)]
      go_wp2_with fail
      refine ⟨by simpa using hsz, ⟨_, _, _, _, _, _, _, _, _, _, _, _, _, _, _, rfl, fun _ => rfl, fun h => p1 (bo (by decide) h), fun h => p2 (bo (by decide) h), fun h => p3 (bo (by decide) h), fun _ => rfl, fun h => p5 (bo (by decide) h), fun h => p6 (bo (by decide) h), fun h => p7 (bo (by decide) h), fun h => p8 (bo (by decide) h), fun h => p9 (bo (by decide) h), fun h => p10 (bo (by decide) h), fun h => p11 (bo (by decide) h), fun h => p12 (bo (by decide) h), fun h => p13 (bo (by decide) h), fun h => p14 (bo (by decide) h)⟩, fun h => ?_, fun _ => ?_, hlo⟩
      · rw [bit_other (by decide), h0] at h; cases h
      · rw [HE.out.2.1]; exact ⟨_, _, HE.out.2.2.1, HE.out.2.2.2.1, HE.out.1.trans HE.out.2.2.2.2 (U := []) (by simp) (fun x hx hl => by have := List.mem_singleton.1 hx; omega)⟩
    · have hw := want_other (L := L) (i := 10) (by decide)
      have HW := Lib.hid hw
      clear hw
      clear hdep
      refine wpOp_step rfl ?_
      intro K' hK'
      rw [if_pos (by rfl)]
      go_wp2_with fail
      refine (ctrl_70 _).mono ?_
      rintro e w2 ⟨rfl, rfl⟩
      refine hK' _ _ ⟨by simpa using hsz, ⟨_, _, _, _, _, _, _, _, _, _, _, _, _, _, _, rfl, fun h => p0 (bo (by decide) h), fun h => p1 (bo (by decide) h), fun h => p2 (bo (by decide) h), fun h => p3 (bo (by decide) h), fun h => p4 (bo (by decide) h), fun _ => rfl, fun h => p6 (bo (by decide) h), fun h => p7 (bo (by decide) h), fun h => p8 (bo (by decide) h), fun h => p9 (bo (by decide) h), fun h => p10 (bo (by decide) h), fun h => p11 (bo (by decide) h), fun h => p12 (bo (by decide) h), fun h => p13 (bo (by decide) h), fun h => p14 (bo (by decide) h)⟩, fun h => ?_, fun h => ?_, hlo⟩
      · rw [bit_other (by decide)] at h; rw [HW.out]; exact hI.none0 h
      · rw [bit_other (by decide)] at h; rw [HW.out]; exact hI.some0 h
    · have h0 : bit L 0 = true := dep_of (j := 0) rfl (by kernel_rfl) hdep
      have hc : bit L 10 = true := dep_of (j := 10) rfl (by kernel_rfl) hdep
      obtain ⟨es, cc, m0, m1, m2⟩ := hI.some0 h0
      obtain ⟨hw, hn⟩ := want_11 hsz hfree
      obtain ⟨w3, es3, r3, n1, n2, n3, _⟩ := MapV.put (mt := 192) Tryz.underlying192 Tryz.underlying3 m1 keyI keyI_inj m0 6 hn (.int .i64 5)
      obtain rfl := p0 h0
      obtain rfl := p5 hc
      have HE := Lib.hid (And.intro m2 (And.intro hw (And.intro n1 (And.intro n2 n3))))
      clear m0 m1 m2 hw hn n1 n2 n3
      clear hdep
      refine wpOp_step rfl ?_
      intro K' hK'
      rw [if_pos (by rfl)]
      go_wp2_with fail
      refine ⟨by simpa using hsz, ⟨_, _, _, _, _, _, _, _, _, _, _, _, _, _, _, rfl, fun _ => rfl, fun h => p1 (bo (by decide) h), fun h => p2 (bo (by decide) h), fun h => p3 (bo (by decide) h), fun h => p4 (bo (by decide) h), fun _ => rfl, fun h => p6 (bo (by decide) h), fun h => p7 (bo (by decide) h), fun h => p8 (bo (by decide) h), fun h => p9 (bo (by decide) h), fun h => p10 (bo (by decide) h), fun h => p11 (bo (by decide) h), fun h => p12 (bo (by decide) h), fun h => p13 (bo (by decide) h), fun h => p14 (bo (by decide) h)⟩, fun h => ?_, fun _ => ?_, hlo⟩
      · rw [bit_other (by decide), h0] at h; cases h
      · rw [HE.out.2.1]; exact ⟨_, _, HE.out.2.2.1, HE.out.2.2.2.1, HE.out.1.trans HE.out.2.2.2.2 (U := []) (by simp) (fun x hx hl => by have := List.mem_singleton.1 hx; omega)⟩
    · have hw := want_other (L := L) (i := 12) (by decide)
      have HW := Lib.hid hw
      clear hw
      clear hdep
      refine wpOp_step rfl ?_
      intro K' hK'
      rw [if_pos (by rfl)]
      go_wp2_with fail
      refine (ctrl_65 _).mono ?_
      rintro e w2 ⟨rfl, rfl⟩
      refine hK' _ _ ⟨by simpa using hsz, ⟨_, _, _, _, _, _, _, _, _, _, _, _, _, _, _, rfl, fun h => p0 (bo (by decide) h), fun h => p1 (bo (by decide) h), fun h => p2 (bo (by decide) h), fun h => p3 (bo (by decide) h), fun h => p4 (bo (by decide) h), fun h => p5 (bo (by decide) h), fun _ => rfl, fun h => p7 (bo (by decide) h), fun h => p8 (bo (by decide) h), fun h => p9 (bo (by decide) h), fun h => p10 (bo (by decide) h), fun h => p11 (bo (by decide) h), fun h => p12 (bo (by decide) h), fun h => p13 (bo (by decide) h), fun h => p14 (bo (by decide) h)⟩, fun h => ?_, fun h => ?_, hlo⟩
      · rw [bit_other (by decide)] at h; rw [HW.out]; exact hI.none0 h
      · rw [bit_other (by decide)] at h; rw [HW.out]; exact hI.some0 h
    · have h0 : bit L 0 = true := dep_of (j := 0) rfl (by kernel_rfl) hdep
      have hc : bit L 12 = true := dep_of (j := 12) rfl (by kernel_rfl) hdep
      obtain ⟨es, cc, m0, m1, m2⟩ := hI.some0 h0
      obtain ⟨hw, hn⟩ := want_13 hsz hfree
      obtain ⟨w3, es3, r3, n1, n2, n3, _⟩ := MapV.put (mt := 192) Tryz.underlying192 Tryz.underlying3 m1 keyI keyI_inj m0 1 hn (.int .i64 6)
      obtain rfl := p0 h0
      obtain rfl := p6 hc
      have HE := Lib.hid (And.intro m2 (And.intro hw (And.intro n1 (And.intro n2 n3))))
      clear m0 m1 m2 hw hn n1 n2 n3
      clear hdep
      refine wpOp_step rfl ?_
      intro K' hK'
      rw [if_pos (by rfl)]
      go_wp2_with fail
      refine ⟨by simpa using hsz, ⟨_, _, _, _, _, _, _, _, _, _, _, _, _, _, _, rfl, fun _ => rfl, fun h => p1 (bo (by decide) h), fun h => p2 (bo (by decide) h), fun h => p3 (bo (by decide) h), fun h => p4 (bo (by decide) h), fun h => p5 (bo (by decide) h), fun _ => rfl, fun h => p7 (bo (by decide) h), fun h => p8 (bo (by decide) h), fun h => p9 (bo (by decide) h), fun h => p10 (bo (by decide) h), fun h => p11 (bo (by decide) h), fun h => p12 (bo (by decide) h), fun h => p13 (bo (by decide) h), fun h => p14 (bo (by decide) h)⟩, fun h => ?_, fun _ => ?_, hlo⟩
      · rw [bit_other (by decide), h0] at h; cases h
      · rw [HE.out.2.1]; exact ⟨_, _, HE.out.2.2.1, HE.out.2.2.2.1, HE.out.1.trans HE.out.2.2.2.2 (U := []) (by simp) (fun x hx hl => by have := List.mem_singleton.1 hx; omega)⟩
    · have hw := want_other (L := L) (i := 14) (by decide)
      have HW := Lib.hid hw
      clear hw
      clear hdep
      refine wpOp_step rfl ?_
      intro K' hK'
      rw [if_pos (by rfl)]
      go_wp2_with fail
      refine (ctrl_69 _).mono ?_
      rintro e w2 ⟨rfl, rfl⟩
      refine hK' _ _ ⟨by simpa using hsz, ⟨_, _, _, _, _, _, _, _, _, _, _, _, _, _, _, rfl, fun h => p0 (bo (by decide) h), fun h => p1 (bo (by decide) h), fun h => p2 (bo (by decide) h), fun h => p3 (bo (by decide) h), fun h => p4 (bo (by decide) h), fun h => p5 (bo (by decide) h), fun h => p6 (bo (by decide) h), fun _ => rfl, fun h => p8 (bo (by decide) h), fun h => p9 (bo (by decide) h), fun h => p10 (bo (by decide) h), fun h => p11 (bo (by decide) h), fun h => p12 (bo (by decide) h), fun h => p13 (bo (by decide) h), fun h => p14 (bo (by decide) h)⟩, fun h => ?_, fun h => ?_, hlo⟩
      · rw [bit_other (by decide)] at h; rw [HW.out]; exact hI.none0 h
      · rw [bit_other (by decide)] at h; rw [HW.out]; exact hI.some0 h
    · have h0 : bit L 0 = true := dep_of (j := 0) rfl (by kernel_rfl) hdep
      have hc : bit L 14 = true := dep_of (j := 14) rfl (by kernel_rfl) hdep
      obtain ⟨es, cc, m0, m1, m2⟩ := hI.some0 h0
      obtain ⟨hw, hn⟩ := want_15 hsz hfree
      obtain ⟨w3, es3, r3, n1, n2, n3, _⟩ := MapV.put (mt := 192) Tryz.underlying192 Tryz.underlying3 m1 keyI keyI_inj m0 5 hn (.int .i64 7)
      obtain rfl := p0 h0
      obtain rfl := p7 hc
      have HE := Lib.hid (And.intro m2 (And.intro hw (And.intro n1 (And.intro n2 n3))))
      clear m0 m1 m2 hw hn n1 n2 n3
      clear hdep
      refine wpOp_step rfl ?_
      intro K' hK'
      rw [if_pos (by rfl)]
      go_wp2_with fail
      refine ⟨by simpa using hsz, ⟨_, _, _, _, _, _, _, _, _, _, _, _, _, _, _, rfl, fun _ => rfl, fun h => p1 (bo (by decide) h), fun h => p2 (bo (by decide) h), fun h => p3 (bo (by decide) h), fun h => p4 (bo (by decide) h), fun h => p5 (bo (by decide) h), fun h => p6 (bo (by decide) h), fun _ => rfl, fun h => p8 (bo (by decide) h), fun h => p9 (bo (by decide) h), fun h => p10 (bo (by decide) h), fun h => p11 (bo (by decide) h), fun h => p12 (bo (by decide) h), fun h => p13 (bo (by decide) h), fun h => p14 (bo (by decide) h)⟩, fun h => ?_, fun _ => ?_, hlo⟩
      · rw [bit_other (by decide), h0] at h; cases h
      · rw [HE.out.2.1]; exact ⟨_, _, HE.out.2.2.1, HE.out.2.2.2.1, HE.out.1.trans HE.out.2.2.2.2 (U := []) (by simp) (fun x hx hl => by have := List.mem_singleton.1 hx; omega)⟩
    · have hw := want_other (L := L) (i := 16) (by decide)
      have HW := Lib.hid hw
      clear hw
      clear hdep
      refine wpOp_step rfl ?_
      intro K' hK'
      rw [if_pos (by rfl)]
      go_wp2_with fail
      refine (ctrl_85 _).mono ?_
      rintro e w2 ⟨rfl, rfl⟩
      refine hK' _ _ ⟨by simpa using hsz, ⟨_, _, _, _, _, _, _, _, _, _, _, _, _, _, _, rfl, fun h => p0 (bo (by decide) h), fun h => p1 (bo (by decide) h), fun h => p2 (bo (by decide) h), fun h => p3 (bo (by decide) h), fun h => p4 (bo (by decide) h), fun h => p5 (bo (by decide) h), fun h => p6 (bo (by decide) h), fun h => p7 (bo (by decide) h), fun _ => rfl, fun h => p9 (bo (by decide) h), fun h => p10 (bo (by decide) h), fun h => p11 (bo (by decide) h), fun h => p12 (bo (by decide) h), fun h => p13 (bo (by decide) h), fun h => p14 (bo (by decide) h)⟩, fun h => ?_, fun h => ?_, hlo⟩
      · rw [bit_other (by decide)] at h; rw [HW.out]; exact hI.none0 h
      · rw [bit_other (by decide)] at h; rw [HW.out]; exact hI.some0 h
    · have h0 : bit L 0 = true := dep_of (j := 0) rfl (by kernel_rfl) hdep
      have hc : bit L 16 = true := dep_of (j := 16) rfl (by kernel_rfl) hdep
      obtain ⟨es, cc, m0, m1, m2⟩ := hI.some0 h0
      obtain ⟨hw, hn⟩ := want_17 hsz hfree
      obtain ⟨w3, es3, r3, n1, n2, n3, _⟩ := MapV.put (mt := 192) Tryz.underlying192 Tryz.underlying3 m1 keyI keyI_inj m0 21 hn (.int .i64 8)
      obtain rfl := p0 h0
      obtain rfl := p8 hc
      have HE := Lib.hid (And.intro m2 (And.intro hw (And.intro n1 (And.intro n2 n3))))
      clear m0 m1 m2 hw hn n1 n2 n3
      clear hdep
      refine wpOp_step rfl ?_
      intro K' hK'
      rw [if_pos (by rfl)]
      go_wp2_with fail
      refine ⟨by simpa using hsz, ⟨_, _, _, _, _, _, _, _, _, _, _, _, _, _, _, rfl, fun _ => rfl, fun h => p1 (bo (by decide) h), fun h => p2 (bo (by decide) h), fun h => p3 (bo (by decide) h), fun h => p4 (bo (by decide) h), fun h => p5 (bo (by decide) h), fun h => p6 (bo (by decide) h), fun h => p7 (bo (by decide) h), fun _ => rfl, fun h => p9 (bo (by decide) h), fun h => p10 (bo (by decide) h), fun h => p11 (bo (by decide) h), fun h => p12 (bo (by decide) h), fun h => p13 (bo (by decide) h), fun h => p14 (bo (by decide) h)⟩, fun h => ?_, fun _ => ?_, hlo⟩
      · rw [bit_other (by decide), h0] at h; cases h
      · rw [HE.out.2.1]; exact ⟨_, _, HE.out.2.2.1, HE.out.2.2.2.1, HE.out.1.trans HE.out.2.2.2.2 (U := []) (by simp) (fun x hx hl => by have := List.mem_singleton.1 hx; omega)⟩
    · have hw := want_other (L := L) (i := 18) (by decide)
      have HW := Lib.hid hw
      clear hw
      clear hdep
      refine wpOp_step rfl ?_
      intro K' hK'
      rw [if_pos (by rfl)]
      go_wp2_with fail
      refine (ctrl_75 _).mono ?_
      rintro e w2 ⟨rfl, rfl⟩
      refine hK' _ _ ⟨by simpa using hsz, ⟨_, _, _, _, _, _, _, _, _, _, _, _, _, _, _, rfl, fun h => p0 (bo (by decide) h), fun h => p1 (bo (by decide) h), fun h => p2 (bo (by decide) h), fun h => p3 (bo (by decide) h), fun h => p4 (bo (by decide) h), fun h => p5 (bo (by decide) h), fun h => p6 (bo (by decide) h), fun h => p7 (bo (by decide) h), fun h => p8 (bo (by decide) h), fun _ => rfl, fun h => p10 (bo (by decide) h), fun h => p11 (bo (by decide) h), fun h => p12 (bo (by decide) h), fun h => p13 (bo (by decide) h), fun h => p14 (bo (by decide) h)⟩, fun h => ?_, fun h => ?_, hlo⟩
      · rw [bit_other (by decide)] at h; rw [HW.out]; exact hI.none0 h
      · rw [bit_other (by decide)] at h; rw [HW.out]; exact hI.some0 h
    · have h0 : bit L 0 = true := dep_of (j := 0) rfl (by kernel_rfl) hdep
      have hc : bit L 18 = true := dep_of (j := 18) rfl (by kernel_rfl) hdep
      obtain ⟨es, cc, m0, m1, m2⟩ := hI.some0 h0
      obtain ⟨hw, hn⟩ := want_19 hsz hfree
      obtain ⟨w3, es3, r3, n1, n2, n3, _⟩ := MapV.put (mt := 192) Tryz.underlying192 Tryz.underlying3 m1 keyI keyI_inj m0 11 hn (.int .i64 9)
      obtain rfl := p0 h0
      obtain rfl := p9 hc
      have HE := Lib.hid (And.intro m2 (And.intro hw (And.intro n1 (And.intro n2 n3))))
      clear m0 m1 m2 hw hn n1 n2 n3
      clear hdep
      refine wpOp_step rfl ?_
      intro K' hK'
      rw [if_pos (by rfl)]
      go_wp2_with fail
      refine ⟨by simpa using hsz, ⟨_, _, _, _, _, _, _, _, _, _, _, _, _, _, _, rfl, fun _ => rfl, fun h => p1 (bo (by decide) h), fun h => p2 (bo (by decide) h), fun h => p3 (bo (by decide) h), fun h => p4 (bo (by decide) h), fun h => p5 (bo (by decide) h), fun h => p6 (bo (by decide) h), fun h => p7 (bo (by decide) h), fun h => p8 (bo (by decide) h), fun _ => rfl, fun h => p10 (bo (by decide) h), fun h => p11 (bo (by decide) h), fun h => p12 (bo (by decide) h), fun h => p13 (bo (by decide) h), fun h => p14 (bo (by decide) h)⟩, fun h => ?_, fun _ => ?_, hlo⟩
      · rw [bit_other (by decide), h0] at h; cases h
      · rw [HE.out.2.1]; exact ⟨_, _, HE.out.2.2.1, HE.out.2.2.2.1, HE.out.1.trans HE.out.2.2.2.2 (U := []) (by simp) (fun x hx hl => by have := List.mem_singleton.1 hx; omega)⟩
    · have hw := want_other (L := L) (i := 20) (by decide)
      have HW := Lib.hid hw
      clear hw
      clear hdep
      refine wpOp_step rfl ?_
      intro K' hK'
      rw [if_pos (by rfl)]
      go_wp2_with fail
      refine (ctrl_76 _).mono ?_
      rintro e w2 ⟨rfl, rfl⟩
      refine hK' _ _ ⟨by simpa using hsz, ⟨_, _, _, _, _, _, _, _, _, _, _, _, _, _, _, rfl, fun h => p0 (bo (by decide) h), fun h => p1 (bo (by decide) h), fun h => p2 (bo (by decide) h), fun h => p3 (bo (by decide) h), fun h => p4 (bo (by decide) h), fun h => p5 (bo (by decide) h), fun h => p6 (bo (by decide) h), fun h => p7 (bo (by decide) h), fun h => p8 (bo (by decide) h), fun h => p9 (bo (by decide) h), fun _ => rfl, fun h => p11 (bo (by decide) h), fun h => p12 (bo (by decide) h), fun h => p13 (bo (by decide) h), fun h => p14 (bo (by decide) h)⟩, fun h => ?_, fun h => ?_, hlo⟩
      · rw [bit_other (by decide)] at h; rw [HW.out]; exact hI.none0 h
      · rw [bit_other (by decide)] at h; rw [HW.out]; exact hI.some0 h
    · have h0 : bit L 0 = true := dep_of (j := 0) rfl (by kernel_rfl) hdep
      have hc : bit L 20 = true := dep_of (j := 20) rfl (by kernel_rfl) hdep
      obtain ⟨es, cc, m0, m1, m2⟩ := hI.some0 h0
      obtain ⟨hw, hn⟩ := want_21 hsz hfree
      obtain ⟨w3, es3, r3, n1, n2, n3, _⟩ := MapV.put (mt := 192) Tryz.underlying192 Tryz.underlying3 m1 keyI keyI_inj m0 12 hn (.int .i64 10)
      obtain rfl := p0 h0
      obtain rfl := p10 hc
      have HE := Lib.hid (And.intro m2 (And.intro hw (And.intro n1 (And.intro n2 n3))))
      clear m0 m1 m2 hw hn n1 n2 n3
      clear hdep
      refine wpOp_step rfl ?_
      intro K' hK'
      rw [if_pos (by rfl)]
      go_wp2_with fail
      refine ⟨by simpa using hsz, ⟨_, _, _, _, _, _, _, _, _, _, _, _, _, _, _, rfl, fun _ => rfl, fun h => p1 (bo (by decide) h), fun h => p2 (bo (by decide) h), fun h => p3 (bo (by decide) h), fun h => p4 (bo (by decide) h), fun h => p5 (bo (by decide) h), fun h => p6 (bo (by decide) h), fun h => p7 (bo (by decide) h), fun h => p8 (bo (by decide) h), fun h => p9 (bo (by decide) h), fun _ => rfl, fun h => p11 (bo (by decide) h), fun h => p12 (bo (by decide) h), fun h => p13 (bo (by decide) h), fun h => p14 (bo (by decide) h)⟩, fun h => ?_, fun _ => ?_, hlo⟩
      · rw [bit_other (by decide), h0] at h; cases h
      · rw [HE.out.2.1]; exact ⟨_, _, HE.out.2.2.1, HE.out.2.2.2.1, HE.out.1.trans HE.out.2.2.2.2 (U := []) (by simp) (fun x hx hl => by have := List.mem_singleton.1 hx; omega)⟩
    · have hw := want_other (L := L) (i := 22) (by decide)
      have HW := Lib.hid hw
      clear hw
      clear hdep
      refine wpOp_step rfl ?_
      intro K' hK'
      rw [if_pos (by rfl)]
      go_wp2_with fail
      refine (ctrl_67 _).mono ?_
      rintro e w2 ⟨rfl, rfl⟩
      refine hK' _ _ ⟨by simpa using hsz, ⟨_, _, _, _, _, _, _, _, _, _, _, _, _, _, _, rfl, fun h => p0 (bo (by decide) h), fun h => p1 (bo (by decide) h), fun h => p2 (bo (by decide) h), fun h => p3 (bo (by decide) h), fun h => p4 (bo (by decide) h), fun h => p5 (bo (by decide) h), fun h => p6 (bo (by decide) h), fun h => p7 (bo (by decide) h), fun h => p8 (bo (by decide) h), fun h => p9 (bo (by decide) h), fun h => p10 (bo (by decide) h), fun _ => rfl, fun h => p12 (bo (by decide) h), fun h => p13 (bo (by decide) h), fun h => p14 (bo (by decide) h)⟩, fun h => ?_, fun h => ?_, hlo⟩
      · rw [bit_other (by decide)] at h; rw [HW.out]; exact hI.none0 h
      · rw [bit_other (by decide)] at h; rw [HW.out]; exact hI.some0 h
    · have h0 : bit L 0 = true := dep_of (j := 0) rfl (by kernel_rfl) hdep
      have hc : bit L 22 = true := dep_of (j := 22) rfl (by kernel_rfl) hdep
      obtain ⟨es, cc, m0, m1, m2⟩ := hI.some0 h0
      obtain ⟨hw, hn⟩ := want_23 hsz hfree
      obtain ⟨w3, es3, r3, n1, n2, n3, _⟩ := MapV.put (mt := 192) Tryz.underlying192 Tryz.underlying3 m1 keyI keyI_inj m0 3 hn (.int .i64 11)
      obtain rfl := p0 h0
      obtain rfl := p11 hc
      have HE := Lib.hid (And.intro m2 (And.intro hw (And.intro n1 (And.intro n2 n3))))
      clear m0 m1 m2 hw hn n1 n2 n3
      clear hdep
      refine wpOp_step rfl ?_
      intro K' hK'
      rw [if_pos (by rfl)]
      go_wp2_with fail
      refine ⟨by simpa using hsz, ⟨_, _, _, _, _, _, _, _, _, _, _, _, _, _, _, rfl, fun _ => rfl, fun h => p1 (bo (by decide) h), fun h => p2 (bo (by decide) h), fun h => p3 (bo (by decide) h), fun h => p4 (bo (by decide) h), fun h => p5 (bo (by decide) h), fun h => p6 (bo (by decide) h), fun h => p7 (bo (by decide) h), fun h => p8 (bo (by decide) h), fun h => p9 (bo (by decide) h), fun h => p10 (bo (by decide) h), fun _ => rfl, fun h => p12 (bo (by decide) h), fun h => p13 (bo (by decide) h), fun h => p14 (bo (by decide) h)⟩, fun h => ?_, fun _ => ?_, hlo⟩
      · rw [bit_other (by decide), h0] at h; cases h
      · rw [HE.out.2.1]; exact ⟨_, _, HE.out.2.2.1, HE.out.2.2.2.1, HE.out.1.trans HE.out.2.2.2.2 (U := []) (by simp) (fun x hx hl => by have := List.mem_singleton.1 hx; omega)⟩
    · have hw := want_other (L := L) (i := 24) (by decide)
      have HW := Lib.hid hw
      clear hw
      clear hdep
      refine wpOp_step rfl ?_
      intro K' hK'
      rw [if_pos (by rfl)]
      go_wp2_with fail
      refine (ctrl_68 _).mono ?_
      rintro e w2 ⟨rfl, rfl⟩
      refine hK' _ _ ⟨by simpa using hsz, ⟨_, _, _, _, _, _, _, _, _, _, _, _, _, _, _, rfl, fun h => p0 (bo (by decide) h), fun h => p1 (bo (by decide) h), fun h => p2 (bo (by decide) h), fun h => p3 (bo (by decide) h), fun h => p4 (bo (by decide) h), fun h => p5 (bo (by decide) h), fun h => p6 (bo (by decide) h), fun h => p7 (bo (by decide) h), fun h => p8 (bo (by decide) h), fun h => p9 (bo (by decide) h), fun h => p10 (bo (by decide) h), fun h => p11 (bo (by decide) h), fun _ => rfl, fun h => p13 (bo (by decide) h), fun h => p14 (bo (by decide) h)⟩, fun h => ?_, fun h => ?_, hlo⟩
      · rw [bit_other (by decide)] at h; rw [HW.out]; exact hI.none0 h
      · rw [bit_other (by decide)] at h; rw [HW.out]; exact hI.some0 h
    · have h0 : bit L 0 = true := dep_of (j := 0) rfl (by kernel_rfl) hdep
      have hc : bit L 24 = true := dep_of (j := 24) rfl (by kernel_rfl) hdep
      obtain ⟨es, cc, m0, m1, m2⟩ := hI.some0 h0
      obtain ⟨hw, hn⟩ := want_25 hsz hfree
      obtain ⟨w3, es3, r3, n1, n2, n3, _⟩ := MapV.put (mt := 192) Tryz.underlying192 Tryz.underlying3 m1 keyI keyI_inj m0 4 hn (.int .i64 12)
      obtain rfl := p0 h0
      obtain rfl := p12 hc
      have HE := Lib.hid (And.intro m2 (And.intro hw (And.intro n1 (And.intro n2 n3))))
      clear m0 m1 m2 hw hn n1 n2 n3
      clear hdep
      refine wpOp_step rfl ?_
      intro K' hK'
      rw [if_pos (by rfl)]
      go_wp2_with fail
      refine ⟨by simpa using hsz, ⟨_, _, _, _, _, _, _, _, _, _, _, _, _, _, _, rfl, fun _ => rfl, fun h => p1 (bo (by decide) h), fun h => p2 (bo (by decide) h), fun h => p3 (bo (by decide) h), fun h => p4 (bo (by decide) h), fun h => p5 (bo (by decide) h), fun h => p6 (bo (by decide) h), fun h => p7 (bo (by decide) h), fun h => p8 (bo (by decide) h), fun h => p9 (bo (by decide) h), fun h => p10 (bo (by decide) h), fun h => p11 (bo (by decide) h), fun _ => rfl, fun h => p13 (bo (by decide) h), fun h => p14 (bo (by decide) h)⟩, fun h => ?_, fun _ => ?_, hlo⟩
      · rw [bit_other (by decide), h0] at h; cases h
      · rw [HE.out.2.1]; exact ⟨_, _, HE.out.2.2.1, HE.out.2.2.2.1, HE.out.1.trans HE.out.2.2.2.2 (U := []) (by simp) (fun x hx hl => by have := List.mem_singleton.1 hx; omega)⟩
    · have h0 : bit L 0 = true := dep_of (j := 0) rfl (by kernel_rfl) hdep
      obtain rfl := p0 h0
      have hw := want_other (L := L) (i := 26) (by decide)
      have HW := Lib.hid hw
      clear hw
      clear hdep
      refine wpOp_step rfl ?_
      intro K' hK'
      rw [if_pos (by rfl)]
      go_wp2_with fail
      refine ⟨by simpa using hsz, ⟨_, _, _, _, _, _, _, _, _, _, _, _, _, _, _, rfl, fun _ => rfl, fun h => p1 (bo (by decide) h), fun h => p2 (bo (by decide) h), fun h => p3 (bo (by decide) h), fun h => p4 (bo (by decide) h), fun h => p5 (bo (by decide) h), fun h => p6 (bo (by decide) h), fun h => p7 (bo (by decide) h), fun h => p8 (bo (by decide) h), fun h => p9 (bo (by decide) h), fun h => p10 (bo (by decide) h), fun h => p11 (bo (by decide) h), fun h => p12 (bo (by decide) h), fun _ => rfl, fun h => p14 (bo (by decide) h)⟩, fun h => ?_, fun h => ?_, hlo⟩
      · rw [bit_other (by decide)] at h; rw [HW.out]; exact hI.none0 h
      · rw [bit_other (by decide)] at h; rw [HW.out]; exact hI.some0 h
    · have h0 : bit L 26 = true := dep_of (j := 26) rfl (by kernel_rfl) hdep
      obtain rfl := p13 h0
      have hw := want_other (L := L) (i := 27) (by decide)
      have HW := Lib.hid hw
      clear hw
      clear hdep
      refine wpOp_step rfl ?_
      intro K' hK'
      rw [if_pos (by rfl)]
      go_wp2_with fail
      refine ⟨by simpa using hsz, ⟨_, _, _, _, _, _, _, _, _, _, _, _, _, _, _, rfl, fun h => p0 (bo (by decide) h), fun h => p1 (bo (by decide) h), fun h => p2 (bo (by decide) h), fun h => p3 (bo (by decide) h), fun h => p4 (bo (by decide) h), fun h => p5 (bo (by decide) h), fun h => p6 (bo (by decide) h), fun h => p7 (bo (by decide) h), fun h => p8 (bo (by decide) h), fun h => p9 (bo (by decide) h), fun h => p10 (bo (by decide) h), fun h => p11 (bo (by decide) h), fun h => p12 (bo (by decide) h), fun _ => rfl, fun _ => rfl⟩, fun h => ?_, fun h => ?_, hlo⟩
      · rw [bit_other (by decide)] at h; rw [HW.out]; exact hI.none0 h
      · rw [bit_other (by decide)] at h; rw [HW.out]; exact hI.some0 h
  · refine ⟨by decide, ⟨_, _, _, _, _, _, _, _, _, _, _, _, _, _, _, rfl, (fun h => by cases h), (fun h => by cases h), (fun h => by cases h), (fun h => by cases h), (fun h => by cases h), (fun h => by cases h), (fun h => by cases h), (fun h => by cases h), (fun h => by cases h), (fun h => by cases h), (fun h => by cases h), (fun h => by cases h), (fun h => by cases h), (fun h => by cases h), (fun h => by cases h)⟩, fun _ => ⟨⟨rfl, rfl, rfl, Nat.le_refl _, fun _ _ _ => rfl⟩, rfl, fun k => rfl⟩, (fun h => by cases h), Nat.le_refl _⟩
  · decide
end Go.Proofs.YtafmnkngjjnpiaaGreatDoor
