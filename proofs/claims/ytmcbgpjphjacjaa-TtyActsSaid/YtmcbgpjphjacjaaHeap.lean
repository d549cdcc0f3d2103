/-
  A heap in a list, without any program: sifting up, sifting down, and what stays.
-/
import Derived.Lib.Hide
namespace Go.Proofs.Ytmcbgpjphjacjaa
set_option linter.unusedVariables false

/-- An element: a moment's bits, a number, how many were pushed ahead. -/
abbrev Ele := Nat × Int × Int

instance : Inhabited Ele := ⟨(0, 0, 0)⟩

/-- Two places change their elements. -/
def swapH (H : List Ele) (i j : Nat) : List Ele := (H.set i (H.getD j default)).set j (H.getD i default)

theorem swapH_length (H : List Ele) (i j : Nat) : (swapH H i j).length = H.length := by simp [swapH]

theorem swapH_get (H : List Ele) (i j k : Nat) (hi : i < H.length) (hj : j < H.length) :
    (swapH H i j).getD k default = if k = j then H.getD i default else if k = i then H.getD j default else H.getD k default := by
  unfold swapH
  simp only [List.getD_eq_getElem?_getD, List.getElem?_set, List.length_set]
  by_cases h1 : k = j
  · subst h1; simp [hj]
  · rw [if_neg (Ne.symm h1), if_neg h1]
    by_cases h2 : k = i
    · subst h2; simp [hi]
    · rw [if_neg (Ne.symm h2), if_neg h2]

theorem swapH_perm (H : List Ele) (i j : Nat) (hi : i < H.length) (hj : j < H.length) : (swapH H i j).Perm H := by
  have h := Array.swap_perm (xs := H.toArray) (i := i) (j := j) (by simpa using hi) (by simpa using hj)
  have h2 : (H.toArray.swap i j (by simpa using hi) (by simpa using hj)).toList = swapH H i j := by
    apply List.ext_getElem?
    intro k
    unfold swapH
    simp only [Array.toList_swap, List.getElem?_set, List.length_set, List.getD_eq_getElem?_getD]
    simp [hi, hj]
  rw [← h2]
  exact h.toList

/-- Every element stands at or behind the one above it. -/
def IsHeap (o : Ele → Nat) (H : List Ele) (n : Nat) : Prop := ∀ k, 0 < k → k < n → o (H.getD ((k - 1) / 2) default) ≤ o (H.getD k default)

/-- A heap but for place j, which may stand too low. -/
def UpInv (o : Ele → Nat) (H : List Ele) (n j : Nat) : Prop :=
  (∀ k, 0 < k → k < n → k ≠ j → o (H.getD ((k - 1) / 2) default) ≤ o (H.getD k default)) ∧
  (∀ k, 0 < k → k < n → (k - 1) / 2 = j → 0 < j → o (H.getD ((j - 1) / 2) default) ≤ o (H.getD k default))

theorem getD_app (H R : List Ele) (k : Nat) (h : k < H.length) : (H ++ R).getD k default = H.getD k default := by
  simp [List.getD_eq_getElem?_getD, List.getElem?_append_left h]

theorem up_start (o : Ele → Nat) (H : List Ele) (x : Ele) (h : IsHeap o H H.length) : UpInv o (H ++ [x]) (H.length + 1) H.length := by
  refine ⟨fun k h0 hk hne => ?_, fun k h0 hk hp hj => ?_⟩
  · have hlt : k < H.length := by omega
    have := h k h0 hlt
    rwa [getD_app _ _ _ (by omega), getD_app _ _ _ hlt]
  · omega

theorem up_done (o : Ele → Nat) (H : List Ele) (n j : Nat) (h : UpInv o H n j) (hd : j = 0 ∨ o (H.getD ((j - 1) / 2) default) ≤ o (H.getD j default)) : IsHeap o H n := by
  intro k h0 hk
  by_cases hkj : k = j
  · subst hkj
    rcases hd with hd | hd
    · omega
    · exact hd
  · exact h.1 k h0 hk hkj

theorem up_step (o : Ele → Nat) (H : List Ele) (j : Nat) (h : UpInv o H H.length j) (hj : j < H.length) (h0 : 0 < j) (hlt : o (H.getD j default) < o (H.getD ((j - 1) / 2) default)) :
    UpInv o (swapH H ((j - 1) / 2) j) H.length ((j - 1) / 2) := by
  have hi : (j - 1) / 2 < H.length := by omega
  refine ⟨fun k k0 hk hne => ?_, fun k k0 hk hp hi0 => ?_⟩
  · rw [swapH_get _ _ _ _ hi hj, swapH_get _ _ _ _ hi hj]
    by_cases hkj : k = j
    · subst hkj
      rw [if_neg (by omega), if_pos rfl, if_pos rfl]
      omega
    · rw [if_neg hkj, if_neg hne]
      by_cases hpj : (k - 1) / 2 = j
      · rw [if_pos hpj]
        exact h.2 k k0 hk hpj h0
      · rw [if_neg hpj]
        by_cases hpi : (k - 1) / 2 = (j - 1) / 2
        · rw [if_pos hpi]
          have := h.1 k k0 hk hkj
          rw [hpi] at this
          omega
        · rw [if_neg hpi]
          exact h.1 k k0 hk hkj
  · rw [swapH_get _ _ _ _ hi hj, swapH_get _ _ _ _ hi hj]
    have hii : ((j - 1) / 2 - 1) / 2 ≠ j := by omega
    have hii2 : ((j - 1) / 2 - 1) / 2 ≠ (j - 1) / 2 := by omega
    rw [if_neg hii, if_neg hii2]
    have hpp := h.1 ((j - 1) / 2) hi0 hi (by omega)
    by_cases hkj : k = j
    · subst hkj
      rw [if_pos rfl]
      exact hpp
    · rw [if_neg hkj, if_neg (by omega)]
      have := h.1 k k0 hk hkj
      rw [hp] at this
      omega

/-- A heap of the first n but for place i, which may stand too high. -/
def DownInv (o : Ele → Nat) (H : List Ele) (n i : Nat) : Prop :=
  (∀ k, 0 < k → k < n → (k - 1) / 2 ≠ i → o (H.getD ((k - 1) / 2) default) ≤ o (H.getD k default)) ∧
  (∀ k, 0 < k → k < n → (k - 1) / 2 = i → 0 < i → o (H.getD ((i - 1) / 2) default) ≤ o (H.getD k default))

theorem down_start (o : Ele → Nat) (H : List Ele) (n : Nat) (hn : n + 1 = H.length) (h : IsHeap o H (n + 1)) : DownInv o (swapH H 0 n) n 0 := by
  refine ⟨fun k k0 hk hp => ?_, fun k k0 hk hp hi => by omega⟩
  rw [swapH_get _ _ _ _ (by omega) (by omega), swapH_get _ _ _ _ (by omega) (by omega), if_neg (by omega), if_neg hp, if_neg (by omega), if_neg (by omega)]
  exact h k k0 (by omega)

theorem down_done (o : Ele → Nat) (H : List Ele) (n i : Nat) (h : DownInv o H n i) (hd : ∀ k, 0 < k → k < n → (k - 1) / 2 = i → o (H.getD i default) ≤ o (H.getD k default)) : IsHeap o H n := by
  intro k k0 hk
  by_cases hp : (k - 1) / 2 = i
  · rw [hp]; exact hd k k0 hk hp
  · exact h.1 k k0 hk hp

theorem down_step (o : Ele → Nat) (H : List Ele) (n i j : Nat) (h : DownInv o H n i) (hn : n ≤ H.length) (hj : j < n) (h0 : 0 < j) (hp : (j - 1) / 2 = i)
    (hmin : ∀ k, 0 < k → k < n → (k - 1) / 2 = i → o (H.getD j default) ≤ o (H.getD k default)) (hlt : o (H.getD j default) < o (H.getD i default)) : DownInv o (swapH H i j) n j := by
  have hi : i < H.length := by omega
  have hjl : j < H.length := by omega
  refine ⟨fun k k0 hk hpk => ?_, fun k k0 hk hpk hj0 => ?_⟩
  · rw [swapH_get _ _ _ _ hi hjl, swapH_get _ _ _ _ hi hjl, if_neg hpk]
    by_cases hpi : (k - 1) / 2 = i
    · rw [if_pos hpi]
      by_cases hkj : k = j
      · rw [if_pos hkj]; omega
      · rw [if_neg hkj, if_neg (by omega)]
        exact hmin k k0 hk hpi
    · rw [if_neg hpi]
      by_cases hkj : k = j
      · exact absurd (by rw [hkj]; exact hp) hpi
      · rw [if_neg hkj]
        by_cases hki : k = i
        · rw [if_pos hki]
          subst hki
          have := h.2 j h0 hj hp k0
          exact this
        · rw [if_neg hki]
          exact h.1 k k0 hk hpi
  · rw [swapH_get _ _ _ _ hi hjl, swapH_get _ _ _ _ hi hjl, hp, if_neg (by omega), if_pos rfl, if_neg (by omega), if_neg (by omega)]
    have := h.1 k k0 hk (by omega)
    rw [hpk] at this
    exact this

/-- The top stands ahead of all. -/
theorem heap_top (o : Ele → Nat) (H : List Ele) (n : Nat) (h : IsHeap o H n) : ∀ k, k < n → o (H.getD 0 default) ≤ o (H.getD k default) := by
  intro k
  induction k using Nat.strongRecOn with
  | _ k ih =>
    intro hk
    by_cases h0 : k = 0
    · subst h0; exact Nat.le_refl _
    · have h1 := ih ((k - 1) / 2) (by omega) (by omega)
      have h2 := h k (by omega) hk
      omega
end Go.Proofs.Ytmcbgpjphjacjaa
