/-
  Plain facts on turning a part of a list the other way about, and on moving a part by three turns.
-/
import Derived.Test.YtghefhhgckafdaaAreP
namespace Go.Proofs.Ytghefhhgckafdaa

/-- The outer k pairs of the part [f, t) have changed places. -/
def swapsL (l : List Int) (f t k : Nat) : List Int :=
  (List.range l.length).map (fun x => if (f ≤ x ∧ x < f + k) ∨ (t - k ≤ x ∧ x < t) then l.getD (f + t - 1 - x) 0 else l.getD x 0)

theorem swapsL_length (l : List Int) (f t k : Nat) : (swapsL l f t k).length = l.length := by simp [swapsL]

theorem swapsL_getD (l : List Int) (f t k x : Nat) (hx : x < l.length) :
    (swapsL l f t k).getD x 0 = if (f ≤ x ∧ x < f + k) ∨ (t - k ≤ x ∧ x < t) then l.getD (f + t - 1 - x) 0 else l.getD x 0 := by
  unfold swapsL
  rw [List.getD_eq_getElem?_getD, List.getElem?_map, List.getElem?_range hx]
  rfl

theorem ext_getD {a b : List Int} (hl : a.length = b.length) (h : ∀ x, x < a.length → a.getD x 0 = b.getD x 0) : a = b := by
  apply List.ext_getElem hl
  intro i h1 h2
  have := h i h1
  simpa [List.getD, h1, h2] using this

theorem swapsL_zero (l : List Int) (f t : Nat) : swapsL l f t 0 = l := by
  apply ext_getD (swapsL_length _ _ _ _)
  intro x hx
  rw [swapsL_length] at hx
  rw [swapsL_getD _ _ _ _ _ hx, if_neg (by omega)]

theorem getD_set (l : List Int) (i x : Nat) (v : Int) (hi : i < l.length) : (l.set i v).getD x 0 = if x = i then v else l.getD x 0 := by
  simp only [List.getD_eq_getElem?_getD, List.getElem?_set]
  by_cases h : i = x
  · rw [if_pos h, if_pos hi, if_pos h.symm]; rfl
  · rw [if_neg h, if_neg (fun e => h e.symm)]

theorem swapsL_step (l : List Int) (f t k : Nat) (h : f + k < t - 1 - k) (ht : t ≤ l.length) :
    swapsL l f t (k + 1) = ((swapsL l f t k).set (f + k) ((swapsL l f t k).getD (t - 1 - k) 0)).set (t - 1 - k) ((swapsL l f t k).getD (f + k) 0) := by
  apply ext_getD (by simp [swapsL_length])
  intro x hx
  rw [swapsL_length] at hx
  rw [getD_set _ _ _ _ (by simp [swapsL_length]; omega), getD_set _ _ _ _ (by simp [swapsL_length]; omega)]
  rw [swapsL_getD _ _ _ _ _ hx, swapsL_getD _ _ _ _ x hx, swapsL_getD _ _ _ _ (t - 1 - k) (by omega), swapsL_getD _ _ _ _ (f + k) (by omega)]
  repeat' split
  all_goals first | (exfalso; omega) | rfl | (congr 1; omega)

/-- A part turned the other way about. -/
def revL (l : List Int) (f t : Nat) : List Int := l.take f ++ ((l.drop f).take (t - f)).reverse ++ l.drop t

theorem revL_length (l : List Int) (f t : Nat) (h : f ≤ t) (ht : t ≤ l.length) : (revL l f t).length = l.length := by
  unfold revL; simp; omega

theorem swapsL_done (l : List Int) (f t k : Nat) (hft : f ≤ t) (ht : t ≤ l.length) (hk : 2 * k ≤ t - f) (hd : t - f ≤ 2 * k + 1) : swapsL l f t k = revL l f t := by
  apply ext_getD (by rw [swapsL_length, revL_length l f t hft ht])
  intro x hx
  rw [swapsL_length] at hx
  rw [swapsL_getD _ _ _ _ _ hx]
  unfold revL
  simp only [List.getD_eq_getElem?_getD]
  have lf : (l.take f).length = f := by simp; omega
  have ls : ((l.drop f).take (t - f)).length = t - f := by simp; omega
  have lr : ((l.drop f).take (t - f)).reverse.length = t - f := by rw [List.length_reverse, ls]
  by_cases h1 : x < f
  · rw [if_neg (by omega), List.append_assoc, List.getElem?_append_left (by rw [lf]; omega), List.getElem?_take, if_pos h1]
  · by_cases h2 : x < t
    · have e : (List.take f l ++ (List.take (t - f) (List.drop f l)).reverse ++ List.drop t l)[x]? = l[f + t - 1 - x]? := by
        rw [List.append_assoc, List.getElem?_append_right (by rw [lf]; omega), lf, List.getElem?_append_left (by rw [lr]; omega), List.getElem?_reverse (by rw [ls]; omega), ls, List.getElem?_take, if_pos (by omega), List.getElem?_drop]
        rw [show f + (t - f - 1 - (x - f)) = f + t - 1 - x by omega]
      rw [e]
      split
      · rfl
      · rw [show f + t - 1 - x = x by omega]
    · rw [if_neg (by omega), List.getElem?_append_right (by rw [List.length_append, lf, lr]; omega), List.getElem?_drop, List.length_append, lf, lr]
      rw [show t + (x - (f + (t - f))) = x by omega]

theorem revL_split (X Y Z : List Int) (f t : Nat) (hf : X.length = f) (ht : X.length + Y.length = t) : revL (X ++ Y ++ Z) f t = X ++ Y.reverse ++ Z := by
  unfold revL
  subst hf; subst ht
  have e1 : (X ++ Y ++ Z).take X.length = X := by simp
  have e2 : ((X ++ Y ++ Z).drop X.length).take (X.length + Y.length - X.length) = Y := by simp
  have e3 : (X ++ Y ++ Z).drop (X.length + Y.length) = Z := by rw [← List.length_append]; simp
  rw [e1, e2, e3]

/-- What is moved. -/
def movL (l : List Int) (a b p : Nat) : List Int := (l.take a ++ l.drop b).take p ++ (l.drop a).take (b - a) ++ (l.take a ++ l.drop b).drop p

theorem three_turns (A B C D : List Int) (L M R : Nat) (h1 : A.length = L) (h2 : L + B.length = M) (h3 : M + C.length = R) :
    revL (revL (revL (A ++ B ++ C ++ D) L M) M R) L R = A ++ C ++ B ++ D := by
  have e1 : revL (A ++ B ++ C ++ D) L M = A ++ B.reverse ++ C ++ D := by
    have := revL_split A B (C ++ D) L M h1 (by omega)
    simpa using this
  have e2 : revL (A ++ B.reverse ++ C ++ D) M R = A ++ B.reverse ++ C.reverse ++ D := by
    have := revL_split (A ++ B.reverse) C D M R (by simp; omega) (by simp; omega)
    simpa using this
  have e3 : revL (A ++ B.reverse ++ C.reverse ++ D) L R = A ++ (B.reverse ++ C.reverse).reverse ++ D := by
    have := revL_split A (B.reverse ++ C.reverse) D L R h1 (by simp; omega)
    simpa using this
  rw [e1, e2, e3]; simp

theorem move_up (l : List Int) (a b p : Nat) (hab : a ≤ b) (hb : b ≤ l.length) (hp : p ≤ l.length - (b - a)) (h : a ≤ p) :
    revL (revL (revL l a b) b (p + (b - a))) a (p + (b - a)) = movL l a b p := by
  obtain ⟨A, hA⟩ : ∃ A, l.take a = A := ⟨_, rfl⟩
  obtain ⟨B, hB⟩ : ∃ B, (l.drop a).take (b - a) = B := ⟨_, rfl⟩
  obtain ⟨C, hC⟩ : ∃ C, (l.drop b).take (p - a) = C := ⟨_, rfl⟩
  obtain ⟨D, hD⟩ : ∃ D, l.drop (p + (b - a)) = D := ⟨_, rfl⟩
  have lA : A.length = a := by rw [← hA]; simp; omega
  have lB : B.length = b - a := by rw [← hB]; simp; omega
  have lC : C.length = p - a := by rw [← hC]; simp; omega
  have eb : l.drop b = C ++ D := by
    rw [← hC, ← hD, show p + (b - a) = b + (p - a) by omega, ← List.drop_drop, List.take_append_drop]
  have el : l = A ++ B ++ C ++ D := by
    have e1 : l.drop a = B ++ l.drop b := by
      have := (List.take_append_drop (b - a) (l.drop a)).symm
      rwa [List.drop_drop, show a + (b - a) = b by omega, hB] at this
    have e2 : l = A ++ l.drop a := by rw [← hA, List.take_append_drop]
    rw [e1, eb] at e2
    rw [e2]; simp
  unfold movL
  rw [hA, hB, eb]
  have t1 : (A ++ (C ++ D)).take p = A ++ C := by
    rw [← List.append_assoc, List.take_left' (by simp; omega)]
  have t2 : (A ++ (C ++ D)).drop p = D := by
    rw [← List.append_assoc, List.drop_left' (by simp; omega)]
  rw [t1, t2]
  conv => lhs; rw [el]
  rw [three_turns A B C D a b (p + (b - a)) lA (by omega) (by omega)]

theorem move_down (l : List Int) (a b p : Nat) (hab : a ≤ b) (hb : b ≤ l.length) (h : p < a) :
    revL (revL (revL l p a) a b) p b = movL l a b p := by
  obtain ⟨A, hA⟩ : ∃ A, l.take p = A := ⟨_, rfl⟩
  obtain ⟨B, hB⟩ : ∃ B, (l.drop p).take (a - p) = B := ⟨_, rfl⟩
  obtain ⟨C, hC⟩ : ∃ C, (l.drop a).take (b - a) = C := ⟨_, rfl⟩
  obtain ⟨D, hD⟩ : ∃ D, l.drop b = D := ⟨_, rfl⟩
  have lA : A.length = p := by rw [← hA]; simp; omega
  have lB : B.length = a - p := by rw [← hB]; simp; omega
  have lC : C.length = b - a := by rw [← hC]; simp; omega
  have ea : l.drop a = C ++ D := by
    have := (List.take_append_drop (b - a) (l.drop a)).symm
    rwa [List.drop_drop, show a + (b - a) = b by omega, hC, hD] at this
  have et : l.take a = A ++ B := by
    rw [← hA, ← hB, show a = p + (a - p) by omega, List.take_add]
    simp
  have el : l = A ++ B ++ C ++ D := by
    have e2 : l = l.take a ++ l.drop a := (List.take_append_drop a l).symm
    rw [et, ea] at e2
    rw [e2]; simp
  unfold movL
  rw [et, hC, hD]
  have t1 : (A ++ B ++ D).take p = A := by
    rw [List.append_assoc, List.take_left' lA]
  have t2 : (A ++ B ++ D).drop p = B ++ D := by
    rw [List.append_assoc, List.drop_left' lA]
  rw [t1, t2]
  conv => lhs; rw [el]
  rw [three_turns A B C D p a b lA (by omega) (by omega)]
  simp

theorem cells_set (N : Nat) (l : List Int) (i : Nat) (v : Int) (hi : i < l.length) : (cellsOf N l).toArray.setIfInBounds i (.int .u8 v) = (cellsOf N (l.set i v)).toArray := by
  unfold cellsOf
  rw [List.setIfInBounds_toArray]
  congr 1
  rw [List.length_set, ← List.map_set, List.set_append_left _ _ hi]
end Go.Proofs.Ytghefhhgckafdaa
