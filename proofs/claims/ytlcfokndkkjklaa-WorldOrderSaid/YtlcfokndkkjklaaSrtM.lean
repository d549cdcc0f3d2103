/-
  Stable sorting by insertion in blocks and merging in place (SymMerge), without any program: lists whose places change, and what each step keeps.
-/
import Derived.Lib.Hide
namespace Go.Proofs.Ytlcfokndkkjklaa
set_option linter.unusedVariables false

section
variable {α : Type} (d : α) (o : α → Nat)

/-- Two places change. -/
def sw (l : List α) (i j : Nat) : List α := (l.set i (l.getD j d)).set j (l.getD i d)

theorem sw_length (l : List α) (i j : Nat) : (sw d l i j).length = l.length := by simp [sw]

theorem sw_get (l : List α) (i j k : Nat) (hi : i < l.length) (hj : j < l.length) :
    (sw d l i j).getD k d = if k = j then l.getD i d else if k = i then l.getD j d else l.getD k d := by
  unfold sw
  simp only [List.getD_eq_getElem?_getD, List.getElem?_set, List.length_set]
  by_cases h1 : k = j
  · subst h1; simp [hj]
  · rw [if_neg (Ne.symm h1), if_neg h1]
    by_cases h2 : k = i
    · subst h2; simp [hi]
    · rw [if_neg (Ne.symm h2), if_neg h2]

theorem sw_perm (l : List α) (i j : Nat) (hi : i < l.length) (hj : j < l.length) : (sw d l i j).Perm l := by
  have h := Array.swap_perm (xs := l.toArray) (i := i) (j := j) (by simpa using hi) (by simpa using hj)
  have h2 : (l.toArray.swap i j (by simpa using hi) (by simpa using hj)).toList = sw d l i j := by
    apply List.ext_getElem?
    intro k
    unfold sw
    simp only [Array.toList_swap, List.getElem?_set, List.length_set, List.getD_eq_getElem?_getD]
    simp [hi, hj]
  rw [← h2]
  exact h.toList

/-- l' is l, but that the places from a to b may have changed among themselves. -/
structure Mv (l l' : List α) (a b : Nat) : Prop where
  len : l'.length = l.length
  perm : l'.Perm l
  out : ∀ k, k < a ∨ b ≤ k → l'.getD k d = l.getD k d
  from_ : ∀ k, a ≤ k → k < b → ∃ k', a ≤ k' ∧ k' < b ∧ l'.getD k d = l.getD k' d

variable {d o}

theorem Mv.refl (l : List α) (a b : Nat) : Mv d l l a b := ⟨rfl, List.Perm.refl _, fun _ _ => rfl, fun k h1 h2 => ⟨k, h1, h2, rfl⟩⟩

theorem Mv.trans {l l' l'' : List α} {a b a' b' a'' b'' : Nat} (h : Mv d l l' a b) (k : Mv d l' l'' a' b') (h1 : a'' ≤ a) (h2 : b ≤ b'') (h3 : a'' ≤ a') (h4 : b' ≤ b'') : Mv d l l'' a'' b'' := by
  refine ⟨k.len.trans h.len, k.perm.trans h.perm, fun i hi => (k.out i (by omega)).trans (h.out i (by omega)), fun i hi1 hi2 => ?_⟩
  have step : ∀ i, a'' ≤ i → i < b'' → ∃ k', a'' ≤ k' ∧ k' < b'' ∧ l'.getD i d = l.getD k' d := fun i j1 j2 => by
    by_cases hin : a ≤ i ∧ i < b
    · obtain ⟨k', e1, e2, e3⟩ := h.from_ i hin.1 hin.2
      exact ⟨k', by omega, by omega, e3⟩
    · exact ⟨i, j1, j2, h.out i (by omega)⟩
  by_cases hin : a' ≤ i ∧ i < b'
  · obtain ⟨k', e1, e2, e3⟩ := k.from_ i hin.1 hin.2
    obtain ⟨k2, f1, f2, f3⟩ := step k' (by omega) (by omega)
    exact ⟨k2, f1, f2, e3.trans f3⟩
  · obtain ⟨k2, f1, f2, f3⟩ := step i hi1 hi2
    exact ⟨k2, f1, f2, (k.out i (by omega)).trans f3⟩

theorem Mv.mono {l l' : List α} {a b a' b' : Nat} (h : Mv d l l' a b) (h1 : a' ≤ a) (h2 : b ≤ b') : Mv d l l' a' b' := h.trans (Mv.refl l' a' b') h1 h2 (Nat.le_refl _) (Nat.le_refl _)

theorem Mv.sw {l : List α} {i j a b : Nat} (hi : i < l.length) (hj : j < l.length) (a1 : a ≤ i) (a2 : i < b) (b1 : a ≤ j) (b2 : j < b) : Mv d l (sw d l i j) a b := by
  refine ⟨sw_length d l i j, sw_perm d l i j hi hj, fun k hk => ?_, fun k h1 h2 => ?_⟩
  · rw [sw_get d l i j k hi hj, if_neg (by omega), if_neg (by omega)]
  · rw [sw_get d l i j k hi hj]
    by_cases e1 : k = j
    · exact ⟨i, a1, a2, by rw [if_pos e1]⟩
    · rw [if_neg e1]
      by_cases e2 : k = i
      · exact ⟨j, b1, b2, by rw [if_pos e2]⟩
      · exact ⟨k, h1, h2, by rw [if_neg e2]⟩

/-- The order tells all places apart. -/
def Apart (d : α) (o : α → Nat) (l : List α) : Prop := ∀ i j, i < j → j < l.length → o (l.getD i d) ≠ o (l.getD j d)

theorem apart_iff (l : List α) : Apart d o l ↔ (l.map o).Nodup := by
  unfold Apart List.Nodup
  rw [List.pairwise_iff_getElem]
  constructor
  · intro h i j hi hj hij
    simp only [List.length_map] at hi hj
    have := h i j hij hj
    simpa [List.getD_eq_getElem?_getD, List.getElem?_eq_getElem hi, List.getElem?_eq_getElem hj] using this
  · intro h i j hij hj
    have := h i j (by simp; omega) (by simp; omega) hij
    have hi : i < l.length := by omega
    simpa [List.getD_eq_getElem?_getD, List.getElem?_eq_getElem hi, List.getElem?_eq_getElem hj] using this

theorem Mv.apart {l l' : List α} {a b : Nat} (h : Mv d l l' a b) (hl : Apart d o l) : Apart d o l' :=
  (apart_iff l').2 (((h.perm.map o).nodup_iff).2 ((apart_iff l).1 hl))

theorem Apart.ne {l : List α} (h : Apart d o l) {i j : Nat} (hi : i < l.length) (hj : j < l.length) (hne : i ≠ j) : o (l.getD i d) ≠ o (l.getD j d) := by
  rcases Nat.lt_or_ge i j with h1 | h1
  · exact h i j h1 hj
  · exact Ne.symm (h j i (by omega) hi)

/-- In order from a to b. -/
def Asc (d : α) (o : α → Nat) (l : List α) (a b : Nat) : Prop := ∀ i j, a ≤ i → i < j → j < b → o (l.getD i d) < o (l.getD j d)

theorem Asc.le {l : List α} {a b : Nat} (h : Asc d o l a b) {i j : Nat} (h1 : a ≤ i) (h2 : i ≤ j) (h3 : j < b) : o (l.getD i d) ≤ o (l.getD j d) := by
  rcases Nat.eq_or_lt_of_le h2 with e | e
  · rw [e]; exact Nat.le_refl _
  · exact Nat.le_of_lt (h i j h1 e h3)

theorem Asc.sub {l : List α} {a b a' b' : Nat} (h : Asc d o l a b) (h1 : a ≤ a') (h2 : b' ≤ b) : Asc d o l a' b' := fun i j i1 i2 i3 => h i j (by omega) i2 (by omega)

theorem Asc.same {l l' : List α} {a b : Nat} (h : Asc d o l a b) (e : ∀ k, a ≤ k → k < b → l'.getD k d = l.getD k d) : Asc d o l' a b := fun i j i1 i2 i3 => by
  rw [e i i1 (by omega), e j (by omega) i3]; exact h i j i1 i2 i3

theorem Asc.small {l : List α} {a b : Nat} (h : b ≤ a + 1) : Asc d o l a b := fun i j h1 h2 h3 => by omega

/-- What is asked of a test of two places is so: those from m to b against those from a to m. -/
def Sep (d : α) (o : α → Nat) (lt : α → α → Bool) (l : List α) (a m b : Nat) : Prop :=
  ∀ i j, a ≤ i → i < m → m ≤ j → j < b → (lt (l.getD j d) (l.getD i d) = true ↔ o (l.getD j d) < o (l.getD i d))

/-- Halving: from lo to i P holds, from j to hi it does not. -/
structure BS (P : Nat → Prop) (lo hi i j : Nat) : Prop where
  h1 : lo ≤ i
  h2 : i ≤ j
  h3 : j ≤ hi
  yes : ∀ h, lo ≤ h → h < i → P h
  no : ∀ h, j ≤ h → h < hi → ¬ P h

theorem BS.start (P : Nat → Prop) {lo hi : Nat} (h : lo ≤ hi) : BS P lo hi lo hi := ⟨Nat.le_refl _, h, Nat.le_refl _, fun _ h1 h2 => by omega, fun _ h1 h2 => by omega⟩

/-- What holds at a place holds at all ahead of it. -/
def Dn (P : Nat → Prop) (lo hi : Nat) : Prop := ∀ h k, lo ≤ h → h < k → k < hi → P k → P h

theorem BS.up {P : Nat → Prop} {lo hi i j h : Nat} (b : BS P lo hi i j) (hd : Dn P lo hi) (h1 : i ≤ h) (h2 : h < j) (hp : P h) : BS P lo hi (h + 1) j :=
  ⟨by have := b.h1; omega, h2, b.h3, fun k k1 k2 => by
    rcases Nat.lt_or_ge k h with e | e
    · exact hd k h k1 e (by have := b.h3; omega) hp
    · obtain rfl : k = h := by omega
      exact hp, b.no⟩

theorem BS.down {P : Nat → Prop} {lo hi i j h : Nat} (b : BS P lo hi i j) (hd : Dn P lo hi) (h1 : i ≤ h) (h2 : h < j) (hp : ¬ P h) : BS P lo hi i h :=
  ⟨b.h1, h1, by have := b.h3; omega, b.yes, fun k k1 k2 hk => by
    rcases Nat.lt_or_ge h k with e | e
    · exact hp (hd h k (by have := b.h1; omega) e k2 hk)
    · obtain rfl : k = h := by omega
      exact hp hk⟩

/-- The element at a has gone up to place k; those between have come down by one. -/
structure ShU (d : α) (l l' : List α) (a k : Nat) : Prop where
  mv : Mv d l l' a (k + 1)
  get : ∀ t, l'.getD t d = if a ≤ t ∧ t < k then l.getD (t + 1) d else if t = k then l.getD a d else l.getD t d

theorem ShU.start (l : List α) (a : Nat) : ShU d l l a a := ⟨Mv.refl _ _ _, fun t => by
  rw [if_neg (by omega)]
  by_cases h : t = a
  · rw [if_pos h, h]
  · rw [if_neg h]⟩

theorem ShU.step {l l' : List α} {a k : Nat} (h : ShU d l l' a k) (hk : k + 1 < l.length) (ha : a ≤ k) : ShU d l (sw d l' k (k + 1)) a (k + 1) := by
  have hl := h.mv.len
  refine ⟨h.mv.trans (Mv.sw (a := a) (b := k + 2) (by omega) (by omega) ha (by omega) (by omega) (by omega)) (Nat.le_refl _) (by omega) (Nat.le_refl _) (by omega), fun t => ?_⟩
  rw [sw_get d l' k (k + 1) t (by omega) (by omega), h.get, h.get, h.get]
  by_cases e1 : t = k + 1
  · rw [if_pos e1, if_neg (by omega), if_pos rfl, if_neg (by omega), if_pos e1]
  · rw [if_neg e1]
    by_cases e2 : t = k
    · subst e2
      rw [if_pos rfl, if_neg (by omega), if_neg (by omega), if_pos (by omega)]
    · rw [if_neg e2, if_neg e2, if_neg e1]
      by_cases e3 : a ≤ t ∧ t < k
      · rw [if_pos e3, if_pos (by omega)]
      · rw [if_neg e3, if_neg (by omega)]

/-- The element at m has gone down to place k; those between have gone up by one. -/
structure ShD (d : α) (l l' : List α) (m k : Nat) : Prop where
  mv : Mv d l l' k (m + 1)
  get : ∀ t, l'.getD t d = if k < t ∧ t ≤ m then l.getD (t - 1) d else if t = k then l.getD m d else l.getD t d

theorem ShD.start (l : List α) (m : Nat) : ShD d l l m m := ⟨Mv.refl _ _ _, fun t => by
  rw [if_neg (by omega)]
  by_cases h : t = m
  · rw [if_pos h, h]
  · rw [if_neg h]⟩

theorem ShD.step {l l' : List α} {m k : Nat} (h : ShD d l l' m k) (hm : m < l.length) (hk : k ≤ m) (h0 : 0 < k) : ShD d l (sw d l' k (k - 1)) m (k - 1) := by
  have hl := h.mv.len
  refine ⟨h.mv.trans (Mv.sw (a := k - 1) (b := m + 1) (by omega) (by omega) (by omega) (by omega) (by omega) (by omega)) (by omega) (Nat.le_refl _) (Nat.le_refl _) (Nat.le_refl _), fun t => ?_⟩
  rw [sw_get d l' k (k - 1) t (by omega) (by omega), h.get, h.get, h.get]
  by_cases e1 : t = k - 1
  · rw [if_pos e1, if_neg (by omega), if_pos rfl, if_neg (by omega), if_pos e1]
  · rw [if_neg e1]
    by_cases e2 : t = k
    · subst e2
      rw [if_pos rfl, if_neg (by omega), if_neg (by omega), if_pos (by omega)]
    · rw [if_neg e2, if_neg e2, if_neg e1]
      by_cases e3 : k < t ∧ t ≤ m
      · rw [if_pos e3, if_pos (by omega)]
      · rw [if_neg e3, if_neg (by omega)]

/-- In order, the places as they were but for those from a to b. -/
structure Srt (d : α) (o : α → Nat) (l l' : List α) (a b : Nat) : Prop where
  mv : Mv d l l' a b
  asc : Asc d o l' a b

/-- One element on the left: it goes up to its place. -/
theorem merge_left {l l' : List α} {a b i : Nat} (hb : b ≤ l.length) (hab : a + 1 < b) (ha : Apart d o l) (hR : Asc d o l (a + 1) b) (hs : BS (fun h => o (l.getD h d) < o (l.getD a d)) (a + 1) b i i) (h : ShU d l l' a (i - 1)) : Srt d o l l' a b := by
  have h1 := hs.h1
  have h3 := hs.h3
  refine ⟨h.mv.mono (Nat.le_refl _) (by omega), fun p q p1 p2 p3 => ?_⟩
  have hno : ∀ t, i ≤ t → t < b → o (l.getD a d) < o (l.getD t d) := fun t t1 t2 => by
    have := hs.no t t1 t2
    have := ha.ne (i := a) (j := t) (by omega) (by omega) (by omega)
    omega
  rw [h.get, h.get]
  by_cases e1 : q < i - 1
  · rw [if_pos (by omega), if_pos (by omega)]
    exact hR _ _ (by omega) (by omega) (by omega)
  · by_cases e2 : q = i - 1
    · rw [if_pos (by omega), if_neg (by omega), if_pos e2]
      exact hs.yes _ (by omega) (by omega)
    · rw [if_neg (show ¬ (a ≤ q ∧ q < i - 1) by omega), if_neg e2]
      by_cases e3 : p < i - 1
      · rw [if_pos (by omega)]
        exact hR _ _ (by omega) (by omega) (by omega)
      · rw [if_neg (by omega)]
        by_cases e4 : p = i - 1
        · rw [if_pos e4]; exact hno _ (by omega) (by omega)
        · rw [if_neg e4]; exact hR _ _ (by omega) (by omega) (by omega)

/-- One element on the right: it goes down to its place. -/
theorem merge_right {l l' : List α} {a m i : Nat} (hb : m < l.length) (ha : Apart d o l) (hL : Asc d o l a m) (hs : BS (fun h => ¬ o (l.getD m d) < o (l.getD h d)) a m i i) (h : ShD d l l' m i) : Srt d o l l' a (m + 1) := by
  have h1 := hs.h1
  have h3 := hs.h3
  refine ⟨h.mv.mono h1 (Nat.le_refl _), fun p q p1 p2 p3 => ?_⟩
  have hyes : ∀ t, a ≤ t → t < i → o (l.getD t d) < o (l.getD m d) := fun t t1 t2 => by
    have := hs.yes t t1 t2
    have := ha.ne (i := t) (j := m) (by omega) (by omega) (by omega)
    omega
  have hno : ∀ t, i ≤ t → t < m → o (l.getD m d) < o (l.getD t d) := fun t t1 t2 => by
    have := hs.no t t1 t2
    omega
  rw [h.get, h.get]
  by_cases e1 : q < i
  · rw [if_neg (by omega), if_neg (by omega), if_neg (by omega), if_neg (by omega)]
    exact hL _ _ (by omega) (by omega) (by omega)
  · by_cases e2 : q = i
    · rw [if_neg (by omega), if_neg (by omega), if_neg (by omega), if_pos e2]
      exact hyes _ (by omega) (by omega)
    · rw [if_pos (show i < q ∧ q ≤ m by omega)]
      by_cases e3 : p < i
      · rw [if_neg (by omega), if_neg (by omega)]
        exact hL _ _ (by omega) (by omega) (by omega)
      · by_cases e4 : p = i
        · rw [if_neg (by omega), if_pos e4]
          exact hno _ (by omega) (by omega)
        · rw [if_pos (by omega)]
          exact hL _ _ (by omega) (by omega) (by omega)

/-- One more by insertion. -/
structure Ins (d : α) (o : α → Nat) (l l' : List α) (i j : Nat) : Prop where
  sh : ShD d l l' i j
  gt : ∀ t, j ≤ t → t < i → o (l.getD i d) < o (l.getD t d)

theorem Ins.start (l : List α) (i : Nat) : Ins d o l l i i := ⟨ShD.start l i, fun t h1 h2 => by omega⟩

theorem Ins.at_ {l l' : List α} {i j : Nat} (h : Ins d o l l' i j) (hj : j ≤ i) (h0 : 0 < j) : l'.getD j d = l.getD i d ∧ l'.getD (j - 1) d = l.getD (j - 1) d := by
  constructor
  · rw [h.sh.get, if_neg (by omega), if_pos rfl]
  · rw [h.sh.get, if_neg (by omega), if_neg (by omega)]

theorem Ins.step {l l' : List α} {i j : Nat} (h : Ins d o l l' i j) (hi : i < l.length) (hj : j ≤ i) (h0 : 0 < j) (hlt : o (l.getD i d) < o (l.getD (j - 1) d)) : Ins d o l (sw d l' j (j - 1)) i (j - 1) :=
  ⟨h.sh.step hi hj h0, fun t h1 h2 => by
    by_cases e : t = j - 1
    · rw [e]; exact hlt
    · exact h.gt t (by omega) h2⟩

theorem Ins.done {l l' : List α} {a i j : Nat} (h : Ins d o l l' i j) (hi : i < l.length) (ha : Apart d o l) (h1 : a ≤ j) (h2 : j ≤ i) (hA : Asc d o l a i) (hd : j = a ∨ ¬ o (l.getD i d) < o (l.getD (j - 1) d)) : Srt d o l l' a (i + 1) := by
  refine merge_right hi ha hA ⟨h1, Nat.le_refl _, h2, fun t t1 t2 => ?_, fun t t1 t2 => by have := h.gt t t1 t2; omega⟩ h.sh
  rcases hd with hd | hd
  · omega
  · have := hA.le (i := t) (j := j - 1) t1 (by omega) (by omega)
    omega

/-- Two parts of as many places change. -/
structure SwR (d : α) (l l' : List α) (a b n : Nat) : Prop where
  len : l'.length = l.length
  perm : l'.Perm l
  get : ∀ k, l'.getD k d = if a ≤ k ∧ k < a + n then l.getD (k - a + b) d else if b ≤ k ∧ k < b + n then l.getD (k - b + a) d else l.getD k d

theorem SwR.start (l : List α) (a b : Nat) : SwR d l l a b 0 := ⟨rfl, List.Perm.refl _, fun k => by rw [if_neg (by omega), if_neg (by omega)]⟩

theorem SwR.step {l l' : List α} {a b n N : Nat} (h : SwR d l l' a b n) (hn : n < N) (hab : a + N ≤ b) (hb : b + N ≤ l.length) : SwR d l (sw d l' (a + n) (b + n)) a b (n + 1) := by
  have hl := h.len
  refine ⟨(sw_length d _ _ _).trans hl, (sw_perm d l' _ _ (by omega) (by omega)).trans h.perm, fun k => ?_⟩
  rw [sw_get d l' _ _ k (by omega) (by omega), h.get, h.get, h.get]
  by_cases e1 : k = b + n
  · rw [if_pos e1, if_neg (by omega), if_neg (by omega), if_neg (by omega), if_pos (by omega)]
    congr 1; omega
  · rw [if_neg e1]
    by_cases e2 : k = a + n
    · rw [if_pos e2, if_neg (by omega), if_neg (by omega), if_pos (by omega)]
      congr 1; omega
    · rw [if_neg e2]
      by_cases e3 : a ≤ k ∧ k < a + n
      · rw [if_pos e3, if_pos (by omega)]
      · by_cases e4 : b ≤ k ∧ k < b + n
        · rw [if_neg e3, if_pos e4, if_neg (by omega), if_pos (by omega)]
        · rw [if_neg e3, if_neg e4, if_neg (by omega), if_neg (by omega)]

/-- What lay from a to m and what lay from m to b have changed places. -/
structure Rot (d : α) (l l' : List α) (a m b : Nat) : Prop where
  len : l'.length = l.length
  perm : l'.Perm l
  get : ∀ k, l'.getD k d = if a ≤ k ∧ k < a + (b - m) then l.getD (k - a + m) d else if a + (b - m) ≤ k ∧ k < b then l.getD (k - (b - m)) d else l.getD k d

/-- On the way: what is left to do is to change what lies from m - i to m and what lies from m to m + j. -/
structure Rtg (d : α) (l l' : List α) (a m b i j : Nat) : Prop where
  len : l'.length = l.length
  perm : l'.Perm l
  h1 : a + i ≤ m
  h2 : m + j ≤ b
  h0 : 0 < i
  h3 : 0 < j
  get : ∀ k, (if a ≤ k ∧ k < a + (b - m) then l.getD (k - a + m) d else if a + (b - m) ≤ k ∧ k < b then l.getD (k - (b - m)) d else l.getD k d) =
    if m - i ≤ k ∧ k < m - i + j then l'.getD (k - (m - i) + m) d else if m - i + j ≤ k ∧ k < m + j then l'.getD (k - j) d else l'.getD k d

theorem Rtg.start (l : List α) {a m b : Nat} (h1 : a < m) (h2 : m < b) : Rtg d l l a m b (m - a) (b - m) :=
  ⟨rfl, List.Perm.refl _, by omega, by omega, by omega, by omega, fun k => by
    rw [show m - (m - a) = a by omega, show m + (b - m) = b by omega]⟩

theorem Rtg.left {l l' l'' : List α} {a m b i j : Nat} (h : Rtg d l l' a m b i j) (hij : j < i) (s : SwR d l' l'' (m - i) m j) : Rtg d l l'' a m b (i - j) j := by
  have a1 := h.h1
  have a2 := h.h2
  have a3 := h.h3
  refine ⟨s.len.trans h.len, s.perm.trans h.perm, by omega, a2, by omega, a3, fun k => ?_⟩
  rw [h.get k, s.get, s.get, s.get]
  by_cases e1 : m - i ≤ k ∧ k < m - i + j
  · rw [if_pos e1, if_neg (show ¬ (m - (i - j) ≤ k ∧ k < m - (i - j) + j) by omega), if_neg (show ¬ (m - (i - j) + j ≤ k ∧ k < m + j) by omega), if_pos e1]
  · rw [if_neg e1]
    by_cases e2 : m - i + j ≤ k ∧ k < m + j
    · rw [if_pos e2]
      by_cases e3 : m - (i - j) ≤ k ∧ k < m - (i - j) + j
      · rw [if_pos e3, if_neg (by omega), if_pos (by omega)]
        congr 1; omega
      · rw [if_neg e3, if_pos (show m - (i - j) + j ≤ k ∧ k < m + j by omega), if_neg (by omega), if_neg (by omega)]
    · rw [if_neg e2, if_neg (by omega), if_neg (by omega), if_neg e1, if_neg (by omega)]

theorem Rtg.right {l l' l'' : List α} {a m b i j : Nat} (h : Rtg d l l' a m b i j) (hij : i < j) (s : SwR d l' l'' (m - i) (m + j - i) i) : Rtg d l l'' a m b i (j - i) := by
  have a1 := h.h1
  have a2 := h.h2
  have a3 := h.h0
  refine ⟨s.len.trans h.len, s.perm.trans h.perm, a1, by omega, a3, by omega, fun k => ?_⟩
  rw [h.get k, s.get, s.get, s.get]
  by_cases e1 : m - i ≤ k ∧ k < m - i + j
  · rw [if_pos e1]
    by_cases e2 : m - i ≤ k ∧ k < m - i + (j - i)
    · rw [if_pos e2, if_neg (by omega), if_neg (by omega)]
    · rw [if_neg e2, if_pos (show m - i + (j - i) ≤ k ∧ k < m + (j - i) by omega), if_pos (by omega)]
      congr 1; omega
  · by_cases e2 : m - i + j ≤ k ∧ k < m + j
    · rw [if_neg e1, if_pos e2, if_neg (by omega), if_neg (by omega), if_neg (by omega), if_pos (by omega)]
      congr 1; omega
    · rw [if_neg e1, if_neg e2, if_neg (by omega), if_neg (by omega), if_neg (by omega), if_neg (by omega)]

theorem Rtg.done {l l' l'' : List α} {a m b i : Nat} (h : Rtg d l l' a m b i i) (s : SwR d l' l'' (m - i) m i) : Rot d l l'' a m b := by
  have a1 := h.h1
  have a2 := h.h2
  refine ⟨s.len.trans h.len, s.perm.trans h.perm, fun k => ?_⟩
  rw [s.get, h.get k]
  by_cases e1 : m - i ≤ k ∧ k < m - i + i
  · rw [if_pos e1, if_pos e1]
  · rw [if_neg e1, if_neg e1]
    by_cases e2 : m ≤ k ∧ k < m + i
    · rw [if_pos e2, if_pos (by omega)]
      congr 1; omega
    · rw [if_neg e2, if_neg (by omega)]

theorem Rot.none {l : List α} {a m b : Nat} (h : a = m ∨ m = b) (h1 : a ≤ m) (h2 : m ≤ b) : Rot d l l a m b := by
  refine ⟨rfl, List.Perm.refl _, fun k => ?_⟩
  rcases h with rfl | rfl
  · by_cases e1 : a ≤ k ∧ k < a + (b - a)
    · rw [if_pos e1]; congr 1; omega
    · rw [if_neg e1, if_neg (by omega)]
  · rw [if_neg (by omega)]
    by_cases e2 : a + (m - m) ≤ k ∧ k < m
    · rw [if_pos e2]; congr 1; omega
    · rw [if_neg e2]

theorem Rot.mv {l l' : List α} {a m b : Nat} (h : Rot d l l' a m b) (h1 : a ≤ m) (h2 : m ≤ b) : Mv d l l' a b := by
  refine ⟨h.len, h.perm, fun k hk => by rw [h.get, if_neg (by omega), if_neg (by omega)], fun k k1 k2 => ?_⟩
  rw [h.get]
  by_cases e1 : a ≤ k ∧ k < a + (b - m)
  · exact ⟨k - a + m, by omega, by omega, by rw [if_pos e1]⟩
  · exact ⟨k - (b - m), by omega, by omega, by rw [if_neg e1, if_pos (by omega)]⟩

/-- Where the two parts are cut: s on the left, e on the right. -/
structure Cut (d : α) (o : α → Nat) (l : List α) (a m b mid s e : Nat) : Prop where
  se : s + e = mid + m
  s1 : a ≤ s
  s2 : s ≤ m
  e1 : m ≤ e
  e2 : e ≤ b
  ahead : ∀ p q, a ≤ p → p < s → e ≤ q → q < b → o (l.getD p d) < o (l.getD q d)
  behind : ∀ p q, s ≤ p → p < m → m ≤ q → q < e → o (l.getD q d) < o (l.getD p d)

theorem cut_of {l : List α} {a m b mid lo hi s : Nat} (hb : b ≤ l.length) (ha : Apart d o l) (hL : Asc d o l a m) (hR : Asc d o l m b) (h1 : a < m) (h2 : m < b) (hm : mid = (a + b) / 2)
    (hlo : lo = if mid < m then mid + m - b else a) (hhi : hi = if mid < m then mid else m)
    (hs : BS (fun c => ¬ o (l.getD (mid + m - 1 - c) d) < o (l.getD c d)) lo hi s s) : Cut d o l a m b mid s (mid + m - s) := by
  have g1 := hs.h1
  have g3 := hs.h3
  have b1 : a ≤ lo ∧ lo ≤ m ∧ hi ≤ m ∧ hi ≤ mid ∧ mid + m ≤ lo + b ∧ mid < b ∧ a ≤ mid := by
    by_cases c : mid < m
    · rw [if_pos c] at hlo hhi; omega
    · rw [if_neg c] at hlo hhi; omega
  have b2 : lo = a ∨ lo + b = mid + m := by
    by_cases c : mid < m
    · rw [if_pos c] at hlo; omega
    · rw [if_neg c] at hlo; omega
  have b3 : hi = m ∨ hi = mid := by
    by_cases c : mid < m
    · rw [if_pos c] at hhi; omega
    · rw [if_neg c] at hhi; omega
  refine ⟨by omega, by omega, by omega, by omega, by omega, fun p q p1 p2 q1 q2 => ?_, fun p q p1 p2 q1 q2 => ?_⟩
  · by_cases hlo' : s = lo
    · omega
    · have k1 := hs.yes (s - 1) (by omega) (by omega)
      have k2 := ha.ne (i := mid + m - 1 - (s - 1)) (j := s - 1) (by omega) (by omega) (by omega)
      have k3 := hL.le (i := p) (j := s - 1) p1 (by omega) (by omega)
      have k4 := hR.le (i := mid + m - 1 - (s - 1)) (j := q) (by omega) (by omega) q2
      omega
  · by_cases hhi' : s = hi
    · omega
    · have k1 := hs.no s (Nat.le_refl _) (by omega)
      have k3 := hL.le (i := s) (j := p) (by omega) p1 p2
      have k4 := hR.le (i := q) (j := mid + m - 1 - s) q1 (by omega) (by omega)
      have k5 : o (l.getD (mid + m - 1 - s) d) < o (l.getD s d) := by
        rcases Nat.lt_or_ge (o (l.getD (mid + m - 1 - s) d)) (o (l.getD s d)) with h | h
        · exact h
        · exact absurd (by omega) k1
      omega

/-- Behind the rotation both halves are two parts in order. -/
theorem Cut.halves {l l1 : List α} {a m b mid s e : Nat} {lt : α → α → Bool} (c : Cut d o l a m b mid s e) (hL : Asc d o l a m) (hR : Asc d o l m b) (hS : Sep d o lt l a m b) (r : Rot d l l1 s m e) :
    Asc d o l1 a s ∧ Asc d o l1 s mid ∧ Asc d o l1 mid e ∧ Asc d o l1 e b ∧ Sep d o lt l1 a s mid ∧ Sep d o lt l1 mid e b ∧ (∀ p q, a ≤ p → p < mid → mid ≤ q → q < b → o (l1.getD p d) < o (l1.getD q d)) := by
  have c1 := c.se
  have c2 := c.s1
  have c3 := c.s2
  have c4 := c.e1
  have c5 := c.e2
  have g1 : ∀ k, k < s → l1.getD k d = l.getD k d := fun k hk => by rw [r.get, if_neg (by omega), if_neg (by omega)]
  have g2 : ∀ k, s ≤ k → k < mid → l1.getD k d = l.getD (k - s + m) d := fun k h1 h2 => by rw [r.get, if_pos (by omega)]
  have g3 : ∀ k, mid ≤ k → k < e → l1.getD k d = l.getD (k - (e - m)) d := fun k h1 h2 => by rw [r.get, if_neg (by omega), if_pos (by omega)]
  have g4 : ∀ k, e ≤ k → l1.getD k d = l.getD k d := fun k hk => by rw [r.get, if_neg (by omega), if_neg (by omega)]
  refine ⟨fun i j i1 i2 i3 => ?_, fun i j i1 i2 i3 => ?_, fun i j i1 i2 i3 => ?_, fun i j i1 i2 i3 => ?_, fun i j i1 i2 j1 j2 => ?_, fun i j i1 i2 j1 j2 => ?_, fun p q p1 p2 q1 q2 => ?_⟩
  · rw [g1 i (by omega), g1 j (by omega)]; exact hL _ _ i1 i2 (by omega)
  · rw [g2 i (by omega) (by omega), g2 j (by omega) (by omega)]; exact hR _ _ (by omega) (by omega) (by omega)
  · rw [g3 i (by omega) (by omega), g3 j (by omega) (by omega)]; exact hL _ _ (by omega) (by omega) (by omega)
  · rw [g4 i (by omega), g4 j (by omega)]; exact hR _ _ (by omega) i2 i3
  · rw [g1 i (by omega), g2 j (by omega) (by omega)]; exact hS _ _ i1 (by omega) (by omega) (by omega)
  · rw [g3 i (by omega) (by omega), g4 j (by omega)]; exact hS _ _ (by omega) (by omega) (by omega) j2
  · by_cases e1 : p < s
    · rw [g1 p e1]
      by_cases e2 : q < e
      · rw [g3 q q1 e2]; exact hL _ _ p1 (by omega) (by omega)
      · rw [g4 q (by omega)]; exact c.ahead _ _ p1 e1 (by omega) q2
    · rw [g2 p (by omega) p2]
      by_cases e2 : q < e
      · rw [g3 q q1 e2]; exact c.behind _ _ (by omega) (by omega) (by omega) (by omega)
      · rw [g4 q (by omega)]; exact hR _ _ (by omega) (by omega) q2

/-- Both halves in order, and the one ahead of the other: all is. -/
theorem halves_done {l l1 l2 l3 : List α} {a mid b : Nat} (h1 : a ≤ mid) (h2 : mid ≤ b) (hm : Mv d l l1 a b) (hx : ∀ p q, a ≤ p → p < mid → mid ≤ q → q < b → o (l1.getD p d) < o (l1.getD q d))
    (s2 : Srt d o l1 l2 a mid) (s3 : Srt d o l2 l3 mid b) : Srt d o l l3 a b := by
  refine ⟨(hm.trans s2.mv (Nat.le_refl _) (Nat.le_refl _) (Nat.le_refl _) h2).trans s3.mv (Nat.le_refl _) (Nat.le_refl _) h1 (Nat.le_refl _), fun p q p1 p2 q2 => ?_⟩
  by_cases e1 : q < mid
  · rw [s3.mv.out p (by omega), s3.mv.out q (by omega)]; exact s2.asc _ _ p1 p2 e1
  · by_cases e2 : mid ≤ p
    · exact s3.asc _ _ e2 p2 q2
    · obtain ⟨q', f1, f2, f3⟩ := s3.mv.from_ q (by omega) q2
      obtain ⟨p', k1, k2, k3⟩ := s2.mv.from_ p p1 (by omega)
      rw [f3, s3.mv.out p (by omega), k3, s2.mv.out q' (by omega)]
      exact hx _ _ k1 k2 f1 f2

theorem Srt.nothing {l : List α} {a b : Nat} (h : Asc d o l a b) : Srt d o l l a b := ⟨Mv.refl _ _ _, h⟩

/-- A block in order, out of the same block of l. -/
def Blk (d : α) (o : α → Nat) (l l' : List α) (a b : Nat) : Prop := Asc d o l' a b ∧ ∀ k, a ≤ k → k < b → ∃ k', a ≤ k' ∧ k' < b ∧ l'.getD k d = l.getD k' d

theorem Blk.same {l l' l'' : List α} {a b : Nat} (h : Blk d o l l' a b) (e : ∀ k, a ≤ k → k < b → l''.getD k d = l'.getD k d) : Blk d o l l'' a b :=
  ⟨h.1.same e, fun k k1 k2 => by rw [e k k1 k2]; exact h.2 k k1 k2⟩

theorem Blk.empty {l l' : List α} {a b : Nat} (h : b ≤ a) : Blk d o l l' a b := ⟨Asc.small (by omega), fun k k1 k2 => by omega⟩

/-- All blocks of size s are in order. -/
def Blocks (d : α) (o : α → Nat) (l l' : List α) (s n : Nat) (q0 q1 : Nat) : Prop := ∀ q, q0 ≤ q → q < q1 → Blk d o l l' (q * s) (min (q * s + s) n)

/-- Two blocks of l' that are merged. -/
theorem Blk.merge {l l' l'' : List α} {a m b : Nat} (h1 : Blk d o l l' a m) (h2 : Blk d o l l' m b) (ha : a ≤ m) (hb : m ≤ b) (s : Srt d o l' l'' a b) : Blk d o l l'' a b :=
  ⟨s.asc, fun k k1 k2 => by
    obtain ⟨k', f1, f2, f3⟩ := s.mv.from_ k k1 k2
    rw [f3]
    by_cases e : k' < m
    · obtain ⟨k2, g1, g2, g3⟩ := h1.2 k' f1 e
      exact ⟨k2, g1, by omega, g3⟩
    · obtain ⟨k2, g1, g2, g3⟩ := h2.2 k' (by omega) f2
      exact ⟨k2, by omega, g2, g3⟩⟩

theorem Blk.sep {l l' : List α} {lt : α → α → Bool} {a m b : Nat} (h1 : Blk d o l l' a m) (h2 : Blk d o l l' m b)
    (hF : ∀ i j, i < j → j < b → (lt (l.getD j d) (l.getD i d) = true ↔ o (l.getD j d) < o (l.getD i d))) : Sep d o lt l' a m b := fun i j i1 i2 j1 j2 => by
  obtain ⟨i', e1, e2, e3⟩ := h1.2 i i1 i2
  obtain ⟨j', f1, f2, f3⟩ := h2.2 j j1 j2
  rw [e3, f3]
  exact hF i' j' (by omega) f2

theorem mul_two (t s : Nat) : (2 * t) * s = t * (2 * s) := by rw [Nat.mul_comm 2 t, Nat.mul_assoc]
theorem mul_two1 (t s : Nat) : (2 * t + 1) * s = t * (2 * s) + s := by rw [Nat.add_mul, Nat.one_mul, mul_two]
theorem mul_le_of (q t s : Nat) (h : q < t) : q * s + s ≤ t * s := by
  have := Nat.mul_le_mul_right s (show q + 1 ≤ t from h)
  rwa [Nat.add_mul, Nat.one_mul] at this

/-- The t-th pair of blocks is merged. -/
theorem blocks_step {l l' l'' : List α} {s n t m b : Nat} (hd : Blocks d o l l' (2 * s) n 0 t) (hl : ∀ q, 2 * t ≤ q → Blk d o l l' (q * s) (min (q * s + s) n)) (hm : m = t * (2 * s) + s) (hb : b = min (t * (2 * s) + 2 * s) n) (hmb : m ≤ b)
    (h : Srt d o l' l'' (t * (2 * s)) b) : Blocks d o l l'' (2 * s) n 0 (t + 1) ∧ ∀ q, 2 * (t + 1) ≤ q → Blk d o l l'' (q * s) (min (q * s + s) n) := by
  constructor
  · intro q q0 q1
    by_cases e : q = t
    · subst e
      have h1 := hl (2 * q) (Nat.le_refl _)
      have h2 := hl (2 * q + 1) (by omega)
      rw [mul_two] at h1
      rw [mul_two1] at h2
      rw [show min (q * (2 * s) + s) n = m by omega] at h1
      rw [← hm, show min (m + s) n = b by omega] at h2
      rw [← hb]
      exact h1.merge h2 (by omega) hmb h
    · have hq := hd q q0 (by omega)
      have hle := mul_le_of q t (2 * s) (by omega)
      exact hq.same fun k k1 k2 => h.mv.out k (by omega)
  · intro q hq
    have hle : t * (2 * s) + 2 * s ≤ q * s := by
      have := Nat.mul_le_mul_right s hq
      rw [mul_two, Nat.add_mul, Nat.one_mul] at this
      exact this
    exact (hl q (by omega)).same fun k k1 k2 => h.mv.out k (by omega)

/-- What is left is one block at most. -/
theorem blocks_last {l l' : List α} {s n t : Nat} (hd : Blocks d o l l' (2 * s) n 0 t) (hl : ∀ q, 2 * t ≤ q → Blk d o l l' (q * s) (min (q * s + s) n)) (hn : n ≤ t * (2 * s) + s) : ∀ q, Blk d o l l' (q * (2 * s)) (min (q * (2 * s) + 2 * s) n) := by
  intro q
  by_cases e : q < t
  · exact hd q (Nat.zero_le _) e
  · by_cases e2 : q = t
    · subst e2
      have h1 := hl (2 * q) (Nat.le_refl _)
      rw [mul_two] at h1
      rw [show min (q * (2 * s) + 2 * s) n = min (q * (2 * s) + s) n by omega]
      exact h1
    · have := mul_le_of t q (2 * s) (by omega)
      exact Blk.empty (by omega)

theorem blocks_all {l l' : List α} {s n t : Nat} (hd : Blocks d o l l' s n 0 t) (hn : n ≤ t * s) : ∀ q, Blk d o l l' (q * s) (min (q * s + s) n) := by
  intro q
  by_cases e : q < t
  · exact hd q (Nat.zero_le _) e
  · have := Nat.mul_le_mul_right s (show t ≤ q by omega)
    exact Blk.empty (by omega)
end
end Go.Proofs.Ytlcfokndkkjklaa
