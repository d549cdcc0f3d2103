/-
  Layer 16: what comes, in the order of moments: two ways to tell it.
-/
import Derived.Test.YtlcfokndkkjklaaWldPq
import Derived.Test.YtlcfokndkkjklaaSrtC
namespace Go.Proofs.Ytlcfokndkkjklaa
set_option linter.unusedVariables false
set_option linter.unusedSimpArgs false
open Go.RowKit

/-- The text of what came. -/
def txS (k : Int) (bs : List Int) : ByteArray := if k = 0 then strOfNums bs else if k = 1 then ByteArray.mk #[60, 115, 105, 103, 62] else ByteArray.mk #[60, 102, 97, 117, 108, 116, 62]

def flatS : List It → ByteArray
  | [] => ByteArray.empty
  | x :: Z => txS x.kind x.bs ++ flatS Z

theorem flatS_cons (x : It) (Z : List It) : flatS (x :: Z) = txS x.kind x.bs ++ flatS Z := rfl

theorem txS_size (k : Int) (bs : List Int) : (txS k bs).size ≤ bs.length + 7 := by
  unfold txS
  split
  · rw [strOfNums_size]; omega
  · split
    · show 5 ≤ _; omega
    · show 7 ≤ _; omega

theorem txS_wt (x : It) : (txS x.kind x.bs).size ≤ 7 * (if x.kind = 0 then x.bs.length else 1) := by
  unfold txS
  split
  · rw [strOfNums_size]; omega
  · split
    · show 5 ≤ _; omega
    · show 7 ≤ _; omega

theorem flatS_size (Z : List It) : (flatS Z).size ≤ 7 * wtI Z := by
  induction Z with
  | nil => exact Nat.zero_le _
  | cons x Z ih =>
    rw [flatS_cons, wtI_cons, ba_size]
    have := txS_wt x
    omega

theorem flatS_append (A B : List It) : flatS (A ++ B) = flatS A ++ flatS B := by
  induction A with
  | nil => rw [List.nil_append]; exact (ba_empty_append _).symm
  | cons x A ih => rw [List.cons_append, flatS_cons, flatS_cons, ih, ba_assoc]

theorem flatS_dat {s F : ByteArray} {z : Zt} {Z : List Zt} {k : Nat} (h : s ++ flatS ((z :: Z).map (·.it)) = F) (hz : z.it.kind = 0) (hk : k ≤ z.it.bs.length) :
    (s ++ strOfNums (z.it.bs.take k)) ++ flatS ((if k = z.it.bs.length then Z else z.cut k :: Z).map (·.it)) = F := by
  rw [← h, ba_assoc]
  congr 1
  have e : flatS ((z :: Z).map (·.it)) = strOfNums z.it.bs ++ flatS (Z.map (·.it)) := by
    show flatS (z.it :: Z.map (·.it)) = _
    rw [flatS_cons]; unfold txS; rw [if_pos hz]
  rw [e]
  by_cases hkl : k = z.it.bs.length
  · rw [if_pos hkl, hkl, List.take_length]
  · rw [if_neg hkl]
    have e2 : flatS ((z.cut k :: Z).map (·.it)) = strOfNums (z.it.bs.drop k) ++ flatS (Z.map (·.it)) := by
      show flatS ((z.cut k).it :: Z.map (·.it)) = _
      rw [flatS_cons]; unfold txS; rw [if_pos (show (z.cut k).it.kind = 0 from hz)]
      rfl
    rw [e2, ← ba_assoc, strOfNums_append, List.take_append_drop]

theorem flatS_far {s F : ByteArray} {z : Zt} {Z : List Zt} (h : s ++ flatS ((z :: Z).map (·.it)) = F) : (s ++ txS z.it.kind z.it.bs) ++ flatS (Z.map (·.it)) = F := by
  rw [← h, ba_assoc]
  rfl

theorem flatS_le {s F : ByteArray} {A : List It} (h : s ++ flatS A = F) : s.size ≤ F.size := by rw [← h, ba_size]; omega

/-! ### The order -/

def tgE (y : Ele × It) : Tag := (y.1.1, y.1.2.1.toNat)

/-- Of an entry of the order: which item it is. -/
structure OrdIs (its : List ItD) (k n : Nat) (y : Ele × It) : Prop where
  ex : ∃ i x, i < k ∧ its[i]? = some x ∧ y.1.1 = x.b ∧ y.1.2.1 = (i : Int) ∧ y.2 = itOf x ∧ comes x = true
  s0 : 0 ≤ y.1.2.2
  s1 : y.1.2.2 < (n : Int)

theorem lt_by {B p q s n : Nat} (hs : s < n) (hn : n ≤ B) : p * B + s < q * B + n ↔ p ≤ q := by
  constructor
  · intro h
    refine Nat.not_lt.1 fun hpq => ?_
    have := Nat.mul_le_mul_right B hpq
    rw [Nat.succ_mul] at this
    omega
  · intro h
    have := Nat.mul_le_mul_right B h
    omega

theorem lt_up {B p q s n : Nat} (hn : n < B) (h : q < p) : q * B + n < p * B + s := by
  have := Nat.mul_le_mul_right B h
  rw [Nat.succ_mul] at this
  omega

theorem ord_lt {its : List ItD} {k n : Nat} {y : Ele × It} {b : Nat} {t : It} (h : OrdIs its k n y) (hk : k < 1000000) (hn : n ≤ k) :
    (decide (oE y.1 < oE (b, (k : Int), (n : Int))) = true ↔ oT (tgE y) < oT (tgE ((b, (k : Int), (n : Int)), t))) ∧ (¬ oT (tgE y) < oT (tgE ((b, (k : Int), (n : Int)), t)) → oT (tgE ((b, (k : Int), (n : Int)), t)) < oT (tgE y)) := by
  obtain ⟨⟨i, x, hi, _, _, e2, _, _⟩, s0, s1⟩ := h
  obtain ⟨⟨b1, j, s⟩, it⟩ := y
  dsimp only at e2 s0 s1
  subst e2
  have h1 : ((i : Int)).toNat = i := by omega
  have h2 : ((k : Int)).toNat = k := by omega
  have h3 : ((n : Int)).toNat = n := by omega
  have h4 : s.toNat < n := by omega
  have hA : oE (b1, (i : Int), s) < oE (b, (k : Int), (n : Int)) ↔ keyF b1 ≤ keyF b := by
    unfold oE
    dsimp only
    rw [h3]
    exact lt_by h4 (Nat.le_trans (Nat.le_trans hn (Nat.le_of_lt hk)) (by decide))
  have hB : oT (tgE ((b1, (i : Int), s), it)) < oT (tgE ((b, (k : Int), (n : Int)), t)) ↔ keyF b1 ≤ keyF b := by
    unfold oT tgE
    dsimp only
    rw [h1, h2]
    exact lt_by hi (Nat.le_of_lt hk)
  refine ⟨by rw [decide_eq_true_eq]; exact hA.trans hB.symm, fun h => ?_⟩
  have hlt : keyF b < keyF b1 := Nat.not_le.1 (fun hh => h (hB.2 hh))
  unfold oT tgE
  dsimp only
  rw [h1, h2]
  exact lt_up hk hlt

theorem ordP_is (its : List ItD) (k : Nat) (hk : k ≤ its.length) (hm : its.length ≤ 1000000) :
    (∀ y ∈ ordP its k, OrdIs its k (ordP its k).length y) ∧ (ordP its k).Pairwise (fun y z => oT (tgE y) < oT (tgE z)) ∧
      ((ordP its k).map tgE).Perm (((tagged (its.map (·.b))).take k).filter (fun t => (its[t.2]?.map comes).getD false)) := by
  induction k with
  | zero => exact ⟨fun y hy => (by cases hy), List.Pairwise.nil, by simp [ordP]⟩
  | succ k ih =>
    obtain ⟨i1, i2, i3⟩ := ih (by omega)
    obtain ⟨x, hx⟩ : ∃ x, its[k]? = some x := ⟨its[k]'(by omega), List.getElem?_eq_getElem _⟩
    have hle := ordP_len its k
    have htk : (tagged (its.map (·.b))).take (k + 1) = (tagged (its.map (·.b))).take k ++ [(x.b, k)] := by
      have hl : k < (tagged (its.map (·.b))).length := by rw [tagged_length, List.length_map]; omega
      rw [List.take_succ_eq_append_getElem hl]
      congr 2
      simp only [tagged, List.getElem_zipIdx, List.getElem_map]
      have : its[k]'(by omega) = x := by rw [List.getElem?_eq_getElem (by omega)] at hx; exact Option.some.inj hx
      rw [this]
      simp
    rw [ordP_succ hx, htk, List.filter_append]
    unfold ordStep
    generalize ordP its k = M at *
    by_cases hc : comes x = true
    · rw [if_pos hc]
      have hlast : [(x.b, k)].filter (fun t : Tag => (its[t.2]?.map comes).getD false) = [(x.b, k)] := by
        rw [List.filter_eq_self]
        intro t ht
        rw [List.mem_singleton.1 ht]
        simp [hx, hc]
      rw [hlast]
      have hperm := insP_perm M ((x.b, (k : Int), (M.length : Int)), itOf x)
      have hlt := fun y hy => ord_lt (b := x.b) (t := itOf x) (i1 y hy) (by omega) hle
      refine ⟨fun y hy => ?_, ?_, ?_⟩
      · rw [hperm.length_eq, List.length_cons]
        rcases List.mem_cons.1 (hperm.mem_iff.1 hy) with rfl | hy
        · exact ⟨⟨k, x, by omega, hx, rfl, rfl, rfl, hc⟩, by show (0 : Int) ≤ (M.length : Int); omega, by show (M.length : Int) < _; omega⟩
        · obtain ⟨⟨i, z, h1, h2⟩, s0, s1⟩ := i1 y hy
          exact ⟨⟨i, z, by omega, h2⟩, s0, by omega⟩
      · unfold insP insG
        rw [List.pairwise_append, List.pairwise_cons]
        refine ⟨i2.sublist List.filter_sublist, ⟨fun z hz => ?_, i2.sublist List.filter_sublist⟩, fun y hy z hz => ?_⟩
        · obtain ⟨hz1, hz2⟩ := List.mem_filter.1 hz
          have := hlt z hz1
          exact this.2 (fun h => by rw [this.1.2 h] at hz2; cases hz2)
        · obtain ⟨hy1, hy2⟩ := List.mem_filter.1 hy
          have h1 := (hlt y hy1).1.1 hy2
          rcases List.mem_cons.1 hz with rfl | hz
          · exact h1
          · obtain ⟨hz1, hz2⟩ := List.mem_filter.1 hz
            have h2 := hlt z hz1
            have := h2.2 (fun h => by rw [h2.1.2 h] at hz2; cases hz2)
            omega
      · have h1 := hperm.map tgE
        rw [List.map_cons] at h1
        refine h1.trans ?_
        have e : tgE ((x.b, (k : Int), (M.length : Int)), itOf x) = (x.b, k) := by unfold tgE; dsimp only; rw [show ((k : Int)).toNat = k by omega]
        rw [e]
        exact (List.Perm.cons _ i3).trans (List.perm_append_singleton _ _).symm
    · rw [if_neg hc]
      have hlast : [(x.b, k)].filter (fun t : Tag => (its[t.2]?.map comes).getD false) = [] := by
        rw [List.filter_eq_nil_iff]
        intro t ht
        rw [List.mem_singleton.1 ht]
        simp [hx, hc]
      rw [hlast, List.append_nil]
      exact ⟨fun y hy => by obtain ⟨⟨i, z, h1, h2⟩, s0, s1⟩ := i1 y hy; exact ⟨⟨i, z, by omega, h2⟩, s0, s1⟩, i2, i3⟩

/-- The item of a tag. -/
def itT (its : List ItD) (t : Tag) : It := itOf (its.getD t.2 ⟨0, 0, 0, none, 0, 0, []⟩)

theorem flatS_filter (its : List ItD) (l : List Tag) (h : ∀ t ∈ l, t.2 < its.length) : flatS ((l.filter (fun t => (its[t.2]?.map comes).getD false)).map (itT its)) = flatS (l.map (itT its)) := by
  induction l with
  | nil => rfl
  | cons t l ih =>
    have h1 := ih (fun s hs => h s (List.mem_cons_of_mem _ hs))
    have hl := h t List.mem_cons_self
    have e : its[t.2]? = some its[t.2] := List.getElem?_eq_getElem hl
    rw [List.map_cons, flatS_cons, List.filter_cons]
    by_cases hc : comes its[t.2] = true
    · rw [if_pos (by rw [e]; exact hc), List.map_cons, flatS_cons, h1]
    · rw [if_neg (by rw [e]; exact hc), h1]
      have hit : itT its t = itOf its[t.2] := by unfold itT; rw [List.getD_eq_getElem?_getD, e]; rfl
      rw [hit]
      have hc' : comes its[t.2] = false := by simpa using hc
      unfold comes at hc'
      simp at hc'
      have hk : (itOf its[t.2]).kind = 0 := hc'.1
      have hb : (itOf its[t.2]).bs = [] := by unfold itOf; dsimp only; rw [hc'.2, List.take_zero]
      rw [hk, hb]
      show _ = txS 0 [] ++ _
      unfold txS
      rw [if_pos rfl, strOfNums_nil, ba_empty_append]

/-- In the order of their moments, those of one moment as they stand: it is what a world tells. -/
theorem flat_srt (its : List ItD) (l' : List Tag) (hm : its.length ≤ 1000000) (hs : Srt default oT (tagged (its.map (·.b))) l' 0 its.length) :
    flatS (l'.map (itT its)) = flatS ((ordP its its.length).map (·.2)) := by
  have htl : (tagged (its.map (·.b))).length = its.length := by rw [tagged_length, List.length_map]
  obtain ⟨o1, o2, o3⟩ := ordP_is its its.length (Nat.le_refl _) hm
  have hp := hs.mv.perm
  have hlt : ∀ t ∈ l', t.2 < its.length := fun t ht => by
    obtain ⟨k, hk, rfl⟩ := List.getElem_of_mem (hp.mem_iff.1 ht)
    simp only [tagged, List.getElem_zipIdx]
    rw [htl] at hk
    omega
  rw [← flatS_filter its l' hlt]
  congr 1
  have hall : (tagged (its.map (·.b))).take its.length = tagged (its.map (·.b)) := List.take_of_length_le (by omega)
  rw [hall] at o3
  have e1 : (ordP its its.length).map tgE = l'.filter (fun t => (its[t.2]?.map comes).getD false) := by
    refine List.Perm.eq_of_pairwise (le := fun x y => oT x < oT y) (fun a b _ _ h k => absurd h (by omega)) (List.pairwise_map.2 o2) ((hs.pairwise htl).sublist List.filter_sublist) (o3.trans (hp.filter _).symm)
  rw [← e1, List.map_map]
  apply List.map_congr_left
  intro y hy
  obtain ⟨i, x, hi, hx, e2, e3, e4, _⟩ := (o1 y hy).ex
  show itT its (tgE y) = y.2
  rw [e4]
  unfold itT tgE
  rw [e3, show ((i : Int)).toNat = i by omega, List.getD_eq_getElem?_getD, hx]
  rfl

/-! ### The search for the first that is not used -/

/-- Which are used, behind j of the order. -/
def usedB (l' : List Tag) (j n : Nat) : List Bool := (List.range n).map (fun i => decide (i ∈ (l'.take j).map (·.2)))

theorem usedB_get (l' : List Tag) (j n i : Nat) (h : i < n) : (usedB l' j n)[i]? = some (decide (i ∈ (l'.take j).map (·.2))) := by
  unfold usedB
  rw [List.getElem?_map, List.getElem?_range h]
  rfl

theorem usedB_zero (l' : List Tag) (n : Nat) : usedB l' 0 n = List.replicate n false := by
  unfold usedB
  rw [List.take_zero]
  apply List.ext_getElem
  · simp
  · intro i h1 h2; simp

theorem usedB_next (l' : List Tag) (j n : Nat) (t : Tag) (h : l'[j]? = some t) : usedB l' (j + 1) n = (usedB l' j n).set t.2 true := by
  apply List.ext_getElem?
  intro i
  by_cases hi : i < n
  · rw [usedB_get _ _ _ _ hi, List.getElem?_set, usedB_get _ _ _ _ hi]
    obtain ⟨hj, rfl⟩ := List.getElem?_eq_some_iff.1 h
    rw [List.take_succ_eq_append_getElem hj, List.map_append]
    by_cases e : l'[j].2 = i
    · rw [if_pos e, if_pos (by unfold usedB; simp; omega)]
      simp [e]
    · rw [if_neg e]
      have e' : ¬ i = l'[j].2 := fun h => e h.symm
      simp [e']
  · rw [List.getElem?_eq_none (by unfold usedB; simp; omega), List.getElem?_eq_none (by rw [List.length_set]; unfold usedB; simp; omega)]

/-- Of the j-th in order: it is not used; of those ahead of it, what is of its key is. -/
theorem srt_first (ws : List Nat) (l' : List Tag) (hm : ws.length ≤ 1000000) (hs : Srt default oT (tagged ws) l' 0 ws.length) (j : Nat) (t : Tag) (h : l'[j]? = some t) :
    t.2 < ws.length ∧ ws.getD t.2 0 = t.1 ∧ ¬ t.2 ∈ (l'.take j).map (·.2) ∧ ∀ i, i < t.2 → keyF (ws.getD i 0) = keyF t.1 → i ∈ (l'.take j).map (·.2) := by
  have hp := hs.mv.perm
  have hpw := hs.pairwise (tagged_length ws)
  obtain ⟨hj, rfl⟩ := List.getElem?_eq_some_iff.1 h
  have mem : ∀ s ∈ l', s.2 < ws.length ∧ ws.getD s.2 0 = s.1 := fun s hs' => by
    obtain ⟨k, hk, rfl⟩ := List.getElem_of_mem (hp.mem_iff.1 hs')
    have hk' : k < ws.length := by rw [tagged_length] at hk; exact hk
    simp only [tagged, List.getElem_zipIdx]
    refine ⟨by omega, ?_⟩
    rw [Nat.zero_add, List.getD_eq_getElem?_getD, List.getElem?_eq_getElem hk']
    rfl
  obtain ⟨m1, m2⟩ := mem l'[j] (List.getElem_mem hj)
  refine ⟨m1, m2, fun hin => ?_, fun i hi hk => ?_⟩
  · obtain ⟨s, hs1, hs2⟩ := List.mem_map.1 hin
    obtain ⟨q, hq, rfl⟩ := List.getElem_of_mem hs1
    rw [List.length_take] at hq
    rw [List.getElem_take] at hs2
    have h1 := List.pairwise_iff_getElem.1 hpw q j (by omega) hj (by omega)
    have h2 := (mem l'[q] (List.getElem_mem _)).2
    have e : l'[q].1 = l'[j].1 := by rw [← h2, ← m2, hs2]
    unfold oT at h1
    rw [e, hs2] at h1
    omega
  · have hin : (ws.getD i 0, i) ∈ l' := hp.mem_iff.2 (by
      have hil : i < ws.length := by omega
      have : (tagged ws)[i]? = some (ws.getD i 0, i) := by
        simp [tagged, List.getElem?_zipIdx, List.getD_eq_getElem?_getD, List.getElem?_eq_getElem hil]
      exact List.mem_of_getElem? this)
    obtain ⟨q, hq, e⟩ := List.getElem_of_mem hin
    have hqj : q < j := by
      rcases Nat.lt_trichotomy q j with h | h | h
      · exact h
      · exfalso
        subst h
        have : l'[q].2 = i := by rw [e]
        omega
      · exfalso
        have h1 := List.pairwise_iff_getElem.1 hpw j q hj hq h
        unfold oT at h1
        rw [e] at h1
        dsimp only at h1
        rw [hk] at h1
        omega
    refine List.mem_map.2 ⟨l'[q], ?_, by rw [e]⟩
    rw [List.mem_take_iff_getElem]
    exact ⟨q, by omega, rfl⟩
end Go.Proofs.Ytlcfokndkkjklaa
