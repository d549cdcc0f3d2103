/-
  Layer 16: what comes of items, as a text; how many calls it takes at most.
-/
import Derived.Test.YtlcfokndkkjklaaWldG
import Derived.Test.YtlcfokndkkjklaaWldD
import Derived.Test.YtlcfokndkkjklaaWldO
import Derived.Laws.Concat
namespace Go.Proofs.Ytlcfokndkkjklaa
set_option linter.unusedVariables false
set_option linter.unusedSimpArgs false
open Go.RowKit

theorem strOfNums_append (a b : List Int) : strOfNums a ++ strOfNums b = strOfNums (a ++ b) := by
  unfold strOfNums
  apply ByteArray.ext
  simp [ByteArray.data_append]

theorem strOfNums_size (a : List Int) : (strOfNums a).size = a.length := by
  unfold strOfNums
  simp [ByteArray.size]

theorem strOfNums_nil : strOfNums [] = ByteArray.empty := rfl

theorem ba_append_empty (a : ByteArray) : a ++ ByteArray.empty = a := by
  apply ByteArray.ext
  simp [ByteArray.data_append]

theorem ba_empty_append (a : ByteArray) : ByteArray.empty ++ a = a := by
  apply ByteArray.ext
  simp [ByteArray.data_append]

theorem ba_assoc (a b c : ByteArray) : (a ++ b) ++ c = a ++ (b ++ c) := by
  apply ByteArray.ext
  simp [ByteArray.data_append]

theorem ba_size (a b : ByteArray) : (a ++ b).size = a.size + b.size := by simp [ByteArray.size_append]

/-- The text of an item that is none of bytes. -/
def farT (k n : Int) : ByteArray := (ByteArray.mk #[60] ++ strOfNums [k % 256, n % 256]) ++ ByteArray.mk #[62]

theorem farT_size (k n : Int) : (farT k n).size = 4 := by
  unfold farT
  rw [ba_size, ba_size, strOfNums_size]
  rfl

def flatT : List It → ByteArray
  | [] => ByteArray.empty
  | x :: Z => (if x.kind = 0 then strOfNums x.bs else farT x.kind x.n) ++ flatT Z

def wtI : List It → Nat
  | [] => 0
  | x :: Z => (if x.kind = 0 then x.bs.length else 1) + wtI Z

theorem flatT_cons (x : It) (Z : List It) : flatT (x :: Z) = (if x.kind = 0 then strOfNums x.bs else farT x.kind x.n) ++ flatT Z := rfl
theorem wtI_cons (x : It) (Z : List It) : wtI (x :: Z) = (if x.kind = 0 then x.bs.length else 1) + wtI Z := rfl

theorem flatT_size (Z : List It) : (flatT Z).size ≤ 4 * wtI Z := by
  induction Z with
  | nil => exact Nat.zero_le _
  | cons x Z ih =>
    rw [flatT_cons, wtI_cons, ba_size]
    split
    · rw [strOfNums_size]; omega
    · rw [farT_size]; omega

theorem wtI_append (A B : List It) : wtI (A ++ B) = wtI A + wtI B := by
  induction A with
  | nil => simp [wtI]
  | cons x A ih => rw [List.cons_append, wtI_cons, wtI_cons, ih]; omega

theorem wtI_perm {A B : List It} (h : A.Perm B) : wtI A = wtI B := by
  induction h with
  | nil => rfl
  | cons x _ ih => rw [wtI_cons, wtI_cons, ih]
  | swap x y l => simp only [wtI]; omega
  | trans _ _ a b => rw [a, b]

theorem itOf_le (x : ItD) : (itOf x).bs.length ≤ x.m := by
  unfold itOf
  dsimp only
  rw [List.length_take]
  omega

/-- All that comes takes no more calls than Great counts. -/
theorem wtI_ord (its : List ItD) (k : Nat) : wtI ((ordP its k).map (·.2)) ≤ sumL (its.take k) := by
  induction k with
  | zero => exact Nat.zero_le _
  | succ k ih =>
    cases hx : its[k]? with
    | none =>
      have e : ordP its (k + 1) = ordP its k := by
        show (match its[k]? with | some x => ordStep (ordP its k) x k | none => ordP its k) = _
        rw [hx]
      rw [e]
      have hl : its.length ≤ k := by rw [List.getElem?_eq_none_iff] at hx; exact hx
      rw [List.take_of_length_le (by omega : its.length ≤ k + 1)]
      rw [List.take_of_length_le hl] at ih
      exact ih
    | some x =>
      rw [ordP_succ hx, sumL_take hx]
      unfold ordStep
      split
      · have hp : ((insP (ordP its k) ((x.b, (k : Int), ((ordP its k).length : Int)), itOf x)).map (·.2)).Perm (itOf x :: (ordP its k).map (·.2)) := by
          have := (insP_perm (ordP its k) ((x.b, (k : Int), ((ordP its k).length : Int)), itOf x)).map (fun y : Ele × It => y.2)
          simpa using this
        rw [wtI_perm hp]
        have h1 : wtI (itOf x :: (ordP its k).map (·.2)) = (if (itOf x).kind = 0 then (itOf x).bs.length else 1) + wtI ((ordP its k).map (·.2)) := rfl
        rw [h1]
        have h2 := itOf_le x
        split <;> omega
      · omega

/-- What stands behind a call that took k bytes of the first item. -/
theorem flat_dat {s F : ByteArray} {z : Zt} {Z : List Zt} {k : Nat} (h : s ++ flatT ((z :: Z).map (·.it)) = F) (hz : z.it.kind = 0) (hk : k ≤ z.it.bs.length) :
    (s ++ strOfNums (z.it.bs.take k)) ++ flatT ((if k = z.it.bs.length then Z else z.cut k :: Z).map (·.it)) = F := by
  rw [← h, ba_assoc]
  congr 1
  have e : flatT ((z :: Z).map (·.it)) = strOfNums z.it.bs ++ flatT (Z.map (·.it)) := by
    show flatT (z.it :: Z.map (·.it)) = _
    rw [flatT_cons, if_pos hz]
  rw [e]
  by_cases hkl : k = z.it.bs.length
  · rw [if_pos hkl, hkl, List.take_length]
  · rw [if_neg hkl]
    have e2 : flatT ((z.cut k :: Z).map (·.it)) = strOfNums (z.it.bs.drop k) ++ flatT (Z.map (·.it)) := by
      show flatT ((z.cut k).it :: Z.map (·.it)) = _
      rw [flatT_cons, if_pos (show (z.cut k).it.kind = 0 from hz)]
      rfl
    rw [e2, ← ba_assoc, strOfNums_append, List.take_append_drop]

theorem flat_far {s F : ByteArray} {z : Zt} {Z : List Zt} (h : s ++ flatT ((z :: Z).map (·.it)) = F) (hz : z.it.kind ≠ 0) :
    ((s ++ strOfNums []) ++ farT z.it.kind z.it.n) ++ flatT (Z.map (·.it)) = F := by
  rw [← h, strOfNums_nil, ba_append_empty, ba_assoc]
  congr 1
  show _ = flatT (z.it :: Z.map (·.it))
  rw [flatT_cons, if_neg hz]

theorem wt_dat {z : Zt} {Z : List Zt} {k : Nat} (hz : z.it.kind = 0) (hk : k ≤ z.it.bs.length) (h1 : 0 < k) :
    wtI ((if k = z.it.bs.length then Z else z.cut k :: Z).map (·.it)) + 1 ≤ wtI ((z :: Z).map (·.it)) := by
  have e : wtI ((z :: Z).map (·.it)) = z.it.bs.length + wtI (Z.map (·.it)) := by
    show wtI (z.it :: Z.map (·.it)) = _
    rw [wtI_cons, if_pos hz]
  rw [e]
  split
  · omega
  · have e2 : wtI ((z.cut k :: Z).map (·.it)) = (z.cut k).it.bs.length + wtI (Z.map (·.it)) := by
      show wtI ((z.cut k).it :: Z.map (·.it)) = _
      rw [wtI_cons, if_pos (show (z.cut k).it.kind = 0 from hz)]
    rw [e2, Zt.cut_len]
    omega

theorem wt_far {z : Zt} {Z : List Zt} (hz : z.it.kind ≠ 0) : wtI (Z.map (·.it)) + 1 ≤ wtI ((z :: Z).map (·.it)) := by
  have e : wtI ((z :: Z).map (·.it)) = 1 + wtI (Z.map (·.it)) := by
    show wtI (z.it :: Z.map (·.it)) = _
    rw [wtI_cons, if_neg hz]
  omega

theorem flat_le {s F : ByteArray} {A : List It} (h : s ++ flatT A = F) : s.size ≤ F.size := by rw [← h, ba_size]; omega
end Go.Proofs.Ytlcfokndkkjklaa
