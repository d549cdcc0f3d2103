/-
  The queue's row: its elements in memory, and Len, Less.
-/
import Derived.Test.YtmcbgpjphjacjaaQueM
import Derived.Test.YtmcbgpjphjacjaaChg
import Derived.Test.YtmcbgpjphjacjaaHeap
namespace Go.Proofs.Ytmcbgpjphjacjaa
set_option linter.unusedVariables false

/-- The heap H stands for the list M: M is in order, no two alike, and both hold the same. -/
structure Stands (o : Ele → Nat) (H M : List Ele) : Prop where
  heap : IsHeap o H H.length
  sorted : M.Pairwise (fun x y => o x < o y)
  perm : M.Perm H

theorem Stands.len {o : Ele → Nat} {H M : List Ele} (h : Stands o H M) : M.length = H.length := h.perm.length_eq

theorem getD_mem (H : List Ele) (k : Nat) (h : k < H.length) : H.getD k default ∈ H := by
  simp [List.getD_eq_getElem?_getD, List.getElem?_eq_getElem h]

theorem mem_getD {H : List Ele} {x : Ele} (h : x ∈ H) : ∃ k, k < H.length ∧ H.getD k default = x := by
  obtain ⟨k, hk, e⟩ := List.getElem_of_mem h
  exact ⟨k, hk, by simp [List.getD_eq_getElem?_getD, List.getElem?_eq_getElem hk, e]⟩

/-- The heap's top is the list's first. -/
theorem Stands.top {o : Ele → Nat} {H M : List Ele} {x : Ele} (h : Stands o H (x :: M)) : H.getD 0 default = x := by
  have hl : 0 < H.length := by rw [← h.len]; simp
  have h0 : H.getD 0 default ∈ x :: M := (h.perm.mem_iff).2 (getD_mem H 0 hl)
  rcases List.mem_cons.1 h0 with e | hm
  · exact e
  · exfalso
    have h1 := (List.pairwise_cons.1 h.sorted).1 _ hm
    obtain ⟨k, hk, e⟩ := mem_getD ((h.perm.mem_iff).1 (List.mem_cons_self : x ∈ x :: M))
    have h2 := heap_top o H H.length h.heap k hk
    rw [e] at h2
    omega

/-- One more, at its place. -/
def insQ (o : Ele → Nat) (M : List Ele) (x : Ele) : List Ele := M.filter (fun y => decide (o y < o x)) ++ x :: M.filter (fun y => !decide (o y < o x))

theorem insQ_perm (o : Ele → Nat) (M : List Ele) (x : Ele) : (insQ o M x).Perm (M ++ [x]) := by
  unfold insQ
  refine (List.perm_middle).trans ?_
  refine (List.Perm.cons x (List.filter_append_perm (fun y => decide (o y < o x)) M)).trans ?_
  exact (List.perm_append_singleton x M).symm

theorem insQ_sorted (o : Ele → Nat) (M : List Ele) (x : Ele) (h : M.Pairwise (fun x y => o x < o y)) (hne : ∀ y ∈ M, o y ≠ o x) : (insQ o M x).Pairwise (fun x y => o x < o y) := by
  unfold insQ
  refine List.pairwise_append.2 ⟨h.filter _, List.pairwise_cons.2 ⟨fun y hy => ?_, h.filter _⟩, fun a ha b hb => ?_⟩
  · have h1 := List.mem_filter.1 hy
    have h2 := hne y h1.1
    have h3 : ¬ o y < o x := by simpa using h1.2
    omega
  · have h1 := List.mem_filter.1 ha
    have h2 : o a < o x := by simpa using h1.2
    rcases List.mem_cons.1 hb with rfl | hb
    · exact h2
    · have h3 := List.mem_filter.1 hb
      have h4 : ¬ o b < o x := by simpa using h3.2
      omega

/-- One more: whatever heap holds the old ones and it. -/
theorem Stands.push {o : Ele → Nat} {H H' M : List Ele} {x : Ele} (h : Stands o H M) (hp : H'.Perm (H ++ [x])) (hh : IsHeap o H' H'.length) (hne : ∀ y ∈ M, o y ≠ o x) : Stands o H' (insQ o M x) :=
  ⟨hh, insQ_sorted o M x h.sorted hne, (insQ_perm o M x).trans ((h.perm.append_right [x]).trans hp.symm)⟩

/-- One less: the first is gone. -/
theorem Stands.pop {o : Ele → Nat} {H H' M : List Ele} {x : Ele} (h : Stands o H (x :: M)) (hp : (H' ++ [x]).Perm H) (hh : IsHeap o H' H'.length) : Stands o H' M :=
  ⟨hh, (List.pairwise_cons.1 h.sorted).2, by
    have h1 : (x :: M).Perm (x :: H') := h.perm.trans (hp.symm.trans (List.perm_append_singleton x H'))
    exact h1.cons_inv⟩
end Go.Proofs.Ytmcbgpjphjacjaa

namespace Go.Proofs.Ytmcbgpjphjacjaa
set_option linter.unusedVariables false
set_option maxRecDepth 100000
open Go.RowKit

/-- What stands ahead: by the moment's key, then by how many were pushed ahead. -/
def oE (x : Ele) : Nat := keyF x.1 * 9223372036854775808 + x.2.2.toNat

def ElesAt (w : World) (g : Nat) (H : List Ele) : Prop :=
  ∀ k, k < H.length → w.cell? ⟨g, k * 3, none⟩ = some (.float .f64 (H.getD k default).1) ∧ w.cell? ⟨g, k * 3 + 1, none⟩ = some (.int .i64 (H.getD k default).2.1) ∧ w.cell? ⟨g, k * 3 + 2, none⟩ = some (.int .i64 (H.getD k default).2.2)

theorem ElesAt.chg {w w' : World} {g : Nat} {H : List Ele} {S : List Nat} (h : ElesAt w g H) (c : Chg S w w') (hg : g ∉ S) : ElesAt w' g H :=
  fun k hk => ⟨c.cell (h k hk).1 hg, c.cell (h k hk).2.1 hg, c.cell (h k hk).2.2 hg⟩

/-- What an element may be. -/
def EleOk (x : Ele) : Prop := Wd x.1 ∧ 0 ≤ x.2.2 ∧ x.2.2 < 4611686018427387904

theorem len_any (v : Option Addr) (n c : Nat) (w : World) :
    Calls Try.prog 92 #[.slice v n c] w fun e w' => e = .returned (.int .i64 n) ∧ w = w' := by
  go_enter Try.func92, Try.ntmps92
  go_wp2_with fail
  go_ret
  exact ⟨rfl, rfl⟩

set_option maxHeartbeats 1000000 in
theorem less_any (g n c : Nat) (H : List Ele) (i k : Nat) (w : World) (h : ElesAt w g H) (hn : H.length = n) (hi : i < n) (hk : k < n) (xi : EleOk (H.getD i default)) (yk : EleOk (H.getD k default)) :
    Calls Try.prog 93 #[.slice (some ⟨g, 0, none⟩) n c, .int .i64 i, .int .i64 k] w fun e w' => e = .returned (.bool (decide (oE (H.getD i default) < oE (H.getD k default)))) ∧ Chg [] w w' := by
  obtain ⟨a0, a1, a2⟩ := h i (by omega)
  obtain ⟨b0, b1, b2⟩ := h k (by omega)
  have f1 : (i : Int) < (n : Int) := by omega
  have f2 : (k : Int) < (n : Int) := by omega
  generalize H.getD i default = x at *
  generalize H.getD k default = y at *
  obtain ⟨xb, xn, xa⟩ := x
  obtain ⟨yb, yn, ya⟩ := y
  obtain ⟨x1, x2, x3⟩ := xi
  obtain ⟨y1, y2, y3⟩ := yk
  dsimp only at a0 a1 a2 b0 b1 b2 x1 x2 x3 y1 y2 y3
  obtain ⟨xa, rfl⟩ := Int.eq_ofNat_of_zero_le x2
  obtain ⟨ya, rfl⟩ := Int.eq_ofNat_of_zero_le y2
  have hxa : xa < 4611686018427387904 := by omega
  have hya : ya < 4611686018427387904 := by omega
  have hv : decide (oE (xb, xn, (xa : Int)) < oE (yb, yn, (ya : Int))) = (if cmpF xb yb = 0 then decide (xa < ya) else decide (cmpF xb yb < 0)) := by
    unfold oE
    dsimp only
    rw [Int.toNat_natCast, Int.toNat_natCast]
    rcases cmpF_tri xb yb with ⟨h1, h2⟩ | ⟨h1, h2⟩ | ⟨h1, h2⟩
    · rw [h2, if_neg (by decide)]
      rw [decide_eq_true (by omega : keyF xb * 9223372036854775808 + xa < keyF yb * 9223372036854775808 + ya)]; rfl
    · rw [h2, if_pos rfl, h1]
      by_cases h3 : xa < ya
      · rw [decide_eq_true (by omega), decide_eq_true (by omega)]
      · rw [decide_eq_false (by omega), decide_eq_false (by omega)]
    · rw [h2, if_neg (by decide)]
      rw [decide_eq_false (by omega : ¬ keyF xb * 9223372036854775808 + xa < keyF yb * 9223372036854775808 + ya)]; rfl
  rw [hv]
  clear hv x2 x3 y2 y3 hxa hya
  have HX := Lib.hid x1
  have HY := Lib.hid y1
  clear x1 y1
  by_cases hc : cmpF xb yb = 0
  · rw [if_pos hc]
    go_enter Try.func93, Try.ntmps93
    go_wp2_with fail
    go_quiet ((go_at_call 95; exact quiet_same (compare_any _ _ _ HX.out HY.out)))
    go_wp2_with fail
    go_quiet (fail)
    go_wp2_with fail
    go_ret
    exact ⟨rfl, ((Chg.refl _ _).drewN _).drewN _⟩
  · rw [if_neg hc]
    go_enter Try.func93, Try.ntmps93
    go_wp2_with fail
    go_quiet ((go_at_call 95; exact quiet_same (compare_any _ _ _ HX.out HY.out)))
    go_wp2_with fail
    all_goals (go_ret; exact ⟨rfl, (Chg.refl _ _).drewN _⟩)
end Go.Proofs.Ytmcbgpjphjacjaa
