/-
  A heap and the list in order that it stands for: the first, one more, one less.
-/
import Derived.Test.YtmcbgpjphjacjaaHeap
namespace Go.Proofs.Ytmcbgpjphjacjaa
set_option linter.unusedVariables false

/-- The heap H stands for the list M: M is in order, no two alike, and both hold the same. -/
structure Stands (o : Ele → Nat) (H M : List Ele) : Prop where
  heap : IsHeap o H H.length
  sorted : M.Pairwise (fun x y => o x < o y)
  perm : M.Perm H

theorem Stands.len {o : Ele → Nat} {H M : List Ele} (h : Stands o H M) : M.length = H.length := h.perm.length_eq

theorem getD_mem (H : List Ele) (k : Nat) (h : k < H.length) : H.getD k default ∈ H := by
  simp [List.getD_eq_getElem?_getD, List.getElem?_eq_getElem h]

theorem mem_getD {H : List Ele} {x : Ele} (h : x ∈ H) : ∃ k, k < H.length ∧ H.getD k default = x := by
  obtain ⟨k, hk, e⟩ := List.getElem_of_mem h
  exact ⟨k, hk, by simp [List.getD_eq_getElem?_getD, List.getElem?_eq_getElem hk, e]⟩

/-- The heap's top is the list's first. -/
theorem Stands.top {o : Ele → Nat} {H M : List Ele} {x : Ele} (h : Stands o H (x :: M)) : H.getD 0 default = x := by
  have hl : 0 < H.length := by rw [← h.len]; simp
  have h0 : H.getD 0 default ∈ x :: M := (h.perm.mem_iff).2 (getD_mem H 0 hl)
  rcases List.mem_cons.1 h0 with e | hm
  · exact e
  · exfalso
    have h1 := (List.pairwise_cons.1 h.sorted).1 _ hm
    obtain ⟨k, hk, e⟩ := mem_getD ((h.perm.mem_iff).1 (List.mem_cons_self : x ∈ x :: M))
    have h2 := heap_top o H H.length h.heap k hk
    rw [e] at h2
    omega

/-- One more, at its place. -/
def insQ (o : Ele → Nat) (M : List Ele) (x : Ele) : List Ele := M.filter (fun y => decide (o y < o x)) ++ x :: M.filter (fun y => !decide (o y < o x))

theorem insQ_perm (o : Ele → Nat) (M : List Ele) (x : Ele) : (insQ o M x).Perm (M ++ [x]) := by
  unfold insQ
  refine (List.perm_middle).trans ?_
  refine (List.Perm.cons x (List.filter_append_perm (fun y => decide (o y < o x)) M)).trans ?_
  exact (List.perm_append_singleton x M).symm

theorem insQ_sorted (o : Ele → Nat) (M : List Ele) (x : Ele) (h : M.Pairwise (fun x y => o x < o y)) (hne : ∀ y ∈ M, o y ≠ o x) : (insQ o M x).Pairwise (fun x y => o x < o y) := by
  unfold insQ
  refine List.pairwise_append.2 ⟨h.filter _, List.pairwise_cons.2 ⟨fun y hy => ?_, h.filter _⟩, fun a ha b hb => ?_⟩
  · have h1 := List.mem_filter.1 hy
    have h2 := hne y h1.1
    have h3 : ¬ o y < o x := by simpa using h1.2
    omega
  · have h1 := List.mem_filter.1 ha
    have h2 : o a < o x := by simpa using h1.2
    rcases List.mem_cons.1 hb with rfl | hb
    · exact h2
    · have h3 := List.mem_filter.1 hb
      have h4 : ¬ o b < o x := by simpa using h3.2
      omega

/-- One more: whatever heap holds the old ones and it. -/
theorem Stands.push {o : Ele → Nat} {H H' M : List Ele} {x : Ele} (h : Stands o H M) (hp : H'.Perm (H ++ [x])) (hh : IsHeap o H' H'.length) (hne : ∀ y ∈ M, o y ≠ o x) : Stands o H' (insQ o M x) :=
  ⟨hh, insQ_sorted o M x h.sorted hne, (insQ_perm o M x).trans ((h.perm.append_right [x]).trans hp.symm)⟩

/-- One less: the first is gone. -/
theorem Stands.pop {o : Ele → Nat} {H H' M : List Ele} {x : Ele} (h : Stands o H (x :: M)) (hp : (H' ++ [x]).Perm H) (hh : IsHeap o H' H'.length) : Stands o H' M :=
  ⟨hh, (List.pairwise_cons.1 h.sorted).2, by
    have h1 : (x :: M).Perm (x :: H') := h.perm.trans (hp.symm.trans (List.perm_append_singleton x H'))
    exact h1.cons_inv⟩
end Go.Proofs.Ytmcbgpjphjacjaa
