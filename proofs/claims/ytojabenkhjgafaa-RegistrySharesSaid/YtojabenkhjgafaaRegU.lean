/-
  The registry, where one of its arenas turns.
-/
import Derived.Test.YtojabenkhjgafaaRegO
import Derived.Test.YtojabenkhjgafaaConv
namespace Go.Proofs.Ytojabenkhjgafaa
set_option linter.unusedVariables false
open Go.RowKit Go.WideShapes

def withL (x : Ent) (l : List Int) : Ent := ⟨x.name, x.bA, x.bC, x.N, l⟩
def setL (A : List Ent) (i : Nat) (l : List Int) : List Ent := A.modify i (fun x => withL x l)

theorem setL_length (A : List Ent) (i : Nat) (l : List Int) : (setL A i l).length = A.length := by simp [setL]

theorem setL_map {β : Type} (f : Ent → β) (hf : ∀ x : Ent, ∀ l, f (withL x l) = f x) (A : List Ent) (i : Nat) (l : List Int) : (setL A i l).map f = A.map f := by
  apply List.ext_getElem?
  intro k
  unfold setL
  rw [List.getElem?_map, List.getElem?_map, List.getElem?_modify]
  cases h : A[k]? with
  | none => rfl
  | some x => by_cases hk : i = k <;> simp [hk, hf]

theorem mem_setL {A : List Ent} {i : Nat} {l : List Int} {x : Ent} (h : x ∈ setL A i l) : ∃ k, ∃ hk : k < A.length, (k = i ∧ x = withL A[k] l) ∨ (k ≠ i ∧ x = A[k]) := by
  obtain ⟨k, hk⟩ := List.mem_iff_getElem?.1 h
  unfold setL at hk
  rw [List.getElem?_modify] at hk
  cases hA : A[k]? with
  | none => rw [hA] at hk; cases hk
  | some y =>
    obtain ⟨hlt, e⟩ := List.getElem?_eq_some_iff.1 hA
    rw [hA] at hk
    refine ⟨k, hlt, ?_⟩
    rw [e]
    by_cases hki : i = k
    · exact .inl ⟨hki.symm, by simpa [hki] using hk.symm⟩
    · exact .inr ⟨fun e' => hki e'.symm, by simpa [hki] using hk.symm⟩

theorem find_setL (A : List Ent) (i : Nat) (l : List Int) (s : ByteArray) : findP (setL A i l) s = findP A s := by
  have h : ∀ A : List Ent, findP A s = ((A.map (fun x => (x.name, x.bA))).find? (fun p => decide (p.1 = s))).map (·.2) := fun A => by
    unfold findP
    rw [List.find?_map, Option.map_map]
    rfl
  rw [h, h, setL_map _ (fun _ _ => rfl)]

theorem blks_setL (bR bM : Nat) (nv : Value) (A : List Ent) (i : Nat) (l : List Int) : blks bR bM nv (setL A i l) = blks bR bM nv A := by
  unfold blks
  have h : ∀ A : List Ent, A.flatMap (fun x => [x.bA, x.bC]) = (A.map (fun x => (x.bA, x.bC))).flatMap (fun p => [p.1, p.2]) := fun A => by rw [List.flatMap_map]
  rw [h, h, setL_map _ (fun _ _ => rfl)]

theorem apart_ix {A : List Ent} (h : (arB A).Nodup) {i k : Nat} (hi : i < A.length) (hk : k < A.length) (hne : k ≠ i) : A[k].bA ∉ [A[i].bA, A[i].bC] ∧ A[k].bC ∉ [A[i].bA, A[i].bC] := by
  have key : ∀ i k, i < k → ∀ (hi : i < A.length) (hk : k < A.length), ∀ p ∈ [A[i].bA, A[i].bC], ∀ q ∈ [A[k].bA, A[k].bC], p ≠ q := fun i k hik hi hk p hp q hq => by
    have e : arB A = arB (A.take (i + 1)) ++ arB (A.drop (i + 1)) := by unfold arB; rw [← List.flatMap_append, List.take_append_drop]
    rw [e] at h
    refine (List.nodup_append.1 h).2.2 p (List.mem_flatMap.2 ⟨A[i], ?_, hp⟩) q (List.mem_flatMap.2 ⟨A[k], ?_, hq⟩)
    · exact List.mem_iff_getElem.2 ⟨i, by simp; omega, by simp⟩
    · exact List.mem_iff_getElem.2 ⟨k - (i + 1), by simp; omega, by simp; congr 1; omega⟩
  constructor <;> intro hm
  · rcases Nat.lt_or_gt_of_ne hne with h1 | h1
    · exact key k i h1 hk hi A[k].bA (by simp) _ hm rfl
    · exact key i k h1 hi hk _ hm A[k].bA (by simp) rfl
  · rcases Nat.lt_or_gt_of_ne hne with h1 | h1
    · exact key k i h1 hk hi A[k].bC (by simp) _ hm rfl
    · exact key i k h1 hi hk _ hm A[k].bC (by simp) rfl

theorem OwnR.set {w0 w w' : World} {bR bM : Nat} {nv : Value} {A : List Ent} (h : OwnR w0 w bR bM nv A) (i : Nat) (hi : i < A.length) (l : List Int) (c : Chg [A[i].bA, A[i].bC] w w') (ha : ArenaIs w' A[i].bA A[i].bC A[i].N l) : OwnR w0 w' bR bM nv (setL A i l) := by
  obtain ⟨hn1, hn2⟩ := nodup_arB h.r.nodup
  have hmem : ∀ x ∈ [A[i].bA, A[i].bC], x ∈ arB A := fun x hx => List.mem_flatMap.2 ⟨A[i], List.getElem_mem hi, hx⟩
  have hout : ∀ k ∈ bR :: bM :: nv.ownBlock.toList, k ∉ [A[i].bA, A[i].bC] := fun k hk hm => hn2 k hk (hmem k hm)
  refine ⟨⟨c.heap h.r.hR (hout _ (by simp)), ?_, ?_, ?_, ?_, ?_, by rw [setL_length]; exact h.r.most, by rw [blks_setL]; exact h.r.nodup⟩, ?_, by rw [blks_setL]; exact h.b⟩
  · rw [setL_length, setL_map _ (fun _ _ => rfl)]
    exact owns_chg' h.r.row c (fun k hk => hout k (by simp [hk]))
  · rw [setL_length, show findP (setL A i l) = findP A from funext (find_setL A i l)]
    exact h.r.map.chg c (hout _ (by simp))
  · intro x hx
    obtain ⟨k, hk, ⟨rfl, rfl⟩ | ⟨hne, rfl⟩⟩ := mem_setL hx
    · exact ha
    · obtain ⟨n1, n2⟩ := apart_ix hn1 hi hk hne
      exact (h.r.ar _ (List.getElem_mem hk)).chg c n1 n2
  · intro x hx
    obtain ⟨k, hk, ⟨rfl, rfl⟩ | ⟨hne, rfl⟩⟩ := mem_setL hx
    · exact h.r.nm A[k] (List.getElem_mem hk)
    · exact h.r.nm A[k] (List.getElem_mem hk)
  · intro x hx
    rw [find_setL]
    obtain ⟨k, hk, ⟨rfl, rfl⟩ | ⟨hne, rfl⟩⟩ := mem_setL hx
    · exact h.r.self A[k] (List.getElem_mem hk)
    · exact h.r.self A[k] (List.getElem_mem hk)
  · refine h.c.trans c (fun x hx => hx) (fun x hx hl => ?_)
    have := h.b x (by unfold blks; exact List.mem_cons_of_mem _ (List.mem_cons_of_mem _ (List.mem_append.2 (.inr (hmem x hx)))))
    omega
end Go.Proofs.Ytojabenkhjgafaa
