import Derived.Test.YtafmnkngjjnpiaaGreatDoorRegZ
namespace Go.Proofs.YtafmnkngjjnpiaaGreatDoor.Ar
set_option maxRecDepth 100000
set_option linter.unusedVariables false
open Go.RowKit Go.Shelf Go.WideShapes
attribute [local go_sem] Oper.semAt_some
theorem keepsOthers_chg {S : List Nat} {W W' : World} (c : Chg S W W') (hS : ∀ k ∈ S, ∀ o, W.heap[k]? = some o → o.isCells = true) : KeepsOthers W W' :=
  ⟨c.size, fun k o hk ho => by
    by_cases hm : k ∈ S
    · rw [hS k hm o hk] at ho; cases ho
    · exact c.heap hk hm⟩
end Go.Proofs.YtafmnkngjjnpiaaGreatDoor.Ar

namespace Go.Proofs.YtafmnkngjjnpiaaGreatDoor.Ar
set_option maxRecDepth 100000
set_option linter.unusedVariables false
open Go.RowKit Go.Shelf Go.WideShapes
attribute [local go_sem] Oper.semAt_some
theorem nodup_flat {A : List Ent} (h : (A.flatMap (fun x => [x.bA, x.bC])).Nodup) : ∀ x ∈ A, ∀ y ∈ A, x ≠ y → (x.bA ≠ y.bA ∧ x.bA ≠ y.bC) ∧ (x.bC ≠ y.bA ∧ x.bC ≠ y.bC) := by
  induction A with
  | nil => intro x hx; cases hx
  | cons a A ih =>
    rw [List.flatMap_cons] at h
    obtain ⟨h1, h2, h3⟩ := List.nodup_append.1 h
    have hd : ∀ y ∈ A, (a.bA ≠ y.bA ∧ a.bA ≠ y.bC) ∧ (a.bC ≠ y.bA ∧ a.bC ≠ y.bC) := fun y hy =>
      ⟨⟨h3 _ (by simp) _ (List.mem_flatMap.2 ⟨y, hy, by simp⟩), h3 _ (by simp) _ (List.mem_flatMap.2 ⟨y, hy, by simp⟩)⟩, ⟨h3 _ (by simp) _ (List.mem_flatMap.2 ⟨y, hy, by simp⟩), h3 _ (by simp) _ (List.mem_flatMap.2 ⟨y, hy, by simp⟩)⟩⟩
    intro x hx y hy hne
    rcases List.mem_cons.1 hx with ex | hx'
    · rcases List.mem_cons.1 hy with ey | hy'
      · exact absurd (ex.trans ey.symm) hne
      · rw [ex]; exact hd y hy'
    · rcases List.mem_cons.1 hy with ey | hy'
      · obtain ⟨⟨k1, k2⟩, k3, k4⟩ := hd x hx'
        rw [ey]
        exact ⟨⟨k1.symm, k3.symm⟩, k2.symm, k4.symm⟩
      · exact ih h2 x hx' y hy' hne
def arB (A : List Ent) : List Nat := A.flatMap (fun x => [x.bA, x.bC])
theorem mem_arB {A : List Ent} {x : Ent} (hx : x ∈ A) : x.bA ∈ arB A ∧ x.bC ∈ arB A := ⟨List.mem_flatMap.2 ⟨x, hx, by simp⟩, List.mem_flatMap.2 ⟨x, hx, by simp⟩⟩
theorem nodup_arB {bR bM : Nat} {nv : Value} {A : List Ent} (h : (blks bR bM nv A).Nodup) : (arB A).Nodup ∧ ∀ k ∈ bR :: bM :: nv.ownBlock.toList, k ∉ arB A := by
  have hap : ((bR :: bM :: nv.ownBlock.toList) ++ arB A).Nodup := h
  obtain ⟨_, h2, h3⟩ := List.nodup_append.1 hap
  exact ⟨h2, fun k hk hm => h3 k hk k hm rfl⟩
def wiped (A : List Ent) : List Ent := A.map (fun x => { x with l := [] })
theorem blks_wiped (bR bM : Nat) (nv : Value) (A : List Ent) : blks bR bM nv (wiped A) = blks bR bM nv A := by
  unfold blks wiped
  rw [List.flatMap_map]
theorem find_wiped (A : List Ent) (s : ByteArray) : findP (wiped A) s = findP A s := by
  unfold findP wiped
  rw [List.find?_map, Option.map_map]
  rfl
theorem RegIs.wipe {w w' : World} {bR bM : Nat} {nv : Value} {A : List Ent} (h : RegIs w bR bM nv A) (c : Chg (arB A) w w') (ha : ∀ x ∈ A, ArenaIs w' x.bA x.bC x.N []) : RegIs w' bR bM nv (wiped A) := by
  obtain ⟨_, hd⟩ := nodup_arB h.nodup
  have hl : (wiped A).length = A.length := by simp [wiped]
  refine ⟨c.heap h.hR (hd _ (by simp)), ?_, ?_, ?_, ?_, ?_, by rw [hl]; exact h.most, by rw [blks_wiped]; exact h.nodup⟩
  · rw [hl]
    have : (wiped A).map (fun x => Value.string x.name) = A.map (fun x => Value.string x.name) := by simp [wiped, Function.comp_def]
    rw [this]
    exact owns_chg' h.row c (fun k hk => hd k (by simp [hk]))
  · rw [hl]
    have : findP (wiped A) = findP A := funext (find_wiped A)
    rw [this]
    exact h.map.chg c (hd _ (by simp))
  · intro x hx
    obtain ⟨y, hy, rfl⟩ := List.mem_map.1 hx
    exact ha y hy
  · intro x hx
    obtain ⟨y, hy, rfl⟩ := List.mem_map.1 hx
    exact h.nm y hy
  · intro x hx
    obtain ⟨y, hy, rfl⟩ := List.mem_map.1 hx
    rw [find_wiped]
    exact h.self y hy
theorem arena_grown {W W' : World} {B : Nat} {row : Option Nat} {bA bC N : Nat} {l : List Int} (h : ArenaIs W bA bC N l) (hg : W.grownBy W' row) (hr : ∀ r, row = some r → B ≤ r) (hA : bA < B) (hC : bC < B) : ArenaIs W' bA bC N l := by
  have c : Chg row.toList W W' := ⟨hg.os, hg.tape, hg.output, hg.size, fun k hk hS => hg.block k hk (fun e => hS (by rw [← e]; simp))⟩
  refine h.chg c ?_ ?_
  · intro hm
    have := hr bA (by simpa [Option.mem_toList] using hm)
    omega
  · intro hm
    have := hr bC (by simpa [Option.mem_toList] using hm)
    omega
end Go.Proofs.YtafmnkngjjnpiaaGreatDoor.Ar
