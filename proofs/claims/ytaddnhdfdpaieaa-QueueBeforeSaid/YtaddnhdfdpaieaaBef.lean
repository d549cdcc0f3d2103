/-
  QueueBefore: what comes ahead of a moment, and then all else. Lemmas: two queues, and what lies where.
-/
import Derived.Test.YtaddnhdfdpaieaaOrd
import Derived.Test.YtaddnhdfdpaieaaApp
namespace Go.Proofs.Ytaddnhdfdpaieaa
set_option linter.unusedVariables false
open Go.RowKit

/-- Two queues have no block in common. -/
structure Apart (bQ : Nat) (v : Value) (bP : Nat) (u : Value) : Prop where
  a : bQ ≠ bP
  b : v.ownBlock ≠ some bP
  c : u.ownBlock ≠ some bQ
  d : ∀ k, v.ownBlock = some k → u.ownBlock ≠ some k

theorem Apart.symm {bQ bP : Nat} {v u : Value} (h : Apart bQ v bP u) : Apart bP u bQ v := ⟨h.a.symm, h.c, h.b, fun k hk hv => h.d k hv hk⟩

theorem Apart.kept {w w' : World} {bQ bP : Nat} {v u : Value} {M : List Ele} {p : Nat} (h : Apart bQ v bP u) (hp : QueIs w bP u M p) (c : Chg (bQ :: v.ownBlock.toList) w w') : QueIs w' bP u M p := by
  refine hp.chg c ?_ ?_
  · intro hm
    rcases List.mem_cons.1 hm with e | e
    · exact h.a e.symm
    · exact h.b (by simpa [Option.mem_toList] using e)
  · intro k hk hm
    rcases List.mem_cons.1 hm with e | e
    · exact h.c (by rw [hk, e])
    · exact h.d k (by simpa [Option.mem_toList] using e) hk

theorem Apart.step {w : World} {bQ bP : Nat} {v v' u : Value} {M : List Ele} {p : Nat} (h : Apart bQ v bP u) (hp : QueIs w bP u M p) (hv : ∀ k, v'.ownBlock = some k → v.ownBlock = some k ∨ w.heap.size ≤ k) : Apart bQ v' bP u := by
  refine ⟨h.a, fun e => ?_, h.c, fun k hk hu => ?_⟩
  · rcases hv _ e with h1 | h1
    · exact h.b h1
    · have := hp.lt; omega
  · rcases hv k hk with h1 | h1
    · exact h.d k h1 hu
    · have := hp.lt2 k hu; omega

theorem owns_src {w : World} {base : Nat} {e : TypeId} {v : Value} {n : Nat} {xs : List Value} (h : w.ownsRow base e 1 v n xs) :
    ∃ ao c, v = .slice ao n c ∧ (ao = none → n = 0 ∧ c = 0) ∧ ∀ ad, ao = some ad → ∀ j u, xs[j]? = some u → w.cell? (ad.add j) = some u := by
  have h' := h
  rcases h.2 with ⟨rfl, rfl⟩ | ⟨g, cap, cur, rfl, _⟩
  · exact ⟨none, 0, rfl, fun _ => ⟨rfl, rfl⟩, fun ad e => (by cases e)⟩
  · exact ⟨_, _, rfl, fun e => (by cases e), fun ad e => (by cases e; exact h'.cells (g := g) rfl)⟩

theorem src_owns {w : World} {base : Nat} {e : TypeId} {ao : Option Addr} {n c : Nat} {xs : List Value} (h : w.ownsRow base e 1 (.slice ao n c) n xs) : ∀ ad, ao = some ad → ∀ j u, xs[j]? = some u → w.cell? (ad.add j) = some u := by
  obtain ⟨ao', c', e, _, h2⟩ := owns_src h
  injection e with e1 e2 e3
  subst e1
  exact h2

theorem intsE_append (M R : List Ele) : intsE (M ++ R) = intsE M ++ intsE R := by simp [intsE]

theorem oneCell_intsE (M : List Ele) : ∀ u ∈ intsE M, u.oneCell' = true := by
  intro u hu
  obtain ⟨x, _, rfl⟩ := List.mem_map.1 hu
  rfl

theorem befB_nan (x : Ele) : befB aN x = true := by
  unfold befB
  have e : keyF aN = 18446744073709551615 := by decide +kernel
  rw [e]
  have := @keyF_lt x.1
  simp only [Bool.not_eq_true', decide_eq_false_iff_not]
  omega

theorem takeWhile_all (b : Nat) (M : List Ele) (h : ∀ x ∈ M, befB b x = true) : M.takeWhile (befB b) = M ∧ M.dropWhile (befB b) = [] := by
  induction M with
  | nil => exact ⟨rfl, rfl⟩
  | cons x M ih =>
    obtain ⟨i1, i2⟩ := ih (fun y hy => h y (List.mem_cons_of_mem _ hy))
    simp [h x List.mem_cons_self, i1, i2]

/-- In a list in order those that come ahead of a moment, or at it, are the first ones. -/
theorem bef_at (b : Nat) (M : List Ele) (h : M.Pairwise (fun x y => oE x < oE y)) (ha : ∀ x ∈ M, 0 ≤ x.2.2 ∧ x.2.2 < 1000000) : ∀ j x M', M.drop j = x :: M' → (befB b x = decide (j < (M.takeWhile (befB b)).length)) := by
  induction M with
  | nil => intro j x M' e; simp at e
  | cons y M ih =>
    intro j x M' e
    obtain ⟨p1, p2⟩ := List.pairwise_cons.1 h
    have ih' := ih p2 (fun z hz => ha z (List.mem_cons_of_mem _ hz))
    by_cases hy : befB b y = true
    · rw [List.takeWhile_cons, if_pos hy]
      cases j with
      | zero => injection e with e1 e2; subst e1; rw [hy]; simp
      | succ j =>
        rw [ih' j x M' e]
        simp only [List.length_cons]
        congr 1
        apply propext
        omega
    · rw [List.takeWhile_cons, if_neg hy]
      simp only [List.length_nil, Nat.not_lt_zero, decide_false]
      cases j with
      | zero => injection e with e1 e2; subst e1; simpa using hy
      | succ j =>
        have hx : x ∈ M := by
          have : x ∈ M.drop j := by rw [show M.drop j = x :: M' from e]; exact List.mem_cons_self
          exact List.mem_of_mem_drop this
        have h1 := p1 x hx
        have h2 := ha y List.mem_cons_self
        have h3 := ha x (List.mem_cons_of_mem _ hx)
        unfold oE at h1
        unfold befB at hy ⊢
        simp only [Bool.not_eq_true', Bool.not_eq_false', decide_eq_false_iff_not, decide_eq_true_eq] at hy ⊢
        simp at hy ⊢
        omega

theorem take_drop_while (b : Nat) (M : List Ele) : M.takeWhile (befB b) ++ M.dropWhile (befB b) = M := List.takeWhile_append_dropWhile
end Go.Proofs.Ytaddnhdfdpaieaa
