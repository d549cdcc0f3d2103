/-
  TtyActs: a read of the terminal's beside a read of the reference's: the same outcome, the same effect, the same bytes.
-/
import Derived.Test.YtmcbgpjphjacjaaTtyAa
namespace Go.Proofs.Ytmcbgpjphjacjaa
set_option linter.unusedVariables false
set_option linter.unusedSimpArgs false
set_option maxRecDepth 100000
open Go.RowKit

/-- The reference's answer. -/
def RdRef (w0 : World) (p : PlanD) (ρ : Rt) (K n f : Int) (d : EfD) (l2 : List Int) (L2 : List ItD) (w : World) (e : Ending) (w' : World) : Prop :=
  ∃ ao m co, e = .returned (.tuple #[.int .i64 K, .int .i64 n, .slice ao m co, .int .i64 f]) ∧ SrcAt w' ao m co (valsOf .u8 l2) ∧ ∃ v' u', RtGo w0 w p ρ { ρ with v := v', u := u', L := L2, E := ρ.E ++ [d] } w'

/-- The terminal's answer. -/
def RdTty (w0 : World) (τ : Tt) (bA bC : Nat) (K n f : Int) (d : EfD) (l2 : List Int) (Z2 : List Zt) (w : World) (e : Ending) (w' : World) : Prop :=
  e = .returned (.tuple #[.int .i64 K, .int .i64 n, .int .i64 f]) ∧ ∃ v' μ', RdGo w0 w τ { τ with v := v', μ := μ', Z := Z2, E := τ.E ++ [d] } bA bC 64 l2 w'

theorem src_none (w : World) : SrcAt w none 0 0 (valsOf .u8 []) := ⟨rfl, fun _ => ⟨rfl, rfl⟩, fun ad e => by cases e⟩

theorem rd_both (w0 w : World) (p : PlanD) (τ : Tt) (ρ : Rt) (bA bC : Nat) (l : List Int) (h : Sep w0 w p τ ρ bA bC l) (q : Eqs p τ ρ) (hn : τ.E.length ≤ 1000000) (hZ : τ.Z.length ≤ 300) :
    ∃ (K n f : Int) (d : EfD) (l2 : List Int) (Z2 : List Zt) (L2 : List ItD), Z2.length ≤ τ.Z.length ∧ L2.map itOf = Z2.map (·.it) ∧
      Calls Try.prog 20 #[.pointer (some ⟨τ.bT, 0, none⟩), .pointer (some ⟨bA, 0, none⟩)] w (RdTty w0 τ bA bC K n f d l2 Z2 w) ∧
      ∀ W, RtIs w0 W p ρ → Calls Try.prog 29 #[.pointer (some ⟨ρ.bR, 0, none⟩)] W (RdRef w0 p ρ K n f d l2 L2 W) := by
  have hn2 : ρ.E.length ≤ 1000000 := by rw [q.len]; exact hn
  have hit := q.it
  have ht := h.t
  have hr := h.r
  clear h q
  obtain ⟨bT, v, μ, Z, c, A, E⟩ := τ
  dsimp only at hit hn hZ ⊢
  cases Z with
  | nil =>
    have hL : ρ.L = [] := List.map_eq_nil_iff.1 hit
    refine ⟨0, 0, 6, ef0 5 at0 0 false, [], [], [], Nat.le_refl _, rfl, ?_, fun W hW => ?_⟩
    · refine (tRead_none w0 w bT bA bC 64 v μ c A E l ht (by omega) hn).mono ?_
      rintro e w' ⟨rfl, v', hG⟩
      exact ⟨rfl, v', μ, hG⟩
    · refine (rtRead_none w0 W p ρ hW hL hn2).mono ?_
      rintro e w' ⟨rfl, v', hG⟩
      refine ⟨none, 0, 0, rfl, src_none _, v', ρ.u, ?_⟩
      rw [← hL]
      exact hG
  | cons z Z =>
    obtain ⟨x, L, hL⟩ : ∃ x L, ρ.L = x :: L := by
      cases hL : ρ.L with
      | nil => rw [hL] at hit; cases hit
      | cons x L => exact ⟨x, L, rfl⟩
    have hd := hr.W.dat
    rw [hL] at hit hd
    injection hit with e1 e2
    replace e1 : itOf x = z.it := e1
    replace e2 : L.map itOf = Z.map (·.it) := e2
    have hm : z.it.bs.length = x.m := by rw [← e1]; exact itOf_len (hd x List.mem_cons_self).1
    have hLl : L.length = Z.length := by have := congrArg List.length e2; simpa using this
    have hk0 : x.kind = z.it.kind := by rw [← e1]; rfl
    have hn0 : x.n = z.it.n := by rw [← e1]; rfl
    rw [List.length_cons] at hZ
    rcases ht.T.W.kind with hk | hk | hk
    · refine ⟨1, z.it.n, 0, ef0 4 at0 z.it.n false, [], Z, L, by simp, e2, ?_, fun W hW => ?_⟩
      · refine (tRead_sig w0 w bT bA bC 64 v μ z Z c A E l ht (by omega) hn hk.1).mono ?_
        rintro e w' ⟨rfl, v', mv, hG⟩
        exact ⟨rfl, v', _, hG⟩
      · refine (rtRead_sig w0 W p ρ x L hW hL (by rw [hk0]; exact hk.1) hn2).mono ?_
        rintro e w' ⟨rfl, v', u', hG, _⟩
        rw [hn0] at hG ⊢
        exact ⟨none, 0, 0, rfl, src_none _, v', u', hG⟩
    · refine ⟨2, 0, 5, ef0 3 at0 0 false, [], Z, L, by simp, e2, ?_, fun W hW => ?_⟩
      · refine (tRead_fault w0 w bT bA bC 64 v μ z Z c A E l ht (by omega) hn hk.1).mono ?_
        rintro e w' ⟨rfl, v', mv, hG⟩
        exact ⟨rfl, v', _, hG⟩
      · refine (rtRead_fault w0 W p ρ x L hW hL (by rw [hk0]; exact hk.1) hn2).mono ?_
        rintro e w' ⟨rfl, v', u', hG, _⟩
        exact ⟨none, 0, 0, rfl, src_none _, v', u', hG⟩
    · obtain ⟨k, hk'⟩ : ∃ k, k = min 64 x.m := ⟨_, rfl⟩
      refine ⟨0, (k : Nat), 0, ef0 3 at0 (k : Nat) true, z.it.bs.take k, (if k = z.it.bs.length then Z else z.cut k :: Z), (if k = x.m then L else x.cut k :: L), ?_, ?_, ?_, fun W hW => ?_⟩
      · split <;> simp
      · rw [hm]
        by_cases hkm : k = x.m
        · rw [if_pos hkm, if_pos hkm]; exact e2
        · rw [if_neg hkm, if_neg hkm, List.map_cons, List.map_cons, itOf_cut, e2]
          show _ = ({ z.it with bs := z.it.bs.drop k } : It) :: _
          rw [e1]
      · refine (tRead_dat w0 w bT bA bC 64 v μ z Z c A E l k _ _ ht (by omega) hn hk.1 (by rw [hm]; exact hk') rfl rfl).mono ?_
        rintro e w' ⟨rfl, v', mv, hG⟩
        exact ⟨rfl, v', _, hG⟩
      · refine (rtRead_dat w0 W p ρ x L k hW hL (by rw [hk0]; exact hk.1) (by have := hk.2.2.1; omega) (by have := hk.2.2.2; omega) (by omega) hk' hn2).mono ?_
        rintro e w' ⟨ao, co, rfl, hS, v', u', hG, _⟩
        refine ⟨ao, k, co, rfl, ?_, v', u', hG⟩
        rw [show z.it.bs.take k = x.zs.take k by rw [← e1]; show (x.zs.take x.m).take k = _; rw [List.take_take, Nat.min_eq_left (by omega)]]
        exact hS
end Go.Proofs.Ytmcbgpjphjacjaa
