/-
  Layer 17: a terminal beside its arena: what each call leaves of the two.
-/
import Derived.Test.YtmcbgpjphjacjaaTtyR
import Derived.Test.YtmcbgpjphjacjaaTtyS
import Derived.Test.YtmcbgpjphjacjaaTtyK
namespace Go.Proofs.Ytmcbgpjphjacjaa
set_option linter.unusedVariables false
set_option linter.unusedSimpArgs false
set_option maxRecDepth 100000
open Go.RowKit

theorem RdGo.refl {w0 w : World} {τ : Tt} {bA bC N : Nat} {l : List Int} (h : RdOk w0 w τ bA bC N l) : RdGo w0 w τ τ bA bC N l w := ⟨h, ChgO.of0 (Chg.refl _ _), fun k hk => .inl hk⟩

theorem RdOk.chg0 {w0 w w' : World} {τ : Tt} {bA bC N : Nat} {l : List Int} (h : RdOk w0 w τ bA bC N l) (c : Chg [] w w') : RdOk w0 w' τ bA bC N l := ⟨h.T.chg0 c, h.Ar.chg c (by simp) (by simp), h.nA, h.nC, h.lA, h.lC⟩

/-- Of its own. -/
def rown (τ : Tt) (bA bC : Nat) (x : Nat) : Prop := τ.own x ∨ x = bA ∨ x = bC

theorem RdOk.lt {w0 w : World} {τ : Tt} {bA bC N : Nat} {l : List Int} (h : RdOk w0 w τ bA bC N l) : ∀ x, rown τ bA bC x → w0.heap.size ≤ x ∧ x < w.heap.size := by
  rintro x (hx | rfl | rfl)
  · exact h.T.own_lt x hx
  · exact ⟨h.lA, heap_lt h.Ar.hA⟩
  · exact ⟨h.lC, heap_lt h.Ar.hC⟩

/-- What an act leaves: one effect more, of a kind from lo to hi. -/
def StepP (w0 w : World) (τ : Tt) (bA bC : Nat) (lo hi : Int) (w' : World) : Prop :=
  ∃ τ' l' y, RdOk w0 w' τ' bA bC 64 l' ∧ ChgO (rown τ bA bC) w w' ∧ τ'.bT = τ.bT ∧ τ'.E = τ.E ++ [y] ∧ (lo ≤ y.kind ∧ y.kind ≤ hi) ∧ (τ'.c.wrote ≤ τ.c.wrote + 1 ∧ τ'.c.got ≤ τ.c.got + 1 ∧ τ'.c.set ≤ τ.c.set + 1)

theorem stGet (w0 w : World) (τ : Tt) (bA bC : Nat) (l : List Int) (h : RdOk w0 w τ bA bC 64 l) (hc : τ.c.got ≤ 1000000) (hn : τ.E.length ≤ 1000000) :
    Calls Try.prog 14 #[.pointer (some ⟨τ.bT, 0, none⟩)] w fun e w' => ∃ v, e = .returned v ∧ StepP w0 w τ bA bC 0 0 w' := by
  obtain ⟨bT, v, μ, Z, c, A, E⟩ := τ
  by_cases hm : ((c.got : Nat) : Int) ∈ c.gs
  · refine (tGet_no w0 w bT v μ Z c A E h.T hm hc hn).mono ?_
    rintro e w' ⟨rfl, v', G⟩
    have hG := (RdGo.refl h).go G
    exact ⟨_, rfl, _, _, _, hG.ok, hG.c, rfl, rfl, ⟨Int.le_refl _, Int.le_refl _⟩, by dsimp only; omega⟩
  · refine (tGet_ok w0 w bT v μ Z c A E h.T hm hc hn).mono ?_
    rintro e w' ⟨rfl, v', G⟩
    have hG := (RdGo.refl h).go G
    exact ⟨_, rfl, _, _, _, hG.ok, hG.c, rfl, rfl, ⟨Int.le_refl _, Int.le_refl _⟩, by dsimp only; omega⟩

theorem stSet (w0 w : World) (τ : Tt) (B : At3) (bA bC : Nat) (l : List Int) (h : RdOk w0 w τ bA bC 64 l) (hc : τ.c.set ≤ 1000000) (hn : τ.E.length ≤ 1000000) :
    Calls Try.prog 13 #[.pointer (some ⟨τ.bT, 0, none⟩), .agg #[.int .u32 B.fl, .int .u8 B.mn, .int .u8 B.tm]] w fun e w' => ∃ v, e = .returned v ∧ StepP w0 w τ bA bC 1 1 w' := by
  obtain ⟨bT, v, μ, Z, c, A, E⟩ := τ
  by_cases hm : ((c.set : Nat) : Int) ∈ c.ss
  · refine (tSet_no w0 w bT v μ Z c A B E h.T hm hc hn).mono ?_
    rintro e w' ⟨rfl, v', G⟩
    have hG := (RdGo.refl h).go G
    exact ⟨_, rfl, _, _, _, hG.ok, hG.c, rfl, rfl, ⟨Int.le_refl _, Int.le_refl _⟩, by dsimp only; omega⟩
  · refine (tSet_ok w0 w bT v μ Z c A B E h.T hm hc hn).mono ?_
    rintro e w' ⟨rfl, v', G⟩
    have hG := (RdGo.refl h).go G
    exact ⟨_, rfl, _, _, _, hG.ok, hG.c, rfl, rfl, ⟨Int.le_refl _, Int.le_refl _⟩, by dsimp only; omega⟩

theorem row_lt {k : IntKind} {w : World} {a : Option Addr} {n c : Nat} {zs : List Int} (h : IsRow k w a n c zs) (hn : 0 < n) : ∀ b, a.map (·.block) = some b → b < w.heap.size := by
  rcases h with ⟨_, h0, _⟩ | ⟨x, rfl, h1, h2, h3, h4, h5⟩
  · omega
  · intro b hb
    have e : x.block = b := by simpa using hb
    subst e
    have := heap_of_cell (h4 0 (by omega))
    simpa [Addr.add] using this

theorem stWrite (w0 w : World) (τ : Tt) (ao : Option Addr) (n c : Nat) (zs : List Int) (bA bC : Nat) (l : List Int) (h : RdOk w0 w τ bA bC 64 l) (hr : IsRow .u8 w0 ao n c zs) (hz : n ≤ 1000000) (hc : τ.c.wrote ≤ 1000000) (hn : τ.E.length ≤ 1000000) :
    Calls Try.prog 17 #[.pointer (some ⟨τ.bT, 0, none⟩), .slice ao n c] w fun e w' => ∃ v, e = .returned v ∧ StepP w0 w τ bA bC 2 2 w' := by
  have hs := (hr.chg0 h.T.W.c0).src
  refine (tWrite_any w0 w τ ao n c (zs.take n) h.T hs (fun h0 k hk => h.T.W.lo k (row_lt hr h0 k hk)) hz hc hn).mono ?_
  rintro e w' ⟨rfl, v', a', c', G, _⟩
  have hG := (RdGo.refl h).go G
  exact ⟨_, rfl, _, _, _, hG.ok, hG.c, rfl, rfl, ⟨Int.le_refl _, Int.le_refl _⟩, by dsimp only; omega⟩

theorem stRemember (w0 w : World) (τ : Tt) (bA bC : Nat) (l : List Int) (h : RdOk w0 w τ bA bC 64 l) (hn : τ.E.length ≤ 1000000) :
    Calls Try.prog 18 #[.pointer (some ⟨τ.bT, 0, none⟩)] w fun e w' => ∃ v, e = .returned v ∧ StepP w0 w τ bA bC 6 6 w' := by
  refine (tRemember_any w0 w τ h.T hn).mono ?_
  rintro e w' ⟨rfl, v', G⟩
  have hG := (RdGo.refl h).go G
  exact ⟨_, rfl, _, _, _, hG.ok, hG.c, rfl, rfl, ⟨Int.le_refl _, Int.le_refl _⟩, by dsimp only; omega⟩

theorem stRead (w0 w : World) (τ : Tt) (bA bC : Nat) (l : List Int) (h : RdOk w0 w τ bA bC 64 l) (hn : τ.E.length ≤ 1000000) :
    Calls Try.prog 20 #[.pointer (some ⟨τ.bT, 0, none⟩), .pointer (some ⟨bA, 0, none⟩)] w fun e w' => ∃ v, e = .returned v ∧ StepP w0 w τ bA bC 3 5 w' := by
  obtain ⟨bT, v, μ, Z, c, A, E⟩ := τ
  cases Z with
  | nil =>
    refine (tRead_none w0 w bT bA bC 64 v μ c A E l h (by omega) hn).mono ?_
    rintro e w' ⟨rfl, v', hG⟩
    exact ⟨_, rfl, _, _, _, hG.ok, hG.c, rfl, rfl, ⟨by unfold ef0; dsimp only; omega, by unfold ef0; dsimp only; omega⟩, by dsimp only; omega⟩
  | cons z Z =>
    rcases h.T.W.kind with hk | hk | hk
    · refine (tRead_sig w0 w bT bA bC 64 v μ z Z c A E l h (by omega) hn hk.1).mono ?_
      rintro e w' ⟨rfl, v', mv, hG⟩
      exact ⟨_, rfl, _, _, _, hG.ok, hG.c, rfl, rfl, ⟨by unfold ef0; dsimp only; omega, by unfold ef0; dsimp only; omega⟩, by dsimp only; omega⟩
    · refine (tRead_fault w0 w bT bA bC 64 v μ z Z c A E l h (by omega) hn hk.1).mono ?_
      rintro e w' ⟨rfl, v', mv, hG⟩
      exact ⟨_, rfl, _, _, _, hG.ok, hG.c, rfl, rfl, ⟨by unfold ef0; dsimp only; omega, by unfold ef0; dsimp only; omega⟩, by dsimp only; omega⟩
    · refine (tRead_dat w0 w bT bA bC 64 v μ z Z c A E l _ _ _ h (by omega) hn hk.1 rfl rfl rfl).mono ?_
      rintro e w' ⟨rfl, v', mv, hG⟩
      exact ⟨_, rfl, _, _, _, hG.ok, hG.c, rfl, rfl, ⟨by unfold ef0; dsimp only; omega, by unfold ef0; dsimp only; omega⟩, by dsimp only; omega⟩

theorem ChgO.owns' {O : Nat → Prop} {w w' : World} {base k : Nat} {e : TypeId} {v : Value} {n : Nat} {xs : List Value} (h : ChgO O w w') (hr : w.ownsRow base e k v n xs) (hn : ∀ k, v.ownBlock = some k → ¬ O k) : w'.ownsRow base e k v n xs := by
  obtain ⟨S, c, hS⟩ := h
  have hv : ∀ k, v.ownBlock = some k → k ∉ S := fun k hk hm => hn k hk (hS k hm (hr.lt k hk).2)
  refine ⟨hr.1, hr.2.imp id ?_⟩
  rintro ⟨g, cap, cur, rfl, h1, h2, h3⟩
  exact ⟨g, cap, cur, rfl, h1, c.heap h2 (hv g rfl), h3⟩

/-- A clone of the effects stands where only older blocks turn. -/
theorem EffAt.chgO {O : Nat → Prop} {base : Nat} {w w' : World} {rv : Value} {E E' : List EfD} {n : Nat} (h : EffAt base w rv E E' n) (c : ChgO O w w') (hO : ∀ x, O x → x < base) : EffAt base w' rv E E' n := by
  refine ⟨c.owns' h.row (fun k hk ho => by have := (h.row.lt k hk).1; have := hO k ho; omega), h.pl, h.old, fun j y hj hy g hg => ?_⟩
  have o := h.own j y hj hy g hg
  exact ⟨c.owns' o.row (fun k hk ho => by have := (o.row.lt k hk).1; have := hO k ho; omega), o.few, o.ne⟩
end Go.Proofs.Ytmcbgpjphjacjaa
