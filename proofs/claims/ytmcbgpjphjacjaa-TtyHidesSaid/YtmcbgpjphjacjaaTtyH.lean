/-
  Layer 17: what a terminal is but for the bytes that come; two terminals side by side.
-/
import Derived.Test.YtmcbgpjphjacjaaTtyP
namespace Go.Proofs.Ytmcbgpjphjacjaa
set_option linter.unusedVariables false
set_option linter.unusedSimpArgs false
set_option maxRecDepth 100000
open Go.RowKit

def zsh (z : Zt) : Int × Int × Nat := (z.it.kind, z.it.n, z.it.bs.length)

/-- A terminal but for the bytes that come. -/
structure Sh where
  A : At3
  c : Wc
  S : List (Int × Int × Nat)
  P : List (Int × Int × Int × Int × List Int × Int × Bool)

def Tt.sh (τ : Tt) : Sh := ⟨τ.A, τ.c, τ.Z.map zsh, τ.E.map EfD.pl⟩

def shGet (s : Sh) : Sh := if ((s.c.got : Nat) : Int) ∈ s.c.gs then ⟨s.A, { s.c with got := s.c.got + 1 }, s.S, s.P ++ [(ef0 0 at0 0 false).pl]⟩ else ⟨s.A, { s.c with got := s.c.got + 1 }, s.S, s.P ++ [(ef0 0 s.A 0 true).pl]⟩
def shSet (s : Sh) (B : At3) : Sh := if ((s.c.set : Nat) : Int) ∈ s.c.ss then ⟨s.A, { s.c with set := s.c.set + 1 }, s.S, s.P ++ [(ef0 1 B 0 false).pl]⟩ else ⟨B, { s.c with set := s.c.set + 1 }, s.S, s.P ++ [(ef0 1 B 0 true).pl]⟩
def shWrite (s : Sh) (bs : List Int) : Sh := ⟨s.A, { s.c with wrote := s.c.wrote + 1 }, s.S, s.P ++ [(2, 0, 0, 0, bs, wrN s.c.ws s.c.wrote bs.length, wrB s.c.ws s.c.wrote)]⟩
def shRead (s : Sh) : Sh :=
  match s.S with
  | [] => ⟨s.A, s.c, [], s.P ++ [(ef0 5 at0 0 false).pl]⟩
  | (k, n, len) :: r => if k = 1 then ⟨s.A, s.c, r, s.P ++ [(ef0 4 at0 n false).pl]⟩ else if k = 2 then ⟨s.A, s.c, r, s.P ++ [(ef0 3 at0 0 false).pl]⟩ else ⟨s.A, s.c, if min 64 len = len then r else (k, n, len - min 64 len) :: r, s.P ++ [(ef0 3 at0 (min 64 len : Nat) true).pl]⟩

theorem shRead_cons (A : At3) (c : Wc) (k n : Int) (len : Nat) (r : List (Int × Int × Nat)) (P : List (Int × Int × Int × Int × List Int × Int × Bool)) :
    shRead ⟨A, c, (k, n, len) :: r, P⟩ = if k = 1 then ⟨A, c, r, P ++ [(ef0 4 at0 n false).pl]⟩ else if k = 2 then ⟨A, c, r, P ++ [(ef0 3 at0 0 false).pl]⟩ else ⟨A, c, if min 64 len = len then r else (k, n, len - min 64 len) :: r, P ++ [(ef0 3 at0 (min 64 len : Nat) true).pl]⟩ := rfl

/-- What a call leaves, but for the bytes that came. -/
def HsP (w0 w : World) (τ : Tt) (bA bC : Nat) (s : Sh) (w' : World) : Prop := ∃ τ' l', RdGo w0 w τ τ' bA bC 64 l' w' ∧ τ'.bT = τ.bT ∧ τ'.sh = s

theorem hsGet (w0 w : World) (τ : Tt) (bA bC : Nat) (l : List Int) (h : RdOk w0 w τ bA bC 64 l) (hc : τ.c.got ≤ 1000000) (hn : τ.E.length ≤ 1000000) :
    Calls Try.prog 14 #[.pointer (some ⟨τ.bT, 0, none⟩)] w fun e w' => ∃ v, e = .returned v ∧ HsP w0 w τ bA bC (shGet τ.sh) w' := by
  obtain ⟨bT, v, μ, Z, c, A, E⟩ := τ
  by_cases hm : ((c.got : Nat) : Int) ∈ c.gs
  · refine (tGet_no w0 w bT v μ Z c A E h.T hm hc hn).mono ?_
    rintro e w' ⟨rfl, v', G⟩
    exact ⟨_, rfl, _, _, (RdGo.refl h).go G, rfl, by unfold shGet Tt.sh; dsimp only; rw [if_pos hm, List.map_append]; rfl⟩
  · refine (tGet_ok w0 w bT v μ Z c A E h.T hm hc hn).mono ?_
    rintro e w' ⟨rfl, v', G⟩
    exact ⟨_, rfl, _, _, (RdGo.refl h).go G, rfl, by unfold shGet Tt.sh; dsimp only; rw [if_neg hm, List.map_append]; rfl⟩

theorem hsSet (w0 w : World) (τ : Tt) (B : At3) (bA bC : Nat) (l : List Int) (h : RdOk w0 w τ bA bC 64 l) (hc : τ.c.set ≤ 1000000) (hn : τ.E.length ≤ 1000000) :
    Calls Try.prog 13 #[.pointer (some ⟨τ.bT, 0, none⟩), .agg #[.int .u32 B.fl, .int .u8 B.mn, .int .u8 B.tm]] w fun e w' => ∃ v, e = .returned v ∧ HsP w0 w τ bA bC (shSet τ.sh B) w' := by
  obtain ⟨bT, v, μ, Z, c, A, E⟩ := τ
  by_cases hm : ((c.set : Nat) : Int) ∈ c.ss
  · refine (tSet_no w0 w bT v μ Z c A B E h.T hm hc hn).mono ?_
    rintro e w' ⟨rfl, v', G⟩
    exact ⟨_, rfl, _, _, (RdGo.refl h).go G, rfl, by unfold shSet Tt.sh; dsimp only; rw [if_pos hm, List.map_append]; rfl⟩
  · refine (tSet_ok w0 w bT v μ Z c A B E h.T hm hc hn).mono ?_
    rintro e w' ⟨rfl, v', G⟩
    exact ⟨_, rfl, _, _, (RdGo.refl h).go G, rfl, by unfold shSet Tt.sh; dsimp only; rw [if_neg hm, List.map_append]; rfl⟩

theorem hsWrite (w0 w : World) (τ : Tt) (ao : Option Addr) (n c : Nat) (zs : List Int) (bA bC : Nat) (l : List Int) (h : RdOk w0 w τ bA bC 64 l) (hr : IsRow .u8 w0 ao n c zs) (hz : n ≤ 1000000) (hc : τ.c.wrote ≤ 1000000) (hn : τ.E.length ≤ 1000000) :
    Calls Try.prog 17 #[.pointer (some ⟨τ.bT, 0, none⟩), .slice ao n c] w fun e w' => ∃ v, e = .returned v ∧ HsP w0 w τ bA bC (shWrite τ.sh (zs.take n)) w' := by
  have hs := (hr.chg0 h.T.W.c0).src
  refine (tWrite_any w0 w τ ao n c (zs.take n) h.T hs (fun h0 k hk => h.T.W.lo k (row_lt hr h0 k hk)) hz hc hn).mono ?_
  rintro e w' ⟨rfl, v', a', c', G, _⟩
  exact ⟨_, rfl, _, _, (RdGo.refl h).go G, rfl, by unfold shWrite Tt.sh; dsimp only; rw [List.map_append]; rfl⟩

theorem hsRead (w0 w : World) (τ : Tt) (bA bC : Nat) (l : List Int) (h : RdOk w0 w τ bA bC 64 l) (hn : τ.E.length ≤ 1000000) :
    Calls Try.prog 20 #[.pointer (some ⟨τ.bT, 0, none⟩), .pointer (some ⟨bA, 0, none⟩)] w fun e w' => ∃ v, e = .returned v ∧ HsP w0 w τ bA bC (shRead τ.sh) w' := by
  obtain ⟨bT, v, μ, Z, c, A, E⟩ := τ
  cases Z with
  | nil =>
    refine (tRead_none w0 w bT bA bC 64 v μ c A E l h (by omega) hn).mono ?_
    rintro e w' ⟨rfl, v', hG⟩
    exact ⟨_, rfl, _, _, hG, rfl, by unfold shRead Tt.sh; dsimp only [List.map_nil]; rw [List.map_append]; rfl⟩
  | cons z Z =>
    rcases h.T.W.kind with hk | hk | hk
    · refine (tRead_sig w0 w bT bA bC 64 v μ z Z c A E l h (by omega) hn hk.1).mono ?_
      rintro e w' ⟨rfl, v', mv, hG⟩
      refine ⟨_, rfl, _, _, hG, rfl, ?_⟩
      show _ = shRead ⟨A, c, (z.it.kind, z.it.n, z.it.bs.length) :: Z.map zsh, E.map EfD.pl⟩
      rw [shRead_cons, if_pos hk.1]
      unfold Tt.sh
      dsimp only
      rw [List.map_append]
      rfl
    · refine (tRead_fault w0 w bT bA bC 64 v μ z Z c A E l h (by omega) hn hk.1).mono ?_
      rintro e w' ⟨rfl, v', mv, hG⟩
      refine ⟨_, rfl, _, _, hG, rfl, ?_⟩
      show _ = shRead ⟨A, c, (z.it.kind, z.it.n, z.it.bs.length) :: Z.map zsh, E.map EfD.pl⟩
      have hk1 : ¬ z.it.kind = 1 := by omega
      rw [shRead_cons, if_neg hk1, if_pos hk.1]
      unfold Tt.sh
      dsimp only
      rw [List.map_append]
      rfl
    · refine (tRead_dat w0 w bT bA bC 64 v μ z Z c A E l _ _ _ h (by omega) hn hk.1 rfl rfl rfl).mono ?_
      rintro e w' ⟨rfl, v', mv, hG⟩
      refine ⟨_, rfl, _, _, hG, rfl, ?_⟩
      have e1 : (if min 64 z.it.bs.length = z.it.bs.length then Z else z.cut (min 64 z.it.bs.length) :: Z).map zsh = if min 64 z.it.bs.length = z.it.bs.length then Z.map zsh else (z.it.kind, z.it.n, z.it.bs.length - min 64 z.it.bs.length) :: Z.map zsh := by
        split
        · rfl
        · rw [List.map_cons]
          congr 1
          unfold zsh Zt.cut
          dsimp only
          rw [List.length_drop]
      show _ = shRead ⟨A, c, (z.it.kind, z.it.n, z.it.bs.length) :: Z.map zsh, E.map EfD.pl⟩
      have hk1 : ¬ z.it.kind = 1 := by omega
      have hk2 : ¬ z.it.kind = 2 := by omega
      rw [shRead_cons, if_neg hk1, if_neg hk2]
      unfold Tt.sh
      dsimp only
      rw [List.map_append, e1]
      rfl

/-- An act, but for the bytes that come. -/
def stepA (kind : Int) (B : At3) (bs : List Int) (s : Sh) : Sh := if kind = 0 then shGet s else if kind = 1 then shSet s B else if kind = 2 then shWrite s bs else shRead s

theorem stepA_few (kind : Int) (B : At3) (bs : List Int) (s : Sh) : (stepA kind B bs s).c.wrote ≤ s.c.wrote + 1 ∧ (stepA kind B bs s).c.got ≤ s.c.got + 1 ∧ (stepA kind B bs s).c.set ≤ s.c.set + 1 ∧ (stepA kind B bs s).P.length = s.P.length + 1 := by
  obtain ⟨A, c, S, P⟩ := s
  unfold stepA
  split
  · unfold shGet
    dsimp only
    split <;> (dsimp only; refine ⟨by omega, by omega, by omega, by simp⟩)
  · split
    · unfold shSet
      dsimp only
      split <;> (dsimp only; refine ⟨by omega, by omega, by omega, by simp⟩)
    · split
      · unfold shWrite
        dsimp only
        refine ⟨by omega, by omega, by omega, by simp⟩
      · cases S with
        | nil =>
          unfold shRead
          dsimp only
          refine ⟨by omega, by omega, by omega, by simp⟩
        | cons x r =>
          obtain ⟨k, n, len⟩ := x
          rw [shRead_cons]
          split
          · dsimp only
            refine ⟨by omega, by omega, by omega, by simp⟩
          · split <;> (dsimp only; refine ⟨by omega, by omega, by omega, by simp⟩)

theorem sh_map {Z : List Zt} {its : List ItD} {n : Nat} (h : Z.map Zt.pr = ordP its n) : Z.map zsh = ((ordP its n).map gsh).map (·.2) := by
  rw [← h, List.map_map, List.map_map]
  rfl

theorem sh4_few {its its' : List ItD} (h : its'.map sh4 = its.map sh4) {m : Nat} (hm : ∀ x ∈ its, x.m ≤ m) : ∀ y ∈ its', y.m ≤ m := by
  intro y hy
  have : sh4 y ∈ its.map sh4 := by rw [← h]; exact List.mem_map_of_mem hy
  obtain ⟨x, hx, e⟩ := List.mem_map.1 this
  have := congrArg (fun q => q.2.2.2) e
  have e2 : x.m = y.m := this
  rw [← e2]
  exact hm x hx

theorem BRow.enough {w : World} {its : List ItD} {a : Option Addr} {n : Nat} (h : ItsAt w a n its) : ∀ x ∈ its, x.m ≤ x.zs.length := by
  intro x hx
  obtain ⟨k, hk⟩ := List.getElem?_of_mem hx
  have hlt : k < n := by rw [← h.1]; exact (List.getElem?_eq_some_iff.1 hk).1
  obtain ⟨bl, off, y, _, hy, _, _, _, _, hr, _⟩ := h.get hlt
  rw [hk] at hy
  injection hy with hy
  subst hy
  exact hr.le.2.2

/-- Two terminals and one arena. -/
structure Two (w0 w : World) (τ σ : Tt) (bA bC : Nat) (l : List Int) : Prop where
  a : RdOk w0 w τ bA bC 64 l
  b : RdOk w0 w σ bA bC 64 l
  d : ∀ k, τ.own k → ¬ σ.own k

theorem Two.swap {w0 w : World} {τ σ : Tt} {bA bC : Nat} {l : List Int} (h : Two w0 w τ σ bA bC l) : Two w0 w σ τ bA bC l := ⟨h.b, h.a, fun k hk ho => h.d k ho hk⟩

theorem Two.chg0 {w0 w w' : World} {τ σ : Tt} {bA bC : Nat} {l : List Int} (h : Two w0 w τ σ bA bC l) (c : Chg [] w w') : Two w0 w' τ σ bA bC l := ⟨h.a.chg0 c, h.b.chg0 c, h.d⟩

/-- A call of the one. -/
theorem Two.go {w0 w w' : World} {τ τ' σ : Tt} {bA bC : Nat} {l l' : List Int} (h : Two w0 w τ σ bA bC l) (G : RdGo w0 w τ τ' bA bC 64 l' w') : Two w0 w' τ' σ bA bC l' := by
  have hS := h.b.T.chgO G.c (fun x hx => ⟨?_, (h.a.lt x hx).1⟩)
  · exact ⟨G.ok, ⟨hS, G.ok.Ar, h.b.nA, h.b.nC, h.b.lA, h.b.lC⟩, fun k hk ho => (G.own k hk).elim (fun e => h.d k e ho) (fun e => by have := (h.b.T.own_lt k ho).2; omega)⟩
  · rcases hx with hx | rfl | rfl
    · exact h.d x hx
    · exact h.b.nA
    · exact h.b.nC

/-- None of the two's blocks. -/
def Apart (τ σ : Tt) (bA bC : Nat) (k : Nat) : Prop := ¬ τ.own k ∧ ¬ σ.own k ∧ k ≠ bA ∧ k ≠ bC

theorem Two.new {w0 w : World} {τ σ : Tt} {bA bC : Nat} {l : List Int} (h : Two w0 w τ σ bA bC l) : Apart τ σ bA bC w.heap.size :=
  ⟨fun ho => by have := (h.a.T.own_lt _ ho).2; omega, fun ho => by have := (h.b.T.own_lt _ ho).2; omega, by have := heap_lt h.a.Ar.hA; omega, by have := heap_lt h.a.Ar.hC; omega⟩

theorem Apart.swap {τ σ : Tt} {bA bC k : Nat} (h : Apart τ σ bA bC k) : Apart σ τ bA bC k := ⟨h.2.1, h.1, h.2.2⟩

/-- A block of the caller's behind a call. -/
theorem Two.box {w0 w w' : World} {τ τ' σ : Tt} {bA bC : Nat} {l' : List Int} {k : Nat} {o : Obj} (G : RdGo w0 w τ τ' bA bC 64 l' w') (hk : w.heap[k]? = some o) (ha : Apart τ σ bA bC k) : w'.heap[k]? = some o ∧ Apart τ' σ bA bC k :=
  ⟨G.c.heap hk (fun ho => ho.elim ha.1 (fun e => e.elim ha.2.2.1 ha.2.2.2)), fun ho => (G.own k ho).elim ha.1 (fun e => by have := heap_lt hk; omega), ha.2⟩
end Go.Proofs.Ytmcbgpjphjacjaa
