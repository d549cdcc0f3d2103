/-
  Layer 16: the law's acts that came in, opened.
-/
import Derived.Test.YtlcfokndkkjklaaWldC
import Derived.Deep.Slices
import Derived.ProofKit
namespace Go.Proofs.Ytlcfokndkkjklaa
set_option linter.unusedVariables false
open Go.ChangeShapes Go.WideShapes Go.ChangeAt Go.RowKit

structure ActW where
  kind : Int
  n : Int
  deriving Inhabited

def ActW.at (w : World) (bl off : Nat) (x : ActW) : Prop :=
  w.cell? ⟨bl, off, none⟩ = some (.int .i64 x.kind) ∧ w.cell? ⟨bl, off + 1, none⟩ = some (.int .i64 x.n) 

def ActsW (w : World) (a : Option Addr) (len : Nat) (acts : List ActW) : Prop :=
  acts.length = len ∧ (0 < len → ∃ bl off, a = some ⟨bl, off, none⟩ ∧ ∀ (k : Nat) (x : ActW), acts[k]? = some x → x.at w bl (off + k * 2))

theorem actCellsW : Try.prog.cellsOf 54 = 2 := by kernel_rfl
theorem intCellsW : Try.prog.cellsOf 3 = 1 := by kernel_rfl

theorem two {α : Type} {xs : List α} (h : xs.length = 2) : ∃ a b, xs = [a, b] := by
  match xs, h with
  | [a, b], _ => exact ⟨a, b, rfl⟩

theorem open_actx {H : Type} {enc : TypeId × Value → H} {w : World} {base : Nat} {held : Bool} {fuel : Nat} {a : Addr} {cs : List Value} {x : DataW H × List MemPlace}
    (hc : w.cells? base a 2 = some cs) (h : DataW.trod enc Try.prog w base (fun _ => true) held fuel 54 cs = some x) : a.spot = none ∧ ∃ y : ActW, y.at w a.block a.off := by
  obtain ⟨_, hlen, hcell⟩ := World.cells?_some hc
  obtain ⟨c0, c1, rfl⟩ := two hlen
  obtain ⟨xs, n, _, _, _, hxl, hf⟩ := DataW.trod_struct Try.underlying54 h
  have hxl' : xs.length = 2 := hxl
  obtain ⟨y0, y1, rfl⟩ := two hxl'
  have f0 : DataW.trod enc Try.prog w base (fun _ => true) held n 3 (([c0, c1].drop 0).take (Try.prog.cellsOf 3)) = some y0 := hf 0 _ rfl
  have f1 : DataW.trod enc Try.prog w base (fun _ => true) held n 3 (([c0, c1].drop 1).take (Try.prog.cellsOf 3)) = some y1 := hf 1 _ rfl
  rw [intCellsW] at f0 f1
  obtain ⟨x0, e0, _, _⟩ := DataW.trod_int Try.underlying3 f0
  obtain ⟨x1, e1, _, _⟩ := DataW.trod_int Try.underlying3 f1
  simp at e0 e1
  subst e0 e1
  have g0 := hcell 0 (by omega)
  have hsp := World.cell?_spot g0
  obtain ⟨bl, off, spot⟩ := a
  have hs : spot = none := by simpa [Addr.add] using hsp
  subst hs
  have g : ∀ i, i < 2 → w.cell? ⟨bl, off + i, none⟩ = [Value.int .i64 x0, .int .i64 x1][i]? := fun i hi => by
    have := hcell i hi; rwa [Addr.add_lit] at this
  exact ⟨rfl, ⟨x0, x1⟩, g 0 (by omega), g 1 (by omega)⟩

theorem open_actsx {H : Type} {enc : TypeId × Value → H} {w : World} {held : Bool} {a : Option Addr} {len cap : Nat} {d : DataW H} {p : List MemPlace}
    (h : DataW.Trod enc Try.prog w 0 (fun _ => true) held 49 (.slice a len cap) d p) : len ≤ maxLen ∧ ∃ acts, ActsW w a len acts := by
  obtain ⟨fuel, hf⟩ := h
  rcases Go.Deep.open_slice Try.underlying49 hf with ⟨h1, _⟩ | ⟨ad, len', cap', m, n, D, Pl, h1, _, hl, hm, hmm, _, hx⟩
  · simp [Value.cells] at h1
    obtain ⟨rfl, rfl, rfl⟩ := h1
    exact ⟨Nat.zero_le _, [], rfl, fun h => absurd h (by omega)⟩
  · simp [Value.cells] at h1
    obtain ⟨rfl, rfl, rfl⟩ := h1
    have hmm' : m = cap := by simpa using hmm
    refine ⟨by omega, ?_⟩
    rw [actCellsW] at hx
    have each : ∀ i, i < len → (ad.add (i * 2)).spot = none ∧ ∃ y : ActW, y.at w (ad.add (i * 2)).block (ad.add (i * 2)).off := fun i hi => by
      obtain ⟨cs', h1, h2⟩ := hx i (by omega)
      exact open_actx h1 h2
    by_cases h0 : len = 0
    · exact ⟨[], by simp [h0], fun h => absurd h (by omega)⟩
    · obtain ⟨bl, off, spot⟩ := ad
      have hs : spot = none := by have := (each 0 (by omega)).1; simpa [Addr.add] using this
      subst hs
      obtain ⟨f, hf⟩ := Go.Deep.choose_lt (α := ActW) (p := fun i y => y.at w bl (off + i * 2)) (n := len) (fun i hi => by
        have := (each i hi).2; rwa [Addr.add_lit] at this)
      refine ⟨(List.range len).map f, by simp, fun _ => ⟨bl, off, rfl, fun k x hk => ?_⟩⟩
      simp only [List.getElem?_map, Option.map_eq_some_iff] at hk
      obtain ⟨j, hj, rfl⟩ := hk
      obtain ⟨hlt, rfl⟩ := List.getElem?_eq_some_iff.1 hj
      simp at hlt
      rw [List.getElem_range]
      exact hf k hlt
end Go.Proofs.Ytlcfokndkkjklaa
