/-
  A list of acts that came in, opened.
-/
import Derived.Test.YtghefhhgckafdaaProg
import Derived.Test.YtghefhhgckafdaaChg
import Derived.Deep.Slices
import Derived.ProofKit
namespace Go.Proofs.Ytghefhhgckafdaa
set_option linter.unusedVariables false
open Go.ChangeShapes Go.WideShapes Go.ChangeAt Go.RowKit

structure ActD where
  kind : Int
  a : Int
  b : Int
  c : Int
  ao : Option Addr
  m : Nat
  cap : Nat
  zs : List Int
  deriving Inhabited

def ActD.at (w : World) (bl off : Nat) (x : ActD) : Prop :=
  w.cell? ⟨bl, off, none⟩ = some (.int .i64 x.kind) ∧ w.cell? ⟨bl, off + 1, none⟩ = some (.int .i64 x.a) ∧ w.cell? ⟨bl, off + 2, none⟩ = some (.int .i64 x.b) ∧ w.cell? ⟨bl, off + 3, none⟩ = some (.int .i64 x.c) ∧
  w.cell? ⟨bl, off + 4, none⟩ = some (.slice x.ao x.m x.cap) ∧ IsRow .u8 w x.ao x.m x.cap x.zs

def ActsAt (w : World) (a : Option Addr) (len : Nat) (acts : List ActD) : Prop :=
  acts.length = len ∧ (0 < len → ∃ bl off, a = some ⟨bl, off, none⟩ ∧ ∀ (k : Nat) (x : ActD), acts[k]? = some x → x.at w bl (off + k * 5))

theorem actCells : Try.prog.cellsOf 46 = 5 := by kernel_rfl
theorem intCells : Try.prog.cellsOf 3 = 1 := by kernel_rfl
theorem bytesCells : Try.prog.cellsOf 22 = 1 := by kernel_rfl
theorem byteCells1 : Try.prog.cellsOf 5 = 1 := by kernel_rfl

theorem open_row {H : Type} {enc : TypeId × Value → H} {w : World} {base : Nat} {held : Bool} {fuel : Nat} {v : Value} {x : DataW H × List MemPlace}
    (h : DataW.trod enc Try.prog w base (fun _ => true) held fuel 22 [v] = some x) : ∃ ao m cap zs, v = .slice ao m cap ∧ IsRow .u8 w ao m cap zs := by
  rcases open_ints Try.underlying22 Try.underlying5 byteCells1 h with ⟨h1, _⟩ | ⟨a, len, cap, zs, h1, _, hl, hm, hz, _, hcell, hwz⟩
  · simp only [List.cons.injEq, and_true] at h1
    exact ⟨none, 0, 0, [], h1, .inl ⟨rfl, rfl, rfl, rfl⟩⟩
  · simp only [List.cons.injEq, and_true] at h1
    exact ⟨_, _, _, zs, h1, .inr ⟨_, rfl, hl, hm, by simpa using hz, hcell, hwz⟩⟩

theorem five {α : Type} {xs : List α} (h : xs.length = 5) : ∃ a b c d e, xs = [a, b, c, d, e] := by
  match xs, h with
  | [a, b, c, d, e], _ => exact ⟨a, b, c, d, e, rfl⟩

theorem open_act {H : Type} {enc : TypeId × Value → H} {w : World} {base : Nat} {held : Bool} {fuel : Nat} {a : Addr} {cs : List Value} {x : DataW H × List MemPlace}
    (hc : w.cells? base a 5 = some cs) (h : DataW.trod enc Try.prog w base (fun _ => true) held fuel 46 cs = some x) : a.spot = none ∧ ∃ y : ActD, y.at w a.block a.off := by
  obtain ⟨_, hlen, hcell⟩ := World.cells?_some hc
  obtain ⟨c0, c1, c2, c3, c4, rfl⟩ := five hlen
  obtain ⟨xs, n, _, _, _, hxl, hf⟩ := DataW.trod_struct Try.underlying46 h
  have hxl' : xs.length = 5 := hxl
  obtain ⟨y0, y1, y2, y3, y4, rfl⟩ := five hxl'
  have f0 : DataW.trod enc Try.prog w base (fun _ => true) held n 3 (([c0, c1, c2, c3, c4].drop 0).take (Try.prog.cellsOf 3)) = some y0 := hf 0 _ rfl
  have f1 : DataW.trod enc Try.prog w base (fun _ => true) held n 3 (([c0, c1, c2, c3, c4].drop 1).take (Try.prog.cellsOf 3)) = some y1 := hf 1 _ rfl
  have f2 : DataW.trod enc Try.prog w base (fun _ => true) held n 3 (([c0, c1, c2, c3, c4].drop 2).take (Try.prog.cellsOf 3)) = some y2 := hf 2 _ rfl
  have f3 : DataW.trod enc Try.prog w base (fun _ => true) held n 3 (([c0, c1, c2, c3, c4].drop 3).take (Try.prog.cellsOf 3)) = some y3 := hf 3 _ rfl
  have f4 : DataW.trod enc Try.prog w base (fun _ => true) held n 22 (([c0, c1, c2, c3, c4].drop 4).take (Try.prog.cellsOf 22)) = some y4 := hf 4 _ rfl
  rw [intCells] at f0 f1 f2 f3
  rw [bytesCells] at f4
  obtain ⟨x0, e0, _, _⟩ := DataW.trod_int Try.underlying3 f0
  obtain ⟨x1, e1, _, _⟩ := DataW.trod_int Try.underlying3 f1
  obtain ⟨x2, e2, _, _⟩ := DataW.trod_int Try.underlying3 f2
  obtain ⟨x3, e3, _, _⟩ := DataW.trod_int Try.underlying3 f3
  obtain ⟨ao, m, cap, zs, e4, hr⟩ := open_row f4
  simp at e0 e1 e2 e3
  subst e0 e1 e2 e3 e4
  have g0 := hcell 0 (by omega)
  have hsp := World.cell?_spot g0
  obtain ⟨bl, off, spot⟩ := a
  have hs : spot = none := by simpa [Addr.add] using hsp
  subst hs
  have g : ∀ i, i < 5 → w.cell? ⟨bl, off + i, none⟩ = [Value.int .i64 x0, .int .i64 x1, .int .i64 x2, .int .i64 x3, .slice ao m cap][i]? := fun i hi => by
    have := hcell i hi; rwa [Addr.add_lit] at this
  exact ⟨rfl, ⟨x0, x1, x2, x3, ao, m, cap, zs⟩, g 0 (by omega), g 1 (by omega), g 2 (by omega), g 3 (by omega), g 4 (by omega), hr⟩

theorem open_acts {H : Type} {enc : TypeId × Value → H} {w : World} {held : Bool} {a : Option Addr} {len cap : Nat} {d : DataW H} {p : List MemPlace}
    (h : DataW.Trod enc Try.prog w 0 (fun _ => true) held 39 (.slice a len cap) d p) : len ≤ maxLen ∧ ∃ acts, ActsAt w a len acts := by
  obtain ⟨fuel, hf⟩ := h
  rcases Go.Deep.open_slice Try.underlying39 hf with ⟨h1, _⟩ | ⟨ad, len', cap', m, n, D, Pl, h1, _, hl, hm, hmm, _, hx⟩
  · simp [Value.cells] at h1
    obtain ⟨rfl, rfl, rfl⟩ := h1
    exact ⟨Nat.zero_le _, [], rfl, fun h => absurd h (by omega)⟩
  · simp [Value.cells] at h1
    obtain ⟨rfl, rfl, rfl⟩ := h1
    have hmm' : m = cap := by simpa using hmm
    refine ⟨by omega, ?_⟩
    rw [actCells] at hx
    have each : ∀ i, i < len → (ad.add (i * 5)).spot = none ∧ ∃ y : ActD, y.at w (ad.add (i * 5)).block (ad.add (i * 5)).off := fun i hi => by
      obtain ⟨cs', h1, h2⟩ := hx i (by omega)
      exact open_act h1 h2
    by_cases h0 : len = 0
    · exact ⟨[], by simp [h0], fun h => absurd h (by omega)⟩
    · obtain ⟨bl, off, spot⟩ := ad
      have hs : spot = none := by have := (each 0 (by omega)).1; simpa [Addr.add] using this
      subst hs
      obtain ⟨f, hf⟩ := Go.Deep.choose_lt (α := ActD) (p := fun i y => y.at w bl (off + i * 5)) (n := len) (fun i hi => by
        have := (each i hi).2; rwa [Addr.add_lit] at this)
      refine ⟨(List.range len).map f, by simp, fun _ => ⟨bl, off, rfl, fun k x hk => ?_⟩⟩
      simp only [List.getElem?_map, Option.map_eq_some_iff] at hk
      obtain ⟨j, hj, rfl⟩ := hk
      obtain ⟨hlt, rfl⟩ := List.getElem?_eq_some_iff.1 hj
      simp at hlt
      rw [List.getElem_range]
      exact hf k hlt
end Go.Proofs.Ytghefhhgckafdaa
