/-
  Layer 17: attributes that came in as a slice, opened.
-/
import Derived.Test.YtmcbgpjphjacjaaTtyA
import Derived.Deep.Slices
import Derived.ProofKit
namespace Go.Proofs.Ytmcbgpjphjacjaa
set_option linter.unusedVariables false
open Go.ChangeShapes Go.WideShapes Go.ChangeAt Go.RowKit

def At3.at (w : World) (bl off : Nat) (x : At3) : Prop :=
  w.cell? ⟨bl, off, none⟩ = some (.int .u32 x.fl) ∧ w.cell? ⟨bl, off + 1, none⟩ = some (.int .u8 x.mn) ∧ w.cell? ⟨bl, off + 2, none⟩ = some (.int .u8 x.tm)

def AtsR (w : World) (a : Option Addr) (len : Nat) (l : List At3) : Prop :=
  l.length = len ∧ (0 < len → ∃ bl off, a = some ⟨bl, off, none⟩ ∧ ∀ (k : Nat) (x : At3), l[k]? = some x → x.at w bl (off + k * 3))

theorem at3Cells : Try.prog.cellsOf 24 = 3 := by kernel_rfl
theorem u32Cells1 : Try.prog.cellsOf 22 = 1 := by kernel_rfl
theorem u8Cells1 : Try.prog.cellsOf 5 = 1 := by kernel_rfl

theorem three3 {α : Type} {xs : List α} (h : xs.length = 3) : ∃ a b c, xs = [a, b, c] := by
  match xs, h with
  | [a, b, c], _ => exact ⟨a, b, c, rfl⟩

theorem open_at3 {H : Type} {enc : TypeId × Value → H} {w : World} {base : Nat} {held : Bool} {fuel : Nat} {a : Addr} {cs : List Value} {x : DataW H × List MemPlace}
    (hc : w.cells? base a 3 = some cs) (h : DataW.trod enc Try.prog w base (fun _ => true) held fuel 24 cs = some x) : a.spot = none ∧ ∃ y : At3, y.at w a.block a.off := by
  obtain ⟨_, hlen, hcell⟩ := World.cells?_some hc
  obtain ⟨c0, c1, c2, rfl⟩ := three3 hlen
  obtain ⟨xs, n, _, _, _, hxl, hf⟩ := DataW.trod_struct Try.underlying24 h
  have hxl' : xs.length = 3 := hxl
  obtain ⟨y0, y1, y2, rfl⟩ := three3 hxl'
  have f0 : DataW.trod enc Try.prog w base (fun _ => true) held n 22 (([c0, c1, c2].drop 0).take (Try.prog.cellsOf 22)) = some y0 := hf 0 _ rfl
  have f1 : DataW.trod enc Try.prog w base (fun _ => true) held n 5 (([c0, c1, c2].drop 1).take (Try.prog.cellsOf 5)) = some y1 := hf 1 _ rfl
  have f2 : DataW.trod enc Try.prog w base (fun _ => true) held n 5 (([c0, c1, c2].drop 2).take (Try.prog.cellsOf 5)) = some y2 := hf 2 _ rfl
  rw [u32Cells1] at f0
  rw [u8Cells1] at f1 f2
  obtain ⟨x0, e0, _, _⟩ := DataW.trod_int Try.underlying22 f0
  obtain ⟨x1, e1, _, _⟩ := DataW.trod_int Try.underlying5 f1
  obtain ⟨x2, e2, _, _⟩ := DataW.trod_int Try.underlying5 f2
  simp at e0 e1 e2
  subst e0 e1 e2
  have g0 := hcell 0 (by omega)
  have hsp := World.cell?_spot g0
  obtain ⟨bl, off, spot⟩ := a
  have hs : spot = none := by simpa [Addr.add] using hsp
  subst hs
  have g : ∀ i, i < 3 → w.cell? ⟨bl, off + i, none⟩ = [Value.int .u32 x0, .int .u8 x1, .int .u8 x2][i]? := fun i hi => by
    have := hcell i hi; rwa [Addr.add_lit] at this
  exact ⟨rfl, ⟨x0, x1, x2⟩, g 0 (by omega), g 1 (by omega), g 2 (by omega)⟩

theorem open_ats {H : Type} {enc : TypeId × Value → H} {w : World} {held : Bool} {a : Option Addr} {len cap : Nat} {d : DataW H} {p : List MemPlace}
    (h : DataW.Trod enc Try.prog w 0 (fun _ => true) held 29 (.slice a len cap) d p) : len ≤ maxLen ∧ ∃ l, AtsR w a len l := by
  obtain ⟨fuel, hf⟩ := h
  rcases Go.Deep.open_slice Try.underlying29 hf with ⟨h1, _⟩ | ⟨ad, len', cap', m, n, D, Pl, h1, _, hl, hm, hmm, _, hx⟩
  · simp [Value.cells] at h1
    obtain ⟨rfl, rfl, rfl⟩ := h1
    exact ⟨Nat.zero_le _, [], rfl, fun h => absurd h (by omega)⟩
  · simp [Value.cells] at h1
    obtain ⟨rfl, rfl, rfl⟩ := h1
    have hmm' : m = cap := by simpa using hmm
    refine ⟨by omega, ?_⟩
    rw [at3Cells] at hx
    have each : ∀ i, i < len → (ad.add (i * 3)).spot = none ∧ ∃ y : At3, y.at w (ad.add (i * 3)).block (ad.add (i * 3)).off := fun i hi => by
      obtain ⟨cs', h1, h2⟩ := hx i (by omega)
      exact open_at3 h1 h2
    by_cases h0 : len = 0
    · exact ⟨[], by simp [h0], fun h => absurd h (by omega)⟩
    · obtain ⟨bl, off, spot⟩ := ad
      have hs : spot = none := by have := (each 0 (by omega)).1; simpa [Addr.add] using this
      subst hs
      obtain ⟨f, hf⟩ := Go.Deep.choose_lt (α := At3) (p := fun i y => y.at w bl (off + i * 3)) (n := len) (fun i hi => by
        have := (each i hi).2; rwa [Addr.add_lit] at this)
      refine ⟨(List.range len).map f, by simp, fun _ => ⟨bl, off, rfl, fun k x hk => ?_⟩⟩
      simp only [List.getElem?_map, Option.map_eq_some_iff] at hk
      obtain ⟨j, hj, rfl⟩ := hk
      obtain ⟨hlt, rfl⟩ := List.getElem?_eq_some_iff.1 hj
      simp at hlt
      rw [List.getElem_range]
      exact hf k hlt
end Go.Proofs.Ytmcbgpjphjacjaa
