/-
  A list of acts that came in, opened; what Make says, in one.
-/
import Derived.Test.YtojabenkhjgafaaRegS
import Derived.Deep.Slices
import Derived.ProofKit
namespace Go.Proofs.Ytojabenkhjgafaa
set_option linter.unusedVariables false
open Go.ChangeShapes Go.WideShapes Go.ChangeAt Go.RowKit

structure ActR where
  kind : Int
  n : Int
  s : ByteArray
  deriving Inhabited

def ActR.at (w : World) (bl off : Nat) (x : ActR) : Prop :=
  w.cell? ⟨bl, off, none⟩ = some (.int .i64 x.kind) ∧ w.cell? ⟨bl, off + 1, none⟩ = some (.int .i64 x.n) ∧ w.cell? ⟨bl, off + 2, none⟩ = some (.string x.s) ∧ x.s.size ≤ maxLen

def ActsAt (w : World) (a : Option Addr) (len : Nat) (acts : List ActR) : Prop :=
  acts.length = len ∧ (0 < len → ∃ bl off, a = some ⟨bl, off, none⟩ ∧ ∀ (k : Nat) (x : ActR), acts[k]? = some x → x.at w bl (off + k * 3))

theorem actCells : Try.prog.cellsOf 28 = 3 := by kernel_rfl
theorem intCells : Try.prog.cellsOf 3 = 1 := by kernel_rfl
theorem strCells : Try.prog.cellsOf 9 = 1 := by kernel_rfl

theorem three {α : Type} {xs : List α} (h : xs.length = 3) : ∃ a b c, xs = [a, b, c] := by
  match xs, h with
  | [a, b, c], _ => exact ⟨a, b, c, rfl⟩

theorem open_act {H : Type} {enc : TypeId × Value → H} {w : World} {base : Nat} {held : Bool} {fuel : Nat} {a : Addr} {cs : List Value} {x : DataW H × List MemPlace}
    (hc : w.cells? base a 3 = some cs) (h : DataW.trod enc Try.prog w base (fun _ => true) held fuel 28 cs = some x) : a.spot = none ∧ ∃ y : ActR, y.at w a.block a.off := by
  obtain ⟨_, hlen, hcell⟩ := World.cells?_some hc
  obtain ⟨c0, c1, c2, rfl⟩ := three hlen
  obtain ⟨xs, n, _, _, _, hxl, hf⟩ := DataW.trod_struct Try.underlying28 h
  have hxl' : xs.length = 3 := hxl
  obtain ⟨y0, y1, y2, rfl⟩ := three hxl'
  have f0 : DataW.trod enc Try.prog w base (fun _ => true) held n 3 (([c0, c1, c2].drop 0).take (Try.prog.cellsOf 3)) = some y0 := hf 0 _ rfl
  have f1 : DataW.trod enc Try.prog w base (fun _ => true) held n 3 (([c0, c1, c2].drop 1).take (Try.prog.cellsOf 3)) = some y1 := hf 1 _ rfl
  have f2 : DataW.trod enc Try.prog w base (fun _ => true) held n 9 (([c0, c1, c2].drop 2).take (Try.prog.cellsOf 9)) = some y2 := hf 2 _ rfl
  rw [intCells] at f0 f1
  rw [strCells] at f2
  obtain ⟨x0, e0, _, _⟩ := DataW.trod_int Try.underlying3 f0
  obtain ⟨x1, e1, _, _⟩ := DataW.trod_int Try.underlying3 f1
  obtain ⟨x2, e2, _, hs2⟩ := DataW.trod_string Try.underlying9 f2
  simp at e0 e1 e2
  subst e0 e1 e2
  have g0 := hcell 0 (by omega)
  have hsp := World.cell?_spot g0
  obtain ⟨bl, off, spot⟩ := a
  have hs : spot = none := by simpa [Addr.add] using hsp
  subst hs
  have g : ∀ i, i < 3 → w.cell? ⟨bl, off + i, none⟩ = [Value.int .i64 x0, .int .i64 x1, .string x2][i]? := fun i hi => by
    have := hcell i hi; rwa [Addr.add_lit] at this
  exact ⟨rfl, ⟨x0, x1, x2⟩, g 0 (by omega), g 1 (by omega), g 2 (by omega), hs2⟩

theorem open_acts {H : Type} {enc : TypeId × Value → H} {w : World} {held : Bool} {a : Option Addr} {len cap : Nat} {d : DataW H} {p : List MemPlace}
    (h : DataW.Trod enc Try.prog w 0 (fun _ => true) held 22 (.slice a len cap) d p) : len ≤ maxLen ∧ ∃ acts, ActsAt w a len acts := by
  obtain ⟨fuel, hf⟩ := h
  rcases Go.Deep.open_slice Try.underlying22 hf with ⟨h1, _⟩ | ⟨ad, len', cap', m, n, D, Pl, h1, _, hl, hm, hmm, _, hx⟩
  · simp [Value.cells] at h1
    obtain ⟨rfl, rfl, rfl⟩ := h1
    exact ⟨Nat.zero_le _, [], rfl, fun h => absurd h (by omega)⟩
  · simp [Value.cells] at h1
    obtain ⟨rfl, rfl, rfl⟩ := h1
    have hmm' : m = cap := by simpa using hmm
    refine ⟨by omega, ?_⟩
    rw [actCells] at hx
    have each : ∀ i, i < len → (ad.add (i * 3)).spot = none ∧ ∃ y : ActR, y.at w (ad.add (i * 3)).block (ad.add (i * 3)).off := fun i hi => by
      obtain ⟨cs', h1, h2⟩ := hx i (by omega)
      exact open_act h1 h2
    by_cases h0 : len = 0
    · exact ⟨[], by simp [h0], fun h => absurd h (by omega)⟩
    · obtain ⟨bl, off, spot⟩ := ad
      have hs : spot = none := by have := (each 0 (by omega)).1; simpa [Addr.add] using this
      subst hs
      obtain ⟨f, hf⟩ := Go.Deep.choose_lt (α := ActR) (p := fun i y => y.at w bl (off + i * 3)) (n := len) (fun i hi => by
        have := (each i hi).2; rwa [Addr.add_lit] at this)
      refine ⟨(List.range len).map f, by simp, fun _ => ⟨bl, off, rfl, fun k x hk => ?_⟩⟩
      simp only [List.getElem?_map, Option.map_eq_some_iff] at hk
      obtain ⟨j, hj, rfl⟩ := hk
      obtain ⟨hlt, rfl⟩ := List.getElem?_eq_some_iff.1 hj
      simp at hlt
      rw [List.getElem_range]
      exact hf k hlt

theorem rMake_err (bR bM : Nat) (nv : Value) (A : List Ent) (s : ByteArray) (n : Int) (w : World) (h : RegIs w bR bM nv A) (hs : s.size ≤ maxLen) (h0 : s.toList.isEmpty = false) (hE : regE A s n ≠ 0) :
    Calls Try.prog 10 #[.pointer (some ⟨bR, 0, none⟩), .string s, .int .i64 n] w fun e w' => e = .returned (.tuple #[.pointer none, .int .i64 (regE A s n)]) ∧ w = w' := by
  unfold regE at hE ⊢
  unfold hasB at hE ⊢
  cases hf : findP A s with
  | some b =>
    rw [if_pos (by rfl)]
    exact rMake_state bR bM nv A s n w h hs h0 b hf
  | none =>
    rw [hf] at hE
    simp only [Option.isSome_none, Bool.false_eq_true, if_false] at hE ⊢
    by_cases h16 : 16 ≤ A.length
    · rw [if_pos h16]
      exact rMake_full bR bM nv A s n w h hs h0 hf h16
    · rw [if_neg h16] at hE ⊢
      by_cases hn : n < 1 ∨ 4096 < n
      · rw [if_pos hn]
        exact rMake_range bR bM nv A s n w h hs h0 hf (by omega) hn
      · rw [if_neg hn] at hE
        exact absurd rfl hE

theorem regE_zero {A : List Ent} {s : ByteArray} {n : Int} (h : regE A s n = 0) : findP A s = none ∧ A.length < 16 ∧ 1 ≤ n ∧ n ≤ 4096 := by
  unfold regE hasB at h
  cases hf : findP A s with
  | some b => rw [hf] at h; simp at h
  | none =>
    rw [hf] at h
    simp only [Option.isSome_none, Bool.false_eq_true, if_false] at h
    split at h
    · cases h
    · split at h
      · cases h
      · exact ⟨rfl, by omega, by omega, by omega⟩
end Go.Proofs.Ytojabenkhjgafaa
