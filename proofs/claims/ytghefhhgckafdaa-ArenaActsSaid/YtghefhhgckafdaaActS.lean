/-
  A list of acts that came in, opened with its reach: no act's data is longer than the reach.
-/
import Derived.Test.YtghefhhgckafdaaActs
import Derived.SizedLaws
namespace Go.Proofs.Ytghefhhgckafdaa
set_option linter.unusedVariables false
set_option linter.unusedSimpArgs false
open Go.ChangeShapes Go.WideShapes Go.ChangeAt Go.RowKit

theorem weights_mem_all {H : Type} {P : Program} {e : TypeId} : ∀ {ds : List (DataW H)} {d : DataW H}, d ∈ ds → ∀ n ∈ d.weights P e, n ∈ DataW.weightsAll P e ds
  | [], _, h, _, _ => by cases h
  | y :: r, d, h, n, hn => by
    simp only [DataW.weightsAll, List.mem_append]
    rcases List.mem_cons.1 h with rfl | h
    · exact Or.inl hn
    · exact Or.inr (weights_mem_all h n hn)

theorem bytesOf1 : Try.prog.bytesOf 5 = 1 := by kernel_rfl

theorem open_rowW {H : Type} {enc : TypeId × Value → H} {w : World} {base : Nat} {held : Bool} {fuel : Nat} {v : Value} {x : DataW H × List MemPlace}
    (h : DataW.trod enc Try.prog w base (fun _ => true) held fuel 22 [v] = some x) (hw : ∀ n ∈ x.1.weights Try.prog 22, n ≤ reachBytes) : ∃ ao m cap zs, v = .slice ao m cap ∧ IsRow .u8 w ao m cap zs ∧ m ≤ reachBytes := by
  rcases open_ints Try.underlying22 Try.underlying5 byteCells1 h with ⟨h1, _⟩ | ⟨a, len, cap, zs, h1, _, hl, hm, hz, hx, hcell, hwz⟩
  · simp only [List.cons.injEq, and_true] at h1
    exact ⟨none, 0, 0, [], h1, .inl ⟨rfl, rfl, rfl, rfl⟩, Nat.zero_le _⟩
  · simp only [List.cons.injEq, and_true] at h1
    refine ⟨_, _, _, zs, h1, .inr ⟨_, rfl, hl, hm, by simpa using hz, hcell, hwz⟩, ?_⟩
    have hz' : zs.length = cap := by simpa using hz
    have := hw (((lits .u8 (zs.take len) : List (DataW H)).length + (lits .u8 (zs.drop len) : List (DataW H)).length) * Try.prog.bytesOf 5) (by rw [hx]; simp [DataW.weights, Try.underlying22])
    rw [bytesOf1] at this
    simp [lits] at this
    omega

theorem open_actW {H : Type} {enc : TypeId × Value → H} {w : World} {base : Nat} {held : Bool} {fuel : Nat} {a : Addr} {cs : List Value} {x : DataW H × List MemPlace}
    (hc : w.cells? base a 5 = some cs) (h : DataW.trod enc Try.prog w base (fun _ => true) held fuel 46 cs = some x) (hw : ∀ n ∈ x.1.weights Try.prog 46, n ≤ reachBytes) :
    a.spot = none ∧ ∃ y : ActD, y.at w a.block a.off ∧ y.m ≤ reachBytes := by
  obtain ⟨_, hlen, hcell⟩ := World.cells?_some hc
  obtain ⟨c0, c1, c2, c3, c4, rfl⟩ := five hlen
  obtain ⟨xs, n, _, hxe, _, hxl, hf⟩ := DataW.trod_struct Try.underlying46 h
  have hxl' : xs.length = 5 := hxl
  obtain ⟨y0, y1, y2, y3, y4, rfl⟩ := five hxl'
  have f0 : DataW.trod enc Try.prog w base (fun _ => true) held n 3 (([c0, c1, c2, c3, c4].drop 0).take (Try.prog.cellsOf 3)) = some y0 := hf 0 _ rfl
  have f1 : DataW.trod enc Try.prog w base (fun _ => true) held n 3 (([c0, c1, c2, c3, c4].drop 1).take (Try.prog.cellsOf 3)) = some y1 := hf 1 _ rfl
  have f2 : DataW.trod enc Try.prog w base (fun _ => true) held n 3 (([c0, c1, c2, c3, c4].drop 2).take (Try.prog.cellsOf 3)) = some y2 := hf 2 _ rfl
  have f3 : DataW.trod enc Try.prog w base (fun _ => true) held n 3 (([c0, c1, c2, c3, c4].drop 3).take (Try.prog.cellsOf 3)) = some y3 := hf 3 _ rfl
  have f4 : DataW.trod enc Try.prog w base (fun _ => true) held n 22 (([c0, c1, c2, c3, c4].drop 4).take (Try.prog.cellsOf 22)) = some y4 := hf 4 _ rfl
  rw [intCells] at f0 f1 f2 f3
  rw [bytesCells] at f4
  obtain ⟨x0, e0, _, _⟩ := DataW.trod_int Try.underlying3 f0
  obtain ⟨x1, e1, _, _⟩ := DataW.trod_int Try.underlying3 f1
  obtain ⟨x2, e2, _, _⟩ := DataW.trod_int Try.underlying3 f2
  obtain ⟨x3, e3, _, _⟩ := DataW.trod_int Try.underlying3 f3
  have hw4 : ∀ k ∈ y4.1.weights Try.prog 22, k ≤ reachBytes := fun k hk => by
    refine hw k ?_
    rw [hxe]
    simp only [DataW.weights, Try.underlying46]
    exact DataW.weights_mem_each (j := 4) (t := 22) (d := y4.1) rfl rfl k hk
  obtain ⟨ao, m, cap, zs, e4, hr, hmr⟩ := open_rowW f4 hw4
  simp at e0 e1 e2 e3
  subst e0 e1 e2 e3 e4
  have g0 := hcell 0 (by omega)
  have hsp := World.cell?_spot g0
  obtain ⟨bl, off, spot⟩ := a
  have hs : spot = none := by simpa [Addr.add] using hsp
  subst hs
  have g : ∀ i, i < 5 → w.cell? ⟨bl, off + i, none⟩ = [Value.int .i64 x0, .int .i64 x1, .int .i64 x2, .int .i64 x3, .slice ao m cap][i]? := fun i hi => by
    have := hcell i hi; rwa [Addr.add_lit] at this
  exact ⟨rfl, ⟨x0, x1, x2, x3, ao, m, cap, zs⟩, ⟨g 0 (by omega), g 1 (by omega), g 2 (by omega), g 3 (by omega), g 4 (by omega), hr⟩, hmr⟩

theorem open_actsW {H : Type} {enc : TypeId × Value → H} {w : World} {held : Bool} {a : Option Addr} {len cap : Nat} {d : DataW H} {p : List MemPlace}
    (h : DataW.Trod enc Try.prog w 0 (fun _ => true) held 39 (.slice a len cap) d p) (hw : ∀ n ∈ d.weights Try.prog 39, n ≤ reachBytes) :
    len ≤ maxLen ∧ ∃ acts, ActsAt w a len acts ∧ ∀ x ∈ acts, x.m ≤ 140737488355328 := by
  obtain ⟨fuel, hf⟩ := h
  rcases Go.Deep.open_slice Try.underlying39 hf with ⟨h1, _⟩ | ⟨ad, len', cap', m, n, D, Pl, h1, _, hl, hm, hmm, hxe, hx⟩
  · simp [Value.cells] at h1
    obtain ⟨rfl, rfl, rfl⟩ := h1
    exact ⟨Nat.zero_le _, [], ⟨rfl, fun h => absurd h (by omega)⟩, fun x hx => by cases hx⟩
  · simp [Value.cells] at h1
    obtain ⟨rfl, rfl, rfl⟩ := h1
    have hmm' : m = cap := by simpa using hmm
    refine ⟨by omega, ?_⟩
    rw [actCells] at hx
    have hd : d = .slice ((List.range len).map D) ((List.range (m - len)).map fun j => D (len + j)) := (Prod.mk.inj hxe).1
    have each : ∀ i, i < len → (ad.add (i * 5)).spot = none ∧ ∃ y : ActD, y.at w (ad.add (i * 5)).block (ad.add (i * 5)).off ∧ y.m ≤ reachBytes := fun i hi => by
      obtain ⟨cs', h1, h2⟩ := hx i (by omega)
      refine open_actW h1 h2 (fun k hk => hw k ?_)
      rw [hd]
      simp only [DataW.weights, Try.underlying39, List.mem_cons, List.mem_append]
      exact Or.inr (Or.inl (weights_mem_all (List.mem_map.2 ⟨i, List.mem_range.2 hi, rfl⟩) k hk))
    by_cases h0 : len = 0
    · exact ⟨[], ⟨by simp [h0], fun h => absurd h (by omega)⟩, fun x hx => by cases hx⟩
    · obtain ⟨bl, off, spot⟩ := ad
      have hs : spot = none := by have := (each 0 (by omega)).1; simpa [Addr.add] using this
      subst hs
      obtain ⟨f, hf⟩ := Go.Deep.choose_lt (α := ActD) (p := fun i y => y.at w bl (off + i * 5) ∧ y.m ≤ reachBytes) (n := len) (fun i hi => by
        have := (each i hi).2; rwa [Addr.add_lit] at this)
      refine ⟨(List.range len).map f, ⟨by simp, fun _ => ⟨bl, off, rfl, fun k x hk => ?_⟩⟩, fun x hx => ?_⟩
      · simp only [List.getElem?_map, Option.map_eq_some_iff] at hk
        obtain ⟨j, hj, rfl⟩ := hk
        obtain ⟨hlt, rfl⟩ := List.getElem?_eq_some_iff.1 hj
        simp at hlt
        rw [List.getElem_range]
        exact (hf k hlt).1
      · obtain ⟨j, hj, rfl⟩ := List.mem_map.1 hx
        have := (hf j (List.mem_range.1 hj)).2
        unfold reachBytes at this
        omega
end Go.Proofs.Ytghefhhgckafdaa
