/-
  Layer 16: a plan that came in, opened with its reach.
-/
import Derived.Test.YtmcbgpjphjacjaaWldC
import Derived.Deep.Slices
import Derived.ProofKit
import Derived.SizedLaws
namespace Go.Proofs.Ytmcbgpjphjacjaa
set_option linter.unusedVariables false
set_option linter.unusedSimpArgs false
open Go.ChangeShapes Go.WideShapes Go.ChangeAt Go.RowKit

theorem trod_floatI {H : Type} {enc : TypeId × Value → H} {P : Program} {w : World} {base : Nat} {spare : Nat → Bool} {held : Bool} {fuel : Nat} {t : TypeId} {k : FloatKind} {cs : List Value} {x : DataW H × List MemPlace} (ht : P.underlying t = some (.float k)) (h : DataW.trod enc P w base (fun _ => true) held fuel t cs = some x) : ∃ n, cs = [.float k n] ∧ (Lit.float k n).wf = true := by
  cases fuel with
  | zero => simp [DataW.trod] at h
  | succ n =>
    unfold DataW.trod at h
    rw [ht] at h
    split at h <;> simp_all

theorem weights_mem_allI {H : Type} {P : Program} {e : TypeId} : ∀ {ds : List (DataW H)} {d : DataW H}, d ∈ ds → ∀ n ∈ d.weights P e, n ∈ DataW.weightsAll P e ds
  | [], _, h, _, _ => by cases h
  | y :: r, d, h, n, hn => by
    simp only [DataW.weightsAll, List.mem_append]
    rcases List.mem_cons.1 h with rfl | h
    · exact Or.inl hn
    · exact Or.inr (weights_mem_allI h n hn)

theorem bytesOfI1 : Try.prog.bytesOf 5 = 1 := by kernel_rfl
theorem byteCellsI : Try.prog.cellsOf 5 = 1 := by kernel_rfl
theorem bytesCellsI : Try.prog.cellsOf 42 = 1 := by kernel_rfl
theorem intCellsI : Try.prog.cellsOf 3 = 1 := by kernel_rfl
theorem floatCellsI : Try.prog.cellsOf 53 = 1 := by kernel_rfl
theorem itemCellsI : Try.prog.cellsOf 55 = 4 := by kernel_rfl

theorem open_rowI {H : Type} {enc : TypeId × Value → H} {w : World} {base : Nat} {held : Bool} {fuel : Nat} {v : Value} {x : DataW H × List MemPlace}
    (h : DataW.trod enc Try.prog w base (fun _ => true) held fuel 42 [v] = some x) (hw : ∀ n ∈ x.1.weights Try.prog 42, n ≤ reachBytes) : ∃ ao m cap zs, v = .slice ao m cap ∧ IsRow .u8 w ao m cap zs ∧ m ≤ reachBytes := by
  rcases open_ints Try.underlying42 Try.underlying5 byteCellsI h with ⟨h1, _⟩ | ⟨a, len, cap, zs, h1, _, hl, hm, hz, hx, hcell, hwz⟩
  · simp only [List.cons.injEq, and_true] at h1
    exact ⟨none, 0, 0, [], h1, .inl ⟨rfl, rfl, rfl, rfl⟩, Nat.zero_le _⟩
  · simp only [List.cons.injEq, and_true] at h1
    refine ⟨_, _, _, zs, h1, .inr ⟨_, rfl, hl, hm, by simpa using hz, hcell, hwz⟩, ?_⟩
    have hz' : zs.length = cap := by simpa using hz
    have := hw (((lits .u8 (zs.take len) : List (DataW H)).length + (lits .u8 (zs.drop len) : List (DataW H)).length) * Try.prog.bytesOf 5) (by rw [hx]; simp [DataW.weights, Try.underlying42])
    rw [bytesOfI1] at this
    simp [lits] at this
    omega

theorem fourI {α : Type} {xs : List α} (h : xs.length = 4) : ∃ a b c d, xs = [a, b, c, d] := by
  match xs, h with
  | [a, b, c, d], _ => exact ⟨a, b, c, d, rfl⟩

theorem open_itemI {H : Type} {enc : TypeId × Value → H} {w : World} {base : Nat} {held : Bool} {fuel : Nat} {a : Addr} {cs : List Value} {x : DataW H × List MemPlace}
    (hc : w.cells? base a 4 = some cs) (h : DataW.trod enc Try.prog w base (fun _ => true) held fuel 55 cs = some x) (hw : ∀ n ∈ x.1.weights Try.prog 55, n ≤ reachBytes) :
    a.spot = none ∧ ∃ y : ItD, y.at w a.block a.off ∧ y.m ≤ reachBytes := by
  obtain ⟨_, hlen, hcell⟩ := World.cells?_some hc
  obtain ⟨c0, c1, c2, c3, rfl⟩ := fourI hlen
  obtain ⟨xs, n, _, hxe, _, hxl, hf⟩ := DataW.trod_struct Try.underlying55 h
  have hxl' : xs.length = 4 := hxl
  obtain ⟨y0, y1, y2, y3, rfl⟩ := fourI hxl'
  have f0 : DataW.trod enc Try.prog w base (fun _ => true) held n 53 (([c0, c1, c2, c3].drop 0).take (Try.prog.cellsOf 53)) = some y0 := hf 0 _ rfl
  have f1 : DataW.trod enc Try.prog w base (fun _ => true) held n 3 (([c0, c1, c2, c3].drop 1).take (Try.prog.cellsOf 3)) = some y1 := hf 1 _ rfl
  have f2 : DataW.trod enc Try.prog w base (fun _ => true) held n 3 (([c0, c1, c2, c3].drop 2).take (Try.prog.cellsOf 3)) = some y2 := hf 2 _ rfl
  have f3 : DataW.trod enc Try.prog w base (fun _ => true) held n 42 (([c0, c1, c2, c3].drop 3).take (Try.prog.cellsOf 42)) = some y3 := hf 3 _ rfl
  rw [floatCellsI] at f0
  rw [intCellsI] at f1 f2
  rw [bytesCellsI] at f3
  obtain ⟨x0, e0, hx0⟩ := trod_floatI (spare := fun _ => true) Try.underlying53 f0
  obtain ⟨x1, e1, _, _⟩ := DataW.trod_int Try.underlying3 f1
  obtain ⟨x2, e2, _, _⟩ := DataW.trod_int Try.underlying3 f2
  have hw3 : ∀ k ∈ y3.1.weights Try.prog 42, k ≤ reachBytes := fun k hk => by
    refine hw k ?_
    rw [hxe]
    simp only [DataW.weights, Try.underlying55]
    exact DataW.weights_mem_each (j := 3) (t := 42) (d := y3.1) rfl rfl k hk
  obtain ⟨ao, m, cap, zs, e3, hr, hmr⟩ := open_rowI f3 hw3
  simp at e0 e1 e2
  subst e0 e1 e2 e3
  have g0 := hcell 0 (by omega)
  have hsp := World.cell?_spot g0
  obtain ⟨bl, off, spot⟩ := a
  have hs : spot = none := by simpa [Addr.add] using hsp
  subst hs
  have g : ∀ i, i < 4 → w.cell? ⟨bl, off + i, none⟩ = [Value.float .f64 x0, .int .i64 x1, .int .i64 x2, .slice ao m cap][i]? := fun i hi => by
    have := hcell i hi; rwa [Addr.add_lit] at this
  exact ⟨rfl, ⟨x0, x1, x2, ao, m, cap, zs⟩, ⟨g 0 (by omega), g 1 (by omega), g 2 (by omega), g 3 (by omega), hr.row, by unfold Wd; simpa [Lit.wf] using hx0⟩, hmr⟩

instance : Inhabited ItD := ⟨⟨0, 0, 0, none, 0, 0, []⟩⟩

theorem open_itemsI {H : Type} {enc : TypeId × Value → H} {w : World} {base : Nat} {held : Bool} {fuel : Nat} {v : Value} {x : DataW H × List MemPlace}
    (hf : DataW.trod enc Try.prog w base (fun _ => true) held fuel 25 [v] = some x) (hw : ∀ n ∈ x.1.weights Try.prog 25, n ≤ reachBytes) :
    ∃ a len cap its, v = .slice a len cap ∧ len ≤ maxLen ∧ ItsAt w a len its ∧ ∀ y ∈ its, y.m ≤ reachBytes := by
  rcases Go.Deep.open_slice Try.underlying25 hf with ⟨h1, _⟩ | ⟨ad, len, cap, m, n, D, Pl, h1, _, hl, hm, hmm, hxe, hx⟩
  · simp only [List.cons.injEq, and_true] at h1
    exact ⟨none, 0, 0, [], h1, Nat.zero_le _, ⟨rfl, fun h => absurd h (by omega)⟩, fun y hy => by cases hy⟩
  · simp only [List.cons.injEq, and_true] at h1
    have hmm' : m = cap := by simpa using hmm
    refine ⟨some ad, len, cap, ?_⟩
    rw [itemCellsI] at hx
    have hd : x.1 = .slice ((List.range len).map D) ((List.range (m - len)).map fun j => D (len + j)) := by rw [hxe]
    have each : ∀ i, i < len → (ad.add (i * 4)).spot = none ∧ ∃ y : ItD, y.at w (ad.add (i * 4)).block (ad.add (i * 4)).off ∧ y.m ≤ reachBytes := fun i hi => by
      obtain ⟨cs', h1, h2⟩ := hx i (by omega)
      refine open_itemI h1 h2 (fun k hk => hw k ?_)
      rw [hd]
      simp only [DataW.weights, Try.underlying25, List.mem_cons, List.mem_append]
      exact Or.inr (Or.inl (weights_mem_allI (List.mem_map.2 ⟨i, List.mem_range.2 hi, rfl⟩) k hk))
    by_cases h0 : len = 0
    · exact ⟨[], h1, by omega, ⟨by simp [h0], fun h => absurd h (by omega)⟩, fun x hx => by cases hx⟩
    · obtain ⟨bl, off, spot⟩ := ad
      have hs : spot = none := by have := (each 0 (by omega)).1; simpa [Addr.add] using this
      subst hs
      obtain ⟨f, hf⟩ := Go.Deep.choose_lt (α := ItD) (p := fun i y => y.at w bl (off + i * 4) ∧ y.m ≤ reachBytes) (n := len) (fun i hi => by
        have := (each i hi).2; rwa [Addr.add_lit] at this)
      refine ⟨(List.range len).map f, h1, by omega, ⟨by simp, fun _ => ⟨bl, off, rfl, fun k x hk => ?_⟩⟩, fun x hx => ?_⟩
      · simp only [List.getElem?_map, Option.map_eq_some_iff] at hk
        obtain ⟨j, hj, rfl⟩ := hk
        obtain ⟨hlt, rfl⟩ := List.getElem?_eq_some_iff.1 hj
        simp at hlt
        rw [List.getElem_range]
        exact (hf k hlt).1
      · obtain ⟨j, hj, rfl⟩ := List.mem_map.1 hx
        exact (hf j (List.mem_range.1 hj)).2

theorem open_intsI {H : Type} {enc : TypeId × Value → H} {w : World} {base : Nat} {held : Bool} {fuel : Nat} {v : Value} {x : DataW H × List MemPlace}
    (h : DataW.trod enc Try.prog w base (fun _ => true) held fuel 26 [v] = some x) (hw : ∀ n ∈ x.1.weights Try.prog 26, n ≤ reachBytes) : ∃ ao m cap zs, v = .slice ao m cap ∧ IsRow .i64 w ao m cap zs ∧ m ≤ reachBytes := by
  rcases open_ints Try.underlying26 Try.underlying3 intCellsI h with ⟨h1, _⟩ | ⟨a, len, cap, zs, h1, _, hl, hm, hz, hx, hcell, hwz⟩
  · simp only [List.cons.injEq, and_true] at h1
    exact ⟨none, 0, 0, [], h1, .inl ⟨rfl, rfl, rfl, rfl⟩, Nat.zero_le _⟩
  · simp only [List.cons.injEq, and_true] at h1
    refine ⟨_, _, _, zs, h1, .inr ⟨_, rfl, hl, hm, by simpa using hz, hcell, hwz⟩, ?_⟩
    have hz' : zs.length = cap := by simpa using hz
    have := hw (((lits .i64 (zs.take len) : List (DataW H)).length + (lits .i64 (zs.drop len) : List (DataW H)).length) * Try.prog.bytesOf 3) (by rw [hx]; simp [DataW.weights, Try.underlying26])
    rw [show Try.prog.bytesOf 3 = 8 by kernel_rfl] at this
    simp [lits] at this
    omega

theorem planCellsI : Try.prog.cellsOf 28 = 7 := by kernel_rfl
theorem attrsCellsI : Try.prog.cellsOf 24 = 3 := by kernel_rfl
theorem itemsCellsI : Try.prog.cellsOf 25 = 1 := by kernel_rfl
theorem intsCellsI : Try.prog.cellsOf 26 = 1 := by kernel_rfl
theorem u32CellsI : Try.prog.cellsOf 22 = 1 := by kernel_rfl

theorem sevenI {α : Type} {xs : List α} (h : xs.length = 7) : ∃ a b c d e f g, xs = [a, b, c, d, e, f, g] := by
  match xs, h with
  | [a, b, c, d, e, f, g], _ => exact ⟨a, b, c, d, e, f, g, rfl⟩
theorem fiveI {α : Type} {xs : List α} (h : xs.length = 5) : ∃ a b c d e, xs = [a, b, c, d, e] := by
  match xs, h with
  | [a, b, c, d, e], _ => exact ⟨a, b, c, d, e, rfl⟩
theorem threeI {α : Type} {xs : List α} (h : xs.length = 3) : ∃ a b c, xs = [a, b, c] := by
  match xs, h with
  | [a, b, c], _ => exact ⟨a, b, c, rfl⟩

set_option maxRecDepth 100000 in
theorem open_planI {H : Type} {enc : TypeId × Value → H} {w : World} {r : Reach} {b0 : Nat} {held : Bool} {v : Value} {d : DataW H} {p : List MemPlace}
    (hval : Value.okWide Try.prog w r b0 28 v) (h : DataW.Trod enc Try.prog w 0 (fun _ => true) held 28 v d p) (hw : ∀ n ∈ d.weights Try.prog 28, n ≤ reachBytes) :
    ∃ q : PlanD, v = .agg q.cells ∧ q.At w ∧ (∀ y ∈ q.its, y.m ≤ reachBytes) ∧ q.wl ≤ reachBytes ∧ q.gl ≤ reachBytes ∧ q.sl ≤ reachBytes := by
  obtain ⟨cs, rfl, hsz⟩ := okWide_struct Try.underlying28 hval
  obtain ⟨fuel, hf⟩ := h
  rw [planCellsI] at hsz
  obtain ⟨c0, c1, c2, c3, c4, c5, c6, hcs⟩ := sevenI (show cs.toList.length = 7 by simpa using hsz)
  have hf' : DataW.trod enc Try.prog w 0 (fun _ => true) held fuel 28 [c0, c1, c2, c3, c4, c5, c6] = some (d, p) := by rw [← hcs]; exact hf
  obtain ⟨xs, n, _, hxe, _, hxl, hF⟩ := DataW.trod_struct Try.underlying28 hf'
  obtain ⟨y0, y1, y2, y3, y4, rfl⟩ := fiveI (show xs.length = 5 from hxl)
  have f0 : DataW.trod enc Try.prog w 0 (fun _ => true) held n 24 (([c0, c1, c2, c3, c4, c5, c6].drop 0).take (Try.prog.cellsOf 24)) = some y0 := hF 0 _ rfl
  have f1 : DataW.trod enc Try.prog w 0 (fun _ => true) held n 25 (([c0, c1, c2, c3, c4, c5, c6].drop 3).take (Try.prog.cellsOf 25)) = some y1 := hF 1 _ rfl
  have f2 : DataW.trod enc Try.prog w 0 (fun _ => true) held n 26 (([c0, c1, c2, c3, c4, c5, c6].drop 4).take (Try.prog.cellsOf 26)) = some y2 := hF 2 _ rfl
  have f3 : DataW.trod enc Try.prog w 0 (fun _ => true) held n 26 (([c0, c1, c2, c3, c4, c5, c6].drop 5).take (Try.prog.cellsOf 26)) = some y3 := hF 3 _ rfl
  have f4 : DataW.trod enc Try.prog w 0 (fun _ => true) held n 26 (([c0, c1, c2, c3, c4, c5, c6].drop 6).take (Try.prog.cellsOf 26)) = some y4 := hF 4 _ rfl
  rw [attrsCellsI] at f0
  rw [itemsCellsI] at f1
  rw [intsCellsI] at f2 f3 f4
  have hd : d = .agg [y0.1, y1.1, y2.1, y3.1, y4.1] := by simpa using (Prod.mk.inj hxe).1
  have wf : ∀ (j : Nat) (t : TypeId) (y : DataW H), [24, 25, 26, 26, 26][j]? = some t → [y0.1, y1.1, y2.1, y3.1, y4.1][j]? = some y → ∀ k ∈ y.weights Try.prog t, k ≤ reachBytes := fun j t y h1 h2 k hk => by
    refine hw k ?_
    rw [hd]
    simp only [DataW.weights, Try.underlying28]
    exact DataW.weights_mem_each (j := j) (t := t) (d := y) h1 h2 k hk
  obtain ⟨zs, m, _, _, _, hzl, hG⟩ := DataW.trod_struct Try.underlying24 f0
  obtain ⟨z0, z1, z2, rfl⟩ := threeI (show zs.length = 3 from hzl)
  have g0 : DataW.trod enc Try.prog w 0 (fun _ => true) held m 22 (((([c0, c1, c2, c3, c4, c5, c6].drop 0).take 3).drop 0).take (Try.prog.cellsOf 22)) = some z0 := hG 0 _ rfl
  have g1 : DataW.trod enc Try.prog w 0 (fun _ => true) held m 5 (((([c0, c1, c2, c3, c4, c5, c6].drop 0).take 3).drop 1).take (Try.prog.cellsOf 5)) = some z1 := hG 1 _ rfl
  have g2 : DataW.trod enc Try.prog w 0 (fun _ => true) held m 5 (((([c0, c1, c2, c3, c4, c5, c6].drop 0).take 3).drop 2).take (Try.prog.cellsOf 5)) = some z2 := hG 2 _ rfl
  rw [u32CellsI] at g0
  rw [byteCellsI] at g1 g2
  obtain ⟨x0, e0, _, _⟩ := DataW.trod_int Try.underlying22 g0
  obtain ⟨x1, e1, _, _⟩ := DataW.trod_int Try.underlying5 g1
  obtain ⟨x2, e2, _, _⟩ := DataW.trod_int Try.underlying5 g2
  obtain ⟨ia, il, ic, its, e3, hil, hits, him⟩ := open_itemsI f1 (wf 1 _ _ rfl rfl)
  obtain ⟨wa, wl, wc, ws, e4, hws, hwl⟩ := open_intsI f2 (wf 2 _ _ rfl rfl)
  obtain ⟨ga, gl, gc, gs, e5, hgs, hgl⟩ := open_intsI f3 (wf 3 _ _ rfl rfl)
  obtain ⟨sa, sl, sc, ss, e6, hss, hsl⟩ := open_intsI f4 (wf 4 _ _ rfl rfl)
  simp at e0 e1 e2
  refine ⟨⟨x0, x1, x2, ia, il, ic, its, wa, wl, wc, ws, ga, gl, gc, gs, sa, sl, sc, ss⟩, ?_, ⟨hits, hil, hws, hgs, hss⟩, him, hwl, hgl, hsl⟩
  have e : cs = #[.int .u32 x0, .int .u8 x1, .int .u8 x2, .slice ia il ic, .slice wa wl wc, .slice ga gl gc, .slice sa sl sc] := Array.toList_inj.1 (by rw [hcs, e0, e1, e2, e3, e4, e5, e6])
  rw [e]
  rfl
end Go.Proofs.Ytmcbgpjphjacjaa
