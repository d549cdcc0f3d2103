/-
  TopRestores: for every input the law returns true, and each argument reads behind the call as it read before, where the listed variables hold what the program's text lays: the tied card.
-/
import Derived.Test.YtafmnkngjjnpiaaGreatDoorRows
import Derived.Test.YtafmnkngjjnpiaaGreatDoorCards
import Derived.Test.YtafmnkngjjnpiaaGreatDoorTie
import Derived.Test.YtafmnkngjjnpiaaGreatDoorTrJ
import Derived.Test.YtafmnkngjjnpiaaGreatDoorTvD
import Derived.Test.YtafmnkngjjnpiaaGreatDoorTqT
import Derived.Test.YtafmnkngjjnpiaaGreatDoorWldC
import Derived.Below
import Derived.ProofKit
import Derived.OpenShut
import Derived.ShutString
import Derived.ChangeOld
import Derived.SizedLaws
import Derived.SevenTiedAt
import Derived.Lib.LaidU8
import Derived.LaidHandle
import Derived.Lay
import Derived.LaidLaws
import Derived.Deep.Slices
namespace Go.Proofs.YtafmnkngjjnpiaaGreatDoor
set_option maxRecDepth 100000
set_option linter.unusedVariables false
set_option linter.unusedSimpArgs false
open Go.ChangeShapes Go.WideShapes Go.ChangeAt Go.RowKit
theorem trod_floatI {H : Type} {enc : TypeId × Value → H} {P : Program} {w : World} {base : Nat} {spare : Nat → Bool} {held : Bool} {fuel : Nat} {t : TypeId} {k : FloatKind} {cs : List Value} {x : DataW H × List MemPlace} (ht : P.underlying t = some (.float k)) (h : DataW.trod enc P w base (fun _ => true) held fuel t cs = some x) : ∃ n, cs = [.float k n] ∧ (Lit.float k n).wf = true := by
  cases fuel with
  | zero => simp [DataW.trod] at h
  | succ n =>
    unfold DataW.trod at h
    rw [ht] at h
    split at h <;> simp_all
theorem weights_mem_allI {H : Type} {P : Program} {e : TypeId} : ∀ {ds : List (DataW H)} {d : DataW H}, d ∈ ds → ∀ n ∈ d.weights P e, n ∈ DataW.weightsAll P e ds
  | [], _, h, _, _ => by cases h
  | y :: r, d, h, n, hn => by
    simp only [DataW.weightsAll, List.mem_append]
    rcases List.mem_cons.1 h with rfl | h
    · exact Or.inl hn
    · exact Or.inr (weights_mem_allI h n hn)
theorem bytesOfI1 : Tryz.prog.bytesOf 5 = 1 := by kernel_rfl
theorem byteCellsI : Tryz.prog.cellsOf 5 = 1 := by kernel_rfl
theorem bytesCellsI : Tryz.prog.cellsOf 22 = 1 := by kernel_rfl
theorem intCellsI : Tryz.prog.cellsOf 3 = 1 := by kernel_rfl
theorem floatCellsI : Tryz.prog.cellsOf 98 = 1 := by kernel_rfl
theorem itemCellsI : Tryz.prog.cellsOf 100 = 4 := by kernel_rfl
theorem open_rowI {H : Type} {enc : TypeId × Value → H} {w : World} {base : Nat} {held : Bool} {fuel : Nat} {v : Value} {x : DataW H × List MemPlace}
    (h : DataW.trod enc Tryz.prog w base (fun _ => true) held fuel 22 [v] = some x) (hw : ∀ n ∈ x.1.weights Tryz.prog 22, n ≤ reachBytes) : ∃ ao m cap zs, v = .slice ao m cap ∧ IsRow .u8 w ao m cap zs ∧ m ≤ reachBytes := by
  rcases open_ints Tryz.underlying22 Tryz.underlying5 byteCellsI h with ⟨h1, _⟩ | ⟨a, len, cap, zs, h1, _, hl, hm, hz, hx, hcell, hwz⟩
  · simp only [List.cons.injEq, and_true] at h1
    exact ⟨none, 0, 0, [], h1, .inl ⟨rfl, rfl, rfl, rfl⟩, Nat.zero_le _⟩
  · simp only [List.cons.injEq, and_true] at h1
    refine ⟨_, _, _, zs, h1, .inr ⟨_, rfl, hl, hm, by simpa using hz, hcell, hwz⟩, ?_⟩
    have hz' : zs.length = cap := by simpa using hz
    have := hw (((lits .u8 (zs.take len) : List (DataW H)).length + (lits .u8 (zs.drop len) : List (DataW H)).length) * Tryz.prog.bytesOf 5) (by rw [hx]; simp [DataW.weights, Tryz.underlying22])
    rw [bytesOfI1] at this
    simp [lits] at this
    omega
theorem fourI {α : Type} {xs : List α} (h : xs.length = 4) : ∃ a b c d, xs = [a, b, c, d] := by
  match xs, h with
  | [a, b, c, d], _ => exact ⟨a, b, c, d, rfl⟩
instance : Inhabited ItD := ⟨⟨0, 0, 0, none, 0, 0, []⟩⟩
theorem open_intsI {H : Type} {enc : TypeId × Value → H} {w : World} {base : Nat} {held : Bool} {fuel : Nat} {v : Value} {x : DataW H × List MemPlace}
    (h : DataW.trod enc Tryz.prog w base (fun _ => true) held fuel 38 [v] = some x) (hw : ∀ n ∈ x.1.weights Tryz.prog 38, n ≤ reachBytes) : ∃ ao m cap zs, v = .slice ao m cap ∧ IsRow .i64 w ao m cap zs ∧ m ≤ reachBytes := by
  rcases open_ints Tryz.underlying38 Tryz.underlying3 intCellsI h with ⟨h1, _⟩ | ⟨a, len, cap, zs, h1, _, hl, hm, hz, hx, hcell, hwz⟩
  · simp only [List.cons.injEq, and_true] at h1
    exact ⟨none, 0, 0, [], h1, .inl ⟨rfl, rfl, rfl, rfl⟩, Nat.zero_le _⟩
  · simp only [List.cons.injEq, and_true] at h1
    refine ⟨_, _, _, zs, h1, .inr ⟨_, rfl, hl, hm, by simpa using hz, hcell, hwz⟩, ?_⟩
    have hz' : zs.length = cap := by simpa using hz
    have := hw (((lits .i64 (zs.take len) : List (DataW H)).length + (lits .i64 (zs.drop len) : List (DataW H)).length) * Tryz.prog.bytesOf 3) (by rw [hx]; simp [DataW.weights, Tryz.underlying38])
    rw [show Tryz.prog.bytesOf 3 = 8 by kernel_rfl] at this
    simp [lits] at this
    omega
theorem planCellsI : Tryz.prog.cellsOf 74 = 7 := by kernel_rfl
theorem attrsCellsI : Tryz.prog.cellsOf 71 = 3 := by kernel_rfl
theorem itemsCellsI : Tryz.prog.cellsOf 72 = 1 := by kernel_rfl
theorem intsCellsI : Tryz.prog.cellsOf 38 = 1 := by kernel_rfl
theorem u32CellsI : Tryz.prog.cellsOf 69 = 1 := by kernel_rfl
theorem sevenI {α : Type} {xs : List α} (h : xs.length = 7) : ∃ a b c d e f g, xs = [a, b, c, d, e, f, g] := by
  match xs, h with
  | [a, b, c, d, e, f, g], _ => exact ⟨a, b, c, d, e, f, g, rfl⟩
theorem fiveI {α : Type} {xs : List α} (h : xs.length = 5) : ∃ a b c d e, xs = [a, b, c, d, e] := by
  match xs, h with
  | [a, b, c, d, e], _ => exact ⟨a, b, c, d, e, rfl⟩
theorem threeI {α : Type} {xs : List α} (h : xs.length = 3) : ∃ a b c, xs = [a, b, c] := by
  match xs, h with
  | [a, b, c], _ => exact ⟨a, b, c, rfl⟩
end Go.Proofs.YtafmnkngjjnpiaaGreatDoor

namespace Go.Proofs.YtafmnkngjjnpiaaGreatDoor
set_option maxRecDepth 100000
set_option linter.unusedVariables false
set_option linter.unusedSimpArgs false
open Go.ChangeShapes Go.WideShapes Go.ChangeAt Go.RowKit
open Go.ChangeMaps (open_string shut_string)
def GoodI (y : ItD) : Prop := y.m ≤ reachBytes ∧ i64R y.n ∧ ByR (y.zs.take y.m)
theorem wf_u8 {n : Int} (h : (Lit.int .u8 n).wf = true) : 0 ≤ n ∧ n < 256 := by
  unfold Lit.wf at h
  rw [Bool.and_eq_true] at h
  have h1 := of_decide_eq_true h.1
  have h2 := of_decide_eq_true h.2
  have e1 : IntKind.u8.min = 0 := by decide
  have e2 : IntKind.u8.max = 255 := by decide
  omega
theorem row_bytes {w : World} {a : Option Addr} {len cap : Nat} {zs : List Int} (h : IsRow .u8 w a len cap zs) : ByR (zs.take len) := by
  intro x hx
  rcases h with ⟨_, _, _, rfl⟩ | ⟨_, _, _, _, _, _, hz⟩
  · simp at hx
  · exact wf_u8 (hz x (List.mem_of_mem_take hx))
theorem open_itemW {H : Type} {enc : TypeId × Value → H} {w : World} {base : Nat} {held : Bool} {fuel : Nat} {a : Addr} {cs : List Value} {x : DataW H × List MemPlace}
    (hc : w.cells? base a 4 = some cs) (h : DataW.trod enc Tryz.prog w base (fun _ => true) held fuel 100 cs = some x) (hw : ∀ n ∈ x.1.weights Tryz.prog 100, n ≤ reachBytes) :
    a.spot = none ∧ ∃ y : ItD, y.at w a.block a.off ∧ GoodI y := by
  obtain ⟨_, hlen, hcell⟩ := World.cells?_some hc
  obtain ⟨c0, c1, c2, c3, rfl⟩ := fourI hlen
  obtain ⟨xs, n, _, hxe, _, hxl, hf⟩ := DataW.trod_struct Tryz.underlying100 h
  have hxl' : xs.length = 4 := hxl
  obtain ⟨y0, y1, y2, y3, rfl⟩ := fourI hxl'
  have f0 : DataW.trod enc Tryz.prog w base (fun _ => true) held n 98 (([c0, c1, c2, c3].drop 0).take (Tryz.prog.cellsOf 98)) = some y0 := hf 0 _ rfl
  have f1 : DataW.trod enc Tryz.prog w base (fun _ => true) held n 3 (([c0, c1, c2, c3].drop 1).take (Tryz.prog.cellsOf 3)) = some y1 := hf 1 _ rfl
  have f2 : DataW.trod enc Tryz.prog w base (fun _ => true) held n 3 (([c0, c1, c2, c3].drop 2).take (Tryz.prog.cellsOf 3)) = some y2 := hf 2 _ rfl
  have f3 : DataW.trod enc Tryz.prog w base (fun _ => true) held n 22 (([c0, c1, c2, c3].drop 3).take (Tryz.prog.cellsOf 22)) = some y3 := hf 3 _ rfl
  rw [floatCellsI] at f0
  rw [intCellsI] at f1 f2
  rw [bytesCellsI] at f3
  obtain ⟨x0, e0, hx0⟩ := trod_floatI (spare := fun _ => true) Tryz.underlying98 f0
  obtain ⟨x1, e1, _, _⟩ := DataW.trod_int Tryz.underlying3 f1
  obtain ⟨x2, e2, _, hw2⟩ := DataW.trod_int Tryz.underlying3 f2
  have hw3 : ∀ k ∈ y3.1.weights Tryz.prog 22, k ≤ reachBytes := fun k hk => by
    refine hw k ?_
    rw [hxe]
    simp only [DataW.weights, Tryz.underlying100]
    exact DataW.weights_mem_each (j := 3) (t := 22) (d := y3.1) rfl rfl k hk
  obtain ⟨ao, m, cap, zs, e3, hr, hmr⟩ := open_rowI f3 hw3
  simp at e0 e1 e2
  subst e0 e1 e2 e3
  have g0 := hcell 0 (by omega)
  have hsp := World.cell?_spot g0
  obtain ⟨bl, off, spot⟩ := a
  have hs : spot = none := by simpa [Addr.add] using hsp
  subst hs
  have g : ∀ i, i < 4 → w.cell? ⟨bl, off + i, none⟩ = [Value.float .f64 x0, .int .i64 x1, .int .i64 x2, .slice ao m cap][i]? := fun i hi => by
    have := hcell i hi; rwa [Addr.add_lit] at this
  exact ⟨rfl, ⟨x0, x1, x2, ao, m, cap, zs⟩, ⟨g 0 (by omega), g 1 (by omega), g 2 (by omega), g 3 (by omega), hr.row, by unfold Wd; simpa [Lit.wf] using hx0⟩, hmr, wf_i64 hw2, row_bytes hr⟩
theorem open_itemsW {H : Type} {enc : TypeId × Value → H} {w : World} {base : Nat} {held : Bool} {fuel : Nat} {v : Value} {x : DataW H × List MemPlace}
    (hf : DataW.trod enc Tryz.prog w base (fun _ => true) held fuel 72 [v] = some x) (hw : ∀ n ∈ x.1.weights Tryz.prog 72, n ≤ reachBytes) :
    ∃ a len cap its, v = .slice a len cap ∧ len ≤ maxLen ∧ ItsAt w a len its ∧ ∀ y ∈ its, GoodI y := by
  rcases Go.Deep.open_slice Tryz.underlying72 hf with ⟨h1, _⟩ | ⟨ad, len, cap, m, n, D, Pl, h1, _, hl, hm, hmm, hxe, hx⟩
  · simp only [List.cons.injEq, and_true] at h1
    exact ⟨none, 0, 0, [], h1, Nat.zero_le _, ⟨rfl, fun h => absurd h (by omega)⟩, fun y hy => by cases hy⟩
  · simp only [List.cons.injEq, and_true] at h1
    have hmm' : m = cap := by simpa using hmm
    refine ⟨some ad, len, cap, ?_⟩
    rw [itemCellsI] at hx
    have hd : x.1 = .slice ((List.range len).map D) ((List.range (m - len)).map fun j => D (len + j)) := by rw [hxe]
    have each : ∀ i, i < len → (ad.add (i * 4)).spot = none ∧ ∃ y : ItD, y.at w (ad.add (i * 4)).block (ad.add (i * 4)).off ∧ GoodI y := fun i hi => by
      obtain ⟨cs', h1, h2⟩ := hx i (by omega)
      refine open_itemW h1 h2 (fun k hk => hw k ?_)
      rw [hd]
      simp only [DataW.weights, Tryz.underlying72, List.mem_cons, List.mem_append]
      exact Or.inr (Or.inl (weights_mem_allI (List.mem_map.2 ⟨i, List.mem_range.2 hi, rfl⟩) k hk))
    by_cases h0 : len = 0
    · exact ⟨[], h1, by omega, ⟨by simp [h0], fun h => absurd h (by omega)⟩, fun x hx => by cases hx⟩
    · obtain ⟨bl, off, spot⟩ := ad
      have hs : spot = none := by have := (each 0 (by omega)).1; simpa [Addr.add] using this
      subst hs
      obtain ⟨f, hf⟩ := Go.Deep.choose_lt (α := ItD) (p := fun i y => y.at w bl (off + i * 4) ∧ GoodI y) (n := len) (fun i hi => by
        have := (each i hi).2; rwa [Addr.add_lit] at this)
      refine ⟨(List.range len).map f, h1, by omega, ⟨by simp, fun _ => ⟨bl, off, rfl, fun k x hk => ?_⟩⟩, fun x hx => ?_⟩
      · simp only [List.getElem?_map, Option.map_eq_some_iff] at hk
        obtain ⟨j, hj, rfl⟩ := hk
        obtain ⟨hlt, rfl⟩ := List.getElem?_eq_some_iff.1 hj
        simp at hlt
        rw [List.getElem_range]
        exact (hf k hlt).1
      · obtain ⟨j, hj, rfl⟩ := List.mem_map.1 hx
        exact (hf j (List.mem_range.1 hj)).2
set_option maxRecDepth 100000 in
theorem open_planW {H : Type} {enc : TypeId × Value → H} {w : World} {r : Reach} {b0 : Nat} {held : Bool} {v : Value} {d : DataW H} {p : List MemPlace}
    (hval : Value.okWide Tryz.prog w r b0 74 v) (h : DataW.Trod enc Tryz.prog w 0 (fun _ => true) held 74 v d p) (hw : ∀ n ∈ d.weights Tryz.prog 74, n ≤ reachBytes) :
    ∃ q : PlanD, v = .agg q.cells ∧ q.At w ∧ (∀ y ∈ q.its, GoodI y) ∧ q.wl ≤ reachBytes ∧ q.gl ≤ reachBytes ∧ q.sl ≤ reachBytes := by
  obtain ⟨cs, rfl, hsz⟩ := okWide_struct Tryz.underlying74 hval
  obtain ⟨fuel, hf⟩ := h
  rw [planCellsI] at hsz
  obtain ⟨c0, c1, c2, c3, c4, c5, c6, hcs⟩ := sevenI (show cs.toList.length = 7 by simpa using hsz)
  have hf' : DataW.trod enc Tryz.prog w 0 (fun _ => true) held fuel 74 [c0, c1, c2, c3, c4, c5, c6] = some (d, p) := by rw [← hcs]; exact hf
  obtain ⟨xs, n, _, hxe, _, hxl, hF⟩ := DataW.trod_struct Tryz.underlying74 hf'
  obtain ⟨y0, y1, y2, y3, y4, rfl⟩ := fiveI (show xs.length = 5 from hxl)
  have f0 : DataW.trod enc Tryz.prog w 0 (fun _ => true) held n 71 (([c0, c1, c2, c3, c4, c5, c6].drop 0).take (Tryz.prog.cellsOf 71)) = some y0 := hF 0 _ rfl
  have f1 : DataW.trod enc Tryz.prog w 0 (fun _ => true) held n 72 (([c0, c1, c2, c3, c4, c5, c6].drop 3).take (Tryz.prog.cellsOf 72)) = some y1 := hF 1 _ rfl
  have f2 : DataW.trod enc Tryz.prog w 0 (fun _ => true) held n 38 (([c0, c1, c2, c3, c4, c5, c6].drop 4).take (Tryz.prog.cellsOf 38)) = some y2 := hF 2 _ rfl
  have f3 : DataW.trod enc Tryz.prog w 0 (fun _ => true) held n 38 (([c0, c1, c2, c3, c4, c5, c6].drop 5).take (Tryz.prog.cellsOf 38)) = some y3 := hF 3 _ rfl
  have f4 : DataW.trod enc Tryz.prog w 0 (fun _ => true) held n 38 (([c0, c1, c2, c3, c4, c5, c6].drop 6).take (Tryz.prog.cellsOf 38)) = some y4 := hF 4 _ rfl
  rw [attrsCellsI] at f0
  rw [itemsCellsI] at f1
  rw [intsCellsI] at f2 f3 f4
  have hd : d = .agg [y0.1, y1.1, y2.1, y3.1, y4.1] := by simpa using (Prod.mk.inj hxe).1
  have wf : ∀ (j : Nat) (t : TypeId) (y : DataW H), [71, 72, 38, 38, 38][j]? = some t → [y0.1, y1.1, y2.1, y3.1, y4.1][j]? = some y → ∀ k ∈ y.weights Tryz.prog t, k ≤ reachBytes := fun j t y h1 h2 k hk => by
    refine hw k ?_
    rw [hd]
    simp only [DataW.weights, Tryz.underlying74]
    exact DataW.weights_mem_each (j := j) (t := t) (d := y) h1 h2 k hk
  obtain ⟨zs, m, _, _, _, hzl, hG⟩ := DataW.trod_struct Tryz.underlying71 f0
  obtain ⟨z0, z1, z2, rfl⟩ := threeI (show zs.length = 3 from hzl)
  have g0 : DataW.trod enc Tryz.prog w 0 (fun _ => true) held m 69 (((([c0, c1, c2, c3, c4, c5, c6].drop 0).take 3).drop 0).take (Tryz.prog.cellsOf 69)) = some z0 := hG 0 _ rfl
  have g1 : DataW.trod enc Tryz.prog w 0 (fun _ => true) held m 5 (((([c0, c1, c2, c3, c4, c5, c6].drop 0).take 3).drop 1).take (Tryz.prog.cellsOf 5)) = some z1 := hG 1 _ rfl
  have g2 : DataW.trod enc Tryz.prog w 0 (fun _ => true) held m 5 (((([c0, c1, c2, c3, c4, c5, c6].drop 0).take 3).drop 2).take (Tryz.prog.cellsOf 5)) = some z2 := hG 2 _ rfl
  rw [u32CellsI] at g0
  rw [byteCellsI] at g1 g2
  obtain ⟨x0, e0, _, _⟩ := DataW.trod_int Tryz.underlying69 g0
  obtain ⟨x1, e1, _, _⟩ := DataW.trod_int Tryz.underlying5 g1
  obtain ⟨x2, e2, _, _⟩ := DataW.trod_int Tryz.underlying5 g2
  obtain ⟨ia, il, ic, its, e3, hil, hits, him⟩ := open_itemsW f1 (wf 1 _ _ rfl rfl)
  obtain ⟨wa, wl, wc, ws, e4, hws, hwl⟩ := open_intsI f2 (wf 2 _ _ rfl rfl)
  obtain ⟨ga, gl, gc, gs, e5, hgs, hgl⟩ := open_intsI f3 (wf 3 _ _ rfl rfl)
  obtain ⟨sa, sl, sc, ss, e6, hss, hsl⟩ := open_intsI f4 (wf 4 _ _ rfl rfl)
  simp at e0 e1 e2
  refine ⟨⟨x0, x1, x2, ia, il, ic, its, wa, wl, wc, ws, ga, gl, gc, gs, sa, sl, sc, ss⟩, ?_, ⟨hits, hil, hws, hgs, hss⟩, him, hwl, hgl, hsl⟩
  have e : cs = #[.int .u32 x0, .int .u8 x1, .int .u8 x2, .slice ia il ic, .slice wa wl wc, .slice ga gl gc, .slice sa sl sc] := Array.toList_inj.1 (by rw [hcs, e0, e1, e2, e3, e4, e5, e6])
  rw [e]
  rfl
theorem askCellsW : Tryz.prog.cellsOf 76 = 3 := by kernel_rfl
theorem stringCellsW : Tryz.prog.cellsOf 9 = 1 := by kernel_rfl
theorem trod_stringW {H : Type} {enc : TypeId × Value → H} {w : World} {base : Nat} {held : Bool} {fuel : Nat} {v : Value} {x : DataW H × List MemPlace}
    (h : DataW.trod enc Tryz.prog w base (fun _ => true) held fuel 9 [v] = some x) : ∃ s : ByteArray, v = .string s ∧ x.1 = .lit (.string s.data.toList) := by
  obtain ⟨s, e, hx, _⟩ := DataW.trod_string Tryz.underlying9 h
  simp only [List.cons.injEq, and_true] at e
  exact ⟨s, e, by rw [hx]⟩
set_option maxRecDepth 100000 in
theorem open_askW {H : Type} {enc : TypeId × Value → H} {w : World} {r : Reach} {b0 : Nat} {held : Bool} {v : Value} {d : DataW H} {p : List MemPlace}
    (hval : Value.okWide Tryz.prog w r b0 76 v) (h : DataW.Trod enc Tryz.prog w 0 (fun _ => true) held 76 v d p) (hw : ∀ n ∈ d.weights Tryz.prog 76, n ≤ reachBytes) :
    ∃ (s : ByteArray) (mode room : Int), v = .agg #[.string s, .int .i64 mode, .int .i64 room] ∧ s.size ≤ reachBytes := by
  obtain ⟨cs, rfl, hsz⟩ := okWide_struct Tryz.underlying76 hval
  obtain ⟨fuel, hf⟩ := h
  rw [askCellsW] at hsz
  obtain ⟨c0, c1, c2, hcs⟩ := threeI (show cs.toList.length = 3 by simpa using hsz)
  have hf' : DataW.trod enc Tryz.prog w 0 (fun _ => true) held fuel 76 [c0, c1, c2] = some (d, p) := by rw [← hcs]; exact hf
  obtain ⟨xs, n, _, hxe, _, hxl, hF⟩ := DataW.trod_struct Tryz.underlying76 hf'
  obtain ⟨y0, y1, y2, rfl⟩ := threeI (show xs.length = 3 from hxl)
  have f0 : DataW.trod enc Tryz.prog w 0 (fun _ => true) held n 9 (([c0, c1, c2].drop 0).take (Tryz.prog.cellsOf 9)) = some y0 := hF 0 _ rfl
  have f1 : DataW.trod enc Tryz.prog w 0 (fun _ => true) held n 3 (([c0, c1, c2].drop 1).take (Tryz.prog.cellsOf 3)) = some y1 := hF 1 _ rfl
  have f2 : DataW.trod enc Tryz.prog w 0 (fun _ => true) held n 3 (([c0, c1, c2].drop 2).take (Tryz.prog.cellsOf 3)) = some y2 := hF 2 _ rfl
  rw [stringCellsW] at f0
  rw [intCellsI] at f1 f2
  have hd : d = .agg [y0.1, y1.1, y2.1] := by simpa using (Prod.mk.inj hxe).1
  obtain ⟨s, e0, k0⟩ := trod_stringW f0
  obtain ⟨m, e1, _, _⟩ := DataW.trod_int Tryz.underlying3 f1
  obtain ⟨q, e2, _, _⟩ := DataW.trod_int Tryz.underlying3 f2
  simp at e0 e1 e2
  refine ⟨s, m, q, ?_, ?_⟩
  · have e : cs = #[.string s, .int .i64 m, .int .i64 q] := Array.toList_inj.1 (by rw [hcs, e0, e1, e2])
    rw [e]
  · have := hw s.data.toList.length (by
      rw [hd]
      simp only [DataW.weights, Tryz.underlying76]
      refine DataW.weights_mem_each (j := 0) (t := 9) (d := y0.1) rfl rfl _ ?_
      rw [k0]
      simp [DataW.weights])
    simpa using this
end Go.Proofs.YtafmnkngjjnpiaaGreatDoor

namespace Go.Proofs.YtafmnkngjjnpiaaGreatDoor
set_option linter.unusedVariables false
set_option linter.unusedSimpArgs false
set_option maxRecDepth 100000
open Go.Lib
def tabsL : List (String × DataW Unit) := [("math/bits.deBruijn32tab", Rows.laid_math_bits_deBruijn32tab), ("math/bits.deBruijn64tab", Rows.laid_math_bits_deBruijn64tab), ("internal/strconv.uint64pow10", Rows.laid_internal_strconv_uint64pow10), ("unicode/utf8.acceptRanges", Rows.laid_unicode_utf8_acceptRanges), ("unicode/utf8.first", Rows.laid_unicode_utf8_first)]
def handL : List (String × DataW Unit) := [("errors.errorType", Rows.laid_errors_errorType)]
def laidL : List (String × DataW Unit) := [("math/bits.deBruijn32tab", Rows.laid_math_bits_deBruijn32tab), ("math/bits.deBruijn64tab", Rows.laid_math_bits_deBruijn64tab), ("internal/strconv.uint64pow10", Rows.laid_internal_strconv_uint64pow10), ("unicode/utf8.acceptRanges", Rows.laid_unicode_utf8_acceptRanges), ("errors.errorType", Rows.laid_errors_errorType), ("unicode/utf8.first", Rows.laid_unicode_utf8_first)]
theorem lg1 : Tryz.prog.globalNamed "unicode/utf8.first" = some 1 := by kernel_rfl
theorem lg2 : Tryz.prog.globalNamed "unicode/utf8.acceptRanges" = some 2 := by kernel_rfl
theorem lg3 : Tryz.prog.globalNamed "errors.errorType" = some 3 := by kernel_rfl
theorem lg4 : Tryz.prog.globalNamed "internal/strconv.uint64pow10" = some 4 := by kernel_rfl
theorem ly1 : (Tryz.prog.globals[1]?).map (·.type) = some 233 := by kernel_rfl
theorem ly2 : (Tryz.prog.globals[2]?).map (·.type) = some 236 := by kernel_rfl
theorem ly4 : (Tryz.prog.globals[4]?).map (·.type) = some 311 := by kernel_rfl
theorem ld1 : Rows.laid_unicode_utf8_first = tabData .u8 firstTab := by kernel_rfl
theorem ld2 : (Rows.laid_unicode_utf8_acceptRanges : DataW Unit) = acceptData := by kernel_rfl
theorem ld4 : (Rows.laid_internal_strconv_uint64pow10 : DataW Unit) = tabData .u64 pow10Tab := by kernel_rfl
theorem lc5 : Tryz.prog.cellsOf 5 = 1 := by kernel_rfl
theorem lc64 : Tryz.prog.cellsOf 211 = 1 := by kernel_rfl
theorem lc256 : Tryz.prog.cellsOf 233 = 256 := by kernel_rfl
theorem lc20 : Tryz.prog.cellsOf 311 = 20 := by kernel_rfl
theorem lc2 : Tryz.prog.cellsOf 235 = 2 := by kernel_rfl
theorem lrt : (Tryz.prog.cutTypes.find? (·.1 == "internal/reflectlite.rtype")).map (·.2) = some 275 := by kernel_rfl
theorem lone : ((List.range Tryz.prog.types.size).filter fun t => Tryz.prog.rowNamed t [101, 114, 114, 111, 114]) = [225] := by kernel_rfl
theorem utf8_laid {W : World} (h : laidMet Tryz.prog tabsL W) : Lib.Utf8Tabs 1 2 W := by
  have h3 : VarReads Tryz.prog W "unicode/utf8.first" Rows.laid_unicode_utf8_first := laidMet.reads h (by simp [tabsL])
  have h4 : VarReads Tryz.prog W "unicode/utf8.acceptRanges" Rows.laid_unicode_utf8_acceptRanges := laidMet.reads h (by simp [tabsL])
  refine ⟨fun c hc => ?_, fun i hi => ?_⟩
  · obtain ⟨g, t, cs, fuel, p, hg, hty, hvar, hd⟩ := h3
    obtain rfl := Option.some.inj (lg1.symm.trans hg)
    obtain rfl := Option.some.inj (ly1.symm.trans hty)
    rw [ld1] at hd
    have hcs := cells_of_tab Tryz.underlying233 Tryz.underlying5 lc5 lc256 hd
    have := World.var?_cell hg hvar c
    rw [this, ← Array.getElem?_toList, hcs]
    simp [firstTab, hc]
  · obtain ⟨g, t, cs, fuel, p, hg, hty, hvar, hd⟩ := h4
    obtain rfl := Option.some.inj (lg2.symm.trans hg)
    obtain rfl := Option.some.inj (ly2.symm.trans hty)
    rw [ld2] at hd
    obtain ⟨f2, d, q, hdi, he⟩ := array_elem Tryz.underlying236 hd i hi
    simp only [List.getElem?_map, List.getElem?_range hi, Option.map_some, Option.some.injEq] at hdi
    subst hdi
    rw [lc2] at he
    have hcs := ints_of_struct Tryz.underlying235 (fun j f hj => by
      match j, hj with
      | 0, hj => simp at hj; subst hj; exact ⟨Tryz.underlying5, rfl, lc5⟩
      | 1, hj => simp at hj; subst hj; exact ⟨Tryz.underlying5, rfl, lc5⟩
      | j + 2, hj => simp at hj) (by rw [lc2]; rfl) he
    have e0 := congrArg (·[0]?) hcs
    have e1 := congrArg (·[1]?) hcs
    simp only [List.getElem?_take, List.getElem?_drop] at e0 e1
    constructor
    · rw [World.var?_cell hg hvar (2 * i), ← Array.getElem?_toList]
      simpa [Nat.mul_comm] using e0
    · rw [World.var?_cell hg hvar (2 * i + 1), ← Array.getElem?_toList]
      simpa [Nat.mul_comm] using e1
theorem pow_laid {W : World} (h : laidMet Tryz.prog tabsL W) : TabBelow Tryz.prog 8 W "internal/strconv.uint64pow10" .u64 pow10Tab := by
  obtain ⟨g, t, cs, fuel, p, hg, hty, hvar, hd⟩ : VarReads Tryz.prog W "internal/strconv.uint64pow10" Rows.laid_internal_strconv_uint64pow10 := laidMet.reads h (by simp [tabsL])
  obtain rfl := Option.some.inj (lg4.symm.trans hg)
  obtain rfl := Option.some.inj (ly4.symm.trans hty)
  rw [ld4] at hd
  have hcs := cells_of_tab Tryz.underlying311 Tryz.underlying211 lc64 lc20 hd
  have hT : TabIs Tryz.prog W "internal/strconv.uint64pow10" .u64 pow10Tab := by
    unfold TabIs
    rw [hvar, ← hcs]
  intro w' hb
  unfold TabIs World.var? at hT ⊢
  rw [lg4] at hT ⊢
  simp only [Option.bind_some] at hT ⊢
  rw [hb.block 4 (by decide)]
  exact hT
theorem err_laid {W : World} (h : handlesMet Tryz.prog handL W) : W.cell? ⟨3, 0, none⟩ = some (.iface 275 (.agg #[.pointer (some ⟨8, 225, none⟩)])) := by
  obtain ⟨name, u, ty, e1, e2, e3, e4, e5⟩ := h _ (List.mem_singleton.2 rfl)
  have en : name = [101, 114, 114, 111, 114] := (Option.some.inj e1).symm
  subst en
  obtain rfl := Option.some.inj (lrt.symm.trans e2)
  have hm : ty ∈ (List.range Tryz.prog.types.size).filter fun t => Tryz.prog.rowNamed t [101, 114, 114, 111, 114] := List.mem_filter.2 ⟨List.mem_range.2 e3, e4⟩
  rw [lone] at hm
  obtain rfl := List.mem_singleton.1 hm
  have hh : typeHandle Tryz.prog 225 = .pointer (some ⟨8, 225, none⟩) := by kernel_rfl
  rw [hh] at e5
  simpa using World.var?_cell lg3 e5 0
theorem libT_laid {W : World} (h : laidMetH Tryz.prog laidL W) (h8 : 8 ≤ W.heap.size) : LibT W := by
  have h' : laidMet Tryz.prog tabsL W ∧ handlesMet Tryz.prog handL W := h
  exact ⟨utf8_laid h'.1, pow_laid h'.1, h8, err_laid h'.2⟩
noncomputable def handW (os : Os) : World :=
  let w0 := World.holding Tryz.prog os ⟨#[], #[], []⟩
  { w0 with heap := w0.heap.modify 3 fun
      | .cells _ t frozen => .cells #[.iface 275 (.agg #[.pointer (some ⟨8, 225, none⟩)])] t frozen
      | o => o }
noncomputable def laidW (os : Os) : World := (handW os).layVars Tryz.prog tabsL
theorem laidW_os (os : Os) : (laidW os).os = os := World.layVars_os _ _ _
theorem laidW_met (os : Os) (args : Array Value) : laidMetH Tryz.prog laidL ((laidW os).forCall (fun _ _ => 0) ⟨#[], args, []⟩).memory := by
  have e1 : (tabsL.filter fun x => (tabsL.map (·.1)).contains x.1) = tabsL := List.filter_eq_self.2 fun x hx => List.contains_iff_mem.2 (List.mem_map.2 ⟨x, hx, rfl⟩)
  have e2 : (tabsL.filter fun x => !(tabsL.map (·.1)).contains x.1) = [] := List.filter_eq_nil_iff.2 fun x hx => by rw [List.contains_iff_mem.2 (List.mem_map.2 ⟨x, hx, rfl⟩)]; simp
  have hd : laidMet Tryz.prog tabsL (laidW os) := laidMet_layVars (w0 := handW os) (tabsL.map (·.1)) [] (by rw [e1]; rfl) (by rw [e1]; kernel_rfl) (by rw [e1]; kernel_rfl) (by rw [e2]; exact LaidIn.none)
  exact laidMetH_of_parts (hd.of_heap (by simp [World.memory, World.forCall, Input.heap])) (by kernel_rfl)
end Go.Proofs.YtafmnkngjjnpiaaGreatDoor

namespace Go.Proofs.YtafmnkngjjnpiaaGreatDoor
set_option linter.unusedVariables false
set_option maxRecDepth 100000
theorem ownTop : ownKnob Tryz.prog.godebug = none := by kernel_rfl
theorem laidOutTop : laidOutB Tryz.prog = true := by kernel_rfl
theorem rowSeven : ((begin Tryz.prog (fun _ _ => 0) default).world.heap[7]?.bind Obj.row?).isSome = true := by kernel_rfl
theorem eightTop : Tryz.prog.globals.size = 8 := by kernel_rfl
theorem shape_eight {W : World} (h : W.ShapedOpen Tryz.prog) : 8 ≤ W.heap.size := by
  obtain ⟨⟨z, t⟩, hz⟩ := Option.isSome_iff_exists.1 rowSeven
  obtain ⟨cs, hc, _⟩ := h.1 7 z t (by rw [eightTop]; decide) hz
  have := (Array.getElem?_eq_some_iff.1 hc).1
  omega
theorem returns_laid {H : Type} {enc : TypeId × Value → H} {os : Os} {f : FuncId} {fn : Func} {s : ChangeSpec} (started : os.Started) (noInit : Tryz.prog.inits.idxOf? f = none) (hfn : Tryz.prog.funcs[f]? = some fn) (wargs : Array Value)
    (hok : Input.okWideB Tryz.prog ((laidW os).forCall (fun _ _ => 0) ⟨#[], wargs, []⟩) f ⟨#[], wargs, []⟩ = true)
    (hpre : s.preB enc Tryz.prog fn [] false ((laidW os).forCall (fun _ _ => 0) ⟨#[], wargs, []⟩).memory wargs 8 = true)
    (hsz : s.sizedB enc Tryz.prog fn false ((laidW os).forCall (fun _ _ => 0) ⟨#[], wargs, []⟩).memory wargs 8 = true)
    (hsh : ((laidW os).forCall (fun _ _ => 0) ⟨#[], wargs, []⟩).Shaped Tryz.prog)
    (contract : ∀ (W : World) (base : Nat) (args : Array Value) (ds gs : List (DataW H)) (before : List MemPlace),
      (∀ (j : Nat) t v, fn.params[j]? = some t → args[j]? = some v → Value.okWide Tryz.prog W .any base t v) →
      DataW.Whole enc Tryz.prog fn.params.toList s.vars false W args.toList ds gs before →
      (DataW.weightsEach Tryz.prog (fn.params.toList ++ s.plain.varTypes Tryz.prog) (ds ++ gs)).all (· ≤ reachBytes) = true → LibT W →
      Calls Tryz.prog f args W fun e W' => ∃ v, e = .returned v ∧ s.post enc Tryz.prog fn false true false false W args v W') :
    ReturnsInHanded {} Tryz.checked os f .any (fun w args => (s.pre enc Tryz.prog fn [] false w args ∧ laidMetH Tryz.prog laidL w) ∧ sizedMet enc Tryz.prog fn (OpenSpec.ofChange s) false w args) (s.post enc Tryz.prog fn false true false false) := by
  refine returnsInHanded_of_calls (C := Tryz.checked) ownTop started noInit
    (ChangeSpec.witness_shaped (enc := enc) (C := Tryz.checked) (os := os) (X := fun w _ => laidMetH Tryz.prog laidL w) false (laidW os) wargs 8 (laidW_os os) hsh hok hpre hsz (laidW_met os _)) ?_
  intro w tape i _ hso _ hin hpr hholds
  obtain ⟨_, _, _, fn', hfn', _, _, _, _, hval⟩ := hin
  have e : fn' = fn := Option.some.inj (hfn'.symm.trans hfn)
  subst e
  obtain ⟨⟨⟨ds, gs, before, hw, hc⟩, hx⟩, hz⟩ := hpr
  have hL : LibT (w.forCall tape i) := libT_laid (W := w.forCall tape i) (hx.of_heap (by rfl)) (shape_eight hso)
  refine (contract (w.forCall tape i) w.heap.size i.args ds gs before hval (DataW.Whole.of_heap (w' := w.forCall tape i) (by rfl) hw) (hz.weights hw) hL).mono fun e W' ⟨v, he, hp⟩ => ?_
  subst he
  exact ChangeSpec.post_blind hp
end Go.Proofs.YtafmnkngjjnpiaaGreatDoor

namespace Go.Proofs.YtafmnkngjjnpiaaGreatDoor
set_option maxRecDepth 100000
set_option linter.unusedVariables false
open Go.RowKit
theorem restores_walk (p : PlanD) (s : ByteArray) (mode room : Int) (w : World) (h : p.At w) (hg : ∀ y ∈ p.its, GoodI y) (hr : p.wl ≤ reachBytes ∧ p.gl ≤ reachBytes ∧ p.sl ≤ reachBytes) (hs : s.size ≤ reachBytes) (hL : LibT w) :
    Calls Tryz.prog 4 #[.agg p.cells, .agg #[.string s, .int .i64 mode, .int .i64 room]] w fun e w' => e = .returned (.bool true) ∧ Below w.heap.size w w' := by
  have i : InOk p s w := ⟨h, fun y hy => (hg y hy).1, hr, fun y hy => (hg y hy).2.1, fun y hy => (hg y hy).2.2, by unfold reachBytes at hs; omega, hL⟩
  have hB : ∀ {e : Ending} {w' : World}, e = .returned (.bool true) ∧ Chg [] w w' → e = .returned (.bool true) ∧ Below w.heap.size w w' := fun h => ⟨h.1, Chg.below (Below.refl _ _) h.2 (by simp) (Nat.le_refl _)⟩
  cases hR : rightB p s mode room with
  | false => exact (rest_not p s mode room w i hR).mono fun e w' h => hB h
  | true =>
    cases hok : okP p with
    | false => exact (rest_bad p s mode room w i hR hok).mono fun e w' h => hB h
    | true => exact (rest_ok p s mode room w i hR hok).mono fun e w' h => hB h
end Go.Proofs.YtafmnkngjjnpiaaGreatDoor

namespace Go.Proofs.YtafmnkngjjnpiaaGreatDoor
set_option maxRecDepth 100000
open Go.ChangeShapes Go.WideShapes Go.ChangeAt Go.RowKit
open Go.ChangeMaps (open_string shut_string)
set_option linter.unusedVariables false

set_option maxRecDepth 100000 in
theorem liftedTopRestores (os : Os) (started : os.Started) (H : Type) (enc : TypeId × Value → H) :
    ReturnsInHanded {} Tryz.checked os 4 .any (fun w args => (Rows.topRestoresSpec.pre enc Tryz.prog Tryz.f4 [] false w args ∧ laidMetH Tryz.prog laidL w) ∧ sizedMet enc Tryz.prog Tryz.f4 (OpenSpec.ofChange Rows.topRestoresSpec) false w args) (Rows.topRestoresSpec.post enc Tryz.prog Tryz.f4 false true false false) := by
  refine returns_laid started (by kernel_rfl) Tryz.func4 #[.agg #[.int .u32 0, .int .u8 0, .int .u8 0, .slice none 0 0, .slice none 0 0, .slice none 0 0, .slice none 0 0], .agg #[.string ⟨#[]⟩, .int .i64 0, .int .i64 0]] (by kernel_rfl) (by kernel_rfl) (by kernel_rfl) (World.shaped_of_ZipB (by kernel_rfl) (by kernel_rfl)) ?_
  intro W base args ds gs before hval0 hW hwt hL
  have hval : ∀ (j : Nat) t v, Tryz.f4.params[j]? = some t → args[j]? = some v → Value.okWide Tryz.prog W .any base t v := hval0
  have hW' := hW
  obtain ⟨p, q, hA0, hV, rfl, hfz, hnd⟩ := hW
  have hA : DataW.TrodAll enc Tryz.prog W 0 (fun _ => true) true Tryz.f4.params.toList args.toList ds p := hA0
  rw [Tryz.params4] at hA hval
  obtain ⟨v0, vs0, d0, ds0, p0, q0, hargs, rfl, rfl, h0, r0⟩ := trodAll_cons hA
  obtain ⟨v1, vs1, d1, ds1, p1, q1, rfl, rfl, rfl, h1, r1⟩ := trodAll_cons r0
  obtain ⟨rfl, rfl, rfl⟩ := trodAll_nil r1
  obtain rfl : args = #[v0, v1] := by cases args; simp_all
  obtain ⟨rfl, rfl⟩ := trodVars_none hV
  have k0 := h0
  have lt0 : ∀ x ∈ p0, x.block < W.heap.size := by obtain ⟨m, hm⟩ := k0; exact DataW.trod_lt m _ _ _ hm
  have hw0 : ∀ n ∈ d0.weights Tryz.prog 74, n ≤ reachBytes := fun n hn => by
    have := List.all_eq_true.1 hwt n (DataW.weights_mem_each (j := 0) (t := 74) (d := d0) rfl rfl n hn)
    simpa using this
  obtain ⟨a0, rfl, z0, w0, u0⟩ := open_planW (hval 0 74 v0 rfl rfl) h0 hw0
  have k1 := h1
  have lt1 : ∀ x ∈ p1, x.block < W.heap.size := by obtain ⟨m, hm⟩ := k1; exact DataW.trod_lt m _ _ _ hm
  have hw1 : ∀ n ∈ d1.weights Tryz.prog 76, n ≤ reachBytes := fun n hn => by
    have := List.all_eq_true.1 hwt n (DataW.weights_mem_each (j := 1) (t := 76) (d := d1) rfl rfl n hn)
    simpa using this
  obtain ⟨s1, m1, r1', rfl, y1⟩ := open_askW (hval 1 76 v1 rfl rfl) h1 hw1
  clear hA0 hval0
  refine (restores_walk a0 s1 m1 r1' W z0 w0 u0 y1 hL).mono fun e W' ⟨he, bel⟩ => ?_
  subst he
  exact ⟨_, rfl, _, _, _, [], _, [], hW', trodAll_mk1 (shut_bool Tryz.underlying4 _), (trodAll_cons_mk (Below.trod laidOutTop (by kernel_rfl) (of_decide_eq_true (by kernel_rfl)) k0 bel lt0) (trodAll_cons_mk (Below.trod laidOutTop (by kernel_rfl) (of_decide_eq_true (by kernel_rfl)) k1 bel lt1) trodAll_mk0)), rfl, bel.frame _, fun h => by cases h⟩

theorem topRestores_said : Rows.TopRestoresSaid :=
  OpenClaim.holds_of_wide 4 Tryz.f4 rfl rfl rfl rfl rfl rfl rfl ⟨rfl, rfl, rfl, rfl, rfl⟩ rfl rfl rfl rfl rfl (by kernel_rfl) Tryz.func4 (by kernel_rfl)
    (of_decide_eq_true (by kernel_rfl)) (by unfold Func.isWrapper; first | (rw [if_pos (by decide +kernel)]; kernel_rfl) | (rw [if_neg (by decide +kernel)]; exact ⟨rfl, rfl⟩))
    (fun os started H enc _ => liftedTopRestores os started H enc)

theorem topRestores_holds : Rows.TopRestoresCardSaid :=
  Claim7.holds_tied_plain_at .later [] [.data, .data, .data, .data, .handle, .pinned] true (true, "744e2b15491edefd714e0d1c5bc317004408576da473cd53720dd03cfc504c08") true
    topRestores_said (fun _ h => by cases h) (by kernel_rfl) (fun _ h => by cases h) topRestores_row_tie rfl ⟨rfl, rfl⟩ (by kernel_rfl) rfl
    (fun f fn hf hfn => by
      obtain rfl : f = 4 := Option.some.inj ((show Tryz.prog.funcNamed "whisperer/whisperertop.TopRestores" = some 4 by kernel_rfl).symm.trans hf) |>.symm
      obtain rfl : fn = Tryz.f4 := (Option.some.inj (Tryz.func4.symm.trans hfn)).symm
      have w0 : Tryz.prog.wantsStandIn 74 = false := by kernel_rfl
      have w1 : Tryz.prog.wantsStandIn 76 = false := by kernel_rfl
      exact ⟨by kernel_rfl, fun j t ht => by
        rw [Tryz.params4] at ht
        match j with
        | 0 => simp at ht; subst ht; exact w0
        | 1 => simp at ht; subst ht; exact w1
        | j + 2 => simp at ht⟩)
    (by kernel_rfl)
#print axioms topRestores_holds
end Go.Proofs.YtafmnkngjjnpiaaGreatDoor
