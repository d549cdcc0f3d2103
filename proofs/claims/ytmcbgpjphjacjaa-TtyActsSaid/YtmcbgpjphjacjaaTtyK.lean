/-
  Layer 17: the law's acts, opened with their reach; great.
-/
import Derived.Test.YtmcbgpjphjacjaaWldPl
import Derived.Test.YtmcbgpjphjacjaaTtyO
namespace Go.Proofs.Ytmcbgpjphjacjaa
set_option linter.unusedVariables false
set_option linter.unusedSimpArgs false
set_option maxRecDepth 100000
open Go.ChangeShapes Go.WideShapes Go.ChangeAt Go.RowKit

/-- An act: its kind, its attributes, its bytes' slice and all that it leads to. -/
structure ActT where
  kind : Int
  A : At3
  ao : Option Addr
  m : Nat
  cap : Nat
  zs : List Int
  deriving Inhabited

def ActT.at (x : ActT) (w : World) (bl off : Nat) : Prop :=
  w.cell? ⟨bl, off, none⟩ = some (.int .i64 x.kind) ∧ w.cell? ⟨bl, off + 1, none⟩ = some (.int .u32 x.A.fl) ∧ w.cell? ⟨bl, off + 2, none⟩ = some (.int .u8 x.A.mn) ∧ w.cell? ⟨bl, off + 3, none⟩ = some (.int .u8 x.A.tm) ∧ w.cell? ⟨bl, off + 4, none⟩ = some (.slice x.ao x.m x.cap) ∧ IsRow .u8 w x.ao x.m x.cap x.zs

def ActsT (w : World) (a : Option Addr) (len : Nat) (l : List ActT) : Prop :=
  l.length = len ∧ (0 < len → ∃ bl off, a = some ⟨bl, off, none⟩ ∧ ∀ (k : Nat) (x : ActT), l[k]? = some x → x.at w bl (off + k * 5))

theorem ActT.at.chg {w w' : World} {bl off : Nat} {x : ActT} (h : x.at w bl off) (c : Chg [] w w') : x.at w' bl off := by
  obtain ⟨h0, h1, h2, h3, h4, hr⟩ := h
  exact ⟨c.cell h0 (by simp), c.cell h1 (by simp), c.cell h2 (by simp), c.cell h3 (by simp), c.cell h4 (by simp), hr.chg0 c⟩

theorem ActsT.chg {w w' : World} {a : Option Addr} {len : Nat} {l : List ActT} (h : ActsT w a len l) (c : Chg [] w w') : ActsT w' a len l :=
  ⟨h.1, fun h0 => by obtain ⟨bl, off, e, hx⟩ := h.2 h0; exact ⟨bl, off, e, fun k x hk => (hx k x hk).chg c⟩⟩

theorem ActsT.get {w : World} {a : Option Addr} {len : Nat} {l : List ActT} (h : ActsT w a len l) {k : Nat} (hk : k < len) :
    ∃ bl off x, a = some ⟨bl, off, none⟩ ∧ l[k]? = some x ∧ x.at w bl (off + k * 5) := by
  obtain ⟨bl, off, e, hx⟩ := h.2 (by omega)
  have hl := h.1
  have : l[k]? = some (l[k]'(by omega)) := List.getElem?_eq_getElem (by omega)
  exact ⟨bl, off, _, e, this, hx k _ this⟩

theorem actTCells : Try.prog.cellsOf 67 = 5 := by kernel_rfl

theorem open_actT {H : Type} {enc : TypeId × Value → H} {w : World} {base : Nat} {held : Bool} {fuel : Nat} {a : Addr} {cs : List Value} {x : DataW H × List MemPlace}
    (hc : w.cells? base a 5 = some cs) (h : DataW.trod enc Try.prog w base (fun _ => true) held fuel 67 cs = some x) (hw : ∀ n ∈ x.1.weights Try.prog 67, n ≤ reachBytes) :
    a.spot = none ∧ ∃ y : ActT, y.at w a.block a.off ∧ y.m ≤ reachBytes := by
  obtain ⟨_, hlen, hcell⟩ := World.cells?_some hc
  obtain ⟨c0, c1, c2, c3, c4, rfl⟩ := fiveI hlen
  obtain ⟨xs, n, _, hxe, _, hxl, hf⟩ := DataW.trod_struct Try.underlying67 h
  obtain ⟨y0, y1, y2, rfl⟩ := threeI (show xs.length = 3 from hxl)
  have f0 : DataW.trod enc Try.prog w base (fun _ => true) held n 3 (([c0, c1, c2, c3, c4].drop 0).take (Try.prog.cellsOf 3)) = some y0 := hf 0 _ rfl
  have f1 : DataW.trod enc Try.prog w base (fun _ => true) held n 24 (([c0, c1, c2, c3, c4].drop 1).take (Try.prog.cellsOf 24)) = some y1 := hf 1 _ rfl
  have f2 : DataW.trod enc Try.prog w base (fun _ => true) held n 42 (([c0, c1, c2, c3, c4].drop 4).take (Try.prog.cellsOf 42)) = some y2 := hf 2 _ rfl
  rw [intCellsI] at f0
  rw [attrsCellsI] at f1
  rw [bytesCellsI] at f2
  obtain ⟨x0, e0, _, _⟩ := DataW.trod_int Try.underlying3 f0
  obtain ⟨zs, m, _, _, _, hzl, hG⟩ := DataW.trod_struct Try.underlying24 f1
  obtain ⟨z0, z1, z2, rfl⟩ := threeI (show zs.length = 3 from hzl)
  have g0 : DataW.trod enc Try.prog w base (fun _ => true) held m 22 (((([c0, c1, c2, c3, c4].drop 1).take 3).drop 0).take (Try.prog.cellsOf 22)) = some z0 := hG 0 _ rfl
  have g1 : DataW.trod enc Try.prog w base (fun _ => true) held m 5 (((([c0, c1, c2, c3, c4].drop 1).take 3).drop 1).take (Try.prog.cellsOf 5)) = some z1 := hG 1 _ rfl
  have g2 : DataW.trod enc Try.prog w base (fun _ => true) held m 5 (((([c0, c1, c2, c3, c4].drop 1).take 3).drop 2).take (Try.prog.cellsOf 5)) = some z2 := hG 2 _ rfl
  rw [u32CellsI] at g0
  rw [byteCellsI] at g1 g2
  obtain ⟨x1, e1, _, _⟩ := DataW.trod_int Try.underlying22 g0
  obtain ⟨x2, e2, _, _⟩ := DataW.trod_int Try.underlying5 g1
  obtain ⟨x3, e3, _, _⟩ := DataW.trod_int Try.underlying5 g2
  have hw4 : ∀ k ∈ y2.1.weights Try.prog 42, k ≤ reachBytes := fun k hk => by
    refine hw k ?_
    rw [hxe]
    simp only [DataW.weights, Try.underlying67]
    exact DataW.weights_mem_each (j := 2) (t := 42) (d := y2.1) rfl rfl k hk
  obtain ⟨ao, mm, cap, bs, e4, hr, hmr⟩ := open_rowI f2 hw4
  simp at e0 e1 e2 e3
  subst e0 e1 e2 e3 e4
  have g0 := hcell 0 (by omega)
  have hsp := World.cell?_spot g0
  obtain ⟨bl, off, spot⟩ := a
  have hs : spot = none := by simpa [Addr.add] using hsp
  subst hs
  have g : ∀ i, i < 5 → w.cell? ⟨bl, off + i, none⟩ = [Value.int .i64 x0, .int .u32 x1, .int .u8 x2, .int .u8 x3, .slice ao mm cap][i]? := fun i hi => by
    have := hcell i hi; rwa [Addr.add_lit] at this
  exact ⟨rfl, ⟨x0, ⟨x1, x2, x3⟩, ao, mm, cap, bs⟩, ⟨g 0 (by omega), g 1 (by omega), g 2 (by omega), g 3 (by omega), g 4 (by omega), hr⟩, hmr⟩

theorem open_actsT {H : Type} {enc : TypeId × Value → H} {w : World} {held : Bool} {a : Option Addr} {len cap : Nat} {d : DataW H} {p : List MemPlace}
    (h : DataW.Trod enc Try.prog w 0 (fun _ => true) held 62 (.slice a len cap) d p) (hw : ∀ n ∈ d.weights Try.prog 62, n ≤ reachBytes) :
    len ≤ maxLen ∧ ∃ acts, ActsT w a len acts ∧ ∀ x ∈ acts, x.m ≤ 140737488355328 := by
  obtain ⟨fuel, hf⟩ := h
  rcases Go.Deep.open_slice Try.underlying62 hf with ⟨h1, _⟩ | ⟨ad, len', cap', m, n, D, Pl, h1, _, hl, hm, hmm, hxe, hx⟩
  · simp [Value.cells] at h1
    obtain ⟨rfl, rfl, rfl⟩ := h1
    exact ⟨Nat.zero_le _, [], ⟨rfl, fun h => absurd h (by omega)⟩, fun x hx => by cases hx⟩
  · simp [Value.cells] at h1
    obtain ⟨rfl, rfl, rfl⟩ := h1
    have hmm' : m = cap := by simpa using hmm
    refine ⟨by omega, ?_⟩
    rw [actTCells] at hx
    have hd : d = .slice ((List.range len).map D) ((List.range (m - len)).map fun j => D (len + j)) := (Prod.mk.inj hxe).1
    have each : ∀ i, i < len → (ad.add (i * 5)).spot = none ∧ ∃ y : ActT, y.at w (ad.add (i * 5)).block (ad.add (i * 5)).off ∧ y.m ≤ reachBytes := fun i hi => by
      obtain ⟨cs', h1, h2⟩ := hx i (by omega)
      refine open_actT h1 h2 (fun k hk => hw k ?_)
      rw [hd]
      simp only [DataW.weights, Try.underlying62, List.mem_cons, List.mem_append]
      exact Or.inr (Or.inl (weights_mem_allI (List.mem_map.2 ⟨i, List.mem_range.2 hi, rfl⟩) k hk))
    by_cases h0 : len = 0
    · exact ⟨[], ⟨by simp [h0], fun h => absurd h (by omega)⟩, fun x hx => by cases hx⟩
    · obtain ⟨bl, off, spot⟩ := ad
      have hs : spot = none := by have := (each 0 (by omega)).1; simpa [Addr.add] using this
      subst hs
      obtain ⟨f, hf⟩ := Go.Deep.choose_lt (α := ActT) (p := fun i y => y.at w bl (off + i * 5) ∧ y.m ≤ reachBytes) (n := len) (fun i hi => by
        have := (each i hi).2; rwa [Addr.add_lit] at this)
      refine ⟨(List.range len).map f, ⟨by simp, fun _ => ⟨bl, off, rfl, fun k x hk => ?_⟩⟩, fun x hx => ?_⟩
      · simp only [List.getElem?_map, Option.map_eq_some_iff] at hk
        obtain ⟨j, hj, rfl⟩ := hk
        obtain ⟨hlt, rfl⟩ := List.getElem?_eq_some_iff.1 hj
        simp at hlt
        rw [List.getElem_range]
        exact (hf k hlt).1
      · obtain ⟨j, hj, rfl⟩ := List.mem_map.1 hx
        have := (hf j (List.mem_range.1 hj)).2
        unfold reachBytes at this
        omega

def lenT (l : List ActT) : Nat := (l.map (·.m)).sum

/-- Where no more than a hundred acts are looked at: each one's bytes are few. -/
theorem lenT_le (l : List ActT) (hm : ∀ x ∈ l, x.m ≤ 140737488355328) (hl : l.length ≤ 100) : lenT l ≤ 14073748835532800 := by
  have h : ∀ l : List ActT, (∀ x ∈ l, x.m ≤ 140737488355328) → lenT l ≤ l.length * 140737488355328 := by
    intro l
    induction l with
    | nil => intro _; simp [lenT]
    | cons y r ih =>
      intro hy
      have h1 := ih (fun z hz => hy z (List.mem_cons_of_mem _ hz))
      have h2 := hy y List.mem_cons_self
      have e : lenT (y :: r) = y.m + lenT r := by unfold lenT; simp
      rw [e, List.length_cons, Nat.add_mul]
      omega
  have := h l hm
  omega

theorem mem_lenT {l : List ActT} {x : ActT} (h : x ∈ l) : x.m ≤ lenT l := by
  induction l with
  | nil => cases h
  | cons y r ih =>
    have e : lenT (y :: r) = y.m + lenT r := by unfold lenT; simp
    rw [e]
    rcases List.mem_cons.1 h with rfl | h
    · omega
    · have := ih h; omega

set_option maxHeartbeats 4000000 in
theorem tgreat_any (a : Option Addr) (len cap : Nat) (acts : List ActT) (w : World) (h : ActsT w a len acts) (hlen : len ≤ maxLen) (hm : ∀ x ∈ acts, x.m ≤ 140737488355328) :
    Calls Try.prog 24 #[.slice a len cap] w fun e w' => (e = .returned (.bool true) ∨ (e = .returned (.bool false) ∧ len ≤ 100 ∧ ∀ x ∈ acts, x.m ≤ 3000)) ∧ Chg [] w w' := by
  unfold maxLen at hlen
  go_enter Try.func24, Try.ntmps24
  go_wp2_with fail
  go_loopw [3, 8] (fun n i wr => ∃ k : Nat, k ≤ len ∧ i = .int .i64 k ∧ (∃ s : Int, n = .int .i64 s ∧ (len ≤ 100 → s = lenT (acts.take k))) ∧ Below w.heap.size w wr) (fun _ i _ => len - (intOf i).toNat)
  case atStart => exact ⟨0, Nat.zero_le _, rfl, ⟨0, rfl, fun _ => rfl⟩, Below.refl _ _⟩
  case round =>
    obtain ⟨k, hk, rfl, ⟨s, rfl, hs⟩, hb⟩ := hrel
    by_cases hlt : k < len
    · obtain ⟨bl, off, x, rfl, hx, h0, h1, h2, h3, h4, hr⟩ := (h.chg (Chg.of_below (S := []) hb (Nat.le_refl _))).get hlt
      go_wp2_with fail
      have hxm : x.m ≤ maxLen := by have := hr.le; unfold maxLen at *; omega
      have hsz := hb.size
      refine ⟨⟨k + 1, by omega, by go_num, ⟨_, rfl, fun hle => ?_⟩, ?_⟩, by simp [intOf]; omega⟩
      · have h1 : lenT (acts.take (k + 1)) = lenT (acts.take k) + x.m := by
          unfold lenT
          have hl := h.1
          rw [List.take_add_one, hx]
          simp
        have h2 : lenT (acts.take (k + 1)) ≤ lenT acts := by
          unfold lenT
          conv => rhs; rw [← List.take_append_drop (k + 1) acts, List.map_append, List.sum_append]
          omega
        have h3 := lenT_le acts hm (by rw [h.1]; exact hle)
        rw [hs hle, h1]
        unfold wrap64
        omega
      · repeat' (first | exact hb.alloc hsz _ | exact hsz | (refine Below.setCell ?_ ?_ _))
    · have hkl : k = len := by omega
      have hfin : len ≤ 100 → s = lenT acts := fun h0 => by
        rw [hs h0, hkl, List.take_of_length_le (by rw [h.1]; exact Nat.le_refl _)]
      clear hs
      by_cases g1 : 100 < (len : Int)
      · go_wp2_with fail
        go_ret
        exact ⟨.inl rfl, Chg.of_below hb (Nat.le_refl _)⟩
      · by_cases g2 : 3000 < s
        · go_wp2_with fail
          go_ret
          exact ⟨.inl rfl, Chg.of_below hb (Nat.le_refl _)⟩
        · go_wp2_with fail
          go_ret
          exact ⟨.inr ⟨rfl, by omega, fun x hx => by have h1 := hfin (by omega); have h2 := mem_lenT hx; omega⟩, Chg.of_below hb (Nat.le_refl _)⟩
end Go.Proofs.Ytmcbgpjphjacjaa
