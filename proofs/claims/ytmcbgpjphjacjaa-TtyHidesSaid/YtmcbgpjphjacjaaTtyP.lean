/-
  Layer 17: TtyHides' second plan: the first one's items with other bytes, as many in each.
-/
import Derived.Test.YtmcbgpjphjacjaaTtyM
namespace Go.Proofs.Ytmcbgpjphjacjaa
set_option linter.unusedVariables false
set_option linter.unusedSimpArgs false
set_option maxRecDepth 100000
open Go.RowKit

/-! ### The plain law -/

/-- What an item is, but for its bytes. -/
def sh4 (x : ItD) : Nat × Int × Int × Nat := (x.b, x.kind, x.n, x.m)

theorem chkL_sh4 : ∀ (l l' : List ItD), l'.map sh4 = l.map sh4 → chkL l' = chkL l
  | [], [], _ => rfl
  | [], _ :: _, h => by simp at h
  | _ :: _, [], h => by simp at h
  | x :: r, y :: s, h => by
    rw [List.map_cons, List.map_cons] at h
    injection h with h1 h2
    unfold sh4 at h1
    injection h1 with e1 h1
    injection h1 with e2 h1
    injection h1 with e3 e4
    have e : chk1 y = chk1 x := by unfold chk1; rw [e2, e3, e4]
    unfold chkL
    rw [e, chkL_sh4 r s h2]

/-- What comes, but for its bytes. -/
def gsh (y : Ele × It) : Ele × Int × Int × Nat := (y.1, y.2.kind, y.2.n, y.2.bs.length)

theorem ordStep_sh {M M' : List (Ele × It)} {x y : ItD} (k : Nat) (hM : M'.map gsh = M.map gsh) (h : sh4 y = sh4 x) (hx : x.m ≤ x.zs.length) (hy : y.m ≤ y.zs.length) : (ordStep M' y k).map gsh = (ordStep M x k).map gsh := by
  unfold sh4 at h
  injection h with e1 h
  injection h with e2 h
  injection h with e3 e4
  have hl : M'.length = M.length := by have := congrArg List.length hM; simpa using this
  have hc : comes y = comes x := by unfold comes; rw [e2, e4]
  have hi : ∀ (N : List (Ele × It)) (z : Ele × It), (insP N z).map gsh = insG (fun y => oE y.1) (N.map gsh) (gsh z) := fun N z => insG_map gsh (fun y : Ele × Int × Int × Nat => oE y.1) N z
  unfold ordStep
  rw [hc, hl, e1]
  by_cases c : comes x = true
  · rw [if_pos c, if_pos c, hi, hi, hM]
    have hg : ∀ e : Ele, gsh (e, itOf y) = gsh (e, itOf x) := fun e => by
      unfold gsh itOf
      dsimp only
      rw [e2, e3, List.length_take, List.length_take]
      congr 3
      omega
    rw [hg]
  · rw [if_neg c, if_neg c, hM]

theorem ordP_sh {its its' : List ItD} (h : its'.map sh4 = its.map sh4) (h1 : ∀ x ∈ its, x.m ≤ x.zs.length) (h2 : ∀ x ∈ its', x.m ≤ x.zs.length) (k : Nat) : (ordP its' k).map gsh = (ordP its k).map gsh := by
  induction k with
  | zero => rfl
  | succ k ih =>
    have hk := congrArg (fun l => l[k]?) h
    simp only [List.getElem?_map] at hk
    unfold ordP
    cases hx : its[k]? with
    | none =>
      rw [hx] at hk
      cases hy : its'[k]? with
      | none => exact ih
      | some y => rw [hy] at hk; cases hk
    | some x =>
      rw [hx] at hk
      cases hy : its'[k]? with
      | none => rw [hy] at hk; cases hk
      | some y =>
        rw [hy] at hk
        injection hk with hk
        exact ordStep_sh k ih hk (h1 x (List.mem_of_getElem? hx)) (h2 y (List.mem_of_getElem? hy))

/-! ### The copy in memory -/

def cellsJ1 (y : ItD) : List Value := [.float .f64 y.b, .int .i64 y.kind, .int .i64 y.n, .slice y.ao y.m y.cap]
def cellsJ (its : List ItD) : List Value := its.flatMap cellsJ1

theorem cellsJ_cons (y : ItD) (r : List ItD) : cellsJ (y :: r) = cellsJ1 y ++ cellsJ r := by unfold cellsJ; rw [List.flatMap_cons]
theorem cellsJ_length (its : List ItD) : (cellsJ its).length = its.length * 4 := by
  induction its with
  | nil => rfl
  | cons y r ih => rw [cellsJ_cons, List.length_append, ih, List.length_cons]; simp [cellsJ1]; omega

theorem cellsJ_get (E : List ItD) : ∀ (k : Nat) (y : ItD), E[k]? = some y → ∀ j, j < 4 → (cellsJ E)[k * 4 + j]? = (cellsJ1 y)[j]? := by
  induction E with
  | nil => intro k y h; simp at h
  | cons x E ih =>
    intro k y hk j hj
    rw [cellsJ_cons]
    have hl : (cellsJ1 x).length = 4 := rfl
    cases k with
    | zero =>
      injection hk with hk
      subst hk
      rw [List.getElem?_append_left (by omega), Nat.zero_mul, Nat.zero_add]
    | succ k =>
      rw [List.getElem?_append_right (by omega), hl, show (k + 1) * 4 + j - 4 = k * 4 + j by omega]
      exact ih k y hk j hj

theorem cellsJ_set (E : List ItD) : ∀ (k : Nat) (y : ItD) (ao : Option Addr) (cap : Nat) (zs : List Int), E[k]? = some y → cellsJ (E.set k { y with ao := ao, cap := cap, zs := zs }) = (cellsJ E).set (k * 4 + 3) (.slice ao y.m cap) := by
  induction E with
  | nil => intro k y ao cap zs h; simp at h
  | cons x E ih =>
    intro k y ao cap zs hk
    cases k with
    | zero =>
      injection hk with hk
      subst hk
      rw [List.set_cons_zero, cellsJ_cons, cellsJ_cons]
      rfl
    | succ k =>
      have hl : (cellsJ1 x).length = 4 := rfl
      rw [List.set_cons_succ, cellsJ_cons, cellsJ_cons, ih k y ao cap zs hk, List.set_append_right _ _ (by omega), hl, show (k + 1) * 4 + 3 - 4 = k * 4 + 3 by omega]

theorem cellsJ_one (E : List ItD) : ∀ u ∈ cellsJ E, u.oneCell' = true := by
  intro u hu
  unfold cellsJ at hu
  obtain ⟨y, _, hy⟩ := List.mem_flatMap.1 hu
  unfold cellsJ1 at hy
  simp only [List.mem_cons, List.not_mem_nil, or_false] at hy
  rcases hy with rfl | rfl | rfl | rfl <;> rfl

theorem infoItem7 : (Try.prog.info? 55).map (fun i => (i.zero, i.size, i.bytes)) = some (some (.agg #[.float .f64 0, .int .i64 0, .int .i64 0, .slice none 0 0]), 4, 48) := by kernel_rfl

/-- An item's bytes: readable, and in none of the two blocks that turn. -/
def ItB (w : World) (v : Value) (b7 : Nat) (y : ItD) : Prop :=
  BRow w y.ao y.m y.cap y.zs ∧ (0 < y.m → ∀ k, y.ao.map (·.block) = some k → v.ownBlock ≠ some k ∧ k ≠ b7) ∧ Wd y.b

theorem BRow.chg {w w' : World} {a : Option Addr} {len cap : Nat} {zs : List Int} {S : List Nat} (h : BRow w a len cap zs) (c : Chg S w w') (hS : 0 < len → ∀ k, a.map (·.block) = some k → k ∉ S) : BRow w' a len cap zs := by
  refine ⟨h.1, h.2.1, h.2.2.1, ?_⟩
  by_cases h0 : 0 < len
  · exact h.src.chg c (fun ad e => hS h0 _ (by rw [e]; rfl))
  · obtain rfl : len = 0 := by omega
    have hs := h.src
    rw [List.take_zero] at hs ⊢
    exact ⟨rfl, hs.2.1, fun ad e j u hu => by simp [valsOf] at hu⟩

theorem ItB.chg {w w' : World} {v : Value} {b7 : Nat} {y : ItD} {S : List Nat} (h : ItB w v b7 y) (c : Chg S w w') (hS : ∀ x ∈ S, v.ownBlock = some x ∨ x = b7) : ItB w' v b7 y :=
  ⟨h.1.chg c (fun h0 k hk hm => (hS k hm).elim (h.2.1 h0 k hk).1 (h.2.1 h0 k hk).2), h.2.1, h.2.2⟩

/-- The copy: a row of its own, the same items but for their bytes. -/
structure Cpy (base : Nat) (w : World) (v : Value) (b7 : Nat) (its its' : List ItD) : Prop where
  row : w.ownsRow base 55 4 v its.length (cellsJ its')
  sh : its'.map sh4 = its.map sh4
  byt : ∀ y ∈ its', ItB w v b7 y

theorem Cpy.len {base : Nat} {w : World} {v : Value} {b7 : Nat} {its its' : List ItD} (h : Cpy base w v b7 its its') : its'.length = its.length := by have := congrArg List.length h.sh; simpa using this

theorem Cpy.chg {base : Nat} {w w' : World} {v : Value} {b7 : Nat} {its its' : List ItD} (h : Cpy base w v b7 its its') (c : Chg [] w w') : Cpy base w' v b7 its its' :=
  ⟨eowns_keep h.row c (by simp), h.sh, fun y hy => (h.byt y hy).chg c (by simp)⟩

theorem Cpy.slot {base : Nat} {w : World} {g n c : Nat} {b7 : Nat} {its its' : List ItD} (h : Cpy base w (.slice (some ⟨g, 0, none⟩) n c) b7 its its') (i : Nat) (hi : i < its.length) :
    (∃ u, w.cell? ⟨g, i * 4 + 3, none⟩ = some u) ∧ ∀ j, w.frozen? ⟨g, j, none⟩ = false := by
  obtain ⟨y, hy⟩ : ∃ y, its'[i]? = some y := ⟨its'[i]'(by rw [h.len]; exact hi), List.getElem?_eq_getElem _⟩
  refine ⟨⟨.slice y.ao y.m y.cap, ?_⟩, fun j => ?_⟩
  · have := h.row.cells (g := g) rfl (i * 4 + 3) (.slice y.ao y.m y.cap) (by rw [cellsJ_get its' i y hy 3 (by omega)]; rfl)
    rwa [Addr.add_lit, Nat.zero_add] at this
  · rcases h.row.2 with ⟨e, _⟩ | ⟨g', _, _, e, _, hh, _⟩
    · cases e
    · injection e with e1
      injection e1 with e1
      injection e1 with e1
      subst e1
      exact free_of_heap hh _

/-- One more has other bytes. -/
theorem Cpy.step {base : Nat} {w w1 : World} {g n c : Nat} {b7 : Nat} {its its' : List ItD} {i m cap : Nat} {x : ItD} {ao : Option Addr} {zs : List Int} (h : Cpy base w (.slice (some ⟨g, 0, none⟩) n c) b7 its its') (hx : its[i]? = some x) (hm : m = x.m)
    (c1 : Chg [] w w1) (hr : w1.ownsRow w.heap.size 5 1 (.slice ao m cap) m (valsOf .u8 zs)) (hb7 : b7 < w.heap.size) :
    ∃ its'', Cpy base (w1.setCell ⟨g, i * 4 + 3, none⟩ (.slice ao m cap)) (.slice (some ⟨g, 0, none⟩) n c) b7 its its'' := by
  subst hm
  have hn : n = its.length := by
    rcases h.row.2 with ⟨e, _⟩ | ⟨g', _, _, e, _⟩
    · cases e
    · injection e
  subst hn
  have hi : i < its.length := (List.getElem?_eq_some_iff.1 hx).1
  obtain ⟨y, hy⟩ : ∃ y, its'[i]? = some y := ⟨its'[i]'(by rw [h.len]; exact hi), List.getElem?_eq_getElem _⟩
  have hyx : sh4 y = sh4 x := by
    have := congrArg (fun l => l[i]?) h.sh
    simp only [List.getElem?_map, hx, hy] at this
    injection this
  have hym : y.m = x.m := congrArg (fun q => q.2.2.2) hyx
  have hil' : i < its'.length := (List.getElem?_eq_some_iff.1 hy).1
  have hg : g < w.heap.size := (h.row.lt g rfl).2
  have cs : Chg [g] w1 (w1.setCell ⟨g, i * 4 + 3, none⟩ (.slice ao x.m cap)) := (Chg.refl [g] w1).setCell (p := ⟨g, i * 4 + 3, none⟩) (Or.inl List.mem_cons_self) _
  have hnew : ∀ k, (ao.map (·.block)) = some k → w.heap.size ≤ k := fun k hk => by
    rcases hr.2 with ⟨e, _⟩ | ⟨g', _, _, e, hb', _⟩
    · injection e with e1; rw [e1] at hk; cases hk
    · injection e with e1; rw [e1] at hk; cases hk; exact hb'
  have hzl : zs.length = x.m := by have := hr.1; rw [valsOf_length] at this; omega
  have hbr : BRow w1 ao x.m cap zs := by
    obtain ⟨ao', c', e, hs, _⟩ := owns_srcAt hr
    injection e with e1 _ e3
    subst e1 e3
    refine ⟨?_, ?_, by omega, by rw [List.take_of_length_le (by omega)]; exact hs⟩
    · rcases hr.2 with ⟨e, h0⟩ | ⟨g', _, _, e, _, _, k1, k2, _⟩
      · omega
      · injection e with _ _ e3; omega
    · rcases hr.2 with ⟨e, h0⟩ | ⟨g', _, _, e, _, _, k1, k2, _⟩
      · injection e with _ _ e3; rw [e3]; exact Nat.zero_le _
      · injection e with _ _ e3; omega
  have hold : ∀ z ∈ its', ItB (w1.setCell ⟨g, i * 4 + 3, none⟩ (.slice ao x.m cap)) (.slice (some ⟨g, 0, none⟩) its.length c) b7 z := fun z hz =>
    ((h.byt z hz).chg c1 (by simp)).chg cs (fun q hq => .inl (by rw [List.mem_singleton.1 hq]; rfl))
  refine ⟨its'.set i { y with ao := ao, cap := cap, zs := zs }, ?_, ?_, fun z hz => ?_⟩
  · rw [cellsJ_set its' i y ao cap zs hy, hym]
    exact eowns_set (eowns_keep h.row c1 (by simp)) _ (by omega) _
  · rw [List.map_set, ← h.sh]
    apply List.ext_getElem?
    intro j
    rw [List.getElem?_set, List.length_map]
    by_cases e : i = j
    · subst e
      rw [if_pos rfl, if_pos hil', List.getElem?_map, hy]
      rfl
    · rw [if_neg e]
  · rcases List.mem_or_eq_of_mem_set hz with hz | rfl
    · exact hold z hz
    · refine ⟨?_, fun _ k hk => ?_, (h.byt y (List.mem_of_getElem? hy)).2.2⟩
      · show BRow _ ao y.m cap zs
        rw [hym]
        exact hbr.chg cs (fun _ k hk hq => by have := hnew k hk; have := List.mem_singleton.1 hq; omega)
      · have := hnew k hk
        refine ⟨fun e => ?_, by omega⟩
        have : g = k := by simpa [Value.ownBlock] using e
        omega

theorem owns_sliceJ {base : Nat} {w : World} {e : TypeId} {size : Nat} {v : Value} {n : Nat} {xs : List Value} (h : w.ownsRow base e size v n xs) : ∃ a c, v = .slice a n c ∧ n ≤ c ∧ c ≤ maxLen := by
  rcases h.2 with ⟨e, h0⟩ | ⟨g, cap, cur, e, hb, hg, k1, k2, k3, k4⟩
  · exact ⟨none, 0, by rw [e, h0], by omega, Nat.zero_le _⟩
  · exact ⟨_, _, e, k1, k2⟩

theorem Cpy.slice {base : Nat} {w : World} {v : Value} {b7 : Nat} {its its' : List ItD} (h : Cpy base w v b7 its its') : ∃ a c, v = .slice a its.length c ∧ its.length ≤ c ∧ c ≤ maxLen := by
  rcases h.row.2 with ⟨e, h0⟩ | ⟨g, cap, cur, e, hb, hg, k1, k2, k3, k4⟩
  · exact ⟨none, 0, by rw [e, h0], by omega, Nat.zero_le _⟩
  · exact ⟨_, _, e, k1, k2⟩

theorem brow_lt {w : World} {a : Option Addr} {n c : Nat} {zs : List Int} (h : BRow w a n c zs) (hn : 0 < n) : ∀ b, a.map (·.block) = some b → b < w.heap.size := by
  intro b hb
  obtain ⟨ad, e, rfl⟩ := Option.map_eq_some_iff.1 hb
  have hl : (zs.take n).length = n := by rw [List.length_take]; have := h.le; omega
  have hs := h.src
  generalize zs.take n = bs at hl hs
  have := hs.2.2 ad e 0 (.int .u8 (bs[0]'(by omega))) (by simp [valsOf, List.getElem?_eq_getElem (show 0 < bs.length by omega)])
  have := heap_of_cell this
  simpa [Addr.add] using this

/-- The copy as append makes it. -/
theorem Cpy.first {base : Nat} {w w7 : World} {v : Value} {b7 : Nat} {p : PlanD} (hp : p.At w) (O : w7.ownsRow base 55 4 v p.il (cellsJ p.its)) (c : Chg [] w w7) (hb : w.heap.size ≤ base) (h7 : w.heap.size ≤ b7) : Cpy base w7 v b7 p.its p.its := by
  refine ⟨by rw [hp.its.1]; exact O, rfl, fun y hy => ?_⟩
  obtain ⟨k, hk⟩ := List.getElem?_of_mem hy
  have hlt : k < p.il := by rw [← hp.its.1]; exact (List.getElem?_eq_some_iff.1 hk).1
  obtain ⟨bl, off, x, _, hx, _, _, _, _, hr, hw⟩ := hp.its.get hlt
  rw [hk] at hx
  injection hx with hx
  subst hx
  refine ⟨hr.chg0 c, fun h0 q hq => ?_, hw⟩
  have h1 := brow_lt hr h0 q hq
  exact ⟨fun e => by have := (O.lt q e).1; omega, by omega⟩

theorem Cpy.chg7 {base : Nat} {w w' : World} {v : Value} {b7 : Nat} {its its' : List ItD} (h : Cpy base w v b7 its its') (c : Chg [b7] w w') (hb : b7 < base) : Cpy base w' v b7 its its' :=
  ⟨eowns_keep h.row c (fun k hk hm => by have h1 := (h.row.lt k hk).1; have := List.mem_singleton.1 hm; omega), h.sh, fun y hy => (h.byt y hy).chg c (fun x hx => .inr (List.mem_singleton.1 hx))⟩

/-- The copy as a plan's items. -/
theorem Cpy.its {base : Nat} {w : World} {a : Option Addr} {n c : Nat} {b7 : Nat} {its its' : List ItD} (h : Cpy base w (.slice a n c) b7 its its') : n = its.length ∧ ItsAt w a n its' := by
  have hl := h.len
  rcases h.row.2 with ⟨e, h0⟩ | ⟨g, cap, cur, e, hb, hg, k1, k2, k3, k4⟩
  · injection e with e1 e2 e3
    subst e1 e2
    exact ⟨h0.symm, by omega, fun hc => absurd hc (by omega)⟩
  · injection e with e1 e2 e3
    subst e1 e2 e3
    refine ⟨rfl, hl, fun h0 => ⟨g, 0, rfl, fun k y hk => ?_⟩⟩
    have gt : ∀ j, j < 4 → ∀ u, (cellsJ1 y)[j]? = some u → w.cell? ⟨g, 0 + k * 4 + j, none⟩ = some u := fun j hj u hu => by
      have := h.row.cells (g := g) rfl (k * 4 + j) u (by rw [cellsJ_get its' k y hk j hj]; exact hu)
      rw [Addr.add_lit] at this
      rw [show 0 + k * 4 + j = 0 + (k * 4 + j) by omega]
      exact this
    have hb := h.byt y (List.mem_of_getElem? hk)
    exact ⟨gt 0 (by omega) _ rfl, gt 1 (by omega) _ rfl, gt 2 (by omega) _ rfl, gt 3 (by omega) _ rfl, hb.1, hb.2.2⟩
end Go.Proofs.Ytmcbgpjphjacjaa
