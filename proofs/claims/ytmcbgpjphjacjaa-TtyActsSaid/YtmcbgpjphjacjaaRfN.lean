/-
  Layer 16's reference: Next.
-/
import Derived.Test.YtmcbgpjphjacjaaRfW
namespace Go.Proofs.Ytmcbgpjphjacjaa
set_option linter.unusedVariables false
set_option linter.unusedSimpArgs false
set_option maxRecDepth 100000
open Go.RowKit
attribute [local go_sem] run_store_float'

/-- What is left of an item's bytes. -/
def ItD.cut (x : ItD) (k : Nat) : ItD := { x with ao := if x.cap = k then x.ao else x.ao.map (fun a => a.add k), m := x.m - k, cap := x.cap - k, zs := x.zs.drop k }

theorem BRow.cut {w : World} {ao : Option Addr} {m cap k : Nat} {zs : List Int} (h : BRow w ao m cap zs) (hk : k ≤ m) (hao : ao ≠ none) : BRow w (if cap = k then ao else ao.map (fun a => a.add k)) (m - k) (cap - k) (zs.drop k) := by
  obtain ⟨h1, h2, h3, h4, h5, h6⟩ := h
  rw [valsOf_length] at h4
  refine ⟨by omega, by omega, by rw [List.length_drop]; omega, by rw [valsOf_length, List.length_take, List.length_drop]; omega, fun e => ?_, fun ad e j u hu => ?_⟩
  · split at e
    · exact absurd e hao
    · exact absurd (Option.map_eq_none_iff.1 e) hao
  · unfold valsOf at hu
    rw [List.getElem?_map, List.getElem?_take] at hu
    split at hu
    · rename_i hj
      rw [List.getElem?_drop] at hu
      rw [if_neg (by omega)] at e
      obtain ⟨a0, ea, rfl⟩ := Option.map_eq_some_iff.1 e
      have hu2 : (valsOf .u8 (zs.take m))[k + j]? = some u := by
        unfold valsOf
        rw [List.getElem?_map, List.getElem?_take, if_pos (by omega)]
        exact hu
      have hc := h6 a0 ea (k + j) u hu2
      have h0 := h6 a0 ea 0 (.int .u8 (zs.getD 0 0)) (by
        unfold valsOf
        rw [List.getElem?_map, List.getElem?_take, if_pos (by omega), List.getElem?_eq_getElem (by omega)]
        simp [List.getD_eq_getElem?_getD, List.getElem?_eq_getElem (show 0 < zs.length by omega)])
      have hsp := World.cell?_spot h0
      obtain ⟨g, off, spot⟩ := a0
      have : spot = none := by simpa [Addr.add] using hsp
      subst this
      rw [Addr.add_lit, Addr.add_lit, Nat.add_assoc]
      rwa [Addr.add_lit] at hc
    · cases hu

theorem itOf_cut (x : ItD) (k : Nat) : itOf (x.cut k) = { itOf x with bs := (itOf x).bs.drop k } := by
  unfold itOf ItD.cut
  dsimp only
  rw [List.drop_take]

theorem OwnRf.head {w0 w : World} {bM : Nat} {u : Value} {x : ItD} {L : List ItD} {p : PlanD} {a b d : Nat} (h : OwnRf w0 w bM u (x :: L) p a b d) :
    ∃ g off cap, u = .slice (some ⟨g, off, none⟩) (L.length + 1) cap ∧ w.cell? ⟨g, off, none⟩ = some (.float .f64 x.b) ∧ w.cell? ⟨g, off + 1, none⟩ = some (.int .i64 x.kind) ∧ w.cell? ⟨g, off + 2, none⟩ = some (.int .i64 x.n) ∧ w.cell? ⟨g, off + 3, none⟩ = some (.slice x.ao x.m x.cap) ∧ L.length + 1 ≤ cap ∧ cap ≤ maxLen ∧ g ≠ bM ∧ w0.heap.size ≤ g := by
  obtain ⟨g, off, cap, e, hc, _⟩ := h.row.cells (by simp)
  obtain ⟨ao, c, e2, l1, l2, _⟩ := h.row.slice
  have e3 := e.symm.trans e2
  injection e3 with _ _ e4
  subst e4
  have hown : u.ownBlock = some g := by rw [e]; rfl
  refine ⟨g, off, cap, by simpa using e, ?_, hc 1 _ (by rw [cellsI_cons]; rfl), hc 2 _ (by rw [cellsI_cons]; rfl), hc 3 _ (by rw [cellsI_cons]; rfl), by simpa using l1, l2, fun e5 => h.ne (by rw [hown, e5]), h.b2 g hown⟩
  have := hc 0 (.float .f64 x.b) (by rw [cellsI_cons]; rfl)
  rwa [Nat.add_zero] at this

/-- A new row of items is laid in. -/
theorem OwnRf.put {w0 w : World} {bM : Nat} {u : Value} {L : List ItD} {p : PlanD} {a b d : Nat} (h : OwnRf w0 w bM u L p a b d) (u' : Value) (L' : List ItD) (hr : HasRow w 55 4 u' L'.length (cellsI L')) (hne : u'.ownBlock ≠ some bM) (hb : ∀ k, u'.ownBlock = some k → w0.heap.size ≤ k) (hd : ∀ y ∈ L', BRow w0 y.ao y.m y.cap y.zs ∧ Wd y.b) :
    Chg [bM] w (w.setCell ⟨bM, 7, none⟩ u') ∧ OwnRf w0 (w.setCell ⟨bM, 7, none⟩ u') bM u' L' p a b d := by
  have k : Chg [bM] w (w.setCell ⟨bM, 7, none⟩ u') := (Chg.refl [bM] w).setCell (p := ⟨bM, 7, none⟩) (Or.inl List.mem_cons_self) _
  exact ⟨k, by rw [setCell_heap _ h.hM]; rfl, hr.chg k (fun j hj hm => hne (by rw [hj, List.mem_singleton.1 hm])), hne, h.c0.trans k (by simp) (fun x hx hl => absurd h.b1 (by rw [← List.mem_singleton.1 hx]; omega)), h.pl, hd, h.b1, hb⟩

theorem rNext_bad (bM : Nat) (most : Int) (w : World) (hm : most < 1) :
    Calls Try.prog 49 #[.pointer (some ⟨bM, 0, none⟩), .int .i64 most] w fun e w' => e = .returned (.tuple #[.int .i64 0, .int .i64 0, .slice none 0 0, .int .i64 3]) ∧ w = w' := by
  go_enter Try.func49, Try.ntmps49
  go_wp2_with fail
  exact ⟨rfl, _, by simp [results, Try.results49, go_sem], rfl, rfl⟩

theorem rNext_none (w0 w : World) (bM : Nat) (u : Value) (p : PlanD) (a b d : Nat) (most : Int) (h : OwnRf w0 w bM u [] p a b d) (hm : 1 ≤ most) :
    Calls Try.prog 49 #[.pointer (some ⟨bM, 0, none⟩), .int .i64 most] w fun e w' => e = .returned (.tuple #[.int .i64 0, .int .i64 0, .slice none 0 0, .int .i64 6]) ∧ w = w' := by
  obtain ⟨x4, x5, x6, x7, x8, x9, x10⟩ := h.cells
  obtain ⟨ao, c, rfl, _, _, _⟩ := h.row.slice
  clear h
  go_enter Try.func49, Try.ntmps49
  go_wp2_with fail
  exact ⟨rfl, _, by simp [results, Try.results49, go_sem], rfl, rfl⟩

def RxFar (w0 : World) (bM : Nat) (u : Value) (x : ItD) (L : List ItD) (p : PlanD) (a b d : Nat) (w : World) (e : Ending) (w' : World) : Prop :=
  e = .returned (.tuple #[.int .i64 x.kind, .int .i64 x.n, .slice none 0 0, .int .i64 0]) ∧ Chg [bM] w w' ∧ ∃ u', OwnRf w0 w' bM u' L p a b d ∧ u'.ownBlock = u.ownBlock

theorem OwnRf.pop {w0 w : World} {bM g off cap : Nat} {x : ItD} {L : List ItD} {p : PlanD} {a b d : Nat} (h : OwnRf w0 w bM (.slice (some ⟨g, off, none⟩) (L.length + 1) cap) (x :: L) p a b d) (off' : Nat) (he : off' = if cap = 1 then off else off + 4) :
    Chg [bM] w (w.setCell ⟨bM, 7, none⟩ (.slice (some ⟨g, off', none⟩) L.length (cap - 1))) ∧ OwnRf w0 (w.setCell ⟨bM, 7, none⟩ (.slice (some ⟨g, off', none⟩) L.length (cap - 1))) bM (.slice (some ⟨g, off', none⟩) L.length (cap - 1)) L p a b d := by
  have hr : HasRow w 55 4 (.slice (some ⟨g, off, none⟩) (L.length + 1) cap) (L.length + 1) (cellsI (x :: L)) := h.row
  have ht := hr.tail (some ⟨g, off', none⟩) (by
    rw [he]
    by_cases hc : cap = 1
    · rw [if_pos hc, if_pos hc]
    · rw [if_neg hc, if_neg hc, Option.map_some, Addr.add_lit])
  rw [cellsI_cons, List.drop_left' (by rfl)] at ht
  exact h.put _ L ht (fun e => h.ne (by injection e with e; subst e; rfl)) (fun k hk => h.b2 k (by injection hk with hk; subst hk; rfl)) (fun y hy => h.dat y (List.mem_cons_of_mem _ hy))

set_option maxHeartbeats 4000000 in
theorem rNext_far (w0 w : World) (bM : Nat) (u : Value) (x : ItD) (L : List ItD) (p : PlanD) (a b d : Nat) (most : Int) (h : OwnRf w0 w bM u (x :: L) p a b d) (hm : 1 ≤ most) (hx : x.kind ≠ 0) :
    Calls Try.prog 49 #[.pointer (some ⟨bM, 0, none⟩), .int .i64 most] w (RxFar w0 bM u x L p a b d w) := by
  obtain ⟨g, off, cap, rfl, c0, c1, c2, c3, l1, l2, hgM, hg0⟩ := h.head
  obtain ⟨x4, x5, x6, x7, x8, x9, x10⟩ := h.cells
  have hL : ¬ ((L.length : Int) + 1 = 0) := by omega
  have hkx : (x.kind == 0) = false := by rw [beq_eq_false_iff_ne]; exact hx
  have hkx' : (x.kind != 0) = true := by rw [bne_iff_ne]; exact hx
  have HH := Lib.hid h
  unfold maxLen at l2
  have k1 : Chg [] w (w.alloc (.cells #[.float .f64 x.b, .int .i64 x.kind, .int .i64 x.n, .slice x.ao x.m x.cap] 55)) := (Chg.refl _ _).alloc _
  have K1 := Lib.hid k1
  have y7 := k1.cell x7 (by simp)
  have yf := free_of_heap (k1.heap h.hM (by simp)) 7
  have hgn := Lib.hid (Nat.ne_of_lt (heap_lt h.hM))
  clear h hx k1 x4 x5 x6 x8 x9 x10
  generalize hk9 : x.kind = kind at *
  have hz : ¬ w.heap.size = bM := fun e => hgn.out e.symm
  have m1 : (w.alloc (.cells #[.float .f64 x.b, .int .i64 kind, .int .i64 x.n, .slice x.ao x.m x.cap] 55)).cell? ⟨w.heap.size, 1, none⟩ = some (.int .i64 kind) := by rw [cell_of_heap (alloc_heap w _)]; rfl
  have m2 : (w.alloc (.cells #[.float .f64 x.b, .int .i64 kind, .int .i64 x.n, .slice x.ao x.m x.cap] 55)).cell? ⟨w.heap.size, 2, none⟩ = some (.int .i64 x.n) := by rw [cell_of_heap (alloc_heap w _)]; rfl
  have hc : cap = 1 ∨ cap ≠ 1 := by omega
  rcases hc with rfl | hc
  · obtain rfl : L = [] := List.eq_nil_of_length_eq_zero (by omega)
    go_enter Try.func49, Try.ntmps49
    go_wp2_with fail
    have P := (HH.out.chg0 K1.out).pop off (by rw [if_pos rfl])
    have HP := Lib.hid P
    clear P
    go_quiet (fail)
    go_wp2_with fail
    refine ⟨rfl, _, by simp [results, Try.results49, go_sem] <;> rfl, ?_⟩
    exact ⟨by rw [hk9], (K1.out.trans HP.out.1 (by simp) (fun y hy _ => hy)).drewN _, _, HP.out.2.chg0 ((Chg.refl _ _).drewN _), rfl⟩
  · go_enter Try.func49, Try.ntmps49
    go_wp2_with fail
    have P := (HH.out.chg0 K1.out).pop (off + 4) (by rw [if_neg hc])
    have HP := Lib.hid P
    clear P
    go_quiet (fail)
    go_wp2_with fail
    refine ⟨rfl, _, by simp [results, Try.results49, go_sem] <;> rfl, ?_⟩
    exact ⟨by rw [hk9], (K1.out.trans HP.out.1 (by simp) (fun y hy _ => hy)).drewN _, _, HP.out.2.chg0 ((Chg.refl _ _).drewN _), rfl⟩

theorem infoItem : (Try.prog.info? 55).map (fun i => (i.zero, i.size, i.bytes)) = some (some (.agg #[.float .f64 0, .int .i64 0, .int .i64 0, .slice none 0 0]), 4, 48) := by kernel_rfl

theorem HasRow.set {w : World} {e : TypeId} {size g off cap n : Nat} {xs : List Value} (h : HasRow w e size (.slice (some ⟨g, off, none⟩) n cap) n xs) (j : Nat) (v : Value) : HasRow (w.setCell ⟨g, off + j, none⟩ v) e size (.slice (some ⟨g, off, none⟩) n cap) n (xs.set j v) := by
  refine ⟨by rw [List.length_set]; exact h.1, ?_⟩
  rcases h.2 with ⟨e, _⟩ | ⟨g', off', cap', cur, e, hg, h1, h2, h3, h4⟩
  · cases e
  · injection e with e1 _ e3
    injection e1 with e1
    injection e1 with e1 e4 _
    subst e1 e3 e4
    refine .inr ⟨g, off, cap, _, rfl, setCell_heap v hg, h1, h2, by simpa using h3, ?_⟩
    rw [Array.toList_setIfInBounds, ← h4]
    apply List.ext_getElem?
    intro i
    simp only [List.getElem?_take, List.getElem?_drop, List.getElem?_set, List.length_set, List.length_take, List.length_drop, Array.length_toList]
    by_cases hi : i < n * size
    · rw [if_pos hi]
      by_cases hji : j = i
      · subst hji
        have hms : n * size ≤ cap * size := Nat.mul_le_mul_right _ h1
        rw [if_pos rfl, if_pos rfl, if_pos (by omega), if_pos (by omega)]
      · rw [if_neg (by omega), if_neg hji, if_pos hi]
    · rw [if_neg hi]
      by_cases hji : j = i
      · subst hji
        rw [if_pos rfl, if_neg (by omega)]
      · rw [if_neg hji, if_neg hi]

theorem HasRow.at {w : World} {e : TypeId} {size g off cap n : Nat} {xs : List Value} (h : HasRow w e size (.slice (some ⟨g, off, none⟩) n cap) n xs) (hn : 0 < n) : ∀ j u, xs[j]? = some u → w.cell? ((⟨g, off, none⟩ : Addr).add j) = some u := by
  obtain ⟨g', off', cap', e, hc, _⟩ := h.cells hn
  injection e with e1
  injection e1 with e1
  injection e1 with e1 e4 _
  subst e1 e4
  intro j u hu
  rw [Addr.add_lit]
  exact hc j u hu

theorem HasRow.fresh {w : World} (e : TypeId) (size : Nat) {g : Nat} (hg : w.heap[g]? = some (.cells #[] e (0, 0))) : HasRow w e size (.slice (some ⟨g, 0, none⟩) 0 0) 0 [] :=
  ⟨by simp, .inr ⟨g, 0, 0, #[], rfl, hg, Nat.le_refl _, Nat.zero_le _, by simp, by simp⟩⟩

theorem cellsI_one (L : List ItD) : ∀ u ∈ cellsI L, u.oneCell' = true := by
  intro u hu
  unfold cellsI at hu
  obtain ⟨y, _, hy⟩ := List.mem_flatMap.1 hu
  unfold cellI at hy
  simp only [List.mem_cons, List.not_mem_nil, or_false] at hy
  rcases hy with rfl | rfl | rfl | rfl <;> rfl

theorem src_take {w : World} {ao : Option Addr} {m c k : Nat} {zs : List Int} (h : SrcAt w ao m c (valsOf .u8 (zs.take m))) (hk : k ≤ m) : SrcAt w ao k c (valsOf .u8 (zs.take k)) := by
  obtain ⟨h1, h2, h3⟩ := h
  rw [valsOf_length] at h1
  have hl : m ≤ zs.length := by rw [List.length_take] at h1; omega
  refine ⟨by rw [valsOf_length, List.length_take]; omega, fun e => ⟨by have := (h2 e).1; omega, (h2 e).2⟩, fun ad e j u hu => h3 ad e j u ?_⟩
  unfold valsOf at hu ⊢
  rw [List.getElem?_map, List.getElem?_take] at hu ⊢
  split at hu
  · rw [if_pos (by omega)]; exact hu
  · cases hu

def RxDat (w0 : World) (bM : Nat) (x : ItD) (L : List ItD) (p : PlanD) (a b d k : Nat) (w : World) (e : Ending) (w' : World) : Prop :=
  ∃ rv, e = .returned (.tuple #[.int .i64 0, .int .i64 0, rv, .int .i64 0]) ∧ Chg [bM] w w' ∧ w'.ownsRow w.heap.size 5 1 rv k (valsOf .u8 (x.zs.take k)) ∧ rv.ownBlock ≠ some bM ∧
    ∃ u', OwnRf w0 w' bM u' (if k = x.m then L else x.cut k :: L) p a b d ∧ u'.ownBlock ≠ rv.ownBlock ∧ ∀ j, u'.ownBlock = some j → w.heap.size ≤ j

theorem rest_made {w0 w w6 w7 : World} {bM g off cap k : Nat} {x : ItD} {L : List ItD} {p : PlanD} {a b d : Nat} {rv v7 : Value} {xs : List Value} (H : OwnRf w0 w bM (.slice (some ⟨g, off, none⟩) (L.length + 1) cap) (x :: L) p a b d)
    (D6 : Chg [] w w6) (Z6 : w.heap.size + 2 ≤ w6.heap.size) (q7 : w6.cell? ⟨bM, 7, none⟩ = some (.slice (some ⟨g, off, none⟩) (L.length + 1) cap)) (q3 : w6.cell? ⟨w.heap.size, 3, none⟩ = some (.slice x.ao x.m x.cap))
    (H6 : w6.ownsRow w.heap.size 5 1 rv k xs)
    (R7 : HasRow w7 55 4 v7 (0 + (L.length + 1)) ([] ++ cellsI (x :: L))) (C7 : Chg (Value.slice (some ⟨w6.heap.size, 0, none⟩) 0 0).ownBlock.toList (w6.alloc (.cells #[] 55)) w7)
    (B7 : ∀ j, v7.ownBlock = some j → (Value.slice (some ⟨w6.heap.size, 0, none⟩) 0 0).ownBlock = some j ∨ (w6.alloc (.cells #[] 55)).heap.size ≤ j) :
    ∃ g7 off7 cap7, v7 = .slice (some ⟨g7, off7, none⟩) (L.length + 1) cap7 ∧ HasRow w7 55 4 (.slice (some ⟨g7, off7, none⟩) (L.length + 1) cap7) (L.length + 1) (cellsI (x :: L)) ∧ w6.heap.size ≤ g7 ∧ Chg [] w w7 ∧ w7.cell? ⟨bM, 7, none⟩ = some (.slice (some ⟨g, off, none⟩) (L.length + 1) cap) ∧ w7.cell? ⟨w.heap.size, 3, none⟩ = some (.slice x.ao x.m x.cap) ∧
      w7.cell? ⟨g7, off7 + 3, none⟩ = some (.slice x.ao x.m x.cap) ∧ w7.frozen? ⟨g7, off7 + 3, none⟩ = false ∧ w7.frozen? ⟨bM, 7, none⟩ = false ∧ ¬ g7 = bM ∧ ¬ bM = g7 ∧ ¬ w.heap.size = g7 ∧ ¬ g7 = w.heap.size ∧ w7.ownsRow w.heap.size 5 1 rv k xs ∧ (∀ j, rv.ownBlock = some j → j < w6.heap.size) ∧ w6.heap.size ≤ w7.heap.size ∧ L.length + 1 ≤ cap7 ∧ cap7 ≤ 9223372036854775807 := by
  rw [List.nil_append, Nat.zero_add] at R7
  obtain ⟨g7, off7, cap7, rfl, hcs7, hfr7⟩ := R7.cells (by omega)
  obtain ⟨_, _, e8, l8, l9, _⟩ := R7.slice
  injection e8 with _ _ e9
  subst e9
  have sz : (w6.alloc (.cells #[] 55)).heap.size = w6.heap.size + 1 := by simp
  have hB7 : w6.heap.size ≤ g7 := by
    rcases B7 g7 rfl with e | e
    · have e' : w6.heap.size = g7 := by injection e
      omega
    · omega
  have bz := heap_lt H.hM
  have A6 := (Chg.refl [] w6).alloc (.cells #[] 55)
  have nb : ∀ y, y < w6.heap.size → y ∉ (Value.slice (some ⟨w6.heap.size, 0, none⟩) 0 0).ownBlock.toList := fun y hy hm => by
    have : y = w6.heap.size := by simpa [Value.ownBlock] using hm
    omega
  have K7 : Chg [] w w7 := (D6.trans A6 (U := []) (by simp) (by simp)).trans C7 (U := []) (by simp) (fun y hy hl => by
    have : y = w6.heap.size := by simpa [Value.ownBlock] using hy
    omega)
  refine ⟨g7, off7, cap7, rfl, R7, hB7, K7, C7.cell (A6.cell q7 (by simp)) (nb _ (by show bM < _; omega)), C7.cell (A6.cell q3 (by simp)) (nb _ (by show w.heap.size < _; omega)), hcs7 3 _ (by rw [cellsI_cons]; rfl), hfr7 _, ?_, by omega, by omega, by omega, by omega, ?_, fun j hj => (H6.lt j hj).2, ?_, l8, by unfold maxLen at l9; omega⟩
  · exact free_of_heap (K7.heap H.hM (by simp)) 7
  · exact owns_keep (owns_keep H6 A6 (by simp)) C7 (fun j hj => nb j (H6.lt j hj).2)
  · have := C7.size; omega

theorem rest_end {w0 w w6 w7 W8 W : World} {bM k g7 off7 : Nat} {u u' rv sl : Value} {x : ItD} {L L' : List ItD} {p : PlanD} {a b d : Nat} {xs : List Value} (H : OwnRf w0 w bM u (x :: L) p a b d) (D7 : Chg [] w w7) (O7 : w7.ownsRow w.heap.size 5 1 rv k xs ∧ ∀ j, rv.ownBlock = some j → j < w6.heap.size)
    (hB : w6.heap.size ≤ g7 ∧ w6.heap.size ≤ w7.heap.size) (hz : w.heap.size ≤ w6.heap.size) (hn : ¬ g7 = bM) (hW8 : W8 = w7.setCell ⟨g7, off7, none⟩ sl) (hr : HasRow W8 55 4 u' L'.length (cellsI L')) (hu : u'.ownBlock = some g7) (hd : ∀ y ∈ L', BRow w0 y.ao y.m y.cap y.zs ∧ Wd y.b) (hW : W = W8.setCell ⟨bM, 7, none⟩ u') :
    Chg [bM] w W ∧ W.ownsRow w.heap.size 5 1 rv k xs ∧ rv.ownBlock ≠ some bM ∧ OwnRf w0 W bM u' L' p a b d ∧ u'.ownBlock ≠ rv.ownBlock ∧ ∀ j, u'.ownBlock = some j → w.heap.size ≤ j := by
  have bz := heap_lt H.hM
  have hM : rv.ownBlock ≠ some bM := fun e => by have := (O7.1.lt _ e).1; omega
  have hg : rv.ownBlock ≠ some g7 := fun e => by have := O7.2 _ e; omega
  have D8 : Chg [] w W8 := by rw [hW8]; exact D7.setCell (p := ⟨g7, off7, none⟩) (Or.inr (by show w.heap.size ≤ g7; omega)) _
  have C8 : Chg [g7] w7 W8 := by rw [hW8]; exact (Chg.refl [g7] w7).setCell (p := ⟨g7, off7, none⟩) (Or.inl List.mem_cons_self) _
  have P := (H.chg0 D8).put u' L' hr (by rw [hu]; intro e; injection e with e; exact hn e) (fun j hj => by rw [hu] at hj; injection hj with hj; have := H.c0.size; omega) hd
  rw [← hW] at P
  refine ⟨D8.trans P.1 (U := [bM]) (by simp) (fun y hy _ => hy), ?_, hM, P.2, (by rw [hu]; exact fun e => hg e.symm), fun j hj => (by rw [hu] at hj; injection hj with hj; omega)⟩
  exact owns_keep (owns_keep O7.1 C8 (fun j hj hm => hg (by rw [hj, List.mem_singleton.1 hm]))) P.1 (fun j hj hm => hM (by rw [hj, List.mem_singleton.1 hm]))

theorem rest_whole {w0 w w6 w7 W : World} {bM k g7 off7 cap7 off8 c8 : Nat} {u rv sl : Value} {x : ItD} {L : List ItD} {p : PlanD} {a b d : Nat} {xs : List Value} (H : OwnRf w0 w bM u (x :: L) p a b d) (D7 : Chg [] w w7) (O7 : w7.ownsRow w.heap.size 5 1 rv k xs ∧ ∀ j, rv.ownBlock = some j → j < w6.heap.size)
    (hB : w6.heap.size ≤ g7 ∧ w6.heap.size ≤ w7.heap.size) (hz : w.heap.size ≤ w6.heap.size) (hn : ¬ g7 = bM) (HR : HasRow w7 55 4 (.slice (some ⟨g7, off7, none⟩) (L.length + 1) cap7) (L.length + 1) (cellsI (x :: L))) (he : off8 = if cap7 = 1 then off7 else off7 + 4) (hc : c8 = cap7 - 1)
    (hW : W = (w7.setCell ⟨g7, off7 + 3, none⟩ sl).setCell ⟨bM, 7, none⟩ (.slice (some ⟨g7, off8, none⟩) L.length c8)) :
    Chg [bM] w W ∧ W.ownsRow w.heap.size 5 1 rv k xs ∧ rv.ownBlock ≠ some bM ∧ OwnRf w0 W bM (.slice (some ⟨g7, off8, none⟩) L.length c8) L p a b d ∧ (Value.slice (some ⟨g7, off8, none⟩) L.length c8).ownBlock ≠ rv.ownBlock ∧ ∀ j, (Value.slice (some ⟨g7, off8, none⟩) L.length c8).ownBlock = some j → w.heap.size ≤ j := by
  have ht := (HR.set 3 sl).tail (some ⟨g7, off8, none⟩) (by
    rw [he]
    by_cases hc : cap7 = 1
    · rw [if_pos hc, if_pos hc]
    · rw [if_neg hc, if_neg hc, Option.map_some, Addr.add_lit])
  have h9 : ((cellsI (x :: L)).set 3 sl).drop 4 = cellsI L := by rw [cellsI_cons]; rfl
  rw [h9, ← hc] at ht
  exact rest_end H D7 O7 hB hz hn rfl ht rfl (fun y hy => H.dat y (List.mem_cons_of_mem _ hy)) hW

set_option maxHeartbeats 16000000 in
theorem rNext_dat (w0 w : World) (bM : Nat) (u : Value) (x : ItD) (L : List ItD) (p : PlanD) (a b d : Nat) (most : Int) (k : Nat) (h : OwnRf w0 w bM u (x :: L) p a b d) (hm : 1 ≤ most) (hx : x.kind = 0) (hxm : 0 < x.m) (hxm2 : x.m ≤ 1000000) (hL : L.length ≤ 1000000)
    (hk : (most = (k : Int) ∧ k ≤ x.m) ∨ (k = x.m ∧ (x.m : Int) < most)) :
    Calls Try.prog 49 #[.pointer (some ⟨bM, 0, none⟩), .int .i64 most] w (RxDat w0 bM x L p a b d k w) := by
  obtain ⟨i0, hi, hz0, hz1, hz2⟩ := info_parts infoB
  obtain ⟨j0, hj, hy0, hy1, hy2⟩ := info_parts infoItem
  obtain ⟨xb, kind, xn, ao, m, xc, zs⟩ := x
  dsimp only at hx hxm hxm2 hk
  subst hx
  have hcs : (k < m ∧ (k : Int) = most ∧ xc ≠ k) ∨ (k = m ∧ (k : Int) = most ∧ k = xc) ∨ (k = m ∧ (k : Int) = most ∧ xc ≠ k) ∨ (k = m ∧ (k : Int) < most ∧ k = xc) ∨ (k = m ∧ (k : Int) < most ∧ xc ≠ k) := by
    have hbr := (h.dat _ List.mem_cons_self).1
    have := hbr.le
    dsimp only at this
    omega
  clear hk
  rcases hcs with ⟨hkm, rfl, hck⟩ | ⟨rfl, rfl, rfl⟩ | ⟨rfl, rfl, hck⟩ | ⟨rfl, hmo, rfl⟩ | ⟨rfl, hmo, hck⟩
  · obtain ⟨g, off, cap, rfl, c0, c1, c2, c3, l1, l2, hgM, hg0⟩ := h.head
    obtain ⟨x4, x5, x6, x7, x8, x9, x10⟩ := h.cells
    have hL0 : ¬ ((L.length : Int) + 1 = 0) := by omega
    have HH := Lib.hid h
    have hbr := (h.dat _ List.mem_cons_self).1
    have hle := hbr.le
    have hc0 := h.c0
    dsimp only at hbr hle c0 c1 c2 c3
    unfold maxLen at l2 hle
    obtain ⟨ha1, ha2, ha3⟩ := hle
    have k1 : Chg [] w (w.alloc (.cells #[.float .f64 xb, .int .i64 0, .int .i64 xn, .slice ao m xc] 55)) := (Chg.refl _ _).alloc _
    have k2 : Chg [] w ((w.alloc (.cells #[.float .f64 xb, .int .i64 0, .int .i64 xn, .slice ao m xc] 55)).alloc (.cells #[] 5)) := k1.alloc _
    have HB := Lib.hid hbr
    have hao : ao ≠ none := fun e => by have := (hbr.src.2.1 e).1; omega
    have m1 : (w.alloc (.cells #[.float .f64 xb, .int .i64 0, .int .i64 xn, .slice ao m xc] 55)).cell? ⟨w.heap.size, 1, none⟩ = some (.int .i64 0) := by rw [cell_of_heap (alloc_heap w _)]; rfl
    have m3 : (w.alloc (.cells #[.float .f64 xb, .int .i64 0, .int .i64 xn, .slice ao m xc] 55)).cell? ⟨w.heap.size, 3, none⟩ = some (.slice ao m xc) := by rw [cell_of_heap (alloc_heap w _)]; rfl
    have n3 : ((w.alloc (.cells #[.float .f64 xb, .int .i64 0, .int .i64 xn, .slice ao m xc] 55)).alloc (.cells #[] 5)).cell? ⟨w.heap.size, 3, none⟩ = some (.slice ao m xc) := by rw [cell_of_heap (alloc_keeps (alloc_heap w _))]; rfl
    have K1 := Lib.hid k1
    have K2 := Lib.hid k2
    have hk3 : k ≤ m := by omega
    have O0 : ((w.alloc (.cells #[.float .f64 xb, .int .i64 0, .int .i64 xn, .slice ao m xc] 55)).alloc (.cells #[] 5)).ownsRow w.heap.size 5 1 (.slice (some ⟨w.heap.size + 1, 0, none⟩) 0 0) 0 [] := by
      have := owns_empty (w.alloc (.cells #[.float .f64 xb, .int .i64 0, .int .i64 xn, .slice ao m xc] 55)) w.heap.size 5 (by simp)
      simpa using this
    have S2 := Lib.hid ((src_take HB.out.src hk3).chg0 (hc0.trans K2.out (U := []) (by simp) (by simp)))
    have HL2 := Lib.hid (show (valsOf .u8 (zs.take k)).length = k * 1 by rw [valsOf_length]; simp; omega)
    have HO0 := Lib.hid O0
    have Z7 := Lib.hid (K2.out.cell x7 (by simp))
    clear O0 h k1 k2 x4 x5 x6 x8 x9 x10 hbr
    go_enter Try.func49, Try.ntmps49
    go_wp2_with (first
      | (at_builtin; refine wpList_append_src rfl (.tmp 50) (.tmp 54) 42 rfl w.heap.size 5 i0 (.int .u8 0) 1 1 Try.underlying42 hi hz0 hz1 hz2 rfl (by decide) _ 0 [] (by rfl) HO0.out ao k xc (valsOf .u8 (zs.take k)) (by rfl) HL2.out S2.out.2.1 S2.out.2.2 (oneCell_vals _ _) (by unfold maxLen; omega) (by omega) K2.out.size (fun v6 w6 O6 C6 _ => ?_); have D6 := Lib.hid (K2.out.trans C6 (U := []) (by simp) (by simp [Value.ownBlock])); rw [List.nil_append, Nat.zero_add] at O6; obtain ⟨a6, c6, rfl, _, _⟩ := owns_srcAt O6; have H6 := Lib.hid O6; have A6 := (Chg.refl [] w6).alloc (.cells #[] 55); have q7 := A6.cell (C6.cell Z7.out (by simp [Value.ownBlock]; have := heap_lt HH.out.hM; omega)) (by simp); have q3 := A6.cell (C6.cell n3 (by simp [Value.ownBlock])) (by simp); have Z67 := Lib.hid (C6.cell Z7.out (by simp [Value.ownBlock]; have := heap_lt HH.out.hM; omega)); have Z63 := Lib.hid (C6.cell n3 (by simp [Value.ownBlock])); have Z6 := Lib.hid (show w.heap.size + 2 ≤ w6.heap.size by have := C6.size; simpa using this); have HA6 := Lib.hid A6; clear O6 C6 A6)
      | (at_builtin; refine wpList_append_off rfl (.tmp 56) (.tmp 60) 25 rfl 55 j0 (.agg #[.float .f64 0, .int .i64 0, .int .i64 0, .slice none 0 0]) 4 48 Try.underlying25 hj hy0 hy1 hy2 rfl (by decide) _ 0 [] (by rfl) (HasRow.fresh _ _ (alloc_heap w6 _)) ⟨g, off, none⟩ (L.length + 1) cap (cellsI (⟨xb, 0, xn, ao, m, xc, zs⟩ :: L)) (by rfl) (by rw [cellsI_length]; rfl) (HasRow.at (n := L.length + 1) (cap := cap) ((HH.out.row.chg D6.out (by simp)).chg HA6.out (by simp)) (by omega)) (cellsI_one _) (by unfold maxLen; omega) (by omega) (fun v7 w7 R7 C7 B7 => ?_); obtain ⟨g7, off7, cap7, rfl, R8, hB7, D7, r7, r3, y3, yf, yg, hn7, hn8, hn9, hn10, O7, hlt6, hs7, hc7, hc8⟩ := rest_made HH.out D6.out Z6.out Z67.out Z63.out H6.out R7 C7 B7; have HR7 := Lib.hid R8; have HD7 := Lib.hid D7; have HO7 := Lib.hid (And.intro O7 hlt6); have HB7 := Lib.hid (And.intro hB7 hs7); dsimp only at r3 y3; clear C7 B7 R7 R8 D7 O7 hlt6 hB7 hs7 q7 q3))
    refine ⟨rfl, _, by simp [results, Try.results49, go_sem] <;> rfl, ?_⟩
    have hset := HR7.out.set 3 (.slice (ao.map (fun a => a.add k)) (m - k) (xc - k))
    obtain ⟨e1, e2, e3, e4, e5⟩ := rest_end (L' := ItD.cut ⟨xb, 0, xn, ao, m, xc, zs⟩ k :: L) HH.out HD7.out HO7.out HB7.out (by have := Z6.out; omega) hn7 rfl (by have h9 : cellsI (ItD.cut ⟨xb, 0, xn, ao, m, xc, zs⟩ k :: L) = (cellsI (⟨xb, 0, xn, ao, m, xc, zs⟩ :: L)).set 3 (.slice (ao.map (fun a => a.add k)) (m - k) (xc - k)) := (by rw [cellsI_cons, cellsI_cons]; unfold ItD.cut cellI; dsimp only; rw [if_neg hck]; rfl); rw [h9]; exact hset) rfl (fun y hy => by
      rcases List.mem_cons.1 hy with rfl | hy
      · exact ⟨HB.out.cut (Nat.le_of_lt hkm) hao, (HH.out.dat _ List.mem_cons_self).2⟩
      · exact HH.out.dat y (List.mem_cons_of_mem _ hy)) rfl
    exact ⟨_, rfl, e1, e2, e3, _, by rw [if_neg (show ¬ k = m by omega)]; exact e4, e5⟩
  · obtain ⟨g, off, cap, rfl, c0, c1, c2, c3, l1, l2, hgM, hg0⟩ := h.head
    obtain ⟨x4, x5, x6, x7, x8, x9, x10⟩ := h.cells
    have hL0 : ¬ ((L.length : Int) + 1 = 0) := by omega
    have HH := Lib.hid h
    have hbr := (h.dat _ List.mem_cons_self).1
    have hle := hbr.le
    have hc0 := h.c0
    dsimp only at hbr hle c0 c1 c2 c3
    unfold maxLen at l2 hle
    obtain ⟨ha1, ha2, ha3⟩ := hle
    have k1 : Chg [] w (w.alloc (.cells #[.float .f64 xb, .int .i64 0, .int .i64 xn, .slice ao k k] 55)) := (Chg.refl _ _).alloc _
    have k2 : Chg [] w ((w.alloc (.cells #[.float .f64 xb, .int .i64 0, .int .i64 xn, .slice ao k k] 55)).alloc (.cells #[] 5)) := k1.alloc _
    have HB := Lib.hid hbr
    have hao : ao ≠ none := fun e => by have := (hbr.src.2.1 e).1; omega
    have m1 : (w.alloc (.cells #[.float .f64 xb, .int .i64 0, .int .i64 xn, .slice ao k k] 55)).cell? ⟨w.heap.size, 1, none⟩ = some (.int .i64 0) := by rw [cell_of_heap (alloc_heap w _)]; rfl
    have m3 : (w.alloc (.cells #[.float .f64 xb, .int .i64 0, .int .i64 xn, .slice ao k k] 55)).cell? ⟨w.heap.size, 3, none⟩ = some (.slice ao k k) := by rw [cell_of_heap (alloc_heap w _)]; rfl
    have n3 : ((w.alloc (.cells #[.float .f64 xb, .int .i64 0, .int .i64 xn, .slice ao k k] 55)).alloc (.cells #[] 5)).cell? ⟨w.heap.size, 3, none⟩ = some (.slice ao k k) := by rw [cell_of_heap (alloc_keeps (alloc_heap w _))]; rfl
    have K1 := Lib.hid k1
    have K2 := Lib.hid k2
    have hk3 : k ≤ k := by omega
    have O0 : ((w.alloc (.cells #[.float .f64 xb, .int .i64 0, .int .i64 xn, .slice ao k k] 55)).alloc (.cells #[] 5)).ownsRow w.heap.size 5 1 (.slice (some ⟨w.heap.size + 1, 0, none⟩) 0 0) 0 [] := by
      have := owns_empty (w.alloc (.cells #[.float .f64 xb, .int .i64 0, .int .i64 xn, .slice ao k k] 55)) w.heap.size 5 (by simp)
      simpa using this
    have S2 := Lib.hid ((src_take HB.out.src hk3).chg0 (hc0.trans K2.out (U := []) (by simp) (by simp)))
    have HL2 := Lib.hid (show (valsOf .u8 (zs.take k)).length = k * 1 by rw [valsOf_length]; simp; omega)
    have HO0 := Lib.hid O0
    have Z7 := Lib.hid (K2.out.cell x7 (by simp))
    clear O0 h k1 k2 x4 x5 x6 x8 x9 x10 hbr
    go_enter Try.func49, Try.ntmps49
    go_wp2_with (first
      | (at_builtin; refine wpList_append_src rfl (.tmp 50) (.tmp 54) 42 rfl w.heap.size 5 i0 (.int .u8 0) 1 1 Try.underlying42 hi hz0 hz1 hz2 rfl (by decide) _ 0 [] (by rfl) HO0.out ao k k (valsOf .u8 (zs.take k)) (by rfl) HL2.out S2.out.2.1 S2.out.2.2 (oneCell_vals _ _) (by unfold maxLen; omega) (by omega) K2.out.size (fun v6 w6 O6 C6 _ => ?_); have D6 := Lib.hid (K2.out.trans C6 (U := []) (by simp) (by simp [Value.ownBlock])); rw [List.nil_append, Nat.zero_add] at O6; obtain ⟨a6, c6, rfl, _, _⟩ := owns_srcAt O6; have H6 := Lib.hid O6; have A6 := (Chg.refl [] w6).alloc (.cells #[] 55); have q7 := A6.cell (C6.cell Z7.out (by simp [Value.ownBlock]; have := heap_lt HH.out.hM; omega)) (by simp); have q3 := A6.cell (C6.cell n3 (by simp [Value.ownBlock])) (by simp); have Z67 := Lib.hid (C6.cell Z7.out (by simp [Value.ownBlock]; have := heap_lt HH.out.hM; omega)); have Z63 := Lib.hid (C6.cell n3 (by simp [Value.ownBlock])); have Z6 := Lib.hid (show w.heap.size + 2 ≤ w6.heap.size by have := C6.size; simpa using this); have HA6 := Lib.hid A6; clear O6 C6 A6)
      | (at_builtin; refine wpList_append_off rfl (.tmp 56) (.tmp 60) 25 rfl 55 j0 (.agg #[.float .f64 0, .int .i64 0, .int .i64 0, .slice none 0 0]) 4 48 Try.underlying25 hj hy0 hy1 hy2 rfl (by decide) _ 0 [] (by rfl) (HasRow.fresh _ _ (alloc_heap w6 _)) ⟨g, off, none⟩ (L.length + 1) cap (cellsI (⟨xb, 0, xn, ao, k, k, zs⟩ :: L)) (by rfl) (by rw [cellsI_length]; rfl) (HasRow.at (n := L.length + 1) (cap := cap) ((HH.out.row.chg D6.out (by simp)).chg HA6.out (by simp)) (by omega)) (cellsI_one _) (by unfold maxLen; omega) (by omega) (fun v7 w7 R7 C7 B7 => ?_); obtain ⟨g7, off7, cap7, rfl, R8, hB7, D7, r7, r3, y3, yf, yg, hn7, hn8, hn9, hn10, O7, hlt6, hs7, hc7, hc8⟩ := rest_made HH.out D6.out Z6.out Z67.out Z63.out H6.out R7 C7 B7; have HR7 := Lib.hid R8; have HD7 := Lib.hid D7; have HO7 := Lib.hid (And.intro O7 hlt6); have HB7 := Lib.hid (And.intro hB7 hs7); dsimp only at r3 y3; clear C7 B7 R7 R8 D7 O7 hlt6 hB7 hs7 q7 q3))
    all_goals (
      refine ⟨rfl, _, by simp [results, Try.results49, go_sem] <;> rfl, ?_⟩
      first
        | (obtain ⟨e1, e2, e3, e4, e5⟩ := rest_whole (off8 := off7) (c8 := 0) HH.out HD7.out HO7.out HB7.out (by have := Z6.out; omega) hn7 HR7.out (by rw [if_pos (by assumption)]) (by omega) rfl
           exact ⟨_, rfl, e1, e2, e3, _, by rw [if_pos rfl]; exact e4, e5⟩)
        | (obtain ⟨e1, e2, e3, e4, e5⟩ := rest_whole (off8 := off7 + 4) (c8 := cap7 - 1) HH.out HD7.out HO7.out HB7.out (by have := Z6.out; omega) hn7 HR7.out (by rw [if_neg (by assumption)]) rfl rfl
           exact ⟨_, rfl, e1, e2, e3, _, by rw [if_pos rfl]; exact e4, e5⟩))
  · obtain ⟨g, off, cap, rfl, c0, c1, c2, c3, l1, l2, hgM, hg0⟩ := h.head
    obtain ⟨x4, x5, x6, x7, x8, x9, x10⟩ := h.cells
    have hL0 : ¬ ((L.length : Int) + 1 = 0) := by omega
    have HH := Lib.hid h
    have hbr := (h.dat _ List.mem_cons_self).1
    have hle := hbr.le
    have hc0 := h.c0
    dsimp only at hbr hle c0 c1 c2 c3
    unfold maxLen at l2 hle
    obtain ⟨ha1, ha2, ha3⟩ := hle
    have k1 : Chg [] w (w.alloc (.cells #[.float .f64 xb, .int .i64 0, .int .i64 xn, .slice ao k xc] 55)) := (Chg.refl _ _).alloc _
    have k2 : Chg [] w ((w.alloc (.cells #[.float .f64 xb, .int .i64 0, .int .i64 xn, .slice ao k xc] 55)).alloc (.cells #[] 5)) := k1.alloc _
    have HB := Lib.hid hbr
    have hao : ao ≠ none := fun e => by have := (hbr.src.2.1 e).1; omega
    have m1 : (w.alloc (.cells #[.float .f64 xb, .int .i64 0, .int .i64 xn, .slice ao k xc] 55)).cell? ⟨w.heap.size, 1, none⟩ = some (.int .i64 0) := by rw [cell_of_heap (alloc_heap w _)]; rfl
    have m3 : (w.alloc (.cells #[.float .f64 xb, .int .i64 0, .int .i64 xn, .slice ao k xc] 55)).cell? ⟨w.heap.size, 3, none⟩ = some (.slice ao k xc) := by rw [cell_of_heap (alloc_heap w _)]; rfl
    have n3 : ((w.alloc (.cells #[.float .f64 xb, .int .i64 0, .int .i64 xn, .slice ao k xc] 55)).alloc (.cells #[] 5)).cell? ⟨w.heap.size, 3, none⟩ = some (.slice ao k xc) := by rw [cell_of_heap (alloc_keeps (alloc_heap w _))]; rfl
    have K1 := Lib.hid k1
    have K2 := Lib.hid k2
    have hk3 : k ≤ k := by omega
    have O0 : ((w.alloc (.cells #[.float .f64 xb, .int .i64 0, .int .i64 xn, .slice ao k xc] 55)).alloc (.cells #[] 5)).ownsRow w.heap.size 5 1 (.slice (some ⟨w.heap.size + 1, 0, none⟩) 0 0) 0 [] := by
      have := owns_empty (w.alloc (.cells #[.float .f64 xb, .int .i64 0, .int .i64 xn, .slice ao k xc] 55)) w.heap.size 5 (by simp)
      simpa using this
    have S2 := Lib.hid ((src_take HB.out.src hk3).chg0 (hc0.trans K2.out (U := []) (by simp) (by simp)))
    have HL2 := Lib.hid (show (valsOf .u8 (zs.take k)).length = k * 1 by rw [valsOf_length]; simp; omega)
    have HO0 := Lib.hid O0
    have Z7 := Lib.hid (K2.out.cell x7 (by simp))
    clear O0 h k1 k2 x4 x5 x6 x8 x9 x10 hbr
    go_enter Try.func49, Try.ntmps49
    go_wp2_with (first
      | (at_builtin; refine wpList_append_src rfl (.tmp 50) (.tmp 54) 42 rfl w.heap.size 5 i0 (.int .u8 0) 1 1 Try.underlying42 hi hz0 hz1 hz2 rfl (by decide) _ 0 [] (by rfl) HO0.out ao k xc (valsOf .u8 (zs.take k)) (by rfl) HL2.out S2.out.2.1 S2.out.2.2 (oneCell_vals _ _) (by unfold maxLen; omega) (by omega) K2.out.size (fun v6 w6 O6 C6 _ => ?_); have D6 := Lib.hid (K2.out.trans C6 (U := []) (by simp) (by simp [Value.ownBlock])); rw [List.nil_append, Nat.zero_add] at O6; obtain ⟨a6, c6, rfl, _, _⟩ := owns_srcAt O6; have H6 := Lib.hid O6; have A6 := (Chg.refl [] w6).alloc (.cells #[] 55); have q7 := A6.cell (C6.cell Z7.out (by simp [Value.ownBlock]; have := heap_lt HH.out.hM; omega)) (by simp); have q3 := A6.cell (C6.cell n3 (by simp [Value.ownBlock])) (by simp); have Z67 := Lib.hid (C6.cell Z7.out (by simp [Value.ownBlock]; have := heap_lt HH.out.hM; omega)); have Z63 := Lib.hid (C6.cell n3 (by simp [Value.ownBlock])); have Z6 := Lib.hid (show w.heap.size + 2 ≤ w6.heap.size by have := C6.size; simpa using this); have HA6 := Lib.hid A6; clear O6 C6 A6)
      | (at_builtin; refine wpList_append_off rfl (.tmp 56) (.tmp 60) 25 rfl 55 j0 (.agg #[.float .f64 0, .int .i64 0, .int .i64 0, .slice none 0 0]) 4 48 Try.underlying25 hj hy0 hy1 hy2 rfl (by decide) _ 0 [] (by rfl) (HasRow.fresh _ _ (alloc_heap w6 _)) ⟨g, off, none⟩ (L.length + 1) cap (cellsI (⟨xb, 0, xn, ao, k, xc, zs⟩ :: L)) (by rfl) (by rw [cellsI_length]; rfl) (HasRow.at (n := L.length + 1) (cap := cap) ((HH.out.row.chg D6.out (by simp)).chg HA6.out (by simp)) (by omega)) (cellsI_one _) (by unfold maxLen; omega) (by omega) (fun v7 w7 R7 C7 B7 => ?_); obtain ⟨g7, off7, cap7, rfl, R8, hB7, D7, r7, r3, y3, yf, yg, hn7, hn8, hn9, hn10, O7, hlt6, hs7, hc7, hc8⟩ := rest_made HH.out D6.out Z6.out Z67.out Z63.out H6.out R7 C7 B7; have HR7 := Lib.hid R8; have HD7 := Lib.hid D7; have HO7 := Lib.hid (And.intro O7 hlt6); have HB7 := Lib.hid (And.intro hB7 hs7); dsimp only at r3 y3; clear C7 B7 R7 R8 D7 O7 hlt6 hB7 hs7 q7 q3))
    all_goals (
      refine ⟨rfl, _, by simp [results, Try.results49, go_sem] <;> rfl, ?_⟩
      first
        | (obtain ⟨e1, e2, e3, e4, e5⟩ := rest_whole (off8 := off7) (c8 := 0) HH.out HD7.out HO7.out HB7.out (by have := Z6.out; omega) hn7 HR7.out (by rw [if_pos (by assumption)]) (by omega) rfl
           exact ⟨_, rfl, e1, e2, e3, _, by rw [if_pos rfl]; exact e4, e5⟩)
        | (obtain ⟨e1, e2, e3, e4, e5⟩ := rest_whole (off8 := off7 + 4) (c8 := cap7 - 1) HH.out HD7.out HO7.out HB7.out (by have := Z6.out; omega) hn7 HR7.out (by rw [if_neg (by assumption)]) rfl rfl
           exact ⟨_, rfl, e1, e2, e3, _, by rw [if_pos rfl]; exact e4, e5⟩))
  · obtain ⟨g, off, cap, rfl, c0, c1, c2, c3, l1, l2, hgM, hg0⟩ := h.head
    obtain ⟨x4, x5, x6, x7, x8, x9, x10⟩ := h.cells
    have hL0 : ¬ ((L.length : Int) + 1 = 0) := by omega
    have HH := Lib.hid h
    have hbr := (h.dat _ List.mem_cons_self).1
    have hle := hbr.le
    have hc0 := h.c0
    dsimp only at hbr hle c0 c1 c2 c3
    unfold maxLen at l2 hle
    obtain ⟨ha1, ha2, ha3⟩ := hle
    have k1 : Chg [] w (w.alloc (.cells #[.float .f64 xb, .int .i64 0, .int .i64 xn, .slice ao k k] 55)) := (Chg.refl _ _).alloc _
    have k2 : Chg [] w ((w.alloc (.cells #[.float .f64 xb, .int .i64 0, .int .i64 xn, .slice ao k k] 55)).alloc (.cells #[] 5)) := k1.alloc _
    have HB := Lib.hid hbr
    have hao : ao ≠ none := fun e => by have := (hbr.src.2.1 e).1; omega
    have m1 : (w.alloc (.cells #[.float .f64 xb, .int .i64 0, .int .i64 xn, .slice ao k k] 55)).cell? ⟨w.heap.size, 1, none⟩ = some (.int .i64 0) := by rw [cell_of_heap (alloc_heap w _)]; rfl
    have m3 : (w.alloc (.cells #[.float .f64 xb, .int .i64 0, .int .i64 xn, .slice ao k k] 55)).cell? ⟨w.heap.size, 3, none⟩ = some (.slice ao k k) := by rw [cell_of_heap (alloc_heap w _)]; rfl
    have n3 : ((w.alloc (.cells #[.float .f64 xb, .int .i64 0, .int .i64 xn, .slice ao k k] 55)).alloc (.cells #[] 5)).cell? ⟨w.heap.size, 3, none⟩ = some (.slice ao k k) := by rw [cell_of_heap (alloc_keeps (alloc_heap w _))]; rfl
    have K1 := Lib.hid k1
    have K2 := Lib.hid k2
    have hk3 : k ≤ k := by omega
    have O0 : ((w.alloc (.cells #[.float .f64 xb, .int .i64 0, .int .i64 xn, .slice ao k k] 55)).alloc (.cells #[] 5)).ownsRow w.heap.size 5 1 (.slice (some ⟨w.heap.size + 1, 0, none⟩) 0 0) 0 [] := by
      have := owns_empty (w.alloc (.cells #[.float .f64 xb, .int .i64 0, .int .i64 xn, .slice ao k k] 55)) w.heap.size 5 (by simp)
      simpa using this
    have S2 := Lib.hid ((src_take HB.out.src hk3).chg0 (hc0.trans K2.out (U := []) (by simp) (by simp)))
    have HL2 := Lib.hid (show (valsOf .u8 (zs.take k)).length = k * 1 by rw [valsOf_length]; simp; omega)
    have HO0 := Lib.hid O0
    have Z7 := Lib.hid (K2.out.cell x7 (by simp))
    clear O0 h k1 k2 x4 x5 x6 x8 x9 x10 hbr
    go_enter Try.func49, Try.ntmps49
    go_wp2_with (first
      | (at_builtin; refine wpList_append_src rfl (.tmp 50) (.tmp 54) 42 rfl w.heap.size 5 i0 (.int .u8 0) 1 1 Try.underlying42 hi hz0 hz1 hz2 rfl (by decide) _ 0 [] (by rfl) HO0.out ao k k (valsOf .u8 (zs.take k)) (by rfl) HL2.out S2.out.2.1 S2.out.2.2 (oneCell_vals _ _) (by unfold maxLen; omega) (by omega) K2.out.size (fun v6 w6 O6 C6 _ => ?_); have D6 := Lib.hid (K2.out.trans C6 (U := []) (by simp) (by simp [Value.ownBlock])); rw [List.nil_append, Nat.zero_add] at O6; obtain ⟨a6, c6, rfl, _, _⟩ := owns_srcAt O6; have H6 := Lib.hid O6; have A6 := (Chg.refl [] w6).alloc (.cells #[] 55); have q7 := A6.cell (C6.cell Z7.out (by simp [Value.ownBlock]; have := heap_lt HH.out.hM; omega)) (by simp); have q3 := A6.cell (C6.cell n3 (by simp [Value.ownBlock])) (by simp); have Z67 := Lib.hid (C6.cell Z7.out (by simp [Value.ownBlock]; have := heap_lt HH.out.hM; omega)); have Z63 := Lib.hid (C6.cell n3 (by simp [Value.ownBlock])); have Z6 := Lib.hid (show w.heap.size + 2 ≤ w6.heap.size by have := C6.size; simpa using this); have HA6 := Lib.hid A6; clear O6 C6 A6)
      | (at_builtin; refine wpList_append_off rfl (.tmp 56) (.tmp 60) 25 rfl 55 j0 (.agg #[.float .f64 0, .int .i64 0, .int .i64 0, .slice none 0 0]) 4 48 Try.underlying25 hj hy0 hy1 hy2 rfl (by decide) _ 0 [] (by rfl) (HasRow.fresh _ _ (alloc_heap w6 _)) ⟨g, off, none⟩ (L.length + 1) cap (cellsI (⟨xb, 0, xn, ao, k, k, zs⟩ :: L)) (by rfl) (by rw [cellsI_length]; rfl) (HasRow.at (n := L.length + 1) (cap := cap) ((HH.out.row.chg D6.out (by simp)).chg HA6.out (by simp)) (by omega)) (cellsI_one _) (by unfold maxLen; omega) (by omega) (fun v7 w7 R7 C7 B7 => ?_); obtain ⟨g7, off7, cap7, rfl, R8, hB7, D7, r7, r3, y3, yf, yg, hn7, hn8, hn9, hn10, O7, hlt6, hs7, hc7, hc8⟩ := rest_made HH.out D6.out Z6.out Z67.out Z63.out H6.out R7 C7 B7; have HR7 := Lib.hid R8; have HD7 := Lib.hid D7; have HO7 := Lib.hid (And.intro O7 hlt6); have HB7 := Lib.hid (And.intro hB7 hs7); dsimp only at r3 y3; clear C7 B7 R7 R8 D7 O7 hlt6 hB7 hs7 q7 q3))
    all_goals (
      refine ⟨rfl, _, by simp [results, Try.results49, go_sem] <;> rfl, ?_⟩
      first
        | (obtain ⟨e1, e2, e3, e4, e5⟩ := rest_whole (off8 := off7) (c8 := 0) HH.out HD7.out HO7.out HB7.out (by have := Z6.out; omega) hn7 HR7.out (by rw [if_pos (by assumption)]) (by omega) rfl
           exact ⟨_, rfl, e1, e2, e3, _, by rw [if_pos rfl]; exact e4, e5⟩)
        | (obtain ⟨e1, e2, e3, e4, e5⟩ := rest_whole (off8 := off7 + 4) (c8 := cap7 - 1) HH.out HD7.out HO7.out HB7.out (by have := Z6.out; omega) hn7 HR7.out (by rw [if_neg (by assumption)]) rfl rfl
           exact ⟨_, rfl, e1, e2, e3, _, by rw [if_pos rfl]; exact e4, e5⟩))
  · obtain ⟨g, off, cap, rfl, c0, c1, c2, c3, l1, l2, hgM, hg0⟩ := h.head
    obtain ⟨x4, x5, x6, x7, x8, x9, x10⟩ := h.cells
    have hL0 : ¬ ((L.length : Int) + 1 = 0) := by omega
    have HH := Lib.hid h
    have hbr := (h.dat _ List.mem_cons_self).1
    have hle := hbr.le
    have hc0 := h.c0
    dsimp only at hbr hle c0 c1 c2 c3
    unfold maxLen at l2 hle
    obtain ⟨ha1, ha2, ha3⟩ := hle
    have k1 : Chg [] w (w.alloc (.cells #[.float .f64 xb, .int .i64 0, .int .i64 xn, .slice ao k xc] 55)) := (Chg.refl _ _).alloc _
    have k2 : Chg [] w ((w.alloc (.cells #[.float .f64 xb, .int .i64 0, .int .i64 xn, .slice ao k xc] 55)).alloc (.cells #[] 5)) := k1.alloc _
    have HB := Lib.hid hbr
    have hao : ao ≠ none := fun e => by have := (hbr.src.2.1 e).1; omega
    have m1 : (w.alloc (.cells #[.float .f64 xb, .int .i64 0, .int .i64 xn, .slice ao k xc] 55)).cell? ⟨w.heap.size, 1, none⟩ = some (.int .i64 0) := by rw [cell_of_heap (alloc_heap w _)]; rfl
    have m3 : (w.alloc (.cells #[.float .f64 xb, .int .i64 0, .int .i64 xn, .slice ao k xc] 55)).cell? ⟨w.heap.size, 3, none⟩ = some (.slice ao k xc) := by rw [cell_of_heap (alloc_heap w _)]; rfl
    have n3 : ((w.alloc (.cells #[.float .f64 xb, .int .i64 0, .int .i64 xn, .slice ao k xc] 55)).alloc (.cells #[] 5)).cell? ⟨w.heap.size, 3, none⟩ = some (.slice ao k xc) := by rw [cell_of_heap (alloc_keeps (alloc_heap w _))]; rfl
    have K1 := Lib.hid k1
    have K2 := Lib.hid k2
    have hk3 : k ≤ k := by omega
    have O0 : ((w.alloc (.cells #[.float .f64 xb, .int .i64 0, .int .i64 xn, .slice ao k xc] 55)).alloc (.cells #[] 5)).ownsRow w.heap.size 5 1 (.slice (some ⟨w.heap.size + 1, 0, none⟩) 0 0) 0 [] := by
      have := owns_empty (w.alloc (.cells #[.float .f64 xb, .int .i64 0, .int .i64 xn, .slice ao k xc] 55)) w.heap.size 5 (by simp)
      simpa using this
    have S2 := Lib.hid ((src_take HB.out.src hk3).chg0 (hc0.trans K2.out (U := []) (by simp) (by simp)))
    have HL2 := Lib.hid (show (valsOf .u8 (zs.take k)).length = k * 1 by rw [valsOf_length]; simp; omega)
    have HO0 := Lib.hid O0
    have Z7 := Lib.hid (K2.out.cell x7 (by simp))
    clear O0 h k1 k2 x4 x5 x6 x8 x9 x10 hbr
    go_enter Try.func49, Try.ntmps49
    go_wp2_with (first
      | (at_builtin; refine wpList_append_src rfl (.tmp 50) (.tmp 54) 42 rfl w.heap.size 5 i0 (.int .u8 0) 1 1 Try.underlying42 hi hz0 hz1 hz2 rfl (by decide) _ 0 [] (by rfl) HO0.out ao k xc (valsOf .u8 (zs.take k)) (by rfl) HL2.out S2.out.2.1 S2.out.2.2 (oneCell_vals _ _) (by unfold maxLen; omega) (by omega) K2.out.size (fun v6 w6 O6 C6 _ => ?_); have D6 := Lib.hid (K2.out.trans C6 (U := []) (by simp) (by simp [Value.ownBlock])); rw [List.nil_append, Nat.zero_add] at O6; obtain ⟨a6, c6, rfl, _, _⟩ := owns_srcAt O6; have H6 := Lib.hid O6; have A6 := (Chg.refl [] w6).alloc (.cells #[] 55); have q7 := A6.cell (C6.cell Z7.out (by simp [Value.ownBlock]; have := heap_lt HH.out.hM; omega)) (by simp); have q3 := A6.cell (C6.cell n3 (by simp [Value.ownBlock])) (by simp); have Z67 := Lib.hid (C6.cell Z7.out (by simp [Value.ownBlock]; have := heap_lt HH.out.hM; omega)); have Z63 := Lib.hid (C6.cell n3 (by simp [Value.ownBlock])); have Z6 := Lib.hid (show w.heap.size + 2 ≤ w6.heap.size by have := C6.size; simpa using this); have HA6 := Lib.hid A6; clear O6 C6 A6)
      | (at_builtin; refine wpList_append_off rfl (.tmp 56) (.tmp 60) 25 rfl 55 j0 (.agg #[.float .f64 0, .int .i64 0, .int .i64 0, .slice none 0 0]) 4 48 Try.underlying25 hj hy0 hy1 hy2 rfl (by decide) _ 0 [] (by rfl) (HasRow.fresh _ _ (alloc_heap w6 _)) ⟨g, off, none⟩ (L.length + 1) cap (cellsI (⟨xb, 0, xn, ao, k, xc, zs⟩ :: L)) (by rfl) (by rw [cellsI_length]; rfl) (HasRow.at (n := L.length + 1) (cap := cap) ((HH.out.row.chg D6.out (by simp)).chg HA6.out (by simp)) (by omega)) (cellsI_one _) (by unfold maxLen; omega) (by omega) (fun v7 w7 R7 C7 B7 => ?_); obtain ⟨g7, off7, cap7, rfl, R8, hB7, D7, r7, r3, y3, yf, yg, hn7, hn8, hn9, hn10, O7, hlt6, hs7, hc7, hc8⟩ := rest_made HH.out D6.out Z6.out Z67.out Z63.out H6.out R7 C7 B7; have HR7 := Lib.hid R8; have HD7 := Lib.hid D7; have HO7 := Lib.hid (And.intro O7 hlt6); have HB7 := Lib.hid (And.intro hB7 hs7); dsimp only at r3 y3; clear C7 B7 R7 R8 D7 O7 hlt6 hB7 hs7 q7 q3))
    all_goals (
      refine ⟨rfl, _, by simp [results, Try.results49, go_sem] <;> rfl, ?_⟩
      first
        | (obtain ⟨e1, e2, e3, e4, e5⟩ := rest_whole (off8 := off7) (c8 := 0) HH.out HD7.out HO7.out HB7.out (by have := Z6.out; omega) hn7 HR7.out (by rw [if_pos (by assumption)]) (by omega) rfl
           exact ⟨_, rfl, e1, e2, e3, _, by rw [if_pos rfl]; exact e4, e5⟩)
        | (obtain ⟨e1, e2, e3, e4, e5⟩ := rest_whole (off8 := off7 + 4) (c8 := cap7 - 1) HH.out HD7.out HO7.out HB7.out (by have := Z6.out; omega) hn7 HR7.out (by rw [if_neg (by assumption)]) rfl rfl
           exact ⟨_, rfl, e1, e2, e3, _, by rw [if_pos rfl]; exact e4, e5⟩))
end Go.Proofs.Ytmcbgpjphjacjaa
