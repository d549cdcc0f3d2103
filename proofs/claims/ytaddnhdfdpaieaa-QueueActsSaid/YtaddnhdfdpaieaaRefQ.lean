/-
  The reference queue: its state; Pop.
-/
import Derived.Test.YtaddnhdfdpaieaaRefK
import Derived.Test.YtaddnhdfdpaieaaRowO
namespace Go.Proofs.Ytaddnhdfdpaieaa
set_option linter.unusedVariables false
open Go.RowKit

attribute [local go_sem] run_store_float'

def cellsO (L : List Ele) : List Value := L.flatMap fun x => [.float .f64 x.1, .int .i64 x.2.1]

theorem cellsO_cons (x : Ele) (L : List Ele) : cellsO (x :: L) = [.float .f64 x.1, .int .i64 x.2.1] ++ cellsO L := by unfold cellsO; rw [List.flatMap_cons]

theorem cellsO_append (A B : List Ele) : cellsO (A ++ B) = cellsO A ++ cellsO B := by unfold cellsO; rw [List.flatMap_append]

theorem cellsO_length (L : List Ele) : (cellsO L).length = L.length * 2 := by
  induction L with
  | nil => rfl
  | cons x L ih => rw [cellsO_cons, List.length_append, ih]; simp; omega

structure RefQ (w : World) (bM : Nat) (v : Value) (L : List Ele) : Prop where
  hM : w.heap[bM]? = some (.cells #[v] 48 (0, 0))
  row : HasRow w 51 2 v L.length (cellsO L)
  ne : v.ownBlock ≠ some bM

theorem RefQ.chg {w w' : World} {bM : Nat} {v : Value} {L : List Ele} {S : List Nat} (h : RefQ w bM v L) (c : Chg S w w') (hb : bM ∉ S) (hv : ∀ k, v.ownBlock = some k → k ∉ S) : RefQ w' bM v L :=
  ⟨c.heap h.hM hb, h.row.chg c hv, h.ne⟩

theorem RefQ.cell0 {w : World} {bM : Nat} {v : Value} {L : List Ele} (h : RefQ w bM v L) : w.cell? ⟨bM, 0, none⟩ = some v := by rw [cell_of_heap h.hM]; rfl

/-- The slice, its head's cells told, and the slice of the rest. -/
theorem RefQ.head {w : World} {bM : Nat} {v : Value} {x : Ele} {L : List Ele} (h : RefQ w bM v (x :: L)) :
    ∃ g off cap, v = .slice (some ⟨g, off, none⟩) (L.length + 1) cap ∧ w.cell? ⟨g, off, none⟩ = some (.float .f64 x.1) ∧ w.cell? ⟨g, off + 1, none⟩ = some (.int .i64 x.2.1) ∧ L.length + 1 ≤ cap ∧ cap ≤ maxLen ∧ g ≠ bM := by
  obtain ⟨g, off, cap, e, hc, _⟩ := h.row.cells (by simp)
  obtain ⟨ao, c, e2, l1, l2, _⟩ := h.row.slice
  have e3 := e.symm.trans e2
  injection e3 with _ _ e4
  subst e4
  refine ⟨g, off, cap, by simpa using e, ?_, hc 1 _ (by rw [cellsO_cons]; rfl), by simpa using l1, l2, fun e5 => h.ne (by rw [e]; show some g = _; rw [e5])⟩
  have := hc 0 (.float .f64 x.1) (by rw [cellsO_cons]; rfl)
  rwa [Nat.add_zero] at this

/-- Behind 'q.L = q.L[1:]'. -/
theorem RefQ.pop {w : World} {bM g off cap : Nat} {x : Ele} {L : List Ele} (h : RefQ w bM (.slice (some ⟨g, off, none⟩) (L.length + 1) cap) (x :: L)) (off' : Nat) (he : off' = if cap = 1 then off else off + 2) :
    RefQ (w.setCell ⟨bM, 0, none⟩ (.slice (some ⟨g, off', none⟩) L.length (cap - 1))) bM (.slice (some ⟨g, off', none⟩) L.length (cap - 1)) L := by
  have hne : g ≠ bM := fun e => h.ne (by show some g = _; rw [e])
  have h1 := setCell_heap (i := 0) (.slice (some ⟨g, off', none⟩) L.length (cap - 1)) h.hM
  have c1 : Chg [bM] w (w.setCell ⟨bM, 0, none⟩ (.slice (some ⟨g, off', none⟩) L.length (cap - 1))) := (Chg.refl [bM] w).setCell (Or.inl List.mem_cons_self) _
  refine ⟨h1, ?_, fun e => hne (by injection e)⟩
  have hr : HasRow w 51 2 (.slice (some ⟨g, off, none⟩) (L.length + 1) cap) (L.length + 1) (cellsO (x :: L)) := h.row
  have ht := hr.tail (some ⟨g, off', none⟩) (by
    rw [he]
    by_cases hc : cap = 1
    · rw [if_pos hc, if_pos hc]
    · rw [if_neg hc, if_neg hc, Option.map_some, Addr.add_lit])
  rw [cellsO_cons, List.drop_left' (by rfl)] at ht
  exact ht.chg c1 (fun k hk hm => hne (by injection hk with hk; have h2 := List.mem_singleton.1 hm; subst h2; exact hk))

theorem refPop_end {w : World} {bM g off cap : Nat} {x : Ele} {L : List Ele} (h : RefQ w bM (.slice (some ⟨g, off, none⟩) (L.length + 1) cap) (x :: L)) (off' : Nat) (he : off' = if cap = 1 then off else off + 2) (W : World)
    (hW : W = (((((w.alloc (.cells #[.float .f64 0, .int .i64 0] 51)).alloc (.cells #[.float .f64 x.1, .int .i64 x.2.1] 51)).setCell ⟨bM, 0, none⟩ (.slice (some ⟨g, off', none⟩) L.length (cap - 1))).setCell ⟨w.heap.size, 0, none⟩ (.float .f64 x.1)).setCell ⟨w.heap.size, 1, none⟩ (.int .i64 x.2.1))) :
    W.cell? ⟨w.heap.size, 0, none⟩ = some (.float .f64 x.1) ∧ W.cell? ⟨w.heap.size, 1, none⟩ = some (.int .i64 x.2.1) ∧ Chg [bM] w W ∧ RefQ W bM (.slice (some ⟨g, off', none⟩) L.length (cap - 1)) L := by
  have hz : w.heap.size ≠ bM := fun e => by have := heap_lt h.hM; omega
  have hg : g < w.heap.size := h.row.lt g rfl
  have k2 : Chg [] w ((w.alloc (.cells #[.float .f64 0, .int .i64 0] 51)).alloc (.cells #[.float .f64 x.1, .int .i64 x.2.1] 51)) := ((Chg.refl _ _).alloc _).alloc _
  have hs : ((w.alloc (.cells #[.float .f64 0, .int .i64 0] 51)).alloc (.cells #[.float .f64 x.1, .int .i64 x.2.1] 51)).heap[w.heap.size]? = some (.cells #[.float .f64 0, .int .i64 0] 51 (0, 0)) := alloc_keeps (alloc_heap w _)
  have h2 := h.chg k2 (by simp) (by simp)
  generalize (w.alloc (.cells #[.float .f64 0, .int .i64 0] 51)).alloc (.cells #[.float .f64 x.1, .int .i64 x.2.1] 51) = w2 at *
  have h3 := h2.pop off' he
  have k3 : Chg [bM] w (w2.setCell ⟨bM, 0, none⟩ (.slice (some ⟨g, off', none⟩) L.length (cap - 1))) := (k2.trans (Chg.refl [bM] w2) (by simp) (fun y hy _ => hy)).setCell (Or.inl List.mem_cons_self) _
  have hs3 : (w2.setCell ⟨bM, 0, none⟩ (.slice (some ⟨g, off', none⟩) L.length (cap - 1))).heap[w.heap.size]? = some (.cells #[.float .f64 0, .int .i64 0] 51 (0, 0)) := by rw [setCell_heap_ne _ hz]; exact hs
  generalize w2.setCell ⟨bM, 0, none⟩ (.slice (some ⟨g, off', none⟩) L.length (cap - 1)) = w3 at *
  have e4 := setCell_heap (i := 0) (.float .f64 x.1) hs3
  have e5 := setCell_heap (i := 1) (.int .i64 x.2.1) e4
  have c5 : Chg [w.heap.size] w3 ((w3.setCell ⟨w.heap.size, 0, none⟩ (.float .f64 x.1)).setCell ⟨w.heap.size, 1, none⟩ (.int .i64 x.2.1)) := ((Chg.refl [w.heap.size] w3).setCell (p := ⟨w.heap.size, 0, none⟩) (Or.inl List.mem_cons_self) _).setCell (p := ⟨w.heap.size, 1, none⟩) (Or.inl List.mem_cons_self) _
  subst hW
  refine ⟨by rw [cell_of_heap e5]; rfl, by rw [cell_of_heap e5]; rfl, k3.trans c5 (fun y hy => hy) (fun y hy hl => by have := List.mem_singleton.1 hy; omega), h3.chg c5 (fun hm => hz (List.mem_singleton.1 hm).symm) (fun k hk hm => ?_)⟩
  injection hk with hk
  have := List.mem_singleton.1 hm
  have hk' : g = k := hk
  omega

def RefPopPost (bM : Nat) (v : Value) (L : List Ele) (w : World) (e : Ending) (w' : World) : Prop :=
  ∃ r v', e = .returned r ∧ Chg [bM] w w' ∧ RefQ w' bM v' L ∧ v'.ownBlock = v.ownBlock

set_option maxHeartbeats 4000000 in
theorem refPop_any (bM : Nat) (v : Value) (x : Ele) (L : List Ele) (w : World) (h : RefQ w bM v (x :: L)) :
    Calls Try.prog 21 #[.pointer (some ⟨bM, 0, none⟩)] w (RefPopPost bM v L w) := by
  obtain ⟨g, off, cap, rfl, c1, c2, l1, l2, hne⟩ := h.head
  have h0 := h.cell0
  have hL : ¬ ((L.length : Int) + 1 = 0) := by omega
  have hf := free_of_heap h.hM 0
  have HH := Lib.hid h
  unfold maxLen at l2
  clear h
  have k1 : Chg [] w (w.alloc (.cells #[.float .f64 0, .int .i64 0] 51)) := (Chg.refl _ _).alloc _
  have k2 : Chg [] w ((w.alloc (.cells #[.float .f64 0, .int .i64 0] 51)).alloc (.cells #[.float .f64 x.1, .int .i64 x.2.1] 51)) := k1.alloc _
  have a0 := k1.cell h0 (by simp)
  have a1 := k1.cell c1 (by simp)
  have a2 := k1.cell c2 (by simp)
  have b0 := k2.cell h0 (by simp)
  have bf := free_of_heap (k2.heap HH.out.hM (by simp)) 0
  have hz : w.heap.size ≠ bM := fun e => by have := heap_lt HH.out.hM; omega
  have hz2 : w.heap.size + 1 ≠ bM := fun e => by have := heap_lt HH.out.hM; omega
  clear h0 c1 c2 k1 k2 hf
  by_cases hc : cap = 1
  · subst hc
    obtain rfl : L = [] := List.eq_nil_of_length_eq_zero (by omega)
    go_enter Try.func21, Try.ntmps21
    go_wp2_with fail
    obtain ⟨f1, f2, f3, f4⟩ := refPop_end HH.out off (by rw [if_pos rfl]) _ rfl
    exact ⟨rfl, _, by simp [results, Try.results21, go_sem]; rfl, _, _, rfl, f3, f4, rfl⟩
  · go_enter Try.func21, Try.ntmps21
    go_wp2_with fail
    obtain ⟨f1, f2, f3, f4⟩ := refPop_end HH.out (off + 2) (by rw [if_neg hc]) _ rfl
    exact ⟨rfl, _, by simp [results, Try.results21, go_sem]; rfl, _, _, rfl, f3, f4, rfl⟩
end Go.Proofs.Ytaddnhdfdpaieaa
