/-
  The queue: what it is in memory, and the contracts of New, Len, Push.
-/
import Derived.Test.YtmcbgpjphjacjaaQueI
namespace Go.Proofs.Ytmcbgpjphjacjaa
set_option linter.unusedVariables false
set_option maxRecDepth 100000
open Go.RowKit

/-- A queue that stands for the list M, in order; p were pushed. -/
structure QueIs (w : World) (bQ : Nat) (v : Value) (M : List Ele) (p : Nat) : Prop where
  hQ : w.heap[bQ]? = some (.cells #[v, .int .i64 (p : Nat)] 133 (0, 0))
  row : ∃ H, w.ownsRow 0 139 3 v H.length (cellsE H) ∧ Stands oE H M
  ne : v.ownBlock ≠ some bQ
  ok : ∀ x ∈ M, Wd x.1 ∧ 0 ≤ x.2.2 ∧ x.2.2 < (p : Int)
  most : M.length ≤ 4096
  pb : p ≤ 1000000

theorem QueIs.chg {w w' : World} {bQ : Nat} {v : Value} {M : List Ele} {p : Nat} {S : List Nat} (h : QueIs w bQ v M p) (c : Chg S w w') (hb : bQ ∉ S) (hv : ∀ k, v.ownBlock = some k → k ∉ S) : QueIs w' bQ v M p := by
  obtain ⟨H, ho, hs⟩ := h.row
  refine ⟨c.heap h.hQ hb, ⟨H, ⟨ho.1, ho.2.imp id ?_⟩, hs⟩, h.ne, h.ok, h.most, h.pb⟩
  rintro ⟨g, cap, cur, rfl, h1, h2, h3⟩
  exact ⟨g, cap, cur, rfl, h1, c.heap h2 (hv g rfl), h3⟩

theorem owns_slice {w : World} {base : Nat} {e : TypeId} {size : Nat} {v : Value} {n : Nat} {xs : List Value} (h : w.ownsRow base e size v n xs) : ∃ ao c, v = .slice ao n c := by
  rcases h.2 with ⟨rfl, rfl⟩ | ⟨g, cap, cur, rfl, _⟩
  · exact ⟨none, 0, rfl⟩
  · exact ⟨_, _, rfl⟩

theorem QueIs.slice {w : World} {bQ : Nat} {v : Value} {M : List Ele} {p : Nat} (h : QueIs w bQ v M p) : ∃ ao c, v = .slice ao M.length c := by
  obtain ⟨H, ho, hs⟩ := h.row
  rw [hs.len]; exact owns_slice ho

theorem QueIs.cell0 {w : World} {bQ : Nat} {v : Value} {M : List Ele} {p : Nat} (h : QueIs w bQ v M p) : w.cell? ⟨bQ, 0, none⟩ = some v := by rw [cell_of_heap h.hQ]; rfl
theorem QueIs.cell1 {w : World} {bQ : Nat} {v : Value} {M : List Ele} {p : Nat} (h : QueIs w bQ v M p) : w.cell? ⟨bQ, 1, none⟩ = some (.int .i64 (p : Nat)) := by rw [cell_of_heap h.hQ]; rfl
theorem QueIs.lt {w : World} {bQ : Nat} {v : Value} {M : List Ele} {p : Nat} (h : QueIs w bQ v M p) : bQ < w.heap.size := heap_lt h.hQ
theorem QueIs.lt2 {w : World} {bQ : Nat} {v : Value} {M : List Ele} {p : Nat} (h : QueIs w bQ v M p) : ∀ k, v.ownBlock = some k → k < w.heap.size := by
  obtain ⟨H, ho, hs⟩ := h.row
  exact fun k hk => (ho.lt k hk).2

set_option maxHeartbeats 1000000 in
theorem qLen_any (bQ : Nat) (v : Value) (M : List Ele) (p : Nat) (w : World) (h : QueIs w bQ v M p) :
    Calls Try.prog 91 #[.pointer (some ⟨bQ, 0, none⟩)] w fun e w' => e = .returned (.int .i64 (M.length : Nat)) ∧ w = w' := by
  obtain ⟨ao, c, rfl⟩ := h.slice
  have h0 := h.cell0
  go_enter Try.func91, Try.ntmps91
  go_wp2_with fail
  go_ret
  exact ⟨rfl, rfl⟩

set_option maxHeartbeats 1000000 in
theorem qNew_any (w : World) :
    Calls Try.prog 54 #[] w fun e w' => e = .returned (.pointer (some ⟨w.heap.size, 0, none⟩)) ∧ Chg [] w w' ∧ QueIs w' w.heap.size (.slice none 0 0) [] 0 := by
  go_enter Try.func54, Try.ntmps54
  go_wp2_with fail
  go_ret
  refine ⟨rfl, (Chg.refl _ _).alloc _, ⟨alloc_heap w _, ⟨[], World.ownsRow_nil _ _ _ _, ⟨fun k _ hk => by simp at hk, List.Pairwise.nil, List.Perm.refl _⟩⟩, by simp [Value.ownBlock], by simp, by simp, by omega⟩⟩

set_option maxHeartbeats 1000000 in
theorem qPush_full (bQ : Nat) (v : Value) (M : List Ele) (p : Nat) (b : Nat) (n : Int) (w : World) (h : QueIs w bQ v M p) (hf : 4096 ≤ M.length) :
    Calls Try.prog 57 #[.pointer (some ⟨bQ, 0, none⟩), .float .f64 b, .int .i64 n] w fun e w' => e = .returned (.int .i64 4) ∧ w = w' := by
  obtain ⟨ao, c, rfl⟩ := h.slice
  have h0 := h.cell0
  have hf' : (4096 : Int) ≤ (M.length : Int) := by omega
  go_enter Try.func57, Try.ntmps57
  go_wp2_with fail
  go_ret
  exact ⟨rfl, rfl⟩

def QPushPost (bQ : Nat) (v : Value) (M : List Ele) (p : Nat) (x : Ele) (w : World) (e : Ending) (w' : World) : Prop :=
  e = .returned (.int .i64 0) ∧ Chg (bQ :: v.ownBlock.toList) w w' ∧ ∃ v', QueIs w' bQ v' (insQ oE M x) (p + 1) ∧ (∀ k, v'.ownBlock = some k → v.ownBlock = some k ∨ w.heap.size ≤ k)

set_option maxHeartbeats 2000000 in
theorem qPush_any (bQ : Nat) (v : Value) (M : List Ele) (p : Nat) (b : Nat) (n : Int) (w : World) (h : QueIs w bQ v M p) (hf : M.length < 4096) (hb : Wd b) (hp : p < 1000000) :
    Calls Try.prog 57 #[.pointer (some ⟨bQ, 0, none⟩), .float .f64 b, .int .i64 n] w (QPushPost bQ v M p (b, n, (p : Int)) w) := by
  obtain ⟨ao, c, rfl⟩ := h.slice
  have h0 := h.cell0
  have h1 := h.cell1
  have hf' : ¬ (4096 : Int) ≤ (M.length : Int) := by omega
  go_enter Try.func57, Try.ntmps57
  go_wp2_with fail
  refine wp_region_tail 12 (by kernel_rfl) (by kernel_rfl) ?_
  simp only [List.take_succ_cons, List.take_zero, List.drop_succ_cons, List.drop_zero]
  repeat still_step
  refine wpStill_nil ?_
  obtain ⟨H, ho, hs⟩ := h.row
  have hl := hs.len
  rw [hl] at ho
  have ho' : w.drew.ownsRow 0 139 3 (.slice ao M.length c) H.length (cellsE H) := by rw [← hl]; exact (show w.ownsRow _ _ _ _ _ _ from by rw [hl]; exact ho)
  have hQ := Lib.hid h.hQ
  have HL := Lib.hid hl
  have HH := Lib.hid h
  have HS := Lib.hid hs
  have hokM := h.ok
  have hpb := h.pb
  have hok : ∀ y ∈ H, EleOk y := fun y hy => by
    obtain ⟨k1, k2, k3⟩ := hokM y (hs.perm.mem_iff.2 hy)
    exact ⟨k1, k2, by omega⟩
  have hne := h.ne
  have hlt := h.lt
  clear h0 h1 h ho hl hs hokM
  go_wp2_with fail
  refine (heapPush_any bQ _ H _ (b, n, (p : Int)) _ (show w.drew.heap[bQ]? = _ from hQ.out) hne ho' HS.out.heap hok ⟨hb, (by show (0 : Int) ≤ (p : Int); omega), (by show (p : Int) < _; omega)⟩ (by have := HL.out; omega)).mono ?_
  rintro e w1 ⟨rfl, C1, v1, H1, hb1, O1, P1, I1, N1, B1⟩
  have k1 : w1.cell? ⟨bQ, 1, none⟩ = some (.int .i64 (p : Nat)) := by rw [cell_of_heap hb1]; rfl
  have f1 := free_of_heap hb1 1
  have HB1 := Lib.hid hb1
  have HO1 := Lib.hid O1
  clear hb1 O1 hQ ho' hok
  have C1' := C1.of_drew
  go_wp2_with fail
  go_ret
  refine ⟨rfl, C1'.setCell (Or.inl List.mem_cons_self) _, v1, ⟨?_, ⟨H1, owns_set HO1.out bQ 1 _ N1, ?_⟩, N1, ?_, ?_, by omega⟩, B1⟩
  · rw [setCell_heap _ HB1.out]; rfl
  · refine HS.out.push P1 I1 (fun y hy e => ?_)
    obtain ⟨_, k2, k3⟩ := HH.out.ok y hy
    unfold oE at e
    simp only [Int.toNat_natCast] at e
    omega
  · intro y hy
    rcases List.mem_append.1 ((insQ_perm oE M _).mem_iff.1 hy) with hy | hy
    · obtain ⟨k1, k2, k3⟩ := HH.out.ok y hy
      exact ⟨k1, k2, by omega⟩
    · rw [List.mem_singleton.1 hy]; exact ⟨hb, (by show (0 : Int) ≤ (p : Int); omega), by show (p : Int) < _; omega⟩
  · rw [(insQ_perm oE M _).length_eq]; simp; omega
end Go.Proofs.Ytmcbgpjphjacjaa
