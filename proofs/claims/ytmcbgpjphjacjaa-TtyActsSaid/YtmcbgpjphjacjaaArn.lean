/-
  Package arena beside the queue: what an arena is in memory, and the contracts of New, Insert, Len, Cap, Copy, Wipe.
-/
import Derived.Test.YtmcbgpjphjacjaaProg
import Derived.Test.YtmcbgpjphjacjaaChg
import GoSem.Core.Value
import Derived.Laws.CopyOwn
namespace Go.Proofs.Ytmcbgpjphjacjaa.Arn
set_option linter.unusedVariables false
set_option linter.unusedSimpArgs false
set_option maxRecDepth 100000
open Go.RowKit

/-- What the cells hold: the bytes, and noughts behind them. -/
def cellsOf (N : Nat) (l : List Int) : List Value := (l ++ List.replicate (N - l.length) 0).map (Value.int .u8)

theorem cellsOf_length (N : Nat) (l : List Int) (h : l.length ≤ N) : (cellsOf N l).length = N := by unfold cellsOf; simp; omega

/-- The cells behind the two copies of Insert. -/
theorem insert_cells (N : Nat) (l ys : List Int) (p : Nat) (hp : p ≤ l.length) (hm : ys.length ≤ N - l.length) (hle : l.length ≤ N) :
    splice (splice (cellsOf N l) (p + ys.length) ((l.drop p).map (Value.int .u8))) p (ys.map (Value.int .u8)) = cellsOf N (l.take p ++ ys ++ l.drop p) := by
  unfold cellsOf splice
  rw [← List.map_take, ← List.map_drop, ← List.map_append, ← List.map_append]
  rw [← List.map_take, ← List.map_drop, ← List.map_append, ← List.map_append]
  congr 1
  simp only [List.length_map, List.length_drop, List.length_append, List.length_take]
  have hl : l = l.take p ++ l.drop p := (List.take_append_drop p l).symm
  have hlt : (l.take p).length = p := by simp; omega
  have hld : (l.drop p).length = l.length - p := by simp
  generalize hA : l.take p = A at *
  generalize hB : l.drop p = B at *
  have hlen : l.length = p + B.length := by rw [hl]; simp; omega
  generalize hZ : N - l.length = Z at *
  rw [hl]
  apply List.ext_getElem?
  intro i
  simp only [List.getElem?_append, List.getElem?_take, List.getElem?_drop, List.length_append, List.length_take, List.length_drop, List.length_replicate, List.getElem?_replicate]
  subst hlt
  repeat' split
  all_goals first | (exfalso; omega) | rfl | (congr 1; omega)


/-- The cells behind the copy and the clear of Delete. -/
theorem delete_cells (N : Nat) (l : List Int) (i j : Nat) (hij : i ≤ j) (hj : j ≤ l.length) (hle : l.length ≤ N) :
    splice (splice (cellsOf N l) i ((l.drop j).map (Value.int .u8))) (l.length - (j - i)) (List.replicate (j - i) (Value.int .u8 0)) = cellsOf N (l.take i ++ l.drop j) := by
  have er : List.replicate (j - i) (Value.int .u8 0) = (List.replicate (j - i) (0 : Int)).map (Value.int .u8) := by simp
  rw [er]
  unfold cellsOf splice
  rw [← List.map_take, ← List.map_drop, ← List.map_append, ← List.map_append]
  rw [← List.map_take, ← List.map_drop, ← List.map_append, ← List.map_append]
  congr 1
  apply List.ext_getElem?
  intro x
  simp only [List.getElem?_append, List.getElem?_take, List.getElem?_drop, List.length_append, List.length_take, List.length_drop, List.length_map, List.length_replicate, List.getElem?_replicate]
  repeat' split
  all_goals first | (exfalso; omega) | rfl | (congr 1; omega)

theorem wipe_cells (N : Nat) (l : List Int) (hle : l.length ≤ N) : splice (cellsOf N l) 0 (List.replicate N (Value.int .u8 0)) = cellsOf N [] := by
  have er : List.replicate N (Value.int .u8 0) = (List.replicate N (0 : Int)).map (Value.int .u8) := by simp
  rw [er]
  unfold cellsOf splice
  simp
  omega

theorem cells_at (N : Nat) (l : List Int) (i j : Nat) (v : Value) (h : ((l.drop i).map (Value.int .u8))[j]? = some v) : (cellsOf N l).toArray[i + j]? = some v := by
  simp only [List.getElem?_map, List.getElem?_drop, Option.map_eq_some_iff] at h
  obtain ⟨n, hn, rfl⟩ := h
  have hlt : i + j < l.length := (List.getElem?_eq_some_iff.1 hn).1
  have he : l[i + j] = n := by rw [List.getElem?_eq_getElem hlt] at hn; exact Option.some.inj hn
  simp [cellsOf, List.getElem?_append, hlt, he]

structure ArenaIs (w : World) (bA bC N : Nat) (l : List Int) : Prop where
  hA : w.heap[bA]? = some (.cells #[.slice (some ⟨bC, 0, none⟩) N N, .int .i64 (l.length : Nat)] 101 (0, 0))
  hC : w.heap[bC]? = some (.cells (cellsOf N l).toArray 5 (0, 0))
  le : l.length ≤ N
  most : N ≤ 4096
  pos : 1 ≤ N
  ne : bA ≠ bC

theorem ArenaIs.chg {w w' : World} {bA bC N : Nat} {l : List Int} {S : List Nat} (h : ArenaIs w bA bC N l) (c : Chg S w w') (hA : bA ∉ S) (hC : bC ∉ S) : ArenaIs w' bA bC N l :=
  ⟨c.heap h.hA hA, c.heap h.hC hC, h.le, h.most, h.pos, h.ne⟩

theorem ArenaIs.drewN {w : World} {bA bC N : Nat} {l : List Int} (h : ArenaIs w bA bC N l) (n : Nat) : ArenaIs (w.drewN n) bA bC N l := ⟨h.hA, h.hC, h.le, h.most, h.pos, h.ne⟩
theorem ArenaIs.drew {w : World} {bA bC N : Nat} {l : List Int} (h : ArenaIs w bA bC N l) : ArenaIs w.drew bA bC N l := ⟨h.hA, h.hC, h.le, h.most, h.pos, h.ne⟩

theorem ArenaIs.cell0 {w : World} {bA bC N : Nat} {l : List Int} (h : ArenaIs w bA bC N l) : w.cell? ⟨bA, 0, none⟩ = some (.slice (some ⟨bC, 0, none⟩) N N) := by rw [cell_of_heap h.hA]; rfl
theorem ArenaIs.cell1 {w : World} {bA bC N : Nat} {l : List Int} (h : ArenaIs w bA bC N l) : w.cell? ⟨bA, 1, none⟩ = some (.int .i64 (l.length : Nat)) := by rw [cell_of_heap h.hA]; rfl

/-- Bytes that lie somewhere: a slice's first cells. -/
def SrcIs (w : World) (ao : Option Addr) (m : Nat) (ys : List Int) (S : List Nat) : Prop :=
  ys.length = m ∧ (0 < m → ∃ ad, ao = some ad ∧ ad.block ∉ S ∧ ∀ j v, (ys.map (Value.int .u8))[j]? = some v → w.cell? (ad.add j) = some v)

def insE (N n : Nat) (at_ : Int) (m : Nat) : Int := if at_ < 0 ∨ (n : Int) < at_ then 3 else if N - n < m then 4 else 0
def insL (N : Nat) (l : List Int) (at_ : Int) (ys : List Int) : List Int := if insE N l.length at_ ys.length = 0 then l.take at_.toNat ++ ys ++ l.drop at_.toNat else l

theorem SrcIs.chg {w w' : World} {ao : Option Addr} {m : Nat} {ys : List Int} {S T : List Nat} (h : SrcIs w ao m ys S) (c : Chg T w w') (hT : ∀ x ∈ T, x ∈ S) : SrcIs w' ao m ys S :=
  ⟨h.1, fun hm => by
    obtain ⟨ad, e, hb, hc⟩ := h.2 hm
    exact ⟨ad, e, hb, fun j v hv => c.cell (hc j v hv) (fun hx => hb (hT _ (by unfold Addr.add at hx; split at hx <;> exact hx)))⟩⟩

theorem SrcIs.drewN {w : World} {ao : Option Addr} {m : Nat} {ys : List Int} {S : List Nat} (h : SrcIs w ao m ys S) (n : Nat) : SrcIs (w.drewN n) ao m ys S := h

theorem oneCell_u8 (xs : List Int) : ∀ v ∈ xs.map (Value.int .u8), v.oneCell' = true := by
  intro v hv
  obtain ⟨n, _, rfl⟩ := List.mem_map.1 hv
  rfl

theorem zero5 : ∀ w : World, (zeroValue 5).run Try.prog w = .ok (.int .u8 0) w := fun w => by kernel_rfl
theorem info5 : (Try.prog.info? 5).map (fun i => i.size) = some 1 := by kernel_rfl

set_option maxHeartbeats 1000000 in
theorem insert_ok (bA bC N : Nat) (l : List Int) (p : Nat) (ao : Option Addr) (m c : Nat) (ys : List Int) (w : World) (h : ArenaIs w bA bC N l) (hs : SrcIs w ao m ys [bA, bC])
    (hp : p ≤ l.length) (hm : m ≤ N - l.length) :
    Calls Try.prog 22 #[.pointer (some ⟨bA, 0, none⟩), .int .i64 p, .slice ao m c] w fun e w' => e = .returned (.int .i64 0) ∧ Chg [bA, bC] w w' ∧ ArenaIs w' bA bC N (l.take p ++ ys ++ l.drop p) := by
  have h0 := h.cell0
  have h1 := h.cell1
  have f1 := free_of_heap h.hA 1
  have hle := h.le
  have hmost := h.most
  go_enter Try.func22, Try.ntmps22
  go_wp2_with fail
  go_quiet (fail)
  go_wp2_with fail
  have e1 : IntKind.i64.wrap ((p : Int) + (m : Int)) = (p : Int) + (m : Int) := IntWalk.i64_in _ (by omega)
  have e2 : (0 : Int) ≤ (p : Int) + (m : Int) := by omega
  have e3 : ((p : Int) + (m : Int)).toNat = p + m := by omega
  have e4 : (p : Int) + (m : Int) ≤ (N : Int) := by omega
  have e5 : (p : Int) ≤ (l.length : Int) := by omega
  have e6 : (l.length : Int) ≤ (N : Int) := by omega
  refine wp_region_tail 19 (by kernel_rfl) (by kernel_rfl) ?_
  simp only [List.take_succ_cons, List.take_zero, List.drop_succ_cons, List.drop_zero]
  repeat still_step
  refine wpStill_nil ?_
  refine wpList_copy_chg rfl (.tmp 43) (.tmp 53) 42 42 rfl 5 Try.underlying42 info5 _ _ _ _ _ _ rfl rfl bC (p + m) (cellsOf N l) 5 (show ((w.drewN nq).drew).heap[bC]? = _ from h.hC) ((l.drop p).map (Value.int .u8)) ?hn ?hpos ?hfit ?h1 ?k
  case hn => simp only [List.length_map, List.length_drop]; exact (Nat.min_eq_left (by omega)).symm
  case hpos =>
    intro hlen
    simp at hlen
    rw [if_neg (by omega), if_neg (by omega)]
    refine ⟨rfl, _, rfl, fun j v hv => ?_⟩
    show w.cell? _ = _
    rw [Addr.add_lit, cell_of_heap h.hC]
    exact cells_at N l p j v hv
  case hfit => simp [cellsOf_length N l hle]; omega
  case h1 => exact oneCell_u8 _
  intro w1 H1 C1'
  have C1 : Chg [bC] w w1 := C1'.of_drew.of_drewN
  have hne := h.ne
  have k0 := C1.cell h0 (by simpa using hne)
  have k1 := C1.cell h1 (by simpa using hne)
  have hs1 := hs.chg C1 (by simp)
  have hA1 := C1.heap h.hA (by simpa using hne)
  have g1 := free_of_heap hA1 1
  have HA1 := Lib.hid hA1
  clear h0 h1 f1 C1' hA1
  generalize (if N = p + m then some ({ block := bC, off := 0 } : Addr) else some { block := bC, off := p + m }) = d1
  generalize (if l.length = p then some ({ block := bC, off := 0 } : Addr) else some { block := bC, off := p }) = d2
  have e7 : IntKind.i64.wrap ((l.length : Int) + (m : Int)) = (l.length : Int) + (m : Int) := IntWalk.i64_in _ (by omega)
  have hn2 := Lib.hid (show (ys.map (Value.int .u8)).length = Nat.min m (N - p) by simp only [List.length_map]; rw [hs.1]; exact (Nat.min_eq_left (by omega)).symm)
  have hpos2 := Lib.hid (show 0 < (ys.map (Value.int .u8)).length → (if N = p then some ({ block := bC, off := 0 } : Addr) else some { block := bC, off := p }) = some { block := bC, off := p } ∧ ∃ ad, ao = some ad ∧ ∀ j v, (ys.map (Value.int .u8))[j]? = some v → w1.cell? (ad.add j) = some v by
    intro hlen
    rw [List.length_map, hs.1] at hlen
    obtain ⟨ad, e, _, hc⟩ := hs1.2 hlen
    exact ⟨if_neg (by omega), ad, e, hc⟩)
  have hfit2 := Lib.hid (show p + (ys.map (Value.int .u8)).length ≤ (splice (cellsOf N l) (p + m) ((l.drop p).map (Value.int .u8))).length by
    rw [List.length_map, length_splice _ _ _ (by simp [cellsOf_length N l hle]; omega), cellsOf_length N l hle, hs.1]; omega)
  go_wp2_with ((with_reducible show wpList _ _ _ (⟨some 62, _, _, _, _, _⟩ :: _) _ _); refine wpList_copy_chg rfl (.tmp 60) (.tmp 61) 42 42 rfl 5 Try.underlying42 info5 _ _ _ _ _ _ rfl rfl bC p _ 5 H1.out (ys.map (Value.int .u8)) hn2.out hpos2.out hfit2.out (oneCell_u8 _) (fun w2 H2 C2 => ?_); have k0' := C2.cell k0 (by simpa using hne); have k1' := C2.cell k1 (by simpa using hne); have HA2 := Lib.hid (C2.heap HA1.out (by simpa using hne)); have g1' := free_of_heap HA2.out 1; clear k0 k1 g1 hpos2 hfit2 hn2; generalize (if N = p then some ({ block := bC, off := 0 } : Addr) else some { block := bC, off := p }) = d3)
  go_ret
  have hl3 : (l.take p ++ ys ++ l.drop p).length = l.length + m := by simp; rw [← hs.1]; omega
  refine ⟨rfl, ?_, ?_⟩
  · exact ((C1.trans C2 (U := [bA, bC]) (by simp) (by simp)).setCell (by simp) _)
  · refine ⟨?_, ?_, by rw [hl3]; omega, hmost, h.pos, hne⟩
    · rw [setCell_heap _ HA2.out, hl3]; rfl
    · rw [setCell_heap_ne _ (Ne.symm hne), H2.out, ← hs.1, insert_cells N l ys p hp (by rw [hs.1]; exact hm) hle]

set_option maxHeartbeats 1000000 in
theorem insert_low (bA bC N : Nat) (l : List Int) (a : Int) (ao : Option Addr) (m c : Nat) (w : World) (h : ArenaIs w bA bC N l) (ha : a < 0) :
    Calls Try.prog 22 #[.pointer (some ⟨bA, 0, none⟩), .int .i64 a, .slice ao m c] w fun e w' => e = .returned (.int .i64 3) ∧ w = w' := by
  go_enter Try.func22, Try.ntmps22
  go_wp2_with fail
  go_ret
  exact ⟨rfl, rfl⟩

set_option maxHeartbeats 1000000 in
theorem insert_high (bA bC N : Nat) (l : List Int) (a : Int) (ao : Option Addr) (m c : Nat) (w : World) (h : ArenaIs w bA bC N l) (ha : (l.length : Int) < a) :
    Calls Try.prog 22 #[.pointer (some ⟨bA, 0, none⟩), .int .i64 a, .slice ao m c] w fun e w' => e = .returned (.int .i64 3) ∧ w = w' := by
  have h1 := h.cell1
  have ha0 : ¬ a < 0 := by omega
  go_enter Try.func22, Try.ntmps22
  go_wp2_with fail
  go_ret
  exact ⟨rfl, rfl⟩

set_option maxHeartbeats 1000000 in
theorem insert_full (bA bC N : Nat) (l : List Int) (a : Int) (ao : Option Addr) (m c : Nat) (w : World) (h : ArenaIs w bA bC N l) (ha : 0 ≤ a) (hb : a ≤ (l.length : Int)) (hm : N - l.length < m) :
    Calls Try.prog 22 #[.pointer (some ⟨bA, 0, none⟩), .int .i64 a, .slice ao m c] w fun e w' => e = .returned (.int .i64 4) ∧ Chg [] w w' := by
  have h0 := h.cell0
  have h1 := h.cell1
  have hle := h.le
  have hmost := h.most
  have hm' : (N : Int) - (l.length : Int) < (m : Int) := by omega
  go_enter Try.func22, Try.ntmps22
  go_wp2_with fail
  go_quiet (fail)
  go_wp2_with fail
  go_ret
  exact ⟨rfl, (Chg.refl _ _).drewN _⟩

theorem insert_any (bA bC N : Nat) (l : List Int) (a : Int) (ao : Option Addr) (m c : Nat) (ys : List Int) (w : World) (h : ArenaIs w bA bC N l) (hs : SrcIs w ao m ys [bA, bC]) :
    Calls Try.prog 22 #[.pointer (some ⟨bA, 0, none⟩), .int .i64 a, .slice ao m c] w fun e w' => e = .returned (.int .i64 (insE N l.length a m)) ∧ Chg [bA, bC] w w' ∧ ArenaIs w' bA bC N (insL N l a ys) := by
  have hle := h.le
  unfold insL insE
  rw [hs.1]
  by_cases h1 : a < 0
  · rw [if_pos (Or.inl h1)]
    exact (insert_low bA bC N l a ao m c w h h1).mono fun e w' ⟨he, hw⟩ => ⟨he, hw ▸ Chg.refl _ _, by rw [if_neg (by decide)]; exact hw ▸ h⟩
  · by_cases h2 : (l.length : Int) < a
    · rw [if_pos (Or.inr h2)]
      exact (insert_high bA bC N l a ao m c w h h2).mono fun e w' ⟨he, hw⟩ => ⟨he, hw ▸ Chg.refl _ _, by rw [if_neg (by decide)]; exact hw ▸ h⟩
    · rw [if_neg (by omega)]
      by_cases h3 : N - l.length < m
      · rw [if_pos h3]
        exact (insert_full bA bC N l a ao m c w h (by omega) (by omega) h3).mono fun e w' ⟨he, hw⟩ => ⟨he, hw.mono (by simp), by rw [if_neg (by decide)]; exact h.chg hw (by simp) (by simp)⟩
      · rw [if_neg h3, if_pos rfl]
        obtain ⟨p, rfl⟩ := Int.eq_ofNat_of_zero_le (by omega : 0 ≤ a)
        exact insert_ok bA bC N l p ao m c ys w h hs (by omega) (by omega)

set_option maxHeartbeats 1000000 in
theorem len_any (bA bC N : Nat) (l : List Int) (w : World) (h : ArenaIs w bA bC N l) :
    Calls Try.prog 23 #[.pointer (some ⟨bA, 0, none⟩)] w fun e w' => e = .returned (.int .i64 (l.length : Nat)) ∧ w = w' := by
  have h1 := h.cell1
  go_enter Try.func23, Try.ntmps23
  go_wp2_with fail
  go_ret
  exact ⟨rfl, rfl⟩

set_option maxHeartbeats 1000000 in
theorem cap_any (bA bC N : Nat) (l : List Int) (w : World) (h : ArenaIs w bA bC N l) :
    Calls Try.prog 40 #[.pointer (some ⟨bA, 0, none⟩)] w fun e w' => e = .returned (.int .i64 (N : Nat)) ∧ w = w' := by
  have h0 := h.cell0
  go_enter Try.func40, Try.ntmps40
  go_wp2_with fail
  go_ret
  exact ⟨rfl, rfl⟩
set_option maxHeartbeats 1000000 in
theorem copy_any (bA bC N : Nat) (l : List Int) (g off n c : Nat) (cur : List Value) (t : TypeId) (w : World) (h : ArenaIs w bA bC N l) (hg : w.heap[g]? = some (.cells cur.toArray t (0, 0))) (hfit : off + n ≤ cur.length) :
    Calls Try.prog 50 #[.pointer (some ⟨bA, 0, none⟩), .slice (some ⟨g, off, none⟩) n c] w fun e w' => e = .returned (.int .i64 (min l.length n : Nat)) ∧ Chg [g] w w' ∧
      w'.heap[g]? = some (.cells (splice cur off ((l.take n).map (Value.int .u8))).toArray t (0, 0)) := by
  have h0 := h.cell0
  have h1 := h.cell1
  have hle := h.le
  have hmost := h.most
  have e1 : (l.length : Int) ≤ (N : Int) := by omega
  have hlen : ((l.take n).map (Value.int .u8)).length = Nat.min l.length n := by simp [Nat.min_comm]
  have Hlen := Lib.hid hlen
  clear hlen
  go_enter Try.func50, Try.ntmps50
  go_wp2_with fail
  refine wp_region_tail 10 (by kernel_rfl) (by kernel_rfl) ?_
  simp only [List.take_succ_cons, List.take_zero, List.drop_succ_cons, List.drop_zero]
  repeat still_step
  refine wpStill_nil ?_
  refine wpList_copy_chg rfl (.tmp 7) (.tmp 16) 42 42 rfl 5 Try.underlying42 info5 _ _ _ _ _ _ rfl rfl g off cur t (show w.drew.heap[g]? = _ from hg) ((l.take n).map (Value.int .u8)) Hlen.out ?hpos ?hfit (oneCell_u8 _) ?k
  case hpos =>
    intro _
    refine ⟨rfl, _, rfl, fun j v hv => ?_⟩
    show w.cell? _ = _
    rw [Addr.add_lit, cell_of_heap h.hC]
    refine cells_at N l 0 j v ?_
    rw [List.drop_zero]
    simp only [List.getElem?_map, List.getElem?_take] at hv ⊢
    split at hv
    · exact hv
    · cases hv
  case hfit => rw [Hlen.out]; have : Nat.min l.length n ≤ n := Nat.min_le_right _ _; omega
  intro w1 H1 C1
  have hr : (goInt ((l.take n).map (Value.int .u8)).length) = .int .i64 (min l.length n : Nat) := by rw [Hlen.out]; rfl
  rw [hr]
  clear hr
  go_wp2_with fail
  go_ret
  exact ⟨rfl, C1.of_drew, H1.out⟩

set_option maxHeartbeats 1000000 in
theorem wipe_any (bA bC N : Nat) (l : List Int) (w : World) (h : ArenaIs w bA bC N l) :
    Calls Try.prog 41 #[.pointer (some ⟨bA, 0, none⟩)] w fun e w' => e = .returned (.tuple #[]) ∧ Chg [bA, bC] w w' ∧ ArenaIs w' bA bC N [] := by
  have h0 := h.cell0
  have h1 := h.cell1
  have hle := h.le
  have hmost := h.most
  have hne := h.ne
  have hfit := Lib.hid (show 0 + N ≤ (cellsOf N l).length by rw [cellsOf_length N l hle]; omega)
  go_enter Try.func41, Try.ntmps41
  go_wp2_with ((with_reducible show wpList _ _ _ (⟨none, .call _, _, _, _, _⟩ :: _) _ _); refine wpList_clear_chg rfl (.tmp 7) 42 rfl 5 Try.underlying42 _ zero5 rfl rfl _ _ _ rfl bC 0 (cellsOf N l) 5 h.hC (fun _ => rfl) hfit.out (fun w1 H1 C1 => ?_); have k1 := C1.cell h1 (by simpa using hne); have HA1 := Lib.hid (C1.heap h.hA (by simpa using hne)); have g1 := free_of_heap HA1.out 1; clear h0 h1)
  go_end0
  refine ⟨rfl, (C1.mono (by simp)).setCell (by simp) _, ?_, ?_, by simp, hmost, h.pos, hne⟩
  · rw [setCell_heap _ HA1.out]; rfl
  · rw [setCell_heap_ne _ (Ne.symm hne), H1.out, wipe_cells N l hle]

theorem made_cells (n : Nat) : Go.madeCells #[Value.int .u8 0] n = (cellsOf n []).toArray := by
  unfold cellsOf Go.madeCells
  apply Array.ext
  · simp
  · intro i h1 h2
    simp [Nat.mod_one]

theorem infoU8 : (Try.prog.info? 5).map (fun i => (i.zero, i.size, i.bytes)) = some (some (.int .u8 0), 1, 1) := by kernel_rfl

theorem make_bytes (n : Nat) (h : n ≤ 281474976710656) (w : World) : (Instr.makeSlice 42 (.int .i64 (n : Int)) (.int .i64 (n : Int))).run Try.prog w =
    .ok (.slice (some ⟨w.heap.size, 0, none⟩) n n) (w.alloc (.cells (cellsOf n []).toArray 5)) := by
  rw [← made_cells]
  exact Go.run_make_row' _ _ _ 1 Try.underlying42 infoU8 rfl _ _ n (by omega) (by omega) w

set_option maxHeartbeats 1000000 in
theorem new_ok (n : Nat) (w : World) (h1 : 1 ≤ n) (h2 : n ≤ 4096) :
    Calls Try.prog 21 #[.int .i64 n] w fun e w' => e = .returned (.tuple #[.pointer (some ⟨w.heap.size + 1, 0, none⟩), .int .i64 0]) ∧ Chg [] w w' ∧ ArenaIs w' (w.heap.size + 1) w.heap.size n [] := by
  have e1 : ¬ (n : Int) < 1 := by omega
  have e2 : ¬ (4096 : Int) < (n : Int) := by omega
  have hmk := make_bytes n (by omega)
  go_enter Try.func21, Try.ntmps21
  go_wp2_with fail
  go_ret2
  refine ⟨rfl, ((Chg.refl _ _).alloc _).alloc _, ?_, ?_, by simp, h2, h1, by omega⟩
  · exact alloc2_heap w _ _
  · exact alloc_keeps (alloc_heap w _)

set_option maxHeartbeats 1000000 in
theorem new_bad (n : Int) (w : World) (h : n < 1 ∨ 4096 < n) :
    Calls Try.prog 21 #[.int .i64 n] w fun e w' => e = .returned (.tuple #[.pointer none, .int .i64 3]) ∧ w = w' := by
  by_cases h1 : n < 1
  · go_enter Try.func21, Try.ntmps21
    go_wp2_with fail
    go_ret2
    exact ⟨rfl, rfl⟩
  · have h2 : 4096 < n := by omega
    go_enter Try.func21, Try.ntmps21
    go_wp2_with fail
    go_ret2
    exact ⟨rfl, rfl⟩
end Go.Proofs.Ytmcbgpjphjacjaa.Arn
