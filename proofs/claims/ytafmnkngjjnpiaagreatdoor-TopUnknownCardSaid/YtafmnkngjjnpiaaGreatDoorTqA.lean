import Derived.Test.YtafmnkngjjnpiaaGreatDoorTvD
import Derived.Test.YtafmnkngjjnpiaaGreatDoorRegW
import Derived.Test.YtafmnkngjjnpiaaGreatDoorRegK
import Derived.Test.YtafmnkngjjnpiaaGreatDoorTtyC
import Derived.Test.YtafmnkngjjnpiaaGreatDoorDef
import Derived.Test.YtafmnkngjjnpiaaGreatDoorProg
import Derived.Test.YtafmnkngjjnpiaaGreatDoorChg
import Derived.Deep.RegionHeld3
import Derived.MapKept
import GoSem.Core.Value
import Derived.Laws.CopyOwn
namespace Go.Proofs.YtafmnkngjjnpiaaGreatDoor.Arn
set_option linter.unusedVariables false
set_option linter.unusedSimpArgs false
set_option maxRecDepth 100000
open Go.RowKit
def cellsOf (N : Nat) (l : List Int) : List Value := (l ++ List.replicate (N - l.length) 0).map (Value.int .u8)
theorem cellsOf_length (N : Nat) (l : List Int) (h : l.length ≤ N) : (cellsOf N l).length = N := by unfold cellsOf; simp; omega
theorem insert_cells (N : Nat) (l ys : List Int) (p : Nat) (hp : p ≤ l.length) (hm : ys.length ≤ N - l.length) (hle : l.length ≤ N) :
    splice (splice (cellsOf N l) (p + ys.length) ((l.drop p).map (Value.int .u8))) p (ys.map (Value.int .u8)) = cellsOf N (l.take p ++ ys ++ l.drop p) := by
  unfold cellsOf splice
  rw [← List.map_take, ← List.map_drop, ← List.map_append, ← List.map_append]
  rw [← List.map_take, ← List.map_drop, ← List.map_append, ← List.map_append]
  congr 1
  simp only [List.length_map, List.length_drop, List.length_append, List.length_take]
  have hl : l = l.take p ++ l.drop p := (List.take_append_drop p l).symm
  have hlt : (l.take p).length = p := by simp; omega
  have hld : (l.drop p).length = l.length - p := by simp
  generalize hA : l.take p = A at *
  generalize hB : l.drop p = B at *
  have hlen : l.length = p + B.length := by rw [hl]; simp; omega
  generalize hZ : N - l.length = Z at *
  rw [hl]
  apply List.ext_getElem?
  intro i
  simp only [List.getElem?_append, List.getElem?_take, List.getElem?_drop, List.length_append, List.length_take, List.length_drop, List.length_replicate, List.getElem?_replicate]
  subst hlt
  repeat' split
  all_goals first | (exfalso; omega) | rfl | (congr 1; omega)
theorem delete_cells (N : Nat) (l : List Int) (i j : Nat) (hij : i ≤ j) (hj : j ≤ l.length) (hle : l.length ≤ N) :
    splice (splice (cellsOf N l) i ((l.drop j).map (Value.int .u8))) (l.length - (j - i)) (List.replicate (j - i) (Value.int .u8 0)) = cellsOf N (l.take i ++ l.drop j) := by
  have er : List.replicate (j - i) (Value.int .u8 0) = (List.replicate (j - i) (0 : Int)).map (Value.int .u8) := by simp
  rw [er]
  unfold cellsOf splice
  rw [← List.map_take, ← List.map_drop, ← List.map_append, ← List.map_append]
  rw [← List.map_take, ← List.map_drop, ← List.map_append, ← List.map_append]
  congr 1
  apply List.ext_getElem?
  intro x
  simp only [List.getElem?_append, List.getElem?_take, List.getElem?_drop, List.length_append, List.length_take, List.length_drop, List.length_map, List.length_replicate, List.getElem?_replicate]
  repeat' split
  all_goals first | (exfalso; omega) | rfl | (congr 1; omega)
theorem wipe_cells (N : Nat) (l : List Int) (hle : l.length ≤ N) : splice (cellsOf N l) 0 (List.replicate N (Value.int .u8 0)) = cellsOf N [] := by
  have er : List.replicate N (Value.int .u8 0) = (List.replicate N (0 : Int)).map (Value.int .u8) := by simp
  rw [er]
  unfold cellsOf splice
  simp
  omega
theorem cells_at (N : Nat) (l : List Int) (i j : Nat) (v : Value) (h : ((l.drop i).map (Value.int .u8))[j]? = some v) : (cellsOf N l).toArray[i + j]? = some v := by
  simp only [List.getElem?_map, List.getElem?_drop, Option.map_eq_some_iff] at h
  obtain ⟨n, hn, rfl⟩ := h
  have hlt : i + j < l.length := (List.getElem?_eq_some_iff.1 hn).1
  have he : l[i + j] = n := by rw [List.getElem?_eq_getElem hlt] at hn; exact Option.some.inj hn
  simp [cellsOf, List.getElem?_append, hlt, he]
structure ArenaIs (w : World) (bA bC N : Nat) (l : List Int) : Prop where
  hA : w.heap[bA]? = some (.cells #[.slice (some ⟨bC, 0, none⟩) N N, .int .i64 (l.length : Nat)] 103 (0, 0))
  hC : w.heap[bC]? = some (.cells (cellsOf N l).toArray 5 (0, 0))
  le : l.length ≤ N
  most : N ≤ 4096
  pos : 1 ≤ N
  ne : bA ≠ bC
theorem ArenaIs.chg {w w' : World} {bA bC N : Nat} {l : List Int} {S : List Nat} (h : ArenaIs w bA bC N l) (c : Chg S w w') (hA : bA ∉ S) (hC : bC ∉ S) : ArenaIs w' bA bC N l :=
  ⟨c.heap h.hA hA, c.heap h.hC hC, h.le, h.most, h.pos, h.ne⟩
theorem ArenaIs.drewN {w : World} {bA bC N : Nat} {l : List Int} (h : ArenaIs w bA bC N l) (n : Nat) : ArenaIs (w.drewN n) bA bC N l := ⟨h.hA, h.hC, h.le, h.most, h.pos, h.ne⟩
theorem ArenaIs.drew {w : World} {bA bC N : Nat} {l : List Int} (h : ArenaIs w bA bC N l) : ArenaIs w.drew bA bC N l := ⟨h.hA, h.hC, h.le, h.most, h.pos, h.ne⟩
theorem ArenaIs.cell0 {w : World} {bA bC N : Nat} {l : List Int} (h : ArenaIs w bA bC N l) : w.cell? ⟨bA, 0, none⟩ = some (.slice (some ⟨bC, 0, none⟩) N N) := by rw [cell_of_heap h.hA]; rfl
theorem ArenaIs.cell1 {w : World} {bA bC N : Nat} {l : List Int} (h : ArenaIs w bA bC N l) : w.cell? ⟨bA, 1, none⟩ = some (.int .i64 (l.length : Nat)) := by rw [cell_of_heap h.hA]; rfl
def SrcIs (w : World) (ao : Option Addr) (m : Nat) (ys : List Int) (S : List Nat) : Prop :=
  ys.length = m ∧ (0 < m → ∃ ad, ao = some ad ∧ ad.block ∉ S ∧ ∀ j v, (ys.map (Value.int .u8))[j]? = some v → w.cell? (ad.add j) = some v)
def insE (N n : Nat) (at_ : Int) (m : Nat) : Int := if at_ < 0 ∨ (n : Int) < at_ then 3 else if N - n < m then 4 else 0
def insL (N : Nat) (l : List Int) (at_ : Int) (ys : List Int) : List Int := if insE N l.length at_ ys.length = 0 then l.take at_.toNat ++ ys ++ l.drop at_.toNat else l
theorem SrcIs.chg {w w' : World} {ao : Option Addr} {m : Nat} {ys : List Int} {S T : List Nat} (h : SrcIs w ao m ys S) (c : Chg T w w') (hT : ∀ x ∈ T, x ∈ S) : SrcIs w' ao m ys S :=
  ⟨h.1, fun hm => by
    obtain ⟨ad, e, hb, hc⟩ := h.2 hm
    exact ⟨ad, e, hb, fun j v hv => c.cell (hc j v hv) (fun hx => hb (hT _ (by unfold Addr.add at hx; split at hx <;> exact hx)))⟩⟩
theorem SrcIs.drewN {w : World} {ao : Option Addr} {m : Nat} {ys : List Int} {S : List Nat} (h : SrcIs w ao m ys S) (n : Nat) : SrcIs (w.drewN n) ao m ys S := h
theorem oneCell_u8 (xs : List Int) : ∀ v ∈ xs.map (Value.int .u8), v.oneCell' = true := by
  intro v hv
  obtain ⟨n, _, rfl⟩ := List.mem_map.1 hv
  rfl
theorem zero5 : ∀ w : World, (zeroValue 5).run Tryz.prog w = .ok (.int .u8 0) w := fun w => by kernel_rfl
theorem info5 : (Tryz.prog.info? 5).map (fun i => i.size) = some 1 := by kernel_rfl
set_option maxHeartbeats 1000000 in
theorem insert_ok (bA bC N : Nat) (l : List Int) (p : Nat) (ao : Option Addr) (m c : Nat) (ys : List Int) (w : World) (h : ArenaIs w bA bC N l) (hs : SrcIs w ao m ys [bA, bC])
    (hp : p ≤ l.length) (hm : m ≤ N - l.length) :
    Calls Tryz.prog 40 #[.pointer (some ⟨bA, 0, none⟩), .int .i64 p, .slice ao m c] w fun e w' => e = .returned (.int .i64 0) ∧ Chg [bA, bC] w w' ∧ ArenaIs w' bA bC N (l.take p ++ ys ++ l.drop p) := by
  have h0 := h.cell0
  have h1 := h.cell1
  have f1 := free_of_heap h.hA 1
  have hle := h.le
  have hmost := h.most
  go_enter Tryz.func40, Tryz.ntmps40
  go_wp2_with fail
  go_quiet (fail)
  go_wp2_with fail
  have e1 : IntKind.i64.wrap ((p : Int) + (m : Int)) = (p : Int) + (m : Int) := IntWalk.i64_in _ (by omega)
  have e2 : (0 : Int) ≤ (p : Int) + (m : Int) := by omega
  have e3 : ((p : Int) + (m : Int)).toNat = p + m := by omega
  have e4 : (p : Int) + (m : Int) ≤ (N : Int) := by omega
  have e5 : (p : Int) ≤ (l.length : Int) := by omega
  have e6 : (l.length : Int) ≤ (N : Int) := by omega
  refine wp_region_tail 19 (by kernel_rfl) (by kernel_rfl) ?_
  simp only [List.take_succ_cons, List.take_zero, List.drop_succ_cons, List.drop_zero]
  repeat still_step
  refine wpStill_nil ?_
  refine wpList_copy_chg rfl (.tmp 43) (.tmp 53) 22 22 rfl 5 Tryz.underlying22 info5 _ _ _ _ _ _ rfl rfl bC (p + m) (cellsOf N l) 5 (show ((w.drewN nq).drew).heap[bC]? = _ from h.hC) ((l.drop p).map (Value.int .u8)) ?hn ?hpos ?hfit ?h1 ?k
  case hn => simp only [List.length_map, List.length_drop]; exact (Nat.min_eq_left (by omega)).symm
  case hpos =>
    intro hlen
    simp at hlen
    rw [if_neg (by omega), if_neg (by omega)]
    refine ⟨rfl, _, rfl, fun j v hv => ?_⟩
    show w.cell? _ = _
    rw [Addr.add_lit, cell_of_heap h.hC]
    exact cells_at N l p j v hv
  case hfit => simp [cellsOf_length N l hle]; omega
  case h1 => exact oneCell_u8 _
  intro w1 H1 C1'
  have C1 : Chg [bC] w w1 := C1'.of_drew.of_drewN
  have hne := h.ne
  have k0 := C1.cell h0 (by simpa using hne)
  have k1 := C1.cell h1 (by simpa using hne)
  have hs1 := hs.chg C1 (by simp)
  have hA1 := C1.heap h.hA (by simpa using hne)
  have g1 := free_of_heap hA1 1
  have HA1 := Lib.hid hA1
  clear h0 h1 f1 C1' hA1
  generalize (if N = p + m then some ({ block := bC, off := 0 } : Addr) else some { block := bC, off := p + m }) = d1
  generalize (if l.length = p then some ({ block := bC, off := 0 } : Addr) else some { block := bC, off := p }) = d2
  have e7 : IntKind.i64.wrap ((l.length : Int) + (m : Int)) = (l.length : Int) + (m : Int) := IntWalk.i64_in _ (by omega)
  have hn2 := Lib.hid (show (ys.map (Value.int .u8)).length = Nat.min m (N - p) by simp only [List.length_map]; rw [hs.1]; exact (Nat.min_eq_left (by omega)).symm)
  have hpos2 := Lib.hid (show 0 < (ys.map (Value.int .u8)).length → (if N = p then some ({ block := bC, off := 0 } : Addr) else some { block := bC, off := p }) = some { block := bC, off := p } ∧ ∃ ad, ao = some ad ∧ ∀ j v, (ys.map (Value.int .u8))[j]? = some v → w1.cell? (ad.add j) = some v by
    intro hlen
    rw [List.length_map, hs.1] at hlen
    obtain ⟨ad, e, _, hc⟩ := hs1.2 hlen
    exact ⟨if_neg (by omega), ad, e, hc⟩)
  have hfit2 := Lib.hid (show p + (ys.map (Value.int .u8)).length ≤ (splice (cellsOf N l) (p + m) ((l.drop p).map (Value.int .u8))).length by
    rw [List.length_map, length_splice _ _ _ (by simp [cellsOf_length N l hle]; omega), cellsOf_length N l hle, hs.1]; omega)
  go_wp2_with ((with_reducible show wpList _ _ _ (⟨some 62, _, _, _, _, _⟩ :: _) _ _); refine wpList_copy_chg rfl (.tmp 60) (.tmp 61) 22 22 rfl 5 Tryz.underlying22 info5 _ _ _ _ _ _ rfl rfl bC p _ 5 H1.out (ys.map (Value.int .u8)) hn2.out hpos2.out hfit2.out (oneCell_u8 _) (fun w2 H2 C2 => ?_); have k0' := C2.cell k0 (by simpa using hne); have k1' := C2.cell k1 (by simpa using hne); have HA2 := Lib.hid (C2.heap HA1.out (by simpa using hne)); have g1' := free_of_heap HA2.out 1; clear k0 k1 g1 hpos2 hfit2 hn2; generalize (if N = p then some ({ block := bC, off := 0 } : Addr) else some { block := bC, off := p }) = d3)
  go_ret
  have hl3 : (l.take p ++ ys ++ l.drop p).length = l.length + m := by simp; rw [← hs.1]; omega
  refine ⟨rfl, ?_, ?_⟩
  · exact ((C1.trans C2 (U := [bA, bC]) (by simp) (by simp)).setCell (by simp) _)
  · refine ⟨?_, ?_, by rw [hl3]; omega, hmost, h.pos, hne⟩
    · rw [setCell_heap _ HA2.out, hl3]; rfl
    · rw [setCell_heap_ne _ (Ne.symm hne), H2.out, ← hs.1, insert_cells N l ys p hp (by rw [hs.1]; exact hm) hle]
set_option maxHeartbeats 1000000 in
theorem insert_low (bA bC N : Nat) (l : List Int) (a : Int) (ao : Option Addr) (m c : Nat) (w : World) (h : ArenaIs w bA bC N l) (ha : a < 0) :
    Calls Tryz.prog 40 #[.pointer (some ⟨bA, 0, none⟩), .int .i64 a, .slice ao m c] w fun e w' => e = .returned (.int .i64 3) ∧ w = w' := by
  go_enter Tryz.func40, Tryz.ntmps40
  go_wp2_with fail
  go_ret
  exact ⟨rfl, rfl⟩
set_option maxHeartbeats 1000000 in
theorem insert_high (bA bC N : Nat) (l : List Int) (a : Int) (ao : Option Addr) (m c : Nat) (w : World) (h : ArenaIs w bA bC N l) (ha : (l.length : Int) < a) :
    Calls Tryz.prog 40 #[.pointer (some ⟨bA, 0, none⟩), .int .i64 a, .slice ao m c] w fun e w' => e = .returned (.int .i64 3) ∧ w = w' := by
  have h1 := h.cell1
  have ha0 : ¬ a < 0 := by omega
  go_enter Tryz.func40, Tryz.ntmps40
  go_wp2_with fail
  go_ret
  exact ⟨rfl, rfl⟩
set_option maxHeartbeats 1000000 in
theorem insert_full (bA bC N : Nat) (l : List Int) (a : Int) (ao : Option Addr) (m c : Nat) (w : World) (h : ArenaIs w bA bC N l) (ha : 0 ≤ a) (hb : a ≤ (l.length : Int)) (hm : N - l.length < m) :
    Calls Tryz.prog 40 #[.pointer (some ⟨bA, 0, none⟩), .int .i64 a, .slice ao m c] w fun e w' => e = .returned (.int .i64 4) ∧ Chg [] w w' := by
  have h0 := h.cell0
  have h1 := h.cell1
  have hle := h.le
  have hmost := h.most
  have hm' : (N : Int) - (l.length : Int) < (m : Int) := by omega
  go_enter Tryz.func40, Tryz.ntmps40
  go_wp2_with fail
  go_quiet (fail)
  go_wp2_with fail
  go_ret
  exact ⟨rfl, (Chg.refl _ _).drewN _⟩
theorem insert_any (bA bC N : Nat) (l : List Int) (a : Int) (ao : Option Addr) (m c : Nat) (ys : List Int) (w : World) (h : ArenaIs w bA bC N l) (hs : SrcIs w ao m ys [bA, bC]) :
    Calls Tryz.prog 40 #[.pointer (some ⟨bA, 0, none⟩), .int .i64 a, .slice ao m c] w fun e w' => e = .returned (.int .i64 (insE N l.length a m)) ∧ Chg [bA, bC] w w' ∧ ArenaIs w' bA bC N (insL N l a ys) := by
  have hle := h.le
  unfold insL insE
  rw [hs.1]
  by_cases h1 : a < 0
  · rw [if_pos (Or.inl h1)]
    exact (insert_low bA bC N l a ao m c w h h1).mono fun e w' ⟨he, hw⟩ => ⟨he, hw ▸ Chg.refl _ _, by rw [if_neg (by decide)]; exact hw ▸ h⟩
  · by_cases h2 : (l.length : Int) < a
    · rw [if_pos (Or.inr h2)]
      exact (insert_high bA bC N l a ao m c w h h2).mono fun e w' ⟨he, hw⟩ => ⟨he, hw ▸ Chg.refl _ _, by rw [if_neg (by decide)]; exact hw ▸ h⟩
    · rw [if_neg (by omega)]
      by_cases h3 : N - l.length < m
      · rw [if_pos h3]
        exact (insert_full bA bC N l a ao m c w h (by omega) (by omega) h3).mono fun e w' ⟨he, hw⟩ => ⟨he, hw.mono (by simp), by rw [if_neg (by decide)]; exact h.chg hw (by simp) (by simp)⟩
      · rw [if_neg h3, if_pos rfl]
        obtain ⟨p, rfl⟩ := Int.eq_ofNat_of_zero_le (by omega : 0 ≤ a)
        exact insert_ok bA bC N l p ao m c ys w h hs (by omega) (by omega)
set_option maxHeartbeats 1000000 in
theorem len_any (bA bC N : Nat) (l : List Int) (w : World) (h : ArenaIs w bA bC N l) :
    Calls Tryz.prog 41 #[.pointer (some ⟨bA, 0, none⟩)] w fun e w' => e = .returned (.int .i64 (l.length : Nat)) ∧ w = w' := by
  have h1 := h.cell1
  go_enter Tryz.func41, Tryz.ntmps41
  go_wp2_with fail
  go_ret
  exact ⟨rfl, rfl⟩
set_option maxHeartbeats 1000000 in
theorem cap_any (bA bC N : Nat) (l : List Int) (w : World) (h : ArenaIs w bA bC N l) :
    Calls Tryz.prog 25 #[.pointer (some ⟨bA, 0, none⟩)] w fun e w' => e = .returned (.int .i64 (N : Nat)) ∧ w = w' := by
  have h0 := h.cell0
  go_enter Tryz.func25, Tryz.ntmps25
  go_wp2_with fail
  go_ret
  exact ⟨rfl, rfl⟩
set_option maxHeartbeats 1000000 in
theorem copy_any (bA bC N : Nat) (l : List Int) (g off n c : Nat) (cur : List Value) (t : TypeId) (w : World) (h : ArenaIs w bA bC N l) (hg : w.heap[g]? = some (.cells cur.toArray t (0, 0))) (hfit : off + n ≤ cur.length) :
    Calls Tryz.prog 45 #[.pointer (some ⟨bA, 0, none⟩), .slice (some ⟨g, off, none⟩) n c] w fun e w' => e = .returned (.int .i64 (min l.length n : Nat)) ∧ Chg [g] w w' ∧
      w'.heap[g]? = some (.cells (splice cur off ((l.take n).map (Value.int .u8))).toArray t (0, 0)) := by
  have h0 := h.cell0
  have h1 := h.cell1
  have hle := h.le
  have hmost := h.most
  have e1 : (l.length : Int) ≤ (N : Int) := by omega
  have hlen : ((l.take n).map (Value.int .u8)).length = Nat.min l.length n := by simp [Nat.min_comm]
  have Hlen := Lib.hid hlen
  clear hlen
  go_enter Tryz.func45, Tryz.ntmps45
  go_wp2_with fail
  refine wp_region_tail 10 (by kernel_rfl) (by kernel_rfl) ?_
  simp only [List.take_succ_cons, List.take_zero, List.drop_succ_cons, List.drop_zero]
  repeat still_step
  refine wpStill_nil ?_
  refine wpList_copy_chg rfl (.tmp 7) (.tmp 16) 22 22 rfl 5 Tryz.underlying22 info5 _ _ _ _ _ _ rfl rfl g off cur t (show w.drew.heap[g]? = _ from hg) ((l.take n).map (Value.int .u8)) Hlen.out ?hpos ?hfit (oneCell_u8 _) ?k
  case hpos =>
    intro _
    refine ⟨rfl, _, rfl, fun j v hv => ?_⟩
    show w.cell? _ = _
    rw [Addr.add_lit, cell_of_heap h.hC]
    refine cells_at N l 0 j v ?_
    rw [List.drop_zero]
    simp only [List.getElem?_map, List.getElem?_take] at hv ⊢
    split at hv
    · exact hv
    · cases hv
  case hfit => rw [Hlen.out]; have : Nat.min l.length n ≤ n := Nat.min_le_right _ _; omega
  intro w1 H1 C1
  have hr : (goInt ((l.take n).map (Value.int .u8)).length) = .int .i64 (min l.length n : Nat) := by rw [Hlen.out]; rfl
  rw [hr]
  clear hr
  go_wp2_with fail
  go_ret
  exact ⟨rfl, C1.of_drew, H1.out⟩
set_option maxHeartbeats 1000000 in
theorem wipe_any (bA bC N : Nat) (l : List Int) (w : World) (h : ArenaIs w bA bC N l) :
    Calls Tryz.prog 39 #[.pointer (some ⟨bA, 0, none⟩)] w fun e w' => e = .returned (.tuple #[]) ∧ Chg [bA, bC] w w' ∧ ArenaIs w' bA bC N [] := by
  have h0 := h.cell0
  have h1 := h.cell1
  have hle := h.le
  have hmost := h.most
  have hne := h.ne
  have hfit := Lib.hid (show 0 + N ≤ (cellsOf N l).length by rw [cellsOf_length N l hle]; omega)
  go_enter Tryz.func39, Tryz.ntmps39
  go_wp2_with ((with_reducible show wpList _ _ _ (⟨none, .call _, _, _, _, _⟩ :: _) _ _); refine wpList_clear_chg rfl (.tmp 7) 22 rfl 5 Tryz.underlying22 _ zero5 rfl rfl _ _ _ rfl bC 0 (cellsOf N l) 5 h.hC (fun _ => rfl) hfit.out (fun w1 H1 C1 => ?_); have k1 := C1.cell h1 (by simpa using hne); have HA1 := Lib.hid (C1.heap h.hA (by simpa using hne)); have g1 := free_of_heap HA1.out 1; clear h0 h1)
  go_end0
  refine ⟨rfl, (C1.mono (by simp)).setCell (by simp) _, ?_, ?_, by simp, hmost, h.pos, hne⟩
  · rw [setCell_heap _ HA1.out]; rfl
  · rw [setCell_heap_ne _ (Ne.symm hne), H1.out, wipe_cells N l hle]
theorem made_cells (n : Nat) : Go.madeCells #[Value.int .u8 0] n = (cellsOf n []).toArray := by
  unfold cellsOf Go.madeCells
  apply Array.ext
  · simp
  · intro i h1 h2
    simp [Nat.mod_one]
theorem infoU8 : (Tryz.prog.info? 5).map (fun i => (i.zero, i.size, i.bytes)) = some (some (.int .u8 0), 1, 1) := by kernel_rfl
theorem make_bytes (n : Nat) (h : n ≤ 281474976710656) (w : World) : (Instr.makeSlice 22 (.int .i64 (n : Int)) (.int .i64 (n : Int))).run Tryz.prog w =
    .ok (.slice (some ⟨w.heap.size, 0, none⟩) n n) (w.alloc (.cells (cellsOf n []).toArray 5)) := by
  rw [← made_cells]
  exact Go.run_make_row' _ _ _ 1 Tryz.underlying22 infoU8 rfl _ _ n (by omega) (by omega) w
set_option maxHeartbeats 1000000 in
theorem new_ok (n : Nat) (w : World) (h1 : 1 ≤ n) (h2 : n ≤ 4096) :
    Calls Tryz.prog 7 #[.int .i64 n] w fun e w' => e = .returned (.tuple #[.pointer (some ⟨w.heap.size + 1, 0, none⟩), .int .i64 0]) ∧ Chg [] w w' ∧ ArenaIs w' (w.heap.size + 1) w.heap.size n [] := by
  have e1 : ¬ (n : Int) < 1 := by omega
  have e2 : ¬ (4096 : Int) < (n : Int) := by omega
  have hmk := make_bytes n (by omega)
  go_enter Tryz.func7, Tryz.ntmps7
  go_wp2_with fail
  go_ret2
  refine ⟨rfl, ((Chg.refl _ _).alloc _).alloc _, ?_, ?_, by simp, h2, h1, by omega⟩
  · exact alloc2_heap w _ _
  · exact alloc_keeps (alloc_heap w _)
end Go.Proofs.YtafmnkngjjnpiaaGreatDoor.Arn

namespace Go.Proofs.YtafmnkngjjnpiaaGreatDoor
set_option linter.unusedVariables false
set_option linter.unusedSimpArgs false
set_option maxRecDepth 100000
open Go.RowKit
theorem map_put {w : World} {b : Nat} {es : Array MapEntry} {c : Nat} (h : w.heap[b]? = some (.map es c)) (k : Int) (v : Value) (hn : Instr.findNow (.int .i64) (.int .i64 k) es.toList 0 = some none) :
    ∃ w', (Instr.mapUpdate 305 (.map (some b)) (.int .i64 k) v).run Tryz.prog w = .ok () w' ∧ w'.heap[b]? = some (.map (es.push ⟨.int .i64 k, v, c⟩) (c + 1)) ∧ Chg [b] w w' ∧ w'.heap.size = w.heap.size := by
  have hk : MapKept.IsKey (.int .i64) (.int .i64 k) := rfl
  refine ⟨{ w with heap := w.heap.setIfInBounds b (.map (es.push ⟨.int .i64 k, v, c⟩) (c + 1)) }, ?_, (MapKept.heap_set h).1, ⟨rfl, rfl, rfl, by simp, fun j hj hS => (MapKept.heap_set h).2 j (by simpa using hS)⟩, by simp⟩
  simp [Instr.mapUpdate, run_underlying Tryz.underlying305, MapKept.run_getObj_map h, MapKept.run_checkKey Tryz.underlying3 hk, MapKept.run_findKey Tryz.underlying3 hn, MapKept.run_setObj_map _ h, Result.andThen]
def kindFn (bx : Nat) (k : Nat) : Value := .func (match k with | 0 => Fn.func 205 | 1 => Fn.func 206 | _ => Fn.func 207) #[] #[.pointer (some ⟨bx, 0, none⟩)]
def kindMap (bx : Nat) : Array MapEntry := #[⟨.int .i64 0, kindFn bx 0, 0⟩, ⟨.int .i64 1, kindFn bx 1, 1⟩, ⟨.int .i64 2, kindFn bx 2, 2⟩]
def KindsPost (bT : Nat) (w : World) (e : Ending) (w' : World) : Prop :=
  ∃ b bx, e = .returned (.map (some b)) ∧ Chg [] w w' ∧ w'.heap[b]? = some (.map (kindMap bx) 3) ∧ w'.heap[bx]? = some (.cells #[.pointer (some ⟨bT, 0, none⟩)] 146 (0, 0)) ∧ w.heap.size ≤ b ∧ w.heap.size ≤ bx
set_option maxHeartbeats 4000000 in
theorem kinds_any (bT : Nat) (w : World) :
    Calls Tryz.prog 195 #[.pointer (some ⟨bT, 0, none⟩)] w (KindsPost bT w) := by
  have hmm := @run_makeMap Tryz.prog
  have h0 : ((w.alloc (.cells #[.pointer (some ⟨bT, 0, none⟩)] 146)).alloc (.map #[] 0)).heap[w.heap.size + 1]? = some (.map #[] 0) := alloc2_heap w _ _
  have hx0 : ((w.alloc (.cells #[.pointer (some ⟨bT, 0, none⟩)] 146)).alloc (.map #[] 0)).heap[w.heap.size]? = some (.cells #[.pointer (some ⟨bT, 0, none⟩)] 146 (0, 0)) := alloc_keeps (alloc_heap w _)
  have hne : w.heap.size ∉ [w.heap.size + 1] := by simp
  obtain ⟨w1, r1, h1, c1, _⟩ := map_put h0 0 (kindFn w.heap.size 0) rfl
  obtain ⟨w2, r2, h2, c2, _⟩ := map_put h1 1 (kindFn w.heap.size 1) rfl
  obtain ⟨w3, r3, h3, c3, _⟩ := map_put h2 2 (kindFn w.heap.size 2) rfl
  have HE : Hid (KindsPost bT w (.returned (.map (some (w.heap.size + 1)))) w3) := Lib.hid
    ⟨_, w.heap.size, rfl, (((((Chg.refl [] w).alloc _).alloc _).trans c1 (U := []) (by simp) (fun y hy hl => by have := List.mem_singleton.1 hy; omega)).trans c2 (U := []) (by simp) (fun y hy hl => by have := List.mem_singleton.1 hy; omega)).trans c3 (U := []) (by simp) (fun y hy hl => by have := List.mem_singleton.1 hy; omega),
      h3, c3.heap (c2.heap (c1.heap hx0 hne) hne) hne, by omega, Nat.le_refl _⟩
  unfold kindFn at r1 r2 r3
  clear h0 hx0 hne h1 h2 h3 c1 c2 c3
  go_enter Tryz.func195, Tryz.ntmps195
  go_wp2_with fail
  go_ret
  exact HE.out
theorem kind_get {w : World} {b bx : Nat} (h : w.heap[b]? = some (.map (kindMap bx) 3)) (k : Nat) (hk : k < 3) :
    (Instr.lookup 305 (.map (some b)) (.int .i64 (k : Int)) false).run Tryz.prog w = .ok (kindFn bx k) w := by
  have hkey : MapKept.IsKey (.int .i64) (.int .i64 (k : Int)) := rfl
  have hf : Instr.findNow (.int .i64) (.int .i64 (k : Int)) (kindMap bx).toList 0 = some (some (k, kindFn bx k)) := by
    rcases (by omega : k = 0 ∨ k = 1 ∨ k = 2) with rfl | rfl | rfl <;> rfl
  simp [Instr.lookup, run_underlying Tryz.underlying305, MapKept.run_getObj_map h, MapKept.run_checkKey Tryz.underlying3 hkey, MapKept.run_findKey Tryz.underlying3 hf, Result.andThen]
theorem note_at (w0 ws w : World) (τ0 τ : Tt) (y : EfD) (g : Nat) (hg : w.heap.size = g) (h0 : TtGo w0 ws τ0 τ w) (hy : DatE w0 w τ y) (hyb : ∀ k, y.blk = some k → ws.heap.size ≤ k) (hn : τ.E.length ≤ 1000000) :
    Calls Tryz.prog 157 #[.pointer (some ⟨τ.bT, 0, none⟩), .slice (some ⟨g, 0, none⟩) 1 1] (w.alloc (.cells y.cells.toArray 86)) fun e w' => e = .returned (.tuple #[]) ∧ ∃ v', TtGo w0 ws τ0 { τ with v := v', E := τ.E ++ [y] } w' := by
  subst hg
  exact note_go w0 ws w τ0 τ y h0 hy hyb hn
end Go.Proofs.YtafmnkngjjnpiaaGreatDoor

namespace Go.Proofs.YtafmnkngjjnpiaaGreatDoor
set_option linter.unusedVariables false
set_option linter.unusedSimpArgs false
set_option maxRecDepth 100000
open Go.RowKit
set_option maxHeartbeats 4000000 in
theorem kSig_any (w0 w : World) (τ : Tt) (bx : Nat) (n : Int) (sv pa : Value) (h : TtIs w0 w τ) (hx : w.heap[bx]? = some (.cells #[.pointer (some ⟨τ.bT, 0, none⟩)] 146 (0, 0))) (hs : ∃ ao k c, sv = .slice ao k c) (hn : τ.E.length ≤ 1000000) (hw : ¬ τ.own bx) :
    Calls Tryz.prog 206 #[.agg #[.int .i64 n, sv], pa, .pointer (some ⟨bx, 0, none⟩)] w fun e w' => e = .returned (.tuple #[.int .i64 n, .int .i64 0]) ∧ ∃ v', TtGo w0 w τ { τ with v := v', E := τ.E ++ [ef0 4 at0 n false] } w' := by
  obtain ⟨ao, k, c, rfl⟩ := hs
  have B := h.box0 (.cells #[.int .i64 n, .slice ao k c] 308)
  have k0 : Chg [] w (w.alloc (.cells #[.int .i64 n, .slice ao k c] 308)) := (Chg.refl _ _).alloc _
  have hx1 := k0.heap hx (by simp)
  have x0 : (w.alloc (.cells #[.int .i64 n, .slice ao k c] 308)).cell? ⟨bx, 0, none⟩ = some (.pointer (some ⟨τ.bT, 0, none⟩)) := by rw [cell_of_heap hx1]; rfl
  have x1 : (w.alloc (.cells #[.int .i64 n, .slice ao k c] 308)).cell? ⟨w.heap.size, 0, none⟩ = some (.int .i64 n) := by rw [cell_of_heap B.1]; rfl
  have hb1 : ¬ bx = w.heap.size := by have := heap_lt hx; omega
  have HH := Lib.hid h
  have HB := Lib.hid B
  have HK := Lib.hid k0
  clear h B k0 hx hx1
  go_enter Tryz.func206, Tryz.ntmps206
  go_wp2_with fail
  refine (note_at w0 _ (w.alloc (.cells #[.int .i64 n, .slice ao k c] 308)) τ τ (ef0 4 at0 n false) (w.heap.size + 1) (by simp) (TtGo.refl HB.out.2.2) (datE0 _ _ _ _) (fun k hk => by cases hk) hn).mono ?_
  rintro e w3 ⟨rfl, v3, G3⟩
  have BX := G3.box ⟨HB.out.1, HB.out.2.1⟩
  have y1 : w3.cell? ⟨w.heap.size, 0, none⟩ = some (.int .i64 n) := by rw [cell_of_heap BX.1]; rfl
  have HG3 := Lib.hid G3
  clear G3 BX
  go_wp2_with fail
  go_ret2
  exact ⟨rfl, v3, ((TtGo.refl HH.out).chg0 HK.out).trans HG3.out⟩
set_option maxHeartbeats 4000000 in
theorem kFault_any (w0 w : World) (τ : Tt) (bx : Nat) (n : Int) (sv pa : Value) (h : TtIs w0 w τ) (hx : w.heap[bx]? = some (.cells #[.pointer (some ⟨τ.bT, 0, none⟩)] 146 (0, 0))) (hs : ∃ ao k c, sv = .slice ao k c) (hn : τ.E.length ≤ 1000000) (hw : ¬ τ.own bx) :
    Calls Tryz.prog 207 #[.agg #[.int .i64 n, sv], pa, .pointer (some ⟨bx, 0, none⟩)] w fun e w' => e = .returned (.tuple #[.int .i64 0, .int .i64 5]) ∧ ∃ v', TtGo w0 w τ { τ with v := v', E := τ.E ++ [ef0 3 at0 0 false] } w' := by
  obtain ⟨ao, k, c, rfl⟩ := hs
  have B := h.box0 (.cells #[.int .i64 n, .slice ao k c] 308)
  have k0 : Chg [] w (w.alloc (.cells #[.int .i64 n, .slice ao k c] 308)) := (Chg.refl _ _).alloc _
  have hx1 := k0.heap hx (by simp)
  have x0 : (w.alloc (.cells #[.int .i64 n, .slice ao k c] 308)).cell? ⟨bx, 0, none⟩ = some (.pointer (some ⟨τ.bT, 0, none⟩)) := by rw [cell_of_heap hx1]; rfl
  have hb1 : ¬ bx = w.heap.size := by have := heap_lt hx; omega
  have HH := Lib.hid h
  have HB := Lib.hid B
  have HK := Lib.hid k0
  clear h B k0 hx hx1
  go_enter Tryz.func207, Tryz.ntmps207
  go_wp2_with fail
  refine (note_at w0 _ (w.alloc (.cells #[.int .i64 n, .slice ao k c] 308)) τ τ (ef0 3 at0 0 false) (w.heap.size + 1) (by simp) (TtGo.refl HB.out.2.2) (datE0 _ _ _ _) (fun k hk => by cases hk) hn).mono ?_
  rintro e w3 ⟨rfl, v3, G3⟩
  have HG3 := Lib.hid G3
  clear G3
  go_wp2_with fail
  go_ret2
  exact ⟨rfl, v3, ((TtGo.refl HH.out).chg0 HK.out).trans HG3.out⟩
theorem cho_owns {O : Nat → Prop} {w w' : World} {base : Nat} {e : TypeId} {v : Value} {n : Nat} {xs : List Value} (h : ChgO O w w') (hr : w.ownsRow base e 1 v n xs) (hn : ∀ k, v.ownBlock = some k → ¬ O k) : w'.ownsRow base e 1 v n xs := by
  obtain ⟨S, c, hS⟩ := h
  exact owns_keep hr c (fun k hk hm => hn k hk (hS k hm (hr.lt k hk).2))
theorem cho_arena {O : Nat → Prop} {w w' : World} {bA bC N : Nat} {l : List Int} (h : ChgO O w w') (a : Arn.ArenaIs w bA bC N l) (h1 : ¬ O bA) (h2 : ¬ O bC) : Arn.ArenaIs w' bA bC N l := by
  obtain ⟨S, c, hS⟩ := h
  exact a.chg c (fun hm => h1 (hS _ hm (heap_lt a.hA))) (fun hm => h2 (hS _ hm (heap_lt a.hC)))
theorem arn_src {w : World} {base : Nat} {ao : Option Addr} {n c : Nat} {bs : List Int} {S : List Nat} (h : w.ownsRow base 5 1 (.slice ao n c) n (valsOf .u8 bs)) (hS : ∀ k, (Value.slice ao n c).ownBlock = some k → k ∉ S) : Arn.SrcIs w ao n bs S := by
  have hl : bs.length = n := by have := h.1; rw [valsOf_length] at this; omega
  refine ⟨hl, fun h0 => ?_⟩
  rcases h.2 with ⟨_, h1⟩ | ⟨g, cap, cur, e, _⟩
  · omega
  · injection e with e1
    subst e1
    exact ⟨⟨g, 0, none⟩, rfl, hS g rfl, fun j v hv => h.cells (g := g) rfl j v hv⟩
theorem clear_run {w : World} {base : Nat} {ao : Option Addr} {n c : Nat} {bs : List Int} (h : w.ownsRow base 5 1 (.slice ao n c) n (valsOf .u8 bs)) (ty : TypeId) :
    ∃ w', (Builtin.clear_ #[22] ty #[.slice ao n c]).run Tryz.prog w = .ok (.tuple #[]) w' ∧ Chg (Value.slice ao n c).ownBlock.toList w w' := by
  rcases h.2 with ⟨e, rfl⟩ | ⟨g, cap, cur, e, hb, hg, h1, h2, h3, h4⟩
  · injection e with e1 _ e3
    subst e1 e3
    exact ⟨w, by simp [Builtin.clear_, run_underlying Tryz.underlying22], Chg.refl _ _⟩
  · injection e with e1 _ e3
    subst e1 e3
    have hz : ∀ w : World, (zeroValue 5).run Tryz.prog w = .ok (.int .u8 0) w := fun w => by kernel_rfl
    by_cases h0 : n = 0
    · subst h0
      exact ⟨w, by simp [Builtin.clear_, run_underlying Tryz.underlying22], Chg.refl _ _⟩
    · have hzc : (Builtin.zeroCells (Value.int .u8 0).cells n).toList = List.replicate n (Value.int .u8 0) := by
        rw [show (Value.int .u8 0).cells = #[Value.int .u8 0] from rfl]
        simp [Builtin.zeroCells]
        apply List.ext_getElem
        · simp
        · intro i h1 h2
          simp [Nat.mod_one]
      have hst := run_storeCells_at Tryz.prog g 0 5 (List.replicate n (Value.int .u8 0)) 0 cur w hg (by simp; omega) (by intro v hv'; rw [List.eq_of_mem_replicate hv']; rfl)
      simp only [Nat.add_zero] at hst
      refine ⟨w.setRow g (List.take 0 cur.toList ++ List.replicate n (Value.int .u8 0) ++ List.drop (0 + (List.replicate n (Value.int .u8 0)).length) cur.toList).toArray, ?_, (Chg.refl _ _).setRow (g := g) (Or.inl (by simp [Value.ownBlock])) _⟩
      obtain ⟨m, rfl⟩ : ∃ m, n = m + 1 := ⟨n - 1, by omega⟩
      simp [Builtin.clear_, run_underlying Tryz.underlying22, hz, hzc, hst]
structure RdOk (w0 w : World) (τ : Tt) (bA bC N : Nat) (l : List Int) : Prop where
  T : TtIs w0 w τ
  Ar : Arn.ArenaIs w bA bC N l
  nA : ¬ τ.own bA
  nC : ¬ τ.own bC
  lA : w0.heap.size ≤ bA
  lC : w0.heap.size ≤ bC
def KDatPost (w0 : World) (τ : Tt) (bA bC N : Nat) (bs : List Int) (rv : Value) (w : World) (e : Ending) (w' : World) : Prop :=
  e = .returned (.tuple #[.int .i64 (bs.length : Nat), .int .i64 0]) ∧ ∃ v', RdOk w0 w' { τ with v := v', E := τ.E ++ [ef0 3 at0 (bs.length : Nat) true] } bA bC N bs ∧ ChgO (fun x => τ.own x ∨ x = bA ∨ x = bC ∨ rv.ownBlock = some x) w w' ∧ ∀ k, Tt.own { τ with v := v', E := τ.E ++ [ef0 3 at0 (bs.length : Nat) true] } k → τ.own k ∨ w.heap.size ≤ k
set_option maxHeartbeats 8000000 in
theorem kDat_any (w0 w : World) (τ : Tt) (bx bA bC N : Nat) (ao : Option Addr) (c : Nat) (bs : List Int) (h : RdOk w0 w τ bA bC N []) (hx : w.heap[bx]? = some (.cells #[.pointer (some ⟨τ.bT, 0, none⟩)] 146 (0, 0)))
    (hr : w.ownsRow w0.heap.size 5 1 (.slice ao bs.length c) bs.length (valsOf .u8 bs)) (hro : ∀ k, (Value.slice ao bs.length c).ownBlock = some k → ¬ τ.own k ∧ k ≠ bA ∧ k ≠ bC) (hb : bs.length ≤ N) (hn : τ.E.length ≤ 1000000) (hw : ¬ τ.own bx) :
    Calls Tryz.prog 205 #[.agg #[.int .i64 0, .slice ao bs.length c], .pointer (some ⟨bA, 0, none⟩), .pointer (some ⟨bx, 0, none⟩)] w (KDatPost w0 τ bA bC N bs (.slice ao bs.length c) w) := by
  obtain ⟨k, hk⟩ : ∃ k, k = bs.length := ⟨_, rfl⟩
  have HKL := Lib.hid hk
  rw [← hk] at hr hro hb ⊢
  clear hk
  have B := h.T.box0 (.cells #[.int .i64 0, .slice ao k c] 308)
  have k0 : Chg [] w (w.alloc (.cells #[.int .i64 0, .slice ao k c] 308)) := (Chg.refl _ _).alloc _
  have hx1 := k0.heap hx (by simp)
  have x0 : (w.alloc (.cells #[.int .i64 0, .slice ao k c] 308)).cell? ⟨bx, 0, none⟩ = some (.pointer (some ⟨τ.bT, 0, none⟩)) := by rw [cell_of_heap hx1]; rfl
  have x1 : (w.alloc (.cells #[.int .i64 0, .slice ao k c] 308)).cell? ⟨w.heap.size, 1, none⟩ = some (.slice ao k c) := by rw [cell_of_heap B.1]; rfl
  have hb1 : ¬ bx = w.heap.size := by have := heap_lt hx; omega
  have HH := Lib.hid h
  have HB := Lib.hid B
  have HK := Lib.hid k0
  have HR := Lib.hid hr
  have HRO := Lib.hid hro
  clear h B k0 hx hx1 hr hro
  refine calls_of_wp_b Tryz.func205 rfl ?_
  simp only [Tryz.ntmps205, List.size_toArray, List.length_cons, List.length_nil, Nat.reduceAdd, Nat.reduceSub, Array.replicate_succ, Array.replicate_zero, List.push_toArray, List.append_toArray, List.nil_append, List.cons_append]
  go_wp2_with fail
  refine (note_at w0 _ (w.alloc (.cells #[.int .i64 0, .slice ao k c] 308)) τ τ (ef0 3 at0 (k : Nat) true) (w.heap.size + 1) (by simp) (TtGo.refl HB.out.2.2) (datE0 _ _ _ _) (fun k hk => by cases hk) hn).mono ?_
  rintro e w3 ⟨rfl, v3, G3⟩
  have BX := G3.box ⟨HB.out.1, HB.out.2.1⟩
  have y0 : w3.cell? ⟨w.heap.size, 1, none⟩ = some (.slice ao k c) := by rw [cell_of_heap BX.1]; rfl
  have HBX := Lib.hid BX
  have HG3 := Lib.hid G3
  clear G3 BX x0 x1
  go_wp2_with fail
  have HOG := Lib.hid (show ∀ j, (Value.slice ao k c).ownBlock = some j → j ∉ [bA, bC] from fun j hj => by have := HRO.out j hj; simp; omega)
  have A3 := Lib.hid (cho_arena HG3.out.c (HH.out.Ar.chg HK.out (by simp) (by simp)) HH.out.nA HH.out.nC)
  have R3 := Lib.hid (cho_owns HG3.out.c (owns_keep HR.out HK.out (by simp)) (fun j hj => (HRO.out j hj).1))
  have hbA : ¬ w.heap.size = bA := by have := heap_lt HH.out.Ar.hA; omega
  have hbC : ¬ w.heap.size = bC := by have := heap_lt HH.out.Ar.hC; omega
  have hNB := Lib.hid (show w.heap.size ∉ [bA, bC] by simp; omega)
  go_region_held3 (fun w' => w'.cell? ⟨w.heap.size, 1, none⟩ = some (.slice ao k c)) (first | (exact C4.cell y0 hNB.out) | go_keep)
    (first
      | (go_at_call 40; refine (Arn.insert_any bA bC N [] 0 ao k c bs _ A3.out.drew (arn_src (owns_keep R3.out ((Chg.refl [] w3).drew) (by simp)) HOG.out)).mono ?_; rintro e w4 ⟨rfl, C4', A4⟩; have C4 : Chg [bA, bC] w3 w4 := C4'.of_drew))
  go_wp2_with fail
  have hE : Arn.insE N 0 0 k = 0 := by unfold Arn.insE; rw [if_neg (by omega), if_neg (by omega)]
  have hL : Arn.insL N [] 0 bs = bs := by
    unfold Arn.insL
    rw [if_pos (by rw [← HKL.out]; exact hE)]
    simp
  rw [hL] at A4
  have R4 := owns_keep R3.out C4 HOG.out
  obtain ⟨w5, hr5, C5⟩ := clear_run R4 0
  refine ⟨.tuple #[], w5, ⟨_, _, _, _, rfl⟩, by simp [invoke, builtin, hr5, Result.andThen], .tuple #[.int .i64 (k : Nat), .int .i64 (Arn.insE N 0 0 k)], by simp [results, Tryz.results205, go_sem], ?_⟩
  have hnew : ∀ j, (Value.slice ao k c).ownBlock = some j → ¬ Tt.own { τ with v := v3, E := τ.E ++ [ef0 3 at0 (k : Nat) true] } j := fun j hj => HG3.out.free (Nat.lt_of_lt_of_le (HR.out.lt j hj).2 HK.out.size) (HRO.out j hj).1
  have nA := HG3.out.free (Nat.lt_of_lt_of_le (heap_lt HH.out.Ar.hA) HK.out.size) HH.out.nA
  have nC := HG3.out.free (Nat.lt_of_lt_of_le (heap_lt HH.out.Ar.hC) HK.out.size) HH.out.nC
  have mem5 : ∀ x ∈ (Value.slice ao k c).ownBlock.toList, (Value.slice ao k c).ownBlock = some x := fun x hx => by simpa [Option.mem_toList] using hx
  have T5 := (HG3.out.is.chg C4 (fun x hx => by
    rcases List.mem_cons.1 hx with e | e
    · rw [e]; exact ⟨nA, HH.out.lA⟩
    · rw [List.mem_singleton.1 e]; exact ⟨nC, HH.out.lC⟩)).chg C5 (fun x hx => ⟨hnew x (mem5 x hx), (HR.out.lt x (mem5 x hx)).1⟩)
  have A5 := A4.chg C5 (fun hm => (HRO.out _ (mem5 _ hm)).2.1 rfl) (fun hm => (HRO.out _ (mem5 _ hm)).2.2 rfl)
  have G0 := ((TtGo.refl HH.out.T).chg0 HK.out).trans HG3.out
  refine ⟨by rw [hE, HKL.out], v3, ⟨by rw [← HKL.out]; exact T5, A5, by rw [← HKL.out]; exact nA, by rw [← HKL.out]; exact nC, HH.out.lA, HH.out.lC⟩, ?_, by rw [← HKL.out]; exact G0.own⟩
  have O1 : ChgO (fun x => τ.own x ∨ x = bA ∨ x = bC ∨ (Value.slice ao k c).ownBlock = some x) w w3 := G0.c.mono (fun x h => .inl h)
  refine (O1.trans (ChgO.of C4 (fun x hx => ?_)) (fun x h => .inl h)).trans (ChgO.of C5 (fun x hx => .inr (.inr (.inr (mem5 x hx))))) (fun x h => .inl h)
  rcases List.mem_cons.1 hx with e | e
  · exact .inr (.inl e)
  · exact .inr (.inr (.inl (List.mem_singleton.1 e)))
end Go.Proofs.YtafmnkngjjnpiaaGreatDoor

namespace Go.Proofs.YtafmnkngjjnpiaaGreatDoor
set_option linter.unusedVariables false
set_option linter.unusedSimpArgs false
set_option maxRecDepth 100000
open Go.RowKit
structure RdGo (w0 w : World) (τ τ' : Tt) (bA bC N : Nat) (l' : List Int) (w' : World) : Prop where
  ok : RdOk w0 w' τ' bA bC N l'
  c : ChgO (fun x => τ.own x ∨ x = bA ∨ x = bC) w w'
  own : ∀ k, τ'.own k → τ.own k ∨ w.heap.size ≤ k
theorem RdOk.wiped {w0 w w1 : World} {τ : Tt} {bA bC N : Nat} {l : List Int} (h : RdOk w0 w τ bA bC N l) (c : Chg [bA, bC] w w1) (a : Arn.ArenaIs w1 bA bC N []) : RdGo w0 w τ τ bA bC N [] w1 := by
  have hm : ∀ x ∈ [bA, bC], (x = bA ∨ x = bC) := fun x hx => by simpa using hx
  refine ⟨⟨h.T.chg c (fun x hx => ?_), a, h.nA, h.nC, h.lA, h.lC⟩, ChgO.of c (fun x hx => .inr (hm x hx)), fun k hk => .inl hk⟩
  rcases hm x hx with e | e
  · rw [e]; exact ⟨h.nA, h.lA⟩
  · rw [e]; exact ⟨h.nC, h.lC⟩
theorem RdGo.go {w0 a b c : World} {τ τ1 τ2 : Tt} {bA bC N : Nat} {l : List Int} (h : RdGo w0 a τ τ1 bA bC N l b) (k : TtGo w0 b τ1 τ2 c) : RdGo w0 a τ τ2 bA bC N l c := by
  refine ⟨⟨k.is, cho_arena k.c h.ok.Ar h.ok.nA h.ok.nC, k.free (heap_lt h.ok.Ar.hA) h.ok.nA, k.free (heap_lt h.ok.Ar.hC) h.ok.nC, h.ok.lA, h.ok.lC⟩, h.c.trans k.c (fun x hx => (h.own x hx).imp .inl id), fun j hj => (k.own j hj).elim (h.own j) (fun e => .inr (Nat.le_trans h.c.size e))⟩
theorem RdGo.chg0 {w0 a b c : World} {τ τ1 : Tt} {bA bC N : Nat} {l : List Int} (h : RdGo w0 a τ τ1 bA bC N l b) (k : Chg [] b c) : RdGo w0 a τ τ1 bA bC N l c :=
  h.go ((TtGo.refl h.ok.T).chg0 k)
set_option maxHeartbeats 4000000 in
theorem tRead_none (w0 w : World) (bT bA bC N : Nat) (v : Value) (μ : Wm) (c : Wc) (A : At3) (E : List EfD) (l : List Int) (h : RdOk w0 w ⟨bT, v, μ, [], c, A, E⟩ bA bC N l) (hN : 64 ≤ N) (hn : E.length ≤ 1000000) :
    Calls Tryz.prog 179 #[.pointer (some ⟨bT, 0, none⟩), .pointer (some ⟨bA, 0, none⟩)] w fun e w' => e = .returned (.tuple #[.int .i64 0, .int .i64 0, .int .i64 6]) ∧ ∃ v', RdGo w0 w ⟨bT, v, μ, [], c, A, E⟩ ⟨bT, v', μ, [], c, A, E ++ [ef0 5 at0 0 false]⟩ bA bC N [] w' := by
  have HH := Lib.hid h
  have hN' : ¬ (N : Int) < 64 := by omega
  clear h hN
  go_enter Tryz.func179, Tryz.ntmps179
  go_wp2_with fail
  refine (Arn.cap_any bA bC N l w HH.out.Ar).mono ?_
  rintro e w1 ⟨rfl, rfl⟩
  go_wp2_with fail
  refine (Arn.wipe_any bA bC N l w HH.out.Ar).mono ?_
  rintro e w1 ⟨rfl, C1, A1⟩
  have HG := Lib.hid (HH.out.wiped C1 A1)
  obtain ⟨_, _, _, t3, _⟩ := HG.out.ok.T.c3
  dsimp only at t3
  clear C1 A1
  go_wp2_with fail
  refine (oNext_none w0 w1 μ c 64 HG.out.ok.T.W (by omega)).mono ?_
  rintro e w2 ⟨rfl, rfl⟩
  go_wp2_with fail
  refine (note_go w0 w1 w1 ⟨bT, v, μ, [], c, A, E⟩ ⟨bT, v, μ, [], c, A, E⟩ (ef0 5 at0 0 false) (TtGo.refl HG.out.ok.T) (datE0 _ _ _ _) (fun k hk => by cases hk) hn).mono ?_
  rintro e w3 ⟨rfl, v3, G3⟩
  have HE := Lib.hid (HG.out.go G3)
  clear G3
  go_wp2_with fail
  refine ⟨rfl, _, by simp [results, Tryz.results179, go_sem] <;> rfl, ?_⟩
  exact ⟨rfl, v3, HE.out⟩
set_option maxHeartbeats 8000000 in
theorem tRead_sig (w0 w : World) (bT bA bC N : Nat) (v : Value) (μ : Wm) (z : Zt) (Z : List Zt) (c : Wc) (A : At3) (E : List EfD) (l : List Int) (h : RdOk w0 w ⟨bT, v, μ, z :: Z, c, A, E⟩ bA bC N l) (hN : 64 ≤ N) (hn : E.length ≤ 1000000) (hz : z.it.kind = 1) :
    Calls Tryz.prog 179 #[.pointer (some ⟨bT, 0, none⟩), .pointer (some ⟨bA, 0, none⟩)] w fun e w' => e = .returned (.tuple #[.int .i64 1, .int .i64 z.it.n, .int .i64 0]) ∧
      ∃ v' mv, RdGo w0 w ⟨bT, v, μ, z :: Z, c, A, E⟩ ⟨bT, v', { μ with v := mv }, Z, c, A, E ++ [ef0 4 at0 z.it.n false]⟩ bA bC N [] w' := by
  have HH := Lib.hid h
  have hN' : ¬ (N : Int) < 64 := by omega
  have HZ := Lib.hid hz
  clear h hN hz
  have hlk : ∀ (w3 : World) (b bx : Nat) (hm : w3.heap[b]? = some (.map (kindMap bx) 3)), (Instr.lookup 305 (.map (some b)) (.int .i64 1) false).run Tryz.prog w3 = .ok (.func (Fn.func 206) #[] #[.pointer (some ⟨bx, 0, none⟩)]) w3 := fun w3 b bx hm => kind_get hm 1 (by omega)
  have hlk2 : ∀ (w3 : World) (b bx : Nat) (hm : w3.heap[b]? = some (.map (kindMap bx) 3)), (Instr.lookup 305 (.map (some b)) (.int .i64 2) false).run Tryz.prog w3 = .ok (.func (Fn.func 207) #[] #[.pointer (some ⟨bx, 0, none⟩)]) w3 := fun w3 b bx hm => kind_get hm 2 (by omega)
  have HL := Lib.hid (And.intro hlk hlk2)
  clear hlk hlk2
  go_enter Tryz.func179, Tryz.ntmps179
  go_wp2_with fail
  refine (Arn.cap_any bA bC N l w HH.out.Ar).mono ?_
  rintro e w1 ⟨rfl, rfl⟩
  go_wp2_with fail
  refine (Arn.wipe_any bA bC N l w HH.out.Ar).mono ?_
  rintro e w1 ⟨rfl, C1, A1⟩
  have HG := Lib.hid (HH.out.wiped C1 A1)
  obtain ⟨_, _, _, t3, _⟩ := HG.out.ok.T.c3
  dsimp only at t3
  clear C1 A1
  go_wp2_with fail
  refine (oNext_far w0 w1 μ z Z c 64 HG.out.ok.T.W (by omega) (by rw [HZ.out]; omega)).mono ?_
  rintro e w2 ⟨rfl, F2, mv, O2⟩
  have HG2 := Lib.hid (HG.out.go (TtGo.of_wd (τ := ⟨bT, v, μ, z :: Z, c, A, E⟩) HG.out.ok.T F2 O2))
  clear F2 O2 t3
  go_wp2_with fail
  refine (kinds_any bT w2).mono ?_
  rintro e w3 ⟨b, bx, rfl, C3, hm, hx, hb1, hb2⟩
  have HG3 := Lib.hid (HG2.out.chg0 C3)
  have HX := Lib.hid (And.intro hx hb2)
  have hno := Lib.hid (show ¬ Tt.own ⟨bT, v, { μ with v := mv }, Z, c, A, E⟩ bx from fun ho => by have := (HG2.out.ok.T.own_lt bx ho).2; omega)
  have l1 := HL.out.1 w3 b bx hm
  rw [HZ.out]
  clear C3 hm hx hb1 hb2
  go_wp2_with fail
  refine (kSig_any w0 w3 ⟨bT, v, { μ with v := mv }, Z, c, A, E⟩ bx z.it.n (.slice none 0 0) _ HG3.out.ok.T HX.out.1 ⟨_, _, _, rfl⟩ hn hno.out).mono ?_
  rintro e w4 ⟨rfl, v4, G4⟩
  have HE := Lib.hid (HG3.out.go G4)
  clear G4
  go_wp2_with fail
  refine ⟨rfl, _, by simp [results, Tryz.results179, go_sem] <;> rfl, ?_⟩
  exact ⟨rfl, v4, mv, HE.out⟩
set_option maxHeartbeats 8000000 in
theorem tRead_fault (w0 w : World) (bT bA bC N : Nat) (v : Value) (μ : Wm) (z : Zt) (Z : List Zt) (c : Wc) (A : At3) (E : List EfD) (l : List Int) (h : RdOk w0 w ⟨bT, v, μ, z :: Z, c, A, E⟩ bA bC N l) (hN : 64 ≤ N) (hn : E.length ≤ 1000000) (hz : z.it.kind = 2) :
    Calls Tryz.prog 179 #[.pointer (some ⟨bT, 0, none⟩), .pointer (some ⟨bA, 0, none⟩)] w fun e w' => e = .returned (.tuple #[.int .i64 2, .int .i64 0, .int .i64 5]) ∧
      ∃ v' mv, RdGo w0 w ⟨bT, v, μ, z :: Z, c, A, E⟩ ⟨bT, v', { μ with v := mv }, Z, c, A, E ++ [ef0 3 at0 0 false]⟩ bA bC N [] w' := by
  have HH := Lib.hid h
  have hN' : ¬ (N : Int) < 64 := by omega
  have HZ := Lib.hid hz
  clear h hN hz
  have hlk : ∀ (w3 : World) (b bx : Nat) (hm : w3.heap[b]? = some (.map (kindMap bx) 3)), (Instr.lookup 305 (.map (some b)) (.int .i64 1) false).run Tryz.prog w3 = .ok (.func (Fn.func 206) #[] #[.pointer (some ⟨bx, 0, none⟩)]) w3 := fun w3 b bx hm => kind_get hm 1 (by omega)
  have hlk2 : ∀ (w3 : World) (b bx : Nat) (hm : w3.heap[b]? = some (.map (kindMap bx) 3)), (Instr.lookup 305 (.map (some b)) (.int .i64 2) false).run Tryz.prog w3 = .ok (.func (Fn.func 207) #[] #[.pointer (some ⟨bx, 0, none⟩)]) w3 := fun w3 b bx hm => kind_get hm 2 (by omega)
  have HL := Lib.hid (And.intro hlk hlk2)
  clear hlk hlk2
  go_enter Tryz.func179, Tryz.ntmps179
  go_wp2_with fail
  refine (Arn.cap_any bA bC N l w HH.out.Ar).mono ?_
  rintro e w1 ⟨rfl, rfl⟩
  go_wp2_with fail
  refine (Arn.wipe_any bA bC N l w HH.out.Ar).mono ?_
  rintro e w1 ⟨rfl, C1, A1⟩
  have HG := Lib.hid (HH.out.wiped C1 A1)
  obtain ⟨_, _, _, t3, _⟩ := HG.out.ok.T.c3
  dsimp only at t3
  clear C1 A1
  go_wp2_with fail
  refine (oNext_far w0 w1 μ z Z c 64 HG.out.ok.T.W (by omega) (by rw [HZ.out]; omega)).mono ?_
  rintro e w2 ⟨rfl, F2, mv, O2⟩
  have HG2 := Lib.hid (HG.out.go (TtGo.of_wd (τ := ⟨bT, v, μ, z :: Z, c, A, E⟩) HG.out.ok.T F2 O2))
  clear F2 O2 t3
  go_wp2_with fail
  refine (kinds_any bT w2).mono ?_
  rintro e w3 ⟨b, bx, rfl, C3, hm, hx, hb1, hb2⟩
  have HG3 := Lib.hid (HG2.out.chg0 C3)
  have HX := Lib.hid (And.intro hx hb2)
  have hno := Lib.hid (show ¬ Tt.own ⟨bT, v, { μ with v := mv }, Z, c, A, E⟩ bx from fun ho => by have := (HG2.out.ok.T.own_lt bx ho).2; omega)
  have l1 := HL.out.2 w3 b bx hm
  rw [HZ.out]
  clear C3 hm hx hb1 hb2
  go_wp2_with fail
  refine (kFault_any w0 w3 ⟨bT, v, { μ with v := mv }, Z, c, A, E⟩ bx z.it.n (.slice none 0 0) _ HG3.out.ok.T HX.out.1 ⟨_, _, _, rfl⟩ hn hno.out).mono ?_
  rintro e w4 ⟨rfl, v4, G4⟩
  have HE := Lib.hid (HG3.out.go G4)
  clear G4
  go_wp2_with fail
  refine ⟨rfl, _, by simp [results, Tryz.results179, go_sem] <;> rfl, ?_⟩
  exact ⟨rfl, v4, mv, HE.out⟩
set_option maxHeartbeats 8000000 in
theorem tRead_dat (w0 w : World) (bT bA bC N : Nat) (v : Value) (μ : Wm) (z : Zt) (Z : List Zt) (c : Wc) (A : At3) (E : List EfD) (l : List Int) (k : Nat) (bs : List Int) (Z2 : List Zt) (h : RdOk w0 w ⟨bT, v, μ, z :: Z, c, A, E⟩ bA bC N l) (hN : 64 ≤ N) (hn : E.length ≤ 1000000) (hz : z.it.kind = 0) (hk : k = min 64 z.it.bs.length) (hbs : bs = z.it.bs.take k) (hZ2 : Z2 = if k = z.it.bs.length then Z else z.cut k :: Z) :
    Calls Tryz.prog 179 #[.pointer (some ⟨bT, 0, none⟩), .pointer (some ⟨bA, 0, none⟩)] w fun e w' => e = .returned (.tuple #[.int .i64 0, .int .i64 (k : Nat), .int .i64 0]) ∧
      ∃ v' mv, RdGo w0 w ⟨bT, v, μ, z :: Z, c, A, E⟩ ⟨bT, v', { μ with v := mv }, Z2, c, A, E ++ [ef0 3 at0 (k : Nat) true]⟩ bA bC N bs w' := by
  have HH := Lib.hid h
  have hN' : ¬ (N : Int) < 64 := by omega
  have HN := Lib.hid hN
  have HZ := Lib.hid hz
  have HKM := Lib.hid hk
  have HBS := Lib.hid hbs
  have HZ2 := Lib.hid hZ2
  have hbl : bs.length = k := by rw [hbs, List.length_take]; omega
  have HBL := Lib.hid hbl
  clear h hN hz hk hbs hZ2 hbl
  have hlk : ∀ (w3 : World) (b bx : Nat) (hm : w3.heap[b]? = some (.map (kindMap bx) 3)), (Instr.lookup 305 (.map (some b)) (.int .i64 0) false).run Tryz.prog w3 = .ok (.func (Fn.func 205) #[] #[.pointer (some ⟨bx, 0, none⟩)]) w3 := fun w3 b bx hm => kind_get hm 0 (by omega)
  have HL := Lib.hid hlk
  clear hlk
  go_enter Tryz.func179, Tryz.ntmps179
  go_wp2_with fail
  refine (Arn.cap_any bA bC N l w HH.out.Ar).mono ?_
  rintro e w1 ⟨rfl, rfl⟩
  go_wp2_with fail
  refine (Arn.wipe_any bA bC N l w HH.out.Ar).mono ?_
  rintro e w1 ⟨rfl, C1, A1⟩
  have HG := Lib.hid (HH.out.wiped C1 A1)
  obtain ⟨_, _, _, t3, _⟩ := HG.out.ok.T.c3
  dsimp only at t3
  clear C1 A1
  go_wp2_with fail
  refine (oNext_dat w0 w1 μ z Z c 64 k HG.out.ok.T.W (by omega) HZ.out (by have := HKM.out; omega)).mono ?_
  rintro e w2 ⟨rv, rfl, F2, R2, fo2, mv, O2⟩
  rw [← HZ2.out] at O2
  rw [← HBS.out] at R2
  have hrl : ∀ j, rv.ownBlock = some j → w1.heap.size ≤ j := fun j hj => (R2.lt j hj).1
  have HG2 := Lib.hid (HG.out.go (TtGo.of_wd (τ := ⟨bT, v, μ, z :: Z, c, A, E⟩) HG.out.ok.T F2 O2))
  obtain ⟨ar, cr, rfl, _, _⟩ := owns_srcAt R2
  have HR := Lib.hid (And.intro (owns_low R2 HG.out.ok.T.W.c0.size) hrl)
  clear F2 O2 t3 R2 fo2 hrl
  go_wp2_with fail
  refine (kinds_any bT w2).mono ?_
  rintro e w3 ⟨b, bx, rfl, C3, hm, hx, hb1, hb2⟩
  have HG3 := Lib.hid (HG2.out.chg0 C3)
  have HX := Lib.hid (And.intro hx hb2)
  have hno := Lib.hid (show ¬ Tt.own ⟨bT, v, { μ with v := mv }, Z2, c, A, E⟩ bx from fun ho => by have := (HG2.out.ok.T.own_lt bx ho).2; omega)
  have l1 := HL.out w3 b bx hm
  have HR3 := Lib.hid (owns_keep HR.out.1 C3 (by simp))
  have HRO := Lib.hid (show ∀ j, (Value.slice ar bs.length cr).ownBlock = some j → ¬ Tt.own ⟨bT, v, { μ with v := mv }, Z2, c, A, E⟩ j ∧ j ≠ bA ∧ j ≠ bC from fun j hj => by
    rw [HBL.out] at hj
    have h1 := HR.out.2 j hj
    refine ⟨fun ho => ?_, fun e => ?_, fun e => ?_⟩
    · rcases ho with ho | ho | ho | ⟨y, hy, ho⟩
      · exact ho (HG.out.ok.T.W.hi j h1)
      · have := heap_lt HG.out.ok.T.hT; dsimp only at ho this; omega
      · have := HG.out.ok.T.row.lt j ho; omega
      · have := ((HG.out.ok.T.dat y hy).blk j ho).2.2.2.2; omega
    · have := heap_lt HG.out.ok.Ar.hA; omega
    · have := heap_lt HG.out.ok.Ar.hC; omega)
  clear C3 hm hx hb1 hb2
  go_wp2_with fail
  have hdat := kDat_any w0 w3 ⟨bT, v, { μ with v := mv }, Z2, c, A, E⟩ bx bA bC N ar cr bs HG3.out.ok HX.out.1 (by rw [HBL.out]; exact HR3.out) HRO.out (by rw [HBL.out]; have := HKM.out; have := HN.out; omega) hn hno.out
  rw [HBL.out] at hdat
  refine hdat.mono ?_
  rintro e w4 ⟨he, v4, R4, O4, G4⟩
  rw [HBL.out] at he R4 G4
  subst he
  have HE : Hid (RdGo w0 w ⟨bT, v, μ, z :: Z, c, A, E⟩ ⟨bT, v4, { μ with v := mv }, Z2, c, A, E ++ [ef0 3 at0 (k : Nat) true]⟩ bA bC N bs w4) := Lib.hid ⟨R4, HG3.out.c.trans O4 (fun x hx => by
    rcases hx with hx | hx | hx | hx
    · exact (HG3.out.own x hx).imp .inl id
    · exact .inl (.inr (.inl hx))
    · exact .inl (.inr (.inr hx))
    · have hx' : (Value.slice ar k cr).ownBlock = some x := hx
      exact .inr (Nat.le_trans HG.out.c.size (HR.out.2 x hx'))), fun j hj => (G4 j hj).elim (HG3.out.own j) (fun e => .inr (Nat.le_trans HG3.out.c.size e))⟩
  clear R4 O4 G4 hdat
  go_wp2_with fail
  refine ⟨rfl, _, by simp [results, Tryz.results179, go_sem] <;> rfl, ?_⟩
  exact ⟨rfl, v4, mv, HE.out⟩
end Go.Proofs.YtafmnkngjjnpiaaGreatDoor

namespace Go.Proofs.YtafmnkngjjnpiaaGreatDoor
set_option linter.unusedVariables false
set_option linter.unusedSimpArgs false
set_option maxRecDepth 100000
open Go.RowKit
structure Gm where
  bS : Nat
  bE : Nat
  bG : Nat
  bD : Nat
  eA : Nat
  eC : Nat
  pA : Nat
  pC : Nat
  kA : Nat
  kC : Nat
  rA : Nat
  rC : Nat
  bR : Nat
  bM : Nat
  nv : Value
  pr : ByteArray
  mode : Int
  room : Int
  κ : Nat → Nat
def Gm.q (γ : Gm) : Aq := ⟨bI γ.pr, γ.mode⟩
def Gm.ents (γ : Gm) (e p k r : List Int) : List Ar.Ent :=
  [⟨⟨#[101, 100, 105, 116]⟩, γ.eA, γ.eC, 1024, e⟩, ⟨⟨#[112, 97, 115, 116, 101]⟩, γ.pA, γ.pC, 1024, p⟩, ⟨⟨#[107, 101, 121, 115]⟩, γ.kA, γ.kC, 36, k⟩, ⟨⟨#[114, 101, 97, 100]⟩, γ.rA, γ.rC, 64, r⟩]
structure GmOk (γ : Gm) : Prop where
  k1 : γ.κ γ.bS = 1
  k2 : γ.κ γ.bE = 2
  k3 : γ.κ γ.bG = 3
  k4 : γ.κ γ.bD = 4
  k5 : γ.κ γ.eA = 5
  k6 : γ.κ γ.eC = 6
  k7 : γ.κ γ.pA = 7
  k8 : γ.κ γ.pC = 8
  k9 : γ.κ γ.kA = 9
  k10 : γ.κ γ.kC = 10
  k11 : γ.κ γ.rA = 11
  k12 : γ.κ γ.rC = 12
  k13 : γ.κ γ.bR = 13
  k14 : γ.κ γ.bM = 14
  k15 : ∀ k, γ.nv.ownBlock = some k → γ.κ k = 15
  ask : AskOk γ.pr γ.mode γ.room
def ptOf (τ : Tt) : Pt := ⟨τ.Z.map (·.it), τ.c, τ.A, τ.E.map EfD.pl⟩
def Sown (γ : Gm) (τ : Tt) (k : Nat) : Prop := γ.κ k ≠ 0 ∨ τ.own k
structure ZOk (z : Zt) : Prop where
  by' : ByR z.it.bs
  kd : z.it.kind = 0 ∨ z.it.kind = 1 ∨ z.it.kind = 2
structure SesIs (w0 w : World) (γ : Gm) (τ : Tt) (s : Ss) (rd : List Int) : Prop where
  T : TtIs w0 w τ
  t : s.t = ptOf τ
  K : GmOk γ
  S : w.heap[γ.bS]? = some (.cells #[.pointer (some ⟨τ.bT, 0, none⟩), .string γ.pr, .int .i64 γ.mode, .int .i64 γ.room, .pointer (some ⟨γ.rA, 0, none⟩), .pointer (some ⟨γ.bE, 0, none⟩), .pointer (some ⟨γ.bG, 0, none⟩), .pointer (some ⟨γ.bD, 0, none⟩)] 186 (0, 0))
  B : BufIs w γ.bE γ.eA γ.eC 1024 s.b
  G : StgIs w γ.bG γ.pA γ.pC 1024 s.g
  D : DecIs w γ.bD γ.kA γ.kC 36 s.d
  A : Ar.ArenaIs w γ.rA γ.rC 64 rd
  hR : w.heap[γ.bR]? = some (.cells #[γ.nv, .map (some γ.bM)] 174 (0, 0))
  row : w.ownsRow 0 9 1 γ.nv 4 ((γ.ents [] [] [] []).map fun x => .string x.name)
  map : Ar.MapIs w γ.bM 4 (Ar.findP (γ.ents [] [] [] []))
  lo : ∀ x, γ.κ x ≠ 0 → w0.heap.size ≤ x
  hi : ∀ x, γ.κ x ≠ 0 → x < w.heap.size
  sep : ∀ x, γ.κ x ≠ 0 → ¬ τ.own x
  L0 : LibT w0
  cnt : τ.c.wrote ≤ τ.E.length ∧ τ.c.got ≤ τ.E.length ∧ τ.c.set ≤ τ.E.length
  by' : ∀ z ∈ τ.Z, ZOk z
  rby : ByR rd
theorem SesIs.c0 {w0 w : World} {γ : Gm} {τ : Tt} {s : Ss} {rd : List Int} (h : SesIs w0 w γ τ s rd) : Chg [] w0 w := h.T.W.c0
theorem SesIs.L {w0 w : World} {γ : Gm} {τ : Tt} {s : Ss} {rd : List Int} (h : SesIs w0 w γ τ s rd) : LibT w := h.L0.chg0 h.c0
theorem SesIs.own_lt {w0 w : World} {γ : Gm} {τ : Tt} {s : Ss} {rd : List Int} (h : SesIs w0 w γ τ s rd) : ∀ k, Sown γ τ k → w0.heap.size ≤ k ∧ k < w.heap.size :=
  fun k hk => hk.elim (fun e => ⟨h.lo k e, h.hi k e⟩) (h.T.own_lt k)
theorem kn {κ : Nat → Nat} {S : List Nat} {x : Nat} (h : ∀ y ∈ S, κ y ≠ κ x) : x ∉ S := fun hm => h x hm rfl
theorem SesIs.chg {w0 w w' : World} {γ : Gm} {τ : Tt} {s : Ss} {rd : List Int} {S : List Nat} (h : SesIs w0 w γ τ s rd) (c : Chg S w w') (hS : ∀ x ∈ S, ¬ Sown γ τ x ∧ w0.heap.size ≤ x) : SesIs w0 w' γ τ s rd := by
  have hn : ∀ x, γ.κ x ≠ 0 → x ∉ S := fun x hx hm => (hS x hm).1 (.inl hx)
  have K := h.K
  refine ⟨h.T.chg c (fun x hx => ⟨fun ho => (hS x hx).1 (.inr ho), (hS x hx).2⟩), h.t, K, c.heap h.S (hn _ (by rw [K.k1]; decide)), h.B.chg c (hn _ (by rw [K.k2]; decide)) (hn _ (by rw [K.k5]; decide)) (hn _ (by rw [K.k6]; decide)),
    h.G.chg c (hn _ (by rw [K.k3]; decide)) (hn _ (by rw [K.k7]; decide)) (hn _ (by rw [K.k8]; decide)), h.D.chg c (hn _ (by rw [K.k4]; decide)) (hn _ (by rw [K.k9]; decide)) (hn _ (by rw [K.k10]; decide)),
    h.A.chg c (hn _ (by rw [K.k11]; decide)) (hn _ (by rw [K.k12]; decide)), c.heap h.hR (hn _ (by rw [K.k13]; decide)), eowns_keep h.row c (fun k hk => hn _ (by rw [K.k15 k hk]; decide)), h.map.chg c (hn _ (by rw [K.k14]; decide)),
    h.lo, fun x hx => Nat.lt_of_lt_of_le (h.hi x hx) c.size, h.sep, h.L0, h.cnt, h.by', h.rby⟩
theorem SesIs.chg0 {w0 w w' : World} {γ : Gm} {τ : Tt} {s : Ss} {rd : List Int} (h : SesIs w0 w γ τ s rd) (c : Chg [] w w') : SesIs w0 w' γ τ s rd := h.chg c (by simp)
theorem SesIs.tt {w0 w w' : World} {γ : Gm} {τ τ' : Tt} {s : Ss} {rd : List Int} (h : SesIs w0 w γ τ s rd) (g : TtGo w0 w τ τ' w') (hb : τ'.bT = τ.bT) (hc : τ'.c.wrote ≤ τ'.E.length ∧ τ'.c.got ≤ τ'.E.length ∧ τ'.c.set ≤ τ'.E.length) (hz : ∀ z ∈ τ'.Z, ZOk z) :
    SesIs w0 w' γ τ' { s with t := ptOf τ' } rd := by
  obtain ⟨S, c, hS⟩ := g.c
  have hn : ∀ x, γ.κ x ≠ 0 → x ∉ S := fun x hx hm => h.sep x hx (hS x hm (h.hi x hx))
  have K := h.K
  refine ⟨g.is, rfl, K, ?_, h.B.chg c (hn _ (by rw [K.k2]; decide)) (hn _ (by rw [K.k5]; decide)) (hn _ (by rw [K.k6]; decide)),
    h.G.chg c (hn _ (by rw [K.k3]; decide)) (hn _ (by rw [K.k7]; decide)) (hn _ (by rw [K.k8]; decide)), h.D.chg c (hn _ (by rw [K.k4]; decide)) (hn _ (by rw [K.k9]; decide)) (hn _ (by rw [K.k10]; decide)),
    h.A.chg c (hn _ (by rw [K.k11]; decide)) (hn _ (by rw [K.k12]; decide)), c.heap h.hR (hn _ (by rw [K.k13]; decide)), eowns_keep h.row c (fun k hk => hn _ (by rw [K.k15 k hk]; decide)), h.map.chg c (hn _ (by rw [K.k14]; decide)),
    h.lo, fun x hx => Nat.lt_of_lt_of_le (h.hi x hx) c.size, fun x hx ho => (g.own x ho).elim (h.sep x hx) (fun hl => by have := h.hi x hx; omega), h.L0, hc, hz, h.rby⟩
  rw [hb]
  exact c.heap h.S (hn _ (by rw [K.k1]; decide))
theorem SesIs.tk {w0 w w' : World} {γ : Gm} {τ : Tt} {s : Ss} {rd : List Int} {S : List Nat} (h : SesIs w0 w γ τ s rd) (c : Chg S w w') (hS : ∀ x ∈ S, γ.κ x ≠ 0) : TtIs w0 w' τ :=
  h.T.chg c (fun x hx => ⟨h.sep x (hS x hx), h.lo x (hS x hx)⟩)
theorem SesIs.buf {w0 w w' : World} {γ : Gm} {τ : Tt} {s : Ss} {rd : List Int} {b : Bf} (h : SesIs w0 w γ τ s rd) (c : Chg [γ.bE, γ.eA, γ.eC] w w') (hb : BufIs w' γ.bE γ.eA γ.eC 1024 b) : SesIs w0 w' γ τ { s with b := b } rd := by
  have K := h.K
  have hk : ∀ x ∈ [γ.bE, γ.eA, γ.eC], γ.κ x = 2 ∨ γ.κ x = 5 ∨ γ.κ x = 6 := by simp [K.k2, K.k5, K.k6]
  have hn : ∀ x, γ.κ x ≠ 2 → γ.κ x ≠ 5 → γ.κ x ≠ 6 → x ∉ [γ.bE, γ.eA, γ.eC] := fun x h1 h2 h3 hm => by have := hk x hm; omega
  refine ⟨h.tk c (fun x hx => by have := hk x hx; omega), h.t, K, c.heap h.S (hn _ (by rw [K.k1]; decide) (by rw [K.k1]; decide) (by rw [K.k1]; decide)), hb, ?_, ?_, ?_, c.heap h.hR ?_, eowns_keep h.row c (fun k hk => ?_), h.map.chg c ?_, h.lo, fun x hx => Nat.lt_of_lt_of_le (h.hi x hx) c.size, h.sep, h.L0, h.cnt, h.by', h.rby⟩
  · refine h.G.chg c ?_ ?_ ?_ <;> refine hn _ ?_ ?_ ?_ <;> simp [K.k3, K.k7, K.k8]
  · refine h.D.chg c ?_ ?_ ?_ <;> refine hn _ ?_ ?_ ?_ <;> simp [K.k4, K.k9, K.k10]
  · refine h.A.chg c ?_ ?_ <;> refine hn _ ?_ ?_ ?_ <;> simp [K.k11, K.k12]
  · refine hn _ ?_ ?_ ?_ <;> simp [K.k13]
  · refine hn _ ?_ ?_ ?_ <;> simp [K.k15 k hk]
  · refine hn _ ?_ ?_ ?_ <;> simp [K.k14]
theorem SesIs.stg {w0 w w' : World} {γ : Gm} {τ : Tt} {s : Ss} {rd : List Int} {g : Stg} (h : SesIs w0 w γ τ s rd) (c : Chg [γ.bG, γ.pA, γ.pC] w w') (hg : StgIs w' γ.bG γ.pA γ.pC 1024 g) : SesIs w0 w' γ τ { s with g := g } rd := by
  have K := h.K
  have hk : ∀ x ∈ [γ.bG, γ.pA, γ.pC], γ.κ x = 3 ∨ γ.κ x = 7 ∨ γ.κ x = 8 := by simp [K.k3, K.k7, K.k8]
  have hn : ∀ x, γ.κ x ≠ 3 → γ.κ x ≠ 7 → γ.κ x ≠ 8 → x ∉ [γ.bG, γ.pA, γ.pC] := fun x h1 h2 h3 hm => by have := hk x hm; omega
  refine ⟨h.tk c (fun x hx => by have := hk x hx; omega), h.t, K, c.heap h.S (hn _ (by rw [K.k1]; decide) (by rw [K.k1]; decide) (by rw [K.k1]; decide)), ?_, hg, ?_, ?_, c.heap h.hR ?_, eowns_keep h.row c (fun k hk => ?_), h.map.chg c ?_, h.lo, fun x hx => Nat.lt_of_lt_of_le (h.hi x hx) c.size, h.sep, h.L0, h.cnt, h.by', h.rby⟩
  · refine h.B.chg c ?_ ?_ ?_ <;> refine hn _ ?_ ?_ ?_ <;> simp [K.k2, K.k5, K.k6]
  · refine h.D.chg c ?_ ?_ ?_ <;> refine hn _ ?_ ?_ ?_ <;> simp [K.k4, K.k9, K.k10]
  · refine h.A.chg c ?_ ?_ <;> refine hn _ ?_ ?_ ?_ <;> simp [K.k11, K.k12]
  · refine hn _ ?_ ?_ ?_ <;> simp [K.k13]
  · refine hn _ ?_ ?_ ?_ <;> simp [K.k15 k hk]
  · refine hn _ ?_ ?_ ?_ <;> simp [K.k14]
theorem SesIs.both {w0 w w' : World} {γ : Gm} {τ : Tt} {s : Ss} {rd : List Int} {g : Stg} {b : Bf} (h : SesIs w0 w γ τ s rd) (c : Chg [γ.bG, γ.pA, γ.pC, γ.bE, γ.eA, γ.eC] w w') (hg : StgIs w' γ.bG γ.pA γ.pC 1024 g) (hb : BufIs w' γ.bE γ.eA γ.eC 1024 b) :
    SesIs w0 w' γ τ { s with g := g, b := b } rd := by
  have K := h.K
  have hk : ∀ x ∈ [γ.bG, γ.pA, γ.pC, γ.bE, γ.eA, γ.eC], (γ.κ x = 3 ∨ γ.κ x = 7 ∨ γ.κ x = 8) ∨ γ.κ x = 2 ∨ γ.κ x = 5 ∨ γ.κ x = 6 := by simp [K.k3, K.k7, K.k8, K.k2, K.k5, K.k6]
  have hn : ∀ x, γ.κ x = 1 ∨ γ.κ x = 4 ∨ 9 ≤ γ.κ x → x ∉ [γ.bG, γ.pA, γ.pC, γ.bE, γ.eA, γ.eC] := fun x h1 hm => by have := hk x hm; omega
  refine ⟨h.tk c (fun x hx => by have := hk x hx; omega), h.t, K, c.heap h.S (hn _ (by rw [K.k1]; decide)), hb, hg, ?_, ?_, c.heap h.hR ?_, eowns_keep h.row c (fun k hk => ?_), h.map.chg c ?_, h.lo, fun x hx => Nat.lt_of_lt_of_le (h.hi x hx) c.size, h.sep, h.L0, h.cnt, h.by', h.rby⟩
  · refine h.D.chg c ?_ ?_ ?_ <;> refine hn _ ?_ <;> simp [K.k4, K.k9, K.k10]
  · refine h.A.chg c ?_ ?_ <;> refine hn _ ?_ <;> simp [K.k11, K.k12]
  · refine hn _ ?_ ; simp [K.k13]
  · refine hn _ ?_ ; simp [K.k15 k hk]
  · refine hn _ ?_ ; simp [K.k14]
theorem SesIs.dec {w0 w w' : World} {γ : Gm} {τ : Tt} {s : Ss} {rd : List Int} {d : Dc} (h : SesIs w0 w γ τ s rd) (c : Chg [γ.bD, γ.kA, γ.kC] w w') (hd : DecIs w' γ.bD γ.kA γ.kC 36 d) : SesIs w0 w' γ τ { s with d := d } rd := by
  have K := h.K
  have hk : ∀ x ∈ [γ.bD, γ.kA, γ.kC], γ.κ x = 4 ∨ γ.κ x = 9 ∨ γ.κ x = 10 := by simp [K.k4, K.k9, K.k10]
  have hn : ∀ x, γ.κ x ≠ 4 → γ.κ x ≠ 9 → γ.κ x ≠ 10 → x ∉ [γ.bD, γ.kA, γ.kC] := fun x h1 h2 h3 hm => by have := hk x hm; omega
  refine ⟨h.tk c (fun x hx => by have := hk x hx; omega), h.t, K, c.heap h.S (hn _ (by rw [K.k1]; decide) (by rw [K.k1]; decide) (by rw [K.k1]; decide)), ?_, ?_, hd, ?_, c.heap h.hR ?_, eowns_keep h.row c (fun k hk => ?_), h.map.chg c ?_, h.lo, fun x hx => Nat.lt_of_lt_of_le (h.hi x hx) c.size, h.sep, h.L0, h.cnt, h.by', h.rby⟩
  · refine h.B.chg c ?_ ?_ ?_ <;> refine hn _ ?_ ?_ ?_ <;> simp [K.k2, K.k5, K.k6]
  · refine h.G.chg c ?_ ?_ ?_ <;> refine hn _ ?_ ?_ ?_ <;> simp [K.k3, K.k7, K.k8]
  · refine h.A.chg c ?_ ?_ <;> refine hn _ ?_ ?_ ?_ <;> simp [K.k11, K.k12]
  · refine hn _ ?_ ?_ ?_ <;> simp [K.k13]
  · refine hn _ ?_ ?_ ?_ <;> simp [K.k15 k hk]
  · refine hn _ ?_ ?_ ?_ <;> simp [K.k14]
def fee (τ : Tt) : Nat := τ.E.length + (τ.c.ws.length - τ.c.wrote)
def ErrV (γ : Gm) (τ' : Tt) (r : Option Int) (v : Value) (w w' : World) : Prop :=
  (r = none ∧ v = .nilIface) ∨ ∃ o g, r = some o ∧ v = .iface 222 (.pointer (some ⟨g, 0, none⟩)) ∧ w'.heap[g]? = some (.cells #[.int .i64 o] 229 (0, 0)) ∧ w.heap.size ≤ g ∧ ¬ Sown γ τ' g
structure SGo (w0 w : World) (γ : Gm) (τ τ' : Tt) (s' : Ss) (rd' : List Int) (w' : World) : Prop where
  is : SesIs w0 w' γ τ' s' rd'
  c : ChgO (Sown γ τ) w w'
  own : ∀ k, τ'.own k → τ.own k ∨ w.heap.size ≤ k
  bT : τ'.bT = τ.bT
theorem SGo.trans {w0 a b c : World} {γ : Gm} {τ τ1 τ2 : Tt} {s1 s2 : Ss} {r1 r2 : List Int} (h : SGo w0 a γ τ τ1 s1 r1 b) (k : SGo w0 b γ τ1 τ2 s2 r2 c) : SGo w0 a γ τ τ2 s2 r2 c :=
  ⟨k.is, h.c.trans k.c (fun x hx => hx.elim (fun e => .inl (.inl e)) (fun e => (h.own x e).imp .inr id)), fun j hj => (k.own j hj).elim (h.own j) (fun e => .inr (Nat.le_trans h.c.size e)), k.bT.trans h.bT⟩
theorem SGo.refl {w0 w : World} {γ : Gm} {τ : Tt} {s : Ss} {rd : List Int} (h : SesIs w0 w γ τ s rd) : SGo w0 w γ τ τ s rd w := ⟨h, ChgO.of0 (Chg.refl _ _), fun k hk => .inl hk, rfl⟩
theorem SGo.chg0 {w0 a b c : World} {γ : Gm} {τ τ1 : Tt} {s1 : Ss} {r1 : List Int} (h : SGo w0 a γ τ τ1 s1 r1 b) (k : Chg [] b c) : SGo w0 a γ τ τ1 s1 r1 c :=
  h.trans ⟨h.is.chg0 k, ChgO.of0 k, fun j hj => .inl hj, rfl⟩
theorem SGo.pre0 {w0 a b c : World} {γ : Gm} {τ τ1 : Tt} {s1 : Ss} {r1 : List Int} (k : Chg [] a b) (h : SGo w0 b γ τ τ1 s1 r1 c) : SGo w0 a γ τ τ1 s1 r1 c :=
  ⟨h.is, (ChgO.of0 k).trans h.c (fun x hx => .inl hx), fun j hj => (h.own j hj).imp id (fun e => Nat.le_trans k.size e), h.bT⟩
theorem SGo.box {w0 a b : World} {γ : Gm} {τ τ' : Tt} {s' : Ss} {rd' : List Int} (G : SGo w0 a γ τ τ' s' rd' b) {k : Nat} {o : Obj} (h : a.heap[k]? = some o ∧ ¬ Sown γ τ k) : b.heap[k]? = some o ∧ ¬ Sown γ τ' k :=
  ⟨G.c.heap h.1 h.2, fun ho => ho.elim (fun e => h.2 (.inl e)) (fun e => (G.own k e).elim (fun e => h.2 (.inr e)) (fun hl => by have := heap_lt h.1; omega))⟩
theorem SesIs.new {w0 w : World} {γ : Gm} {τ : Tt} {s : Ss} {rd : List Int} (h : SesIs w0 w γ τ s rd) {k : Nat} (hk : w.heap.size ≤ k) : ¬ Sown γ τ k := fun ho => by have := (h.own_lt k ho).2; omega
theorem SGo.mine {w0 a b c : World} {γ : Gm} {τ τ1 : Tt} {s1 : Ss} {r1 : List Int} {S : List Nat} (h : SGo w0 a γ τ τ1 s1 r1 b) (k : Chg S b c) (hS : ∀ x ∈ S, a.heap.size ≤ x ∧ ¬ Sown γ τ1 x) (h0 : w0.heap.size ≤ a.heap.size) : SGo w0 a γ τ τ1 s1 r1 c := by
  refine ⟨h.is.chg k (fun x hx => ⟨(hS x hx).2, Nat.le_trans h0 (hS x hx).1⟩), ?_, h.own, h.bT⟩
  obtain ⟨U, k1, k2⟩ := h.c
  exact ⟨U ++ S, k1.trans k (fun x hx => List.mem_append_left _ hx) (fun x hx _ => List.mem_append_right _ hx), fun x hx hl => (List.mem_append.1 hx).elim (fun hm => k2 x hm hl) (fun hm => absurd (hS x hm).1 (by omega))⟩
theorem SGo.of_tt {w0 w w' : World} {γ : Gm} {τ τ' : Tt} {s : Ss} {rd : List Int} (h : SesIs w0 w γ τ s rd) (g : TtGo w0 w τ τ' w') (hb : τ'.bT = τ.bT) (hc : τ'.c.wrote ≤ τ'.E.length ∧ τ'.c.got ≤ τ'.E.length ∧ τ'.c.set ≤ τ'.E.length) (hz : ∀ z ∈ τ'.Z, ZOk z) :
    SGo w0 w γ τ τ' { s with t := ptOf τ' } rd w' := ⟨h.tt g hb hc hz, g.c.mono (fun x hx => .inr hx), g.own, hb⟩
theorem SGo.of_k {w0 w w' : World} {γ : Gm} {τ : Tt} {s' : Ss} {rd' : List Int} {S : List Nat} (h : SesIs w0 w' γ τ s' rd') (c : Chg S w w') (hS : ∀ x ∈ S, γ.κ x ≠ 0) : SGo w0 w γ τ τ s' rd' w' :=
  ⟨h, ChgO.of c (fun x hx => .inl (hS x hx)), fun k hk => .inl hk, rfl⟩
theorem SGo.of_rd {w0 w w' : World} {γ : Gm} {τ τ' : Tt} {s : Ss} {rd l' : List Int} (h : SesIs w0 w γ τ s rd) (g : RdGo w0 w τ τ' γ.rA γ.rC 64 l' w') (hb : τ'.bT = τ.bT) (hc : τ'.c.wrote ≤ τ'.E.length ∧ τ'.c.got ≤ τ'.E.length ∧ τ'.c.set ≤ τ'.E.length) (hz : ∀ z ∈ τ'.Z, ZOk z) (hl : ByR l') :
    SGo w0 w γ τ τ' { s with t := ptOf τ' } l' w' := by
  have K := h.K
  obtain ⟨S, c, hS⟩ := g.c
  have hn : ∀ x, γ.κ x ≠ 0 → γ.κ x ≠ 11 → γ.κ x ≠ 12 → x ∉ S := fun x hx h1 h2 hm => by
    rcases hS x hm (h.hi x hx) with e | e | e
    · exact h.sep x hx e
    · rw [e, K.k11] at h1; exact h1 rfl
    · rw [e, K.k12] at h2; exact h2 rfl
  have ha := g.ok.Ar
  refine ⟨⟨g.ok.T, rfl, K, ?_, ?_, ?_, ?_, ⟨ha.hA, ha.hC, ha.le, ha.most, ha.pos, ha.ne⟩, c.heap h.hR ?_, eowns_keep h.row c (fun k hk => ?_), h.map.chg c ?_, h.lo, fun x hx => Nat.lt_of_lt_of_le (h.hi x hx) c.size, fun x hx ho => (g.own x ho).elim (h.sep x hx) (fun hl => by have := h.hi x hx; omega), h.L0, hc, hz, hl⟩, g.c.mono (fun x hx => ?_), g.own, hb⟩
  · rw [hb]
    refine c.heap h.S ?_
    refine hn _ ?_ ?_ ?_ <;> simp [K.k1]
  · refine h.B.chg c ?_ ?_ ?_ <;> refine hn _ ?_ ?_ ?_ <;> simp [K.k2, K.k5, K.k6]
  · refine h.G.chg c ?_ ?_ ?_ <;> refine hn _ ?_ ?_ ?_ <;> simp [K.k3, K.k7, K.k8]
  · refine h.D.chg c ?_ ?_ ?_ <;> refine hn _ ?_ ?_ ?_ <;> simp [K.k4, K.k9, K.k10]
  · refine hn _ ?_ ?_ ?_ <;> simp [K.k13]
  · refine hn _ ?_ ?_ ?_ <;> simp [K.k15 k hk]
  · refine hn _ ?_ ?_ ?_ <;> simp [K.k14]
  · rcases hx with e | e | e
    · exact .inr e
    · left; rw [e, K.k11]; decide
    · left; rw [e, K.k12]; decide
theorem SesIs.rdok {w0 w : World} {γ : Gm} {τ : Tt} {s : Ss} {rd : List Int} (h : SesIs w0 w γ τ s rd) : RdOk w0 w τ γ.rA γ.rC 64 rd := by
  have K := h.K
  have a := h.A
  refine ⟨h.T, ⟨a.hA, a.hC, a.le, a.most, a.pos, a.ne⟩, h.sep _ ?_, h.sep _ ?_, h.lo _ ?_, h.lo _ ?_⟩ <;> simp [K.k11, K.k12]
def SPost (w0 : World) (γ : Gm) (τ : Tt) (rd : List Int) (R : Option Int × Ss) (k : Nat) (w : World) (e : Ending) (w' : World) : Prop :=
  ∃ v τ', e = .returned v ∧ ErrV γ τ' R.1 v w w' ∧ SGo w0 w γ τ τ' R.2 rd w' ∧ fee τ' ≤ fee τ + k
end Go.Proofs.YtafmnkngjjnpiaaGreatDoor
