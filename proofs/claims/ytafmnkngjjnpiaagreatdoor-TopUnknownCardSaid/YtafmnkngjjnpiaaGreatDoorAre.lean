import Derived.Test.YtafmnkngjjnpiaaGreatDoorProg
import Derived.Test.YtafmnkngjjnpiaaGreatDoorChg
import Derived.Test.YtafmnkngjjnpiaaGreatDoorAreP
namespace Go.Proofs.YtafmnkngjjnpiaaGreatDoor.Ar
set_option linter.unusedVariables false
set_option maxRecDepth 100000
open Go.RowKit
structure ArenaIs (w : World) (bA bC N : Nat) (l : List Int) : Prop where
  hA : w.heap[bA]? = some (.cells #[.slice (some ⟨bC, 0, none⟩) N N, .int .i64 (l.length : Nat)] 103 (0, 0))
  hC : w.heap[bC]? = some (.cells (cellsOf N l).toArray 5 (0, 0))
  le : l.length ≤ N
  most : N ≤ 4096
  pos : 1 ≤ N
  ne : bA ≠ bC
theorem ArenaIs.chg {w w' : World} {bA bC N : Nat} {l : List Int} {S : List Nat} (h : ArenaIs w bA bC N l) (c : Chg S w w') (hA : bA ∉ S) (hC : bC ∉ S) : ArenaIs w' bA bC N l :=
  ⟨c.heap h.hA hA, c.heap h.hC hC, h.le, h.most, h.pos, h.ne⟩
theorem ArenaIs.drewN {w : World} {bA bC N : Nat} {l : List Int} (h : ArenaIs w bA bC N l) (n : Nat) : ArenaIs (w.drewN n) bA bC N l := ⟨h.hA, h.hC, h.le, h.most, h.pos, h.ne⟩
theorem ArenaIs.drew {w : World} {bA bC N : Nat} {l : List Int} (h : ArenaIs w bA bC N l) : ArenaIs w.drew bA bC N l := ⟨h.hA, h.hC, h.le, h.most, h.pos, h.ne⟩
theorem ArenaIs.cell0 {w : World} {bA bC N : Nat} {l : List Int} (h : ArenaIs w bA bC N l) : w.cell? ⟨bA, 0, none⟩ = some (.slice (some ⟨bC, 0, none⟩) N N) := by rw [cell_of_heap h.hA]; rfl
theorem ArenaIs.cell1 {w : World} {bA bC N : Nat} {l : List Int} (h : ArenaIs w bA bC N l) : w.cell? ⟨bA, 1, none⟩ = some (.int .i64 (l.length : Nat)) := by rw [cell_of_heap h.hA]; rfl
def SrcIs (w : World) (ao : Option Addr) (m : Nat) (ys : List Int) (S : List Nat) : Prop :=
  ys.length = m ∧ (0 < m → ∃ ad, ao = some ad ∧ ad.block ∉ S ∧ ∀ j v, (ys.map (Value.int .u8))[j]? = some v → w.cell? (ad.add j) = some v)
def insE (N n : Nat) (at_ : Int) (m : Nat) : Int := if at_ < 0 ∨ (n : Int) < at_ then 3 else if N - n < m then 4 else 0
def insL (N : Nat) (l : List Int) (at_ : Int) (ys : List Int) : List Int := if insE N l.length at_ ys.length = 0 then l.take at_.toNat ++ ys ++ l.drop at_.toNat else l
theorem SrcIs.chg {w w' : World} {ao : Option Addr} {m : Nat} {ys : List Int} {S T : List Nat} (h : SrcIs w ao m ys S) (c : Chg T w w') (hT : ∀ x ∈ T, x ∈ S) : SrcIs w' ao m ys S :=
  ⟨h.1, fun hm => by
    obtain ⟨ad, e, hb, hc⟩ := h.2 hm
    exact ⟨ad, e, hb, fun j v hv => c.cell (hc j v hv) (fun hx => hb (hT _ (by unfold Addr.add at hx; split at hx <;> exact hx)))⟩⟩
theorem IsRow.src {w : World} {a : Option Addr} {len cap : Nat} {zs : List Int} (h : IsRow .u8 w a len cap zs) (m : Nat) (hm : m ≤ cap) (S : List Nat) (hS : ∀ x ∈ S, w.heap.size ≤ x) : SrcIs w a m (zs.take m) S := by
  have hl := h.le.2.2
  refine ⟨by simp; omega, fun h0 => ?_⟩
  rcases h with ⟨rfl, rfl, rfl, rfl⟩ | ⟨x, rfl, h1, h2, h3, h4, _⟩
  · omega
  · refine ⟨x, rfl, fun hx => ?_, fun j v hv => ?_⟩
    · have hlt : x.block < w.heap.size := by
        have := h4 0 (by omega)
        unfold World.cell? at this
        have hb : (x.add 0).block = x.block := by unfold Addr.add; split <;> rfl
        rw [hb] at this
        cases hh : w.heap[x.block]? with
        | none => rw [hh] at this; cases this
        | some o => exact heap_lt hh
      have := hS _ hx
      omega
    · simp only [List.getElem?_map, List.getElem?_take, Option.map_eq_some_iff] at hv
      obtain ⟨n, hn, rfl⟩ := hv
      split at hn
      · rw [h4 j (by omega), List.getD_eq_getElem?_getD, hn]; rfl
      · cases hn
theorem SrcIs.drewN {w : World} {ao : Option Addr} {m : Nat} {ys : List Int} {S : List Nat} (h : SrcIs w ao m ys S) (n : Nat) : SrcIs (w.drewN n) ao m ys S := h
theorem oneCell_u8 (xs : List Int) : ∀ v ∈ xs.map (Value.int .u8), v.oneCell' = true := by
  intro v hv
  obtain ⟨n, _, rfl⟩ := List.mem_map.1 hv
  rfl
theorem zero5 : ∀ w : World, (zeroValue 5).run Tryz.prog w = .ok (.int .u8 0) w := fun w => by kernel_rfl
theorem info5 : (Tryz.prog.info? 5).map (fun i => i.size) = some 1 := by kernel_rfl
set_option maxHeartbeats 1000000 in
theorem insert_ok (bA bC N : Nat) (l : List Int) (p : Nat) (ao : Option Addr) (m c : Nat) (ys : List Int) (w : World) (h : ArenaIs w bA bC N l) (hs : SrcIs w ao m ys [bA, bC])
    (hp : p ≤ l.length) (hm : m ≤ N - l.length) :
    Calls Tryz.prog 40 #[.pointer (some ⟨bA, 0, none⟩), .int .i64 p, .slice ao m c] w fun e w' => e = .returned (.int .i64 0) ∧ Chg [bA, bC] w w' ∧ ArenaIs w' bA bC N (l.take p ++ ys ++ l.drop p) := by
  have h0 := h.cell0
  have h1 := h.cell1
  have f1 := free_of_heap h.hA 1
  have hle := h.le
  have hmost := h.most
  go_enter Tryz.func40, Tryz.ntmps40
  go_wp2_with fail
  go_quiet (fail)
  go_wp2_with fail
  have e1 : IntKind.i64.wrap ((p : Int) + (m : Int)) = (p : Int) + (m : Int) := IntWalk.i64_in _ (by omega)
  have e2 : (0 : Int) ≤ (p : Int) + (m : Int) := by omega
  have e3 : ((p : Int) + (m : Int)).toNat = p + m := by omega
  have e4 : (p : Int) + (m : Int) ≤ (N : Int) := by omega
  have e5 : (p : Int) ≤ (l.length : Int) := by omega
  have e6 : (l.length : Int) ≤ (N : Int) := by omega
  refine wp_region_tail 19 (by kernel_rfl) (by kernel_rfl) ?_
  simp only [List.take_succ_cons, List.take_zero, List.drop_succ_cons, List.drop_zero]
  repeat still_step
  refine wpStill_nil ?_
  refine wpList_copy_chg rfl (.tmp 43) (.tmp 53) 22 22 rfl 5 Tryz.underlying22 info5 _ _ _ _ _ _ rfl rfl bC (p + m) (cellsOf N l) 5 (show ((w.drewN nq).drew).heap[bC]? = _ from h.hC) ((l.drop p).map (Value.int .u8)) ?hn ?hpos ?hfit ?h1 ?k
  case hn => simp only [List.length_map, List.length_drop]; exact (Nat.min_eq_left (by omega)).symm
  case hpos =>
    intro hlen
    simp at hlen
    rw [if_neg (by omega), if_neg (by omega)]
    refine ⟨rfl, _, rfl, fun j v hv => ?_⟩
    show w.cell? _ = _
    rw [Addr.add_lit, cell_of_heap h.hC]
    exact cells_at N l p j v hv
  case hfit => simp [cellsOf_length N l hle]; omega
  case h1 => exact oneCell_u8 _
  intro w1 H1 C1'
  have C1 : Chg [bC] w w1 := C1'.of_drew.of_drewN
  have hne := h.ne
  have k0 := C1.cell h0 (by simpa using hne)
  have k1 := C1.cell h1 (by simpa using hne)
  have hs1 := hs.chg C1 (by simp)
  have hA1 := C1.heap h.hA (by simpa using hne)
  have g1 := free_of_heap hA1 1
  have HA1 := Lib.hid hA1
  clear h0 h1 f1 C1' hA1
  generalize (if N = p + m then some ({ block := bC, off := 0 } : Addr) else some { block := bC, off := p + m }) = d1
  generalize (if l.length = p then some ({ block := bC, off := 0 } : Addr) else some { block := bC, off := p }) = d2
  have e7 : IntKind.i64.wrap ((l.length : Int) + (m : Int)) = (l.length : Int) + (m : Int) := IntWalk.i64_in _ (by omega)
  have hn2 := Lib.hid (show (ys.map (Value.int .u8)).length = Nat.min m (N - p) by simp only [List.length_map]; rw [hs.1]; exact (Nat.min_eq_left (by omega)).symm)
  have hpos2 := Lib.hid (show 0 < (ys.map (Value.int .u8)).length → (if N = p then some ({ block := bC, off := 0 } : Addr) else some { block := bC, off := p }) = some { block := bC, off := p } ∧ ∃ ad, ao = some ad ∧ ∀ j v, (ys.map (Value.int .u8))[j]? = some v → w1.cell? (ad.add j) = some v by
    intro hlen
    rw [List.length_map, hs.1] at hlen
    obtain ⟨ad, e, _, hc⟩ := hs1.2 hlen
    exact ⟨if_neg (by omega), ad, e, hc⟩)
  have hfit2 := Lib.hid (show p + (ys.map (Value.int .u8)).length ≤ (splice (cellsOf N l) (p + m) ((l.drop p).map (Value.int .u8))).length by
    rw [List.length_map, length_splice _ _ _ (by simp [cellsOf_length N l hle]; omega), cellsOf_length N l hle, hs.1]; omega)
  go_wp2_with ((with_reducible show wpList _ _ _ (⟨some 62, _, _, _, _, _⟩ :: _) _ _); refine wpList_copy_chg rfl (.tmp 60) (.tmp 61) 22 22 rfl 5 Tryz.underlying22 info5 _ _ _ _ _ _ rfl rfl bC p _ 5 H1.out (ys.map (Value.int .u8)) hn2.out hpos2.out hfit2.out (oneCell_u8 _) (fun w2 H2 C2 => ?_); have k0' := C2.cell k0 (by simpa using hne); have k1' := C2.cell k1 (by simpa using hne); have HA2 := Lib.hid (C2.heap HA1.out (by simpa using hne)); have g1' := free_of_heap HA2.out 1; clear k0 k1 g1 hpos2 hfit2 hn2; generalize (if N = p then some ({ block := bC, off := 0 } : Addr) else some { block := bC, off := p }) = d3)
  go_ret
  have hl3 : (l.take p ++ ys ++ l.drop p).length = l.length + m := by simp; rw [← hs.1]; omega
  refine ⟨rfl, ?_, ?_⟩
  · exact ((C1.trans C2 (U := [bA, bC]) (by simp) (by simp)).setCell (by simp) _)
  · refine ⟨?_, ?_, by rw [hl3]; omega, hmost, h.pos, hne⟩
    · rw [setCell_heap _ HA2.out, hl3]; rfl
    · rw [setCell_heap_ne _ (Ne.symm hne), H2.out, ← hs.1, insert_cells N l ys p hp (by rw [hs.1]; exact hm) hle]
end Go.Proofs.YtafmnkngjjnpiaaGreatDoor.Ar
