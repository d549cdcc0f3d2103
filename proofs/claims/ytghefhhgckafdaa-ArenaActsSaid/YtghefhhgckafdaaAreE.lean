/-
  Package arena: the contracts of Delete, turn, Move.
-/
import Derived.Test.YtghefhhgckafdaaAreD
import Derived.Test.YtghefhhgckafdaaAreQ
namespace Go.Proofs.Ytghefhhgckafdaa
open Go.RowKit

set_option maxHeartbeats 2000000 in
theorem delete_ok (bA bC N : Nat) (l : List Int) (i j : Nat) (w : World) (h : ArenaIs w bA bC N l) (hij : i ≤ j) (hj : j ≤ l.length) :
    Calls Try.prog 14 #[.pointer (some ⟨bA, 0, none⟩), .int .i64 i, .int .i64 j] w fun e w' => e = .returned (.int .i64 0) ∧ Chg [bA, bC] w w' ∧ ArenaIs w' bA bC N (l.take i ++ l.drop j) := by
  have h0 := h.cell0
  have h1 := h.cell1
  have hle := h.le
  have hmost := h.most
  have hne := h.ne
  have hp : partB l.length (i : Int) (j : Int) = true := decide_eq_true ⟨by omega, by omega, by omega⟩
  have e1 : (i : Int) ≤ (l.length : Int) := by omega
  have e2 : (j : Int) ≤ (l.length : Int) := by omega
  have e3 : (l.length : Int) ≤ (N : Int) := by omega
  go_enter Try.func14, Try.ntmps14
  go_wp2_with (go_at_call 31; refine (part_any _ _ _ _ _ _ _ h).mono ?_; rintro e w' ⟨rfl, rfl⟩)
  refine wp_region_tail 20 (by kernel_rfl) (by kernel_rfl) ?_
  simp only [List.take_succ_cons, List.take_zero, List.drop_succ_cons, List.drop_zero]
  repeat still_step
  refine wpStill_nil ?_
  refine wpList_copy_chg rfl (.tmp 25) (.tmp 35) 22 22 rfl 5 Try.underlying22 info5 _ _ _ _ _ _ rfl rfl bC i (cellsOf N l) 5 (show w.drew.heap[bC]? = _ from h.hC) ((l.drop j).map (Value.int .u8)) ?hn ?hpos ?hfit ?h1 ?k
  case hn => simp only [List.length_map, List.length_drop]; exact (Nat.min_eq_left (by omega)).symm
  case hpos =>
    intro hlen
    simp at hlen
    rw [if_neg (by omega), if_neg (by omega)]
    refine ⟨rfl, _, rfl, fun x v hv => ?_⟩
    show w.cell? _ = _
    rw [Addr.add_lit, cell_of_heap h.hC]
    exact cells_at N l j x v hv
  case hfit => simp [cellsOf_length N l hle]; omega
  case h1 => exact oneCell_u8 _
  intro w1 H1 C1'
  have C1 : Chg [bC] w w1 := C1'.of_drew
  have k0 := C1.cell h0 (by simpa using hne)
  have k1 := C1.cell h1 (by simpa using hne)
  have HA1 := Lib.hid (C1.heap h.hA (by simpa using hne))
  clear h0 h1 C1'
  generalize (if N = i then some ({ block := bC, off := 0 } : Addr) else some { block := bC, off := i }) = d1
  generalize (if N = j then some ({ block := bC, off := 0 } : Addr) else some { block := bC, off := j }) = d2
  go_wp2_with fail
  have e4 : IntKind.i64.wrap ((j : Int) - (i : Int)) = ((j - i : Nat) : Int) := by rw [IntWalk.i64_in _ (by omega)]; omega
  have e5 : IntKind.i64.wrap ((l.length : Int) - ((j - i : Nat) : Int)) = ((l.length - (j - i) : Nat) : Int) := by rw [IntWalk.i64_in _ (by omega)]; omega
  have e6 : ((l.length - (j - i) : Nat) : Int) ≤ (l.length : Int) := by omega
  have e7 : (0 : Int) ≤ ((l.length - (j - i) : Nat) : Int) := by omega
  have e8 : l.length - (l.length - (j - i)) = j - i := by omega
  refine wp_region_tail 17 (by kernel_rfl) (by kernel_rfl) ?_
  simp only [List.take_succ_cons, List.take_zero, List.drop_succ_cons, List.drop_zero]
  repeat still_step
  refine wpStill_nil ?_
  have hfit2 := Lib.hid (show (l.length - (j - i)) + (j - i) ≤ (splice (cellsOf N l) i ((l.drop j).map (Value.int .u8))).length by
    rw [length_splice _ _ _ (by simp [cellsOf_length N l hle]; omega), cellsOf_length N l hle]; omega)
  refine wpList_clear_chg rfl (.tmp 53) 22 rfl 5 Try.underlying22 _ zero5 rfl rfl _ (j - i) _ rfl bC (l.length - (j - i)) _ 5 H1.out ?_ hfit2.out (fun w2 H2 C2' => ?_)
  · intro hpos
    rw [if_neg (by omega)]
  have C2 : Chg [bC] w1 w2 := C2'.of_drew
  have k1' := C2.cell k1 (by simpa using hne)
  have HA2 := Lib.hid (C2.heap HA1.out (by simpa using hne))
  have g1' := free_of_heap HA2.out 1
  clear k0 k1 hfit2 C2'
  generalize (if N = l.length - (j - i) then some ({ block := bC, off := 0 } : Addr) else some { block := bC, off := l.length - (j - i) }) = d3
  go_wp2_with fail
  go_ret
  have hl3 : (l.take i ++ l.drop j).length = l.length - (j - i) := by simp; omega
  refine ⟨rfl, ?_, ?_⟩
  · exact ((C1.trans C2 (U := [bA, bC]) (by simp) (by simp)).setCell (by simp) _)
  · refine ⟨?_, ?_, by rw [hl3]; omega, hmost, h.pos, hne⟩
    · rw [setCell_heap _ HA2.out, hl3]; rfl
    · rw [setCell_heap_ne _ (Ne.symm hne), H2.out, delete_cells N l i j hij hj hle]

def delE (n : Nat) (a b : Int) : Int := if 0 ≤ a ∧ a ≤ b ∧ b ≤ (n : Int) then 0 else 3
def delL (l : List Int) (a b : Int) : List Int := if 0 ≤ a ∧ a ≤ b ∧ b ≤ (l.length : Int) then l.take a.toNat ++ l.drop b.toNat else l

set_option maxHeartbeats 2000000 in
theorem delete_any (bA bC N : Nat) (l : List Int) (a b : Int) (w : World) (h : ArenaIs w bA bC N l) :
    Calls Try.prog 14 #[.pointer (some ⟨bA, 0, none⟩), .int .i64 a, .int .i64 b] w fun e w' => e = .returned (.int .i64 (delE l.length a b)) ∧ Chg [bA, bC] w w' ∧ ArenaIs w' bA bC N (delL l a b) := by
  unfold delE delL
  by_cases c : 0 ≤ a ∧ a ≤ b ∧ b ≤ (l.length : Int)
  · rw [if_pos c, if_pos c]
    obtain ⟨i, rfl⟩ := Int.eq_ofNat_of_zero_le c.1
    obtain ⟨j, rfl⟩ := Int.eq_ofNat_of_zero_le (by omega : 0 ≤ b)
    exact delete_ok bA bC N l i j w h (by omega) (by omega)
  · rw [if_neg c, if_neg c]
    have hp : partB l.length a b = false := decide_eq_false c
    clear c
    go_enter Try.func14, Try.ntmps14
    go_wp2_with (go_at_call 31; refine (part_any _ _ _ _ _ _ _ h).mono ?_; rintro e w' ⟨rfl, rfl⟩)
    go_ret
    exact ⟨rfl, Chg.refl _ _, h⟩

theorem ArenaIs.set1 {w : World} {bA bC N : Nat} {l : List Int} (h : ArenaIs w bA bC N l) {i : Nat} (hi : i < l.length) (v : Int) : ArenaIs (w.setCell ⟨bC, i, none⟩ (.int .u8 v)) bA bC N (l.set i v) := by
  refine ⟨?_, ?_, by rw [List.length_set]; exact h.le, h.most, h.pos, h.ne⟩
  · rw [setCell_heap_ne _ h.ne, List.length_set]; exact h.hA
  · rw [setCell_heap _ h.hC, cells_set N l i v hi]

set_option maxHeartbeats 4000000 in
theorem turn_any (bA bC N : Nat) (l : List Int) (f t : Nat) (w : World) (h : ArenaIs w bA bC N l) (hft : f ≤ t) (ht : t ≤ l.length) :
    Calls Try.prog 32 #[.pointer (some ⟨bA, 0, none⟩), .int .i64 f, .int .i64 t] w fun e w' => e = .returned (.tuple #[]) ∧ Chg [bC] w w' ∧ ArenaIs w' bA bC N (revL l f t) := by
  have hle := h.le
  have hmost := h.most
  have hne := h.ne
  go_enter Try.func32, Try.ntmps32
  go_wp2_with fail
  go_loopw [1, 2] (fun v1 v2 wr => ∃ (i k : Nat) (jj : Int), v1 = .int .i64 i ∧ v2 = .int .i64 jj ∧ Hid (i = f + k ∧ jj = (t : Int) - 1 - k ∧ 2 * k ≤ t - f) ∧ Chg [bC] w wr ∧ ArenaIs wr bA bC N (swapsL l f t k)) (fun v1 v2 _ => (intOf v2 - intOf v1).toNat)
  case atStart => exact ⟨f, 0, _, rfl, rfl, Lib.hid ⟨by omega, by simp, by omega⟩, Chg.refl _ _, by rw [swapsL_zero]; exact h⟩
  case round =>
    obtain ⟨i, k, jj, rfl, rfl, HK, hc, ha⟩ := hrel
    have hlen := swapsL_length l f t k
    by_cases hlt : (i : Int) < jj
    · obtain ⟨j, rfl⟩ := Int.eq_ofNat_of_zero_le (by omega : 0 ≤ jj)
      have h0 := ha.cell0
      have hiN : i < N := by have := HK.out; omega
      have hjN : j < N := by have := HK.out; omega
      have hi1 : (i : Int) < (N : Int) := by omega
      have hj1 : (j : Int) < (N : Int) := by omega
      have ci : wr.cell? ⟨bC, i, none⟩ = some (.int .u8 (cellV (swapsL l f t k) i)) := by rw [cell_of_heap ha.hC]; exact cells_get N _ i hiN ha.le
      have cj : wr.cell? ⟨bC, j, none⟩ = some (.int .u8 (cellV (swapsL l f t k) j)) := by rw [cell_of_heap ha.hC]; exact cells_get N _ j hjN ha.le
      have fi := free_of_heap ha.hC i
      have fj := free_of_heap ha.hC j
      have HL := Lib.hid hlen
      clear hlen
      generalize hvi : cellV (swapsL l f t k) i = vi at ci
      generalize hvj : cellV (swapsL l f t k) j = vj at cj
      have HVI := Lib.hid hvi
      have HVJ := Lib.hid hvj
      clear hvi hvj
      go_wp2_with fail
      go_region
      go_wp2_with fail
      have hk := HK.out
      have hlen := HL.out
      have hik : i = f + k := hk.1
      have hjk : j = t - 1 - k := by omega
      refine ⟨⟨i + 1, k + 1, (j : Int) - 1, by go_num, rfl, Lib.hid ⟨by omega, by omega, by omega⟩, (((hc.setCell (Or.inl (by simp)) _).setCell (Or.inl (by simp)) _).drew), ?_⟩, by simp [intOf]; omega⟩
      rw [swapsL_step l f t k (by omega) ht, ← hik, ← hjk]
      have e1 : (swapsL l f t k).getD j 0 = vj := HVJ.out
      have e2 : (swapsL l f t k).getD i 0 = vi := HVI.out
      rw [e1, e2]
      exact ((ha.set1 (by omega) vj).set1 (by rw [List.length_set]; omega) vi).drew
    · go_wp2_with fail
      go_end0
      refine ⟨rfl, hc, ?_⟩
      have hk := HK.out
      rw [← swapsL_done l f t k hft ht hk.2.2 (by omega)]
      exact ha

def movE (n : Nat) (a b p : Int) : Int := if 0 ≤ a ∧ a ≤ b ∧ b ≤ (n : Int) ∧ 0 ≤ p ∧ p ≤ (n : Int) - (b - a) then 0 else 3
def movM (l : List Int) (a b p : Int) : List Int := if 0 ≤ a ∧ a ≤ b ∧ b ≤ (l.length : Int) ∧ 0 ≤ p ∧ p ≤ (l.length : Int) - (b - a) then movL l a.toNat b.toNat p.toNat else l

set_option maxHeartbeats 4000000 in
theorem move_ok (bA bC N : Nat) (l : List Int) (i j p : Nat) (w : World) (h : ArenaIs w bA bC N l) (hij : i ≤ j) (hj : j ≤ l.length) (hp : p ≤ l.length - (j - i)) :
    Calls Try.prog 16 #[.pointer (some ⟨bA, 0, none⟩), .int .i64 i, .int .i64 j, .int .i64 p] w fun e w' => e = .returned (.int .i64 0) ∧ Chg [bC] w w' ∧ ArenaIs w' bA bC N (movL l i j p) := by
  have hle := h.le
  have hmost := h.most
  have h1 := h.cell1
  have hpb : partB l.length (i : Int) (j : Int) = true := decide_eq_true ⟨by omega, by omega, by omega⟩
  have e4 : IntKind.i64.wrap ((j : Int) - (i : Int)) = ((j - i : Nat) : Int) := by rw [IntWalk.i64_in _ (by omega)]; omega
  have e5 : IntKind.i64.wrap ((l.length : Int) - ((j - i : Nat) : Int)) = ((l.length - (j - i) : Nat) : Int) := by rw [IntWalk.i64_in _ (by omega)]; omega
  have e6 : ¬ ((l.length - (j - i) : Nat) : Int) < (p : Int) := by omega
  have e7 : IntKind.i64.wrap ((p : Int) + ((j - i : Nat) : Int)) = ((p + (j - i) : Nat) : Int) := by rw [IntWalk.i64_in _ (by omega)]; omega
  by_cases hlt : p < i
  · have hlt' : (p : Int) < (i : Int) := by omega
    have hm := Lib.hid (move_down l i j p hij hj hlt)
    clear hlt
    go_enter Try.func16, Try.ntmps16
    go_wp2_with (go_at_call 31; refine (part_any _ _ _ _ _ _ _ h).mono ?_; rintro e w' ⟨rfl, rfl⟩)
    refine (turn_any bA bC N l p i _ h (by omega) (by omega)).mono ?_
    rintro e w1 ⟨rfl, C1, A1⟩
    go_wp2_with fail
    refine (turn_any bA bC N _ i j _ A1 (by omega) (by rw [revL_length _ _ _ (by omega) (by omega)]; omega)).mono ?_
    rintro e w2 ⟨rfl, C2, A2⟩
    go_wp2_with fail
    refine (turn_any bA bC N _ p j _ A2 (by omega) (by rw [revL_length _ _ _ (by omega) (by rw [revL_length _ _ _ (by omega) (by omega)]; omega), revL_length _ _ _ (by omega) (by omega)]; omega)).mono ?_
    rintro e w3 ⟨rfl, C3, A3⟩
    go_wp2_with fail
    go_ret
    rw [hm.out] at A3
    exact ⟨rfl, (C1.trans C2 (U := [bC]) (by simp) (by simp)).trans C3 (by simp) (by simp), A3⟩
  · have hlt' : ¬ (p : Int) < (i : Int) := by omega
    have hm := Lib.hid (move_up l i j p hij hj hp (by omega))
    go_enter Try.func16, Try.ntmps16
    go_wp2_with (go_at_call 31; refine (part_any _ _ _ _ _ _ _ h).mono ?_; rintro e w' ⟨rfl, rfl⟩)
    refine (turn_any bA bC N l i j _ h (by omega) (by omega)).mono ?_
    rintro e w1 ⟨rfl, C1, A1⟩
    go_wp2_with fail
    refine (turn_any bA bC N _ j (p + (j - i)) _ A1 (by omega) (by rw [revL_length _ _ _ (by omega) (by omega)]; omega)).mono ?_
    rintro e w2 ⟨rfl, C2, A2⟩
    go_wp2_with fail
    refine (turn_any bA bC N _ i (p + (j - i)) _ A2 (by omega) (by rw [revL_length _ _ _ (by omega) (by rw [revL_length _ _ _ (by omega) (by omega)]; omega), revL_length _ _ _ (by omega) (by omega)]; omega)).mono ?_
    rintro e w3 ⟨rfl, C3, A3⟩
    go_wp2_with fail
    go_ret
    rw [hm.out] at A3
    exact ⟨rfl, (C1.trans C2 (U := [bC]) (by simp) (by simp)).trans C3 (by simp) (by simp), A3⟩

set_option maxHeartbeats 4000000 in
theorem move_bad (bA bC N : Nat) (l : List Int) (a b p : Int) (w : World) (h : ArenaIs w bA bC N l) (hc : ¬ (0 ≤ a ∧ a ≤ b ∧ b ≤ (l.length : Int) ∧ 0 ≤ p ∧ p ≤ (l.length : Int) - (b - a))) :
    Calls Try.prog 16 #[.pointer (some ⟨bA, 0, none⟩), .int .i64 a, .int .i64 b, .int .i64 p] w fun e w' => e = .returned (.int .i64 3) ∧ w = w' := by
  have hle := h.le
  have hmost := h.most
  have h1 := h.cell1
  by_cases c : 0 ≤ a ∧ a ≤ b ∧ b ≤ (l.length : Int)
  · have hpb : partB l.length a b = true := decide_eq_true c
    obtain ⟨c1, c2, c3⟩ := c
    have e4 : IntKind.i64.wrap (b - a) = b - a := IntWalk.i64_in _ (by omega)
    have e5 : IntKind.i64.wrap ((l.length : Int) - (b - a)) = (l.length : Int) - (b - a) := IntWalk.i64_in _ (by omega)
    by_cases c4 : p < 0
    · clear hc
      go_enter Try.func16, Try.ntmps16
      go_wp2_with (go_at_call 31; refine (part_any _ _ _ _ _ _ _ h).mono ?_; rintro e w' ⟨rfl, rfl⟩)
      go_ret
      exact ⟨rfl, rfl⟩
    · have c5 : (l.length : Int) - (b - a) < p := by omega
      clear hc
      go_enter Try.func16, Try.ntmps16
      go_wp2_with (go_at_call 31; refine (part_any _ _ _ _ _ _ _ h).mono ?_; rintro e w' ⟨rfl, rfl⟩)
      go_ret
      exact ⟨rfl, rfl⟩
  · have hpb : partB l.length a b = false := decide_eq_false c
    clear hc c
    go_enter Try.func16, Try.ntmps16
    go_wp2_with (go_at_call 31; refine (part_any _ _ _ _ _ _ _ h).mono ?_; rintro e w' ⟨rfl, rfl⟩)
    go_ret
    exact ⟨rfl, rfl⟩

theorem move_any (bA bC N : Nat) (l : List Int) (a b p : Int) (w : World) (h : ArenaIs w bA bC N l) :
    Calls Try.prog 16 #[.pointer (some ⟨bA, 0, none⟩), .int .i64 a, .int .i64 b, .int .i64 p] w fun e w' => e = .returned (.int .i64 (movE l.length a b p)) ∧ Chg [bC] w w' ∧ ArenaIs w' bA bC N (movM l a b p) := by
  unfold movE movM
  by_cases c : 0 ≤ a ∧ a ≤ b ∧ b ≤ (l.length : Int) ∧ 0 ≤ p ∧ p ≤ (l.length : Int) - (b - a)
  · rw [if_pos c, if_pos c]
    obtain ⟨i, rfl⟩ := Int.eq_ofNat_of_zero_le c.1
    obtain ⟨j, rfl⟩ := Int.eq_ofNat_of_zero_le (by omega : 0 ≤ b)
    obtain ⟨q, rfl⟩ := Int.eq_ofNat_of_zero_le c.2.2.2.1
    exact move_ok bA bC N l i j q w h (by omega) (by omega) (by omega)
  · rw [if_neg c, if_neg c]
    exact (move_bad bA bC N l a b p w h c).mono fun e w' ⟨he, hw⟩ => ⟨he, hw ▸ Chg.refl _ _, hw ▸ h⟩
end Go.Proofs.Ytghefhhgckafdaa
