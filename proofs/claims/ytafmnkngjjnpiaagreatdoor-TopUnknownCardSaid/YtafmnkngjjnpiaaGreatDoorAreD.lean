import Derived.Test.YtafmnkngjjnpiaaGreatDoorAre
namespace Go.Proofs.YtafmnkngjjnpiaaGreatDoor.Ar
set_option maxRecDepth 100000
set_option linter.unusedVariables false
open Go.RowKit
set_option maxHeartbeats 1000000 in
theorem insert_low (bA bC N : Nat) (l : List Int) (a : Int) (ao : Option Addr) (m c : Nat) (w : World) (h : ArenaIs w bA bC N l) (ha : a < 0) :
    Calls Tryz.prog 40 #[.pointer (some ⟨bA, 0, none⟩), .int .i64 a, .slice ao m c] w fun e w' => e = .returned (.int .i64 3) ∧ w = w' := by
  go_enter Tryz.func40, Tryz.ntmps40
  go_wp2_with fail
  go_ret
  exact ⟨rfl, rfl⟩
set_option maxHeartbeats 1000000 in
theorem insert_high (bA bC N : Nat) (l : List Int) (a : Int) (ao : Option Addr) (m c : Nat) (w : World) (h : ArenaIs w bA bC N l) (ha : (l.length : Int) < a) :
    Calls Tryz.prog 40 #[.pointer (some ⟨bA, 0, none⟩), .int .i64 a, .slice ao m c] w fun e w' => e = .returned (.int .i64 3) ∧ w = w' := by
  have h1 := h.cell1
  have ha0 : ¬ a < 0 := by omega
  go_enter Tryz.func40, Tryz.ntmps40
  go_wp2_with fail
  go_ret
  exact ⟨rfl, rfl⟩
set_option maxHeartbeats 1000000 in
theorem insert_full (bA bC N : Nat) (l : List Int) (a : Int) (ao : Option Addr) (m c : Nat) (w : World) (h : ArenaIs w bA bC N l) (ha : 0 ≤ a) (hb : a ≤ (l.length : Int)) (hm : N - l.length < m) :
    Calls Tryz.prog 40 #[.pointer (some ⟨bA, 0, none⟩), .int .i64 a, .slice ao m c] w fun e w' => e = .returned (.int .i64 4) ∧ Chg [] w w' := by
  have h0 := h.cell0
  have h1 := h.cell1
  have hle := h.le
  have hmost := h.most
  have hm' : (N : Int) - (l.length : Int) < (m : Int) := by omega
  go_enter Tryz.func40, Tryz.ntmps40
  go_wp2_with fail
  go_quiet (fail)
  go_wp2_with fail
  go_ret
  exact ⟨rfl, (Chg.refl _ _).drewN _⟩
theorem insert_any (bA bC N : Nat) (l : List Int) (a : Int) (ao : Option Addr) (m c : Nat) (ys : List Int) (w : World) (h : ArenaIs w bA bC N l) (hs : SrcIs w ao m ys [bA, bC]) :
    Calls Tryz.prog 40 #[.pointer (some ⟨bA, 0, none⟩), .int .i64 a, .slice ao m c] w fun e w' => e = .returned (.int .i64 (insE N l.length a m)) ∧ Chg [bA, bC] w w' ∧ ArenaIs w' bA bC N (insL N l a ys) := by
  have hle := h.le
  unfold insL insE
  rw [hs.1]
  by_cases h1 : a < 0
  · rw [if_pos (Or.inl h1)]
    exact (insert_low bA bC N l a ao m c w h h1).mono fun e w' ⟨he, hw⟩ => ⟨he, hw ▸ Chg.refl _ _, by rw [if_neg (by decide)]; exact hw ▸ h⟩
  · by_cases h2 : (l.length : Int) < a
    · rw [if_pos (Or.inr h2)]
      exact (insert_high bA bC N l a ao m c w h h2).mono fun e w' ⟨he, hw⟩ => ⟨he, hw ▸ Chg.refl _ _, by rw [if_neg (by decide)]; exact hw ▸ h⟩
    · rw [if_neg (by omega)]
      by_cases h3 : N - l.length < m
      · rw [if_pos h3]
        exact (insert_full bA bC N l a ao m c w h (by omega) (by omega) h3).mono fun e w' ⟨he, hw⟩ => ⟨he, hw.mono (by simp), by rw [if_neg (by decide)]; exact h.chg hw (by simp) (by simp)⟩
      · rw [if_neg h3, if_pos rfl]
        obtain ⟨p, rfl⟩ := Int.eq_ofNat_of_zero_le (by omega : 0 ≤ a)
        exact insert_ok bA bC N l p ao m c ys w h hs (by omega) (by omega)
def partB (n : Nat) (a b : Int) : Bool := decide (0 ≤ a ∧ a ≤ b ∧ b ≤ (n : Int))
set_option maxHeartbeats 1000000 in
theorem part_any (bA bC N : Nat) (l : List Int) (a b : Int) (w : World) (h : ArenaIs w bA bC N l) :
    Calls Tryz.prog 95 #[.pointer (some ⟨bA, 0, none⟩), .int .i64 a, .int .i64 b] w fun e w' => e = .returned (.bool (partB l.length a b)) ∧ w = w' := by
  have h1 := h.cell1
  unfold partB
  by_cases c1 : 0 ≤ a
  · by_cases c2 : a ≤ b
    · by_cases c3 : b ≤ (l.length : Int)
      · rw [decide_eq_true ⟨c1, c2, c3⟩]
        go_enter Tryz.func95, Tryz.ntmps95
        go_wp2_with fail
        go_ret
        exact ⟨rfl, rfl⟩
      · rw [decide_eq_false (fun h => c3 h.2.2)]
        go_enter Tryz.func95, Tryz.ntmps95
        go_wp2_with fail
        go_ret
        exact ⟨rfl, rfl⟩
    · rw [decide_eq_false (fun h => c2 h.2.1)]
      go_enter Tryz.func95, Tryz.ntmps95
      go_wp2_with fail
      go_ret
      exact ⟨rfl, rfl⟩
  · rw [decide_eq_false (fun h => c1 h.1)]
    go_enter Tryz.func95, Tryz.ntmps95
    go_wp2_with fail
    go_ret
    exact ⟨rfl, rfl⟩
set_option maxHeartbeats 1000000 in
theorem len_any (bA bC N : Nat) (l : List Int) (w : World) (h : ArenaIs w bA bC N l) :
    Calls Tryz.prog 41 #[.pointer (some ⟨bA, 0, none⟩)] w fun e w' => e = .returned (.int .i64 (l.length : Nat)) ∧ w = w' := by
  have h1 := h.cell1
  go_enter Tryz.func41, Tryz.ntmps41
  go_wp2_with fail
  go_ret
  exact ⟨rfl, rfl⟩
set_option maxHeartbeats 1000000 in
theorem cap_any (bA bC N : Nat) (l : List Int) (w : World) (h : ArenaIs w bA bC N l) :
    Calls Tryz.prog 25 #[.pointer (some ⟨bA, 0, none⟩)] w fun e w' => e = .returned (.int .i64 (N : Nat)) ∧ w = w' := by
  have h0 := h.cell0
  go_enter Tryz.func25, Tryz.ntmps25
  go_wp2_with fail
  go_ret
  exact ⟨rfl, rfl⟩
end Go.Proofs.YtafmnkngjjnpiaaGreatDoor.Ar

namespace Go.Proofs.YtafmnkngjjnpiaaGreatDoor.Ar
set_option maxRecDepth 100000
set_option linter.unusedVariables false
open Go.RowKit
def cellV (l : List Int) (i : Int) : Int := l.getD i.toNat 0
def cellE (N : Nat) (i : Int) : Int := if i < 0 ∨ (N : Int) ≤ i then 3 else 0
def cellR (N : Nat) (l : List Int) (i : Int) : Int := if i < 0 ∨ (N : Int) ≤ i then 0 else cellV l i
theorem cells_get (N : Nat) (l : List Int) (i : Nat) (h : i < N) (hle : l.length ≤ N) : (cellsOf N l).toArray[i]? = some (.int .u8 (cellV l i)) := by
  unfold cellsOf cellV
  by_cases hi : i < l.length
  · simp [List.getElem?_append, hi, List.getD]
  · have h1 : l[i]? = none := List.getElem?_eq_none (by omega)
    have h2 : i - l.length < N - l.length := by omega
    simp [List.getElem?_append, hi, List.getD, h2]
set_option maxHeartbeats 1000000 in
theorem cell_any (bA bC N : Nat) (l : List Int) (i : Int) (w : World) (h : ArenaIs w bA bC N l) :
    Calls Tryz.prog 26 #[.pointer (some ⟨bA, 0, none⟩), .int .i64 i] w fun e w' => e = .returned (.tuple #[.int .u8 (cellR N l i), .int .i64 (cellE N i)]) ∧ w = w' := by
  have h0 := h.cell0
  have hmost := h.most
  unfold cellR cellE
  by_cases c1 : i < 0
  · rw [if_pos (Or.inl c1), if_pos (Or.inl c1)]
    go_enter Tryz.func26, Tryz.ntmps26
    go_wp2_with fail
    go_ret2
    exact ⟨rfl, rfl⟩
  · by_cases c2 : (N : Int) ≤ i
    · rw [if_pos (Or.inr c2), if_pos (Or.inr c2)]
      go_enter Tryz.func26, Tryz.ntmps26
      go_wp2_with fail
      go_ret2
      exact ⟨rfl, rfl⟩
    · rw [if_neg (by omega), if_neg (by omega)]
      obtain ⟨k, rfl⟩ := Int.eq_ofNat_of_zero_le (by omega : 0 ≤ i)
      have hk : k < N := by omega
      have hc : w.cell? ⟨bC, k, none⟩ = some (.int .u8 (cellV l k)) := by rw [cell_of_heap h.hC]; exact cells_get N l k hk h.le
      have hk' : (k : Int) < (N : Int) := by omega
      go_enter Tryz.func26, Tryz.ntmps26
      go_wp2_with fail
      go_ret2
      exact ⟨rfl, rfl⟩
def atE (n : Nat) (i : Int) : Int := if i < 0 ∨ (n : Int) ≤ i then 3 else 0
def atR (l : List Int) (i : Int) : Int := if i < 0 ∨ (l.length : Int) ≤ i then 0 else cellV l i
set_option maxHeartbeats 1000000 in
theorem at_any (bA bC N : Nat) (l : List Int) (i : Int) (w : World) (h : ArenaIs w bA bC N l) :
    Calls Tryz.prog 146 #[.pointer (some ⟨bA, 0, none⟩), .int .i64 i] w fun e w' => e = .returned (.tuple #[.int .u8 (atR l i), .int .i64 (atE l.length i)]) ∧ w = w' := by
  have hle := h.le
  unfold atR atE
  by_cases c2 : (l.length : Int) ≤ i
  · rw [if_pos (Or.inr c2), if_pos (Or.inr c2)]
    go_enter Tryz.func146, Tryz.ntmps146
    go_wp2_with (go_at_call 41; refine (len_any _ _ _ _ _ h).mono ?_; rintro e w' ⟨rfl, rfl⟩)
    go_ret2
    exact ⟨rfl, rfl⟩
  · have he : cellE N i = (if i < 0 ∨ (l.length : Int) ≤ i then 3 else 0) := by
      unfold cellE; by_cases c1 : i < 0
      · rw [if_pos (Or.inl c1), if_pos (Or.inl c1)]
      · rw [if_neg (by omega), if_neg (by omega)]
    have hr : cellR N l i = (if i < 0 ∨ (l.length : Int) ≤ i then 0 else cellV l i) := by
      unfold cellR; by_cases c1 : i < 0
      · rw [if_pos (Or.inl c1), if_pos (Or.inl c1)]
      · rw [if_neg (by omega), if_neg (by omega)]
    rw [← he, ← hr]
    clear he hr
    go_enter Tryz.func146, Tryz.ntmps146
    go_wp2_with (first | (go_at_call 41; refine (len_any _ _ _ _ _ h).mono ?_; rintro e w' ⟨rfl, rfl⟩) | (go_at_call 26; refine (cell_any _ _ _ _ _ _ h).mono ?_; rintro e w' ⟨rfl, rfl⟩))
    go_ret2
    exact ⟨rfl, rfl⟩
def zeroB (xs : List Int) : Bool := xs.all (· == 0)
theorem zeroB_true {xs : List Int} (h : ∀ j, j < xs.length → xs.getD j 0 = 0) : zeroB xs = true := by
  unfold zeroB
  rw [List.all_eq_true]
  intro x hx
  obtain ⟨j, hj, rfl⟩ := List.getElem_of_mem hx
  have := h j hj
  simp [List.getD, hj] at this
  simp [this]
theorem zeroB_false {xs : List Int} {j : Nat} (hj : j < xs.length) (h : xs.getD j 0 ≠ 0) : zeroB xs = false := by
  unfold zeroB
  rw [Bool.eq_false_iff]
  intro hc
  rw [List.all_eq_true] at hc
  have := hc _ (List.getElem_mem hj)
  simp [List.getD, hj] at h
  simp at this
  exact h this
theorem src_cell {w : World} {ao : Option Addr} {m : Nat} {ys : List Int} {S : List Nat} (h : SrcIs w ao m ys S) {k : Nat} (hk : k < m) :
    ∃ b off, ao = some ⟨b, off, none⟩ ∧ b ∉ S ∧ ∀ k, k < m → w.cell? ⟨b, off + k, none⟩ = some (.int .u8 (ys.getD k 0)) := by
  obtain ⟨ad, e, hS, hc⟩ := h.2 (by omega)
  obtain ⟨b, off, spot⟩ := ad
  have hlen := h.1
  have hv : ∀ k, k < m → (ys.map (Value.int .u8))[k]? = some (.int .u8 (ys.getD k 0)) := by
    intro k hk
    simp [List.getD, show k < ys.length by omega]
  have hsp := World.cell?_spot (hc 0 _ (hv 0 (by omega)))
  have : spot = none := by simpa [Addr.add] using hsp
  subst this
  exact ⟨b, off, e, hS, fun k hk => by have := hc k _ (hv k hk); rwa [Addr.add_lit] at this⟩
set_option maxHeartbeats 1000000 in
theorem zero_any (ao : Option Addr) (m c : Nat) (xs : List Int) (w : World) (h : SrcIs w ao m xs []) (hm : m ≤ 140737488355328) :
    Calls Tryz.prog 144 #[.slice ao m c] w fun e w' => e = .returned (.bool (zeroB xs)) ∧ w = w' := by
  have hlen := h.1
  go_enter Tryz.func144, Tryz.ntmps144
  go_wp2_with fail
  go_loop [7] (fun i => ∃ k : Nat, k ≤ m ∧ i = .int .i64 k ∧ ∀ j, j < k → xs.getD j 0 = 0) (fun i => m - (intOf i).toNat)
  case atStart => exact ⟨0, Nat.zero_le _, rfl, fun j hj => absurd hj (Nat.not_lt_zero _)⟩
  case round =>
    obtain ⟨k, hk, rfl, hz⟩ := hrel
    have Hz := Lib.hid hz
    clear hz hlen
    by_cases hlt : k < m
    · obtain ⟨b, off, rfl, _, hcell⟩ := src_cell h hlt
      have hc := hcell k hlt
      clear hcell
      by_cases hx : xs.getD k 0 = 0
      · rw [hx] at hc
        go_wp2_with fail
        go_round
        case rel =>
          refine ⟨k + 1, by omega, by go_num, fun j hj => ?_⟩
          by_cases hjk : j = k
          · rw [hjk]; exact hx
          · exact Hz.out j (by omega)
        case measure => simp [intOf]; omega
      · have hb : (xs.getD k 0 != 0) = true := by rw [bne_iff_ne]; exact hx
        have Hx := Lib.hid hx
        clear hx
        generalize hv : xs.getD k 0 = v at *
        have Hv := Lib.hid hv
        clear hv
        go_wp2_with fail
        go_ret
        refine ⟨ret_bool' ?_, rfl⟩
        exact (zeroB_false (j := k) (by rw [h.1]; exact hlt) (by rw [Hv.out]; exact Hx.out)).symm
    · go_wp2_with fail
      go_ret
      refine ⟨ret_bool' ?_, rfl⟩
      exact (zeroB_true (fun j hj => Hz.out j (by rw [h.1] at hj; omega))).symm
end Go.Proofs.YtafmnkngjjnpiaaGreatDoor.Ar

namespace Go.Proofs.YtafmnkngjjnpiaaGreatDoor.Ar
set_option maxRecDepth 100000
set_option linter.unusedVariables false
open Go.RowKit
theorem ArenaIs.src {w : World} {bA bC N : Nat} {l : List Int} (h : ArenaIs w bA bC N l) (i : Nat) (hi : i ≤ N) :
    SrcIs w (if N = i then some ⟨bC, 0, none⟩ else some ⟨bC, i, none⟩) (N - i) ((l ++ List.replicate (N - l.length) 0).drop i) [] := by
  have hle := h.le
  refine ⟨by simp; omega, fun hm => ?_⟩
  rw [if_neg (by omega)]
  refine ⟨_, rfl, by simp, fun j v hv => ?_⟩
  rw [Addr.add_lit, cell_of_heap h.hC]
  simp only [List.getElem?_map, List.getElem?_drop, Option.map_eq_some_iff] at hv
  obtain ⟨n, hn, rfl⟩ := hv
  unfold cellsOf
  simp only [List.getElem?_toArray, List.getElem?_map, hn, Option.map_some]
theorem zeroB_replicate (n : Nat) : zeroB (List.replicate n 0) = true := by unfold zeroB; simp
theorem zeroB_append (a b : List Int) : zeroB (a ++ b) = (zeroB a && zeroB b) := by unfold zeroB; simp
set_option maxHeartbeats 1000000 in
theorem zeroM_any (bA bC N : Nat) (l : List Int) (w : World) (h : ArenaIs w bA bC N l) :
    Calls Tryz.prog 116 #[.pointer (some ⟨bA, 0, none⟩)] w fun e w' => e = .returned (.bool (zeroB l)) ∧ w = w' := by
  have h0 := h.cell0
  have hle := h.le
  have hmost := h.most
  have hpos := h.pos
  have hsrc := h.src 0 (by omega)
  rw [if_neg (by omega), List.drop_zero, Nat.sub_zero] at hsrc
  have hz : zeroB (l ++ List.replicate (N - l.length) 0) = zeroB l := by rw [zeroB_append, zeroB_replicate, Bool.and_true]
  rw [← hz]
  clear hz
  have Hs := Lib.hid hsrc
  clear hsrc
  go_enter Tryz.func116, Tryz.ntmps116
  go_wp2_with fail
  refine (zero_any _ _ _ _ _ Hs.out (by omega)).mono ?_; rintro e w' ⟨rfl, rfl⟩
  go_wp2_with fail
  go_ret
  exact ⟨rfl, rfl⟩
set_option maxHeartbeats 1000000 in
theorem copy_any (bA bC N : Nat) (l : List Int) (g off n c : Nat) (cur : List Value) (t : TypeId) (w : World) (h : ArenaIs w bA bC N l) (hg : w.heap[g]? = some (.cells cur.toArray t (0, 0))) (hfit : off + n ≤ cur.length) :
    Calls Tryz.prog 45 #[.pointer (some ⟨bA, 0, none⟩), .slice (some ⟨g, off, none⟩) n c] w fun e w' => e = .returned (.int .i64 (min l.length n : Nat)) ∧ Chg [g] w w' ∧
      w'.heap[g]? = some (.cells (splice cur off ((l.take n).map (Value.int .u8))).toArray t (0, 0)) := by
  have h0 := h.cell0
  have h1 := h.cell1
  have hle := h.le
  have hmost := h.most
  have e1 : (l.length : Int) ≤ (N : Int) := by omega
  have hlen : ((l.take n).map (Value.int .u8)).length = Nat.min l.length n := by simp [Nat.min_comm]
  have Hlen := Lib.hid hlen
  clear hlen
  go_enter Tryz.func45, Tryz.ntmps45
  go_wp2_with fail
  refine wp_region_tail 10 (by kernel_rfl) (by kernel_rfl) ?_
  simp only [List.take_succ_cons, List.take_zero, List.drop_succ_cons, List.drop_zero]
  repeat still_step
  refine wpStill_nil ?_
  refine wpList_copy_chg rfl (.tmp 7) (.tmp 16) 22 22 rfl 5 Tryz.underlying22 info5 _ _ _ _ _ _ rfl rfl g off cur t (show w.drew.heap[g]? = _ from hg) ((l.take n).map (Value.int .u8)) Hlen.out ?hpos ?hfit (oneCell_u8 _) ?k
  case hpos =>
    intro _
    refine ⟨rfl, _, rfl, fun j v hv => ?_⟩
    show w.cell? _ = _
    rw [Addr.add_lit, cell_of_heap h.hC]
    refine cells_at N l 0 j v ?_
    rw [List.drop_zero]
    simp only [List.getElem?_map, List.getElem?_take] at hv ⊢
    split at hv
    · exact hv
    · cases hv
  case hfit => rw [Hlen.out]; have : Nat.min l.length n ≤ n := Nat.min_le_right _ _; omega
  intro w1 H1 C1
  have hr : (goInt ((l.take n).map (Value.int .u8)).length) = .int .i64 (min l.length n : Nat) := by rw [Hlen.out]; rfl
  rw [hr]
  clear hr
  go_wp2_with fail
  go_ret
  exact ⟨rfl, C1.of_drew, H1.out⟩
set_option maxHeartbeats 1000000 in
theorem wipe_any (bA bC N : Nat) (l : List Int) (w : World) (h : ArenaIs w bA bC N l) :
    Calls Tryz.prog 39 #[.pointer (some ⟨bA, 0, none⟩)] w fun e w' => e = .returned (.tuple #[]) ∧ Chg [bA, bC] w w' ∧ ArenaIs w' bA bC N [] := by
  have h0 := h.cell0
  have h1 := h.cell1
  have hle := h.le
  have hmost := h.most
  have hne := h.ne
  have hfit := Lib.hid (show 0 + N ≤ (cellsOf N l).length by rw [cellsOf_length N l hle]; omega)
  go_enter Tryz.func39, Tryz.ntmps39
  go_wp2_with ((with_reducible show wpList _ _ _ (⟨none, .call _, _, _, _, _⟩ :: _) _ _); refine wpList_clear_chg rfl (.tmp 7) 22 rfl 5 Tryz.underlying22 _ zero5 rfl rfl _ _ _ rfl bC 0 (cellsOf N l) 5 h.hC (fun _ => rfl) hfit.out (fun w1 H1 C1 => ?_); have k1 := C1.cell h1 (by simpa using hne); have HA1 := Lib.hid (C1.heap h.hA (by simpa using hne)); have g1 := free_of_heap HA1.out 1; clear h0 h1)
  go_end0
  refine ⟨rfl, (C1.mono (by simp)).setCell (by simp) _, ?_, ?_, by simp, hmost, h.pos, hne⟩
  · rw [setCell_heap _ HA1.out]; rfl
  · rw [setCell_heap_ne _ (Ne.symm hne), H1.out, wipe_cells N l hle]
theorem made_cells (n : Nat) : Go.madeCells #[Value.int .u8 0] n = (cellsOf n []).toArray := by
  unfold cellsOf Go.madeCells
  apply Array.ext
  · simp
  · intro i h1 h2
    simp [Nat.mod_one]
theorem infoU8 : (Tryz.prog.info? 5).map (fun i => (i.zero, i.size, i.bytes)) = some (some (.int .u8 0), 1, 1) := by kernel_rfl
theorem make_bytes (n : Nat) (h : n ≤ 281474976710656) (w : World) : (Instr.makeSlice 22 (.int .i64 (n : Int)) (.int .i64 (n : Int))).run Tryz.prog w =
    .ok (.slice (some ⟨w.heap.size, 0, none⟩) n n) (w.alloc (.cells (cellsOf n []).toArray 5)) := by
  rw [← made_cells]
  exact Go.run_make_row' _ _ _ 1 Tryz.underlying22 infoU8 rfl _ _ n (by omega) (by omega) w
set_option maxHeartbeats 1000000 in
theorem new_ok (n : Nat) (w : World) (h1 : 1 ≤ n) (h2 : n ≤ 4096) :
    Calls Tryz.prog 7 #[.int .i64 n] w fun e w' => e = .returned (.tuple #[.pointer (some ⟨w.heap.size + 1, 0, none⟩), .int .i64 0]) ∧ Chg [] w w' ∧ ArenaIs w' (w.heap.size + 1) w.heap.size n [] := by
  have e1 : ¬ (n : Int) < 1 := by omega
  have e2 : ¬ (4096 : Int) < (n : Int) := by omega
  have hmk := make_bytes n (by omega)
  go_enter Tryz.func7, Tryz.ntmps7
  go_wp2_with fail
  go_ret2
  refine ⟨rfl, ((Chg.refl _ _).alloc _).alloc _, ?_, ?_, by simp, h2, h1, by omega⟩
  · exact alloc2_heap w _ _
  · exact alloc_keeps (alloc_heap w _)
end Go.Proofs.YtafmnkngjjnpiaaGreatDoor.Ar
