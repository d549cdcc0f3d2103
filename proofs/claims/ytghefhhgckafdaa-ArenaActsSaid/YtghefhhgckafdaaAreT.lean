/-
  The law's helpers over arenas: text, cells, zero, size.
-/
import Derived.Test.YtghefhhgckafdaaAreE
namespace Go.Proofs.Ytghefhhgckafdaa
open Go.RowKit

/-- 'string(b)' of bytes that lie somewhere. -/
theorem conv_src {w : World} {ao : Option Addr} {m c : Nat} {xs : List Int} {S : List Nat} (h : SrcIs w ao m xs S) :
    (convert 22 9 (.slice ao m c)).run Try.prog w = .ok (.string (strOfNums xs)) w := by
  by_cases hm : m = 0
  · subst hm
    have hx : xs = [] := List.eq_nil_of_length_eq_zero h.1
    subst hx
    cases ao with
    | none => exact run_convert_bytes_nil w _ 5 Try.underlying22 Try.underlying5 0 c _ Try.underlying9
    | some ad =>
      have hl : (loadCells ad 0).run Try.prog w = .ok (([] : List Int).map (Value.int .u8)).toArray w := rfl
      rw [run_convert_bytes_string w _ _ 5 _ 0 c Try.underlying22 Try.underlying5 Try.underlying9, run_bytesToString w ad 0 c [] hl]
      rfl
  · obtain ⟨b, off, rfl, _, hc⟩ := src_cell h (k := 0) (by omega)
    exact run_convert_bytes_arg w _ 5 Try.underlying22 Try.underlying5 b off m c xs h.1 hc _ Try.underlying9

theorem splice_whole (cur cs : List Value) (h : cur.length = cs.length) : splice cur 0 cs = cs := by
  unfold splice; simp [h]

/-- A row that is known whole, as a source. -/
theorem src_of_heap {w : World} {g : Nat} {xs : List Int} {t : TypeId} {fr : Nat × Nat} (h : w.heap[g]? = some (.cells (xs.map (Value.int .u8)).toArray t fr)) : SrcIs w (some ⟨g, 0, none⟩) xs.length xs [] :=
  ⟨rfl, fun _ => ⟨_, rfl, by simp, fun j v hv => by rw [Addr.add_lit, cell_of_heap h, Nat.zero_add]; simpa using hv⟩⟩

set_option maxHeartbeats 2000000 in
theorem text_any (bA bC N : Nat) (l : List Int) (w : World) (h : ArenaIs w bA bC N l) :
    Calls Try.prog 13 #[.pointer (some ⟨bA, 0, none⟩)] w fun e w' => e = .returned (.string (strOfNums l)) ∧ Chg [] w w' := by
  have hle := h.le
  have hmost := h.most
  have hAlt := heap_lt h.hA
  have hClt := heap_lt h.hC
  have hmn : min (l.length : Int) 4096 = (l.length : Int) := by omega
  have hA : ∀ o, ArenaIs (w.alloc o) bA bC N l := fun o => h.chg ((Chg.refl [] w).alloc o) (by simp) (by simp)
  have HA := Lib.hid hA
  clear hA
  by_cases h0 : l = []
  · subst h0
    have hmk : ∀ w : World, (Instr.makeSlice 22 (.int .i64 0) (.int .i64 0)).run Try.prog w = .ok (.slice (some ⟨w.heap.size, 0, none⟩) 0 0) (w.alloc (.cells (cellsOf 0 []).toArray 5)) := make_bytes 0 (by omega)
    go_enter Try.func13, Try.ntmps13
    go_wp2_with (go_at_call 23; refine (len_any _ _ _ _ _ h).mono ?_; rintro e w' ⟨rfl, rfl⟩)
    refine (copy_any bA bC N [] w.heap.size 0 0 0 _ _ _ (HA.out _) (alloc_heap w _) (by simp)).mono ?_
    rintro e w1 ⟨rfl, C1, H1⟩
    have hc := conv_src (w := w1) (ao := some ⟨w.heap.size, 0, none⟩) (m := 0) (c := 0) (xs := []) (S := []) ⟨rfl, fun h => absurd h (by omega)⟩
    clear H1
    go_wp2_with fail
    go_ret
    exact ⟨rfl, ((Chg.refl [] w).alloc _).trans C1 (by simp) (by simp)⟩
  · have hpos : 0 < l.length := List.length_pos_iff.2 h0
    have hpos' : (0 : Int) < (l.length : Int) := by omega
    have hmk := make_bytes l.length (by omega)
    clear h0
    go_enter Try.func13, Try.ntmps13
    go_wp2_with (go_at_call 23; refine (len_any _ _ _ _ _ h).mono ?_; rintro e w' ⟨rfl, rfl⟩)
    refine (copy_any bA bC N l w.heap.size 0 l.length l.length _ _ _ (HA.out _) (alloc_heap w _) (by rw [cellsOf_length _ _ (by simp)]; omega)).mono ?_
    rintro e w1 ⟨rfl, C1, H1⟩
    rw [Nat.min_self]
    rw [List.take_of_length_le (Nat.le_refl _), splice_whole _ _ (by rw [cellsOf_length _ _ (by simp)]; simp)] at H1
    have hc := conv_src (c := l.length) (src_of_heap H1)
    clear H1
    go_wp2_with fail
    go_ret
    exact ⟨rfl, ((Chg.refl [] w).alloc _).trans C1 (by simp) (by simp)⟩

/-- A row of the call's own, as a source. -/
theorem src_of_owns {w : World} {base : Nat} {t : TypeId} {v : Value} {n : Nat} {xs : List Int} (h : w.ownsRow base t 1 v n (xs.map (Value.int .u8))) : ∃ ao c, v = .slice ao n c ∧ SrcIs w ao n xs [] := by
  have hl : xs.length = n := by have := h.1; simpa using this
  rcases h.2 with ⟨rfl, rfl⟩ | ⟨g, cap, cur, rfl, _, hh, _, _, _, ht⟩
  · exact ⟨none, 0, rfl, hl, fun h => absurd h (by omega)⟩
  · refine ⟨_, _, rfl, hl, fun _ => ⟨_, rfl, by simp, fun j u hu => ?_⟩⟩
    rw [Addr.add_lit, cell_of_heap hh, Nat.zero_add]
    rw [← ht, List.getElem?_take] at hu
    split at hu
    · simpa using hu
    · cases hu

set_option maxHeartbeats 4000000 in
theorem cells_any (bA bC N : Nat) (l : List Int) (w : World) (h : ArenaIs w bA bC N l) :
    Calls Try.prog 15 #[.pointer (some ⟨bA, 0, none⟩)] w fun e w' => e = .returned (.string (strOfNums (l ++ List.replicate (N - l.length) 0))) ∧ Chg [] w w' := by
  have hle := h.le
  have hmost := h.most
  have hAlt := heap_lt h.hA
  have hClt := heap_lt h.hC
  obtain ⟨i0, hi, hz0, hz1, hz2⟩ := info_parts infoU8
  have hmn : min (N : Int) 4096 = (N : Int) := by omega
  obtain ⟨Z, hZ⟩ : ∃ Z, Z = l ++ List.replicate (N - l.length) 0 := ⟨_, rfl⟩
  have hZl : Z.length = N := by rw [hZ]; simp; omega
  have hZv : ∀ i, i < N → Z.getD i 0 = cellV l i := by
    intro i hi
    rw [hZ]; unfold cellV
    simp only [List.getD_eq_getElem?_getD, Int.toNat_natCast]
    by_cases hl : i < l.length
    · rw [List.getElem?_append_left hl]
    · rw [List.getElem?_append_right (by omega), List.getElem?_replicate, if_pos (by omega), List.getElem?_eq_none (by omega)]; rfl
  rw [← hZ]
  have HZl := Lib.hid hZl
  have HZv := Lib.hid hZv
  clear hZ hZl hZv
  go_enter Try.func15, Try.ntmps15
  go_wp2_with (go_at_call 29; refine (cap_any _ _ _ _ _ h).mono ?_; rintro e w' ⟨rfl, rfl⟩)
  go_loopw [3, 10] (fun v i wr => ∃ k : Nat, k ≤ N ∧ i = .int .i64 k ∧ wr.ownsRow w.heap.size 5 1 v k ((Z.take k).map (Value.int .u8)) ∧ Below w.heap.size w wr) (fun _ i _ => N - (intOf i).toNat)
  case atStart => exact ⟨0, Nat.zero_le _, rfl, ⟨by simp, Or.inl ⟨rfl, rfl⟩⟩, Below.refl _ _⟩
  case round =>
    obtain ⟨k, hk, rfl, hown, hb⟩ := hrel
    have ha : ArenaIs wr bA bC N l := h.chg (Chg.of_below (S := []) hb (Nat.le_refl _)) (by simp) (by simp)
    have hsz := hb.size
    by_cases hlt : k < N
    · have hr : cellR N l k = cellV l k := by unfold cellR; rw [if_neg (by omega)]
      have he : cellE N k = 0 := by unfold cellE; rw [if_neg (by omega)]
      go_wp2_with (first | (go_at_call 27; refine (cell_any _ _ _ _ _ _ ha).mono ?_; rintro e w' ⟨rfl, rfl⟩) | (at_builtin; refine wpList_append_own _ rfl _ _ 22 rfl w.heap.size 5 i0 (.int .u8 0) 1 1 Try.underlying22 hi hz0 hz1 hz2 rfl (by decide) _ _ _ rfl (hown.alloc _) ⟨wr.heap.size, 0, none⟩ 1 1 [.int .u8 (cellV l k)] rfl rfl (cell_one_new _ _ _) (by simp [Value.oneCell']) (by unfold maxLen; omega) (by omega) (by simp; omega) (fun v' w1 hown1 hg1 _ => ?_)))
      have hg : (wr.alloc (Obj.cells #[Value.int IntKind.u8 (cellV l ↑k)] 5)).grownBy w1 u3.ownBlock := hg1
      refine ⟨⟨k + 1, by omega, by go_num, ?_, (hb.alloc hsz _).grown hg (by simp; omega) (owns_block hown)⟩, by simp [intOf]; omega⟩
      have hZl := HZl.out
      have e : Z.take (k + 1) = Z.take k ++ [cellV l k] := by
        rw [List.take_succ_eq_append_getElem (by omega)]
        congr 1
        have := HZv.out k hlt
        rw [List.getD_eq_getElem?_getD, List.getElem?_eq_getElem (by omega)] at this
        simpa using this
      rw [e, List.map_append]
      exact hown1
    · obtain ⟨ao, c, rfl, hs⟩ := src_of_owns hown
      have hkN : k = N := by omega
      rw [hkN, List.take_of_length_le (by rw [HZl.out]; exact Nat.le_refl _)] at hs
      subst hkN
      have hcv := conv_src (c := c) hs
      have Hs := Lib.hid hs
      clear hs hown
      go_wp2_with fail
      go_ret
      exact ⟨rfl, Chg.of_below hb (Nat.le_refl _)⟩
end Go.Proofs.Ytghefhhgckafdaa
