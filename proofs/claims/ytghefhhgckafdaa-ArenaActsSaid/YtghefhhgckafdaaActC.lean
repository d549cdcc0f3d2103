/-
  The contracts of size, great, and of the law's own zero.
-/
import Derived.Test.YtghefhhgckafdaaActs
import Derived.Test.YtghefhhgckafdaaParts
import Derived.DataShut
namespace Go.Proofs.Ytghefhhgckafdaa
set_option linter.unusedVariables false
set_option linter.unusedSimpArgs false
open Go.RowKit

def sizeN (n : Int) : Nat := 1 + ((IntKind.u64.wrap n).tmod 300).toNat

theorem sizeN_le (n : Int) : 1 ≤ sizeN n ∧ sizeN n ≤ 300 := by
  obtain ⟨k, h1, h2⟩ := rem_is n 299 (by omega)
  unfold sizeN
  rw [IntKind.wrap_u64]
  have h0 : 0 ≤ n % 18446744073709551616 := Int.emod_nonneg _ (by decide)
  rw [Int.tmod_eq_emod_of_nonneg h0]
  omega

theorem size_any (n : Int) (w : World) :
    Calls Try.prog 17 #[.int .i64 n] w fun e w' => e = .returned (.int .i64 (sizeN n : Nat)) ∧ w = w' := by
  obtain ⟨k, h1, h2⟩ := rem_is n 299 (by omega)
  have h3 : sizeN n = 1 + k := by
    unfold sizeN
    rw [IntKind.wrap_u64] at *
    have h0 : 0 ≤ n % 18446744073709551616 := Int.emod_nonneg _ (by decide)
    rw [Int.tmod_eq_emod_of_nonneg h0] at *
    generalize n % 18446744073709551616 = y at *
    have e : ((299 : Nat) : Int) + 1 = 300 := rfl
    rw [e] at h2
    have h4 : wrap64 (y % 300) = y % 300 := by unfold wrap64; omega
    rw [h4] at h2
    omega
  have e : ((299 : Nat) : Int) + 1 = 300 := rfl
  rw [e] at h2
  rw [h3]
  have h4 : ((1 + k : Nat) : Int) = 1 + (k : Int) := by omega
  rw [h4]
  clear h3 h4 e
  go_enter Try.func17, Try.ntmps17
  go_wp2_with fail
  go_ret
  exact ⟨rfl, rfl⟩

def lenSum (acts : List ActD) : Nat := (acts.map (·.m)).sum

theorem IsRow.chg {w w' : World} {k : IntKind} {a : Option Addr} {len cap : Nat} {zs : List Int} (h : IsRow k w a len cap zs) (c : Chg [] w w') : IsRow k w' a len cap zs := by
  rcases h with h | ⟨x, h1, h2, h3, h4, h5, h6⟩
  · exact .inl h
  · exact .inr ⟨x, h1, h2, h3, h4, fun i hi => c.cell (h5 i hi) (by simp), h6⟩

theorem ActD.at.chg {w w' : World} {bl off : Nat} {x : ActD} (h : x.at w bl off) (c : Chg [] w w') : x.at w' bl off := by
  obtain ⟨h0, h1, h2, h3, h4, hr⟩ := h
  exact ⟨c.cell h0 (by simp), c.cell h1 (by simp), c.cell h2 (by simp), c.cell h3 (by simp), c.cell h4 (by simp), hr.chg c⟩

theorem ActsAt.chg {w w' : World} {a : Option Addr} {len : Nat} {acts : List ActD} (h : ActsAt w a len acts) (c : Chg [] w w') : ActsAt w' a len acts :=
  ⟨h.1, fun h0 => by obtain ⟨bl, off, e, hx⟩ := h.2 h0; exact ⟨bl, off, e, fun k x hk => (hx k x hk).chg c⟩⟩

theorem ActsAt.get {w : World} {a : Option Addr} {len : Nat} {acts : List ActD} (h : ActsAt w a len acts) {k : Nat} (hk : k < len) :
    ∃ bl off x, a = some ⟨bl, off, none⟩ ∧ acts[k]? = some x ∧ x.at w bl (off + k * 5) := by
  obtain ⟨bl, off, e, hx⟩ := h.2 (by omega)
  have hl := h.1
  have : acts[k]? = some (acts[k]'(by omega)) := List.getElem?_eq_getElem (by omega)
  exact ⟨bl, off, _, e, this, hx k _ this⟩

theorem cells_act {w : World} {bl off : Nat} {x : ActD} (h : x.at w bl off) : w.cells? 0 ⟨bl, off, none⟩ 5 = some [.int .i64 x.kind, .int .i64 x.a, .int .i64 x.b, .int .i64 x.c, .slice x.ao x.m x.cap] := by
  obtain ⟨h0, h1, h2, h3, h4, _⟩ := h
  refine World.cells?_of_each (Nat.zero_le _) rfl fun i hi => ?_
  rw [Addr.add_lit]
  match i, hi with
  | 0, _ => exact h0
  | 1, _ => exact h1
  | 2, _ => exact h2
  | 3, _ => exact h3
  | 4, _ => exact h4

set_option maxHeartbeats 4000000 in
theorem great_any (a : Option Addr) (len cap : Nat) (acts : List ActD) (w : World) (h : ActsAt w a len acts) (hlen : len ≤ maxLen) :
    Calls Try.prog 18 #[.slice a len cap] w fun e w' => (e = .returned (.bool true) ∨ (e = .returned (.bool false) ∧ len ≤ 150 ∧ (lenSum acts ≤ maxLen → lenSum acts ≤ 4000))) ∧ Chg [] w w' := by
  unfold maxLen at hlen
  go_enter Try.func18, Try.ntmps18
  go_wp2_with fail
  go_loopw [3, 8] (fun n i wr => ∃ k : Nat, k ≤ len ∧ i = .int .i64 k ∧ (∃ s : Int, n = .int .i64 s ∧ (lenSum acts ≤ maxLen → s = lenSum (acts.take k))) ∧ Below w.heap.size w wr) (fun _ i _ => len - (intOf i).toNat)
  case atStart => exact ⟨0, Nat.zero_le _, rfl, ⟨0, rfl, fun _ => rfl⟩, Below.refl _ _⟩
  case round =>
    obtain ⟨k, hk, rfl, ⟨s, rfl, hs⟩, hb⟩ := hrel
    by_cases hlt : k < len
    · obtain ⟨bl, off, x, rfl, hx, h0, h1, h2, h3, h4, hr⟩ := (h.chg (Chg.of_below (S := []) hb (Nat.le_refl _))).get hlt
      go_wp2_with fail
      have hm : x.m ≤ maxLen := by have := hr.le; unfold maxLen at *; omega
      have hsz := hb.size
      refine ⟨⟨k + 1, by omega, by go_num, ⟨_, rfl, fun hle => ?_⟩, ?_⟩, by simp [intOf]; omega⟩
      · have h1 : lenSum (acts.take (k + 1)) = lenSum (acts.take k) + x.m := by
          unfold lenSum
          have hl := h.1
          rw [List.take_add_one, hx]
          simp
        have h2 : lenSum (acts.take (k + 1)) ≤ lenSum acts := by
          unfold lenSum
          conv => rhs; rw [← List.take_append_drop (k + 1) acts, List.map_append, List.sum_append]
          omega
        rw [hs hle, h1]
        unfold maxLen at hle
        unfold wrap64
        omega
      · repeat' (first | exact hb.alloc hsz _ | exact hsz | (refine Below.setCell ?_ ?_ _))
    · have hkl : k = len := by omega
      have hfin : lenSum acts ≤ maxLen → s = lenSum acts := fun h0 => by
        rw [hs h0, hkl, List.take_of_length_le (by rw [h.1]; exact Nat.le_refl _)]
      clear hs
      by_cases g1 : 150 < (len : Int)
      · go_wp2_with fail
        go_ret
        exact ⟨.inl rfl, Chg.of_below hb (Nat.le_refl _)⟩
      · by_cases g2 : 4000 < s
        · go_wp2_with fail
          go_ret
          exact ⟨.inl rfl, Chg.of_below hb (Nat.le_refl _)⟩
        · go_wp2_with fail
          go_ret
          exact ⟨.inr ⟨rfl, by omega, fun h0 => by have := hfin h0; omega⟩, Chg.of_below hb (Nat.le_refl _)⟩
set_option maxHeartbeats 1000000 in
theorem zeroL_any (ao : Option Addr) (m c : Nat) (xs : List Int) (w : World) (h : SrcIs w ao m xs []) (hm : m ≤ 140737488355328) :
    Calls Try.prog 26 #[.slice ao m c] w fun e w' => e = .returned (.bool (zeroB xs)) ∧ w = w' := by
  have hlen := h.1
  go_enter Try.func26, Try.ntmps26
  go_wp2_with fail
  go_loop [7] (fun i => ∃ k : Nat, k ≤ m ∧ i = .int .i64 k ∧ ∀ j, j < k → xs.getD j 0 = 0) (fun i => m - (intOf i).toNat)
  case atStart => exact ⟨0, Nat.zero_le _, rfl, fun j hj => absurd hj (Nat.not_lt_zero _)⟩
  case round =>
    obtain ⟨k, hk, rfl, hz⟩ := hrel
    have Hz := Lib.hid hz
    clear hz hlen
    by_cases hlt : k < m
    · obtain ⟨b, off, rfl, _, hcell⟩ := src_cell h hlt
      have hc := hcell k hlt
      clear hcell
      by_cases hx : xs.getD k 0 = 0
      · rw [hx] at hc
        go_wp2_with fail
        go_round
        case rel =>
          refine ⟨k + 1, by omega, by go_num, fun j hj => ?_⟩
          by_cases hjk : j = k
          · rw [hjk]; exact hx
          · exact Hz.out j (by omega)
        case measure => simp [intOf]; omega
      · have hb : (xs.getD k 0 != 0) = true := by rw [bne_iff_ne]; exact hx
        have Hx := Lib.hid hx
        clear hx
        generalize hv : xs.getD k 0 = v at *
        have Hv := Lib.hid hv
        clear hv
        go_wp2_with fail
        go_ret
        refine ⟨ret_bool' ?_, rfl⟩
        exact (zeroB_false (j := k) (by rw [h.1]; exact hlt) (by rw [Hv.out]; exact Hx.out)).symm
    · go_wp2_with fail
      go_ret
      refine ⟨ret_bool' ?_, rfl⟩
      exact (zeroB_true (fun j hj => Hz.out j (by rw [h.1] at hj; omega))).symm
end Go.Proofs.Ytghefhhgckafdaa
