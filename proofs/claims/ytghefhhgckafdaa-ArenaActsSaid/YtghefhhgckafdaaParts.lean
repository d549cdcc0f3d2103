/-
  ArenaParts: the walk through the law.
-/
import Derived.Test.YtghefhhgckafdaaAreL
import Derived.Lib.MinMax
import Derived.Test.YtghefhhgckafdaaApp
import Derived.Deep.RegionHeld3
import Derived.Deep.Slices
import Derived.Deep.DrawnRows
namespace Go.Proofs.Ytghefhhgckafdaa
set_option linter.unusedVariables false
open Go.RowKit
attribute [local go_sem ↓] Go.wp_at_zero Go.wp_at_succ

theorem rem_is (x : Int) (m : Nat) (hm : m ≤ 100000) : ∃ k : Nat, k ≤ m ∧ wrap64 ((IntKind.u64.wrap x).tmod ((m : Int) + 1)) = (k : Int) := by
  rw [IntKind.wrap_u64]
  have h0 : 0 ≤ x % 18446744073709551616 := Int.emod_nonneg _ (by decide)
  rw [Int.tmod_eq_emod_of_nonneg h0]
  have h1 : 0 ≤ x % 18446744073709551616 % ((m : Int) + 1) := Int.emod_nonneg _ (by omega)
  have h2 : x % 18446744073709551616 % ((m : Int) + 1) < (m : Int) + 1 := Int.emod_lt_of_pos _ (by omega)
  refine ⟨(x % 18446744073709551616 % ((m : Int) + 1)).toNat, by omega, ?_⟩
  generalize x % 18446744073709551616 % ((m : Int) + 1) = y at *
  unfold wrap64; omega

theorem rem_is' (x y : Int) (h0 : 0 ≤ y) (hm : y ≤ 100000) : ∃ k : Nat, (k : Int) ≤ y ∧ wrap64 ((IntKind.u64.wrap x).tmod (y + 1)) = (k : Int) := by
  obtain ⟨m, rfl⟩ := Int.eq_ofNat_of_zero_le h0
  obtain ⟨k, h1, h2⟩ := rem_is x m (by omega)
  exact ⟨k, by omega, h2⟩

theorem str_append (a b : List Int) : strOfNums a ++ strOfNums b = strOfNums (a ++ b) := by
  unfold strOfNums
  apply ByteArray.ext
  simp [ByteArray.data_append]

theorem insert_0 (bA bC N : Nat) (l : List Int) (ao : Option Addr) (m c : Nat) (ys : List Int) (w : World) (h : ArenaIs w bA bC N l) (hs : SrcIs w ao m ys [bA, bC]) (hm : m ≤ N - l.length) :
    Calls Try.prog 11 #[.pointer (some ⟨bA, 0, none⟩), .int .i64 0, .slice ao m c] w fun e w' => e = .returned (.int .i64 0) ∧ Chg [bA, bC] w w' ∧ ArenaIs w' bA bC N (ys ++ l) := by
  have := insert_ok bA bC N l 0 ao m c ys w h hs (Nat.zero_le _) hm
  simpa using this

theorem insert_end (bA bC N : Nat) (l : List Int) (p : Nat) (ao : Option Addr) (m c : Nat) (ys : List Int) (w : World) (h : ArenaIs w bA bC N l) (hs : SrcIs w ao m ys [bA, bC]) (hp : p = l.length) (hm : m ≤ N - l.length) :
    Calls Try.prog 11 #[.pointer (some ⟨bA, 0, none⟩), .int .i64 p, .slice ao m c] w fun e w' => e = .returned (.int .i64 0) ∧ Chg [bA, bC] w w' ∧ ArenaIs w' bA bC N (l ++ ys) := by
  subst hp
  have := insert_ok bA bC N l l.length ao m c ys w h hs (Nat.le_refl _) hm
  simpa using this

/-- A part of a slice of bytes that came in. -/
theorem IsRow.part {w : World} {a : Option Addr} {len cap : Nat} {zs : List Int} (h : IsRow .u8 w a len cap zs) (k m : Nat) (hk : k ≤ m) (hm : m ≤ cap) (S : List Nat) (hS : ∀ x ∈ S, w.heap.size ≤ x) :
    SrcIs w (if cap = k then a else a.map (fun x => x.add k)) (m - k) ((zs.take m).drop k) S := by
  have h1 := h.src m hm S hS
  have hl := h.le.2.2
  refine ⟨by simp; omega, fun h0 => ?_⟩
  rw [if_neg (by omega)]
  obtain ⟨ad, e, hS', hc⟩ := h1.2 (by omega)
  subst e
  refine ⟨_, rfl, ?_, fun j v hv => ?_⟩
  · intro hx; apply hS'; unfold Addr.add at hx; split at hx <;> exact hx
  · rw [Go.Deep.add_add]
    refine hc (k + j) v ?_
    simpa [List.getElem?_drop] using hv

theorem new_at (n : Nat) (w : World) (h1 : 1 ≤ n) (h2 : n ≤ 4096) :
    Calls Try.prog 9 #[.int .i64 n] w fun e w' => ∃ bA bC, e = .returned (.tuple #[.pointer (some ⟨bA, 0, none⟩), .int .i64 0]) ∧ Chg [] w w' ∧ ArenaIs w' bA bC n [] ∧ w.heap.size ≤ bA ∧ w.heap.size ≤ bC :=
  (new_ok n w h1 h2).mono fun e w' ⟨he, hc, ha⟩ => ⟨_, _, he, hc, ha, by omega, by omega⟩

set_option maxRecDepth 100000 in
set_option maxHeartbeats 4000000 in
theorem parts_walk (a0 : Option Addr) (len cap : Nat) (zs : List Int) (x0 x1 x2 : Int) (w : World) (hr : IsRow .u8 w a0 len cap zs) :
    Calls Try.prog 4 #[.slice a0 len cap, .agg #[.int .i64 x0, .int .i64 x1, .int .i64 x2]] w fun e w' => e = .returned (.bool true) ∧ Below w.heap.size w w' := by
  obtain ⟨hlc, hcm, hzl⟩ := hr.le
  unfold maxLen at hcm
  obtain ⟨m, hm⟩ : ∃ m : Nat, m = min len 200 := ⟨_, rfl⟩
  have hm1 : m ≤ len := by omega
  have hm2 : m ≤ 200 := by omega
  have hm3 : min (len : Int) 200 = (m : Int) := by omega
  have hm4 : (m : Int) ≤ (cap : Int) := by omega
  have HM := Lib.hid hm
  clear hm
  have hsrc := Lib.hid (hr.src m (by omega) [] (by simp))
  obtain ⟨ys, hys⟩ : ∃ ys, ys = zs.take m := ⟨_, rfl⟩
  rw [← hys] at hsrc
  have HY := Lib.hid hys
  clear hys
  go_enter Try.func4, Try.ntmps4
  go_wp2_with fail
  go_quiet (fail)
  go_wp2_with fail
  have hS1 := Lib.hid (show ∀ k w' S, k ≤ m → Chg [] w w' → (∀ x ∈ S, w.heap.size ≤ x) → SrcIs w' a0 k (ys.take k) S from fun k w' S hk hc hS => by
    have h1 := hr.src k (by omega) S hS
    have h2 := h1.chg hc (by simp)
    rw [HY.out, List.take_take, Nat.min_eq_left hk]; exact h2)
  have hS2 := Lib.hid (show ∀ k w' S, k ≤ m → Chg [] w w' → (∀ x ∈ S, w.heap.size ≤ x) → SrcIs w' (if cap = k then a0 else a0.map (fun x => x.add k)) (m - k) (ys.drop k) S from fun k w' S hk hc hS => by
    have h1 := hr.part k m hk (by omega) S hS
    rw [HY.out]; exact h1.chg hc (by simp))
  generalize hw0 : (w.alloc _).drewN _ = w0
  have D0 : Chg [] w w0 := by rw [← hw0]; exact ((Chg.refl [] w).alloc _).drewN _
  refine (new_at 200 _ (by omega) (by omega)).mono ?_
  rintro e w1 ⟨bA, bC, rfl, C1, A1, l1, l2⟩
  go_wp2_with fail
  refine (new_at 200 _ (by omega) (by omega)).mono ?_
  rintro e w2 ⟨bB, bD, rfl, C2, B2, l3, l4⟩
  have A2 := A1.chg C2 (by simp) (by simp)
  go_wp2_with fail
  refine (alive_any _).mono ?_
  rintro e w3 ⟨rfl, C3⟩
  have A3 := A2.chg C3 (by simp) (by simp)
  have B3 := B2.chg C3 (by simp) (by simp)
  have hlA := A1.lt
  have D3 : Chg [] w w3 := ((D0.trans C1 (U := []) (by simp) (by simp)).trans C2 (U := []) (by simp) (by simp)).trans C3 (by simp) (by simp)
  have hs1 := D0.size
  clear C1 C2 C3 A1 A2 B2 hw0 D0
  go_wp2_with fail
  obtain ⟨k, hk1, hk2⟩ := rem_is x0 m (by omega)
  simp only [hk2]
  clear hk2
  have hk3 : (k : Int) ≤ (cap : Int) := by omega
  have hk4 : (k : Int) ≤ (m : Int) := by omega
  have hyl : ys.length = m := hsrc.out.1
  have htk := Lib.hid (show (ys.take k).length = k by rw [List.length_take, hyl]; omega)
  have hdk := Lib.hid (show (ys.drop k).length = m - k by rw [List.length_drop, hyl])
  have hall := Lib.hid (show ys.take m = ys from List.take_of_length_le (by rw [hyl]; exact Nat.le_refl _))
  have HYL := Lib.hid hyl
  clear hyl
  have A3' := A3.drew
  have B3' := B3.drew
  have D3' := D3.drew
  have hconv := Lib.hid (show ∀ w', Chg [] w w' → (convert 22 9 (.slice a0 m cap)).run Try.prog w' = .ok (.string (strOfNums ys)) w' from fun w' hc => by
    have := hS1.out m w' [] (Nat.le_refl _) hc (by simp)
    rw [hall.out] at this
    exact conv_src this)
  clear A3 B3 D3
  go_region_held3 (fun w' => (convert 22 9 (.slice a0 m cap)).run Try.prog w' = .ok (.string (strOfNums ys)) w') (exact hconv.out _ (by assumption))
    (first
      | (go_at_call 11; (with_reducible show Calls _ _ #[.pointer (some ⟨bA, 0, none⟩), .int .i64 0, _] _ _); refine (insert_0 bA bC 200 [] _ _ _ (ys.take k) _ (by assumption) (by exact hS1.out k _ _ hk1 (by assumption) (by simp; omega)) (by simp; omega)).mono ?_; rintro e w4 ⟨rfl, C4, A4⟩; have B4 := ArenaIs.chg (by assumption : ArenaIs _ bB bD 200 []) C4 (by simp; omega) (by simp; omega); have D4 : Chg [] w w4 := Chg.trans (by assumption) C4 (by simp) (by simp; omega); rw [List.append_nil] at A4)
      | (go_at_call 11; (with_reducible show Calls _ _ #[.pointer (some ⟨bA, 0, none⟩), .int .i64 (k : Int), _] _ _); refine (insert_end bA bC 200 (ys.take k) k _ _ _ (ys.drop k) _ (by assumption) (by exact hS2.out k _ _ hk1 (by assumption) (by simp; omega)) htk.out.symm (by rw [htk.out]; omega)).mono ?_; rintro e w5 ⟨rfl, C5, A5⟩; have B5 := ArenaIs.chg (by assumption : ArenaIs _ bB bD 200 []) C5 (by simp; omega) (by simp; omega); have D5 : Chg [] w w5 := Chg.trans (by assumption) C5 (by simp) (by simp; omega); rw [List.take_append_drop] at A5; generalize (if cap = k then a0 else Option.map (fun x => x.add k) a0) = dd)
      | (go_at_call 11; (with_reducible show Calls _ _ #[.pointer (some ⟨bB, 0, none⟩), .int .i64 0, .slice a0 k cap] _ _); refine (insert_0 bB bD 200 (ys.drop k) _ _ _ (ys.take k) _ (by assumption) (by exact hS1.out k _ _ hk1 (by assumption) (by simp; omega)) (by rw [hdk.out]; omega)).mono ?_; rintro e w7 ⟨rfl, C7, B7⟩; have A7 := ArenaIs.chg (by assumption : ArenaIs _ bA bC 200 ys) C7 (by simp; omega) (by simp; omega); have D7 : Chg [] w w7 := Chg.trans (by assumption) C7 (by simp) (by simp; omega); rw [List.take_append_drop] at B7)
      | (go_at_call 11; (with_reducible show Calls _ _ #[.pointer (some ⟨bB, 0, none⟩), .int .i64 0, _] _ _); refine (insert_0 bB bD 200 [] _ _ _ (ys.drop k) _ (by assumption) (by exact hS2.out k _ _ hk1 (by assumption) (by simp; omega)) (by simp; omega)).mono ?_; rintro e w6 ⟨rfl, C6, B6⟩; have A6 := ArenaIs.chg (by assumption : ArenaIs _ bA bC 200 ys) C6 (by simp; omega) (by simp; omega); have D6 : Chg [] w w6 := Chg.trans (by assumption) C6 (by simp) (by simp; omega); rw [List.append_nil] at B6; generalize (if cap = k then a0 else Option.map (fun x => x.add k) a0) = dd)
      | (go_at_call 13; (with_reducible show Calls _ _ #[.pointer (some ⟨bA, 0, none⟩)] _ _); refine (text_any bA bC 200 ys _ (by assumption)).mono ?_; rintro e w8 ⟨rfl, C8⟩; have A8 := ArenaIs.chg (by assumption : ArenaIs _ bA bC 200 ys) C8 (by simp) (by simp); have B8 := ArenaIs.chg (by assumption : ArenaIs _ bB bD 200 ys) C8 (by simp) (by simp); have D8 : Chg [] w w8 := Chg.trans (by assumption) C8 (by simp) (by simp))
      | (go_at_call 13; refine (text_any bB bD 200 ys _ (by assumption)).mono ?_; rintro e w9 ⟨rfl, C9⟩; have A9 := ArenaIs.chg (by assumption : ArenaIs _ bA bC 200 ys) C9 (by simp) (by simp); have B9 := ArenaIs.chg (by assumption : ArenaIs _ bB bD 200 ys) C9 (by simp) (by simp); have D9 : Chg [] w w9 := Chg.trans (by assumption) C9 (by simp) (by simp)))
  rename_i hh9
  clear hconv A3' B3' D3' C4 A4 B4 D4 C5 A5 B5 D5 C6 A6 B6 D6 C7 A7 B7 D7 C8 A8 B8 D8 C9 hh9 htk hdk hm3
  obtain ⟨i, hi1, hi2⟩ := rem_is x1 m (by omega)
  have hi3 : (i : Int) ≤ (m : Int) := by omega
  obtain ⟨r, hr1, hr2⟩ := rem_is' x2 ((m : Int) - (i : Int)) (by omega) (by omega)
  obtain ⟨j, hj⟩ : ∃ j : Nat, j = i + r := ⟨_, rfl⟩
  have hj1 : (i : Int) + (r : Int) = (j : Int) := by omega
  have hj2 : (j : Int) ≤ (m : Int) := by omega
  have hj3 : (i : Int) ≤ (j : Int) := by omega
  obtain ⟨q, hq⟩ : ∃ q : Nat, q = i + (j - i) / 2 := ⟨_, rfl⟩
  have hq1 : (i : Int) + ((j : Int) - (i : Int)) / 2 = (q : Int) := by omega
  have hq2 : i ≤ q ∧ q ≤ j := by omega
  have hij : i ≤ j ∧ j ≤ m := by omega
  have hyl := HYL.out
  clear hj hq hr1
  go_wp2_with fail
  refine (delete_ok bA bC 200 ys i j _ A9 hij.1 (by omega)).mono ?_
  rintro e w10 ⟨rfl, C10, A10⟩
  have B10 := B9.chg C10 (by simp; omega) (by simp; omega)
  have D10 : Chg [] w w10 := D9.trans C10 (by simp) (by simp; omega)
  clear A9 B9 D9 C10
  go_wp2_with fail
  refine (delete_ok bB bD 200 ys q j _ B10 hq2.2 (by omega)).mono ?_
  rintro e w11 ⟨rfl, C11, B11⟩
  have A11 := A10.chg C11 (by simp; omega) (by simp; omega)
  have D11 : Chg [] w w11 := D10.trans C11 (by simp) (by simp; omega)
  clear A10 B10 D10 C11
  go_wp2_with fail
  have hlq : (ys.take q).length = q := by rw [List.length_take, hyl]; omega
  refine (delete_ok bB bD 200 _ i q _ B11 hq2.1 (by rw [List.length_append, hlq]; omega)).mono ?_
  rintro e w12 ⟨rfl, C12, B12⟩
  have A12 := A11.chg C12 (by simp; omega) (by simp; omega)
  have D12 : Chg [] w w12 := D11.trans C12 (by simp) (by simp; omega)
  have he : (ys.take q ++ ys.drop j).take i ++ (ys.take q ++ ys.drop j).drop q = ys.take i ++ ys.drop j := by
    rw [List.drop_left' hlq, List.take_append_of_le_length (by rw [hlq]; exact hq2.1), List.take_take, Nat.min_eq_left hq2.1]
  rw [he] at B12
  clear A11 B11 D11 C12 he hlq
  go_wp2_with fail
  have A13 := A12.drew
  have B13 := B12.drew
  have D13 := D12.drew
  have hk5 : (i : Int) ≤ (cap : Int) := by omega
  have hc1 := Lib.hid (show ∀ w', Chg [] w w' → (convert 22 9 (.slice a0 i cap)).run Try.prog w' = .ok (.string (strOfNums (ys.take i))) w' from fun w' hc => conv_src (hS1.out i w' [] (by omega) hc (by simp)))
  have hc2 := Lib.hid (show ∀ w', Chg [] w w' → (convert 22 9 (.slice (if cap = j then a0 else Option.map (fun x => x.add j) a0) (m - j) (cap - j))).run Try.prog w' = .ok (.string (strOfNums (ys.drop j))) w' from fun w' hc => conv_src (hS2.out j w' [] (by omega) hc (by simp)))
  have hadd := str_append (ys.take i) (ys.drop j)
  have hsz : ((strOfNums (ys.take i)).size + (strOfNums (ys.drop j)).size > 9223372036854775807) = False := by
    rw [strOfNums_size, strOfNums_size, List.length_take, List.length_drop, hyl, Nat.min_eq_left (by omega)]
    exact eq_false (by omega)
  clear A12 B12 D12
  go_region_held3 (fun w' => (convert 22 9 (.slice a0 i cap)).run Try.prog w' = .ok (.string (strOfNums (ys.take i))) w' ∧ (convert 22 9 (.slice (if cap = j then a0 else Option.map (fun x => x.add j) a0) (m - j) (cap - j))).run Try.prog w' = .ok (.string (strOfNums (ys.drop j))) w') (exact ⟨hc1.out _ (by assumption), hc2.out _ (by assumption)⟩)
    (first
      | (go_at_call 13; refine (text_any bA bC 200 _ _ (by assumption)).mono ?_; rintro e w8 ⟨rfl, C8⟩; have A8 := ArenaIs.chg (by assumption : ArenaIs _ bA bC 200 (ys.take i ++ ys.drop j)) C8 (by simp) (by simp); have B8 := ArenaIs.chg (by assumption : ArenaIs _ bB bD 200 (ys.take i ++ ys.drop j)) C8 (by simp) (by simp); have D8 : Chg [] w w8 := Chg.trans (by assumption) C8 (by simp) (by simp); generalize (if cap = j then a0 else Option.map (fun x => x.add j) a0) = dd)
      | (go_at_call 15; (with_reducible show Calls _ _ #[.pointer (some ⟨bA, 0, none⟩)] _ _); refine (cells_any bA bC 200 _ _ (by assumption)).mono ?_; rintro e w8 ⟨rfl, C8⟩; have B8 := ArenaIs.chg (by assumption : ArenaIs _ bB bD 200 (ys.take i ++ ys.drop j)) C8 (by simp) (by simp); have D8 : Chg [] w w8 := Chg.trans (by assumption) C8 (by simp) (by simp))
      | (go_at_call 15; refine (cells_any bB bD 200 _ _ (by assumption)).mono ?_; rintro e w9 ⟨rfl, C9⟩; have D9 : Chg [] w w9 := Chg.trans (by assumption) C9 (by simp) (by simp)))
  clear hsz hadd hi2 hr2
  go_wp2_with fail
  go_ret
  exact ⟨rfl, Chg.below (Below.refl _ _) D9 (by simp) (Nat.le_refl _)⟩

theorem parts_law (a0 : Option Addr) (len cap : Nat) (zs : List Int) (x0 x1 x2 : Int) (w : World) (hr : IsRow .u8 w a0 len cap zs) :
    Calls Try.prog 4 #[.slice a0 len cap, .agg ([x0, x1, x2].map (Value.int .i64)).toArray] w fun e w' => e = .returned (.bool true) ∧ Below w.heap.size w w' :=
  parts_walk a0 len cap zs x0 x1 x2 w hr
end Go.Proofs.Ytghefhhgckafdaa
