/-
  The reference's arena: Move and Cell.
-/
import Derived.Test.YtghefhhgckafdaaRefB
import Derived.Test.YtghefhhgckafdaaMoves
namespace Go.Proofs.Ytghefhhgckafdaa
set_option linter.unusedVariables false
set_option linter.unusedSimpArgs false
open Go.RowKit
attribute [local go_sem ↓] Go.wp_at_zero Go.wp_at_succ

set_option maxHeartbeats 600000 in
theorem refMove_ok (base bM N : Nat) (l : List Int) (bo : Option Addr) (bc : Nat) (i j p : Nat) (w : World) (h : RefIs w base bM N l bo bc) (hij : i ≤ j) (hj : j ≤ l.length) (hp : p ≤ l.length - (j - i)) :
    Calls Try.prog 21 #[.pointer (some ⟨bM, 0, none⟩), .int .i64 i, .int .i64 j, .int .i64 p] w fun e w' => e = .returned (.int .i64 0) ∧ Chg [bM] w w' ∧ ∃ bo' bc', RefIs w' base bM N (movL l i j p) bo' bc' := by
  have h0 := h.cell0
  have hle := h.le
  have hmost := h.most
  have hc := h.hc
  have hlt := h.lt
  have hsz := h.size
  have f1 : (i : Int) ≤ (j : Int) := by omega
  have f2 : (j : Int) ≤ (l.length : Int) := by omega
  have f3 : (j : Int) ≤ (bc : Int) := by omega
  have f4 : (p : Int) ≤ (l.length : Int) - ((j : Int) - (i : Int)) := by omega
  have hsrc := Lib.hid ((h.src.head j hj).tail i hij (by omega : j ≤ bc))
  have hN := Lib.hid h.nil
  have O0 := Lib.hid (owns_empty w w.heap.size 5 (Nat.le_refl _))
  have D0 : Chg [] w (w.alloc (.cells #[] 5)) := (Chg.refl [] w).alloc _
  have h00 := D0.cell h0 (by simp)
  obtain ⟨i0, hi, hz0, hz1, hz2⟩ := info_parts infoU8
  have hNC := Lib.hid (show (if bc = i then bo else bo.map (fun x => x.add i)) = none → j - i = 0 ∧ bc - i = 0 from fun e => by
    have : bo = none := by
      cases bo with
      | none => rfl
      | some ad => split at e <;> cases e
    have := hN.out this
    omega)
  go_enter Try.func21, Try.ntmps21
  go_wp2_with ((with_reducible show wpList _ _ _ (⟨some 51, _, _, _, _, _⟩ :: _) _ _); refine wpList_append_src rfl (.tmp 43) (.tmp 50) 22 rfl w.heap.size 5 i0 (.int .u8 0) 1 1 Try.underlying22 hi hz0 hz1 hz2 rfl (by decide) (.slice (some ⟨w.heap.size, 0, none⟩) 0 0) 0 [] rfl O0.out (if bc = i then bo else bo.map (fun x => x.add i)) (j - i) (bc - i) (((l.take j).drop i).map (Value.int .u8)) rfl (by rw [List.length_map, hsrc.out.1, Nat.mul_one]) hNC.out (src_cells (hsrc.out.chg D0 (by simp))) (oneCell_u8 _) (by unfold maxLen; omega) (by omega) D0.size (fun v1 w1 O1 C1 N1 => ?_); have D1 : Chg [] w w1 := D0.trans C1 (by simp) (by simp [Value.ownBlock]); rw [List.nil_append] at O1; obtain ⟨n1, hn1⟩ : ∃ n1, n1 = 0 + (j - i) := ⟨_, rfl⟩; rw [← hn1] at O1; have HN1 := Lib.hid hn1; clear hn1; obtain ⟨b1, c1, rfl, F1⟩ := owns_form O1; generalize (if bc = i then bo else Option.map (fun x => x.add i) bo) = dd)
  have hs1 : SrcIs w1 b1 n1 ((l.take j).drop i) [bM] := ⟨F1.1.1, fun h0 => by
    obtain ⟨ad, e, _, hcell⟩ := F1.1.2 h0
    exact ⟨ad, e, by have := F1.2.2.2.2 ad e; simp; omega, hcell⟩⟩
  have R1 := h.chg D1 (by simp)
  refine (refDelete_ok base bM N l bo bc i j w1 R1 hij hj).mono ?_
  rintro e w2 ⟨rfl, C2, bo2, bc2, R2⟩
  have hs2 := hs1.chg C2 (by simp)
  have hm1 : n1 ≤ N - (l.take i ++ l.drop j).length := by rw [HN1.out, List.length_append, List.length_take, List.length_drop]; omega
  have hp1 : p ≤ (l.take i ++ l.drop j).length := by rw [List.length_append, List.length_take, List.length_drop]; omega
  clear hs1 R1
  go_wp2_with fail
  refine (refInsert_ok base bM N _ bo2 bc2 p b1 _ c1 _ w2 R2 ⟨hs2.1, fun h0 => by obtain ⟨ad, e, _, hc⟩ := hs2.2 h0; exact ⟨ad, e, by simp, hc⟩⟩ (fun e => ⟨by have := F1.2.2.2.1 e; have := F1.2.1; omega, F1.2.2.2.1 e⟩) hp1 hm1).mono ?_
  rintro e w3 ⟨rfl, C3, bo3, bc3, R3⟩
  have hM : (l.take i ++ l.drop j).take p ++ (l.take j).drop i ++ (l.take i ++ l.drop j).drop p = movL l i j p := by unfold movL; rw [List.drop_take]
  rw [hM] at R3
  have D3 : Chg [bM] w w3 := (D1.trans C2 (U := [bM]) (by simp) (by simp)).trans C3 (by simp) (by simp)
  clear hs2 R2 hM hm1 hp1
  go_wp2_with fail
  go_ret
  exact ⟨rfl, D3, _, _, R3⟩

set_option maxHeartbeats 2000000 in
theorem refMove_any (base bM N : Nat) (l : List Int) (bo : Option Addr) (bc : Nat) (a b p : Int) (w : World) (h : RefIs w base bM N l bo bc) :
    Calls Try.prog 21 #[.pointer (some ⟨bM, 0, none⟩), .int .i64 a, .int .i64 b, .int .i64 p] w fun e w' => e = .returned (.int .i64 (movE l.length a b p)) ∧ Chg [bM] w w' ∧ ∃ bo' bc', RefIs w' base bM N (movM l a b p) bo' bc' := by
  have h0 := h.cell0
  have hle := h.le
  have hmost := h.most
  by_cases hc : 0 ≤ a ∧ a ≤ b ∧ b ≤ (l.length : Int) ∧ 0 ≤ p ∧ p ≤ (l.length : Int) - (b - a)
  · obtain ⟨i, rfl⟩ := Int.eq_ofNat_of_zero_le hc.1
    obtain ⟨j, rfl⟩ := Int.eq_ofNat_of_zero_le (by omega : 0 ≤ b)
    obtain ⟨k, rfl⟩ := Int.eq_ofNat_of_zero_le hc.2.2.2.1
    have e1 : movE l.length i j k = 0 := by unfold movE; rw [if_pos hc]
    have e2 : movM l i j k = movL l i j k := by unfold movM; rw [if_pos hc]; rfl
    rw [e1, e2]
    exact refMove_ok base bM N l bo bc i j k w h (by omega) (by omega) (by omega)
  · have e1 : movE l.length a b p = 3 := by unfold movE; rw [if_neg hc]
    have e2 : movM l a b p = l := by unfold movM; rw [if_neg hc]
    rw [e1, e2]
    clear e1 e2
    by_cases c1 : a < 0
    · go_enter Try.func21, Try.ntmps21
      go_wp2_with fail
      go_ret
      exact ⟨rfl, Chg.refl _ _, _, _, h⟩
    · by_cases c2 : b < a
      · go_enter Try.func21, Try.ntmps21
        go_wp2_with fail
        go_ret
        exact ⟨rfl, Chg.refl _ _, _, _, h⟩
      · by_cases c3 : (l.length : Int) < b
        · go_enter Try.func21, Try.ntmps21
          go_wp2_with fail
          go_ret
          exact ⟨rfl, Chg.refl _ _, _, _, h⟩
        · by_cases c4 : p < 0
          · go_enter Try.func21, Try.ntmps21
            go_wp2_with fail
            go_ret
            exact ⟨rfl, Chg.refl _ _, _, _, h⟩
          · have c5 : (l.length : Int) - (b - a) < p := by omega
            have c6 : IntKind.i64.wrap (b - a) = b - a := IntWalk.i64_in _ (by omega)
            have c7 : IntKind.i64.wrap ((l.length : Int) - (b - a)) = (l.length : Int) - (b - a) := IntWalk.i64_in _ (by omega)
            go_enter Try.func21, Try.ntmps21
            go_wp2_with fail
            go_ret
            exact ⟨rfl, Chg.refl _ _, _, _, h⟩

set_option maxHeartbeats 2000000 in
theorem refCell_any (base bM N : Nat) (l : List Int) (bo : Option Addr) (bc : Nat) (k : Nat) (w : World) (h : RefIs w base bM N l bo bc) :
    Calls Try.prog 28 #[.pointer (some ⟨bM, 0, none⟩), .int .i64 k] w fun e w' => e = .returned (.int .u8 (cellV l k)) ∧ w = w' := by
  have h0 := h.cell0
  by_cases hk : k < l.length
  · obtain ⟨b, off, rfl, _, hcl⟩ := src_cell h.src hk
    have hck := hcl k hk
    have e1 : cellV l k = l.getD k 0 := rfl
    rw [e1]
    have f1 : (k : Int) < (l.length : Int) := by omega
    clear hcl e1
    generalize l.getD k 0 = z at *
    go_enter Try.func28, Try.ntmps28
    go_wp2_with fail
    go_ret
    exact ⟨rfl, rfl⟩
  · have e1 : cellV l k = 0 := by unfold cellV; rw [List.getD_eq_getElem?_getD, List.getElem?_eq_none (by omega)]; rfl
    rw [e1]
    have f1 : ¬ (k : Int) < (l.length : Int) := by omega
    clear e1
    go_enter Try.func28, Try.ntmps28
    go_wp2_with fail
    go_ret
    exact ⟨rfl, rfl⟩
end Go.Proofs.Ytghefhhgckafdaa
