/-
  The reference of the registry: the contract of Make.
-/
import Derived.Test.YtojabenkhjgafaaRegR
namespace Go.Proofs.Ytojabenkhjgafaa
set_option linter.unusedVariables false
open Go.RowKit Go.WideShapes

/-- What Make says. -/
def regE (A : List Ent) (s : ByteArray) (n : Int) : Int := if hasB A s then 11 else if 16 ≤ A.length then 4 else if n < 1 ∨ 4096 < n then 3 else 0

theorem infoOne : (Try.prog.info? 43).map (fun i => (i.zero, i.size, i.bytes)) = some (some (.agg #[.string ⟨#[]⟩, .int .i64 0]), 2, 24) := by kernel_rfl

set_option maxHeartbeats 1000000 in
theorem refMake_arg (mv : Value) (n : Int) (w : World) :
    Calls Try.prog 11 #[mv, .string ⟨#[]⟩, .int .i64 n] w fun e w' => e = .returned (.tuple #[mv, .int .i64 2]) ∧ w = w' := by
  go_enter Try.func11, Try.ntmps11
  go_wp2_with fail
  go_ret2
  exact ⟨rfl, rfl⟩

theorem hasB_true {A : List Ent} {s : ByteArray} {x : Ent} (h : A.find? (fun x => decide (x.name = s)) = some x) : hasB A s = true := by unfold hasB findP; rw [h]; rfl
theorem hasB_false {A : List Ent} {s : ByteArray} (h : A.find? (fun x => decide (x.name = s)) = none) : hasB A s = false := by unfold hasB findP; rw [h]; rfl

def RefMakePost (mv : Value) (A : List Ent) (s : ByteArray) (n : Int) (w : World) (e : Ending) (w' : World) : Prop :=
  (regE A s n ≠ 0 ∧ e = .returned (.tuple #[mv, .int .i64 (regE A s n)]) ∧ w = w') ∨
  (regE A s n = 0 ∧ ∃ mv', e = .returned (.tuple #[mv', .int .i64 0]) ∧ Chg [] w w' ∧ w'.ownsRow 0 43 2 mv' (A.length + 1) (onesV A ++ [.string s, .int .i64 n]) ∧ ∀ k, mv'.ownBlock = some k → w.heap.size ≤ k)

set_option maxRecDepth 100000 in
set_option maxHeartbeats 4000000 in
theorem refMake_any (mv : Value) (A : List Ent) (s : ByteArray) (n : Int) (w : World) (h : OnesAt w mv A) (hl : A.length ≤ 16) (h0 : s.toList.isEmpty = false) :
    Calls Try.prog 11 #[mv, .string s, .int .i64 n] w (RefMakePost mv A s n w) := by
  obtain ⟨ao, c, rfl⟩ := h.slice
  have HH := Lib.hid h
  obtain ⟨i0, hi, hz0, hz1, hz2⟩ := info_parts infoOne
  clear h
  go_enter Try.func11, Try.ntmps11
  go_wp2_with fail
  go_loop [8] (fun i => ∃ k : Nat, k ≤ A.length ∧ i = .int .i64 k ∧ ∀ j (hj : j < A.length), j < k → A[j].name ≠ s) (fun i => A.length - (intOf i).toNat)
  case atStart => exact ⟨0, Nat.zero_le _, rfl, fun j _ h => by omega⟩
  case round =>
    obtain ⟨k, hk, rfl, hn⟩ := hrel
    have HN := Lib.hid hn
    clear hn
    by_cases hlt : k < A.length
    · obtain ⟨g, c', e, c1, c2⟩ := HH.out.cell hlt
      injection e with e1 e2 e3
      subst e1 e3
      have hbe := bytes_beq A[k].name s
      by_cases hs : A[k].name = s
      · have HF := Lib.hid (find_at hlt HN.out hs)
        rw [decide_eq_true hs] at hbe
        clear hs e2
        go_wp2_with fail
        go_ret2
        have hE : regE A s n = 11 := by unfold regE; rw [hasB_true HF.out]; rfl
        exact .inl ⟨by rw [hE]; decide, by rw [hE]; rfl, rfl⟩
      · rw [decide_eq_false hs] at hbe
        have HS := Lib.hid hs
        clear hs e2
        go_wp2_with fail
        go_round
        case rel =>
          refine ⟨k + 1, by omega, by go_num, fun j hj hjk => ?_⟩
          by_cases hjk2 : j = k
          · subst hjk2; exact HS.out
          · exact HN.out j hj (by omega)
        case measure => simp [intOf]; omega
    · have HF := Lib.hid (find_not (A := A) (s := s) (fun j hj => HN.out j hj (by omega)))
      by_cases h16 : 16 ≤ A.length
      · have h16' : (16 : Int) ≤ (A.length : Int) := by omega
        have HE := Lib.hid (show regE A s n = 4 by unfold regE; rw [hasB_false HF.out]; simp [h16])
        clear h16
        go_wp2_with fail
        go_ret2
        exact .inl ⟨by rw [HE.out]; decide, by rw [HE.out]; rfl, rfl⟩
      · have h16' : ¬ (16 : Int) ≤ (A.length : Int) := by omega
        by_cases hz : n < 1 ∨ 4096 < n
        · have HE := Lib.hid (show regE A s n = 3 by unfold regE; rw [hasB_false HF.out]; simp [h16, hz])
          rcases hz with hz | hz
          all_goals (
            go_wp2_with fail
            go_ret2
            exact .inl ⟨by rw [HE.out]; decide, by rw [HE.out]; rfl, rfl⟩)
        · have HE := Lib.hid (show regE A s n = 0 by unfold regE; rw [hasB_false HF.out]; simp [h16, hz])
          have n1 : ¬ n < 1 := by omega
          have n2 : ¬ 4096 < n := by omega
          have O0 : (w.alloc (.cells #[] 43)).ownsRow w.heap.size 43 2 (.slice (some ⟨w.heap.size, 0, none⟩) 0 0) 0 [] := ⟨rfl, Or.inr ⟨w.heap.size, 0, #[], rfl, Nat.le_refl _, alloc_heap w _, Nat.le_refl _, Nat.zero_le _, rfl, rfl⟩⟩
          have C0 : Chg [] w (w.alloc (.cells #[] 43)) := (Chg.refl _ _).alloc _
          have hnone : ao = none → A.length = 0 ∧ c = 0 := fun e => by
            rcases HH.out.2 with ⟨e1, h1⟩ | ⟨g, cap, cur, e1, _⟩
            · injection e1 with _ _ e4; exact ⟨h1, e4⟩
            · injection e1 with e2; rw [e] at e2; cases e2
          have S1 := Lib.hid (show ∀ ad, ao = some ad → ∀ j u, (onesV A)[j]? = some u → (w.alloc (.cells #[] 43)).cell? (ad.add j) = some u from fun ad e j u hu => by
            rcases HH.out.2 with ⟨e1, h1⟩ | ⟨g, cap, cur, e1, _⟩
            · injection e1 with e2; rw [e] at e2; cases e2
            · injection e1 with e2
              have := World.ownsRow.cells HH.out (g := g) (by rw [e2]; rfl) j u hu
              rw [e] at e2
              injection e2 with e2
              rw [e2]
              exact C0.cell this (by simp))
          have h1c := Lib.hid (show ∀ u ∈ onesV A, u.oneCell' = true from fun u hu => by
            obtain ⟨x, _, hx⟩ := List.mem_flatMap.1 hu
            simp at hx
            rcases hx with rfl | rfl <;> rfl)
          have HNO := Lib.hid hnone
          clear hz h16 hnone
          go_wp2_with (first
            | (refine wpList_append_src rfl (.tmp 37) (.tmp 38) 26 rfl w.heap.size 43 i0 (.agg #[.string ⟨#[]⟩, .int .i64 0]) 2 24 Try.underlying26 hi hz0 hz1 hz2 rfl (by decide) _ 0 [] (by rfl) O0 ao A.length c (onesV A) (by rfl) (onesV_length A) HNO.out S1.out h1c.out (by unfold maxLen; omega) (by omega) C0.size (fun v6 w6 O6 C6 _ => ?_); have D6 : Chg [] w w6 := C0.trans C6 (by simp) (by simp [Value.ownBlock]); have HD6 := Lib.hid D6; have hz6 := D6.size; have O6' := O6.alloc (.cells #[.string s, .int .i64 n] 43); clear D6)
            | (refine wpList_append_own _ rfl (.tmp 39) (.tmp 43) 26 rfl w.heap.size 43 i0 (.agg #[.string ⟨#[]⟩, .int .i64 0]) 2 24 Try.underlying26 hi hz0 hz1 hz2 rfl (by decide) v6 (0 + A.length) _ (by rfl) O6' ⟨w6.heap.size, 0, none⟩ 1 1 [.string s, .int .i64 n] (by rfl) rfl (two_new _ _ _ _) (by simp [Value.oneCell']) (by unfold maxLen; omega) (by omega) (by simp; omega) (fun v7 w7 O7 C7 _ => ?_); have HO7 := Lib.hid O7; have HC7 := Lib.hid C7; clear O7 C7))
          go_ret2
          have hO := HO7.out
          rw [List.nil_append, Nat.zero_add] at hO
          have hC : Chg [] w w7 := (HD6.out.alloc _).trans (show Chg v6.ownBlock.toList _ w7 from ⟨HC7.out.os, HC7.out.tape, HC7.out.output, HC7.out.size, fun k hk hS => HC7.out.block k hk (fun e => hS (by rw [← e]; simp))⟩) (by simp) (fun x hx hl => absurd (owns_block O6 x (by simpa [Option.mem_toList] using hx)) (by omega))
          exact .inr ⟨HE.out, _, rfl, hC, ⟨hO.1, hO.2.imp id (fun ⟨g, cap, cur, e, _, r⟩ => ⟨g, cap, cur, e, Nat.zero_le _, r⟩)⟩, owns_block hO⟩
end Go.Proofs.Ytojabenkhjgafaa
