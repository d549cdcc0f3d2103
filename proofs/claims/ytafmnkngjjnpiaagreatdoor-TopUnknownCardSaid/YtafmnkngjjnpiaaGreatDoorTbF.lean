import Derived.Test.YtafmnkngjjnpiaaGreatDoorTbA
namespace Go.Proofs.YtafmnkngjjnpiaaGreatDoor
set_option linter.unusedVariables false
set_option linter.unusedSimpArgs false
set_option maxRecDepth 100000
open Go.RowKit
theorem charsB_le (l : List Int) : ∀ n, charsB l n ≤ n := by
  intro n
  induction n with
  | zero => exact Nat.le_refl _
  | succ n ih => rw [charsB]; split <;> omega
theorem charsB_mono (l : List Int) {m n : Nat} (h : m ≤ n) : charsB l m ≤ charsB l n := by
  induction n with
  | zero => rw [show m = 0 by omega]; exact Nat.le_refl _
  | succ n ih =>
    rcases Nat.lt_or_ge n m with h1 | h1
    · rw [show m = n + 1 by omega]; exact Nat.le_refl _
    · have := ih h1; rw [charsB]; omega
set_option maxHeartbeats 4000000 in
theorem chars_buf (bE bA bC N : Nat) (b : Bf) (to : Nat) (w : World) (h : BufIs w bE bA bC N b) (hto : to ≤ 100000) :
    Calls Tryz.prog 193 #[.pointer (some ⟨bE, 0, none⟩), .int .i64 (to : Nat)] w fun e w' => e = .returned (.int .i64 (charsB b.l to : Nat)) ∧ w = w' := by
  have HF := Lib.hid (fun i => first_any bE bA bC N b i w h)
  obtain ⟨R, hR⟩ : ∃ R, R = charsB b.l to := ⟨_, rfl⟩
  rw [← hR]
  have HR := Lib.hid hR
  clear h hR
  go_enter Tryz.func193, Tryz.ntmps193
  go_wp2_with fail
  go_loopw [5, 8] (fun nv iv wr => ∃ i n : Nat, nv = .int .i64 n ∧ iv = .int .i64 i ∧ n = charsB b.l i ∧ i ≤ to ∧ n ≤ i ∧ wr = w) (fun _ iv _ => to - (intOf iv).toNat)
  case atStart => exact ⟨0, 0, rfl, rfl, rfl, Nat.zero_le _, Nat.le_refl _, (by first | trivial | rfl)⟩
  case round =>
    obtain ⟨i, n, rfl, rfl, hn, hi, hni, rfl⟩ := hrel
    have HN := Lib.hid hn
    clear hn
    by_cases hlt : i < to
    · have d1 : decide ((i : Int) < to) = true := decide_eq_true (by omega)
      have HF2 := Lib.hid (HF.out i)
      have hs : charsB b.l (i + 1) = n + (if firstB b.l i = true then 1 else 0) := by rw [charsB, HN.out]
      rcases hf : firstB b.l i with _ | _
      · rw [hf] at HF2 hs
        have HS := Lib.hid hs
        clear hs hf
        go_wp2_with fail
        refine (HF2.out).mono ?_
        rintro e w2 ⟨rfl, rfl⟩
        go_wp2_with fail
        go_roundw
        case rel => exact ⟨i + 1, n, rfl, by go_num, by rw [HS.out]; rfl, by omega, by omega, (by first | trivial | rfl)⟩
        case measure => simp [intOf]; omega
      · rw [hf] at HF2 hs
        have HS := Lib.hid hs
        clear hs hf
        go_wp2_with fail
        refine (HF2.out).mono ?_
        rintro e w2 ⟨rfl, rfl⟩
        go_wp2_with fail
        go_roundw
        case rel => exact ⟨i + 1, n + 1, by go_num, by go_num, by rw [HS.out]; rfl, by omega, by omega, (by first | trivial | rfl)⟩
        case measure => simp [intOf]; omega
    · have hit : i = to := by omega
      have hRn : R = n := by rw [HR.out, HN.out, hit]
      have d1 : decide ((i : Int) < to) = false := decide_eq_false (by omega)
      subst hRn
      clear hit
      go_wp2_with fail
      go_ret
      exact ⟨rfl, rfl⟩
theorem count_buf (bE bA bC N : Nat) (b : Bf) (w : World) (h : BufIs w bE bA bC N b) :
    Calls Tryz.prog 177 #[.pointer (some ⟨bE, 0, none⟩)] w fun e w' => e = .returned (.int .i64 (charsB b.l b.l.length : Nat)) ∧ w = w' := by
  have x0 := h.c0
  have HL := Lib.hid (Ar.len_any bA bC N b.l w h.ar)
  have HC := Lib.hid (chars_buf bE bA bC N b b.l.length w h (by have := h.ar.le; have := h.ar.most; omega))
  clear h
  go_enter Tryz.func177, Tryz.ntmps177
  go_wp2_with fail
  refine (HL.out).mono ?_
  rintro e w2 ⟨rfl, rfl⟩
  go_wp2_with fail
  refine (HC.out).mono ?_
  rintro e w2 ⟨rfl, rfl⟩
  go_wp2_with fail
  go_ret
  exact ⟨rfl, rfl⟩
theorem at_buf (bE bA bC N : Nat) (b : Bf) (w : World) (h : BufIs w bE bA bC N b) :
    Calls Tryz.prog 178 #[.pointer (some ⟨bE, 0, none⟩)] w fun e w' => e = .returned (.int .i64 (charsB b.l b.at' : Nat)) ∧ w = w' := by
  have x1 := h.c1
  have HC := Lib.hid (chars_buf bE bA bC N b b.at' w h (by have := h.le; have := h.ar.le; have := h.ar.most; omega))
  clear h
  go_enter Tryz.func178, Tryz.ntmps178
  go_wp2_with fail
  refine (HC.out).mono ?_
  rintro e w2 ⟨rfl, rfl⟩
  go_wp2_with fail
  go_ret
  exact ⟨rfl, rfl⟩
theorem len_buf (bE bA bC N : Nat) (b : Bf) (w : World) (h : BufIs w bE bA bC N b) :
    Calls Tryz.prog 141 #[.pointer (some ⟨bE, 0, none⟩)] w fun e w' => e = .returned (.int .i64 (b.l.length : Nat)) ∧ w = w' := by
  have x0 := h.c0
  have HL := Lib.hid (Ar.len_any bA bC N b.l w h.ar)
  clear h
  go_enter Tryz.func141, Tryz.ntmps141
  go_wp2_with fail
  refine (HL.out).mono ?_
  rintro e w2 ⟨rfl, rfl⟩
  go_wp2_with fail
  go_ret
  exact ⟨rfl, rfl⟩
theorem copy_buf (bE bA bC N : Nat) (b : Bf) (g n c : Nat) (cur : List Value) (t : TypeId) (w : World) (h : BufIs w bE bA bC N b) (hg : w.heap[g]? = some (.cells cur.toArray t (0, 0))) (hn : n ≤ cur.length) :
    Calls Tryz.prog 142 #[.pointer (some ⟨bE, 0, none⟩), .slice (some ⟨g, 0, none⟩) n c] w fun e w' => e = .returned (.int .i64 (min b.l.length n : Nat)) ∧ Chg [g] w w' ∧ w'.heap[g]? = some (.cells (splice cur 0 ((b.l.take n).map (Value.int .u8))).toArray t (0, 0)) := by
  have x0 := h.c0
  have HL := Lib.hid (Ar.copy_any bA bC N b.l g 0 n c cur t w h.ar hg (by omega))
  generalize min b.l.length n = m at *
  clear h hg
  go_enter Tryz.func142, Tryz.ntmps142
  go_wp2_with fail
  refine (HL.out).mono ?_
  rintro e w2 ⟨rfl, C2, H2⟩
  have HE := Lib.hid (And.intro C2 H2)
  clear C2 H2
  go_wp2_with fail
  go_ret
  exact ⟨rfl, HE.out⟩
end Go.Proofs.YtafmnkngjjnpiaaGreatDoor
