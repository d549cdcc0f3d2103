import Derived.Test.YtafmnkngjjnpiaaGreatDoorTpV
import Derived.Test.YtafmnkngjjnpiaaGreatDoorAreE
import Derived.Deep.RegionHeld3
namespace Go.Proofs.YtafmnkngjjnpiaaGreatDoor
set_option linter.unusedVariables false
set_option linter.unusedSimpArgs false
set_option maxRecDepth 100000
open Go.RowKit
structure BufIs (w : World) (bE bA bC N : Nat) (b : Bf) : Prop where
  hE : w.heap[bE]? = some (.cells #[.pointer (some ⟨bA, 0, none⟩), .int .i64 (b.at' : Nat)] 105 (0, 0))
  ar : Ar.ArenaIs w bA bC N b.l
  nA : bE ≠ bA
  nC : bE ≠ bC
  by' : ByR b.l
  le : b.at' ≤ b.l.length
  f0 : firstB b.l 0 = true
  fp : firstB b.l b.at' = true
theorem BufIs.chg {w w' : World} {bE bA bC N : Nat} {b : Bf} {S : List Nat} (h : BufIs w bE bA bC N b) (c : Chg S w w') (h1 : bE ∉ S) (h2 : bA ∉ S) (h3 : bC ∉ S) : BufIs w' bE bA bC N b :=
  ⟨c.heap h.hE h1, h.ar.chg c h2 h3, h.nA, h.nC, h.by', h.le, h.f0, h.fp⟩
theorem BufIs.chg0 {w w' : World} {bE bA bC N : Nat} {b : Bf} (h : BufIs w bE bA bC N b) (c : Chg [] w w') : BufIs w' bE bA bC N b := h.chg c (by simp) (by simp) (by simp)
theorem BufIs.c0 {w : World} {bE bA bC N : Nat} {b : Bf} (h : BufIs w bE bA bC N b) : w.cell? ⟨bE, 0, none⟩ = some (.pointer (some ⟨bA, 0, none⟩)) := by rw [cell_of_heap h.hE]; rfl
theorem BufIs.c1 {w : World} {bE bA bC N : Nat} {b : Bf} (h : BufIs w bE bA bC N b) : w.cell? ⟨bE, 1, none⟩ = some (.int .i64 (b.at' : Nat)) := by rw [cell_of_heap h.hE]; rfl
def BNewPost (bA bC N : Nat) (w : World) (e : Ending) (w' : World) : Prop :=
  ∃ bE, e = .returned (.tuple #[.pointer (some ⟨bE, 0, none⟩), .int .i64 0]) ∧ w.heap.size ≤ bE ∧ Chg [bA, bC] w w' ∧ BufIs w' bE bA bC N ⟨[], 0⟩
theorem bufNew_any (bA bC N : Nat) (l : List Int) (w : World) (h : Ar.ArenaIs w bA bC N l) :
    Calls Tryz.prog 9 #[.pointer (some ⟨bA, 0, none⟩)] w (BNewPost bA bC N w) := by
  have HH := Lib.hid h
  clear h
  go_enter Tryz.func9, Tryz.ntmps9
  go_wp2_with fail
  refine (Ar.wipe_any bA bC N l w HH.out).mono ?_
  rintro e w2 ⟨rfl, C2, A2⟩
  have HE := Lib.hid (And.intro C2 A2)
  clear C2 A2
  go_wp2_with fail
  go_ret2
  have lA := heap_lt HE.out.2.hA
  have lC := heap_lt HE.out.2.hC
  exact ⟨w2.heap.size, rfl, HE.out.1.size, HE.out.1.alloc _, ⟨alloc_heap w2 _, HE.out.2.chg ((Chg.refl [] w2).alloc _) (by simp) (by simp), by omega, by omega, (by intro x hx; cases hx), Nat.le_refl _, rfl, rfl⟩⟩
theorem high_bits (c : Nat) (h : c < 256) : bits BinOp.and IntKind.u8 (c : Int) 192 = ((c / 64 * 64 : Nat) : Int) := by
  have : ∀ k : Fin 256, bits BinOp.and IntKind.u8 ((k.val : Nat) : Int) 192 = ((k.val / 64 * 64 : Nat) : Int) := by decide +kernel
  exact this ⟨c, h⟩
set_option maxHeartbeats 4000000 in
theorem first_any (bE bA bC N : Nat) (b : Bf) (i : Nat) (w : World) (h : BufIs w bE bA bC N b) :
    Calls Tryz.prog 120 #[.pointer (some ⟨bE, 0, none⟩), .int .i64 (i : Nat)] w fun e w' => e = .returned (.bool (firstB b.l i)) ∧ w = w' := by
  have x0 := h.c0
  have hat := Ar.at_any bA bC N b.l i w h.ar
  by_cases hi : i < b.l.length
  · have hE : Ar.atE b.l.length i = 0 := by unfold Ar.atE; rw [if_neg (by omega)]
    have hR : Ar.atR b.l i = (byN b.l i : Nat) := by
      unfold Ar.atR Ar.cellV
      rw [if_neg (by omega)]
      exact (h.by'.byte i).1
    rw [hE, hR] at hat
    have hv : firstB b.l i = decide (byN b.l i / 64 ≠ 2) := by
      unfold firstB
      rw [if_pos hi, (h.by'.byte i).1]
      congr 1
      apply propext
      omega
    rw [hv]
    have hb := (h.by'.byte i).2
    have hbit := high_bits (byN b.l i) hb
    have hc : ((((byN b.l i / 64 * 64 : Nat) : Int) != 128)) = decide (byN b.l i / 64 ≠ 2) := by
      by_cases h2 : byN b.l i / 64 = 2
      · rw [h2]; rfl
      · rw [decide_eq_true h2, bne_iff_ne]; omega
    generalize decide (byN b.l i / 64 ≠ 2) = r at *
    generalize (byN b.l i / 64 * 64 : Nat) = m at *
    have HA := Lib.hid hat
    clear h hat hv hE hR
    go_enter Tryz.func120, Tryz.ntmps120
    go_wp2_with fail
    refine (HA.out).mono ?_
    rintro e w1 ⟨rfl, rfl⟩
    go_wp2_with fail
    go_ret
    exact ⟨rfl, rfl⟩
  · have hE : Ar.atE b.l.length i = 3 := by unfold Ar.atE; rw [if_pos (by omega)]
    rw [hE] at hat
    have hv : firstB b.l i = true := by unfold firstB; rw [if_neg hi]
    rw [hv]
    have HA := Lib.hid hat
    clear h hat hv hE
    go_enter Tryz.func120, Tryz.ntmps120
    go_wp2_with fail
    refine (HA.out).mono ?_
    rintro e w1 ⟨rfl, rfl⟩
    go_wp2_with fail
    go_ret
    exact ⟨rfl, rfl⟩
theorem upB_stop {l : List Int} {f k : Nat} (h : firstB l k = true) : upB l f k = k := by
  cases f with
  | zero => rfl
  | succ f => rw [upB, if_pos h]
theorem upB_step {l : List Int} {f k : Nat} (h : firstB l k = false) : upB l (f + 1) k = upB l f (k + 1) := by rw [upB, if_neg (by rw [h]; decide)]
theorem firstB_end {l : List Int} {k : Nat} (h : l.length ≤ k) : firstB l k = true := by unfold firstB; rw [if_neg (by omega)]
set_option maxHeartbeats 4000000 in
theorem ahead_any (bE bA bC N : Nat) (b : Bf) (w : World) (h : BufIs w bE bA bC N b) :
    Calls Tryz.prog 100 #[.pointer (some ⟨bE, 0, none⟩)] w fun e w' => e = .returned (.int .i64 (aheadB b : Nat)) ∧ w = w' := by
  have x1 := h.c1
  have HH := Lib.hid h
  have hle := h.le
  have hm := h.ar.most
  have hal := h.ar.le
  have HF := Lib.hid (fun i => first_any bE bA bC N b i w h)
  obtain ⟨R, hR⟩ : ∃ R, R = aheadB b := ⟨_, rfl⟩
  rw [← hR]
  obtain ⟨j, hj⟩ : ∃ j, j = b.at' - 1 := ⟨_, rfl⟩
  have hR2 : downB b.l j = R := by rw [hR, hj]; rfl
  have HR := Lib.hid hR2
  have hcs : b.at' = 0 ∧ j = 0 ∨ ∃ m, b.at' = m + 1 ∧ j = m := by
    rcases Nat.eq_zero_or_pos b.at' with h0 | h0
    · exact .inl ⟨h0, by omega⟩
    · exact .inr ⟨b.at' - 1, by omega, by omega⟩
  clear h hR hR2 hj
  generalize b.at' = q at *
  rcases hcs with ⟨rfl, rfl⟩ | ⟨m, rfl, rfl⟩
  all_goals (
    go_enter Tryz.func100, Tryz.ntmps100
    go_wp2_with fail
    go_loopw [3] (fun iv wr => ∃ k : Nat, iv = .int .i64 k ∧ w = wr ∧ downB b.l k = R ∧ k ≤ 5000) (fun iv _ => (intOf iv).toNat)
    case atStart => exact ⟨_, (by first | rfl | go_num), (by first | trivial | rfl), HR.out, by omega⟩
    case round =>
      obtain ⟨k, rfl, rfl, hk, hk5⟩ := hrel
      have HK := Lib.hid hk
      clear hk
      have HF2 := Lib.hid (HF.out k)
      rcases hf : firstB b.l k with _ | _
      · cases k with
        | zero => rw [HH.out.f0] at hf; cases hf
        | succ k =>
          have hk2 := HK.out
          rw [downB, if_neg (by rw [hf]; decide)] at hk2
          have HK2 := Lib.hid hk2
          rw [hf] at HF2
          clear hk2 hf
          go_wp2_with fail
          refine (HF2.out).mono ?_
          rintro e w1 ⟨rfl, rfl⟩
          go_wp2_with fail
          go_roundw
          case rel => exact ⟨k, by go_num, (by first | trivial | rfl), HK2.out, by omega⟩
          case measure => simp [intOf]
      · have hR : R = k := by
          rw [← HK.out]
          cases k with
          | zero => rfl
          | succ k => rw [downB, if_pos hf]
        subst hR
        rw [hf] at HF2
        clear hf
        go_wp2_with fail
        refine (HF2.out).mono ?_
        rintro e w1 ⟨rfl, rfl⟩
        go_wp2_with fail
        go_ret
        exact ⟨rfl, rfl⟩)
set_option maxHeartbeats 4000000 in
theorem behind_any (bE bA bC N : Nat) (b : Bf) (w : World) (h : BufIs w bE bA bC N b) :
    Calls Tryz.prog 101 #[.pointer (some ⟨bE, 0, none⟩)] w fun e w' => e = .returned (.int .i64 (behindB b : Nat)) ∧ Chg [] w w' := by
  have x0 := h.c0
  have x1 := h.c1
  have HH := Lib.hid h
  have hle := h.le
  have hm := h.ar.most
  have hal := h.ar.le
  obtain ⟨R, hR⟩ : ∃ R, R = behindB b := ⟨_, rfl⟩
  rw [← hR]
  obtain ⟨j, hj⟩ : ∃ j, j = min b.l.length (b.at' + 1) := ⟨_, rfl⟩
  have hR2 : upB b.l b.l.length j = R := by rw [hR, hj]; rfl
  have HR := Lib.hid hR2
  have hjl : j ≤ b.l.length := by omega
  have HLN := Lib.hid (fun (W : World) (C : Chg [] w W) => Ar.len_any bA bC N b.l W (h.chg0 C).ar)
  obtain ⟨n, hn⟩ : ∃ n, n = b.l.length := ⟨_, rfl⟩
  rw [← hn] at HLN HR hjl hle hal
  have hmin : min (n : Int) ((b.at' : Int) + 1) = (j : Int) := by rw [hn, hj]; omega
  have HN := Lib.hid hn
  have HJ := Lib.hid hmin
  clear h hR hR2 hj hn
  generalize b.at' = q at *
  have e1 : IntKind.i64.wrap ((q : Int) + 1) = (q : Int) + 1 := IntWalk.i64_in _ (by omega)
  go_enter Tryz.func101, Tryz.ntmps101
  go_wp2_with fail
  go_region_held3 (fun w' => w'.cell? ⟨bE, 0, none⟩ = some (.pointer (some ⟨bA, 0, none⟩)) ∧ w'.cell? ⟨bE, 1, none⟩ = some (.int .i64 (q : Nat))) (go_keep)
    (first | (go_at_call 41; refine Calls.mono (HLN.out _ (by first | exact (Chg.refl [] w).drew | exact Chg.refl [] w)) ?_; rintro e w2 ⟨rfl, rfl⟩))
  all_goals (
    clear e1 hmin x0 x1
    have HF := Lib.hid (fun i W (C : Chg [] w W) => first_any bE bA bC N b i W (HH.out.chg0 C))
    go_wp2_with fail
    go_loopw [3] (fun iv wr => ∃ k f : Nat, iv = .int .i64 k ∧ Chg [] w wr ∧ upB b.l f k = R ∧ k ≤ n ∧ n ≤ k + f) (fun iv _ => n - (intOf iv).toNat)
    case atStart => exact ⟨j, n, rfl, (Chg.refl [] w).drew, HR.out, hjl, by omega⟩
    case round =>
      obtain ⟨k, f, rfl, hC, hk, k1, k2⟩ := hrel
      have HK := Lib.hid hk
      have HC := Lib.hid hC
      have HF2 := Lib.hid (HF.out k _ hC)
      clear hk hC
      rcases hf : firstB b.l k with _ | _
      · have hkn : k < n := by
          rcases Nat.lt_or_ge k n with h1 | h1
          · exact h1
          · rw [firstB_end (by rw [← HN.out]; exact h1)] at hf; cases hf
        obtain ⟨f', rfl⟩ : ∃ f', f = f' + 1 := ⟨f - 1, by omega⟩
        have hk2 := HK.out
        rw [upB_step hf] at hk2
        have HK2 := Lib.hid hk2
        rw [hf] at HF2
        clear hk2 hf
        go_wp2_with fail
        refine (HF2.out).mono ?_
        rintro e w1 ⟨rfl, rfl⟩
        go_wp2_with fail
        go_roundw
        case rel => exact ⟨k + 1, f', by go_num, HC.out, HK2.out, by omega, by omega⟩
        case measure => simp [intOf]; omega
      · have hR : R = k := by rw [← HK.out]; exact upB_stop hf
        subst hR
        rw [hf] at HF2
        clear hf
        go_wp2_with fail
        refine (HF2.out).mono ?_
        rintro e w1 ⟨rfl, rfl⟩
        go_wp2_with fail
        go_ret
        exact ⟨rfl, HC.out⟩)
end Go.Proofs.YtafmnkngjjnpiaaGreatDoor
