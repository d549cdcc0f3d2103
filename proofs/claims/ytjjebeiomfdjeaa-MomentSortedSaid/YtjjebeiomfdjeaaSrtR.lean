/-
  The reference's Sort: insertion into a new row.
-/
import Derived.Test.YtjjebeiomfdjeaaSrtC
import Derived.Test.YtjjebeiomfdjeaaRefK
namespace Go.Proofs.Ytjjebeiomfdjeaa
set_option linter.unusedVariables false
open Go.RowKit

attribute [local go_sem] run_store_float'

theorem src_any {w : World} {base : Nat} {e : TypeId} {v : Value} {n : Nat} {xs : List Value} (h : w.ownsRow base e 1 v n xs) :
    ∃ ao c, v = .slice ao n c ∧ (ao = none → n = 0 ∧ c = 0) ∧ ∀ ad, ao = some ad → ∀ j u, xs[j]? = some u → w.cell? (ad.add j) = some u := by
  rcases owns_src h with ⟨rfl, rfl⟩ | ⟨g, c, rfl, _, _, _, hc⟩
  · exact ⟨none, 0, rfl, fun _ => ⟨rfl, rfl⟩, fun ad e => by cases e⟩
  · exact ⟨_, c, rfl, fun e => by (cases e), fun ad e => by injection e with e; subst e; exact hc⟩

set_option maxRecDepth 100000 in
set_option maxHeartbeats 8000000 in
theorem refSort_any (nv : Value) (ws : List Nat) (w : World) (h : w.ownsRow 0 23 1 nv ws.length (fwords ws)) (hn : ws.length ≤ 1000000) (hW : ∀ x ∈ ws, Wd x) :
    Calls Try.prog 21 #[nv] w (FSortRes w ws) := by
  obtain ⟨i0, hi, hz0, hz1, hz2⟩ := info_parts infoF
  have HI := Lib.hid (tagged_in ws hW hn)
  obtain ⟨ao, c0, rfl, hno, hsrc⟩ := src_any h
  have O0 : (w.alloc (.cells #[] 23)).ownsRow w.heap.size 23 1 (.slice (some ⟨w.heap.size, 0, none⟩) 0 0) 0 [] := owns_empty w w.heap.size 23 (Nat.le_refl _)
  have C0 : Chg [] w (w.alloc (.cells #[] 23)) := (Chg.refl _ _).alloc _
  have S1 := Lib.hid (show ∀ ad, ao = some ad → ∀ j u, (fwords ws)[j]? = some u → (w.alloc (.cells #[] 23)).cell? (ad.add j) = some u from fun ad e j u hu => C0.cell (hsrc ad e j u hu) (by simp))
  have hl := Lib.hid (show (fwords ws).length = ws.length * 1 by simp [fwords])
  have HNO := Lib.hid hno
  clear h hsrc hW hno
  go_enter Try.func21, Try.ntmps21
  go_wp2_with (refine wpList_append_src rfl (.tmp 7) (.tmp 8) 35 rfl w.heap.size 23 i0 (.float .f64 0) 1 8 Try.underlying35 hi hz0 hz1 hz2 rfl (by decide) _ 0 [] (by rfl) O0 ao ws.length c0 (fwords ws) (by rfl) hl.out HNO.out S1.out (oneCell_f ws) (by unfold maxLen; omega) (by omega) C0.size (fun v6 w6 O6 C6 N6 => ?_); have D6 : Chg [] w w6 := C0.trans C6 (by simp) (by simp [Value.ownBlock]); rw [List.nil_append, Nat.zero_add] at O6; have H6 := Lib.hid O6; have HN6 := Lib.hid (N6 (by simp)); clear O6 N6 C6)
  obtain ⟨g, c, rfl, hb, k1, k2, hc⟩ : ∃ g c, v6 = .slice (some ⟨g, 0, none⟩) ws.length c ∧ w.heap.size ≤ g ∧ ws.length ≤ c ∧ c ≤ maxLen ∧ True := by
    rcases owns_src H6.out with ⟨e, h0⟩ | ⟨g, c, rfl, hb, k1, k2, hc⟩
    · exact absurd e HN6.out
    · exact ⟨g, c, rfl, hb, k1, k2, trivial⟩
  have O6 := H6.out
  rw [← tagged_cells] at O6
  obtain ⟨R, F1, hl1, hb2, k3, k4, k5⟩ := owns_flrow O6
  have HX := Lib.hid (And.intro hl1 (And.intro hb2 (And.intro k3 (And.intro k4 k5))))
  have HF1 := Lib.hid F1
  have HD := Lib.hid D6
  clear O6 hc k2 k4 k5 hl1 k3 k1 H6 HN6 S1 hl HNO hb2 F1 D6 C0 O0
  obtain ⟨n, hnn⟩ : ∃ n, n = ws.length := ⟨_, rfl⟩
  rw [← hnn] at HX HI hn ⊢
  have HNN := Lib.hid hnn
  clear hnn
  obtain ⟨l, hl⟩ : ∃ l, l = tagged ws := ⟨_, rfl⟩
  rw [← hl] at HX HI HF1
  have HL := Lib.hid hl
  clear hl
  go_wp2_with fail
  go_loopw [4] (fun iv wr => ∃ (i : Nat) (l1 : List Tag), iv = .int .i64 i ∧ 0 < i ∧ (i ≤ n ∨ (n = 0 ∧ i = 1 ∧ l1 = l)) ∧ Mv default l l1 0 i ∧ Hid (Asc default oT l1 0 i) ∧ FlRow wr g l1 R ∧ Chg [g] w6 wr) (fun iv _ => n + 1 - (intOf iv).toNat)
  case atStart =>
    refine ⟨1, l, rfl, by omega, (Nat.lt_or_ge 0 n).elim (fun h => .inl h) (fun h => .inr ⟨by omega, rfl, rfl⟩), Mv.refl _ _ _, Lib.hid (Asc.small (by omega)), HF1.out, Chg.refl _ _⟩
  case round =>
    obtain ⟨i, l1, rfl, hai, hib, hmv, has, hf, hc⟩ := hrel
    by_cases hlt : i < n
    · have hl1 := Lib.hid (hmv.len.trans HX.out.1)
      have hA1 := Lib.hid (hmv.apart HI.out.hA)
      have hW1 := Lib.hid (HI.out.hW.mv hmv)
      have hS1 := Lib.hid (show ∀ t, t < i → (keyF (l1.getD i default).1 < keyF (l1.getD t default).1 ↔ oT (l1.getD i default) < oT (l1.getD t default)) from fun t t2 => by
        obtain ⟨t', e1, e2, e3⟩ := hmv.from_ t (Nat.zero_le _) t2
        rw [hmv.out i (.inr (Nat.le_refl _)), e3]
        have := HI.out.hF t' i e2 hlt
        unfold ltT at this
        simpa using this)
      have HM := Lib.hid hmv
      clear hmv hib
      obtain ⟨wo, hwo⟩ : ∃ wo : World, wo = wr := ⟨_, rfl⟩
      rw [← hwo] at hf hc ⊢
      clear hwo
      go_wp2_with fail
      go_loopw [5] (fun jv wr => ∃ (j : Nat) (l2 : List Tag), jv = .int .i64 j ∧ j ≤ i ∧ Ins default oT l1 l2 i j ∧ FlRow wr g l2 R ∧ Chg [g] w6 wr) (fun jv _ => (intOf jv).toNat)
      case atStart => exact ⟨i, l1, rfl, Nat.le_refl _, Ins.start l1 i, hf, hc⟩
      case round =>
        obtain ⟨j, l2, rfl, hji, hI, hf, hc⟩ := hrel
        have hl2 := Lib.hid (hI.sh.mv.len.trans hl1.out)
        cases j with
        | zero =>
          have HDN := Lib.hid (hI.done (a := 0) (by rw [hl1.out]; omega) hA1.out (Nat.zero_le _) hji has.out (.inl rfl))
          clear hI
          go_wp2_with fail
          go_quiet (fail)
          go_wp2_with fail
          go_roundw
          case rel => exact ⟨i + 1, l2, by go_num, by omega, .inl hlt, (HM.out.trans HDN.out.mv (Nat.le_refl _) (by omega) (Nat.le_refl _) (Nat.le_refl _)), Lib.hid HDN.out.asc, hf, hc.drewN _⟩
          case measure => simp [intOf]; omega
        | succ j =>
          obtain ⟨t1, t2⟩ := hI.at_ hji (by omega)
          rw [Nat.add_sub_cancel] at t2
          have c1 := hf.cell (k := j + 1) (by rw [hl2.out]; omega)
          have c2 := hf.cell (k := j) (by rw [hl2.out]; omega)
          have f1 := hf.free (j + 1)
          have f2 := hf.free j
          have wx := (hW1.out.at_ (k := i) (by rw [hl1.out]; omega))
          have wy := (hW1.out.at_ (k := j) (by rw [hl1.out]; omega))
          rw [t1] at c1
          rw [t2] at c2
          have hFS := Lib.hid (hf.swap (i := j + 1) (j := j) (by rw [hl2.out]; omega) (by rw [hl2.out]; omega) _ _ (by rw [t1]) (by rw [t2]))
          have hs := hS1.out j (by omega)
          have HI' := Lib.hid hI
          clear t1 t2 hI
          have i1 : (j : Int) + 1 < (n : Int) := by omega
          have i2 : (j : Int) < (n : Int) := by omega
          have i4 : (0 : Int) < (j : Int) + 1 := by omega
          by_cases hk : keyF (l1.getD i default).1 < keyF (l1.getD j default).1
          · have hcmp := cmp_lt hk
            have HST := Lib.hid (HI'.out.step (by rw [hl1.out]; omega) hji (by omega) (by rw [Nat.add_sub_cancel]; exact hs.1 hk))
            clear hs hk
            generalize (l1.getD i default).1 = x at *
            generalize (l1.getD j default).1 = y at *
            go_wp2_with fail
            go_quiet ((go_at_call 17; exact quiet_same (refcompare_any _ _ _ wx wy)))
            generalize hwq : wr.drewN _ = wq
            have cq : Chg [] wr wq := by rw [← hwq]; exact (Chg.refl _ _).drewN _
            replace c1 := cq.cell c1 (by simp)
            replace c2 := cq.cell c2 (by simp)
            replace f1 : wq.frozen? ⟨g, j + 1, none⟩ = false := by rw [← hwq]; exact f1
            replace f2 : wq.frozen? ⟨g, j, none⟩ = false := by rw [← hwq]; exact f2
            replace hFS : Hid (FlRow ((wq.setCell ⟨g, j + 1, none⟩ (.float .f64 y)).setCell ⟨g, j, none⟩ (.float .f64 x)) g (sw default l2 (j + 1) j) R) := by rw [← hwq]; exact hFS
            have HC := Lib.hid (hc.trans cq (fun y hy => hy) (by simp))
            clear hwq cq hf hc
            go_wp2_with fail
            go_roundw
            case rel => exact ⟨j, _, rfl, by omega, by have := HST.out; rw [Nat.add_sub_cancel] at this; exact this, hFS.out, HC.out.trans (swap_chg _ _ _ _ _ _) (fun y hy => hy) (fun y hy _ => hy)⟩
            case measure => simp [intOf]
          · have hcmp := cmp_ge hk
            have HDN := Lib.hid (HI'.out.done (a := 0) (by rw [hl1.out]; omega) hA1.out (Nat.zero_le _) hji has.out (.inr (fun h => hk (hs.2 (by rw [Nat.add_sub_cancel] at h; exact h)))))
            clear hs hk
            generalize (l1.getD i default).1 = x at *
            generalize (l1.getD j default).1 = y at *
            go_wp2_with fail
            go_quiet ((go_at_call 17; exact quiet_same (refcompare_any _ _ _ wx wy)))
            go_wp2_with fail
            go_roundw
            case rel => exact ⟨i + 1, l2, by go_num, by omega, .inl hlt, (HM.out.trans HDN.out.mv (Nat.le_refl _) (by omega) (Nat.le_refl _) (Nat.le_refl _)), Lib.hid HDN.out.asc, hf, hc.drewN _⟩
            case measure => simp [intOf]; omega
    · have HE : Hid (Srt default oT l l1 0 n) := Lib.hid (by
        rcases hib with h | ⟨h, h', rfl⟩
        · obtain rfl : i = n := by omega
          exact ⟨hmv, has.out⟩
        · exact Srt.nothing (Asc.small (by omega)))
      clear hib hmv
      go_wp2_with fail
      go_ret
      obtain ⟨x1, x2, x3, x4, x5⟩ := HX.out
      refine ⟨_, l1.map (·.1), rfl, HD.out.trans hc (by simp) (fun y hy hlt => by have := List.mem_singleton.1 hy; omega), ⟨l1, by rw [← HL.out, ← HNN.out]; exact HE.out, rfl⟩, ?_⟩
      rw [← fwords_of, ← HNN.out]
      exact flrow_owns hf (HE.out.mv.len.trans x1) x2 x3 x4 (by rw [← x5]; simp [HE.out.mv.len])
end Go.Proofs.Ytjjebeiomfdjeaa
