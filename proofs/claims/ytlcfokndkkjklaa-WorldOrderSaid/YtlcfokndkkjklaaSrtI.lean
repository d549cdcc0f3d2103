/-
  Insertion into a part of a row: the contract of insertionSort with moment.Compare.
-/
import Derived.Test.YtlcfokndkkjklaaSrtF
namespace Go.Proofs.Ytlcfokndkkjklaa
set_option linter.unusedVariables false
open Go.RowKit

attribute [local go_sem] run_store_float'

def SortPost (g : Nat) (l : List Tag) (R : List Value) (a b : Nat) (w : World) (e : Ending) (w' : World) : Prop :=
  e = .returned (.tuple #[]) ∧ Chg [g] w w' ∧ ∃ l', Srt default oT l l' a b ∧ FlRow w' g l' R

/-- moment.Compare as a value. -/
abbrev cmpV : Value := .func (.func 26) #[] #[]

def AllW (l : List Tag) : Prop := ∀ x ∈ l, Wd x.1

theorem getD_memT {l : List Tag} {k : Nat} (h : k < l.length) : l.getD k default ∈ l := by
  rw [List.getD_eq_getElem?_getD, List.getElem?_eq_getElem h]; exact List.getElem_mem h

theorem AllW.at_ {l : List Tag} (h : AllW l) {k : Nat} (hk : k < l.length) : Wd (l.getD k default).1 := h _ (getD_memT hk)
theorem AllW.mv {l l' : List Tag} {a b : Nat} (h : AllW l) (m : Mv default l l' a b) : AllW l' := fun x hx => h x ((m.perm.mem_iff).1 hx)

theorem cmp_lt {a b : Nat} (h : keyF a < keyF b) : cmpF a b = -1 := by unfold cmpF cmpN; rw [if_pos h]
theorem cmp_ge {a b : Nat} (h : ¬ keyF a < keyF b) : decide (cmpF a b < (0 : Int)) = false := by
  unfold cmpF cmpN
  rw [if_neg h]
  split <;> rfl

/-- The test by words is the test by the order. -/
def ltT (x y : Tag) : Bool := decide (keyF x.1 < keyF y.1)

set_option maxRecDepth 100000 in
set_option maxHeartbeats 4000000 in
theorem insSort_any (g n c : Nat) (l : List Tag) (R : List Value) (a b : Nat) (w : World) (h : FlRow w g l R) (hn : l.length = n) (hab : a ≤ b) (hb : b ≤ n) (hm : n ≤ 1000000) (hW : AllW l) (hA : Apart default oT l)
    (hF : ∀ i j, a ≤ i → i < j → j < b → (ltT (l.getD j default) (l.getD i default) = true ↔ oT (l.getD j default) < oT (l.getD i default))) :
    Calls Try.prog 53 #[.slice (some ⟨g, 0, none⟩) n c, .int .i64 a, .int .i64 b, cmpV] w (SortPost g l R a b w) := by
  have HH := Lib.hid h
  have HN := Lib.hid hn
  have HW := Lib.hid hW
  have HA := Lib.hid hA
  have HF := Lib.hid hF
  clear h hn hW hA hF
  go_enter Try.func53, Try.ntmps53
  go_wp2_with fail
  go_loopw [8] (fun iv wr => ∃ (i : Nat) (l1 : List Tag), iv = .int .i64 i ∧ a < i ∧ (i ≤ b ∨ (b ≤ a ∧ i = a + 1 ∧ l1 = l)) ∧ Mv default l l1 a i ∧ Hid (Asc default oT l1 a i) ∧ FlRow wr g l1 R ∧ Chg [g] w wr) (fun iv _ => b + 1 - (intOf iv).toNat)
  case atStart =>
    refine ⟨a + 1, l, by go_num, by omega, (Nat.lt_or_ge a b).elim (fun h => .inl h) (fun h => .inr ⟨h, rfl, rfl⟩), Mv.refl _ _ _, Lib.hid (Asc.small (Nat.le_refl _)), HH.out, Chg.refl _ _⟩
  case round =>
    obtain ⟨i, l1, rfl, hai, hib, hmv, has, hf, hc⟩ := hrel
    by_cases hlt : i < b
    · have hl1 := Lib.hid (hmv.len.trans HN.out)
      have hA1 := Lib.hid (hmv.apart HA.out)
      have hW1 := Lib.hid (HW.out.mv hmv)
      have hS1 := Lib.hid (show ∀ t, a ≤ t → t < i → (keyF (l1.getD i default).1 < keyF (l1.getD t default).1 ↔ oT (l1.getD i default) < oT (l1.getD t default)) from fun t t1 t2 => by
        obtain ⟨t', e1, e2, e3⟩ := hmv.from_ t t1 t2
        rw [hmv.out i (.inr (Nat.le_refl _)), e3]
        have := HF.out t' i e1 e2 hlt
        unfold ltT at this
        simpa using this)
      have HM := Lib.hid hmv
      clear hmv hib
      obtain ⟨wo, hwo⟩ : ∃ wo : World, wo = wr := ⟨_, rfl⟩
      rw [← hwo] at hf hc ⊢
      clear hwo
      go_wp2_with fail
      go_loopw [9] (fun jv wr => ∃ (j : Nat) (l2 : List Tag), jv = .int .i64 j ∧ a ≤ j ∧ j ≤ i ∧ Ins default oT l1 l2 i j ∧ FlRow wr g l2 R ∧ Chg [g] w wr) (fun jv _ => (intOf jv).toNat)
      case atStart => exact ⟨i, l1, rfl, by omega, Nat.le_refl _, Ins.start l1 i, hf, hc⟩
      case round =>
        obtain ⟨j, l2, rfl, haj, hji, hI, hf, hc⟩ := hrel
        have hl2 := Lib.hid (hI.sh.mv.len.trans hl1.out)
        by_cases hja : j = a
        · have hd : decide (a < j) = false := by simp; omega
          have HD := Lib.hid (hI.done (a := a) (by rw [hl1.out]; omega) hA1.out haj hji has.out (.inl hja))
          clear hI hja
          go_wp2_with fail
          go_quiet (fail)
          go_wp2_with fail
          go_roundw
          case rel => exact ⟨i + 1, l2, by go_num, by omega, .inl hlt, (HM.out.trans HD.out.mv (Nat.le_refl _) (by omega) (Nat.le_refl _) (Nat.le_refl _)), Lib.hid HD.out.asc, hf, hc.drewN _⟩
          case measure => simp [intOf]; omega
        · have hd : (a : Int) < (j : Int) := by omega
          obtain ⟨t1, t2⟩ := hI.at_ hji (by omega)
          have c1 := hf.cell (k := j) (by rw [hl2.out]; omega)
          have c2 := hf.cell (k := j - 1) (by rw [hl2.out]; omega)
          have f1 := hf.free j
          have f2 := hf.free (j - 1)
          have wx := (hW1.out.at_ (k := i) (by rw [hl1.out]; omega))
          have wy := (hW1.out.at_ (k := j - 1) (by rw [hl1.out]; omega))
          rw [t1] at c1
          rw [t2] at c2
          have hFS := Lib.hid (hf.swap (i := j) (j := j - 1) (by rw [hl2.out]; omega) (by rw [hl2.out]; omega) _ _ (by rw [t1]) (by rw [t2]))
          have hs := hS1.out (j - 1) (by omega) (by omega)
          have HI := Lib.hid hI
          clear t1 t2 hI
          have i1 : (j : Int) < (n : Int) := by omega
          have i2 : (j : Int) - 1 < (n : Int) := by omega
          have i3 : (j : Int) - 1 = ((j - 1 : Nat) : Int) := by omega
          have d1 : ¬ j = j - 1 := by omega
          have d2 : ¬ j - 1 = j := by omega
          by_cases hk : keyF (l1.getD i default).1 < keyF (l1.getD (j - 1) default).1
          · have hcmp := cmp_lt hk
            have HST := Lib.hid (HI.out.step (by rw [hl1.out]; omega) hji (by omega) (hs.1 hk))
            clear hs hk
            generalize (l1.getD i default).1 = x at *
            generalize (l1.getD (j - 1) default).1 = y at *
            go_wp2_with fail
            go_quiet ((go_at_call 26; exact quiet_same (compare_any _ _ _ wx wy)))
            generalize hwq : wr.drewN _ = wq
            have cq : Chg [] wr wq := by rw [← hwq]; exact (Chg.refl _ _).drewN _
            replace c1 := cq.cell c1 (by simp)
            replace c2 := cq.cell c2 (by simp)
            replace f1 : wq.frozen? ⟨g, j, none⟩ = false := by rw [← hwq]; exact f1
            replace f2 : wq.frozen? ⟨g, j - 1, none⟩ = false := by rw [← hwq]; exact f2
            replace hFS : Hid (FlRow ((wq.setCell ⟨g, j, none⟩ (.float .f64 y)).setCell ⟨g, j - 1, none⟩ (.float .f64 x)) g (sw default l2 j (j - 1)) R) := by rw [← hwq]; exact hFS
            have HC := Lib.hid (hc.trans cq (fun y hy => hy) (by simp))
            clear hwq cq hf hc
            go_wp2_with fail
            go_region
            all_goals go_wp2_with fail
            go_roundw
            case rel => exact ⟨j - 1, _, rfl, by omega, by omega, HST.out, hFS.out, (HC.out.trans (swap_chg _ _ _ _ _ _) (fun y hy => hy) (fun y hy _ => hy)).drew⟩
            case measure => simp [intOf]; omega
          · have hcmp := cmp_ge hk
            have HD := Lib.hid (HI.out.done (a := a) (by rw [hl1.out]; omega) hA1.out haj hji has.out (.inr (fun h => hk (hs.2 h))))
            clear hs hk
            generalize (l1.getD i default).1 = x at *
            generalize (l1.getD (j - 1) default).1 = y at *
            go_wp2_with fail
            go_quiet ((go_at_call 26; exact quiet_same (compare_any _ _ _ wx wy)))
            go_wp2_with fail
            go_roundw
            case rel => exact ⟨i + 1, l2, by go_num, by omega, .inl hlt, (HM.out.trans HD.out.mv (Nat.le_refl _) (by omega) (Nat.le_refl _) (Nat.le_refl _)), Lib.hid HD.out.asc, hf, hc.drewN _⟩
            case measure => simp [intOf]; omega
    · have HE : Hid (Srt default oT l l1 a b) := Lib.hid (by
        rcases hib with h | ⟨h, h', rfl⟩
        · obtain rfl : i = b := by omega
          exact ⟨hmv, has.out⟩
        · exact Srt.nothing (Asc.small (by omega)))
      clear hib hmv
      go_wp2_with fail
      go_end0
      exact ⟨rfl, hc, l1, HE.out, hf⟩
end Go.Proofs.Ytlcfokndkkjklaa
