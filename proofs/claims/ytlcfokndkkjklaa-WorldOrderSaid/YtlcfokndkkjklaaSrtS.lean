/-
  The stable sort of a whole row: the contracts of stable and SortStableFunc with moment.Compare.
-/
import Derived.Test.YtlcfokndkkjklaaSrtG
namespace Go.Proofs.Ytlcfokndkkjklaa
set_option linter.unusedVariables false
open Go.RowKit

attribute [local go_sem] run_store_float'

/-- What is asked of a sort: the test by words is the test by the order. -/
structure SrtIn (l : List Tag) (n : Nat) : Prop where
  hn : l.length = n
  hm : n ≤ 1000000
  hW : AllW l
  hA : Apart default oT l
  hF : ∀ i j, i < j → j < n → (ltT (l.getD j default) (l.getD i default) = true ↔ oT (l.getD j default) < oT (l.getD i default))

theorem SrtIn.mrg {l l' : List Tag} {n a m b : Nat} (h : SrtIn l n) (hv : Mv default l l' 0 n) (h1 : Blk default oT l l' a m) (h2 : Blk default oT l l' m b) (ha : a < m) (hb : m < b) (hbn : b ≤ n) : MrgIn l' a m b n :=
  ⟨hv.len.trans h.hn, ha, hb, hbn, h.hm, h.hW.mv hv, hv.apart h.hA, h1.1, h2.1, h1.sep h2 (fun i j i1 i2 => h.hF i j i1 (by omega))⟩

set_option maxRecDepth 100000 in
set_option maxHeartbeats 8000000 in
theorem stable_any (g n c : Nat) (l : List Tag) (R : List Value) (w : World) (h : FlRow w g l R) (hI : SrtIn l n) :
    Calls Try.prog 46 #[.slice (some ⟨g, 0, none⟩) n c, .int .i64 n, cmpV] w (SortPost g l R 0 n w) := by
  have hm := hI.hm
  have HH := Lib.hid h
  have HI := Lib.hid hI
  clear h hI
  go_enter Try.func46, Try.ntmps46
  go_wp2_with fail
  go_loopw [7, 8] (fun av bv wr => ∃ (t : Nat) (l' : List Tag), av = .int .i64 ((t * 20 : Nat) : Int) ∧ bv = .int .i64 ((t * 20 + 20 : Nat) : Int) ∧ t * 20 ≤ n ∧ Hid (Blocks default oT l l' 20 n 0 t) ∧ Mv default l l' 0 (t * 20) ∧ FlRow wr g l' R ∧ Chg [g] w wr) (fun av _ _ => n + 20 - (intOf av).toNat)
  case atStart => exact ⟨0, l, rfl, rfl, by omega, Lib.hid (fun q h1 h2 => by omega), Mv.refl _ _ _, HH.out, Chg.refl _ _⟩
  case round =>
    obtain ⟨t, l', rfl, rfl, ht, hB, hv, hf, hc⟩ := hrel
    have hF' := Lib.hid (show ∀ i j, t * 20 ≤ i → i < j → j < n → (ltT (l'.getD j default) (l'.getD i default) = true ↔ oT (l'.getD j default) < oT (l'.getD i default)) from fun i j i1 i2 i3 => by
      rw [hv.out i (.inr i1), hv.out j (.inr (by omega))]; exact HI.out.hF i j i2 i3)
    have hl' := hv.len.trans HI.out.hn
    have hW' := HI.out.hW.mv hv
    have hA' := hv.apart HI.out.hA
    by_cases hlt : t * 20 + 20 ≤ n
    · have HV := Lib.hid hv
      have HL := Lib.hid (And.intro hl' (And.intro hW' hA'))
      have q1 : ((t * 20 + 20 : Nat) : Int) ≤ (n : Int) := by omega
      clear hv hl' hW' hA'
      obtain ⟨a, ha⟩ : ∃ a, a = t * 20 := ⟨_, rfl⟩
      rw [← ha] at q1 hF' HV ht hlt ⊢
      obtain ⟨b, hb⟩ : ∃ b, b = a + 20 := ⟨_, rfl⟩
      rw [← hb] at q1 hlt ⊢
      obtain ⟨b2, hb2⟩ : ∃ b2, b2 = b + 20 := ⟨_, rfl⟩
      have q2 : (b : Int) + 20 = (b2 : Int) := by omega
      have HAB := Lib.hid (And.intro ha hb)
      have HB3 := Lib.hid hb2
      clear ha hb hb2
      go_wp2_with fail
      refine (insSort_any g n c l' R a b _ hf HL.out.1 (by have := HAB.out; omega) hlt hm HL.out.2.1 HL.out.2.2 (fun i j i1 i2 i3 => hF'.out i j i1 i2 (by omega))).mono ?_
      rintro ev w1 ⟨rfl, C1, l2, S2, F2⟩
      have HS2 := Lib.hid S2
      have HB2 : Hid (Blocks default oT l l2 20 n 0 (t + 1)) := Lib.hid (fun q k1 k2 => by
        obtain ⟨ha, hb⟩ := HAB.out
        by_cases e : q = t
        · subst e
          refine ⟨by rw [show min (q * 20 + 20) n = b by omega, ← ha]; exact HS2.out.asc, fun k k1 k2 => ?_⟩
          obtain ⟨k', f1, f2, f3⟩ := HS2.out.mv.from_ k (by omega) (by omega)
          exact ⟨k', by omega, by omega, by rw [f3, HV.out.out k' (.inr (by omega))]⟩
        · exact (hB.out q k1 (by omega)).same (fun k k3 k4 => HS2.out.mv.out k (.inl (by omega))))
      have HV2 := Lib.hid (HV.out.trans HS2.out.mv (a'' := 0) (b'' := b) (Nat.le_refl _) (by have := HAB.out; omega) (Nat.zero_le _) (Nat.le_refl _))
      clear S2 q1
      go_wp2_with fail
      go_roundw
      case rel =>
        obtain ⟨ha, hb⟩ := HAB.out
        exact ⟨t + 1, l2, by rw [show (t + 1) * 20 = b by omega], by rw [show (t + 1) * 20 + 20 = b2 by have := HB3.out; omega], by omega, HB2, by rw [show (t + 1) * 20 = b by omega]; exact HV2.out, F2, hc.trans C1 (fun y hy => hy) (fun y hy _ => hy)⟩
      case measure => have := HAB.out; simp [intOf]; omega
    · have HV := Lib.hid hv
      have HL := Lib.hid (And.intro hl' (And.intro hW' hA'))
      clear hv hl' hW' hA'
      have q1 : ¬ ((t * 20 + 20 : Nat) : Int) ≤ (n : Int) := by omega
      obtain ⟨a, ha⟩ : ∃ a, a = t * 20 := ⟨_, rfl⟩
      rw [← ha] at q1 hF' HV ht hlt ⊢
      have HAB := Lib.hid ha
      clear ha
      go_wp2_with fail
      refine (insSort_any g n c l' R a n _ hf HL.out.1 ht (Nat.le_refl _) hm HL.out.2.1 HL.out.2.2 (fun i j i1 i2 i3 => hF'.out i j i1 i2 i3)).mono ?_
      rintro ev w1 ⟨rfl, C1, l2, S2, F2⟩
      have HS2 := Lib.hid S2
      have HB2 : Hid (∀ q, Blk default oT l l2 (q * 20) (min (q * 20 + 20) n)) := Lib.hid (fun q => by
        have ha := HAB.out
        by_cases e : q = t
        · subst e
          refine ⟨by rw [show min (q * 20 + 20) n = n by omega, ← ha]; exact HS2.out.asc, fun k k1 k2 => ?_⟩
          obtain ⟨k', f1, f2, f3⟩ := HS2.out.mv.from_ k (by omega) (by omega)
          exact ⟨k', by omega, by omega, by rw [f3, HV.out.out k' (.inr (by omega))]⟩
        · rcases Nat.lt_or_ge q t with h1 | h1
          · exact (hB.out q (Nat.zero_le _) h1).same (fun k k3 k4 => HS2.out.mv.out k (.inl (by omega)))
          · exact Blk.empty (by omega))
      have HV2 := Lib.hid (HV.out.trans HS2.out.mv (a'' := 0) (b'' := n) (Nat.le_refl _) ht (Nat.zero_le _) (Nat.le_refl _))
      have hc2 := hc.trans C1 (U := [g]) (fun y hy => hy) (fun y hy _ => hy)
      clear S2 C1 hc hB HV HS2 hF' HL hf q1 hlt
      go_wp2_with fail
      obtain ⟨wo, hwo⟩ : ∃ wo : World, wo = w1 := ⟨_, rfl⟩
      rw [← hwo] at F2 hc2 ⊢
      clear hwo
      go_loopw [6] (fun sv wr => ∃ (s : Nat) (l' : List Tag), sv = .int .i64 s ∧ 20 ≤ s ∧ s ≤ 2000000 ∧ Hid (∀ q, Blk default oT l l' (q * s) (min (q * s + s) n)) ∧ Hid (Mv default l l' 0 n) ∧ FlRow wr g l' R ∧ Chg [g] w wr) (fun sv _ => n - (intOf sv).toNat)
      case atStart => exact ⟨20, l2, rfl, by omega, by omega, HB2, HV2, F2, hc2⟩
      case round =>
        clear F2 hc2 HB2 HV2
        obtain ⟨s, l', rfl, hs1, hs2, hB, hv, hf, hc⟩ := hrel
        by_cases hsn : s < n
        · obtain ⟨wp, hwp⟩ : ∃ wp : World, wp = wr := ⟨_, rfl⟩
          rw [← hwp] at hf hc ⊢
          clear hwp
          obtain ⟨s2, hs2'⟩ : ∃ s2, s2 = 2 * s := ⟨_, rfl⟩
          have q0 : (2 : Int) * (s : Int) = (s2 : Int) := by omega
          have q0' : (s : Int) * 2 = (s2 : Int) := by omega
          have b1 : s2 ≤ 4000000 := by omega
          have b2 : s < s2 := by omega
          have HS2' := Lib.hid hs2'
          clear hs2'
          go_wp2_with fail
          go_loopw [7, 8] (fun av bv wr => ∃ (t a b : Nat) (l' : List Tag), av = .int .i64 a ∧ bv = .int .i64 b ∧ Hid (b = a + 2 * s) ∧ b ≤ a + 4000000 ∧ Hid (a = t * (2 * s)) ∧ a ≤ n ∧ Hid (Blocks default oT l l' (2 * s) n 0 t) ∧ Hid (∀ q, 2 * t ≤ q → Blk default oT l l' (q * s) (min (q * s + s) n)) ∧ Hid (Mv default l l' 0 n) ∧ FlRow wr g l' R ∧ Chg [g] w wr) (fun av _ _ => n - (intOf av).toNat)
          case atStart => exact ⟨0, 0, s2, l', rfl, rfl, Lib.hid (by have := HS2'.out; omega), by omega, Lib.hid (by omega), by omega, Lib.hid (fun q h1 h2 => by omega), Lib.hid (fun q _ => hB.out q), hv, hf, hc⟩
          case round =>
            clear hB hv hf hc
            obtain ⟨t, a, b, l', rfl, rfl, HAB, hab2, hat, han, hB, hB2, hv, hf, hc⟩ := hrel
            obtain ⟨am, ham⟩ : ∃ am, am = a + s := ⟨_, rfl⟩
            have q2 : (a : Int) + (s : Int) = (am : Int) := by omega
            have HAM := Lib.hid ham
            clear ham
            by_cases hbn : b ≤ n
            · have q1 : (b : Int) ≤ (n : Int) := by omega
              obtain ⟨b3, hb3⟩ : ∃ b3, b3 = b + s2 := ⟨_, rfl⟩
              have q3 : (b : Int) + (s2 : Int) = (b3 : Int) := by omega
              have b4 : b3 ≤ b + 4000000 := by omega
              have HB3 := Lib.hid hb3
              clear hb3
              have HM : Hid (MrgIn l' a am b n) := Lib.hid (by
                have ham := HAM.out
                have hab := HAB.out
                have h1 := hB2.out (2 * t) (Nat.le_refl _)
                have h2 := hB2.out (2 * t + 1) (by omega)
                rw [mul_two, ← hat.out, show min (a + s) n = am by omega] at h1
                rw [mul_two1, ← hat.out, show min (a + s + s) n = b by omega, ← ham] at h2
                exact HI.out.mrg hv.out h1 h2 (by omega) (by omega) hbn)
              go_wp2_with fail
              refine (symMerge_any g n c l' R a am b _ hf HM.out).mono ?_
              rintro ev w2 ⟨rfl, C2, l3, S3, F3⟩
              have HBB := Lib.hid (blocks_step (t := t) hB.out hB2.out (m := am) (b := b) (by rw [← hat.out]; exact HAM.out) (by rw [← hat.out]; have := HAB.out; omega) (by have := HAB.out; have := HAM.out; omega) (by rw [← hat.out]; exact S3))
              have HV3 := Lib.hid (hv.out.trans S3.mv (a'' := 0) (b'' := n) (Nat.le_refl _) (Nat.le_refl _) (Nat.zero_le _) hbn)
              clear S3 q1 hB hB2 hv
              go_wp2_with fail
              go_roundw
              case rel =>
                have hab := HAB.out
                exact ⟨t + 1, b, b3, l3, rfl, rfl, Lib.hid (by have := HB3.out; have := HS2'.out; omega), b4, Lib.hid (by rw [Nat.add_mul, Nat.one_mul, ← hat.out]; exact hab), hbn, Lib.hid HBB.out.1, Lib.hid HBB.out.2, HV3, F3, hc.trans C2 (fun y hy => hy) (fun y hy _ => hy)⟩
              case measure => have := HAB.out; simp [intOf]; omega
            · have q1 : ¬ (b : Int) ≤ (n : Int) := by omega
              by_cases hmn : am < n
              · have HM : Hid (MrgIn l' a am n n) := Lib.hid (by
                  have ham := HAM.out
                  have hab := HAB.out
                  have h1 := hB2.out (2 * t) (Nat.le_refl _)
                  have h2 := hB2.out (2 * t + 1) (by omega)
                  rw [mul_two, ← hat.out, show min (a + s) n = am by omega] at h1
                  rw [mul_two1, ← hat.out, show min (a + s + s) n = n by omega, ← ham] at h2
                  exact HI.out.mrg hv.out h1 h2 (by omega) (by omega) (Nat.le_refl _))
                have q4 : (am : Int) < (n : Int) := by omega
                go_wp2_with fail
                refine (symMerge_any g n c l' R a am n _ hf HM.out).mono ?_
                rintro ev w2 ⟨rfl, C2, l3, S3, F3⟩
                have HBB := Lib.hid (blocks_step (t := t) hB.out hB2.out (m := am) (b := n) (by rw [← hat.out]; exact HAM.out) (by rw [← hat.out]; have := HAB.out; omega) (by omega) (by rw [← hat.out]; exact S3))
                have HBA := Lib.hid (blocks_all HBB.out.1 (by rw [Nat.add_mul, Nat.one_mul, ← hat.out]; have := HAB.out; omega))
                have HV3 := Lib.hid (hv.out.trans S3.mv (a'' := 0) (b'' := n) (Nat.le_refl _) (Nat.le_refl _) (Nat.zero_le _) (Nat.le_refl _))
                clear S3 q1 q4 hB hB2 hv HBB
                go_wp2_with fail
                go_roundw
                case rel => exact ⟨s2, l3, rfl, by omega, by have := HS2'.out; omega, by rw [HS2'.out]; exact HBA, HV3, F3, hc.trans C2 (fun y hy => hy) (fun y hy _ => hy)⟩
                case measure => simp [intOf]; omega
              · have q4 : ¬ (am : Int) < (n : Int) := by omega
                have HBA := Lib.hid (blocks_last (t := t) hB.out hB2.out (by rw [← hat.out]; have := HAM.out; omega))
                clear hB hB2
                go_wp2_with fail
                go_roundw
                case rel => exact ⟨s2, l', rfl, by omega, by have := HS2'.out; omega, by rw [HS2'.out]; exact HBA, hv, hf, hc⟩
                case measure => simp [intOf]; omega
        · have HE : Hid (Srt default oT l l' 0 n) := Lib.hid ⟨hv.out, by
            have := (hB.out 0).1
            rw [Nat.zero_mul, Nat.zero_add, show min s n = n by omega] at this
            exact this⟩
          clear hB hv
          go_wp2_with fail
          go_end0
          exact ⟨rfl, hc, l', HE.out, hf⟩

set_option maxHeartbeats 1000000 in
theorem sortStable_any (g n c : Nat) (l : List Tag) (R : List Value) (w : World) (h : FlRow w g l R) (hI : SrtIn l n) :
    Calls Try.prog 39 #[.slice (some ⟨g, 0, none⟩) n c, cmpV] w (SortPost g l R 0 n w) := by
  have hm := hI.hm
  have HH := Lib.hid h
  have HI := Lib.hid hI
  clear h hI
  go_enter Try.func39, Try.ntmps39
  go_wp2_with fail
  refine (stable_any g n c l R _ HH.out HI.out).mono ?_
  rintro ev w1 ⟨rfl, C1, l1, S1, F1⟩
  go_wp2_with fail
  go_end0
  exact ⟨rfl, C1, l1, S1, F1⟩
end Go.Proofs.Ytlcfokndkkjklaa
