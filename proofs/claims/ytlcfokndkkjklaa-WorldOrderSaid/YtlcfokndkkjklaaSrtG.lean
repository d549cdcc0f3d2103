/-
  SymMerge: the long case, and the whole, by the parts' length (printed by gensym.py).
-/
import Derived.Test.YtlcfokndkkjklaaSrtA
namespace Go.Proofs.Ytlcfokndkkjklaa
set_option linter.unusedVariables false
open Go.RowKit

attribute [local go_sem] run_store_float'

section
variable {l l1 l2 l3 : List Tag} {a m b n mid s e : Nat}

theorem MrgIn.halves (hI : MrgIn l a m b n) (c : Cut default oT l a m b mid s e) (r : Rot default l l1 s m e) :
    l1.length = n ∧ AllW l1 ∧ Apart default oT l1 ∧ Asc default oT l1 a s ∧ Asc default oT l1 s mid ∧ Asc default oT l1 mid e ∧ Asc default oT l1 e b ∧ Sep default oT ltT l1 a s mid ∧ Sep default oT ltT l1 mid e b ∧ (∀ p q, a ≤ p → p < mid → mid ≤ q → q < b → oT (l1.getD p default) < oT (l1.getD q default)) := by
  have hm := r.mv c.s2 c.e1
  obtain ⟨x1, x2, x3, x4, x5, x6, x7⟩ := c.halves hI.hL hI.hR hI.hS r
  exact ⟨r.len.trans hI.hn, hI.hW.mv hm, hm.apart hI.hA, x1, x2, x3, x4, x5, x6, x7⟩

theorem MrgIn.left (hI : MrgIn l a m b n) (c : Cut default oT l a m b mid s e) (r : Rot default l l1 s m e) (h1 : a < s) (h2 : s < mid) (h3 : mid ≤ b) : MrgIn l1 a s mid n := by
  obtain ⟨y1, y2, y3, x1, x2, x3, x4, x5, x6, x7⟩ := hI.halves c r
  exact ⟨y1, h1, h2, by have := hI.hb; omega, hI.hm, y2, y3, x1, x2, x5⟩

theorem MrgIn.left0 (hI : MrgIn l a m b n) (c : Cut default oT l a m b mid s e) (r : Rot default l l1 s m e) (h : a = s ∨ s = mid) : Srt default oT l1 l1 a mid := by
  obtain ⟨y1, y2, y3, x1, x2, x3, x4, x5, x6, x7⟩ := hI.halves c r
  rcases h with h | h
  · rw [h]; exact Srt.nothing x2
  · rw [← h]; exact Srt.nothing x1

theorem MrgIn.right (hI : MrgIn l a m b n) (c : Cut default oT l a m b mid s e) (r : Rot default l l1 s m e) (s2 : Srt default oT l1 l2 a mid) (h1 : mid < e) (h2 : e < b) : MrgIn l2 mid e b n := by
  obtain ⟨y1, y2, y3, x1, x2, x3, x4, x5, x6, x7⟩ := hI.halves c r
  have sm : ∀ k, mid ≤ k → l2.getD k default = l1.getD k default := fun k hk => s2.mv.out k (.inr hk)
  exact ⟨s2.mv.len.trans y1, h1, h2, hI.hb, hI.hm, y2.mv s2.mv, s2.mv.apart y3, x3.same (fun k k1 _ => sm k k1), x4.same (fun k k1 _ => sm k (by omega)), fun i j i1 i2 j1 j2 => by rw [sm i i1, sm j (by omega)]; exact x6 i j i1 i2 j1 j2⟩

theorem MrgIn.right0 (hI : MrgIn l a m b n) (c : Cut default oT l a m b mid s e) (r : Rot default l l1 s m e) (s2 : Srt default oT l1 l2 a mid) (h : mid = e ∨ e = b) : Srt default oT l2 l2 mid b := by
  obtain ⟨y1, y2, y3, x1, x2, x3, x4, x5, x6, x7⟩ := hI.halves c r
  have sm : ∀ k, mid ≤ k → l2.getD k default = l1.getD k default := fun k hk => s2.mv.out k (.inr hk)
  rcases h with h | h
  · rw [← h] at x4; exact Srt.nothing (x4.same (fun k k1 _ => sm k k1))
  · rw [h] at x3; exact Srt.nothing (x3.same (fun k k1 _ => sm k k1))

theorem MrgIn.done (hI : MrgIn l a m b n) (c : Cut default oT l a m b mid s e) (r : Rot default l l1 s m e) (s2 : Srt default oT l1 l2 a mid) (s3 : Srt default oT l2 l3 mid b) (h1 : a ≤ mid) (h2 : mid ≤ b) : Srt default oT l l3 a b := by
  obtain ⟨y1, y2, y3, x1, x2, x3, x4, x5, x6, x7⟩ := hI.halves c r
  exact halves_done h1 h2 ((r.mv c.s2 c.e1).mono c.s1 c.e2) x7 s2 s3
end

/-- A merge of fewer places. -/
def SymAt (N : Nat) : Prop := ∀ (g n c : Nat) (l : List Tag) (R : List Value) (a m b : Nat) (w : World), b - a < N → FlRow w g l R → MrgIn l a m b n →
    Calls Try.prog 54 #[.slice (some ⟨g, 0, none⟩) n c, .int .i64 a, .int .i64 m, .int .i64 b, cmpV] w (SortPost g l R a b w)

set_option maxRecDepth 100000 in
set_option maxHeartbeats 8000000 in
theorem symG_any (g n c : Nat) (l : List Tag) (R : List Value) (a m b : Nat) (w : World) (h : FlRow w g l R) (hI : MrgIn l a m b n) (hne1 : m ≠ a + 1) (hne2 : b ≠ m + 1) (ih : SymAt (b - a)) :
    Calls Try.prog 54 #[.slice (some ⟨g, 0, none⟩) n c, .int .i64 a, .int .i64 m, .int .i64 b, cmpV] w (SortPost g l R a b w) := by
  have h1 := hI.h1
  have h2 := hI.h2
  have hb := hI.hb
  have hm := hI.hm
  have HH := Lib.hid h
  have HI := Lib.hid hI
  have e1 : ((m : Int) - (a : Int) == 1) = false := by simp; omega
  have e2 : ((b : Int) - (m : Int) == 1) = false := by simp; omega
  obtain ⟨mid, hmid⟩ : ∃ mid, mid = (a + b) / 2 := ⟨_, rfl⟩
  have m1 : a < mid := by omega
  have m2 : mid < b := by omega
  have m3 : ((a : Int) + (b : Int)) / 2 = (mid : Int) := by omega
  have m4 : a + b ≤ mid + mid + 1 := by omega
  have m5 : mid + mid ≤ a + b := by omega
  have HM := Lib.hid hmid
  obtain ⟨lo, hi, hlo, hhi⟩ : ∃ lo hi, lo = (if mid < m then mid + m - b else a) ∧ hi = (if mid < m then mid else m) := ⟨_, _, rfl, rfl⟩
  have HLO := Lib.hid hlo
  have HHI := Lib.hid hhi
  have l1 : lo ≤ hi ∧ a ≤ lo ∧ hi ≤ m ∧ hi ≤ mid ∧ mid + m ≤ lo + b := by
    by_cases c : mid < m
    · rw [if_pos c] at hlo hhi; omega
    · rw [if_neg c] at hlo hhi; omega
  obtain ⟨l1, l2, l3, l4, l5⟩ := l1
  have hdn : Dn (fun c => ¬ oT (l.getD (mid + m - 1 - c) default) < oT (l.getD c default)) lo hi := fun p q p1 p2 p3 hq hp => hq (by
    have k1 := hI.hL p q (by omega) p2 (by omega)
    have k2 := hI.hR.le (i := mid + m - 1 - q) (j := mid + m - 1 - p) (by omega) (by omega) (by omega)
    omega)
  have HD := Lib.hid hdn
  have HC := Lib.hid (fun s (hs : BS (fun c => ¬ oT (l.getD (mid + m - 1 - c) default) < oT (l.getD c default)) lo hi s s) => cut_of (by rw [hI.hn]; exact hb) hI.hA hI.hL hI.hR h1 h2 hmid hlo hhi hs)
  have hcase : (mid < m ∧ (mid : Int) + (m : Int) - (b : Int) = (lo : Int) ∧ mid = hi) ∨ (¬ mid < m ∧ a = lo ∧ m = hi) := by
    by_cases c : mid < m
    · rw [if_pos c] at hlo hhi; exact .inl ⟨c, by omega, hhi.symm⟩
    · rw [if_neg c] at hlo hhi; exact .inr ⟨c, hlo.symm, hhi.symm⟩
  have HIH := Lib.hid ih
  clear h hI hdn hlo hhi hmid ih
  rcases hcase with ⟨q1, q2, rfl⟩ | ⟨q1, rfl, rfl⟩
  all_goals
    go_enter Try.func54, Try.ntmps54
    go_wp2_with fail
  · go_loopw [20, 21] (fun iv jv wr => ∃ (i j : Nat), iv = .int .i64 i ∧ jv = .int .i64 j ∧ BS (fun c => ¬ oT (l.getD (mid + m - 1 - c) default) < oT (l.getD c default)) lo mid i j ∧ Chg [] w wr) (fun iv jv _ => (intOf jv).toNat - (intOf iv).toNat)
    case atStart => exact ⟨lo, mid, rfl, rfl, BS.start _ l1, Chg.refl _ _⟩
    case round =>
      clear q2
      obtain ⟨i, j, rfl, rfl, hs, hc⟩ := hrel
      have s1 := hs.h1
      have s2 := hs.h2
      have s3 := hs.h3
      by_cases hlt : i < j
      · obtain ⟨t, ht⟩ : ∃ t, t = (i + j) / 2 := ⟨_, rfl⟩
        have t1 : i ≤ t := by omega
        have t2 : t < j := by omega
        have e3 : ((i : Int) + (j : Int)) / 2 = (t : Int) := by omega
        have e4 : (mid : Int) + (m : Int) - 1 - (t : Int) = ((mid + m - 1 - t : Nat) : Int) := by omega
        have f := HH.out.chg hc (by simp)
        have c1 := f.cell (k := mid + m - 1 - t) (by rw [HI.out.hn]; omega)
        have c2 := f.cell (k := t) (by rw [HI.out.hn]; omega)
        have wx := HI.out.hW.at_ (k := mid + m - 1 - t) (by rw [HI.out.hn]; omega)
        have wy := HI.out.hW.at_ (k := t) (by rw [HI.out.hn]; omega)
        have hts := HI.out.test (i := t) (j := mid + m - 1 - t) (by omega) (by omega) (by omega) (by omega)
        have i1 : ((mid + m - 1 - t : Nat) : Int) < (n : Int) := by omega
        have i2 : (t : Int) < (n : Int) := by omega
        clear f ht
        by_cases hk : keyF (l.getD (mid + m - 1 - t) default).1 < keyF (l.getD t default).1
        · have hcmp := cmp_lt hk
          have HU := Lib.hid (hs.down HD.out t1 t2 (fun h => h (hts.1 hk)))
          clear hk hts hs
          generalize (l.getD t default).1 = y at *
          generalize (l.getD (mid + m - 1 - t) default).1 = x at *
          go_wp2_with fail
          go_quiet ((go_at_call 26; exact quiet_same (compare_any _ _ _ wx wy)))
          go_wp2_with fail
          go_roundw
          case rel => exact ⟨i, t, rfl, rfl, HU.out, hc.drewN _⟩
          case measure => simp [intOf]; omega
        · have hcmp := cmp_ge hk
          have HU := Lib.hid (hs.up HD.out t1 t2 (fun h => hk (hts.2 h)))
          clear hk hts hs
          generalize (l.getD t default).1 = y at *
          generalize (l.getD (mid + m - 1 - t) default).1 = x at *
          go_wp2_with fail
          go_quiet ((go_at_call 26; exact quiet_same (compare_any _ _ _ wx wy)))
          go_wp2_with fail
          go_roundw
          case rel => exact ⟨t + 1, j, by go_num, rfl, HU.out, hc.drewN _⟩
          case measure => simp [intOf]; omega
      · obtain rfl : i = j := by omega
        have cut := HC.out i hs
        have c1 := cut.se
        have c2 := cut.s1
        have c3 := cut.s2
        have c4 := cut.e1
        have c5 := cut.e2
        obtain ⟨e, he⟩ : ∃ e, e = mid + m - i := ⟨_, rfl⟩
        rw [← he] at cut c1 c4 c5
        have e5 : (mid : Int) + (m : Int) - (i : Int) = (e : Int) := by omega
        have HCUT := Lib.hid cut
        have hf := HH.out.chg hc (by simp)
        have hc := hc.mono (T := [g]) (by simp)
        clear hs cut he
        rcases (by omega : (i = m ∧ i < mid) ∨ (i = m ∧ i = mid) ∨ (i < m ∧ e = m) ∨ (i < m ∧ m < e ∧ a < i ∧ e < b) ∨ (i < m ∧ m < e ∧ a < i ∧ e = b) ∨ (i < m ∧ m < e ∧ a = i ∧ e < b) ∨ (i < m ∧ m < e ∧ a = i ∧ e = b)) with z | z | z | z | z | z | z
        · have d1 : decide (i < m) = false := by simp; omega
          have p2 : (a : Int) < (i : Int) := by omega
          have p3 : (i : Int) < (mid : Int) := by omega
          have d4 : decide (mid < e) = false := by simp; omega
          have k1 : i = m ∧ mid = e := by omega
          have K := Lib.hid k1
          clear k1
          have HR := Lib.hid (show Rot default l l i m e from Rot.none (by have := K.out; omega) (by omega) (by omega))
          clear z c1
          go_wp2_with fail
          refine (HIH.out g n c l R a i mid _ (by omega) hf (HI.out.left HCUT.out HR.out (by omega) (by omega) (by omega))).mono ?_
          rintro ev w2 ⟨rfl, C2, l2v, S2, hf⟩
          have HS2 := Lib.hid S2
          have hc := hc.trans C2 (U := [g]) (fun y hy => hy) (fun y hy _ => hy)
          clear S2 C2
          go_wp2_with fail
          have HS3 := Lib.hid (HI.out.right0 HCUT.out HR.out HS2.out (by have := K.out; omega))
          go_end0
          exact ⟨rfl, hc, l2v, HI.out.done HCUT.out HR.out HS2.out HS3.out (by omega) (by omega), hf⟩
        · have d1 : decide (i < m) = false := by simp; omega
          have p2 : (a : Int) < (i : Int) := by omega
          have d3 : decide (i < mid) = false := by simp; omega
          have d4 : decide (mid < e) = false := by simp; omega
          have k1 : i = m ∧ mid = e ∧ i = mid := by omega
          have K := Lib.hid k1
          clear k1
          have HR := Lib.hid (show Rot default l l i m e from Rot.none (by have := K.out; omega) (by omega) (by omega))
          clear z c1
          go_wp2_with fail
          have HS2 := Lib.hid (HI.out.left0 HCUT.out HR.out (by have := K.out; omega))
          have HS3 := Lib.hid (HI.out.right0 HCUT.out HR.out HS2.out (by have := K.out; omega))
          go_end0
          exact ⟨rfl, hc, l, HI.out.done HCUT.out HR.out HS2.out HS3.out (by omega) (by omega), hf⟩
        · have p1 : (i : Int) < (m : Int) := by omega
          have d2 : decide (m < e) = false := by simp; omega
          have p3 : (a : Int) < (i : Int) := by omega
          have d4 : decide (i < mid) = false := by simp; omega
          have p5 : (mid : Int) < (e : Int) := by omega
          have p6 : (e : Int) < (b : Int) := by omega
          have k1 : e = m ∧ i = mid := by omega
          have K := Lib.hid k1
          clear k1
          have HR := Lib.hid (show Rot default l l i m e from Rot.none (by have := K.out; omega) (by omega) (by omega))
          clear z c1
          go_wp2_with fail
          have HS2 := Lib.hid (HI.out.left0 HCUT.out HR.out (by have := K.out; omega))
          refine (HIH.out g n c l R mid e b _ (by omega) hf (HI.out.right HCUT.out HR.out HS2.out (by omega) (by omega))).mono ?_
          rintro ev w3 ⟨rfl, C3, l3v, S3, hf⟩
          have HS3 := Lib.hid S3
          have hc := hc.trans C3 (U := [g]) (fun y hy => hy) (fun y hy _ => hy)
          clear S3 C3
          go_wp2_with fail
          go_end0
          exact ⟨rfl, hc, l3v, HI.out.done HCUT.out HR.out HS2.out HS3.out (by omega) (by omega), hf⟩
        · have p1 : (i : Int) < (m : Int) := by omega
          have p2 : (m : Int) < (e : Int) := by omega
          have p3 : (i : Int) < (mid : Int) := by omega
          have p4 : (mid : Int) < (e : Int) := by omega
          have p5 : (a : Int) < (i : Int) := by omega
          have p6 : (e : Int) < (b : Int) := by omega
          clear z c1
          go_wp2_with fail
          refine (rotate_any g n c l R i m e cmpV _ hf HI.out.hn (by omega) (by omega) (by omega) hm).mono ?_
          rintro ev w1 ⟨rfl, C1, l1v, R1, hf⟩
          have HR := Lib.hid R1
          have hc := hc.trans C1 (U := [g]) (fun y hy => hy) (fun y hy _ => hy)
          clear R1 C1
          go_wp2_with fail
          refine (HIH.out g n c l1v R a i mid _ (by omega) hf (HI.out.left HCUT.out HR.out (by omega) (by omega) (by omega))).mono ?_
          rintro ev w2 ⟨rfl, C2, l2v, S2, hf⟩
          have HS2 := Lib.hid S2
          have hc := hc.trans C2 (U := [g]) (fun y hy => hy) (fun y hy _ => hy)
          clear S2 C2
          go_wp2_with fail
          refine (HIH.out g n c l2v R mid e b _ (by omega) hf (HI.out.right HCUT.out HR.out HS2.out (by omega) (by omega))).mono ?_
          rintro ev w3 ⟨rfl, C3, l3v, S3, hf⟩
          have HS3 := Lib.hid S3
          have hc := hc.trans C3 (U := [g]) (fun y hy => hy) (fun y hy _ => hy)
          clear S3 C3
          go_wp2_with fail
          go_end0
          exact ⟨rfl, hc, l3v, HI.out.done HCUT.out HR.out HS2.out HS3.out (by omega) (by omega), hf⟩
        · have p1 : (i : Int) < (m : Int) := by omega
          have p2 : (m : Int) < (e : Int) := by omega
          have p3 : (i : Int) < (mid : Int) := by omega
          have p4 : (mid : Int) < (e : Int) := by omega
          have p5 : (a : Int) < (i : Int) := by omega
          have d6 : decide (e < b) = false := by simp; omega
          have k1 : e = b := by omega
          have K := Lib.hid k1
          clear k1
          clear z c1
          go_wp2_with fail
          refine (rotate_any g n c l R i m e cmpV _ hf HI.out.hn (by omega) (by omega) (by omega) hm).mono ?_
          rintro ev w1 ⟨rfl, C1, l1v, R1, hf⟩
          have HR := Lib.hid R1
          have hc := hc.trans C1 (U := [g]) (fun y hy => hy) (fun y hy _ => hy)
          clear R1 C1
          go_wp2_with fail
          refine (HIH.out g n c l1v R a i mid _ (by omega) hf (HI.out.left HCUT.out HR.out (by omega) (by omega) (by omega))).mono ?_
          rintro ev w2 ⟨rfl, C2, l2v, S2, hf⟩
          have HS2 := Lib.hid S2
          have hc := hc.trans C2 (U := [g]) (fun y hy => hy) (fun y hy _ => hy)
          clear S2 C2
          go_wp2_with fail
          have HS3 := Lib.hid (HI.out.right0 HCUT.out HR.out HS2.out (by have := K.out; omega))
          go_end0
          exact ⟨rfl, hc, l2v, HI.out.done HCUT.out HR.out HS2.out HS3.out (by omega) (by omega), hf⟩
        · have p1 : (i : Int) < (m : Int) := by omega
          have p2 : (m : Int) < (e : Int) := by omega
          have p3 : (i : Int) < (mid : Int) := by omega
          have p4 : (mid : Int) < (e : Int) := by omega
          have d5 : decide (a < i) = false := by simp; omega
          have p6 : (e : Int) < (b : Int) := by omega
          have k1 : a = i := by omega
          have K := Lib.hid k1
          clear k1
          clear z c1
          go_wp2_with fail
          refine (rotate_any g n c l R i m e cmpV _ hf HI.out.hn (by omega) (by omega) (by omega) hm).mono ?_
          rintro ev w1 ⟨rfl, C1, l1v, R1, hf⟩
          have HR := Lib.hid R1
          have hc := hc.trans C1 (U := [g]) (fun y hy => hy) (fun y hy _ => hy)
          clear R1 C1
          go_wp2_with fail
          have HS2 := Lib.hid (HI.out.left0 HCUT.out HR.out (by have := K.out; omega))
          refine (HIH.out g n c l1v R mid e b _ (by omega) hf (HI.out.right HCUT.out HR.out HS2.out (by omega) (by omega))).mono ?_
          rintro ev w3 ⟨rfl, C3, l3v, S3, hf⟩
          have HS3 := Lib.hid S3
          have hc := hc.trans C3 (U := [g]) (fun y hy => hy) (fun y hy _ => hy)
          clear S3 C3
          go_wp2_with fail
          go_end0
          exact ⟨rfl, hc, l3v, HI.out.done HCUT.out HR.out HS2.out HS3.out (by omega) (by omega), hf⟩
        · have p1 : (i : Int) < (m : Int) := by omega
          have p2 : (m : Int) < (e : Int) := by omega
          have p3 : (i : Int) < (mid : Int) := by omega
          have p4 : (mid : Int) < (e : Int) := by omega
          have d5 : decide (a < i) = false := by simp; omega
          have d6 : decide (e < b) = false := by simp; omega
          have k1 : a = i ∧ e = b := by omega
          have K := Lib.hid k1
          clear k1
          clear z c1
          go_wp2_with fail
          refine (rotate_any g n c l R i m e cmpV _ hf HI.out.hn (by omega) (by omega) (by omega) hm).mono ?_
          rintro ev w1 ⟨rfl, C1, l1v, R1, hf⟩
          have HR := Lib.hid R1
          have hc := hc.trans C1 (U := [g]) (fun y hy => hy) (fun y hy _ => hy)
          clear R1 C1
          have HS2 := Lib.hid (HI.out.left0 HCUT.out HR.out (by have := K.out; omega))
          have HS3 := Lib.hid (HI.out.right0 HCUT.out HR.out HS2.out (by have := K.out; omega))
          go_wp2_with fail
          go_end0
          exact ⟨rfl, hc, l1v, HI.out.done HCUT.out HR.out HS2.out HS3.out (by omega) (by omega), hf⟩
  · go_loopw [20, 21] (fun iv jv wr => ∃ (i j : Nat), iv = .int .i64 i ∧ jv = .int .i64 j ∧ BS (fun c => ¬ oT (l.getD (mid + m - 1 - c) default) < oT (l.getD c default)) a m i j ∧ Chg [] w wr) (fun iv jv _ => (intOf jv).toNat - (intOf iv).toNat)
    case atStart => exact ⟨a, m, rfl, rfl, BS.start _ l1, Chg.refl _ _⟩
    case round =>
      obtain ⟨i, j, rfl, rfl, hs, hc⟩ := hrel
      have s1 := hs.h1
      have s2 := hs.h2
      have s3 := hs.h3
      by_cases hlt : i < j
      · obtain ⟨t, ht⟩ : ∃ t, t = (i + j) / 2 := ⟨_, rfl⟩
        have t1 : i ≤ t := by omega
        have t2 : t < j := by omega
        have e3 : ((i : Int) + (j : Int)) / 2 = (t : Int) := by omega
        have e4 : (mid : Int) + (m : Int) - 1 - (t : Int) = ((mid + m - 1 - t : Nat) : Int) := by omega
        have f := HH.out.chg hc (by simp)
        have c1 := f.cell (k := mid + m - 1 - t) (by rw [HI.out.hn]; omega)
        have c2 := f.cell (k := t) (by rw [HI.out.hn]; omega)
        have wx := HI.out.hW.at_ (k := mid + m - 1 - t) (by rw [HI.out.hn]; omega)
        have wy := HI.out.hW.at_ (k := t) (by rw [HI.out.hn]; omega)
        have hts := HI.out.test (i := t) (j := mid + m - 1 - t) (by omega) (by omega) (by omega) (by omega)
        have i1 : ((mid + m - 1 - t : Nat) : Int) < (n : Int) := by omega
        have i2 : (t : Int) < (n : Int) := by omega
        clear f ht
        by_cases hk : keyF (l.getD (mid + m - 1 - t) default).1 < keyF (l.getD t default).1
        · have hcmp := cmp_lt hk
          have HU := Lib.hid (hs.down HD.out t1 t2 (fun h => h (hts.1 hk)))
          clear hk hts hs
          generalize (l.getD t default).1 = y at *
          generalize (l.getD (mid + m - 1 - t) default).1 = x at *
          go_wp2_with fail
          go_quiet ((go_at_call 26; exact quiet_same (compare_any _ _ _ wx wy)))
          go_wp2_with fail
          go_roundw
          case rel => exact ⟨i, t, rfl, rfl, HU.out, hc.drewN _⟩
          case measure => simp [intOf]; omega
        · have hcmp := cmp_ge hk
          have HU := Lib.hid (hs.up HD.out t1 t2 (fun h => hk (hts.2 h)))
          clear hk hts hs
          generalize (l.getD t default).1 = y at *
          generalize (l.getD (mid + m - 1 - t) default).1 = x at *
          go_wp2_with fail
          go_quiet ((go_at_call 26; exact quiet_same (compare_any _ _ _ wx wy)))
          go_wp2_with fail
          go_roundw
          case rel => exact ⟨t + 1, j, by go_num, rfl, HU.out, hc.drewN _⟩
          case measure => simp [intOf]; omega
      · obtain rfl : i = j := by omega
        have cut := HC.out i hs
        have c1 := cut.se
        have c2 := cut.s1
        have c3 := cut.s2
        have c4 := cut.e1
        have c5 := cut.e2
        obtain ⟨e, he⟩ : ∃ e, e = mid + m - i := ⟨_, rfl⟩
        rw [← he] at cut c1 c4 c5
        have e5 : (mid : Int) + (m : Int) - (i : Int) = (e : Int) := by omega
        have HCUT := Lib.hid cut
        have hf := HH.out.chg hc (by simp)
        have hc := hc.mono (T := [g]) (by simp)
        clear hs cut he
        rcases (by omega : (i = m ∧ i < mid) ∨ (i = m ∧ i = mid) ∨ (i < m ∧ e = m) ∨ (i < m ∧ m < e ∧ a < i ∧ e < b) ∨ (i < m ∧ m < e ∧ a < i ∧ e = b) ∨ (i < m ∧ m < e ∧ a = i ∧ e < b) ∨ (i < m ∧ m < e ∧ a = i ∧ e = b)) with z | z | z | z | z | z | z
        · have d1 : decide (i < m) = false := by simp; omega
          have p2 : (a : Int) < (i : Int) := by omega
          have p3 : (i : Int) < (mid : Int) := by omega
          have d4 : decide (mid < e) = false := by simp; omega
          have k1 : i = m ∧ mid = e := by omega
          have K := Lib.hid k1
          clear k1
          have HR := Lib.hid (show Rot default l l i m e from Rot.none (by have := K.out; omega) (by omega) (by omega))
          clear z c1
          go_wp2_with fail
          refine (HIH.out g n c l R a i mid _ (by omega) hf (HI.out.left HCUT.out HR.out (by omega) (by omega) (by omega))).mono ?_
          rintro ev w2 ⟨rfl, C2, l2v, S2, hf⟩
          have HS2 := Lib.hid S2
          have hc := hc.trans C2 (U := [g]) (fun y hy => hy) (fun y hy _ => hy)
          clear S2 C2
          go_wp2_with fail
          have HS3 := Lib.hid (HI.out.right0 HCUT.out HR.out HS2.out (by have := K.out; omega))
          go_end0
          exact ⟨rfl, hc, l2v, HI.out.done HCUT.out HR.out HS2.out HS3.out (by omega) (by omega), hf⟩
        · have d1 : decide (i < m) = false := by simp; omega
          have p2 : (a : Int) < (i : Int) := by omega
          have d3 : decide (i < mid) = false := by simp; omega
          have d4 : decide (mid < e) = false := by simp; omega
          have k1 : i = m ∧ mid = e ∧ i = mid := by omega
          have K := Lib.hid k1
          clear k1
          have HR := Lib.hid (show Rot default l l i m e from Rot.none (by have := K.out; omega) (by omega) (by omega))
          clear z c1
          go_wp2_with fail
          have HS2 := Lib.hid (HI.out.left0 HCUT.out HR.out (by have := K.out; omega))
          have HS3 := Lib.hid (HI.out.right0 HCUT.out HR.out HS2.out (by have := K.out; omega))
          go_end0
          exact ⟨rfl, hc, l, HI.out.done HCUT.out HR.out HS2.out HS3.out (by omega) (by omega), hf⟩
        · have p1 : (i : Int) < (m : Int) := by omega
          have d2 : decide (m < e) = false := by simp; omega
          have p3 : (a : Int) < (i : Int) := by omega
          have d4 : decide (i < mid) = false := by simp; omega
          have p5 : (mid : Int) < (e : Int) := by omega
          have p6 : (e : Int) < (b : Int) := by omega
          have k1 : e = m ∧ i = mid := by omega
          have K := Lib.hid k1
          clear k1
          have HR := Lib.hid (show Rot default l l i m e from Rot.none (by have := K.out; omega) (by omega) (by omega))
          clear z c1
          go_wp2_with fail
          have HS2 := Lib.hid (HI.out.left0 HCUT.out HR.out (by have := K.out; omega))
          refine (HIH.out g n c l R mid e b _ (by omega) hf (HI.out.right HCUT.out HR.out HS2.out (by omega) (by omega))).mono ?_
          rintro ev w3 ⟨rfl, C3, l3v, S3, hf⟩
          have HS3 := Lib.hid S3
          have hc := hc.trans C3 (U := [g]) (fun y hy => hy) (fun y hy _ => hy)
          clear S3 C3
          go_wp2_with fail
          go_end0
          exact ⟨rfl, hc, l3v, HI.out.done HCUT.out HR.out HS2.out HS3.out (by omega) (by omega), hf⟩
        · have p1 : (i : Int) < (m : Int) := by omega
          have p2 : (m : Int) < (e : Int) := by omega
          have p3 : (i : Int) < (mid : Int) := by omega
          have p4 : (mid : Int) < (e : Int) := by omega
          have p5 : (a : Int) < (i : Int) := by omega
          have p6 : (e : Int) < (b : Int) := by omega
          clear z c1
          go_wp2_with fail
          refine (rotate_any g n c l R i m e cmpV _ hf HI.out.hn (by omega) (by omega) (by omega) hm).mono ?_
          rintro ev w1 ⟨rfl, C1, l1v, R1, hf⟩
          have HR := Lib.hid R1
          have hc := hc.trans C1 (U := [g]) (fun y hy => hy) (fun y hy _ => hy)
          clear R1 C1
          go_wp2_with fail
          refine (HIH.out g n c l1v R a i mid _ (by omega) hf (HI.out.left HCUT.out HR.out (by omega) (by omega) (by omega))).mono ?_
          rintro ev w2 ⟨rfl, C2, l2v, S2, hf⟩
          have HS2 := Lib.hid S2
          have hc := hc.trans C2 (U := [g]) (fun y hy => hy) (fun y hy _ => hy)
          clear S2 C2
          go_wp2_with fail
          refine (HIH.out g n c l2v R mid e b _ (by omega) hf (HI.out.right HCUT.out HR.out HS2.out (by omega) (by omega))).mono ?_
          rintro ev w3 ⟨rfl, C3, l3v, S3, hf⟩
          have HS3 := Lib.hid S3
          have hc := hc.trans C3 (U := [g]) (fun y hy => hy) (fun y hy _ => hy)
          clear S3 C3
          go_wp2_with fail
          go_end0
          exact ⟨rfl, hc, l3v, HI.out.done HCUT.out HR.out HS2.out HS3.out (by omega) (by omega), hf⟩
        · have p1 : (i : Int) < (m : Int) := by omega
          have p2 : (m : Int) < (e : Int) := by omega
          have p3 : (i : Int) < (mid : Int) := by omega
          have p4 : (mid : Int) < (e : Int) := by omega
          have p5 : (a : Int) < (i : Int) := by omega
          have d6 : decide (e < b) = false := by simp; omega
          have k1 : e = b := by omega
          have K := Lib.hid k1
          clear k1
          clear z c1
          go_wp2_with fail
          refine (rotate_any g n c l R i m e cmpV _ hf HI.out.hn (by omega) (by omega) (by omega) hm).mono ?_
          rintro ev w1 ⟨rfl, C1, l1v, R1, hf⟩
          have HR := Lib.hid R1
          have hc := hc.trans C1 (U := [g]) (fun y hy => hy) (fun y hy _ => hy)
          clear R1 C1
          go_wp2_with fail
          refine (HIH.out g n c l1v R a i mid _ (by omega) hf (HI.out.left HCUT.out HR.out (by omega) (by omega) (by omega))).mono ?_
          rintro ev w2 ⟨rfl, C2, l2v, S2, hf⟩
          have HS2 := Lib.hid S2
          have hc := hc.trans C2 (U := [g]) (fun y hy => hy) (fun y hy _ => hy)
          clear S2 C2
          go_wp2_with fail
          have HS3 := Lib.hid (HI.out.right0 HCUT.out HR.out HS2.out (by have := K.out; omega))
          go_end0
          exact ⟨rfl, hc, l2v, HI.out.done HCUT.out HR.out HS2.out HS3.out (by omega) (by omega), hf⟩
        · have p1 : (i : Int) < (m : Int) := by omega
          have p2 : (m : Int) < (e : Int) := by omega
          have p3 : (i : Int) < (mid : Int) := by omega
          have p4 : (mid : Int) < (e : Int) := by omega
          have d5 : decide (a < i) = false := by simp; omega
          have p6 : (e : Int) < (b : Int) := by omega
          have k1 : a = i := by omega
          have K := Lib.hid k1
          clear k1
          clear z c1
          go_wp2_with fail
          refine (rotate_any g n c l R i m e cmpV _ hf HI.out.hn (by omega) (by omega) (by omega) hm).mono ?_
          rintro ev w1 ⟨rfl, C1, l1v, R1, hf⟩
          have HR := Lib.hid R1
          have hc := hc.trans C1 (U := [g]) (fun y hy => hy) (fun y hy _ => hy)
          clear R1 C1
          go_wp2_with fail
          have HS2 := Lib.hid (HI.out.left0 HCUT.out HR.out (by have := K.out; omega))
          refine (HIH.out g n c l1v R mid e b _ (by omega) hf (HI.out.right HCUT.out HR.out HS2.out (by omega) (by omega))).mono ?_
          rintro ev w3 ⟨rfl, C3, l3v, S3, hf⟩
          have HS3 := Lib.hid S3
          have hc := hc.trans C3 (U := [g]) (fun y hy => hy) (fun y hy _ => hy)
          clear S3 C3
          go_wp2_with fail
          go_end0
          exact ⟨rfl, hc, l3v, HI.out.done HCUT.out HR.out HS2.out HS3.out (by omega) (by omega), hf⟩
        · have p1 : (i : Int) < (m : Int) := by omega
          have p2 : (m : Int) < (e : Int) := by omega
          have p3 : (i : Int) < (mid : Int) := by omega
          have p4 : (mid : Int) < (e : Int) := by omega
          have d5 : decide (a < i) = false := by simp; omega
          have d6 : decide (e < b) = false := by simp; omega
          have k1 : a = i ∧ e = b := by omega
          have K := Lib.hid k1
          clear k1
          clear z c1
          go_wp2_with fail
          refine (rotate_any g n c l R i m e cmpV _ hf HI.out.hn (by omega) (by omega) (by omega) hm).mono ?_
          rintro ev w1 ⟨rfl, C1, l1v, R1, hf⟩
          have HR := Lib.hid R1
          have hc := hc.trans C1 (U := [g]) (fun y hy => hy) (fun y hy _ => hy)
          clear R1 C1
          have HS2 := Lib.hid (HI.out.left0 HCUT.out HR.out (by have := K.out; omega))
          have HS3 := Lib.hid (HI.out.right0 HCUT.out HR.out HS2.out (by have := K.out; omega))
          go_wp2_with fail
          go_end0
          exact ⟨rfl, hc, l1v, HI.out.done HCUT.out HR.out HS2.out HS3.out (by omega) (by omega), hf⟩

theorem sym_all : ∀ N, SymAt N := by
  intro N
  induction N using Nat.strongRecOn with
  | _ N ih =>
    intro g n c l R a m b w hN h hI
    by_cases e1 : m = a + 1
    · subst e1; exact sym1_any g n c l R a b w h hI
    · by_cases e2 : b = m + 1
      · subst e2; exact sym2_any g n c l R a m w h hI e1
      · exact symG_any g n c l R a m b w h hI e1 e2 (ih (b - a) hN)

theorem symMerge_any (g n c : Nat) (l : List Tag) (R : List Value) (a m b : Nat) (w : World) (h : FlRow w g l R) (hI : MrgIn l a m b n) :
    Calls Try.prog 54 #[.slice (some ⟨g, 0, none⟩) n c, .int .i64 a, .int .i64 m, .int .i64 b, cmpV] w (SortPost g l R a b w) :=
  sym_all (b - a + 1) g n c l R a m b w (by omega) h hI
end Go.Proofs.Ytlcfokndkkjklaa

