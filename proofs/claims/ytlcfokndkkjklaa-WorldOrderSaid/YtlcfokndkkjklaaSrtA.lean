/-
  SymMerge: one element on the left, or one on the right.
-/
import Derived.Test.YtlcfokndkkjklaaSrtI
namespace Go.Proofs.Ytlcfokndkkjklaa
set_option linter.unusedVariables false
open Go.RowKit

attribute [local go_sem] run_store_float'

/-- What is asked of a merge. -/
structure MrgIn (l : List Tag) (a m b n : Nat) : Prop where
  hn : l.length = n
  h1 : a < m
  h2 : m < b
  hb : b ≤ n
  hm : n ≤ 1000000
  hW : AllW l
  hA : Apart default oT l
  hL : Asc default oT l a m
  hR : Asc default oT l m b
  hS : Sep default oT ltT l a m b

theorem MrgIn.test {l : List Tag} {a m b n : Nat} (h : MrgIn l a m b n) {i j : Nat} (i1 : a ≤ i) (i2 : i < m) (j1 : m ≤ j) (j2 : j < b) : keyF (l.getD j default).1 < keyF (l.getD i default).1 ↔ oT (l.getD j default) < oT (l.getD i default) := by
  have := h.hS i j i1 i2 j1 j2
  unfold ltT at this
  simpa using this

set_option maxRecDepth 100000 in
set_option maxHeartbeats 4000000 in
theorem sym1_any (g n c : Nat) (l : List Tag) (R : List Value) (a b : Nat) (w : World) (h : FlRow w g l R) (hI : MrgIn l a (a + 1) b n) :
    Calls Try.prog 54 #[.slice (some ⟨g, 0, none⟩) n c, .int .i64 a, .int .i64 ((a + 1 : Nat) : Int), .int .i64 b, cmpV] w (SortPost g l R a b w) := by
  have h2 := hI.h2
  have hb := hI.hb
  have hm := hI.hm
  have HH := Lib.hid h
  have HI := Lib.hid hI
  have e1 : (((a + 1 : Nat) : Int) - (a : Int) == 1) = true := by simp; omega
  have hdn : Dn (fun h => oT (l.getD h default) < oT (l.getD a default)) (a + 1) b := fun p q p1 p2 p3 hq => Nat.lt_trans (hI.hR p q p1 p2 p3) hq
  have HD := Lib.hid hdn
  clear h hI hdn
  go_enter Try.func54, Try.ntmps54
  go_wp2_with fail
  go_loopw [10, 11] (fun iv jv wr => ∃ (i j : Nat), iv = .int .i64 i ∧ jv = .int .i64 j ∧ BS (fun h => oT (l.getD h default) < oT (l.getD a default)) (a + 1) b i j ∧ Chg [] w wr) (fun iv jv _ => (intOf jv).toNat - (intOf iv).toNat)
  case atStart => exact ⟨a + 1, b, by go_num, rfl, BS.start _ (by omega), Chg.refl _ _⟩
  case round =>
    obtain ⟨i, j, rfl, rfl, hs, hc⟩ := hrel
    have s1 := hs.h1
    have s2 := hs.h2
    have s3 := hs.h3
    by_cases hlt : i < j
    · obtain ⟨t, ht⟩ : ∃ t, t = (i + j) / 2 := ⟨_, rfl⟩
      have t1 : i ≤ t := by omega
      have t2 : t < j := by omega
      have e3 : ((i : Int) + (j : Int)) / 2 = (t : Int) := by omega
      have f := HH.out.chg hc (by simp)
      have c1 := f.cell (k := t) (by rw [HI.out.hn]; omega)
      have c2 := f.cell (k := a) (by rw [HI.out.hn]; omega)
      have wx := HI.out.hW.at_ (k := t) (by rw [HI.out.hn]; omega)
      have wy := HI.out.hW.at_ (k := a) (by rw [HI.out.hn]; omega)
      have hts := HI.out.test (i := a) (j := t) (Nat.le_refl _) (by omega) (by omega) (by omega)
      clear f ht
      have i1 : (t : Int) < (n : Int) := by omega
      have i2 : (a : Int) < (n : Int) := by omega
      by_cases hk : keyF (l.getD t default).1 < keyF (l.getD a default).1
      · have hcmp := cmp_lt hk
        have HU := Lib.hid (hs.up HD.out t1 t2 (hts.1 hk))
        clear hk hts hs
        generalize (l.getD t default).1 = x at *
        generalize (l.getD a default).1 = y at *
        go_wp2_with fail
        go_quiet ((go_at_call 26; exact quiet_same (compare_any _ _ _ wx wy)))
        go_wp2_with fail
        go_roundw
        case rel => exact ⟨t + 1, j, by go_num, rfl, HU.out, hc.drewN _⟩
        case measure => simp [intOf]; omega
      · have hcmp := cmp_ge hk
        have HU := Lib.hid (hs.down HD.out t1 t2 (fun h => hk (hts.2 h)))
        clear hk hts hs
        generalize (l.getD t default).1 = x at *
        generalize (l.getD a default).1 = y at *
        go_wp2_with fail
        go_quiet ((go_at_call 26; exact quiet_same (compare_any _ _ _ wx wy)))
        go_wp2_with fail
        go_roundw
        case rel => exact ⟨i, t, rfl, rfl, HU.out, hc.drewN _⟩
        case measure => simp [intOf]; omega
    · obtain rfl : i = j := by omega
      have HS := Lib.hid hs
      have HF := Lib.hid (HH.out.chg hc (by simp))
      clear hs
      go_wp2_with fail
      obtain ⟨wo, hwo⟩ : ∃ wo : World, wo = wr := ⟨_, rfl⟩
      rw [← hwo] at HF hc ⊢
      clear hwo
      go_loopw [13] (fun kv wr => ∃ (k : Nat) (l' : List Tag), kv = .int .i64 k ∧ a ≤ k ∧ k ≤ i - 1 ∧ ShU default l l' a k ∧ FlRow wr g l' R ∧ Chg [g] w wr) (fun kv _ => i - (intOf kv).toNat)
      case atStart => exact ⟨a, l, rfl, Nat.le_refl _, by omega, ShU.start l a, HF.out, hc.mono (by simp)⟩
      case round =>
        obtain ⟨k, l', rfl, k1, k2, hsh, hf, hc⟩ := hrel
        have hl' := Lib.hid (hsh.mv.len.trans HI.out.hn)
        by_cases hki : k < i - 1
        · have c1 := hf.cell (k := k) (by rw [hl'.out]; omega)
          have c2 := hf.cell (k := k + 1) (by rw [hl'.out]; omega)
          have f1 := hf.free k
          have f2 := hf.free (k + 1)
          have HST := Lib.hid (hsh.step (by rw [HI.out.hn]; omega) k1)
          have HF2 := Lib.hid (hf.swap (i := k) (j := k + 1) (by rw [hl'.out]; omega) (by rw [hl'.out]; omega) _ _ rfl rfl)
          generalize (l'.getD k default).1 = x at *
          generalize (l'.getD (k + 1) default).1 = y at *
          have i1 : (k : Int) < (n : Int) := by omega
          have i2 : (k : Int) + 1 < (n : Int) := by omega
          have i3 : (k : Int) < (i : Int) - 1 := by omega
          clear hsh hf
          go_wp2_with fail
          go_region
          all_goals go_wp2_with fail
          go_roundw
          case rel => exact ⟨k + 1, _, by go_num, by omega, by omega, HST.out, HF2.out, (hc.trans (swap_chg _ _ _ _ _ _) (fun y hy => hy) (fun y hy _ => hy)).drew⟩
          case measure => simp [intOf]; omega
        · obtain rfl : k = i - 1 := by omega
          have i3 : ¬ ((i - 1 : Nat) : Int) < (i : Int) - 1 := by omega
          have HE := Lib.hid (merge_left (by rw [HI.out.hn]; exact hb) h2 HI.out.hA HI.out.hR HS.out hsh)
          clear hsh
          go_wp2_with fail
          go_end0
          exact ⟨rfl, hc, l', HE.out, hf⟩

set_option maxRecDepth 100000 in
set_option maxHeartbeats 4000000 in
theorem sym2_any (g n c : Nat) (l : List Tag) (R : List Value) (a m : Nat) (w : World) (h : FlRow w g l R) (hI : MrgIn l a m (m + 1) n) (hne : m ≠ a + 1) :
    Calls Try.prog 54 #[.slice (some ⟨g, 0, none⟩) n c, .int .i64 a, .int .i64 m, .int .i64 ((m + 1 : Nat) : Int), cmpV] w (SortPost g l R a (m + 1) w) := by
  have h1 := hI.h1
  have hb := hI.hb
  have hm := hI.hm
  have HH := Lib.hid h
  have HI := Lib.hid hI
  have e1 : ((m : Int) - (a : Int) == 1) = false := by simp; omega
  have e2 : (((m + 1 : Nat) : Int) - (m : Int) == 1) = true := by simp; omega
  have hdn : Dn (fun h => ¬ oT (l.getD m default) < oT (l.getD h default)) a m := fun p q p1 p2 p3 hq hp => hq (Nat.lt_trans hp (hI.hL p q p1 p2 p3))
  have HD := Lib.hid hdn
  clear h hI hdn
  go_enter Try.func54, Try.ntmps54
  go_wp2_with fail
  go_loopw [14, 15] (fun iv jv wr => ∃ (i j : Nat), iv = .int .i64 i ∧ jv = .int .i64 j ∧ BS (fun h => ¬ oT (l.getD m default) < oT (l.getD h default)) a m i j ∧ Chg [] w wr) (fun iv jv _ => (intOf jv).toNat - (intOf iv).toNat)
  case atStart => exact ⟨a, m, rfl, rfl, BS.start _ (by omega), Chg.refl _ _⟩
  case round =>
    obtain ⟨i, j, rfl, rfl, hs, hc⟩ := hrel
    have s1 := hs.h1
    have s2 := hs.h2
    have s3 := hs.h3
    by_cases hlt : i < j
    · obtain ⟨t, ht⟩ : ∃ t, t = (i + j) / 2 := ⟨_, rfl⟩
      have t1 : i ≤ t := by omega
      have t2 : t < j := by omega
      have e3 : ((i : Int) + (j : Int)) / 2 = (t : Int) := by omega
      have f := HH.out.chg hc (by simp)
      have c1 := f.cell (k := t) (by rw [HI.out.hn]; omega)
      have c2 := f.cell (k := m) (by rw [HI.out.hn]; omega)
      have wx := HI.out.hW.at_ (k := m) (by rw [HI.out.hn]; omega)
      have wy := HI.out.hW.at_ (k := t) (by rw [HI.out.hn]; omega)
      have hts := HI.out.test (i := t) (j := m) (by omega) (by omega) (Nat.le_refl _) (by omega)
      clear f ht
      have i1 : (t : Int) < (n : Int) := by omega
      have i2 : (m : Int) < (n : Int) := by omega
      by_cases hk : keyF (l.getD m default).1 < keyF (l.getD t default).1
      · have hcmp := cmp_lt hk
        have HU := Lib.hid (hs.down HD.out t1 t2 (fun h => h (hts.1 hk)))
        clear hk hts hs
        generalize (l.getD t default).1 = y at *
        generalize (l.getD m default).1 = x at *
        go_wp2_with fail
        go_quiet ((go_at_call 26; exact quiet_same (compare_any _ _ _ wx wy)))
        go_wp2_with fail
        go_roundw
        case rel => exact ⟨i, t, rfl, rfl, HU.out, hc.drewN _⟩
        case measure => simp [intOf]; omega
      · have hcmp := cmp_ge hk
        have HU := Lib.hid (hs.up HD.out t1 t2 (fun h => hk (hts.2 h)))
        clear hk hts hs
        generalize (l.getD t default).1 = y at *
        generalize (l.getD m default).1 = x at *
        go_wp2_with fail
        go_quiet ((go_at_call 26; exact quiet_same (compare_any _ _ _ wx wy)))
        go_wp2_with fail
        go_roundw
        case rel => exact ⟨t + 1, j, by go_num, rfl, HU.out, hc.drewN _⟩
        case measure => simp [intOf]; omega
    · obtain rfl : i = j := by omega
      have HS := Lib.hid hs
      have HF := Lib.hid (HH.out.chg hc (by simp))
      clear hs
      go_wp2_with fail
      obtain ⟨wo, hwo⟩ : ∃ wo : World, wo = wr := ⟨_, rfl⟩
      rw [← hwo] at HF hc ⊢
      clear hwo
      go_loopw [17] (fun kv wr => ∃ (k : Nat) (l' : List Tag), kv = .int .i64 k ∧ i ≤ k ∧ k ≤ m ∧ ShD default l l' m k ∧ FlRow wr g l' R ∧ Chg [g] w wr) (fun kv _ => (intOf kv).toNat)
      case atStart => exact ⟨m, l, rfl, by omega, Nat.le_refl _, ShD.start l m, HF.out, hc.mono (by simp)⟩
      case round =>
        obtain ⟨k, l', rfl, k1, k2, hsh, hf, hc⟩ := hrel
        have hl' := Lib.hid (hsh.mv.len.trans HI.out.hn)
        by_cases hki : i < k
        · have c1 := hf.cell (k := k) (by rw [hl'.out]; omega)
          have c2 := hf.cell (k := k - 1) (by rw [hl'.out]; omega)
          have f1 := hf.free k
          have f2 := hf.free (k - 1)
          have HST := Lib.hid (hsh.step (by rw [HI.out.hn]; omega) k2 (by omega))
          have HF2 := Lib.hid (hf.swap (i := k) (j := k - 1) (by rw [hl'.out]; omega) (by rw [hl'.out]; omega) _ _ rfl rfl)
          generalize (l'.getD k default).1 = x at *
          generalize (l'.getD (k - 1) default).1 = y at *
          have i1 : (k : Int) < (n : Int) := by omega
          have i2 : (k : Int) - 1 < (n : Int) := by omega
          have i3 : (k : Int) - 1 = ((k - 1 : Nat) : Int) := by omega
          have d1 : ¬ k = k - 1 := by omega
          have d2 : ¬ k - 1 = k := by omega
          clear hsh hf
          go_wp2_with fail
          go_region
          all_goals go_wp2_with fail
          go_roundw
          case rel => exact ⟨k - 1, _, rfl, by omega, by omega, HST.out, HF2.out, (hc.trans (swap_chg _ _ _ _ _ _) (fun y hy => hy) (fun y hy _ => hy)).drew⟩
          case measure => simp [intOf]; omega
        · obtain rfl : k = i := by omega
          have HE := Lib.hid (merge_right (by rw [HI.out.hn]; omega) HI.out.hA HI.out.hL HS.out hsh)
          clear hsh
          go_wp2_with fail
          go_end0
          exact ⟨rfl, hc, l', HE.out, hf⟩
end Go.Proofs.Ytlcfokndkkjklaa
