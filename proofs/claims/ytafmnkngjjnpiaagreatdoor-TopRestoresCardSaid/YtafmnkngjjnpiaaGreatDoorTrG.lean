import Derived.Test.YtafmnkngjjnpiaaGreatDoorTvC
import Derived.Test.YtafmnkngjjnpiaaGreatDoorTrB
import Derived.Test.YtafmnkngjjnpiaaGreatDoorTpA
namespace Go.Proofs.YtafmnkngjjnpiaaGreatDoor
set_option maxRecDepth 100000
set_option linter.unusedVariables false
set_option linter.unusedSimpArgs false
theorem dec_one (n a b c d : Nat) (ha : a < 128) : Lib.decodeN n a b c d = (a, 1) := by unfold Lib.decodeN; rw [if_pos ha]
theorem dec_two (n a b c d : Nat) (ha : 194 ≤ a ∧ a ≤ 223) (hb : 128 ≤ b ∧ b ≤ 191) (hn : 1 < n) : Lib.decodeN n a b c d = (a % 32 * 64 + b % 64, 2) := by
  unfold Lib.decodeN
  rw [if_neg (by omega), if_pos (by omega), if_pos (by omega)]
theorem dec_three (n a b c d : Nat) (ha : 224 ≤ a ∧ a ≤ 239) (hb : 128 ≤ b ∧ b ≤ 191) (h1 : a = 224 → 160 ≤ b) (h2 : a = 237 → b ≤ 159) (hc : 128 ≤ c ∧ c ≤ 191) (hn : 2 < n) : Lib.decodeN n a b c d = (a % 16 * 4096 + b % 64 * 64 + c % 64, 3) := by
  unfold Lib.decodeN
  rw [if_neg (by omega), if_neg (by omega), if_pos (by omega), if_pos (by omega)]
theorem dec_four (n a b c d : Nat) (ha : 240 ≤ a ∧ a ≤ 244) (hb : 128 ≤ b ∧ b ≤ 191) (h1 : a = 240 → 144 ≤ b) (h2 : a = 244 → b ≤ 143) (hc : 128 ≤ c ∧ c ≤ 191) (hd : 128 ≤ d ∧ d ≤ 191) (hn : 3 < n) : Lib.decodeN n a b c d = (a % 8 * 262144 + b % 64 * 4096 + c % 64 * 64 + d % 64, 4) := by
  unfold Lib.decodeN
  rw [if_neg (by omega), if_neg (by omega), if_neg (by omega), if_pos (by omega), if_pos (by omega)]
theorem sec_all {a b : Int} (h : secR a b = true) : (128 ≤ b ∧ b ≤ 191) ∧ (a = 224 → 160 ≤ b) ∧ (a = 237 → b ≤ 159) ∧ (a = 240 → 144 ≤ b) ∧ (a = 244 → b ≤ 143) := by
  unfold secR at h
  repeat' (split at h)
  all_goals (have := of_decide_eq_true h; omega)
theorem refL_ok {l : List Int} {n f i : Nat} {c : Int} (h : (refL l n (f + 1) i c).2.2 = 0) : i ≠ l.length ∧ badR l i = false ∧ refL l n (f + 1) i c = refL l n f (i + 1) (64 * c + l.getD i 0 - 128) := by
  unfold refL at h
  by_cases h1 : i = l.length
  · rw [if_pos h1] at h
    exact absurd h (show ¬ (7 : Int) = 0 by decide)
  · rw [if_neg h1] at h
    by_cases h2 : badR l i = true
    · rw [if_pos h2] at h
      exact absurd h (show ¬ (8 : Int) = 0 by decide)
    · refine ⟨h1, by simpa using h2, ?_⟩
      conv => lhs; unfold refL
      rw [if_neg h1, if_neg h2]
theorem bad_one {l : List Int} (h : badR l 1 = false) : secR (l.getD 0 0) (l.getD 1 0) = true := by
  unfold badR at h
  rw [if_pos rfl] at h
  simpa using h
theorem bad_more {l : List Int} {i : Nat} (hi : i ≠ 1) (h : badR l i = false) : 128 ≤ l.getD i 0 ∧ l.getD i 0 ≤ 191 := by
  unfold badR at h
  rw [if_neg hi, Bool.or_eq_false_iff] at h
  have h1 := of_decide_eq_false h.1
  have h2 := of_decide_eq_false h.2
  omega
theorem byN_eq {l : List Int} {i : Nat} (h : 0 ≤ l.getD i 0) : (byN l i : Int) = l.getD i 0 := by
  unfold byN
  omega
theorem refN_next {l : List Int} (hb : ByR l) (h : (refN l).2.2 = 0) : nextU l = refN l := by
  by_cases h0 : l.length = 0
  · unfold refN at h
    rw [if_pos h0] at h
    exact absurd h (show ¬ (6 : Int) = 0 by decide)
  have hA : 0 ≤ l.getD 0 0 ∧ l.getD 0 0 < 256 := byte_at hb rfl (by omega)
  have eA := byN_eq hA.1
  have hU : decU l = Lib.decodeN l.length (byN l 0) (byN l 1) (byN l 2) (byN l 3) := by unfold decU; rw [if_neg h0]
  have key : ∀ r : Nat × Nat, decU l = r → r.1 ≠ 65533 ∨ 1 < r.2 → nextU l = (((r.1 : Nat) : Int), r.2, 0) := by
    intro r hr hd
    unfold nextU
    rw [if_neg h0, hr, if_pos hd]
  unfold refN at h ⊢
  rw [if_neg h0] at h ⊢
  by_cases z0 : sizeR (l.getD 0 0) = 0
  · rw [if_pos z0] at h
    exact absurd h (show ¬ (8 : Int) = 0 by decide)
  rw [if_neg z0] at h ⊢
  by_cases z1 : sizeR (l.getD 0 0) = 1
  · rw [if_pos z1]
    have ha : l.getD 0 0 < 128 := by
      unfold sizeR at z1
      split at z1
      · assumption
      · repeat' (split at z1)
        all_goals (exact absurd z1 (by decide))
    rw [key (byN l 0, 1) (by rw [hU]; exact dec_one _ _ _ _ _ (by omega)) (Or.inl (by dsimp only; omega))]
    dsimp only
    rw [eA]
  rw [if_neg z1] at h ⊢
  have hs : (sizeR (l.getD 0 0) = 2 ∧ 194 ≤ l.getD 0 0 ∧ l.getD 0 0 ≤ 223) ∨ (sizeR (l.getD 0 0) = 3 ∧ 224 ≤ l.getD 0 0 ∧ l.getD 0 0 ≤ 239) ∨ (sizeR (l.getD 0 0) = 4 ∧ 240 ≤ l.getD 0 0 ∧ l.getD 0 0 ≤ 244) := by
    unfold sizeR at z0 z1 ⊢
    split
    · rename_i g
      rw [if_pos g] at z1
      exact absurd rfl z1
    · rename_i g
      rw [if_neg g] at z0
      split
      · exact Or.inl ⟨rfl, by assumption⟩
      · rename_i g2
        rw [if_neg g2] at z0
        split
        · exact Or.inr (Or.inl ⟨rfl, by assumption⟩)
        · rename_i g3
          rw [if_neg g3] at z0
          split
          · exact Or.inr (Or.inr ⟨rfl, by assumption⟩)
          · rename_i g4
            rw [if_neg g4] at z0
            exact absurd rfl z0
  rcases hs with ⟨e, ha⟩ | ⟨e, ha⟩ | ⟨e, ha⟩
  · rw [e] at h ⊢
    have r1 := refL_ok (f := 0) h
    have s1 := sec_all (bad_one r1.2.1)
    have e1 := byN_eq (l := l) (i := 1) (by omega)
    have q : refL l (Int.toNat 2) (Int.toNat 2 - 1) 1 (remR 2 (l.getD 0 0)) = _ := r1.2.2
    rw [q, key _ (hU.trans (dec_two _ _ _ _ _ (by omega) (by omega) (by omega))) (Or.inr (show 1 < (_, _).2 from by dsimp only; decide))]
    unfold refL remR
    rw [if_pos rfl]
    refine Prod.ext ?_ rfl
    dsimp only
    omega
  · rw [e] at h ⊢
    have r1 := refL_ok (f := 1) h
    have h' := h
    have q : refL l (Int.toNat 3) (Int.toNat 3 - 1) 1 (remR 3 (l.getD 0 0)) = _ := r1.2.2
    rw [q] at h'
    have r2 := refL_ok (f := 0) h'
    have s1 := sec_all (bad_one r1.2.1)
    have s2 : 128 ≤ l.getD 2 0 ∧ l.getD 2 0 ≤ 191 := bad_more (by decide) r2.2.1
    have g2 : l.getD (1 + 1) 0 = l.getD 2 0 := rfl
    have e1 := byN_eq (l := l) (i := 1) (by omega)
    have e2 := byN_eq (l := l) (i := 2) (by omega)
    rw [q, r2.2.2, key _ (hU.trans (dec_three _ _ _ _ _ (by omega) (by omega) (by omega) (by omega) (by omega) (by omega))) (Or.inr (show 1 < (_, _).2 from by dsimp only; decide))]
    unfold refL remR
    rw [if_neg (by decide), if_pos rfl]
    refine Prod.ext ?_ rfl
    dsimp only
    omega
  · rw [e] at h ⊢
    have r1 := refL_ok (f := 2) h
    have h' := h
    have q : refL l (Int.toNat 4) (Int.toNat 4 - 1) 1 (remR 4 (l.getD 0 0)) = _ := r1.2.2
    rw [q] at h'
    have r2 := refL_ok (f := 1) h'
    rw [r2.2.2] at h'
    have r3 := refL_ok (f := 0) h'
    have s1 := sec_all (bad_one r1.2.1)
    have s2 : 128 ≤ l.getD 2 0 ∧ l.getD 2 0 ≤ 191 := bad_more (by decide) r2.2.1
    have g2 : l.getD (1 + 1) 0 = l.getD 2 0 := rfl
    have s3 : 128 ≤ l.getD 3 0 ∧ l.getD 3 0 ≤ 191 := bad_more (by decide) r3.2.1
    have g3 : l.getD (1 + 1 + 1) 0 = l.getD 3 0 := rfl
    have e1 := byN_eq (l := l) (i := 1) (by omega)
    have e2 := byN_eq (l := l) (i := 2) (by omega)
    have e3 := byN_eq (l := l) (i := 3) (by omega)
    rw [q, r2.2.2, r3.2.2, key _ (hU.trans (dec_four _ _ _ _ _ (by omega) (by omega) (by omega) (by omega) (by omega) (by omega) (by omega))) (Or.inr (show 1 < (_, _).2 from by dsimp only; decide))]
    unfold refL remR
    rw [if_neg (by decide), if_neg (by decide)]
    refine Prod.ext ?_ rfl
    dsimp only
    omega
def fineR : Nat → List Int → Bool
  | 0, t => true
  | f + 1, t => if t.length = 0 then true else if (refN t).2.2 = 0 ∧ shownU (refN t).1 = true then fineR f (t.drop (refN t).2.1) else false
theorem fineR_fine : ∀ (f : Nat) (t : List Int), ByR t → fineR f t = true → fineU f t = true
  | 0, t, _, _ => rfl
  | f + 1, t, hb, h => by
    unfold fineR at h
    unfold fineU
    by_cases h0 : t.length = 0
    · rw [if_pos h0]
    · rw [if_neg h0] at h ⊢
      by_cases h1 : (refN t).2.2 = 0 ∧ shownU (refN t).1 = true
      · rw [if_pos h1] at h
        rw [refN_next hb h1.1, if_pos h1]
        exact fineR_fine f _ (fun x hx => hb x (List.mem_of_mem_drop hx)) h
      · rw [if_neg h1] at h
        cases h
theorem refL_len (l : List Int) (n : Nat) : ∀ (f i : Nat) (c : Int), 1 ≤ i → 1 ≤ n → 1 ≤ (refL l n f i c).2.1
  | 0, i, c, h1, hn => by unfold refL; exact hn
  | f + 1, i, c, h1, hn => by
    unfold refL
    split
    · exact h1
    · split
      · exact h1
      · exact refL_len l n f (i + 1) _ (by omega) hn
end Go.Proofs.YtafmnkngjjnpiaaGreatDoor

namespace Go.Proofs.YtafmnkngjjnpiaaGreatDoor
set_option linter.unusedVariables false
set_option linter.unusedSimpArgs false
set_option maxRecDepth 100000
open Go.RowKit
theorem refL_le (l : List Int) (n : Nat) : ∀ (f i : Nat) (c : Int), i ≤ l.length → i + f = n → (refL l n f i c).2.2 = 0 → (refL l n f i c).2.1 ≤ l.length
  | 0, i, c, hi, he, h => by unfold refL; show n ≤ l.length; omega
  | f + 1, i, c, hi, he, h => by
    have r := refL_ok h
    rw [r.2.2] at h ⊢
    exact refL_le l n f (i + 1) _ (by omega) (by omega) h
theorem refN_len {l : List Int} (h : (refN l).2.2 = 0) : 1 ≤ (refN l).2.1 ∧ (refN l).2.1 ≤ l.length := by
  unfold refN at h ⊢
  by_cases h0 : l.length = 0
  · rw [if_pos h0] at h
    exact absurd h (show ¬ (6 : Int) = 0 by decide)
  rw [if_neg h0] at h ⊢
  rcases size_cases (l.getD 0 0) with e | e | ⟨N, e, h2, h4⟩
  · rw [if_pos e] at h
    exact absurd h (show ¬ (8 : Int) = 0 by decide)
  · rw [if_neg (by omega), if_pos e]
    dsimp only
    omega
  · rw [if_neg (by omega), if_neg (by omega), e] at h ⊢
    rw [Int.toNat_natCast] at h ⊢
    exact ⟨refL_len _ _ _ _ _ (by omega) (by omega), refL_le _ _ _ _ _ (by omega) (by omega) h⟩
theorem fineR_nil (f : Nat) {t : List Int} (h : t.length = 0) : fineR f t = true := by
  cases f with
  | zero => rfl
  | succ f => unfold fineR; rw [if_pos h]
set_option maxHeartbeats 16000000 in
theorem rfineT_any (ao : Option Addr) (n c : Nat) (l : List Int) (w : World) (h : SrcAt w ao n c (valsOf .u8 l)) (hb : ByR l) (hn : n ≤ 140737488355328) (hc : n ≤ c) :
    Calls Tryz.prog 61 #[.slice ao n c] w fun e w' => e = .returned (.bool (fineR n l)) ∧ Chg [] w w' := by
  have HL := Lib.hid h.len
  have HS := Lib.hid (And.intro h hb)
  obtain ⟨R, hR⟩ : ∃ R, fineR n l = R := ⟨_, rfl⟩
  rw [hR]
  have HR := Lib.hid hR
  clear h hb hR
  go_enter Tryz.func61, Tryz.ntmps61
  go_wp2_with fail
  go_loopw [3] (fun i wr => ∃ (k j : Nat), i = .int .i64 k ∧ k ≤ n ∧ j ≤ k ∧ fineR (n - j) (l.drop k) = R ∧ Chg [] w wr) (fun i _ => n - (intOf i).toNat)
  case atStart => exact ⟨0, 0, rfl, Nat.zero_le _, Nat.le_refl _, by rw [List.drop_zero]; exact HR.out, Chg.refl _ _⟩
  case round =>
    obtain ⟨k, j, rfl, hk, hj, hf, hC⟩ := hrel
    have HC := Lib.hid hC
    have HJ := Lib.hid hj
    have hll := HL.out
    rcases Nat.lt_or_ge k n with hlt | hge
    · rw [show n - j = (n - j - 1) + 1 by omega] at hf
      unfold fineR at hf
      rw [if_neg (by rw [List.length_drop]; omega)] at hf
      have hs := (HS.out.1.from (k := k) (by omega) hc).chg0 hC
      have hnk : ¬ c = k := by omega
      rw [fromA, if_neg hnk] at hs
      obtain ⟨g, off, rfl, _⟩ := HS.out.1.int hlt
      simp only [Option.map_some, Addr.add_lit] at hs
      have hN := rnext_any _ _ _ _ _ hs (fun x hx => HS.out.2 x (List.mem_of_mem_drop hx)) (by omega)
      unfold RNextPost at hN
      have hle := @refN_len (l.drop k)
      obtain ⟨uc, un, ue, hU⟩ : ∃ uc un ue, refN (l.drop k) = (uc, un, ue) := ⟨_, _, _, rfl⟩
      rw [hU] at hN hf hle
      dsimp only at hN hf hle
      rw [List.length_drop] at hle
      have HN := Lib.hid hN
      have HP := Lib.hid (fun W => rprintable_any uc W)
      clear hN hU hC hj hs HR HS
      by_cases he : ue = 0
      · subst he
        have hle2 := hle rfl
        clear hle
        cases hsh : shownU uc with
        | true =>
          rw [hsh, if_pos ⟨rfl, rfl⟩] at hf
          rw [hsh] at HP
          have HF := Lib.hid hf
          clear hf hsh
          obtain ⟨N, hNN⟩ : ∃ N : Nat, N = k + un := ⟨_, rfl⟩
          have e1 : (k : Int) + (un : Int) = (N : Int) := by omega
          have e2 : (N : Int) ≤ 140737488355328 := by omega
          have HNN := Lib.hid hNN
          clear hNN
          go_wp2_with fail
          refine (HN.out).mono ?_
          rintro e w2 ⟨rfl, C2⟩
          have HC2 := Lib.hid C2
          clear C2
          go_wp2_with fail
          refine (HP.out _).mono ?_
          rintro e w3 ⟨rfl, rfl⟩
          go_wp2_with fail
          have hj := HJ.out
          have hNN := HNN.out
          have hfx := HF.out
          rw [List.drop_drop, ← hNN] at hfx
          refine ⟨⟨N, j + 1, rfl, by omega, by omega, by rw [show n - (j + 1) = n - j - 1 by omega]; exact hfx, HC.out.trans HC2.out (U := []) (by simp) (by simp)⟩, ?_⟩
          show n - (N : Int).toNat < n - (k : Int).toNat
          omega
        | false =>
          rw [hsh, if_neg (by intro h; cases h.2)] at hf
          rw [hsh] at HP
          have HF := Lib.hid hf
          clear hf hsh
          go_wp2_with fail
          refine (HN.out).mono ?_
          rintro e w2 ⟨rfl, C2⟩
          have HC2 := Lib.hid C2
          clear C2
          go_wp2_with fail
          refine (HP.out _).mono ?_
          rintro e w3 ⟨rfl, rfl⟩
          go_wp2_with fail
          have hff := HF.out
          subst hff
          go_ret
          exact ⟨rfl, HC.out.trans HC2.out (U := []) (by simp) (by simp)⟩
      · rw [if_neg (fun h => he h.1)] at hf
        have HF := Lib.hid hf
        have t1 : (ue != 0) = true := by simpa using he
        clear hf he
        go_wp2_with fail
        refine (HN.out).mono ?_
        rintro e w2 ⟨rfl, C2⟩
        have HC2 := Lib.hid C2
        clear C2
        go_wp2_with fail
        have hff := HF.out
        subst hff
        go_ret
        exact ⟨rfl, HC.out.trans HC2.out (U := []) (by simp) (by simp)⟩
    · obtain rfl : k = n := by omega
      have hf2 := hf
      rw [fineR_nil _ (by rw [List.length_drop]; omega)] at hf2
      subst hf2
      clear hf HR HS hC hj
      go_wp2_with fail
      go_ret
      exact ⟨rfl, HC.out⟩
end Go.Proofs.YtafmnkngjjnpiaaGreatDoor

namespace Go.Proofs.YtafmnkngjjnpiaaGreatDoor
set_option linter.unusedVariables false
set_option linter.unusedSimpArgs false
set_option maxRecDepth 100000
open Go.RowKit
def askR (s : ByteArray) (mode room : Int) : Int := if fineR s.size (bI s) = false then 8 else if 256 < s.size then 10 else if mode < 0 ∨ 2 < mode then 9 else if room < 0 then 3 else 0
theorem askR_ok {s : ByteArray} {mode room : Int} (h : askR s mode room = 0) (n : Nat) : AskOk s mode (n : Nat) := by
  unfold askR at h
  by_cases h1 : fineR s.size (bI s) = false
  · rw [if_pos h1] at h
    cases h
  rw [if_neg h1] at h
  by_cases h2 : 256 < s.size
  · rw [if_pos h2] at h
    cases h
  rw [if_neg h2] at h
  by_cases h3 : mode < 0 ∨ 2 < mode
  · rw [if_pos h3] at h
    cases h
  refine ⟨?_, by omega, by omega, by omega, by omega⟩
  rw [bI_length]
  exact fineR_fine _ _ (bI_by s) (by simpa using h1)
set_option maxHeartbeats 8000000 in
theorem ask_text (s : ByteArray) (mode room : Int) (w : World) (hs : s.size ≤ 140737488355328) (hf : fineR s.size (bI s) = false) :
    Calls Tryz.prog 38 #[.agg #[.string s, .int .i64 mode, .int .i64 room]] w fun e w' => e = .returned (.int .i64 8) ∧ Chg [] w w' := by
  have B1 := alloc_heap w (.cells #[.string s, .int .i64 mode, .int .i64 room] 76)
  have C1 : Chg [] w (w.alloc (.cells #[.string s, .int .i64 mode, .int .i64 room] 76)) := (Chg.refl _ _).alloc _
  have x0 : (w.alloc (.cells #[.string s, .int .i64 mode, .int .i64 room] 76)).cell? ⟨w.heap.size, 0, none⟩ = some (.string s) := by rw [cell_of_heap B1]; rfl
  have hcv := fun W => Lib.run_convert_string_bytes (P := Tryz.prog) W 9 22 5 s Tryz.underlying9 Tryz.underlying22 Tryz.underlying5
  have HE := Lib.hid (And.intro B1 C1)
  clear B1 C1
  go_enter Tryz.func38, Tryz.ntmps38
  go_wp2_with fail
  have HW := Lib.hid (And.intro (bytesWorld_chg (w.alloc (.cells #[.string s, .int .i64 mode, .int .i64 room] 76)) 5 s) (And.intro (src_bytes (w.alloc (.cells #[.string s, .int .i64 mode, .int .i64 room] 76)) 5 s (w.heap.size + 1) (by simp)) (grown_le (w.alloc (.cells #[.string s, .int .i64 mode, .int .i64 room] 76)) s.size 5)))
  generalize hw3 : Lib.bytesWorld _ _ _ = w3 at *
  generalize grownCap _ _ _ _ = cc at *
  have HX := Lib.hid (And.intro (HE.out.2.trans HW.out.1 (U := []) (by simp) (by simp)) (HW.out.1.heap HE.out.1 (by simp)))
  have hcc := HW.out.2.2
  have HS := Lib.hid HW.out.2.1
  clear hw3 HE HW x0 hcv
  refine (rfineT_any _ _ _ _ _ HS.out (bI_by s) hs hcc).mono ?_
  rintro e w4 ⟨rfl, C4⟩
  have B4 := C4.heap HX.out.2 (by simp)
  have y0 : w4.cell? ⟨w.heap.size, 0, none⟩ = some (.string s) := by rw [cell_of_heap B4]; rfl
  have y1 : w4.cell? ⟨w.heap.size, 1, none⟩ = some (.int .i64 mode) := by rw [cell_of_heap B4]; rfl
  have y2 : w4.cell? ⟨w.heap.size, 2, none⟩ = some (.int .i64 room) := by rw [cell_of_heap B4]; rfl
  have HC := Lib.hid (HX.out.1.trans C4 (U := []) (by simp) (by simp))
  clear HX HS B4 C4 hcc
  rw [hf]
  go_wp2_with fail
  go_ret
  exact ⟨rfl, HC.out⟩
set_option maxHeartbeats 8000000 in
theorem ask_long (s : ByteArray) (mode room : Int) (w : World) (hs : s.size ≤ 140737488355328) (hf : fineR s.size (bI s) = true) (h2 : 256 < s.size) :
    Calls Tryz.prog 38 #[.agg #[.string s, .int .i64 mode, .int .i64 room]] w fun e w' => e = .returned (.int .i64 10) ∧ Chg [] w w' := by
  have B1 := alloc_heap w (.cells #[.string s, .int .i64 mode, .int .i64 room] 76)
  have C1 : Chg [] w (w.alloc (.cells #[.string s, .int .i64 mode, .int .i64 room] 76)) := (Chg.refl _ _).alloc _
  have x0 : (w.alloc (.cells #[.string s, .int .i64 mode, .int .i64 room] 76)).cell? ⟨w.heap.size, 0, none⟩ = some (.string s) := by rw [cell_of_heap B1]; rfl
  have hcv := fun W => Lib.run_convert_string_bytes (P := Tryz.prog) W 9 22 5 s Tryz.underlying9 Tryz.underlying22 Tryz.underlying5
  have HE := Lib.hid (And.intro B1 C1)
  clear B1 C1
  go_enter Tryz.func38, Tryz.ntmps38
  go_wp2_with fail
  have HW := Lib.hid (And.intro (bytesWorld_chg (w.alloc (.cells #[.string s, .int .i64 mode, .int .i64 room] 76)) 5 s) (And.intro (src_bytes (w.alloc (.cells #[.string s, .int .i64 mode, .int .i64 room] 76)) 5 s (w.heap.size + 1) (by simp)) (grown_le (w.alloc (.cells #[.string s, .int .i64 mode, .int .i64 room] 76)) s.size 5)))
  generalize hw3 : Lib.bytesWorld _ _ _ = w3 at *
  generalize grownCap _ _ _ _ = cc at *
  have HX := Lib.hid (And.intro (HE.out.2.trans HW.out.1 (U := []) (by simp) (by simp)) (HW.out.1.heap HE.out.1 (by simp)))
  have hcc := HW.out.2.2
  have HS := Lib.hid HW.out.2.1
  clear hw3 HE HW x0 hcv
  refine (rfineT_any _ _ _ _ _ HS.out (bI_by s) hs hcc).mono ?_
  rintro e w4 ⟨rfl, C4⟩
  have B4 := C4.heap HX.out.2 (by simp)
  have y0 : w4.cell? ⟨w.heap.size, 0, none⟩ = some (.string s) := by rw [cell_of_heap B4]; rfl
  have y1 : w4.cell? ⟨w.heap.size, 1, none⟩ = some (.int .i64 mode) := by rw [cell_of_heap B4]; rfl
  have y2 : w4.cell? ⟨w.heap.size, 2, none⟩ = some (.int .i64 room) := by rw [cell_of_heap B4]; rfl
  have HC := Lib.hid (HX.out.1.trans C4 (U := []) (by simp) (by simp))
  clear HX HS B4 C4 hcc
  rw [hf]
  have a1 : decide ((256 : Int) < (s.size : Nat)) = true := by rw [decide_eq_true_eq]; omega
  go_wp2_with fail
  go_ret
  exact ⟨rfl, HC.out⟩
set_option maxHeartbeats 8000000 in
theorem ask_neg (s : ByteArray) (mode room : Int) (w : World) (hs : s.size ≤ 140737488355328) (hf : fineR s.size (bI s) = true) (h2 : s.size ≤ 256) (h3 : mode < 0) :
    Calls Tryz.prog 38 #[.agg #[.string s, .int .i64 mode, .int .i64 room]] w fun e w' => e = .returned (.int .i64 9) ∧ Chg [] w w' := by
  have B1 := alloc_heap w (.cells #[.string s, .int .i64 mode, .int .i64 room] 76)
  have C1 : Chg [] w (w.alloc (.cells #[.string s, .int .i64 mode, .int .i64 room] 76)) := (Chg.refl _ _).alloc _
  have x0 : (w.alloc (.cells #[.string s, .int .i64 mode, .int .i64 room] 76)).cell? ⟨w.heap.size, 0, none⟩ = some (.string s) := by rw [cell_of_heap B1]; rfl
  have hcv := fun W => Lib.run_convert_string_bytes (P := Tryz.prog) W 9 22 5 s Tryz.underlying9 Tryz.underlying22 Tryz.underlying5
  have HE := Lib.hid (And.intro B1 C1)
  clear B1 C1
  go_enter Tryz.func38, Tryz.ntmps38
  go_wp2_with fail
  have HW := Lib.hid (And.intro (bytesWorld_chg (w.alloc (.cells #[.string s, .int .i64 mode, .int .i64 room] 76)) 5 s) (And.intro (src_bytes (w.alloc (.cells #[.string s, .int .i64 mode, .int .i64 room] 76)) 5 s (w.heap.size + 1) (by simp)) (grown_le (w.alloc (.cells #[.string s, .int .i64 mode, .int .i64 room] 76)) s.size 5)))
  generalize hw3 : Lib.bytesWorld _ _ _ = w3 at *
  generalize grownCap _ _ _ _ = cc at *
  have HX := Lib.hid (And.intro (HE.out.2.trans HW.out.1 (U := []) (by simp) (by simp)) (HW.out.1.heap HE.out.1 (by simp)))
  have hcc := HW.out.2.2
  have HS := Lib.hid HW.out.2.1
  clear hw3 HE HW x0 hcv
  refine (rfineT_any _ _ _ _ _ HS.out (bI_by s) hs hcc).mono ?_
  rintro e w4 ⟨rfl, C4⟩
  have B4 := C4.heap HX.out.2 (by simp)
  have y0 : w4.cell? ⟨w.heap.size, 0, none⟩ = some (.string s) := by rw [cell_of_heap B4]; rfl
  have y1 : w4.cell? ⟨w.heap.size, 1, none⟩ = some (.int .i64 mode) := by rw [cell_of_heap B4]; rfl
  have y2 : w4.cell? ⟨w.heap.size, 2, none⟩ = some (.int .i64 room) := by rw [cell_of_heap B4]; rfl
  have HC := Lib.hid (HX.out.1.trans C4 (U := []) (by simp) (by simp))
  clear HX HS B4 C4 hcc
  rw [hf]
  have a1 : decide ((256 : Int) < (s.size : Nat)) = false := by rw [decide_eq_false_iff_not]; omega
  have a2 : decide (mode < 0) = true := by rw [decide_eq_true_eq]; omega
  go_wp2_with fail
  go_ret
  exact ⟨rfl, HC.out⟩
set_option maxHeartbeats 8000000 in
theorem ask_mode (s : ByteArray) (mode room : Int) (w : World) (hs : s.size ≤ 140737488355328) (hf : fineR s.size (bI s) = true) (h2 : s.size ≤ 256) (h3 : 2 < mode) :
    Calls Tryz.prog 38 #[.agg #[.string s, .int .i64 mode, .int .i64 room]] w fun e w' => e = .returned (.int .i64 9) ∧ Chg [] w w' := by
  have B1 := alloc_heap w (.cells #[.string s, .int .i64 mode, .int .i64 room] 76)
  have C1 : Chg [] w (w.alloc (.cells #[.string s, .int .i64 mode, .int .i64 room] 76)) := (Chg.refl _ _).alloc _
  have x0 : (w.alloc (.cells #[.string s, .int .i64 mode, .int .i64 room] 76)).cell? ⟨w.heap.size, 0, none⟩ = some (.string s) := by rw [cell_of_heap B1]; rfl
  have hcv := fun W => Lib.run_convert_string_bytes (P := Tryz.prog) W 9 22 5 s Tryz.underlying9 Tryz.underlying22 Tryz.underlying5
  have HE := Lib.hid (And.intro B1 C1)
  clear B1 C1
  go_enter Tryz.func38, Tryz.ntmps38
  go_wp2_with fail
  have HW := Lib.hid (And.intro (bytesWorld_chg (w.alloc (.cells #[.string s, .int .i64 mode, .int .i64 room] 76)) 5 s) (And.intro (src_bytes (w.alloc (.cells #[.string s, .int .i64 mode, .int .i64 room] 76)) 5 s (w.heap.size + 1) (by simp)) (grown_le (w.alloc (.cells #[.string s, .int .i64 mode, .int .i64 room] 76)) s.size 5)))
  generalize hw3 : Lib.bytesWorld _ _ _ = w3 at *
  generalize grownCap _ _ _ _ = cc at *
  have HX := Lib.hid (And.intro (HE.out.2.trans HW.out.1 (U := []) (by simp) (by simp)) (HW.out.1.heap HE.out.1 (by simp)))
  have hcc := HW.out.2.2
  have HS := Lib.hid HW.out.2.1
  clear hw3 HE HW x0 hcv
  refine (rfineT_any _ _ _ _ _ HS.out (bI_by s) hs hcc).mono ?_
  rintro e w4 ⟨rfl, C4⟩
  have B4 := C4.heap HX.out.2 (by simp)
  have y0 : w4.cell? ⟨w.heap.size, 0, none⟩ = some (.string s) := by rw [cell_of_heap B4]; rfl
  have y1 : w4.cell? ⟨w.heap.size, 1, none⟩ = some (.int .i64 mode) := by rw [cell_of_heap B4]; rfl
  have y2 : w4.cell? ⟨w.heap.size, 2, none⟩ = some (.int .i64 room) := by rw [cell_of_heap B4]; rfl
  have HC := Lib.hid (HX.out.1.trans C4 (U := []) (by simp) (by simp))
  clear HX HS B4 C4 hcc
  rw [hf]
  have a1 : decide ((256 : Int) < (s.size : Nat)) = false := by rw [decide_eq_false_iff_not]; omega
  have a2 : decide (mode < 0) = false := by rw [decide_eq_false_iff_not]; omega
  have a3 : decide ((2 : Int) < mode) = true := by rw [decide_eq_true_eq]; omega
  go_wp2_with fail
  go_ret
  exact ⟨rfl, HC.out⟩
set_option maxHeartbeats 8000000 in
theorem ask_room (s : ByteArray) (mode room : Int) (w : World) (hs : s.size ≤ 140737488355328) (hf : fineR s.size (bI s) = true) (h2 : s.size ≤ 256) (h3 : 0 ≤ mode) (h4 : mode ≤ 2) (h5 : room < 0) :
    Calls Tryz.prog 38 #[.agg #[.string s, .int .i64 mode, .int .i64 room]] w fun e w' => e = .returned (.int .i64 3) ∧ Chg [] w w' := by
  have B1 := alloc_heap w (.cells #[.string s, .int .i64 mode, .int .i64 room] 76)
  have C1 : Chg [] w (w.alloc (.cells #[.string s, .int .i64 mode, .int .i64 room] 76)) := (Chg.refl _ _).alloc _
  have x0 : (w.alloc (.cells #[.string s, .int .i64 mode, .int .i64 room] 76)).cell? ⟨w.heap.size, 0, none⟩ = some (.string s) := by rw [cell_of_heap B1]; rfl
  have hcv := fun W => Lib.run_convert_string_bytes (P := Tryz.prog) W 9 22 5 s Tryz.underlying9 Tryz.underlying22 Tryz.underlying5
  have HE := Lib.hid (And.intro B1 C1)
  clear B1 C1
  go_enter Tryz.func38, Tryz.ntmps38
  go_wp2_with fail
  have HW := Lib.hid (And.intro (bytesWorld_chg (w.alloc (.cells #[.string s, .int .i64 mode, .int .i64 room] 76)) 5 s) (And.intro (src_bytes (w.alloc (.cells #[.string s, .int .i64 mode, .int .i64 room] 76)) 5 s (w.heap.size + 1) (by simp)) (grown_le (w.alloc (.cells #[.string s, .int .i64 mode, .int .i64 room] 76)) s.size 5)))
  generalize hw3 : Lib.bytesWorld _ _ _ = w3 at *
  generalize grownCap _ _ _ _ = cc at *
  have HX := Lib.hid (And.intro (HE.out.2.trans HW.out.1 (U := []) (by simp) (by simp)) (HW.out.1.heap HE.out.1 (by simp)))
  have hcc := HW.out.2.2
  have HS := Lib.hid HW.out.2.1
  clear hw3 HE HW x0 hcv
  refine (rfineT_any _ _ _ _ _ HS.out (bI_by s) hs hcc).mono ?_
  rintro e w4 ⟨rfl, C4⟩
  have B4 := C4.heap HX.out.2 (by simp)
  have y0 : w4.cell? ⟨w.heap.size, 0, none⟩ = some (.string s) := by rw [cell_of_heap B4]; rfl
  have y1 : w4.cell? ⟨w.heap.size, 1, none⟩ = some (.int .i64 mode) := by rw [cell_of_heap B4]; rfl
  have y2 : w4.cell? ⟨w.heap.size, 2, none⟩ = some (.int .i64 room) := by rw [cell_of_heap B4]; rfl
  have HC := Lib.hid (HX.out.1.trans C4 (U := []) (by simp) (by simp))
  clear HX HS B4 C4 hcc
  rw [hf]
  have a1 : decide ((256 : Int) < (s.size : Nat)) = false := by rw [decide_eq_false_iff_not]; omega
  have a2 : decide (mode < 0) = false := by rw [decide_eq_false_iff_not]; omega
  have a3 : decide ((2 : Int) < mode) = false := by rw [decide_eq_false_iff_not]; omega
  have a4 : decide (room < 0) = true := by rw [decide_eq_true_eq]; omega
  go_wp2_with fail
  go_ret
  exact ⟨rfl, HC.out⟩
set_option maxHeartbeats 8000000 in
theorem ask_fine (s : ByteArray) (mode room : Int) (w : World) (hs : s.size ≤ 140737488355328) (hf : fineR s.size (bI s) = true) (h2 : s.size ≤ 256) (h3 : 0 ≤ mode) (h4 : mode ≤ 2) (h5 : 0 ≤ room) :
    Calls Tryz.prog 38 #[.agg #[.string s, .int .i64 mode, .int .i64 room]] w fun e w' => e = .returned (.int .i64 0) ∧ Chg [] w w' := by
  have B1 := alloc_heap w (.cells #[.string s, .int .i64 mode, .int .i64 room] 76)
  have C1 : Chg [] w (w.alloc (.cells #[.string s, .int .i64 mode, .int .i64 room] 76)) := (Chg.refl _ _).alloc _
  have x0 : (w.alloc (.cells #[.string s, .int .i64 mode, .int .i64 room] 76)).cell? ⟨w.heap.size, 0, none⟩ = some (.string s) := by rw [cell_of_heap B1]; rfl
  have hcv := fun W => Lib.run_convert_string_bytes (P := Tryz.prog) W 9 22 5 s Tryz.underlying9 Tryz.underlying22 Tryz.underlying5
  have HE := Lib.hid (And.intro B1 C1)
  clear B1 C1
  go_enter Tryz.func38, Tryz.ntmps38
  go_wp2_with fail
  have HW := Lib.hid (And.intro (bytesWorld_chg (w.alloc (.cells #[.string s, .int .i64 mode, .int .i64 room] 76)) 5 s) (And.intro (src_bytes (w.alloc (.cells #[.string s, .int .i64 mode, .int .i64 room] 76)) 5 s (w.heap.size + 1) (by simp)) (grown_le (w.alloc (.cells #[.string s, .int .i64 mode, .int .i64 room] 76)) s.size 5)))
  generalize hw3 : Lib.bytesWorld _ _ _ = w3 at *
  generalize grownCap _ _ _ _ = cc at *
  have HX := Lib.hid (And.intro (HE.out.2.trans HW.out.1 (U := []) (by simp) (by simp)) (HW.out.1.heap HE.out.1 (by simp)))
  have hcc := HW.out.2.2
  have HS := Lib.hid HW.out.2.1
  clear hw3 HE HW x0 hcv
  refine (rfineT_any _ _ _ _ _ HS.out (bI_by s) hs hcc).mono ?_
  rintro e w4 ⟨rfl, C4⟩
  have B4 := C4.heap HX.out.2 (by simp)
  have y0 : w4.cell? ⟨w.heap.size, 0, none⟩ = some (.string s) := by rw [cell_of_heap B4]; rfl
  have y1 : w4.cell? ⟨w.heap.size, 1, none⟩ = some (.int .i64 mode) := by rw [cell_of_heap B4]; rfl
  have y2 : w4.cell? ⟨w.heap.size, 2, none⟩ = some (.int .i64 room) := by rw [cell_of_heap B4]; rfl
  have HC := Lib.hid (HX.out.1.trans C4 (U := []) (by simp) (by simp))
  clear HX HS B4 C4 hcc
  rw [hf]
  have a1 : decide ((256 : Int) < (s.size : Nat)) = false := by rw [decide_eq_false_iff_not]; omega
  have a2 : decide (mode < 0) = false := by rw [decide_eq_false_iff_not]; omega
  have a3 : decide ((2 : Int) < mode) = false := by rw [decide_eq_false_iff_not]; omega
  have a4 : decide (room < 0) = false := by rw [decide_eq_false_iff_not]; omega
  go_wp2_with fail
  go_ret
  exact ⟨rfl, HC.out⟩
theorem askR_any (s : ByteArray) (mode room : Int) (w : World) (hs : s.size ≤ 140737488355328) :
    Calls Tryz.prog 38 #[.agg #[.string s, .int .i64 mode, .int .i64 room]] w fun e w' => e = .returned (.int .i64 (askR s mode room)) ∧ Chg [] w w' := by
  unfold askR
  cases hf : fineR s.size (bI s) with
  | false => rw [if_pos rfl]; exact ask_text s mode room w hs hf
  | true =>
    rw [if_neg (by decide)]
    by_cases h2 : 256 < s.size
    · rw [if_pos h2]; exact ask_long s mode room w hs hf h2
    · rw [if_neg h2]
      by_cases h3 : mode < 0
      · rw [if_pos (Or.inl h3)]; exact ask_neg s mode room w hs hf (by omega) h3
      · by_cases h4 : 2 < mode
        · rw [if_pos (Or.inr h4)]; exact ask_mode s mode room w hs hf (by omega) h4
        · rw [if_neg (by omega)]
          by_cases h5 : room < 0
          · rw [if_pos h5]; exact ask_room s mode room w hs hf (by omega) (by omega) (by omega) h5
          · rw [if_neg h5]; exact ask_fine s mode room w hs hf (by omega) (by omega) (by omega) (by omega)
end Go.Proofs.YtafmnkngjjnpiaaGreatDoor
