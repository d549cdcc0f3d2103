import Derived.Test.YtafmnkngjjnpiaaGreatDoorTpV
import Derived.Test.YtafmnkngjjnpiaaGreatDoorTqZ
import Derived.Test.YtafmnkngjjnpiaaGreatDoorTrE
import Derived.Test.YtafmnkngjjnpiaaGreatDoorTqW
import Derived.Test.YtafmnkngjjnpiaaGreatDoorTtyX
import Derived.Test.YtafmnkngjjnpiaaGreatDoorTrP
import Derived.Test.YtafmnkngjjnpiaaGreatDoorTpA
import Derived.Test.YtafmnkngjjnpiaaGreatDoorTqV
import Derived.Test.YtafmnkngjjnpiaaGreatDoorChg
import Derived.Laws.StructEq
import Derived.Lib.Bytes
namespace Go.Proofs.YtafmnkngjjnpiaaGreatDoor
set_option maxRecDepth 100000
set_option linter.unusedVariables false
open Go.RowKit
structure Calm (w0 : World) where
  w : World
  c : Chg [] w0 w
instance calmNonempty (w0 : World) : Nonempty (Calm w0) := ⟨⟨w0, Chg.refl _ _⟩⟩
end Go.Proofs.YtafmnkngjjnpiaaGreatDoor

namespace Go.Proofs.YtafmnkngjjnpiaaGreatDoor
set_option linter.unusedVariables false
set_option linter.unusedSimpArgs false
set_option maxRecDepth 100000
open Go.RowKit
end Go.Proofs.YtafmnkngjjnpiaaGreatDoor

namespace Go.Proofs.YtafmnkngjjnpiaaGreatDoor
set_option linter.unusedVariables false
set_option linter.unusedSimpArgs false
set_option maxRecDepth 100000
open Go.RowKit
end Go.Proofs.YtafmnkngjjnpiaaGreatDoor

namespace Go.Proofs.YtafmnkngjjnpiaaGreatDoor
set_option maxRecDepth 100000
set_option linter.unusedVariables false
set_option linter.unusedSimpArgs false
theorem dec_one (n a b c d : Nat) (ha : a < 128) : Lib.decodeN n a b c d = (a, 1) := by unfold Lib.decodeN; rw [if_pos ha]
theorem dec_two (n a b c d : Nat) (ha : 194 ≤ a ∧ a ≤ 223) (hb : 128 ≤ b ∧ b ≤ 191) (hn : 1 < n) : Lib.decodeN n a b c d = (a % 32 * 64 + b % 64, 2) := by
  unfold Lib.decodeN
  rw [if_neg (by omega), if_pos (by omega), if_pos (by omega)]
theorem dec_three (n a b c d : Nat) (ha : 224 ≤ a ∧ a ≤ 239) (hb : 128 ≤ b ∧ b ≤ 191) (h1 : a = 224 → 160 ≤ b) (h2 : a = 237 → b ≤ 159) (hc : 128 ≤ c ∧ c ≤ 191) (hn : 2 < n) : Lib.decodeN n a b c d = (a % 16 * 4096 + b % 64 * 64 + c % 64, 3) := by
  unfold Lib.decodeN
  rw [if_neg (by omega), if_neg (by omega), if_pos (by omega), if_pos (by omega)]
theorem dec_four (n a b c d : Nat) (ha : 240 ≤ a ∧ a ≤ 244) (hb : 128 ≤ b ∧ b ≤ 191) (h1 : a = 240 → 144 ≤ b) (h2 : a = 244 → b ≤ 143) (hc : 128 ≤ c ∧ c ≤ 191) (hd : 128 ≤ d ∧ d ≤ 191) (hn : 3 < n) : Lib.decodeN n a b c d = (a % 8 * 262144 + b % 64 * 4096 + c % 64 * 64 + d % 64, 4) := by
  unfold Lib.decodeN
  rw [if_neg (by omega), if_neg (by omega), if_neg (by omega), if_pos (by omega), if_pos (by omega)]
end Go.Proofs.YtafmnkngjjnpiaaGreatDoor

namespace Go.Proofs.YtafmnkngjjnpiaaGreatDoor
set_option linter.unusedVariables false
set_option linter.unusedSimpArgs false
set_option maxRecDepth 100000
theorem next_wait {l : List Int} (h0 : l.length ≠ 0) (h4 : l.length < 4) (hd : decU l = (65533, 1)) (hf : fullU l = false) : nextU l = (0, l.length, 7) := by
  unfold nextU
  have hb : begU l = true := by
    unfold begU
    rw [hf, decide_eq_true (show 0 < l.length by omega), decide_eq_true h4]
    rfl
  rw [if_neg h0, hd, if_neg (by simp), if_pos hb]
theorem next_done {l : List Int} {r : Nat × Nat} (h0 : l.length ≠ 0) (hd : decU l = r) (h : r.1 ≠ 65533 ∨ 1 < r.2) : nextU l = (((r.1 : Nat) : Int), r.2, 0) := by
  unfold nextU
  rw [if_neg h0, hd, if_pos h]
theorem first_mod (a : Nat) (h : 194 ≤ a ∧ a ≤ 244) : (a ≤ 223 → Lib.firstT a % 8 = 2) ∧ (224 ≤ a → a ≤ 239 → Lib.firstT a % 8 = 3) ∧ (240 ≤ a → Lib.firstT a % 8 = 4) := by
  unfold Lib.firstT
  repeat' split
  all_goals (refine ⟨?_, ?_, ?_⟩ <;> intros <;> omega)
def Sec (a b : Nat) : Prop := (128 ≤ b ∧ b ≤ 191) ∧ (a = 224 → 160 ≤ b) ∧ (a = 237 → b ≤ 159) ∧ (a = 240 → 144 ≤ b) ∧ (a = 244 → b ≤ 143)
theorem sec_acc (a b : Nat) (h : 224 ≤ a ∧ a ≤ 244) (hs : Sec a b) : ¬ (b < Lib.accLo (Lib.firstT a / 16) ∨ Lib.accHi (Lib.firstT a / 16) < b) := by
  obtain ⟨h1, h2, h3, h4, h5⟩ := hs
  have hf : Lib.firstT a = 19 ∧ a = 224 ∨ Lib.firstT a = 35 ∧ a = 237 ∨ Lib.firstT a = 3 ∨ Lib.firstT a = 52 ∧ a = 240 ∨ Lib.firstT a = 4 ∨ Lib.firstT a = 68 ∧ a = 244 := by
    unfold Lib.firstT
    repeat' split
    all_goals omega
  rcases hf with ⟨e, ea⟩ | ⟨e, ea⟩ | e | ⟨e, ea⟩ | e | ⟨e, ea⟩
  all_goals (rw [e]; unfold Lib.accLo Lib.accHi; simp; omega)
theorem full_one (a : Nat) (h : 194 ≤ a ∧ a ≤ 244) : fullU [(a : Int)] = false := by
  have hm := first_mod a h
  unfold fullU
  have e : byN [(a : Int)] 0 = a := by simp [byN]
  rw [e, if_neg (by simp), if_neg (by simp; omega), if_neg (by simp)]
  simp
theorem full_two (a b : Nat) (h : 224 ≤ a ∧ a ≤ 244) (hs : Sec a b) : fullU [(a : Int), (b : Int)] = false := by
  have hm := first_mod a (by omega)
  have hc := sec_acc a b h hs
  unfold fullU
  have e : byN [(a : Int), (b : Int)] 0 = a := by simp [byN]
  have e2 : byN [(a : Int), (b : Int)] 1 = b := by simp [byN]
  rw [e, e2, if_neg (by simp), if_neg (by simp; omega), if_neg (fun h => hc h.2)]
  simp
theorem full_three (a b c : Nat) (h : 240 ≤ a ∧ a ≤ 244) (hs : Sec a b) (h3 : 128 ≤ c ∧ c ≤ 191) : fullU [(a : Int), (b : Int), (c : Int)] = false := by
  have hm := first_mod a (by omega)
  have hc := sec_acc a b (by omega) hs
  unfold fullU
  have e : byN [(a : Int), (b : Int), (c : Int)] 0 = a := by simp [byN]
  have e2 : byN [(a : Int), (b : Int), (c : Int)] 1 = b := by simp [byN]
  have e3 : byN [(a : Int), (b : Int), (c : Int)] 2 = c := by simp [byN]
  rw [e, e2, e3, if_neg (by simp), if_neg (by simp; omega), if_neg (fun h => hc h.2)]
  simp
  omega
theorem dec_no (n a b c d : Nat) (ha : 194 ≤ a ∧ a ≤ 244) (hn : (a ≤ 223 → n ≤ 1) ∧ (224 ≤ a → a ≤ 239 → n ≤ 2) ∧ (240 ≤ a → n ≤ 3)) : Lib.decodeN n a b c d = (65533, 1) := by
  unfold Lib.decodeN
  rw [if_neg (by omega), if_neg (by omega), if_neg (by omega), if_neg (by omega)]
theorem wait_one (a : Nat) (h : 194 ≤ a ∧ a ≤ 244) : nextU [(a : Int)] = (0, 1, 7) :=
  next_wait (by simp) (by simp) (by unfold decU; rw [if_neg (by simp)]; have e : byN [(a : Int)] 0 = a := by simp [byN]
                                    rw [e]; exact dec_no _ _ _ _ _ h (by simp)) (full_one a h)
theorem wait_two (a b : Nat) (h : 224 ≤ a ∧ a ≤ 244) (hs : Sec a b) : nextU [(a : Int), (b : Int)] = (0, 2, 7) :=
  next_wait (by simp) (by simp) (by unfold decU; rw [if_neg (by simp)]; have e : byN [(a : Int), (b : Int)] 0 = a := by simp [byN]
                                    rw [e]; exact dec_no _ _ _ _ _ (by omega) (by simp; omega)) (full_two a b h hs)
theorem wait_three (a b c : Nat) (h : 240 ≤ a ∧ a ≤ 244) (hs : Sec a b) (hc : 128 ≤ c ∧ c ≤ 191) : nextU [(a : Int), (b : Int), (c : Int)] = (0, 3, 7) :=
  next_wait (by simp) (by simp) (by unfold decU; rw [if_neg (by simp)]; have e : byN [(a : Int), (b : Int), (c : Int)] 0 = a := by simp [byN]
                                    rw [e]; exact dec_no _ _ _ _ _ (by omega) (by simp; omega)) (full_three a b c h hs hc)
/-! ### the decoder, byte by byte -/
theorem drain_nil (f : Nat) (p : Bool) : drainD f ⟨[], p⟩ = ([], ⟨[], p⟩) := by cases f <;> rfl
theorem byteS_wait {q : Aq} {s : Ss} {c : Int} {h : List Int} (hd : s.d = ⟨h, false⟩) (hl : h.length < 36) (hn : nextD ⟨h ++ [c], false⟩ = none) : byteS q s c = (none, { s with d := ⟨h ++ [c], false⟩ }) := by
  unfold byteS feedD
  rw [hd, if_neg (by dsimp only; omega)]
  dsimp only
  unfold drainD
  rw [hn]
  rfl
theorem byteS_key {q : Aq} {s : Ss} {c : Int} {h : List Int} {k : Ky} (hd : s.d = ⟨h, false⟩) (hl : h.length < 36) (hn : nextD ⟨h ++ [c], false⟩ = some (k, ⟨[], false⟩)) (hk : (keyS q { s with d := ⟨[], false⟩ } k).1 = none) :
    byteS q s c = (none, (keyS q { s with d := ⟨[], false⟩ } k).2) := by
  unfold byteS feedD
  rw [hd, if_neg (by dsimp only; omega)]
  dsimp only
  unfold drainD
  rw [hn]
  dsimp only
  rw [drain_nil]
  show keysS q { s with d := ⟨[], false⟩ } [k] = _
  unfold keysS
  rw [hk]
  rfl
structure Idle (s : Ss) : Prop where
  d : s.d = ⟨[], false⟩
  g : s.g.begun = false
  w : s.t.c.ws = [] ∧ s.t.c.ss = []
theorem Idle.sim {s : Ss} (h : Idle s) : Sim s s := ⟨rfl, rfl, rfl, rfl, h.w, h.w⟩
theorem wrS_idle {s : Ss} (h : Idle s) (b : List Int) : (wrS s b).1 = none ∧ Idle (wrS s b).2 := by
  have := wrS_sim h.sim b
  exact ⟨this.1, ⟨h.d, h.g, this.2.2.1.w1⟩⟩
theorem ansS_idle (q : Aq) {s : Ss} (h : Idle s) (c : Bool) (e : Int) : (ansS q s c e).1 = none ∧ Idle (ansS q s c e).2 := by
  unfold ansS
  split
  · exact wrS_idle h _
  · split
    · unfold showS
      exact wrS_idle h _
    · exact ⟨rfl, h⟩
theorem keyS_char (q : Aq) {s : Ss} (h : Idle s) (c : Int) : (keyS q s ⟨0, c⟩).1 = none ∧ Idle (keyS q s ⟨0, c⟩).2 := by
  unfold keyS
  dsimp only
  rw [if_neg (by decide), if_neg (by decide), if_neg (by rw [h.g]; decide), if_neg (by decide), if_neg (by decide), if_neg (by decide), if_neg (by decide)]
  exact ansS_idle q (s := { s with b := (doB 1024 s.b ⟨0, c⟩).2.2 }) ⟨h.d, h.g, h.w⟩ _ _
theorem keyS_no (q : Aq) {s : Ss} (h : Idle s) : keyS q s ⟨15, 0⟩ = (none, s) := by
  unfold keyS
  dsimp only
  rw [if_neg (by decide), if_neg (by decide), if_neg (by rw [h.g]; decide), if_neg (by decide), if_neg (by decide), if_neg (by decide), if_neg (by decide)]
  rfl
theorem nextD_wait {h : List Int} (hl : h.length < 36) (h0 : h.length ≠ 0) (h27 : h.getD 0 0 ≠ 27) (hn : (nextU h).2.2 = 7) (p : Bool) : nextD ⟨h, p⟩ = none := by
  unfold nextD
  dsimp only
  rw [List.take_of_length_le (by omega), if_neg h0, if_neg h27, if_pos hn]
theorem nextD_char {h : List Int} {c : Int} (hl : h.length < 36) (h0 : h.length ≠ 0) (h27 : h.getD 0 0 ≠ 27) (hn : nextU h = (c, h.length, 0)) (hc : shownU c = true) : nextD ⟨h, false⟩ = some (⟨0, c⟩, ⟨[], false⟩) := by
  unfold nextD
  dsimp only
  rw [List.take_of_length_le (by omega), if_neg h0, if_neg h27, hn, if_neg (show ¬ (0 : Int) = 7 by decide)]
  dsimp only
  rw [if_neg (show ¬ (0 : Int) = 8 by decide)]
  have e : charD false c = ⟨0, c⟩ := by
    unfold charD keyOf
    rw [if_pos hc, if_neg (by simp)]
  rw [e, List.drop_length]
theorem char_idle (q : Aq) {s : Ss} (h : Idle s) {c : Int} (hc : shownU c = true) : (bytesS q s (putU c)).1 = none ∧ Idle (bytesS q s (putU c)).2 := by
  have hok : okU c = true := by
    unfold shownU at hc
    rw [Bool.and_eq_true, Bool.and_eq_true] at hc
    exact hc.1.1
  have h32 : 32 ≤ c := by
    unfold shownU at hc
    rw [Bool.and_eq_true, Bool.and_eq_true] at hc
    exact of_decide_eq_true hc.1.2
  have hr := of_decide_eq_true hok
  unfold putU
  rw [if_pos hok]
  have fin : ∀ (s1 : Ss) (h1 : List Int) (x : Int), s1.t = s.t → s1.b = s.b → s1.g = s.g → s1.d = ⟨h1, false⟩ → h1.length < 4 → (h1 ++ [x]).getD 0 0 ≠ 27 → nextU (h1 ++ [x]) = (c, (h1 ++ [x]).length, 0) → (byteS q s1 x).1 = none ∧ Idle (byteS q s1 x).2 := by
    intro s1 h1 x e1 e2 e3 e4 hl h27 hn
    have i1 : Idle { s1 with d := ⟨[], false⟩ } := ⟨rfl, by show s1.g.begun = false; rw [e3]; exact h.g, by show s1.t.c.ws = [] ∧ _; rw [e1]; exact h.w⟩
    have k := keyS_char q i1 c
    rw [byteS_key e4 (by omega) (nextD_char (by simp; omega) (by simp) h27 hn hc) k.1]
    exact ⟨rfl, k.2⟩
  by_cases c1 : c ≤ 127
  · rw [Lib.encodeRuneZ_one (by omega) c1]
    have r := fin s [] c rfl rfl rfl h.d (by simp) (by simp; omega) (by
      have := next_done (l := [c]) (r := (c.toNat, 1)) (by simp) (by
        unfold decU
        rw [if_neg (by simp)]
        exact dec_one _ _ _ _ _ (by simp [byN]; omega)) (Or.inl (by dsimp only; omega))
      rw [List.nil_append, this]
      dsimp only
      rw [Int.toNat_of_nonneg (by omega)]
      rfl)
    rw [bytesS_none q [] r.1]
    exact ⟨rfl, r.2⟩
  · by_cases c2 : c ≤ 2047
    · rw [Lib.encodeRuneZ_two (by omega) c2]
      obtain ⟨a, ha⟩ : ∃ a : Nat, (a : Int) = 192 + c / 64 := ⟨(192 + c / 64).toNat, by omega⟩
      obtain ⟨b, hb⟩ : ∃ b : Nat, (b : Int) = 128 + c % 64 := ⟨(128 + c % 64).toNat, by omega⟩
      rw [← ha, ← hb]
      have w1 : byteS q s (a : Int) = (none, { s with d := ⟨[(a : Int)], false⟩ }) := byteS_wait h.d (by simp) (nextD_wait (by simp) (by simp) (by simp; omega) (by rw [List.nil_append, wait_one a (by omega)]) false)
      rw [bytesS_none q _ (by rw [w1]), w1]
      have r := fin { s with d := ⟨[(a : Int)], false⟩ } [(a : Int)] (b : Int) rfl rfl rfl rfl (by simp) (by simp; omega) (by
        have := next_done (l := [(a : Int), (b : Int)]) (r := (a % 32 * 64 + b % 64, 2)) (by simp) (by
          unfold decU
          rw [if_neg (by simp)]
          simp only [byN, List.getD_cons_zero, List.getD_cons_succ, Int.toNat_natCast]
          exact dec_two _ _ _ _ _ (by omega) (by omega) (by simp)) (Or.inr (by simp))
        show nextU [(a : Int), (b : Int)] = _
        rw [this]
        refine Prod.ext ?_ rfl
        dsimp only
        omega)
      rw [bytesS_none q [] r.1]
      exact ⟨rfl, r.2⟩
    · by_cases c3 : c ≤ 65535
      · rw [Lib.encodeRuneZ_three (by omega)]
        obtain ⟨a, ha⟩ : ∃ a : Nat, (a : Int) = 224 + c / 4096 := ⟨(224 + c / 4096).toNat, by omega⟩
        obtain ⟨b, hb⟩ : ∃ b : Nat, (b : Int) = 128 + c / 64 % 64 := ⟨(128 + c / 64 % 64).toNat, by omega⟩
        obtain ⟨d, hd⟩ : ∃ d : Nat, (d : Int) = 128 + c % 64 := ⟨(128 + c % 64).toNat, by omega⟩
        rw [← ha, ← hb, ← hd]
        have hs : Sec a b := ⟨by omega, fun _ => by omega, fun _ => by omega, fun _ => by omega, fun _ => by omega⟩
        have w1 : byteS q s (a : Int) = (none, { s with d := ⟨[(a : Int)], false⟩ }) := byteS_wait h.d (by simp) (nextD_wait (by simp) (by simp) (by simp; omega) (by rw [List.nil_append, wait_one a (by omega)]) false)
        rw [bytesS_none q _ (by rw [w1]), w1]
        have w2 : byteS q { s with d := ⟨[(a : Int)], false⟩ } (b : Int) = (none, { s with d := ⟨[(a : Int), (b : Int)], false⟩ }) := byteS_wait (h := [(a : Int)]) rfl (by simp) (nextD_wait (by simp) (by simp) (by simp; omega) (by show (nextU [(a : Int), (b : Int)]).2.2 = 7; rw [wait_two a b (by omega) hs]) false)
        rw [bytesS_none q _ (by rw [w2]), w2]
        have r := fin { s with d := ⟨[(a : Int), (b : Int)], false⟩ } [(a : Int), (b : Int)] (d : Int) rfl rfl rfl rfl (by simp) (by simp; omega) (by
          have := next_done (l := [(a : Int), (b : Int), (d : Int)]) (r := (a % 16 * 4096 + b % 64 * 64 + d % 64, 3)) (by simp) (by
            unfold decU
            rw [if_neg (by simp)]
            simp only [byN, List.getD_cons_zero, List.getD_cons_succ, Int.toNat_natCast]
            exact dec_three _ _ _ _ _ (by omega) (by omega) (by omega) (by omega) (by omega) (by simp)) (Or.inr (by simp))
          show nextU [(a : Int), (b : Int), (d : Int)] = _
          rw [this]
          refine Prod.ext ?_ rfl
          dsimp only
          omega)
        rw [bytesS_none q [] r.1]
        exact ⟨rfl, r.2⟩
      · rw [Lib.encodeRuneZ_four (by omega) (by omega)]
        obtain ⟨a, ha⟩ : ∃ a : Nat, (a : Int) = 240 + c / 262144 := ⟨(240 + c / 262144).toNat, by omega⟩
        obtain ⟨b, hb⟩ : ∃ b : Nat, (b : Int) = 128 + c / 4096 % 64 := ⟨(128 + c / 4096 % 64).toNat, by omega⟩
        obtain ⟨d, hd⟩ : ∃ d : Nat, (d : Int) = 128 + c / 64 % 64 := ⟨(128 + c / 64 % 64).toNat, by omega⟩
        obtain ⟨e, he⟩ : ∃ e : Nat, (e : Int) = 128 + c % 64 := ⟨(128 + c % 64).toNat, by omega⟩
        rw [← ha, ← hb, ← hd, ← he]
        have hs : Sec a b := ⟨by omega, fun _ => by omega, fun _ => by omega, fun _ => by omega, fun _ => by omega⟩
        have w1 : byteS q s (a : Int) = (none, { s with d := ⟨[(a : Int)], false⟩ }) := byteS_wait h.d (by simp) (nextD_wait (by simp) (by simp) (by simp; omega) (by rw [List.nil_append, wait_one a (by omega)]) false)
        rw [bytesS_none q _ (by rw [w1]), w1]
        have w2 : byteS q { s with d := ⟨[(a : Int)], false⟩ } (b : Int) = (none, { s with d := ⟨[(a : Int), (b : Int)], false⟩ }) := byteS_wait (h := [(a : Int)]) rfl (by simp) (nextD_wait (by simp) (by simp) (by simp; omega) (by show (nextU [(a : Int), (b : Int)]).2.2 = 7; rw [wait_two a b (by omega) hs]) false)
        rw [bytesS_none q _ (by rw [w2]), w2]
        have w3 : byteS q { s with d := ⟨[(a : Int), (b : Int)], false⟩ } (d : Int) = (none, { s with d := ⟨[(a : Int), (b : Int), (d : Int)], false⟩ }) := byteS_wait (h := [(a : Int), (b : Int)]) rfl (by simp) (nextD_wait (by simp) (by simp) (by simp; omega) (by show (nextU [(a : Int), (b : Int), (d : Int)]).2.2 = 7; rw [wait_three a b d (by omega) hs (by omega)]) false)
        rw [bytesS_none q _ (by rw [w3]), w3]
        have r := fin { s with d := ⟨[(a : Int), (b : Int), (d : Int)], false⟩ } [(a : Int), (b : Int), (d : Int)] (e : Int) rfl rfl rfl rfl (by simp) (by simp; omega) (by
          have := next_done (l := [(a : Int), (b : Int), (d : Int), (e : Int)]) (r := (a % 8 * 262144 + b % 64 * 4096 + d % 64 * 64 + e % 64, 4)) (by simp) (by
            unfold decU
            rw [if_neg (by simp)]
            simp only [byN, List.getD_cons_zero, List.getD_cons_succ, Int.toNat_natCast]
            exact dec_four _ _ _ _ _ (by omega) (by omega) (by omega) (by omega) (by omega) (by omega) (by simp)) (Or.inr (by simp))
          show nextU [(a : Int), (b : Int), (d : Int), (e : Int)] = _
          rw [this]
          refine Prod.ext ?_ rfl
          dsimp only
          omega)
        rw [bytesS_none q [] r.1]
        exact ⟨rfl, r.2⟩
def textU (l : List Int) : List Int := l.flatMap fun c => if shownU c = true then putU c else []
theorem text_idle (q : Aq) : ∀ (l : List Int) {s : Ss}, Idle s → (bytesS q s (textU l)).1 = none ∧ Idle (bytesS q s (textU l)).2
  | [], s, h => ⟨rfl, h⟩
  | c :: r, s, h => by
    have e : textU (c :: r) = (if shownU c = true then putU c else []) ++ textU r := by unfold textU; rw [List.flatMap_cons]
    rw [e]
    by_cases hc : shownU c = true
    · rw [if_pos hc]
      have k := char_idle q h hc
      rw [bytesS_on q _ _ _ k.1]
      exact text_idle q r k.2
    · rw [if_neg hc, List.nil_append]
      exact text_idle q r h
end Go.Proofs.YtafmnkngjjnpiaaGreatDoor

namespace Go.Proofs.YtafmnkngjjnpiaaGreatDoor
set_option linter.unusedVariables false
set_option linter.unusedSimpArgs false
set_option maxRecDepth 100000
open Go.RowKit
attribute [local go_sem] run_store_float'
theorem str_of_list {l m : List Int} (h : (strOfNums l).toList = (strOfNums m).toList) : strOfNums l = strOfNums m := by
  rw [Lib.strOfNums_toList, Lib.strOfNums_toList] at h
  show (⟨(Lib.bytesOf l).toArray⟩ : ByteArray) = ⟨(Lib.bytesOf m).toArray⟩
  rw [h]
end Go.Proofs.YtafmnkngjjnpiaaGreatDoor

namespace Go.Proofs.YtafmnkngjjnpiaaGreatDoor
set_option linter.unusedVariables false
set_option linter.unusedSimpArgs false
set_option maxRecDepth 100000
theorem esc_par (b : List Int) (hb : b.getD 1 0 ≠ 79) (hl : b.length ≤ 34) : ∀ (f i : Nat), i ≤ b.length → b.length < i + f → (∀ j, i ≤ j → j < b.length → 48 ≤ b.getD j 0 ∧ b.getD j 0 ≤ 63) → escLoop b f i false = (⟨0, 0⟩, b.length, 7)
  | 0, i, h1, h2, _ => rfl
  | f + 1, i, h1, h2, hp => by
    unfold escLoop
    by_cases h : b.length ≤ i
    · rw [if_pos h]
    · have := hp i (Nat.le_refl _) (by omega)
      rw [if_neg h, if_neg (by omega), if_neg (by omega), if_pos ⟨this.1, this.2, rfl⟩]
      exact esc_par b hb hl f (i + 1) (by omega) (by omega) (fun j h3 h4 => hp j (by omega) h4)
theorem esc_fin (b : List Int) (n : Nat) (hb : b.getD 1 0 ≠ 79) (hl : b.length = n + 1) (hn : n ≤ 33) (he : 64 ≤ b.getD n 0 ∧ b.getD n 0 ≤ 126) : ∀ (f i : Nat), i ≤ n → n < i + f → (∀ j, i ≤ j → j < n → 48 ≤ b.getD j 0 ∧ b.getD j 0 ≤ 63) → escLoop b f i false = (⟨knownK (b.take (n + 1)), 0⟩, n + 1, 0)
  | 0, i, h1, h2, _ => by omega
  | f + 1, i, h1, h2, hp => by
    unfold escLoop
    rw [if_neg (by omega)]
    by_cases h : i = n
    · subst h
      rw [if_pos he]
    · have := hp i (Nat.le_refl _) (by omega)
      rw [if_neg (by omega), if_neg (by omega), if_pos ⟨this.1, this.2, rfl⟩]
      exact esc_fin b n hb hl hn he f (i + 1) (by omega) (by omega) (fun j h3 h4 => hp j (by omega) h4)
def Par (l : List Int) : Prop := ∀ x ∈ l, 48 ≤ x ∧ x ≤ 63
theorem par_at {ps : List Int} (hp : Par ps) {j : Nat} (h2 : 2 ≤ j) (hj : j < ps.length + 2) : 48 ≤ (27 :: 91 :: ps).getD j 0 ∧ (27 :: 91 :: ps).getD j 0 ≤ 63 := by
  obtain ⟨k, rfl⟩ : ∃ k, j = k + 2 := ⟨j - 2, by omega⟩
  rw [List.getD_cons_succ, List.getD_cons_succ, List.getD_eq_getElem?_getD, List.getElem?_eq_getElem (by omega)]
  exact hp _ (List.getElem_mem _)
theorem nextE_par {ps : List Int} (hp : Par ps) (hl : ps.length ≤ 32) : (nextE (27 :: 91 :: ps)).2.2 = 7 := by
  unfold nextE
  rw [if_neg (by simp), if_neg (by simp), if_neg (by simp), esc_par _ (by simp) (by simp; omega) _ _ (by simp) (by simp) (fun j h2 hj => par_at hp h2 (by simpa using hj))]
theorem nextD_esc {h : List Int} (hl : h.length ≤ 36) (h0 : h.length ≠ 0) (h27 : h.getD 0 0 = 27) (hn : (nextE h).2.2 ≠ 0) (p : Bool) : nextD ⟨h, p⟩ = none := by
  unfold nextD
  dsimp only
  rw [List.take_of_length_le hl, if_neg h0, if_pos h27, if_pos hn]
theorem par_idle (q : Aq) {s : Ss} (hd : s.d = ⟨[], false⟩) : ∀ (ps p1 : List Int), Par p1 → Par ps → (p1 ++ ps).length ≤ 32 → bytesS q { s with d := ⟨27 :: 91 :: p1, false⟩ } ps = (none, { s with d := ⟨27 :: 91 :: (p1 ++ ps), false⟩ })
  | [], p1, _, _, _ => by rw [List.append_nil]; rfl
  | x :: r, p1, h1, h2, hl => by
    have hx := h2 x List.mem_cons_self
    have hp : Par (p1 ++ [x]) := by
      intro y hy
      rcases List.mem_append.1 hy with hy | hy
      · exact h1 y hy
      · rw [List.mem_singleton.1 hy]; exact hx
    rw [List.length_append, List.length_cons] at hl
    have w := byteS_wait (q := q) (s := { s with d := ⟨27 :: 91 :: p1, false⟩ }) (c := x) (h := 27 :: 91 :: p1) rfl (by simp; omega) (nextD_esc (by simp; omega) (by simp) (by simp) (by
      show (nextE (27 :: 91 :: (p1 ++ [x]))).2.2 ≠ 0
      rw [nextE_par hp (by simp; omega)]
      decide) false)
    rw [bytesS_none q r (by rw [w]), w]
    have := par_idle q hd r (p1 ++ [x]) hp (fun y hy => h2 y (List.mem_cons_of_mem _ hy)) (by simp; omega)
    rw [List.append_assoc] at this
    exact this
def seqU (ps : List Int) (e : Int) : List Int := 27 :: 91 :: (ps ++ [e])
theorem getD_end (ps : List Int) (e : Int) : (seqU ps e).getD (ps.length + 2) 0 = e := by
  unfold seqU
  rw [List.getD_cons_succ, List.getD_cons_succ, List.getD_eq_getElem?_getD, List.getElem?_append_right (Nat.le_refl _), Nat.sub_self]
  rfl
theorem par_in {ps : List Int} {e : Int} (hp : Par ps) {j : Nat} (h2 : 2 ≤ j) (hj : j < ps.length + 2) : 48 ≤ (seqU ps e).getD j 0 ∧ (seqU ps e).getD j 0 ≤ 63 := by
  obtain ⟨k, rfl⟩ : ∃ k, j = k + 2 := ⟨j - 2, by omega⟩
  unfold seqU
  rw [List.getD_cons_succ, List.getD_cons_succ, List.getD_eq_getElem?_getD, List.getElem?_append_left (by omega), List.getElem?_eq_getElem (by omega)]
  exact hp _ (List.getElem_mem _)
theorem nextE_seq {ps : List Int} {e : Int} (hp : Par ps) (hl : ps.length ≤ 20) (he : 64 ≤ e ∧ e ≤ 126) : nextE (seqU ps e) = (⟨knownK (seqU ps e), 0⟩, ps.length + 3, 0) := by
  have hlen : (seqU ps e).length = ps.length + 2 + 1 := by unfold seqU; simp
  unfold nextE
  rw [if_neg (by omega), if_neg (by unfold seqU; simp), if_neg (by unfold seqU; simp), esc_fin (seqU ps e) (ps.length + 2) (by unfold seqU; simp) hlen (by omega) (by rw [getD_end]; exact he) _ _ (by omega) (by omega) (fun j h2 hj => par_in hp h2 hj)]
  rw [List.take_of_length_le (by omega)]
theorem seq_idle (q : Aq) {s : Ss} (h : Idle s) {ps : List Int} {e : Int} (hp : Par ps) (hl : ps.length ≤ 20) (he : 64 ≤ e ∧ e ≤ 126) (hk : knownK (seqU ps e) = 15) : bytesS q s (seqU ps e) = (none, s) := by
  have hlen : (seqU ps e).length = ps.length + 3 := by unfold seqU; simp
  have w1 : byteS q s 27 = (none, { s with d := ⟨[27], false⟩ }) := byteS_wait h.d (by simp) (nextD_esc (by simp) (by simp) (by simp) (by decide) false)
  have w2 : byteS q { s with d := ⟨[27], false⟩ } 91 = (none, { s with d := ⟨[27, 91], false⟩ }) := byteS_wait (h := [27]) rfl (by simp) (nextD_esc (by simp) (by simp) (by simp) (by decide) false)
  have w3 := par_idle q h.d ps [] (by intro x hx; cases hx) hp (by rw [List.nil_append]; omega)
  rw [List.nil_append] at w3
  have hn : nextD ⟨(27 :: 91 :: ps) ++ [e], false⟩ = some (⟨15, 0⟩, ⟨[], false⟩) := by
    show nextD ⟨seqU ps e, false⟩ = _
    unfold nextD
    dsimp only
    rw [List.take_of_length_le (by omega), if_neg (by omega), if_pos (by unfold seqU; simp), nextE_seq hp hl he, hk, if_neg (by simp)]
    dsimp only
    rw [List.drop_of_length_le (by omega)]
    rfl
  have hs : ({ { s with d := ⟨27 :: 91 :: ps, false⟩ } with d := ⟨[], false⟩ } : Ss) = s := by
    obtain ⟨t, b, g, d⟩ := s
    have : d = ⟨[], false⟩ := h.d
    subst this
    rfl
  have w4 := byteS_key (q := q) (s := { s with d := ⟨27 :: 91 :: ps, false⟩ }) (c := e) (h := 27 :: 91 :: ps) rfl (by simp; omega) hn (by rw [hs, keyS_no q h])
  rw [hs, keyS_no q h] at w4
  unfold seqU
  rw [bytesS_none q _ (by rw [w1]), w1, bytesS_none q _ (by rw [w2]), w2, bytesS_on q _ _ _ (by rw [w3]), w3, bytesS_none q _ (by rw [w4]), w4]
  rfl
theorem alike_seq (q : Aq) (a : List Int) {ps : List Int} {e : Int} (hp : Par ps) (hl : ps.length ≤ 20) (he : 64 ≤ e ∧ e ≤ 126) (hk : knownK (seqU ps e) = 15) (r : List Int) : Alike q (textU a ++ (seqU ps e ++ r)) (textU a ++ r) := by
  intro s hd hg hw
  have t := text_idle q a (s := s) ⟨hd, hg, hw⟩
  rw [bytesS_on q _ _ _ t.1, bytesS_on q _ _ _ t.1, bytesS_on q _ _ _ (by rw [seq_idle q t.2 hp hl he hk]), seq_idle q t.2 hp hl he hk]
def knownL : List (List Int) := [[27, 79, 67], [27, 79, 68], [27, 79, 70], [27, 79, 72], [27, 91, 49, 126], [27, 91, 50, 48, 48, 126], [27, 91, 50, 48, 49, 126], [27, 91, 51, 126], [27, 91, 52, 126], [27, 91, 55, 126], [27, 91, 56, 126], [27, 91, 67], [27, 91, 68], [27, 91, 70], [27, 91, 72]]
theorem known_in : ∀ x ∈ knownS, x.1 ∈ knownL := by decide
theorem known_no {s : List Int} (h : ∀ k ∈ knownL, strOfNums k ≠ strOfNums s) : knownK s = 15 := by
  unfold knownK
  cases hf : knownS.find? (fun x => decide (x.1 = s)) with
  | none => rfl
  | some x =>
    have hm := List.mem_of_find?_eq_some hf
    have he : x.1 = s := by
      have := List.find?_some hf
      simpa using this
    exact absurd (by rw [he]) (h x.1 (known_in x hm))
end Go.Proofs.YtafmnkngjjnpiaaGreatDoor

namespace Go.Proofs.YtafmnkngjjnpiaaGreatDoor
set_option linter.unusedVariables false
set_option linter.unusedSimpArgs false
set_option maxRecDepth 100000
open Go.RowKit
attribute [local go_sem] run_store_float'
theorem textU_take {zs : List Int} {k : Nat} {c : Int} (h : zs[k]? = some c) : textU (zs.take (k + 1)) = textU (zs.take k) ++ (if shownU c = true then putU c else []) := by
  obtain ⟨hk, rfl⟩ := List.getElem?_eq_some_iff.1 h
  unfold textU
  rw [List.take_succ_eq_append_getElem hk, List.flatMap_append]
  simp
theorem textU_len (zs : List Int) : (textU zs).length ≤ 4 * zs.length := by
  induction zs with
  | nil => exact Nat.le_refl _
  | cons c r ih =>
    have e : textU (c :: r) = (if shownU c = true then putU c else []) ++ textU r := by unfold textU; rw [List.flatMap_cons]
    rw [e, List.length_append, List.length_cons]
    have : (if shownU c = true then putU c else []).length ≤ 4 := by
      split
      · by_cases h : okU c = true
        · exact (putU_pos h).2
        · unfold putU
          rw [if_neg h]
          exact Nat.zero_le _
      · exact Nat.zero_le _
    omega
theorem textU_by (zs : List Int) : ByR (textU zs) := by
  intro x hx
  unfold textU at hx
  obtain ⟨c, _, hc⟩ := List.mem_flatMap.1 hx
  split at hc
  · exact putU_by c x hc
  · cases hc
set_option maxHeartbeats 8000000 in
theorem textT_any (ao : Option Addr) (n c : Nat) (zs : List Int) (w : World) (h : SrcAt w ao n c (valsOf .i64 zs)) (hn : n ≤ 1000) :
    Calls Tryz.prog 32 #[.slice ao n c] w fun e w' => ∃ v, e = .returned v ∧ LnB w w' v (textU zs) := by
  have hl : zs.length = n := by have := h.1; rwa [valsOf_length] at this
  have H1 := Lib.hid h
  have HL := Lib.hid (And.intro hl (textU_len zs))
  clear h hl
  go_enter Tryz.func32, Tryz.ntmps32
  go_wp2_with fail
  go_loopw [3, 10] (fun v i wr => ∃ k : Nat, k ≤ n ∧ i = .int .i64 k ∧ LnB w wr v (textU (zs.take k))) (fun _ i _ => n - (intOf i).toNat)
  case atStart => exact ⟨0, Nat.zero_le _, rfl, ln_none w⟩
  case round =>
    obtain ⟨k, hk, rfl, hln⟩ := hrel
    by_cases hlt : k < n
    · obtain ⟨g, off, rfl, x0⟩ := (H1.out.chg0 hln.2).int hlt
      have hz : zs[k]? = some (zs.getD k 0) := by rw [List.getD_eq_getElem?_getD, List.getElem?_eq_getElem (by rw [HL.out.1]; exact hlt)]; rfl
      have htk := textU_take hz
      have hle : (textU (zs.take k)).length ≤ 4000 := by
        have := textU_len (zs.take k)
        rw [List.length_take] at this
        omega
      obtain ⟨x, hx⟩ : ∃ x, zs.getD k 0 = x := ⟨_, rfl⟩
      rw [hx] at x0 htk
      obtain ⟨l, hl⟩ : ∃ l, textU (zs.take k) = l := ⟨_, rfl⟩
      rw [hl] at hln htk hle
      obtain ⟨l2, hl2⟩ : ∃ l2, textU (zs.take (k + 1)) = l2 := ⟨_, rfl⟩
      rw [hl2] at htk
      have HLN := Lib.hid hln
      have HT := Lib.hid (And.intro htk (And.intro hl2 hle))
      clear hz hx hl hl2 hln htk hle
      by_cases hok : okU x = true
      · have HP := Lib.hid (put_ok x wr hok)
        have HPR := Lib.hid (fun W => printable_any x W)
        have HPL := Lib.hid (putU_pos hok)
        clear hok
        unfold PutPost at HP
        go_wp2_with fail
        refine (HP.out).mono ?_
        rintro e w2 ⟨g2, cap2, rfl, O2, C2⟩
        obtain ⟨a0, c0, e0, S2, _⟩ := owns_srcAt O2
        injection e0 with e1 e2 e3
        subst e1 e3
        have HL2 := Lib.hid (HLN.out.on C2)
        have HS2 := Lib.hid S2
        clear O2 S2 C2 e2 HLN HP
        obtain ⟨m, hm⟩ : ∃ m, (putU x).length = m := ⟨_, rfl⟩
        rw [hm] at HS2 HPL ⊢
        have HM := Lib.hid hm
        clear hm
        cases hsh : shownU x with
        | true =>
          rw [hsh] at HPR HT
          clear hsh
          go_wp2_with fail
          refine (HPR.out _).mono ?_
          rintro e w3 ⟨rfl, C3⟩
          have HL3 := Lib.hid (HL2.out.on C3)
          have HS3 := Lib.hid (HS2.out.chg0 C3)
          clear C3 HL2 HS2
          go_wp2_with (at_builtin; refine wp_ln_src rfl (.tmp 25) (.tmp 26) rfl _ l rfl HL3.out (some ⟨g2, 0, none⟩) m cap2 (putU x) rfl HS3.out (by have := HT.out.2.2; have := HPL.out; omega) (fun v' w' hln' hc' => ?_))
          have ht := HT.out
          simp only [if_true] at ht
          refine ⟨⟨k + 1, hlt, by rw [Int.natCast_add]; rfl, by rw [ht.2.1, ht.1]; exact hln'⟩, ?_⟩
          show n - (k + 1) < n - k
          omega
        | false =>
          rw [hsh] at HPR HT
          clear hsh
          go_wp2_with fail
          refine (HPR.out _).mono ?_
          rintro e w3 ⟨rfl, C3⟩
          have HL3 := Lib.hid (HL2.out.on C3)
          clear C3 HL2 HS2
          go_wp2_with fail
          have ht := HT.out
          rw [if_neg (by decide), List.append_nil] at ht
          refine ⟨⟨k + 1, hlt, by rw [Int.natCast_add]; rfl, by rw [ht.2.1, ht.1]; exact HL3.out⟩, ?_⟩
          show n - (k + 1) < n - k
          omega
      · have hok2 : okU x = false := by simpa using hok
        have hsh : shownU x = false := by unfold shownU; rw [hok2]; rfl
        have HP := Lib.hid (put_no x wr hok2)
        rw [hsh] at HT
        clear hok hok2 hsh
        go_wp2_with fail
        refine (HP.out).mono ?_
        rintro e w2 ⟨rfl, rfl⟩
        clear HP
        go_wp2_with fail
        have ht := HT.out
        rw [if_neg (by decide), List.append_nil] at ht
        refine ⟨⟨k + 1, hlt, by rw [Int.natCast_add]; rfl, by rw [ht.2.1, ht.1]; exact HLN.out⟩, ?_⟩
        show n - (k + 1) < n - k
        omega
    · have hkn : k = n := by omega
      rw [hkn, List.take_of_length_le (by rw [HL.out.1]; exact Nat.le_refl _)] at hln
      have HLN := Lib.hid hln
      subst hkn
      clear hln
      go_wp2_with fail
      go_ret
      exact ⟨_, rfl, HLN.out⟩
def rawL : List (List Int) := [[79, 67], [79, 68], [79, 70], [79, 72], [91, 49, 126], [91, 50, 48, 48, 126], [91, 50, 48, 49, 126], [91, 51, 126], [91, 52, 126], [91, 55, 126], [91, 56, 126], [91, 67], [91, 68], [91, 70], [91, 72]]
def strV (l : List Int) : Value := .string (strOfNums l)
def mixL (k : Nat) : List Value := (knownL.take k).map strV ++ (rawL.drop k).map strV
theorem mix_at : ∀ k, k < 15 → (mixL k)[k]? = some (strV (rawL.getD k [])) ∧ (mixL k).set k (strV (knownL.getD k [])) = mixL (k + 1) ∧ (⟨#[27]⟩ : ByteArray) ++ strOfNums (rawL.getD k []) = strOfNums (knownL.getD k []) := by
  intro k hk
  rcases (by omega : k = 0 ∨ k = 1 ∨ k = 2 ∨ k = 3 ∨ k = 4 ∨ k = 5 ∨ k = 6 ∨ k = 7 ∨ k = 8 ∨ k = 9 ∨ k = 10 ∨ k = 11 ∨ k = 12 ∨ k = 13 ∨ k = 14) with rfl | rfl | rfl | rfl | rfl | rfl | rfl | rfl | rfl | rfl | rfl | rfl | rfl | rfl | rfl
  all_goals exact ⟨rfl, rfl, by kernel_rfl⟩
def KeysPost (w : World) (e : Ending) (w' : World) : Prop := ∃ g, e = .returned (.slice (some ⟨g, 0, none⟩) 15 15) ∧ w'.heap[g]? = some (.cells (knownL.map strV).toArray 9 (0, 0)) ∧ Chg [] w w' ∧ w.heap.size ≤ g
set_option maxHeartbeats 8000000 in
theorem known_keys (w : World) : Calls Tryz.prog 35 #[] w (KeysPost w) := by
  go_enter Tryz.func35, Tryz.ntmps35
  go_upto_region 3 with (fail)
  have H0 := alloc_heap w (.cells (mixL 0).toArray 9)
  have C0 : Chg [] w (w.alloc (.cells (mixL 0).toArray 9)) := (Chg.refl _ _).alloc _
  have em : (mixL 0).toArray = #[.string ⟨#[79, 67]⟩, .string ⟨#[79, 68]⟩, .string ⟨#[79, 70]⟩, .string ⟨#[79, 72]⟩, .string ⟨#[91, 49, 126]⟩, .string ⟨#[91, 50, 48, 48, 126]⟩, .string ⟨#[91, 50, 48, 49, 126]⟩, .string ⟨#[91, 51, 126]⟩, .string ⟨#[91, 52, 126]⟩, .string ⟨#[91, 55, 126]⟩, .string ⟨#[91, 56, 126]⟩, .string ⟨#[91, 67]⟩, .string ⟨#[91, 68]⟩, .string ⟨#[91, 70]⟩, .string ⟨#[91, 72]⟩] := by kernel_rfl
  have HI := Lib.hid (And.intro H0 C0)
  rw [em] at HI
  clear H0 C0 em
  have HL := Lib.hid (show w.heap.size ≤ w.heap.size from Nat.le_refl _)
  generalize World.alloc _ _ = w1 at *
  generalize hg : w.heap.size = g at *
  have HG := Lib.hid hg
  go_loopw [2] (fun i wr => ∃ k : Nat, k ≤ 15 ∧ i = .int .i64 k ∧ wr.heap[g]? = some (.cells (mixL k).toArray 9 (0, 0)) ∧ Chg [] w wr) (fun i _ => 15 - (intOf i).toNat)
  case atStart => exact ⟨0, by omega, rfl, HI.out.1, HI.out.2⟩
  case round =>
    obtain ⟨k, hk, rfl, hh, hC⟩ := hrel
    have HH := Lib.hid (And.intro hh hC)
    by_cases hlt : k < 15
    · obtain ⟨m1, m2, m3⟩ := mix_at k hlt
      obtain ⟨t, ht⟩ : ∃ t, rawL.getD k [] = t := ⟨_, rfl⟩
      obtain ⟨u, hu⟩ : ∃ u, knownL.getD k [] = u := ⟨_, rfl⟩
      rw [ht] at m1 m3
      rw [hu] at m2 m3
      have x0 : wr.cell? ⟨g, k, none⟩ = some (.string (strOfNums t)) := by
        rw [cell_of_heap hh, List.getElem?_toArray, m1]
        rfl
      have z0 : wr.frozen? ⟨g, k, none⟩ = false := free_of_heap hh k
      have hsz : (strOfNums t).size ≤ 10 := by
        rw [← ht]
        have : ∀ j, j < 15 → (strOfNums (rawL.getD j [])).size ≤ 10 := by decide
        exact this k hlt
      have HM := Lib.hid (And.intro m2 hu)
      have m3s : ({ data := #[27] } : ByteArray) ++ strOfNums t = strOfNums u := m3
      clear m1 m2 m3 ht hu hh hC
      go_wp2_with fail
      refine ⟨⟨k + 1, hlt, by rw [Int.natCast_add]; rfl, ?_, ?_⟩, ?_⟩
      · rw [setCell_heap _ HH.out.1]
        show some (Obj.cells ((mixL k).toArray.setIfInBounds k (strV u)) _ _) = _
        rw [List.setIfInBounds_toArray, HM.out.1]
      · exact HH.out.2.trans ((Chg.refl [g] wr).setCell (p := ⟨g, k, none⟩) (Or.inl List.mem_cons_self) _) (U := []) (by simp) (fun x hx hl => by have := List.mem_singleton.1 hx; have := HG.out; omega)
      · show 15 - (k + 1) < 15 - k
        omega
    · obtain rfl : k = 15 := by omega
      go_wp2_with fail
      go_ret
      exact ⟨g, rfl, HH.out.1, HH.out.2, Nat.le_of_eq HG.out⟩
end Go.Proofs.YtafmnkngjjnpiaaGreatDoor
