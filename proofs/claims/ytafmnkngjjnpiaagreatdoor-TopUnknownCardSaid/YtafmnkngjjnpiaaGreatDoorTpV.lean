import Derived.Test.YtafmnkngjjnpiaaGreatDoorTpF
namespace Go.Proofs.YtafmnkngjjnpiaaGreatDoor
set_option linter.unusedVariables false
set_option linter.unusedSimpArgs false
set_option maxRecDepth 100000
open Go.RowKit
theorem SrcAt.len {w : World} {ao : Option Addr} {n c : Nat} {l : List Int} (h : SrcAt w ao n c (valsOf .u8 l)) : l.length = n := by have := h.1; rwa [valsOf_length] at this
set_option maxHeartbeats 4000000 in
theorem begin_any (w : World) (hT : Lib.Utf8Tabs 1 2 w) (ao : Option Addr) (n c : Nat) (l : List Int) (h : SrcAt w ao n c (valsOf .u8 l)) (hb : ByR l) (hn : n ≤ 1000000) :
    Calls Tryz.prog 97 #[.slice ao n c] w fun e w' => e = .returned (.bool (begU l)) ∧ Chg [] w w' := by
  have hl := h.len
  rcases Nat.eq_zero_or_pos n with rfl | hp
  · have hv : begU l = false := by unfold begU; rw [hl]; rfl
    rw [hv]
    clear hv h hT
    go_enter Tryz.func97, Tryz.ntmps97
    go_wp2_with fail
    go_ret
    exact ⟨rfl, Chg.refl _ _⟩
  · by_cases h4 : n < 4
    · have hv : begU l = !fullU l := by unfold begU; rw [hl, decide_eq_true hp, decide_eq_true h4]; rfl
      rw [hv]
      have c := fullRune_any w hT ao n c l h hb hn
      unfold FullPost at c
      generalize fullU l = b at *
      have HC := Lib.hid c
      have d1 : decide ((0 : Int) < n) = true := decide_eq_true (by omega)
      have d2 : decide ((n : Int) < 4) = true := decide_eq_true (by omega)
      clear c hv h hT hl
      go_enter Tryz.func97, Tryz.ntmps97
      go_wp2_with fail
      refine (HC.out).mono ?_
      rintro e w2 ⟨rfl, C2⟩
      go_wp2_with fail
      go_ret
      exact ⟨rfl, C2⟩
    · have hv : begU l = false := by unfold begU; rw [hl, decide_eq_false h4]; simp
      rw [hv]
      have d1 : decide ((0 : Int) < n) = true := decide_eq_true (by omega)
      have d2 : decide ((n : Int) < 4) = false := decide_eq_false (by omega)
      clear hv h hT hl
      go_enter Tryz.func97, Tryz.ntmps97
      go_wp2_with fail
      go_ret
      exact ⟨rfl, Chg.refl _ _⟩
def bytesA (l : List Int) : ByteArray := ⟨(l.map fun x => x.toNat.toUInt8).toArray⟩
theorem bytesA_size (l : List Int) : (bytesA l).size = l.length := by simp [bytesA, ByteArray.size]
theorem bytesA_get {l : List Int} (h : ByR l) (j : Nat) : ((bytesA l).get! j).toNat = byN l j := by
  have hb := (h.byte j).2
  have e : (bytesA l).get! j = ((l.map fun x => x.toNat.toUInt8).toArray)[j]! := rfl
  rw [e]
  rcases Nat.lt_or_ge j l.length with hj | hj
  · rw [getElem!_pos _ j (by simpa using hj)]
    have : byN l j = l[j].toNat := by unfold byN; rw [List.getD_eq_getElem?_getD, List.getElem?_eq_getElem hj]; rfl
    rw [this] at hb
    simp [this]
    omega
  · rw [getElem!_neg _ j (by simpa using hj)]
    have : byN l j = 0 := by unfold byN; rw [List.getD_eq_getElem?_getD, List.getElem?_eq_none hj]; rfl
    rw [this]
    rfl
theorem decU_go {l : List Int} (h : ByR l) : Lib.decodeGo (bytesA l) = decU l := by
  unfold Lib.decodeGo decU
  rw [bytesA_size, Lib.decode_at, bytesA_size, bytesA_get h, bytesA_get h, bytesA_get h, bytesA_get h, Nat.sub_zero]
theorem decU_le (l : List Int) : (decU l).1 ≤ 1114111 ∧ (decU l).2 ≤ 4 := by
  unfold decU Lib.decodeN
  repeat' split
  all_goals (dsimp only; omega)
theorem decode_any (w : World) (hT : Lib.Utf8Tabs 1 2 w) (ao : Option Addr) (n c : Nat) (l : List Int) (h : SrcAt w ao n c (valsOf .u8 l)) (hb : ByR l) (hp : 0 < n) :
    Calls Tryz.prog 96 #[.slice ao n c] w fun e w' => e = .returned (.tuple #[.int .i32 ((decU l).1 : Nat), .int .i64 ((decU l).2 : Nat)]) ∧ Chg [] w w' := by
  have hl := h.len
  obtain ⟨g, off, rfl, _⟩ := h.int hp
  have := Tryz.utf8_DecodeRune (bytesA l) g off c w hT (fun j hj => by
    rw [bytesA_size, hl] at hj
    obtain ⟨g', off', e, hc⟩ := h.int hj
    injection e with e
    injection e with e3 e4 _
    subst e3
    subst e4
    rw [hc, (hb.byte j).1, bytesA_get hb])
  rw [bytesA_size, hl, decU_go hb] at this
  exact this.mono fun e w' ⟨h1, h2⟩ => ⟨h1, Chg.of_below h2 (Nat.le_refl _)⟩
theorem SrcAt.pre {w : World} {ao : Option Addr} {n c : Nat} {l : List Int} (h : SrcAt w ao n c (valsOf .u8 l)) {k : Nat} (hk : k ≤ n) (hk0 : 0 < k) : SrcAt w ao k c (valsOf .u8 (l.take k)) := by
  have hl := h.len
  refine ⟨by rw [valsOf_length, List.length_take]; omega, fun e => by have := (h.2.1 e).1; omega, fun ad e j u hu => h.2.2 ad e j u ?_⟩
  unfold valsOf at hu ⊢
  rw [List.getElem?_map, List.getElem?_take] at hu
  rw [List.getElem?_map]
  split at hu
  · exact hu
  · cases hu
theorem Utf8Tabs.chg {w w' : World} (h : Lib.Utf8Tabs 1 2 w) {S : List Nat} (c : Chg S w w') (h1 : 1 ∉ S) (h2 : 2 ∉ S) : Lib.Utf8Tabs 1 2 w' :=
  ⟨fun k hk => c.cell (h.1 k hk) h1, fun i hi => ⟨c.cell (h.2 i hi).1 h2, c.cell (h.2 i hi).2 h2⟩⟩
theorem Utf8Tabs.chg0 {w w' : World} (h : Lib.Utf8Tabs 1 2 w) (c : Chg [] w w') : Lib.Utf8Tabs 1 2 w' := Utf8Tabs.chg h c (by simp) (by simp)
theorem growU_step {l : List Int} {f k : Nat} (h : k < l.length) (hb : begU (l.take (k + 1)) = true) : growU l (f + 1) k = growU l f (k + 1) := by rw [growU, if_pos ⟨h, hb⟩]
theorem growU_stop {l : List Int} {f k : Nat} (h : ¬ (k < l.length ∧ begU (l.take (k + 1)) = true)) : growU l f k = k := by
  cases f with
  | zero => rfl
  | succ f => rw [growU, if_neg h]
theorem growU_le (l : List Int) : ∀ f k, k ≤ l.length → k ≤ growU l f k ∧ growU l f k ≤ l.length := by
  intro f
  induction f with
  | zero => intro k hk; exact ⟨Nat.le_refl _, hk⟩
  | succ f ih =>
    intro k hk
    rw [growU]
    split
    · rename_i h; have := ih (k + 1) (by omega); omega
    · omega
def NextPost (l : List Int) (w : World) (e : Ending) (w' : World) : Prop := e = .returned (.tuple #[.int .i64 (nextU l).1, .int .i64 ((nextU l).2.1 : Nat), .int .i64 (nextU l).2.2]) ∧ Chg [] w w'
set_option maxHeartbeats 4000000 in
theorem next_any (w : World) (hT : Lib.Utf8Tabs 1 2 w) (ao : Option Addr) (n c : Nat) (l : List Int) (h : SrcAt w ao n c (valsOf .u8 l)) (hb : ByR l) (hn : n ≤ 1000000) (hc : n ≤ c) :
    Calls Tryz.prog 65 #[.slice ao n c] w (NextPost l w) := by
  have hl := h.len
  rcases Nat.eq_zero_or_pos n with rfl | hp
  · have hv : nextU l = (0, 0, 6) := by unfold nextU; rw [if_pos hl]
    unfold NextPost
    rw [hv]
    clear hv h hT
    go_enter Tryz.func65, Tryz.ntmps65
    go_wp2_with fail
    refine ⟨rfl, _, by simp [results, Tryz.results65, go_sem] <;> rfl, ?_⟩
    exact ⟨rfl, Chg.refl _ _⟩
  · have hd := decode_any w hT ao n c l h hb hp
    obtain ⟨hd1, hd2⟩ := decU_le l
    have hv0 : nextU l = (if (decU l).1 ≠ 65533 ∨ 1 < (decU l).2 then ((((decU l).1 : Nat) : Int), (decU l).2, (0 : Int)) else if begU l = true then (0, l.length, 7) else (0, growU l l.length 1, 8)) := by unfold nextU; rw [if_neg (by omega)]
    obtain ⟨d1, e1⟩ : ∃ d, (decU l).1 = d := ⟨_, rfl⟩
    obtain ⟨d2, e2⟩ : ∃ d, (decU l).2 = d := ⟨_, rfl⟩
    rw [e1, e2] at hd hv0
    rw [e1] at hd1
    rw [e2] at hd2
    clear e1 e2
    have HD := Lib.hid hd
    have HS := Lib.hid h
    have HT := Lib.hid hT
    clear hd h hT
    by_cases hA : d1 = 65533
    · by_cases hB : 1 < d2
      · have hv : nextU l = (((d1 : Nat) : Int), d2, (0 : Int)) := by rw [hv0, if_pos (.inr hB)]
        unfold NextPost
        rw [hv]
        have t1 : (((d1 : Nat) : Int) != 65533) = false := by rw [hA]; rfl
        have t2 : decide ((1 : Int) < (d2 : Nat)) = true := decide_eq_true (by omega)
        clear hv hv0 hl hA
        go_enter Tryz.func65, Tryz.ntmps65
        go_wp2_with fail
        refine (HD.out).mono ?_
        rintro e w2 ⟨rfl, C2⟩
        go_wp2_with fail
        refine ⟨rfl, _, by simp [results, Tryz.results65, go_sem] <;> rfl, ?_⟩
        exact ⟨rfl, C2⟩
      · have t1 : (((d1 : Nat) : Int) != 65533) = false := by rw [hA]; rfl
        have t2 : decide ((1 : Int) < (d2 : Nat)) = false := decide_eq_false (by omega)
        have hv1 : nextU l = (if begU l = true then ((0 : Int), l.length, (7 : Int)) else (0, growU l l.length 1, 8)) := by rw [hv0, if_neg (by omega)]
        have hbg : ∀ W, Chg [] w W → Calls Tryz.prog 97 #[.slice ao n c] W fun e w' => e = .returned (.bool (begU l)) ∧ Chg [] W w' := fun W C => begin_any W (Utf8Tabs.chg0 HT.out C) ao n c l (HS.out.chg0 C) hb hn
        have HBG := Lib.hid hbg
        clear hv0 hbg
        rcases hbv : begU l with _ | _
        · have hv : nextU l = ((0 : Int), growU l l.length 1, (8 : Int)) := by rw [hv1, hbv]; rfl
          unfold NextPost
          rw [hv]
          rw [hbv] at HBG
          obtain ⟨R, hR⟩ : ∃ R, R = growU l l.length 1 := ⟨_, rfl⟩
          rw [← hR]
          have HR := Lib.hid hR
          have HL := Lib.hid hl
          have hstep : ∀ (k : Nat) (W : World), 0 < k + 1 → k + 1 ≤ n → Chg [] w W → Calls Tryz.prog 97 #[.slice ao (k + 1 : Nat) c] W fun e w' => e = .returned (.bool (begU (l.take (k + 1)))) ∧ Chg [] W w' := fun k W h0 h1 C => begin_any W (Utf8Tabs.chg0 HT.out C) ao (k + 1) c (l.take (k + 1)) ((HS.out.pre h1 h0).chg0 C) (hb.take _) (by omega)
          have HST := Lib.hid hstep
          clear hv hv1 hA hR hl hbv hstep
          go_enter Tryz.func65, Tryz.ntmps65
          go_wp2_with fail
          refine (HD.out).mono ?_
          rintro e w2 ⟨rfl, C2⟩
          have K2 := Lib.hid C2
          clear C2
          go_wp2_with fail
          refine (HBG.out _ K2.out).mono ?_
          rintro e w3 ⟨rfl, C3⟩
          have K3 := Lib.hid (K2.out.trans C3 (U := []) (by simp) (by simp))
          clear C3
          go_wp2_with fail
          go_loopw [6] (fun i wr => ∃ k f : Nat, i = .int .i64 k ∧ 1 ≤ k ∧ k ≤ n ∧ Chg [] w wr ∧ n ≤ k + f ∧ growU l f k = R) (fun i _ => n - (intOf i).toNat)
          case atStart => exact ⟨1, l.length, rfl, by omega, by omega, K3.out, by rw [HL.out]; omega, HR.out.symm⟩
          case round =>
            obtain ⟨k, f, rfl, k1, k2, C4, k3, hg⟩ := hrel
            have HG := Lib.hid hg
            have H4 := Lib.hid C4
            clear hg C4
            by_cases hk : k < n
            · have HST2 := Lib.hid (HST.out k _ (by omega) (by omega) H4.out)
              have d1 : decide ((k : Int) < n) = true := decide_eq_true (by omega)
              rcases hbk : begU (l.take (k + 1)) with _ | _
              · have hR : R = k := by rw [← HG.out]; exact growU_stop (by rw [hbk]; simp)
                rw [hbk] at HST2
                subst hR
                clear hbk
                go_wp2_with fail
                refine (HST2.out).mono ?_
                rintro e w5 ⟨rfl, C5⟩
                go_wp2_with fail
                refine ⟨rfl, _, by simp [results, Tryz.results65, go_sem] <;> rfl, ?_⟩
                exact ⟨rfl, H4.out.trans C5 (U := []) (by simp) (by simp)⟩
              · obtain ⟨f', rfl⟩ : ∃ f', f = f' + 1 := ⟨f - 1, by omega⟩
                have hg2 := HG.out
                rw [growU_step (by rw [HL.out]; exact hk) hbk] at hg2
                have HG2 := Lib.hid hg2
                rw [hbk] at HST2
                clear hbk hg2
                go_wp2_with fail
                refine (HST2.out).mono ?_
                rintro e w5 ⟨rfl, C5⟩
                have K5 := Lib.hid (H4.out.trans C5 (U := []) (by simp) (by simp))
                clear C5
                go_wp2_with fail
                go_roundw
                case rel => exact ⟨k + 1, f', by go_num, by omega, by omega, K5.out, by omega, HG2.out⟩
                case measure => simp [intOf]; omega
            · have hR : R = k := by rw [← HG.out]; exact growU_stop (by rw [HL.out]; exact fun h => hk h.1)
              have d1 : decide ((k : Int) < n) = false := decide_eq_false (by omega)
              subst hR
              go_wp2_with fail
              refine ⟨rfl, _, by simp [results, Tryz.results65, go_sem] <;> rfl, ?_⟩
              exact ⟨rfl, H4.out⟩
        · have hv : nextU l = ((0 : Int), n, (7 : Int)) := by rw [hv1, hbv, hl]; rfl
          unfold NextPost
          rw [hv]
          rw [hbv] at HBG
          clear hv hv1 hA hl hbv
          go_enter Tryz.func65, Tryz.ntmps65
          go_wp2_with fail
          refine (HD.out).mono ?_
          rintro e w2 ⟨rfl, C2⟩
          have K2 := Lib.hid C2
          clear C2
          go_wp2_with fail
          refine (HBG.out _ K2.out).mono ?_
          rintro e w3 ⟨rfl, C3⟩
          go_wp2_with fail
          refine ⟨rfl, _, by simp [results, Tryz.results65, go_sem] <;> rfl, ?_⟩
          exact ⟨rfl, K2.out.trans C3 (U := []) (by simp) (by simp)⟩
    · have hv : nextU l = (((d1 : Nat) : Int), d2, (0 : Int)) := by rw [hv0, if_pos (.inl hA)]
      unfold NextPost
      rw [hv]
      have t1 : (((d1 : Nat) : Int) != 65533) = true := by rw [bne_iff_ne]; omega
      clear hv hv0 hl hA
      go_enter Tryz.func65, Tryz.ntmps65
      go_wp2_with fail
      refine (HD.out).mono ?_
      rintro e w2 ⟨rfl, C2⟩
      go_wp2_with fail
      refine ⟨rfl, _, by simp [results, Tryz.results65, go_sem] <;> rfl, ?_⟩
      exact ⟨rfl, C2⟩
end Go.Proofs.YtafmnkngjjnpiaaGreatDoor

namespace Go.Proofs.YtafmnkngjjnpiaaGreatDoor
set_option linter.unusedVariables false
set_option linter.unusedSimpArgs false
set_option maxRecDepth 100000
open Go.RowKit
theorem Chg.of_grown {w w' : World} (h : w.grownBy w' none) : Chg [] w w' := by
  obtain ⟨h1, h2, h3, h4, h5⟩ := h
  exact ⟨h1, h2, h3, h4, fun k hk _ => h5 k hk (by simp)⟩
def PutPost (c : Int) (w : World) (e : Ending) (w' : World) : Prop :=
  ∃ g cap, e = .returned (.tuple #[.slice (some ⟨g, 0, none⟩) (putU c).length cap, .int .i64 0]) ∧ w'.ownsRow w.heap.size 5 1 (.slice (some ⟨g, 0, none⟩) (putU c).length cap) (putU c).length (valsOf .u8 (putU c)) ∧ Chg [] w w'
theorem putU_pos {c : Int} (h : okU c = true) : 0 < (putU c).length ∧ (putU c).length ≤ 4 := by
  unfold putU Lib.encodeRuneZ
  rw [if_pos h]
  repeat' split
  all_goals simp
theorem putU_by (c : Int) : ByR (putU c) := by
  intro x hx
  unfold putU Lib.encodeRuneZ at hx
  repeat' split at hx
  all_goals (simp only [List.mem_cons, List.not_mem_nil, or_false] at hx)
  all_goals (first | (rcases hx with rfl | rfl | rfl | rfl <;> omega) | (rcases hx with rfl | rfl | rfl <;> omega) | (rcases hx with rfl | rfl <;> omega) | (subst hx; omega) | exact absurd hx (by simp))
set_option maxHeartbeats 4000000 in
theorem put_ok (c : Int) (w : World) (h : okU c = true) : Calls Tryz.prog 33 #[.int .i64 c] w (PutPost c w) := by
  have hr : (0 ≤ c ∧ c < 55296) ∨ (57343 < c ∧ c ≤ 1114111) := of_decide_eq_true h
  have h0 : 0 ≤ c := by omega
  have h1 : c ≤ 1114111 := by omega
  have HA := Lib.hid (Tryz.utf8_AppendRune_plain w.heap.size (.slice none 0 0) 0 [] c (by omega) (by omega) w ⟨rfl, .inl ⟨rfl, rfl⟩⟩ (by omega) (Nat.le_refl _))
  have HV := Lib.hid (Tryz.utf8_ValidRune c w)
  have hv : Lib.validRune c = true := h
  have d1 : decide (c < 0) = false := decide_eq_false (by omega)
  have d2 : decide ((1114111 : Int) < c) = false := decide_eq_false (by omega)
  rw [hv] at HV
  have HO := Lib.hid h
  clear hv h hr
  go_enter Tryz.func33, Tryz.ntmps33
  go_wp2_with fail
  refine (HV.out).mono ?_
  rintro e w1 ⟨rfl, rfl⟩
  go_wp2_with fail
  refine (HA.out).mono ?_
  rintro e w2 ⟨v', rfl, O2, o, G2⟩
  have e1 : Lib.runeCells c = valsOf .u8 (putU c) := by unfold Lib.runeCells valsOf putU; rw [if_pos HO.out]
  rw [e1, List.nil_append, Nat.zero_add, valsOf_length] at O2
  obtain ⟨hp, _⟩ := putU_pos HO.out
  have HO2 := Lib.hid O2
  have HC := Lib.hid (((Chg.refl [] w1).alloc o).trans (Chg.of_grown G2) (U := []) (by simp) (by simp))
  obtain ⟨_, ⟨_, h0⟩ | ⟨g, cap, cur, rfl, _⟩⟩ := O2
  · omega
  · clear G2 HA HV d1 d2
    go_wp2_with fail
    go_ret2
    exact ⟨g, cap, rfl, HO2.out, HC.out⟩
theorem put_no (c : Int) (w : World) (h : okU c = false) : Calls Tryz.prog 33 #[.int .i64 c] w fun e w' => e = .returned (.tuple #[.slice none 0 0, .int .i64 3]) ∧ w = w' := by
  have hr : ¬ ((0 ≤ c ∧ c < 55296) ∨ (57343 < c ∧ c ≤ 1114111)) := of_decide_eq_false h
  by_cases h0 : c < 0
  · have d1 : decide (c < 0) = true := decide_eq_true h0
    clear h hr
    go_enter Tryz.func33, Tryz.ntmps33
    go_wp2_with fail
    go_ret2
    exact ⟨rfl, rfl⟩
  · have d1 : decide (c < 0) = false := decide_eq_false h0
    by_cases h1 : 1114111 < c
    · have d2 : decide ((1114111 : Int) < c) = true := decide_eq_true h1
      clear h hr
      go_enter Tryz.func33, Tryz.ntmps33
      go_wp2_with fail
      go_ret2
      exact ⟨rfl, rfl⟩
    · have d2 : decide ((1114111 : Int) < c) = false := decide_eq_false h1
      have h2 : 0 ≤ c := by omega
      have h3 : c ≤ 1114111 := by omega
      have HV := Lib.hid (Tryz.utf8_ValidRune c w)
      have hv : Lib.validRune c = false := h
      rw [hv] at HV
      clear h hr hv
      go_enter Tryz.func33, Tryz.ntmps33
      go_wp2_with fail
      refine (HV.out).mono ?_
      rintro e w1 ⟨rfl, rfl⟩
      go_wp2_with fail
      go_ret2
      exact ⟨rfl, rfl⟩
set_option maxHeartbeats 4000000 in
theorem printable_any (c : Int) (w : World) : Calls Tryz.prog 34 #[.int .i64 c] w fun e w' => e = .returned (.bool (shownU c)) ∧ Chg [] w w' := by
  by_cases h : okU c = true
  · have HP := Lib.hid (put_ok c w h)
    have hs : shownU c = (decide (32 ≤ c) && (decide (c < 127) || decide (159 < c))) := by unfold shownU; rw [h]; rfl
    rw [hs]
    clear hs h
    by_cases h1 : 32 ≤ c
    · by_cases h2 : c < 127
      · have d1 : decide ((32 : Int) ≤ c) = true := decide_eq_true h1
        have d2 : decide (c < 127) = true := decide_eq_true h2
        rw [d1, d2]
        go_enter Tryz.func34, Tryz.ntmps34
        go_wp2_with fail
        refine (HP.out).mono ?_
        rintro e w1 ⟨g, cap, rfl, _, C1⟩
        go_wp2_with fail
        go_ret
        exact ⟨rfl, C1⟩
      · by_cases h3 : 159 < c
        · have d1 : decide ((32 : Int) ≤ c) = true := decide_eq_true h1
          have d2 : decide (c < 127) = false := decide_eq_false h2
          have d3 : decide ((159 : Int) < c) = true := decide_eq_true h3
          rw [d1, d2, d3]
          go_enter Tryz.func34, Tryz.ntmps34
          go_wp2_with fail
          refine (HP.out).mono ?_
          rintro e w1 ⟨g, cap, rfl, _, C1⟩
          go_wp2_with fail
          go_ret
          exact ⟨rfl, C1⟩
        · have d1 : decide ((32 : Int) ≤ c) = true := decide_eq_true h1
          have d2 : decide (c < 127) = false := decide_eq_false h2
          have d3 : decide ((159 : Int) < c) = false := decide_eq_false h3
          rw [d1, d2, d3]
          go_enter Tryz.func34, Tryz.ntmps34
          go_wp2_with fail
          refine (HP.out).mono ?_
          rintro e w1 ⟨g, cap, rfl, _, C1⟩
          go_wp2_with fail
          go_ret
          exact ⟨rfl, C1⟩
    · have d1 : decide ((32 : Int) ≤ c) = false := decide_eq_false h1
      rw [d1]
      go_enter Tryz.func34, Tryz.ntmps34
      go_wp2_with fail
      refine (HP.out).mono ?_
      rintro e w1 ⟨g, cap, rfl, _, C1⟩
      go_wp2_with fail
      go_ret
      exact ⟨rfl, C1⟩
  · have h' : okU c = false := by simpa using h
    have hs : shownU c = false := by unfold shownU; rw [h']; rfl
    rw [hs]
    have HP := Lib.hid (put_no c w h')
    clear hs h h'
    go_enter Tryz.func34, Tryz.ntmps34
    go_wp2_with fail
    refine (HP.out).mono ?_
    rintro e w1 ⟨rfl, rfl⟩
    go_wp2_with fail
    go_ret
    exact ⟨rfl, Chg.refl _ _⟩
end Go.Proofs.YtafmnkngjjnpiaaGreatDoor
