/-
  ArenaActs: the walk through the law.
-/
import Derived.Test.YtghefhhgckafdaaRefC
import Derived.Test.YtghefhhgckafdaaActC
namespace Go.Proofs.Ytghefhhgckafdaa
set_option linter.unusedVariables false
set_option linter.unusedSimpArgs false
open Go.RowKit
attribute [local go_sem ↓] Go.wp_at_zero Go.wp_at_succ

theorem lenSum_le (acts : List ActD) (B : Nat) (h : ∀ x ∈ acts, x.m ≤ B) : lenSum acts ≤ acts.length * B := by
  unfold lenSum
  induction acts with
  | nil => simp
  | cons x r ih =>
    have h1 := h x (by simp)
    have h2 := ih (fun y hy => h y (by simp [hy]))
    simp only [List.map_cons, List.sum_cons, List.length_cons, Nat.add_mul, Nat.one_mul]
    omega

theorem lenSum_mem {acts : List ActD} {k : Nat} {x : ActD} (h : acts[k]? = some x) : x.m ≤ lenSum acts := by
  unfold lenSum
  have h1 : x.m ∈ acts.map (·.m) := List.mem_map.2 ⟨x, List.mem_of_getElem? h, rfl⟩
  revert h1
  generalize acts.map (·.m) = ms
  intro h1
  induction ms with
  | nil => cases h1
  | cons y r ih =>
    simp only [List.sum_cons]
    rcases List.mem_cons.1 h1 with h | h
    · omega
    · have := ih h; omega

set_option maxRecDepth 100000 in
set_option maxHeartbeats 16000000 in
theorem acts_walk (n : Int) (a0 : Option Addr) (len cap : Nat) (acts : List ActD) (w : World) (hl : len ≤ maxLen) (h : ActsAt w a0 len acts) (hms : ∀ x ∈ acts, x.m ≤ 140737488355328) :
    Calls Try.prog 6 #[.int .i64 n, .slice a0 len cap] w fun e w' => e = .returned (.bool true) ∧ Below w.heap.size w w' := by
  unfold maxLen at hl
  have hN := sizeN_le n
  obtain ⟨N, hNe⟩ : ∃ N, N = sizeN n := ⟨_, rfl⟩
  rw [← hNe] at hN
  have hsz := Lib.hid (fun w => by have := size_any n w; rw [← hNe] at this; exact this)
  clear hNe
  have HMS := Lib.hid hms
  clear hms
  go_enter Try.func6, Try.ntmps6
  go_wp2_with (go_at_call 17; refine (hsz.out _).mono ?_; rintro e w' ⟨rfl, rfl⟩)
  refine (new_at N _ (by omega) (by omega)).mono ?_
  rintro e w1 ⟨bA, bC, rfl, C1, A1, l1, l2⟩
  have D1 : Chg [] w w1 := C1
  go_wp2_with fail
  refine (alive_any _).mono ?_
  rintro e w2 ⟨rfl, C2⟩
  have A2 := A1.chg C2 (by simp) (by simp)
  have D2 := D1.trans C2 (U := []) (by simp) (by simp)
  clear A1 D1 C1 C2
  go_wp2_with fail
  refine (great_any a0 len cap acts _ (h.chg D2) hl).mono ?_
  rintro e w3 ⟨rfl | ⟨rfl, hg1, hg2⟩, C3⟩
  · have D3 := D2.trans C3 (U := []) (by simp) (by simp)
    go_wp2_with fail
    refine (alive_any _).mono ?_
    rintro e w4 ⟨rfl, C4⟩
    have D4 := D3.trans C4 (U := []) (by simp) (by simp)
    go_wp2_with fail
    go_ret
    exact ⟨rfl, Chg.below (Below.refl _ _) D4 (by simp) (Nat.le_refl _)⟩
  · have A3 := A2.chg C3 (by simp) (by simp)
    have D3 := D2.trans C3 (U := []) (by simp) (by simp)
    have hsum := Lib.hid (hg2 (by have h1 := lenSum_le acts _ HMS.out; have h2 := h.1; rw [h2] at h1; have h3 : len * 140737488355328 ≤ 150 * 140737488355328 := Nat.mul_le_mul_right _ hg1; unfold maxLen; omega))
    clear A2 D2 C3 hg2 HMS
    have hAlt := A3.lt
    have hge := D3.size
    go_wp2_with (go_at_call 17; refine (hsz.out _).mono ?_; rintro e w' ⟨rfl, rfl⟩)
    obtain ⟨bM, hbM⟩ : ∃ bM, w3.heap.size = bM := ⟨_, rfl⟩
    have R4 : RefIs (w3.alloc (.cells #[.slice none 0 0, .int .i64 (N : Nat)] 44)) (bM + 1) bM N [] none 0 :=
      ⟨by rw [← hbM]; exact alloc_heap w3 _, ⟨rfl, fun h0 => absurd h0 (by simp)⟩, Nat.zero_le _, hN.2, Nat.le_refl _, Nat.zero_le _, fun _ => rfl, fun ad e => (by cases e), by omega, by rw [← hbM]; simp⟩
    have A4 : ArenaIs (w3.alloc (.cells #[.slice none 0 0, .int .i64 (N : Nat)] 44)) bA bC N [] := A3.alloc _
    have D4 : Chg [] w (w3.alloc (.cells #[.slice none 0 0, .int .i64 (N : Nat)] 44)) := D3.alloc _
    clear A3 D3
    rw [hbM] at hAlt hge
    rw [hbM]
    clear hbM
    go_loopw [48] (fun i wr => ∃ (k : Nat) (l : List Int) (bo : Option Addr) (bc : Nat), k ≤ len ∧ i = .int .i64 k ∧ ArenaIs wr bA bC N l ∧ RefIs wr (bM + 1) bM N l bo bc ∧ Chg [] w wr) (fun i _ => len - (intOf i).toNat)
    case atStart => exact ⟨0, _, _, _, Nat.zero_le _, rfl, A4, R4, D4⟩
    case round =>
      obtain ⟨k, l, bo, bc, hk, rfl, Ar, Rr, Dr⟩ := hrel
      clear A4 R4 D4
      by_cases hlt : k < len
      · obtain ⟨bl, off, x, rfl, hx, hat⟩ := h.get hlt
        obtain ⟨h0, h1, h2, h3, h4, hr⟩ := hat.chg Dr
        have hsA := Lib.hid (show ∀ w', Chg [] w w' → SrcIs w' x.ao x.m (x.zs.take x.m) [bA, bC] from fun w' hc => (hat.2.2.2.2.2.src x.m (by have := hr.le; omega) [bA, bC] (by simp; omega)).chg hc (by simp))
        have hsB := Lib.hid (show ∀ w', Chg [] w w' → SrcIs w' x.ao x.m (x.zs.take x.m) [] from fun w' hc => (hat.2.2.2.2.2.src x.m (by have := hr.le; omega) [] (by simp)).chg hc (by simp))
        have hnone := Lib.hid (show x.ao = none → x.m = 0 ∧ x.cap = 0 from fun e => by
          rcases hr with ⟨_, e1, e2, _⟩ | ⟨y, e1, _⟩
          · exact ⟨e1, e2⟩
          · rw [e] at e1; cases e1)
        have hm4 : x.m ≤ 4000 := by have h1 := lenSum_mem hx; have h2 := hsum.out; omega
        clear hat hr
        rcases (by omega : x.kind = 0 ∨ x.kind = 1 ∨ x.kind = 2 ∨ x.kind = 3 ∨ (¬ x.kind = 0 ∧ ¬ x.kind = 1 ∧ ¬ x.kind = 2 ∧ ¬ x.kind = 3)) with k0 | k0 | k0 | k0 | ⟨k0, k1, k2, k3⟩
        all_goals (
          try rw [k0] at h0
          go_wp2_with fail
          generalize hw4 : wr.alloc _ = w4)
        all_goals (
          have E4 : Chg [bA, bC, bM] wr w4 := by rw [← hw4]; exact (Chg.refl _ _).alloc _
          have g4 := alloc_heap wr (.cells #[.int .i64 x.kind, .int .i64 x.a, .int .i64 x.b, .int .i64 x.c, .slice x.ao x.m x.cap] 46)
          try rw [k0] at g4
          rw [hw4] at g4
          have D4 : Chg [] w w4 := by rw [← hw4]; exact Dr.alloc _
          have A4 : ArenaIs w4 bA bC N l := by rw [← hw4]; exact Ar.alloc _
          have R4 : RefIs w4 (bM + 1) bM N l bo bc := by rw [← hw4]; exact Rr.chg ((Chg.refl [] _).alloc _) (by simp)
          have hgw : w4.heap.size = wr.heap.size + 1 := by rw [← hw4]; simp
          have hAr := Ar.lt
          have hRr := Rr.size
          generalize hgq : wr.heap.size = g at *
          have hgne : g ∉ [bA, bC, bM] := by simp; omega
          have hK := Lib.hid (show ∀ w', Chg [bA, bC, bM] w4 w' → w'.cell? ⟨g, 1, none⟩ = some (.int .i64 x.a) ∧ w'.cell? ⟨g, 2, none⟩ = some (.int .i64 x.b) ∧ w'.cell? ⟨g, 3, none⟩ = some (.int .i64 x.c) ∧ w'.cell? ⟨g, 4, none⟩ = some (.slice x.ao x.m x.cap) from fun w' hc => by
            have hh := hc.heap g4 hgne
            exact ⟨by rw [cell_of_heap hh]; rfl, by rw [cell_of_heap hh]; rfl, by rw [cell_of_heap hh]; rfl, by rw [cell_of_heap hh]; rfl⟩)
          have E5 : Chg [bA, bC, bM] w4 w4.drew := (Chg.refl _ _).drew
          have A5 := A4.drew
          have R5 := R4.chg (Chg.refl [] w4).drew (by simp)
          have D5 := D4.drew
          have hlo := Lib.hid (show w.heap.size ≤ bA ∧ w.heap.size ≤ bC ∧ w.heap.size ≤ bM from ⟨l1, l2, hge⟩)
          clear hw4 E4 g4 h0 h1 h2 h3 h4 Ar Rr Dr hgw hAr hRr hgne hgq)
        all_goals (first
          | (go_region_held3 (fun w' => w'.cell? ⟨g, 1, none⟩ = some (.int .i64 x.a) ∧ w'.cell? ⟨g, 2, none⟩ = some (.int .i64 x.b) ∧ w'.cell? ⟨g, 3, none⟩ = some (.int .i64 x.c) ∧ w'.cell? ⟨g, 4, none⟩ = some (.slice x.ao x.m x.cap)) (exact hK.out _ (by assumption))
              (first
                | (go_at_call 11; refine (insert_any bA bC N l x.a _ _ _ _ _ (by assumption) (hsA.out _ (by assumption))).mono ?_; rintro e w6 ⟨rfl, C6, A6⟩; have R6 := RefIs.chg (h := (by assumption)) C6 (by simp; omega); have D6 : Chg [] w w6 := Chg.trans (by assumption) C6 (by simp) (by have := hlo.out; simp; omega); have E6 : Chg [bA, bC, bM] w4 w6 := Chg.trans (by assumption) C6 (by simp) (by simp))
                | (go_at_call 19; refine (refInsert_any (bM + 1) bM N l _ _ x.a _ _ _ _ _ (by assumption) (hsB.out _ (by assumption)) hnone.out hm4).mono ?_; rintro e w8 ⟨rfl, C8, bo8, bc8, R8⟩; have A8 := ArenaIs.chg (h := (by assumption)) C8 (by simp; omega) (by simp; omega); have D8 : Chg [] w w8 := Chg.trans (by assumption) C8 (by simp) (by have := hlo.out; simp; omega); have E8 : Chg [bA, bC, bM] w4 w8 := Chg.trans (by assumption) C8 (by simp) (by simp)))
             generalize insL N l x.a _ = l' at A8 R8
             clear E8 C8 A6 R6 D6 E6 C6
             go_wp2_with fail)
          | (go_region_held3 (fun w' => w'.cell? ⟨g, 1, none⟩ = some (.int .i64 x.a) ∧ w'.cell? ⟨g, 2, none⟩ = some (.int .i64 x.b) ∧ w'.cell? ⟨g, 3, none⟩ = some (.int .i64 x.c) ∧ w'.cell? ⟨g, 4, none⟩ = some (.slice x.ao x.m x.cap)) (exact hK.out _ (by assumption))
              (first
                | (go_at_call 14; refine (delete_any bA bC N l x.a x.b _ (by assumption)).mono ?_; rintro e w6 ⟨rfl, C6, A6⟩; have R6 := RefIs.chg (h := (by assumption)) C6 (by simp; omega); have D6 : Chg [] w w6 := Chg.trans (by assumption) C6 (by simp) (by have := hlo.out; simp; omega); have E6 : Chg [bA, bC, bM] w4 w6 := Chg.trans (by assumption) C6 (by simp) (by simp))
                | (go_at_call 20; refine (refDelete_any (bM + 1) bM N l _ _ x.a x.b _ (by assumption)).mono ?_; rintro e w8 ⟨rfl, C8, bo8, bc8, R8⟩; have A8 := ArenaIs.chg (h := (by assumption)) C8 (by simp; omega) (by simp; omega); have D8 : Chg [] w w8 := Chg.trans (by assumption) C8 (by simp) (by have := hlo.out; simp; omega); have E8 : Chg [bA, bC, bM] w4 w8 := Chg.trans (by assumption) C8 (by simp) (by simp)))
             generalize delL l x.a x.b = l' at A8 R8
             clear E8 C8 A6 R6 D6 E6 C6
             go_wp2_with fail)
          | (go_region_held3 (fun w' => w'.cell? ⟨g, 1, none⟩ = some (.int .i64 x.a) ∧ w'.cell? ⟨g, 2, none⟩ = some (.int .i64 x.b) ∧ w'.cell? ⟨g, 3, none⟩ = some (.int .i64 x.c) ∧ w'.cell? ⟨g, 4, none⟩ = some (.slice x.ao x.m x.cap)) (exact hK.out _ (by assumption))
              (first
                | (go_at_call 16; refine (move_any bA bC N l x.a x.b x.c _ (by assumption)).mono ?_; rintro e w6 ⟨rfl, C6, A6⟩; have R6 := RefIs.chg (h := (by assumption)) C6 (by simp; omega); have D6 : Chg [] w w6 := Chg.trans (by assumption) C6 (by simp) (by have := hlo.out; simp; omega); have E6 : Chg [bA, bC, bM] w4 w6 := Chg.trans (by assumption) C6 (by simp) (by simp))
                | (go_at_call 21; refine (refMove_any (bM + 1) bM N l _ _ x.a x.b x.c _ (by assumption)).mono ?_; rintro e w8 ⟨rfl, C8, bo8, bc8, R8⟩; have A8 := ArenaIs.chg (h := (by assumption)) C8 (by simp; omega) (by simp; omega); have D8 : Chg [] w w8 := Chg.trans (by assumption) C8 (by simp) (by have := hlo.out; simp; omega); have E8 : Chg [bA, bC, bM] w4 w8 := Chg.trans (by assumption) C8 (by simp) (by simp)))
             generalize movM l x.a x.b x.c = l' at A8 R8
             clear E8 C8 A6 R6 D6 E6 C6
             go_wp2_with fail)
          | (go_at_call 22
             refine (wipe_any bA bC N l _ A4).mono ?_
             rintro e w6 ⟨rfl, C6, A6⟩
             have R6 := R4.chg C6 (by simp; omega)
             have D6 : Chg [] w w6 := D4.trans C6 (by simp) (by have := hlo.out; simp; omega)
             have q0 := R6.cell0
             have q1 := free_of_heap R6.hM 0
             have R8 := ref_mk R6 (Chg.refl [] w6) (b3 := none) (n := 0) (c3 := 0) (xs := []) ⟨⟨rfl, fun h0 => absurd h0 (by simp)⟩, Nat.le_refl _, Nat.zero_le _, fun _ => rfl, fun ad e => by cases e⟩ (Nat.zero_le _)
             have C8 : Chg [bM] w6 (w6.setCell ⟨bM, 0, none⟩ (.slice none 0 0)) := (Chg.refl _ _).setCell (Or.inl (by simp)) _
             have A8 := A6.chg C8 (by simp; omega) (by simp; omega)
             have D8 : Chg [] w (w6.setCell ⟨bM, 0, none⟩ (.slice none 0 0)) := D6.trans C8 (by simp) (by have := hlo.out; simp; omega)
             clear C6 A6 R6 D6 C8
             go_wp2_with fail
             clear q0 q1
             generalize w6.setCell ⟨bM, 0, none⟩ (.slice none 0 0) = w8 at *
             generalize ([] : List Int) = l' at A8 R8
             obtain ⟨bo8, hbo8⟩ : ∃ b : Option Addr, b = none := ⟨_, rfl⟩
             obtain ⟨bc8, hbc8⟩ : ∃ b : Nat, b = 0 := ⟨_, rfl⟩
             rw [← hbo8, ← hbc8] at R8
             clear hbo8 hbc8)
          | (have A8 := A4; have R8 := R4; have D8 := D4; generalize l = l' at A8 R8; generalize bo = bo8 at R8; generalize bc = bc8 at R8; clear A5 R5 D5 E5 hK A4 R4 D4; obtain ⟨w8, rfl⟩ : ∃ wo : World, wo = w4 := ⟨_, rfl⟩))
        all_goals (
          have hK8 := Lib.hid (show ∀ w', Chg [] w8 w' → w'.cell? ⟨bM, 0, none⟩ = some (.slice bo8 l'.length bc8) ∧ (convert 22 9 (.slice bo8 l'.length bc8)).run Try.prog w' = .ok (.string (strOfNums l')) w' from fun w' hc => ⟨hc.cell R8.cell0 (by simp), conv_src ((R8.chg hc (by simp)).src)⟩)
          have hAA := Lib.hid (show ∀ w', Chg [] w8 w' → ArenaIs w' bA bC N l' from fun w' hc => A8.chg hc (by simp) (by simp))
          have hRR := Lib.hid (show ∀ w', Chg [] w8 w' → RefIs w' (bM + 1) bM N l' bo8 bc8 from fun w' hc => R8.chg hc (by simp))
          have hDD := Lib.hid (show ∀ w', Chg [] w8 w' → Chg [] w w' from fun w' hc => D8.trans hc (by simp) (by simp))
          have hle8 := Lib.hid (show l'.length ≤ 140737488355328 by have := R8.le; omega)
          have F0 : Chg [] w8 w8.drew := (Chg.refl [] w8).drew
          clear A8 R8 D8
          go_region_held3 (fun w' => w'.cell? ⟨bM, 0, none⟩ = some (.slice bo8 l'.length bc8) ∧ (convert 22 9 (.slice bo8 l'.length bc8)).run Try.prog w' = .ok (.string (strOfNums l')) w') (exact hK8.out _ (by assumption))
            (first
              | (go_at_call 23; refine (len_any bA bC N l' _ (hAA.out _ (by assumption))).mono ?_; rintro e w' ⟨rfl, rfl⟩)
              | (go_at_call 13; refine (text_any bA bC N l' _ (hAA.out _ (by assumption))).mono ?_; rintro e w9 ⟨rfl, C9⟩; have F9 : Chg [] w8 w9 := Chg.trans (by assumption) C9 (by simp) (by simp))
              | (go_at_call 24; refine (clean_any bA bC N l' _ (hAA.out _ (by assumption))).mono ?_; rintro e w10 ⟨rfl, C10⟩; have F10 : Chg [] w8 w10 := Chg.trans (by assumption) C10 (by simp) (by simp))
              | (go_at_call 25; refine (zeroM_any bA bC N l' _ (hAA.out _ (by assumption))).mono ?_; rintro e w' ⟨rfl, rfl⟩)
              | (go_at_call 26; refine (zeroL_any _ _ _ l' _ (hRR.out _ (by assumption)).src hle8.out).mono ?_; rintro e w' ⟨rfl, rfl⟩))
          clear hK8
          go_wp2_with (go_at_call 17; refine (hsz.out _).mono ?_; rintro e w' ⟨rfl, rfl⟩)
          obtain ⟨w11, F11, hw11⟩ : ∃ wo, Chg [] w8 wo ∧ wo = w10 := ⟨_, F10, rfl⟩
          subst hw11
          have AT := hAA.out _ F11
          have RT := hRR.out _ F11
          have DT := hDD.out _ F11
          clear F0 F9 F10 C9 C10 F11 hAA hRR hDD
          go_loop [145] (fun i => ∃ j : Nat, j ≤ N ∧ i = .int .i64 j) (fun i => N - (intOf i).toNat)
          case atStart => exact ⟨0, Nat.zero_le _, rfl⟩
          case round =>
            obtain ⟨j, hjN, rfl⟩ := hrel
            by_cases hjl : j < N
            · have v1 : cellR N l' j = cellV l' j := by unfold cellR; rw [if_neg (by omega)]
              have v2 : cellE N j = 0 := by unfold cellE; rw [if_neg (by omega)]
              have hc := cell_any bA bC N l' j _ AT
              have hr := refCell_any (bM + 1) bM N l' bo8 bc8 j _ RT
              rw [v1, v2] at hc
              clear v1 v2
              generalize cellV l' (j : Int) = z at *
              go_wp2_with (first | (go_at_call 27; refine hc.mono ?_; rintro e w' ⟨rfl, rfl⟩) | (go_at_call 28; refine hr.mono ?_; rintro e w' ⟨rfl, rfl⟩))
              exact ⟨⟨j + 1, by omega, by go_num⟩, by simp [intOf]; omega⟩
            · go_wp2_with fail
              exact ⟨⟨k + 1, l', bo8, bc8, by omega, by go_num, AT, RT, DT⟩, by simp [intOf]; omega⟩)
      · have hkl : ¬ k < len := hlt
        go_wp2_with (first | (go_at_call 29; refine (cap_any _ _ _ _ _ Ar).mono ?_; rintro e w' ⟨rfl, rfl⟩) | (go_at_call 17; refine (hsz.out _).mono ?_; rintro e w' ⟨rfl, rfl⟩))
        go_ret
        exact ⟨rfl, Chg.below (Below.refl _ _) Dr (by simp) (Nat.le_refl _)⟩

theorem acts_law (n : Int) (a0 : Option Addr) (len cap : Nat) (acts : List ActD) (w : World) (_ : (Lit.int .i64 n).wf = true) (hl : len ≤ maxLen) (h : ActsAt w a0 len acts) (hms : ∀ x ∈ acts, x.m ≤ 140737488355328) :
    Calls Try.prog 6 #[.int .i64 n, .slice a0 len cap] w fun e w' => e = .returned (.bool true) ∧ Below w.heap.size w w' := acts_walk n a0 len cap acts w hl h hms
end Go.Proofs.Ytghefhhgckafdaa
