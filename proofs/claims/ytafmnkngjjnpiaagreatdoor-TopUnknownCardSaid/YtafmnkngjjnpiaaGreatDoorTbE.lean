import Derived.Test.YtafmnkngjjnpiaaGreatDoorTbD
namespace Go.Proofs.YtafmnkngjjnpiaaGreatDoor
set_option linter.unusedVariables false
set_option linter.unusedSimpArgs false
set_option maxRecDepth 100000
open Go.RowKit
def DoPost (bE bA bC N : Nat) (R : Bool × Int × Bf) (w : World) (e : Ending) (w' : World) : Prop := e = .returned (.tuple #[.bool R.1, .int .i64 R.2.1]) ∧ Chg [bE, bA, bC] w w' ∧ BufIs w' bE bA bC N R.2.2
def DoCalls (bE bA bC N : Nat) (b : Bf) (k : Ky) (w : World) : Prop := Calls Tryz.prog 17 #[.pointer (some ⟨bE, 0, none⟩), .agg #[.int .i64 k.kind, .int .i64 k.c]] w (DoPost bE bA bC N (doB N b k) w)
set_option maxHeartbeats 8000000 in
theorem do_rune (bE bA bC N : Nat) (b : Bf) (c : Int) (w : World) (h : BufIs w bE bA bC N b) : DoCalls bE bA bC N b ⟨0, c⟩ w := by
  have C1 : Chg [] w (w.alloc (.cells #[.int .i64 0, .int .i64 c] 48)) := (Chg.refl _ _).alloc _
  have X1 := alloc_heap w (.cells #[.int .i64 0, .int .i64 c] 48)
  have k0 : (w.alloc (.cells #[.int .i64 0, .int .i64 c] 48)).cell? ⟨w.heap.size, 0, none⟩ = some (.int .i64 0) := by rw [cell_of_heap X1]; rfl
  have k1 : (w.alloc (.cells #[.int .i64 0, .int .i64 c] 48)).cell? ⟨w.heap.size, 1, none⟩ = some (.int .i64 c) := by rw [cell_of_heap X1]; rfl
  have HP := Lib.hid (put_buf bE bA bC N b c _ (h.chg0 C1))
  have HC := Lib.hid C1
  unfold DoCalls doB
  rw [if_pos rfl]
  dsimp only
  generalize putB N b c = R at *
  obtain ⟨er, b2⟩ := R
  dsimp only
  clear C1 X1 h
  rcases Int.decEq er 0 with he | he
  · have t0 : (er == 0) = false := by rw [beq_eq_false_iff_ne]; exact he
    rw [decide_eq_false he]
    clear he
    go_enter Tryz.func17, Tryz.ntmps17
    go_wp2_with fail
    refine (HP.out).mono ?_
    rintro e w2 ⟨rfl, C2, B2⟩
    go_wp2_with fail
    go_ret2
    exact ⟨rfl, HC.out.trans C2 (by simp) (fun x hx _ => hx), B2⟩
  · subst he
    go_enter Tryz.func17, Tryz.ntmps17
    go_wp2_with fail
    refine (HP.out).mono ?_
    rintro e w2 ⟨rfl, C2, B2⟩
    go_wp2_with fail
    go_ret2
    exact ⟨rfl, HC.out.trans C2 (by simp) (fun x hx _ => hx), B2⟩
theorem do_head {w : World} {bE bA bC N : Nat} {b : Bf} {kk kc : Int} (h : BufIs w bE bA bC N b) : Chg [] w (w.alloc (.cells #[.int .i64 kk, .int .i64 kc] 48)) ∧ (w.alloc (.cells #[.int .i64 kk, .int .i64 kc] 48)).heap[w.heap.size]? = some (.cells #[.int .i64 kk, .int .i64 kc] 48 (0, 0)) := ⟨(Chg.refl _ _).alloc _, alloc_heap _ _⟩
set_option maxHeartbeats 8000000 in
theorem do_none (bE bA bC N : Nat) (b : Bf) (kk kc : Int) (w : World) (h : BufIs w bE bA bC N b) (h0 : kk ≠ 0) (hm : moveB b kk = none) (hv : doV kk = none) : DoCalls bE bA bC N b ⟨kk, kc⟩ w := by
  obtain ⟨C1, X1⟩ := do_head (kk := kk) (kc := kc) h
  have k0 : (w.alloc (.cells #[.int .i64 kk, .int .i64 kc] 48)).cell? ⟨w.heap.size, 0, none⟩ = some (.int .i64 kk) := by rw [cell_of_heap X1]; rfl
  have t0 : (kk == 0) = false := by rw [beq_eq_false_iff_ne]; exact h0
  have HH := Lib.hid (h.chg0 C1)
  have HC := Lib.hid C1
  have HV := Lib.hid hv
  unfold DoCalls doB
  rw [if_neg h0]
  dsimp only
  rw [hm]
  dsimp only
  clear C1 X1 h h0 hm hv
  go_enter Tryz.func17, Tryz.ntmps17
  go_wp2_with fail
  generalize w.alloc _ = w1 at *
  generalize w.heap.size = b3 at *
  go_region_held3 (fun w' => w'.cell? ⟨b3, 0, none⟩ = some (.int .i64 kk)) (first | exact C4.cell k0 (by simp) | go_keep)
    (first | (go_at_call 47; refine (kindsE_any _).mono ?_; rintro e w4 ⟨b4, es4, rfl, C4', H4, M4, _⟩; have C4 : Chg [] w1 w4 := C4'.of_drew; have LK := MapV.look (mt := 117) (z := .nilFunc) Tryz.underlying117 Tryz.underlying3 M4 keyI H4 (by kernel_rfl) kk; rw [HV.out] at LK; simp only [Option.getD_some, Option.getD_none, Option.isSome_some, Option.isSome_none] at LK))
  all_goals (
    go_wp2_with fail
    go_ret2
    exact ⟨rfl, (HC.out.trans C4 (U := []) (by simp) (by simp)).mono (by simp), HH.out.chg0 C4⟩)
set_option maxHeartbeats 8000000 in
theorem do_back (bE bA bC N : Nat) (b : Bf) (kc : Int) (w : World) (h : BufIs w bE bA bC N b) : DoCalls bE bA bC N b ⟨2, kc⟩ w := by
  obtain ⟨C1, X1⟩ := do_head (kk := 2) (kc := kc) h
  have k0 : (w.alloc (.cells #[.int .i64 2, .int .i64 kc] 48)).cell? ⟨w.heap.size, 0, none⟩ = some (.int .i64 2) := by rw [cell_of_heap X1]; rfl
  have HH := Lib.hid (h.chg0 C1)
  have HC := Lib.hid C1
  have hle := h.le
  have hmo := h.ar.most
  have hal := h.ar.le
  have hdo : doB N b ⟨2, kc⟩ = (decide (Bf.at' (takeB b (aheadB b) b.at') ≠ b.at') || decide ((Bf.l (takeB b (aheadB b) b.at')).length ≠ b.l.length), 0, takeB b (aheadB b) b.at') := rfl
  unfold DoCalls
  rw [hdo]
  clear hdo
  obtain ⟨b', hb'⟩ : ∃ b' : Bf, takeB b (aheadB b) b.at' = b' := ⟨_, rfl⟩
  have HF := Lib.hid (fun W (C : Chg [] (w.alloc (.cells #[.int .i64 2, .int .i64 kc] 48)) W) => back_any bE bA bC N b W (HH.out.chg0 C))
  rw [hb'] at HF ⊢
  obtain ⟨p, hp⟩ : ∃ p, p = b.at' := ⟨_, rfl⟩
  obtain ⟨n, hn⟩ : ∃ n, n = b.l.length := ⟨_, rfl⟩
  have HPN := Lib.hid (And.intro hp hn)
  have x0 := HH.out.c0
  have x1 := HH.out.c1
  rw [← hp] at x1 hle ⊢
  rw [← hn] at hle hal ⊢
  have HLN : Hid (∀ W, Chg [] (w.alloc (.cells #[.int .i64 2, .int .i64 kc] 48)) W → Calls Tryz.prog 41 #[.pointer (some ⟨bA, 0, none⟩)] W fun e w' => e = .returned (.int .i64 (n : Nat)) ∧ W = w') := Lib.hid (fun W C => by rw [hn]; exact Ar.len_any bA bC N b.l W (HH.out.chg0 C).ar)
  obtain ⟨bb, hbb⟩ : ∃ bb, bb = (decide (b'.at' ≠ p) || decide (b'.l.length ≠ n)) := ⟨_, rfl⟩
  rw [← hbb]
  have HBB := Lib.hid hbb
  clear C1 X1 h hb' hp hn hbb
  go_enter Tryz.func17, Tryz.ntmps17
  go_wp2_with fail
  generalize w.alloc _ = w1 at *
  generalize w.heap.size = b3 at *
  go_region_held3 (fun w' => w'.cell? ⟨b3, 0, none⟩ = some (.int .i64 2)) (first | exact C4.cell k0 (by simp) | go_keep)
    (first | (go_at_call 47; refine (kindsE_any _).mono ?_; rintro e w4 ⟨b4, es4, rfl, C4', H4, M4, _⟩; have C4 : Chg [] w1 w4 := C4'.of_drew; have LK := MapV.look (mt := 117) (z := .nilFunc) Tryz.underlying117 Tryz.underlying3 M4 keyI H4 (by kernel_rfl) 2; rw [show doV 2 = some (Value.func (Fn.func 69) #[] #[]) from rfl] at LK; simp only [Option.getD_some, Option.getD_none, Option.isSome_some, Option.isSome_none] at LK))
  all_goals (
    have HC4 := Lib.hid C4
    have y0 := C4.cell x0 (by simp)
    have y1 := C4.cell x1 (by simp)
    clear x0 x1 k0 C4 C4' H4 M4
    go_wp2_with fail
    clear LK
    go_region_held3 (fun w' => w'.cell? ⟨bE, 0, none⟩ = some (.pointer (some ⟨bA, 0, none⟩)) ∧ w'.cell? ⟨bE, 1, none⟩ = some (.int .i64 (p : Nat))) (go_keep)
      (first | (go_at_call 41; refine Calls.mono (HLN.out _ (by first | exact HC4.out.drew | exact HC4.out)) ?_; rintro e w5 ⟨rfl, rfl⟩)))
  all_goals (
    clear y0 y1
    go_wp2_with fail
    refine (HF.out _ (by first | exact HC4.out.drew | exact HC4.out)).mono ?_
    rintro e w6 ⟨rfl, C6, B6⟩
    have z0 := B6.c0
    have z1 := B6.c1
    have HE := Lib.hid (And.intro C6 B6)
    have HL6 := Lib.hid (Ar.len_any bA bC N b'.l _ B6.ar)
    clear C6 B6
    by_cases hq : b'.at' = p
    · have t1 : (((b'.at' : Nat) : Int) != ((p : Nat) : Int)) = false := by rw [hq]; simp
      have t2 : (((b'.l.length : Nat) : Int) != ((n : Nat) : Int)) = bb := by
        rw [HBB.out, decide_eq_false (by simp [hq]), Bool.false_or]
        by_cases h2 : b'.l.length = n
        · rw [h2]; simp
        · rw [decide_eq_true h2, bne_iff_ne]; omega
      clear hq
      go_wp2_with fail
      refine (HL6.out).mono ?_
      rintro e w7 ⟨rfl, rfl⟩
      go_wp2_with fail
      go_ret2
      exact ⟨rfl, (HC.out.trans HC4.out (U := [bE, bA, bC]) (by simp) (by simp)).trans (by first | exact HE.out.1.of_drew | exact HE.out.1) (fun x hx => hx) (fun x hx _ => hx), HE.out.2⟩
    · have t1 : (((b'.at' : Nat) : Int) != ((p : Nat) : Int)) = true := by rw [bne_iff_ne]; omega
      have hv1 : bb = true := by rw [HBB.out, decide_eq_true hq, Bool.true_or]
      subst hv1
      clear hq
      go_wp2_with fail
      go_ret2
      exact ⟨rfl, (HC.out.trans HC4.out (U := [bE, bA, bC]) (by simp) (by simp)).trans (by first | exact HE.out.1.of_drew | exact HE.out.1) (fun x hx => hx) (fun x hx _ => hx), HE.out.2⟩)
set_option maxHeartbeats 8000000 in
theorem do_del (bE bA bC N : Nat) (b : Bf) (kc : Int) (w : World) (h : BufIs w bE bA bC N b) : DoCalls bE bA bC N b ⟨3, kc⟩ w := by
  obtain ⟨C1, X1⟩ := do_head (kk := 3) (kc := kc) h
  have k0 : (w.alloc (.cells #[.int .i64 3, .int .i64 kc] 48)).cell? ⟨w.heap.size, 0, none⟩ = some (.int .i64 3) := by rw [cell_of_heap X1]; rfl
  have HH := Lib.hid (h.chg0 C1)
  have HC := Lib.hid C1
  have hle := h.le
  have hmo := h.ar.most
  have hal := h.ar.le
  have hdo : doB N b ⟨3, kc⟩ = (decide (Bf.at' (takeB b b.at' (behindB b)) ≠ b.at') || decide ((Bf.l (takeB b b.at' (behindB b))).length ≠ b.l.length), 0, takeB b b.at' (behindB b)) := rfl
  unfold DoCalls
  rw [hdo]
  clear hdo
  obtain ⟨b', hb'⟩ : ∃ b' : Bf, takeB b b.at' (behindB b) = b' := ⟨_, rfl⟩
  have HF := Lib.hid (fun W (C : Chg [] (w.alloc (.cells #[.int .i64 3, .int .i64 kc] 48)) W) => del_any bE bA bC N b W (HH.out.chg0 C))
  rw [hb'] at HF ⊢
  obtain ⟨p, hp⟩ : ∃ p, p = b.at' := ⟨_, rfl⟩
  obtain ⟨n, hn⟩ : ∃ n, n = b.l.length := ⟨_, rfl⟩
  have HPN := Lib.hid (And.intro hp hn)
  have x0 := HH.out.c0
  have x1 := HH.out.c1
  rw [← hp] at x1 hle ⊢
  rw [← hn] at hle hal ⊢
  have HLN : Hid (∀ W, Chg [] (w.alloc (.cells #[.int .i64 3, .int .i64 kc] 48)) W → Calls Tryz.prog 41 #[.pointer (some ⟨bA, 0, none⟩)] W fun e w' => e = .returned (.int .i64 (n : Nat)) ∧ W = w') := Lib.hid (fun W C => by rw [hn]; exact Ar.len_any bA bC N b.l W (HH.out.chg0 C).ar)
  obtain ⟨bb, hbb⟩ : ∃ bb, bb = (decide (b'.at' ≠ p) || decide (b'.l.length ≠ n)) := ⟨_, rfl⟩
  rw [← hbb]
  have HBB := Lib.hid hbb
  clear C1 X1 h hb' hp hn hbb
  go_enter Tryz.func17, Tryz.ntmps17
  go_wp2_with fail
  generalize w.alloc _ = w1 at *
  generalize w.heap.size = b3 at *
  go_region_held3 (fun w' => w'.cell? ⟨b3, 0, none⟩ = some (.int .i64 3)) (first | exact C4.cell k0 (by simp) | go_keep)
    (first | (go_at_call 47; refine (kindsE_any _).mono ?_; rintro e w4 ⟨b4, es4, rfl, C4', H4, M4, _⟩; have C4 : Chg [] w1 w4 := C4'.of_drew; have LK := MapV.look (mt := 117) (z := .nilFunc) Tryz.underlying117 Tryz.underlying3 M4 keyI H4 (by kernel_rfl) 3; rw [show doV 3 = some (Value.func (Fn.func 70) #[] #[]) from rfl] at LK; simp only [Option.getD_some, Option.getD_none, Option.isSome_some, Option.isSome_none] at LK))
  all_goals (
    have HC4 := Lib.hid C4
    have y0 := C4.cell x0 (by simp)
    have y1 := C4.cell x1 (by simp)
    clear x0 x1 k0 C4 C4' H4 M4
    go_wp2_with fail
    clear LK
    go_region_held3 (fun w' => w'.cell? ⟨bE, 0, none⟩ = some (.pointer (some ⟨bA, 0, none⟩)) ∧ w'.cell? ⟨bE, 1, none⟩ = some (.int .i64 (p : Nat))) (go_keep)
      (first | (go_at_call 41; refine Calls.mono (HLN.out _ (by first | exact HC4.out.drew | exact HC4.out)) ?_; rintro e w5 ⟨rfl, rfl⟩)))
  all_goals (
    clear y0 y1
    go_wp2_with fail
    refine (HF.out _ (by first | exact HC4.out.drew | exact HC4.out)).mono ?_
    rintro e w6 ⟨rfl, C6, B6⟩
    have z0 := B6.c0
    have z1 := B6.c1
    have HE := Lib.hid (And.intro C6 B6)
    have HL6 := Lib.hid (Ar.len_any bA bC N b'.l _ B6.ar)
    clear C6 B6
    by_cases hq : b'.at' = p
    · have t1 : (((b'.at' : Nat) : Int) != ((p : Nat) : Int)) = false := by rw [hq]; simp
      have t2 : (((b'.l.length : Nat) : Int) != ((n : Nat) : Int)) = bb := by
        rw [HBB.out, decide_eq_false (by simp [hq]), Bool.false_or]
        by_cases h2 : b'.l.length = n
        · rw [h2]; simp
        · rw [decide_eq_true h2, bne_iff_ne]; omega
      clear hq
      go_wp2_with fail
      refine (HL6.out).mono ?_
      rintro e w7 ⟨rfl, rfl⟩
      go_wp2_with fail
      go_ret2
      exact ⟨rfl, (HC.out.trans HC4.out (U := [bE, bA, bC]) (by simp) (by simp)).trans (by first | exact HE.out.1.of_drew | exact HE.out.1) (fun x hx => hx) (fun x hx _ => hx), HE.out.2⟩
    · have t1 : (((b'.at' : Nat) : Int) != ((p : Nat) : Int)) = true := by rw [bne_iff_ne]; omega
      have hv1 : bb = true := by rw [HBB.out, decide_eq_true hq, Bool.true_or]
      subst hv1
      clear hq
      go_wp2_with fail
      go_ret2
      exact ⟨rfl, (HC.out.trans HC4.out (U := [bE, bA, bC]) (by simp) (by simp)).trans (by first | exact HE.out.1.of_drew | exact HE.out.1) (fun x hx => hx) (fun x hx _ => hx), HE.out.2⟩)
set_option maxHeartbeats 8000000 in
theorem do_left (bE bA bC N : Nat) (b : Bf) (kc : Int) (w : World) (h : BufIs w bE bA bC N b) : DoCalls bE bA bC N b ⟨4, kc⟩ w := by
  obtain ⟨C1, X1⟩ := do_head (kk := 4) (kc := kc) h
  have k0 : (w.alloc (.cells #[.int .i64 4, .int .i64 kc] 48)).cell? ⟨w.heap.size, 0, none⟩ = some (.int .i64 4) := by rw [cell_of_heap X1]; rfl
  have HH := Lib.hid (h.chg0 C1)
  have HC := Lib.hid C1
  have hle := h.le
  have hmo := h.ar.most
  have hal := h.ar.le
  have hdo : doB N b ⟨4, kc⟩ = (decide (Bf.at' (⟨b.l, aheadB b⟩) ≠ b.at') || decide ((Bf.l (⟨b.l, aheadB b⟩)).length ≠ b.l.length), 0, ⟨b.l, aheadB b⟩) := rfl
  unfold DoCalls
  rw [hdo]
  clear hdo
  obtain ⟨b', hb'⟩ : ∃ b' : Bf, ⟨b.l, aheadB b⟩ = b' := ⟨_, rfl⟩
  have HF := Lib.hid (fun W (C : Chg [] (w.alloc (.cells #[.int .i64 4, .int .i64 kc] 48)) W) => left_any bE bA bC N b W (HH.out.chg0 C))
  rw [hb'] at HF ⊢
  obtain ⟨p, hp⟩ : ∃ p, p = b.at' := ⟨_, rfl⟩
  obtain ⟨n, hn⟩ : ∃ n, n = b.l.length := ⟨_, rfl⟩
  have HPN := Lib.hid (And.intro hp hn)
  have x0 := HH.out.c0
  have x1 := HH.out.c1
  rw [← hp] at x1 hle ⊢
  rw [← hn] at hle hal ⊢
  have HLN : Hid (∀ W, Chg [] (w.alloc (.cells #[.int .i64 4, .int .i64 kc] 48)) W → Calls Tryz.prog 41 #[.pointer (some ⟨bA, 0, none⟩)] W fun e w' => e = .returned (.int .i64 (n : Nat)) ∧ W = w') := Lib.hid (fun W C => by rw [hn]; exact Ar.len_any bA bC N b.l W (HH.out.chg0 C).ar)
  obtain ⟨bb, hbb⟩ : ∃ bb, bb = (decide (b'.at' ≠ p) || decide (b'.l.length ≠ n)) := ⟨_, rfl⟩
  rw [← hbb]
  have HBB := Lib.hid hbb
  clear C1 X1 h hb' hp hn hbb
  go_enter Tryz.func17, Tryz.ntmps17
  go_wp2_with fail
  generalize w.alloc _ = w1 at *
  generalize w.heap.size = b3 at *
  go_region_held3 (fun w' => w'.cell? ⟨b3, 0, none⟩ = some (.int .i64 4)) (first | exact C4.cell k0 (by simp) | go_keep)
    (first | (go_at_call 47; refine (kindsE_any _).mono ?_; rintro e w4 ⟨b4, es4, rfl, C4', H4, M4, _⟩; have C4 : Chg [] w1 w4 := C4'.of_drew; have LK := MapV.look (mt := 117) (z := .nilFunc) Tryz.underlying117 Tryz.underlying3 M4 keyI H4 (by kernel_rfl) 4; rw [show doV 4 = some (Value.func (Fn.func 71) #[] #[]) from rfl] at LK; simp only [Option.getD_some, Option.getD_none, Option.isSome_some, Option.isSome_none] at LK))
  all_goals (
    have HC4 := Lib.hid C4
    have y0 := C4.cell x0 (by simp)
    have y1 := C4.cell x1 (by simp)
    clear x0 x1 k0 C4 C4' H4 M4
    go_wp2_with fail
    clear LK
    go_region_held3 (fun w' => w'.cell? ⟨bE, 0, none⟩ = some (.pointer (some ⟨bA, 0, none⟩)) ∧ w'.cell? ⟨bE, 1, none⟩ = some (.int .i64 (p : Nat))) (go_keep)
      (first | (go_at_call 41; refine Calls.mono (HLN.out _ (by first | exact HC4.out.drew | exact HC4.out)) ?_; rintro e w5 ⟨rfl, rfl⟩)))
  all_goals (
    clear y0 y1
    go_wp2_with fail
    refine (HF.out _ (by first | exact HC4.out.drew | exact HC4.out)).mono ?_
    rintro e w6 ⟨rfl, C6, B6⟩
    have z0 := B6.c0
    have z1 := B6.c1
    have HE := Lib.hid (And.intro C6 B6)
    have HL6 := Lib.hid (Ar.len_any bA bC N b'.l _ B6.ar)
    clear C6 B6
    by_cases hq : b'.at' = p
    · have t1 : (((b'.at' : Nat) : Int) != ((p : Nat) : Int)) = false := by rw [hq]; simp
      have t2 : (((b'.l.length : Nat) : Int) != ((n : Nat) : Int)) = bb := by
        rw [HBB.out, decide_eq_false (by simp [hq]), Bool.false_or]
        by_cases h2 : b'.l.length = n
        · rw [h2]; simp
        · rw [decide_eq_true h2, bne_iff_ne]; omega
      clear hq
      go_wp2_with fail
      refine (HL6.out).mono ?_
      rintro e w7 ⟨rfl, rfl⟩
      go_wp2_with fail
      go_ret2
      exact ⟨rfl, (HC.out.trans HC4.out (U := [bE, bA, bC]) (by simp) (by simp)).trans (by first | exact HE.out.1.of_drew | exact HE.out.1) (fun x hx => hx) (fun x hx _ => hx), HE.out.2⟩
    · have t1 : (((b'.at' : Nat) : Int) != ((p : Nat) : Int)) = true := by rw [bne_iff_ne]; omega
      have hv1 : bb = true := by rw [HBB.out, decide_eq_true hq, Bool.true_or]
      subst hv1
      clear hq
      go_wp2_with fail
      go_ret2
      exact ⟨rfl, (HC.out.trans HC4.out (U := [bE, bA, bC]) (by simp) (by simp)).trans (by first | exact HE.out.1.of_drew | exact HE.out.1) (fun x hx => hx) (fun x hx _ => hx), HE.out.2⟩)
set_option maxHeartbeats 8000000 in
theorem do_right (bE bA bC N : Nat) (b : Bf) (kc : Int) (w : World) (h : BufIs w bE bA bC N b) : DoCalls bE bA bC N b ⟨5, kc⟩ w := by
  obtain ⟨C1, X1⟩ := do_head (kk := 5) (kc := kc) h
  have k0 : (w.alloc (.cells #[.int .i64 5, .int .i64 kc] 48)).cell? ⟨w.heap.size, 0, none⟩ = some (.int .i64 5) := by rw [cell_of_heap X1]; rfl
  have HH := Lib.hid (h.chg0 C1)
  have HC := Lib.hid C1
  have hle := h.le
  have hmo := h.ar.most
  have hal := h.ar.le
  have hdo : doB N b ⟨5, kc⟩ = (decide (Bf.at' (⟨b.l, behindB b⟩) ≠ b.at') || decide ((Bf.l (⟨b.l, behindB b⟩)).length ≠ b.l.length), 0, ⟨b.l, behindB b⟩) := rfl
  unfold DoCalls
  rw [hdo]
  clear hdo
  obtain ⟨b', hb'⟩ : ∃ b' : Bf, ⟨b.l, behindB b⟩ = b' := ⟨_, rfl⟩
  have HF := Lib.hid (fun W (C : Chg [] (w.alloc (.cells #[.int .i64 5, .int .i64 kc] 48)) W) => right_any bE bA bC N b W (HH.out.chg0 C))
  rw [hb'] at HF ⊢
  obtain ⟨p, hp⟩ : ∃ p, p = b.at' := ⟨_, rfl⟩
  obtain ⟨n, hn⟩ : ∃ n, n = b.l.length := ⟨_, rfl⟩
  have HPN := Lib.hid (And.intro hp hn)
  have x0 := HH.out.c0
  have x1 := HH.out.c1
  rw [← hp] at x1 hle ⊢
  rw [← hn] at hle hal ⊢
  have HLN : Hid (∀ W, Chg [] (w.alloc (.cells #[.int .i64 5, .int .i64 kc] 48)) W → Calls Tryz.prog 41 #[.pointer (some ⟨bA, 0, none⟩)] W fun e w' => e = .returned (.int .i64 (n : Nat)) ∧ W = w') := Lib.hid (fun W C => by rw [hn]; exact Ar.len_any bA bC N b.l W (HH.out.chg0 C).ar)
  obtain ⟨bb, hbb⟩ : ∃ bb, bb = (decide (b'.at' ≠ p) || decide (b'.l.length ≠ n)) := ⟨_, rfl⟩
  rw [← hbb]
  have HBB := Lib.hid hbb
  clear C1 X1 h hb' hp hn hbb
  go_enter Tryz.func17, Tryz.ntmps17
  go_wp2_with fail
  generalize w.alloc _ = w1 at *
  generalize w.heap.size = b3 at *
  go_region_held3 (fun w' => w'.cell? ⟨b3, 0, none⟩ = some (.int .i64 5)) (first | exact C4.cell k0 (by simp) | go_keep)
    (first | (go_at_call 47; refine (kindsE_any _).mono ?_; rintro e w4 ⟨b4, es4, rfl, C4', H4, M4, _⟩; have C4 : Chg [] w1 w4 := C4'.of_drew; have LK := MapV.look (mt := 117) (z := .nilFunc) Tryz.underlying117 Tryz.underlying3 M4 keyI H4 (by kernel_rfl) 5; rw [show doV 5 = some (Value.func (Fn.func 72) #[] #[]) from rfl] at LK; simp only [Option.getD_some, Option.getD_none, Option.isSome_some, Option.isSome_none] at LK))
  all_goals (
    have HC4 := Lib.hid C4
    have y0 := C4.cell x0 (by simp)
    have y1 := C4.cell x1 (by simp)
    clear x0 x1 k0 C4 C4' H4 M4
    go_wp2_with fail
    clear LK
    go_region_held3 (fun w' => w'.cell? ⟨bE, 0, none⟩ = some (.pointer (some ⟨bA, 0, none⟩)) ∧ w'.cell? ⟨bE, 1, none⟩ = some (.int .i64 (p : Nat))) (go_keep)
      (first | (go_at_call 41; refine Calls.mono (HLN.out _ (by first | exact HC4.out.drew | exact HC4.out)) ?_; rintro e w5 ⟨rfl, rfl⟩)))
  all_goals (
    clear y0 y1
    go_wp2_with fail
    refine (HF.out _ (by first | exact HC4.out.drew | exact HC4.out)).mono ?_
    rintro e w6 ⟨rfl, C6, B6⟩
    have z0 := B6.c0
    have z1 := B6.c1
    have HE := Lib.hid (And.intro C6 B6)
    have HL6 := Lib.hid (Ar.len_any bA bC N b'.l _ B6.ar)
    clear C6 B6
    by_cases hq : b'.at' = p
    · have t1 : (((b'.at' : Nat) : Int) != ((p : Nat) : Int)) = false := by rw [hq]; simp
      have t2 : (((b'.l.length : Nat) : Int) != ((n : Nat) : Int)) = bb := by
        rw [HBB.out, decide_eq_false (by simp [hq]), Bool.false_or]
        by_cases h2 : b'.l.length = n
        · rw [h2]; simp
        · rw [decide_eq_true h2, bne_iff_ne]; omega
      clear hq
      go_wp2_with fail
      refine (HL6.out).mono ?_
      rintro e w7 ⟨rfl, rfl⟩
      go_wp2_with fail
      go_ret2
      exact ⟨rfl, (HC.out.trans HC4.out (U := [bE, bA, bC]) (by simp) (by simp)).trans (by first | exact HE.out.1.of_drew | exact HE.out.1) (fun x hx => hx) (fun x hx _ => hx), HE.out.2⟩
    · have t1 : (((b'.at' : Nat) : Int) != ((p : Nat) : Int)) = true := by rw [bne_iff_ne]; omega
      have hv1 : bb = true := by rw [HBB.out, decide_eq_true hq, Bool.true_or]
      subst hv1
      clear hq
      go_wp2_with fail
      go_ret2
      exact ⟨rfl, (HC.out.trans HC4.out (U := [bE, bA, bC]) (by simp) (by simp)).trans (by first | exact HE.out.1.of_drew | exact HE.out.1) (fun x hx => hx) (fun x hx _ => hx), HE.out.2⟩)
set_option maxHeartbeats 8000000 in
theorem do_home (bE bA bC N : Nat) (b : Bf) (kc : Int) (w : World) (h : BufIs w bE bA bC N b) : DoCalls bE bA bC N b ⟨6, kc⟩ w := by
  obtain ⟨C1, X1⟩ := do_head (kk := 6) (kc := kc) h
  have k0 : (w.alloc (.cells #[.int .i64 6, .int .i64 kc] 48)).cell? ⟨w.heap.size, 0, none⟩ = some (.int .i64 6) := by rw [cell_of_heap X1]; rfl
  have HH := Lib.hid (h.chg0 C1)
  have HC := Lib.hid C1
  have hle := h.le
  have hmo := h.ar.most
  have hal := h.ar.le
  have hdo : doB N b ⟨6, kc⟩ = (decide (Bf.at' (⟨b.l, 0⟩) ≠ b.at') || decide ((Bf.l (⟨b.l, 0⟩)).length ≠ b.l.length), 0, ⟨b.l, 0⟩) := rfl
  unfold DoCalls
  rw [hdo]
  clear hdo
  obtain ⟨b', hb'⟩ : ∃ b' : Bf, ⟨b.l, 0⟩ = b' := ⟨_, rfl⟩
  have HF := Lib.hid (fun W (C : Chg [] (w.alloc (.cells #[.int .i64 6, .int .i64 kc] 48)) W) => home_any bE bA bC N b W (HH.out.chg0 C))
  rw [hb'] at HF ⊢
  obtain ⟨p, hp⟩ : ∃ p, p = b.at' := ⟨_, rfl⟩
  obtain ⟨n, hn⟩ : ∃ n, n = b.l.length := ⟨_, rfl⟩
  have HPN := Lib.hid (And.intro hp hn)
  have x0 := HH.out.c0
  have x1 := HH.out.c1
  rw [← hp] at x1 hle ⊢
  rw [← hn] at hle hal ⊢
  have HLN : Hid (∀ W, Chg [] (w.alloc (.cells #[.int .i64 6, .int .i64 kc] 48)) W → Calls Tryz.prog 41 #[.pointer (some ⟨bA, 0, none⟩)] W fun e w' => e = .returned (.int .i64 (n : Nat)) ∧ W = w') := Lib.hid (fun W C => by rw [hn]; exact Ar.len_any bA bC N b.l W (HH.out.chg0 C).ar)
  obtain ⟨bb, hbb⟩ : ∃ bb, bb = (decide (b'.at' ≠ p) || decide (b'.l.length ≠ n)) := ⟨_, rfl⟩
  rw [← hbb]
  have HBB := Lib.hid hbb
  clear C1 X1 h hb' hp hn hbb
  go_enter Tryz.func17, Tryz.ntmps17
  go_wp2_with fail
  generalize w.alloc _ = w1 at *
  generalize w.heap.size = b3 at *
  go_region_held3 (fun w' => w'.cell? ⟨b3, 0, none⟩ = some (.int .i64 6)) (first | exact C4.cell k0 (by simp) | go_keep)
    (first | (go_at_call 47; refine (kindsE_any _).mono ?_; rintro e w4 ⟨b4, es4, rfl, C4', H4, M4, _⟩; have C4 : Chg [] w1 w4 := C4'.of_drew; have LK := MapV.look (mt := 117) (z := .nilFunc) Tryz.underlying117 Tryz.underlying3 M4 keyI H4 (by kernel_rfl) 6; rw [show doV 6 = some (Value.func (Fn.func 73) #[] #[]) from rfl] at LK; simp only [Option.getD_some, Option.getD_none, Option.isSome_some, Option.isSome_none] at LK))
  all_goals (
    have HC4 := Lib.hid C4
    have y0 := C4.cell x0 (by simp)
    have y1 := C4.cell x1 (by simp)
    clear x0 x1 k0 C4 C4' H4 M4
    go_wp2_with fail
    clear LK
    go_region_held3 (fun w' => w'.cell? ⟨bE, 0, none⟩ = some (.pointer (some ⟨bA, 0, none⟩)) ∧ w'.cell? ⟨bE, 1, none⟩ = some (.int .i64 (p : Nat))) (go_keep)
      (first | (go_at_call 41; refine Calls.mono (HLN.out _ (by first | exact HC4.out.drew | exact HC4.out)) ?_; rintro e w5 ⟨rfl, rfl⟩)))
  all_goals (
    clear y0 y1
    go_wp2_with fail
    refine (HF.out _ (by first | exact HC4.out.drew | exact HC4.out)).mono ?_
    rintro e w6 ⟨rfl, C6, B6⟩
    have z0 := B6.c0
    have z1 := B6.c1
    have HE := Lib.hid (And.intro C6 B6)
    have HL6 := Lib.hid (Ar.len_any bA bC N b'.l _ B6.ar)
    clear C6 B6
    by_cases hq : b'.at' = p
    · have t1 : (((b'.at' : Nat) : Int) != ((p : Nat) : Int)) = false := by rw [hq]; simp
      have t2 : (((b'.l.length : Nat) : Int) != ((n : Nat) : Int)) = bb := by
        rw [HBB.out, decide_eq_false (by simp [hq]), Bool.false_or]
        by_cases h2 : b'.l.length = n
        · rw [h2]; simp
        · rw [decide_eq_true h2, bne_iff_ne]; omega
      clear hq
      go_wp2_with fail
      refine (HL6.out).mono ?_
      rintro e w7 ⟨rfl, rfl⟩
      go_wp2_with fail
      go_ret2
      exact ⟨rfl, (HC.out.trans HC4.out (U := [bE, bA, bC]) (by simp) (by simp)).trans (by first | exact HE.out.1.of_drew | exact HE.out.1) (fun x hx => hx) (fun x hx _ => hx), HE.out.2⟩
    · have t1 : (((b'.at' : Nat) : Int) != ((p : Nat) : Int)) = true := by rw [bne_iff_ne]; omega
      have hv1 : bb = true := by rw [HBB.out, decide_eq_true hq, Bool.true_or]
      subst hv1
      clear hq
      go_wp2_with fail
      go_ret2
      exact ⟨rfl, (HC.out.trans HC4.out (U := [bE, bA, bC]) (by simp) (by simp)).trans (by first | exact HE.out.1.of_drew | exact HE.out.1) (fun x hx => hx) (fun x hx _ => hx), HE.out.2⟩)
set_option maxHeartbeats 8000000 in
theorem do_last (bE bA bC N : Nat) (b : Bf) (kc : Int) (w : World) (h : BufIs w bE bA bC N b) : DoCalls bE bA bC N b ⟨7, kc⟩ w := by
  obtain ⟨C1, X1⟩ := do_head (kk := 7) (kc := kc) h
  have k0 : (w.alloc (.cells #[.int .i64 7, .int .i64 kc] 48)).cell? ⟨w.heap.size, 0, none⟩ = some (.int .i64 7) := by rw [cell_of_heap X1]; rfl
  have HH := Lib.hid (h.chg0 C1)
  have HC := Lib.hid C1
  have hle := h.le
  have hmo := h.ar.most
  have hal := h.ar.le
  have hdo : doB N b ⟨7, kc⟩ = (decide (Bf.at' (⟨b.l, b.l.length⟩) ≠ b.at') || decide ((Bf.l (⟨b.l, b.l.length⟩)).length ≠ b.l.length), 0, ⟨b.l, b.l.length⟩) := rfl
  unfold DoCalls
  rw [hdo]
  clear hdo
  obtain ⟨b', hb'⟩ : ∃ b' : Bf, ⟨b.l, b.l.length⟩ = b' := ⟨_, rfl⟩
  have HF := Lib.hid (fun W (C : Chg [] (w.alloc (.cells #[.int .i64 7, .int .i64 kc] 48)) W) => last_any bE bA bC N b W (HH.out.chg0 C))
  rw [hb'] at HF ⊢
  obtain ⟨p, hp⟩ : ∃ p, p = b.at' := ⟨_, rfl⟩
  obtain ⟨n, hn⟩ : ∃ n, n = b.l.length := ⟨_, rfl⟩
  have HPN := Lib.hid (And.intro hp hn)
  have x0 := HH.out.c0
  have x1 := HH.out.c1
  rw [← hp] at x1 hle ⊢
  rw [← hn] at hle hal ⊢
  have HLN : Hid (∀ W, Chg [] (w.alloc (.cells #[.int .i64 7, .int .i64 kc] 48)) W → Calls Tryz.prog 41 #[.pointer (some ⟨bA, 0, none⟩)] W fun e w' => e = .returned (.int .i64 (n : Nat)) ∧ W = w') := Lib.hid (fun W C => by rw [hn]; exact Ar.len_any bA bC N b.l W (HH.out.chg0 C).ar)
  obtain ⟨bb, hbb⟩ : ∃ bb, bb = (decide (b'.at' ≠ p) || decide (b'.l.length ≠ n)) := ⟨_, rfl⟩
  rw [← hbb]
  have HBB := Lib.hid hbb
  clear C1 X1 h hb' hp hn hbb
  go_enter Tryz.func17, Tryz.ntmps17
  go_wp2_with fail
  generalize w.alloc _ = w1 at *
  generalize w.heap.size = b3 at *
  go_region_held3 (fun w' => w'.cell? ⟨b3, 0, none⟩ = some (.int .i64 7)) (first | exact C4.cell k0 (by simp) | go_keep)
    (first | (go_at_call 47; refine (kindsE_any _).mono ?_; rintro e w4 ⟨b4, es4, rfl, C4', H4, M4, _⟩; have C4 : Chg [] w1 w4 := C4'.of_drew; have LK := MapV.look (mt := 117) (z := .nilFunc) Tryz.underlying117 Tryz.underlying3 M4 keyI H4 (by kernel_rfl) 7; rw [show doV 7 = some (Value.func (Fn.func 74) #[] #[]) from rfl] at LK; simp only [Option.getD_some, Option.getD_none, Option.isSome_some, Option.isSome_none] at LK))
  all_goals (
    have HC4 := Lib.hid C4
    have y0 := C4.cell x0 (by simp)
    have y1 := C4.cell x1 (by simp)
    clear x0 x1 k0 C4 C4' H4 M4
    go_wp2_with fail
    clear LK
    go_region_held3 (fun w' => w'.cell? ⟨bE, 0, none⟩ = some (.pointer (some ⟨bA, 0, none⟩)) ∧ w'.cell? ⟨bE, 1, none⟩ = some (.int .i64 (p : Nat))) (go_keep)
      (first | (go_at_call 41; refine Calls.mono (HLN.out _ (by first | exact HC4.out.drew | exact HC4.out)) ?_; rintro e w5 ⟨rfl, rfl⟩)))
  all_goals (
    clear y0 y1
    go_wp2_with fail
    refine (HF.out _ (by first | exact HC4.out.drew | exact HC4.out)).mono ?_
    rintro e w6 ⟨rfl, C6, B6⟩
    have z0 := B6.c0
    have z1 := B6.c1
    have HE := Lib.hid (And.intro C6 B6)
    have HL6 := Lib.hid (Ar.len_any bA bC N b'.l _ B6.ar)
    clear C6 B6
    by_cases hq : b'.at' = p
    · have t1 : (((b'.at' : Nat) : Int) != ((p : Nat) : Int)) = false := by rw [hq]; simp
      have t2 : (((b'.l.length : Nat) : Int) != ((n : Nat) : Int)) = bb := by
        rw [HBB.out, decide_eq_false (by simp [hq]), Bool.false_or]
        by_cases h2 : b'.l.length = n
        · rw [h2]; simp
        · rw [decide_eq_true h2, bne_iff_ne]; omega
      clear hq
      go_wp2_with fail
      refine (HL6.out).mono ?_
      rintro e w7 ⟨rfl, rfl⟩
      go_wp2_with fail
      go_ret2
      exact ⟨rfl, (HC.out.trans HC4.out (U := [bE, bA, bC]) (by simp) (by simp)).trans (by first | exact HE.out.1.of_drew | exact HE.out.1) (fun x hx => hx) (fun x hx _ => hx), HE.out.2⟩
    · have t1 : (((b'.at' : Nat) : Int) != ((p : Nat) : Int)) = true := by rw [bne_iff_ne]; omega
      have hv1 : bb = true := by rw [HBB.out, decide_eq_true hq, Bool.true_or]
      subst hv1
      clear hq
      go_wp2_with fail
      go_ret2
      exact ⟨rfl, (HC.out.trans HC4.out (U := [bE, bA, bC]) (by simp) (by simp)).trans (by first | exact HE.out.1.of_drew | exact HE.out.1) (fun x hx => hx) (fun x hx _ => hx), HE.out.2⟩)
set_option maxHeartbeats 8000000 in
theorem do_killStart (bE bA bC N : Nat) (b : Bf) (kc : Int) (w : World) (h : BufIs w bE bA bC N b) : DoCalls bE bA bC N b ⟨8, kc⟩ w := by
  obtain ⟨C1, X1⟩ := do_head (kk := 8) (kc := kc) h
  have k0 : (w.alloc (.cells #[.int .i64 8, .int .i64 kc] 48)).cell? ⟨w.heap.size, 0, none⟩ = some (.int .i64 8) := by rw [cell_of_heap X1]; rfl
  have HH := Lib.hid (h.chg0 C1)
  have HC := Lib.hid C1
  have hle := h.le
  have hmo := h.ar.most
  have hal := h.ar.le
  have hdo : doB N b ⟨8, kc⟩ = (decide (Bf.at' (takeB b 0 b.at') ≠ b.at') || decide ((Bf.l (takeB b 0 b.at')).length ≠ b.l.length), 0, takeB b 0 b.at') := rfl
  unfold DoCalls
  rw [hdo]
  clear hdo
  obtain ⟨b', hb'⟩ : ∃ b' : Bf, takeB b 0 b.at' = b' := ⟨_, rfl⟩
  have HF := Lib.hid (fun W (C : Chg [] (w.alloc (.cells #[.int .i64 8, .int .i64 kc] 48)) W) => killStart_any bE bA bC N b W (HH.out.chg0 C))
  rw [hb'] at HF ⊢
  obtain ⟨p, hp⟩ : ∃ p, p = b.at' := ⟨_, rfl⟩
  obtain ⟨n, hn⟩ : ∃ n, n = b.l.length := ⟨_, rfl⟩
  have HPN := Lib.hid (And.intro hp hn)
  have x0 := HH.out.c0
  have x1 := HH.out.c1
  rw [← hp] at x1 hle ⊢
  rw [← hn] at hle hal ⊢
  have HLN : Hid (∀ W, Chg [] (w.alloc (.cells #[.int .i64 8, .int .i64 kc] 48)) W → Calls Tryz.prog 41 #[.pointer (some ⟨bA, 0, none⟩)] W fun e w' => e = .returned (.int .i64 (n : Nat)) ∧ W = w') := Lib.hid (fun W C => by rw [hn]; exact Ar.len_any bA bC N b.l W (HH.out.chg0 C).ar)
  obtain ⟨bb, hbb⟩ : ∃ bb, bb = (decide (b'.at' ≠ p) || decide (b'.l.length ≠ n)) := ⟨_, rfl⟩
  rw [← hbb]
  have HBB := Lib.hid hbb
  clear C1 X1 h hb' hp hn hbb
  go_enter Tryz.func17, Tryz.ntmps17
  go_wp2_with fail
  generalize w.alloc _ = w1 at *
  generalize w.heap.size = b3 at *
  go_region_held3 (fun w' => w'.cell? ⟨b3, 0, none⟩ = some (.int .i64 8)) (first | exact C4.cell k0 (by simp) | go_keep)
    (first | (go_at_call 47; refine (kindsE_any _).mono ?_; rintro e w4 ⟨b4, es4, rfl, C4', H4, M4, _⟩; have C4 : Chg [] w1 w4 := C4'.of_drew; have LK := MapV.look (mt := 117) (z := .nilFunc) Tryz.underlying117 Tryz.underlying3 M4 keyI H4 (by kernel_rfl) 8; rw [show doV 8 = some (Value.func (Fn.func 75) #[] #[]) from rfl] at LK; simp only [Option.getD_some, Option.getD_none, Option.isSome_some, Option.isSome_none] at LK))
  all_goals (
    have HC4 := Lib.hid C4
    have y0 := C4.cell x0 (by simp)
    have y1 := C4.cell x1 (by simp)
    clear x0 x1 k0 C4 C4' H4 M4
    go_wp2_with fail
    clear LK
    go_region_held3 (fun w' => w'.cell? ⟨bE, 0, none⟩ = some (.pointer (some ⟨bA, 0, none⟩)) ∧ w'.cell? ⟨bE, 1, none⟩ = some (.int .i64 (p : Nat))) (go_keep)
      (first | (go_at_call 41; refine Calls.mono (HLN.out _ (by first | exact HC4.out.drew | exact HC4.out)) ?_; rintro e w5 ⟨rfl, rfl⟩)))
  all_goals (
    clear y0 y1
    go_wp2_with fail
    refine (HF.out _ (by first | exact HC4.out.drew | exact HC4.out)).mono ?_
    rintro e w6 ⟨rfl, C6, B6⟩
    have z0 := B6.c0
    have z1 := B6.c1
    have HE := Lib.hid (And.intro C6 B6)
    have HL6 := Lib.hid (Ar.len_any bA bC N b'.l _ B6.ar)
    clear C6 B6
    by_cases hq : b'.at' = p
    · have t1 : (((b'.at' : Nat) : Int) != ((p : Nat) : Int)) = false := by rw [hq]; simp
      have t2 : (((b'.l.length : Nat) : Int) != ((n : Nat) : Int)) = bb := by
        rw [HBB.out, decide_eq_false (by simp [hq]), Bool.false_or]
        by_cases h2 : b'.l.length = n
        · rw [h2]; simp
        · rw [decide_eq_true h2, bne_iff_ne]; omega
      clear hq
      go_wp2_with fail
      refine (HL6.out).mono ?_
      rintro e w7 ⟨rfl, rfl⟩
      go_wp2_with fail
      go_ret2
      exact ⟨rfl, (HC.out.trans HC4.out (U := [bE, bA, bC]) (by simp) (by simp)).trans (by first | exact HE.out.1.of_drew | exact HE.out.1) (fun x hx => hx) (fun x hx _ => hx), HE.out.2⟩
    · have t1 : (((b'.at' : Nat) : Int) != ((p : Nat) : Int)) = true := by rw [bne_iff_ne]; omega
      have hv1 : bb = true := by rw [HBB.out, decide_eq_true hq, Bool.true_or]
      subst hv1
      clear hq
      go_wp2_with fail
      go_ret2
      exact ⟨rfl, (HC.out.trans HC4.out (U := [bE, bA, bC]) (by simp) (by simp)).trans (by first | exact HE.out.1.of_drew | exact HE.out.1) (fun x hx => hx) (fun x hx _ => hx), HE.out.2⟩)
set_option maxHeartbeats 8000000 in
theorem do_killEnd (bE bA bC N : Nat) (b : Bf) (kc : Int) (w : World) (h : BufIs w bE bA bC N b) : DoCalls bE bA bC N b ⟨9, kc⟩ w := by
  obtain ⟨C1, X1⟩ := do_head (kk := 9) (kc := kc) h
  have k0 : (w.alloc (.cells #[.int .i64 9, .int .i64 kc] 48)).cell? ⟨w.heap.size, 0, none⟩ = some (.int .i64 9) := by rw [cell_of_heap X1]; rfl
  have HH := Lib.hid (h.chg0 C1)
  have HC := Lib.hid C1
  have hle := h.le
  have hmo := h.ar.most
  have hal := h.ar.le
  have hdo : doB N b ⟨9, kc⟩ = (decide (Bf.at' (takeB b b.at' b.l.length) ≠ b.at') || decide ((Bf.l (takeB b b.at' b.l.length)).length ≠ b.l.length), 0, takeB b b.at' b.l.length) := rfl
  unfold DoCalls
  rw [hdo]
  clear hdo
  obtain ⟨b', hb'⟩ : ∃ b' : Bf, takeB b b.at' b.l.length = b' := ⟨_, rfl⟩
  have HF := Lib.hid (fun W (C : Chg [] (w.alloc (.cells #[.int .i64 9, .int .i64 kc] 48)) W) => killEnd_any bE bA bC N b W (HH.out.chg0 C))
  rw [hb'] at HF ⊢
  obtain ⟨p, hp⟩ : ∃ p, p = b.at' := ⟨_, rfl⟩
  obtain ⟨n, hn⟩ : ∃ n, n = b.l.length := ⟨_, rfl⟩
  have HPN := Lib.hid (And.intro hp hn)
  have x0 := HH.out.c0
  have x1 := HH.out.c1
  rw [← hp] at x1 hle ⊢
  rw [← hn] at hle hal ⊢
  have HLN : Hid (∀ W, Chg [] (w.alloc (.cells #[.int .i64 9, .int .i64 kc] 48)) W → Calls Tryz.prog 41 #[.pointer (some ⟨bA, 0, none⟩)] W fun e w' => e = .returned (.int .i64 (n : Nat)) ∧ W = w') := Lib.hid (fun W C => by rw [hn]; exact Ar.len_any bA bC N b.l W (HH.out.chg0 C).ar)
  obtain ⟨bb, hbb⟩ : ∃ bb, bb = (decide (b'.at' ≠ p) || decide (b'.l.length ≠ n)) := ⟨_, rfl⟩
  rw [← hbb]
  have HBB := Lib.hid hbb
  clear C1 X1 h hb' hp hn hbb
  go_enter Tryz.func17, Tryz.ntmps17
  go_wp2_with fail
  generalize w.alloc _ = w1 at *
  generalize w.heap.size = b3 at *
  go_region_held3 (fun w' => w'.cell? ⟨b3, 0, none⟩ = some (.int .i64 9)) (first | exact C4.cell k0 (by simp) | go_keep)
    (first | (go_at_call 47; refine (kindsE_any _).mono ?_; rintro e w4 ⟨b4, es4, rfl, C4', H4, M4, _⟩; have C4 : Chg [] w1 w4 := C4'.of_drew; have LK := MapV.look (mt := 117) (z := .nilFunc) Tryz.underlying117 Tryz.underlying3 M4 keyI H4 (by kernel_rfl) 9; rw [show doV 9 = some (Value.func (Fn.func 76) #[] #[]) from rfl] at LK; simp only [Option.getD_some, Option.getD_none, Option.isSome_some, Option.isSome_none] at LK))
  all_goals (
    have HC4 := Lib.hid C4
    have y0 := C4.cell x0 (by simp)
    have y1 := C4.cell x1 (by simp)
    clear x0 x1 k0 C4 C4' H4 M4
    go_wp2_with fail
    clear LK
    go_region_held3 (fun w' => w'.cell? ⟨bE, 0, none⟩ = some (.pointer (some ⟨bA, 0, none⟩)) ∧ w'.cell? ⟨bE, 1, none⟩ = some (.int .i64 (p : Nat))) (go_keep)
      (first | (go_at_call 41; refine Calls.mono (HLN.out _ (by first | exact HC4.out.drew | exact HC4.out)) ?_; rintro e w5 ⟨rfl, rfl⟩)))
  all_goals (
    clear y0 y1
    go_wp2_with fail
    refine (HF.out _ (by first | exact HC4.out.drew | exact HC4.out)).mono ?_
    rintro e w6 ⟨rfl, C6, B6⟩
    have z0 := B6.c0
    have z1 := B6.c1
    have HE := Lib.hid (And.intro C6 B6)
    have HL6 := Lib.hid (Ar.len_any bA bC N b'.l _ B6.ar)
    clear C6 B6
    by_cases hq : b'.at' = p
    · have t1 : (((b'.at' : Nat) : Int) != ((p : Nat) : Int)) = false := by rw [hq]; simp
      have t2 : (((b'.l.length : Nat) : Int) != ((n : Nat) : Int)) = bb := by
        rw [HBB.out, decide_eq_false (by simp [hq]), Bool.false_or]
        by_cases h2 : b'.l.length = n
        · rw [h2]; simp
        · rw [decide_eq_true h2, bne_iff_ne]; omega
      clear hq
      go_wp2_with fail
      refine (HL6.out).mono ?_
      rintro e w7 ⟨rfl, rfl⟩
      go_wp2_with fail
      go_ret2
      exact ⟨rfl, (HC.out.trans HC4.out (U := [bE, bA, bC]) (by simp) (by simp)).trans (by first | exact HE.out.1.of_drew | exact HE.out.1) (fun x hx => hx) (fun x hx _ => hx), HE.out.2⟩
    · have t1 : (((b'.at' : Nat) : Int) != ((p : Nat) : Int)) = true := by rw [bne_iff_ne]; omega
      have hv1 : bb = true := by rw [HBB.out, decide_eq_true hq, Bool.true_or]
      subst hv1
      clear hq
      go_wp2_with fail
      go_ret2
      exact ⟨rfl, (HC.out.trans HC4.out (U := [bE, bA, bC]) (by simp) (by simp)).trans (by first | exact HE.out.1.of_drew | exact HE.out.1) (fun x hx => hx) (fun x hx _ => hx), HE.out.2⟩)
theorem do_any (bE bA bC N : Nat) (b : Bf) (k : Ky) (w : World) (h : BufIs w bE bA bC N b) : DoCalls bE bA bC N b k w := by
  obtain ⟨kk, kc⟩ := k
  by_cases h0 : kk = 0
  · subst h0; exact do_rune bE bA bC N b kc w h
  by_cases h2 : kk = 2
  · subst h2; exact do_back bE bA bC N b kc w h
  by_cases h3 : kk = 3
  · subst h3; exact do_del bE bA bC N b kc w h
  by_cases h4 : kk = 4
  · subst h4; exact do_left bE bA bC N b kc w h
  by_cases h5 : kk = 5
  · subst h5; exact do_right bE bA bC N b kc w h
  by_cases h6 : kk = 6
  · subst h6; exact do_home bE bA bC N b kc w h
  by_cases h7 : kk = 7
  · subst h7; exact do_last bE bA bC N b kc w h
  by_cases h8 : kk = 8
  · subst h8; exact do_killStart bE bA bC N b kc w h
  by_cases h9 : kk = 9
  · subst h9; exact do_killEnd bE bA bC N b kc w h
  exact do_none bE bA bC N b kk kc w h h0 (by unfold moveB; rw [if_neg h2, if_neg h3, if_neg h4, if_neg h5, if_neg h6, if_neg h7, if_neg h8, if_neg h9]) (by unfold doV; rw [if_neg h9, if_neg h8, if_neg h7, if_neg h6, if_neg h5, if_neg h4, if_neg h3, if_neg h2])
end Go.Proofs.YtafmnkngjjnpiaaGreatDoor
