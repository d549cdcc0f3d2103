import Derived.Test.YtafmnkngjjnpiaaGreatDoorTpY
import Derived.Test.YtafmnkngjjnpiaaGreatDoorTpM
import Derived.Test.YtafmnkngjjnpiaaGreatDoorDef
import Derived.Test.YtafmnkngjjnpiaaGreatDoorTpX
import Derived.Test.YtafmnkngjjnpiaaGreatDoorTbA
namespace Go.Proofs.YtafmnkngjjnpiaaGreatDoor
set_option linter.unusedVariables false
set_option linter.unusedSimpArgs false
set_option maxRecDepth 100000
open Go.RowKit
theorem downB_spec {l : List Int} (h0 : firstB l 0 = true) : ∀ k, downB l k ≤ k ∧ firstB l (downB l k) = true := by
  intro k
  induction k with
  | zero => exact ⟨Nat.le_refl _, h0⟩
  | succ k ih =>
    rw [downB]
    split
    · rename_i h; exact ⟨Nat.le_refl _, h⟩
    · exact ⟨by omega, ih.2⟩
theorem upB_spec {l : List Int} : ∀ f k, k ≤ l.length → l.length ≤ k + f → k ≤ upB l f k ∧ upB l f k ≤ l.length ∧ firstB l (upB l f k) = true := by
  intro f
  induction f with
  | zero => intro k h1 h2; rw [upB]; exact ⟨Nat.le_refl _, h1, firstB_end (by omega)⟩
  | succ f ih =>
    intro k h1 h2
    rw [upB]
    split
    · rename_i h; exact ⟨Nat.le_refl _, h1, h⟩
    · rename_i h
      have hk : k < l.length := by
        rcases Nat.lt_or_ge k l.length with h3 | h3
        · exact h3
        · exact absurd (firstB_end h3) h
      have := ih (k + 1) (by omega) (by omega)
      exact ⟨by omega, this.2.1, this.2.2⟩
theorem del_inv {l : List Int} {i j : Nat} (hij : i ≤ j) (hj : j ≤ l.length) (h0 : firstB l 0 = true) (hf : firstB l j = true) : firstB (l.take i ++ l.drop j) i = true ∧ firstB (l.take i ++ l.drop j) 0 = true := by
  have hl : (l.take i ++ l.drop j).length = i + (l.length - j) := by rw [List.length_append, List.length_take, List.length_drop]; omega
  have hi : firstB (l.take i ++ l.drop j) i = true := by
    rcases Nat.lt_or_ge j l.length with h | h
    · unfold firstB at hf ⊢
      rw [if_pos h] at hf
      rw [if_pos (by rw [hl]; omega)]
      have : (l.take i ++ l.drop j).getD i 0 = l.getD j 0 := by
        rw [List.getD_eq_getElem?_getD, List.getD_eq_getElem?_getD, List.getElem?_append_right (by rw [List.length_take]; omega), List.length_take, List.getElem?_drop]
        rw [show j + (i - min i l.length) = j by omega]
      rw [this]
      exact hf
    · exact firstB_end (by rw [hl]; omega)
  refine ⟨hi, ?_⟩
  rcases Nat.eq_zero_or_pos i with rfl | hp
  · exact hi
  · unfold firstB at h0 ⊢
    rw [if_pos (by omega)] at h0
    rw [if_pos (by rw [hl]; omega)]
    have : (l.take i ++ l.drop j).getD 0 0 = l.getD 0 0 := by
      rw [List.getD_eq_getElem?_getD, List.getD_eq_getElem?_getD, List.getElem?_append_left (by rw [List.length_take]; omega), List.getElem?_take, if_pos hp]
    rw [this]
    exact h0
theorem ahead_spec {w : World} {bE bA bC N : Nat} {b : Bf} (h : BufIs w bE bA bC N b) : aheadB b ≤ b.at' ∧ firstB b.l (aheadB b) = true := by
  have := downB_spec h.f0 (b.at' - 1)
  exact ⟨by unfold aheadB; omega, this.2⟩
theorem behind_spec {w : World} {bE bA bC N : Nat} {b : Bf} (h : BufIs w bE bA bC N b) : b.at' ≤ behindB b ∧ behindB b ≤ b.l.length ∧ firstB b.l (behindB b) = true := by
  have := upB_spec (l := b.l) b.l.length (min b.l.length (b.at' + 1)) (by omega) (by omega)
  have := h.le
  exact ⟨by unfold behindB; omega, by unfold behindB; omega, by unfold behindB; simp_all⟩
def BufPost (bE bA bC N : Nat) (b : Bf) (w : World) (e : Ending) (w' : World) : Prop := e = .returned (.tuple #[]) ∧ Chg [bE, bA, bC] w w' ∧ BufIs w' bE bA bC N b
theorem BufIs.place {w : World} {bE bA bC N : Nat} {b : Bf} (h : BufIs w bE bA bC N b) (k : Nat) (hk : k ≤ b.l.length) (hf : firstB b.l k = true) :
    Chg [bE] w (w.setCell ⟨bE, 1, none⟩ (.int .i64 (k : Nat))) ∧ BufIs (w.setCell ⟨bE, 1, none⟩ (.int .i64 (k : Nat))) bE bA bC N ⟨b.l, k⟩ := by
  have c : Chg [bE] w (w.setCell ⟨bE, 1, none⟩ (.int .i64 (k : Nat))) := (Chg.refl [bE] w).setCell (p := ⟨bE, 1, none⟩) (Or.inl List.mem_cons_self) _
  have nA := h.nA
  have nC := h.nC
  exact ⟨c, by rw [setCell_heap _ h.hE]; rfl, h.ar.chg c (by simp; omega) (by simp; omega), nA, nC, h.by', hk, h.f0, hf⟩
set_option maxHeartbeats 4000000 in
theorem take_buf (bE bA bC N : Nat) (b : Bf) (i j : Nat) (w : World) (h : BufIs w bE bA bC N b) (hij : i ≤ j) (hj : j ≤ b.l.length) (hf : firstB b.l j = true) :
    Calls Tryz.prog 99 #[.pointer (some ⟨bE, 0, none⟩), .int .i64 (i : Nat), .int .i64 (j : Nat)] w (BufPost bE bA bC N (takeB b i j) w) := by
  have x0 := h.c0
  have HD := Lib.hid (Ar.delete_ok bA bC N b.l i j w h.ar hij hj)
  have HH := Lib.hid h
  have HJ := Lib.hid (And.intro hij (And.intro hj hf))
  clear h hf
  go_enter Tryz.func99, Tryz.ntmps99
  go_wp2_with fail
  refine (HD.out).mono ?_
  rintro e w2 ⟨rfl, C2, A2⟩
  have nA := HH.out.nA
  have nC := HH.out.nC
  have E2 := C2.heap HH.out.hE (by simp; omega)
  have x1 : w2.cell? ⟨bE, 1, none⟩ = some (.int .i64 (b.at' : Nat)) := by rw [cell_of_heap E2]; rfl
  have f1 : w2.frozen? ⟨bE, 1, none⟩ = false := free_of_heap E2 1
  have HE := Lib.hid (And.intro C2 (And.intro A2 E2))
  clear C2 A2 E2 nA nC
  go_wp2_with fail
  go_end0
  have c : Chg [bE] w2 (w2.setCell ⟨bE, 1, none⟩ (.int .i64 (i : Nat))) := (Chg.refl [bE] w2).setCell (p := ⟨bE, 1, none⟩) (Or.inl List.mem_cons_self) _
  have nA := HH.out.nA
  have nC := HH.out.nC
  obtain ⟨d1, d2⟩ := del_inv HJ.out.1 HJ.out.2.1 HH.out.f0 HJ.out.2.2
  refine ⟨rfl, HE.out.1.trans c (fun x hx => List.mem_cons_of_mem _ hx) (fun x hx _ => by rw [List.mem_singleton.1 hx]; exact List.mem_cons_self), ⟨by rw [setCell_heap _ HE.out.2.2]; rfl, HE.out.2.1.chg c (by simp; omega) (by simp; omega), nA, nC, (HH.out.by'.take i).append (HH.out.by'.drop j), ?_, d2, d1⟩⟩
  show i ≤ (b.l.take i ++ b.l.drop j).length
  rw [List.length_append, List.length_take]
  have := HJ.out
  omega
set_option maxHeartbeats 4000000 in
theorem back_any (bE bA bC N : Nat) (b : Bf) (w : World) (h : BufIs w bE bA bC N b) :
    Calls Tryz.prog 69 #[.pointer (some ⟨bE, 0, none⟩)] w (BufPost bE bA bC N (takeB b (aheadB b) b.at') w) := by
  have x1 := h.c1
  have sp := ahead_spec h
  have HA := Lib.hid (fun W (C : Chg [] w W) => ahead_any bE bA bC N b W (h.chg0 C))
  have HT := Lib.hid (fun W (C : Chg [] w W) => take_buf bE bA bC N b (aheadB b) b.at' W (h.chg0 C) sp.1 h.le h.fp)
  generalize aheadB b = a at *
  clear h sp
  go_enter Tryz.func69, Tryz.ntmps69
  go_wp2_with fail
  go_region_with (first
    | (go_at_call 100; refine Calls.mono (HA.out _ (by first | exact (Chg.refl [] w).drew | exact Chg.refl [] w)) ?_; rintro e w2 ⟨rfl, rfl⟩)
    | (go_at_call 99; refine Calls.mono (HT.out _ (by first | exact (Chg.refl [] w).drew | exact Chg.refl [] w)) ?_; rintro e w2 ⟨rfl, C2, B2⟩))
  all_goals (
    go_wp2_with fail
    go_end0
    exact ⟨rfl, C2.of_drew, B2⟩)
set_option maxHeartbeats 4000000 in
theorem del_any (bE bA bC N : Nat) (b : Bf) (w : World) (h : BufIs w bE bA bC N b) :
    Calls Tryz.prog 70 #[.pointer (some ⟨bE, 0, none⟩)] w (BufPost bE bA bC N (takeB b b.at' (behindB b)) w) := by
  have x1 := h.c1
  have sp := behind_spec h
  have HA := Lib.hid (fun W (C : Chg [] w W) => behind_any bE bA bC N b W (h.chg0 C))
  have HT := Lib.hid (fun W (C : Chg [] w W) => take_buf bE bA bC N b b.at' (behindB b) W (h.chg0 C) sp.1 sp.2.1 sp.2.2)
  generalize behindB b = a at *
  clear h sp
  go_enter Tryz.func70, Tryz.ntmps70
  go_wp2_with fail
  go_region_with (first
    | (go_at_call 101; refine Calls.mono (HA.out _ (by first | exact (Chg.refl [] w).drew | exact Chg.refl [] w)) ?_; rintro e w2 ⟨rfl, C1⟩; have y1 := C1.cell (show w.drew.cell? ⟨bE, 1, none⟩ = some (.int .i64 (b.at' : Nat)) from x1) (by simp))
    | (go_at_call 99; refine Calls.mono (HT.out _ C1.of_drew) ?_; rintro e w3 ⟨rfl, C2, B2⟩))
  all_goals (
    go_wp2_with fail
    go_end0
    exact ⟨rfl, C1.of_drew.trans C2 (by simp) (fun x hx _ => hx), B2⟩)
set_option maxHeartbeats 4000000 in
theorem left_any (bE bA bC N : Nat) (b : Bf) (w : World) (h : BufIs w bE bA bC N b) :
    Calls Tryz.prog 71 #[.pointer (some ⟨bE, 0, none⟩)] w (BufPost bE bA bC N ⟨b.l, aheadB b⟩ w) := by
  have x1 := h.c1
  have f1 : w.frozen? ⟨bE, 1, none⟩ = false := free_of_heap h.hE 1
  have sp := ahead_spec h
  have HA := Lib.hid (ahead_any bE bA bC N b w h)
  have HP := Lib.hid (h.place (aheadB b) (by have := h.le; omega) sp.2)
  generalize aheadB b = a at *
  clear h sp
  go_enter Tryz.func71, Tryz.ntmps71
  go_wp2_with fail
  refine (HA.out).mono ?_
  rintro e w2 ⟨rfl, rfl⟩
  go_wp2_with fail
  go_end0
  exact ⟨rfl, HP.out.1.mono (by simp), HP.out.2⟩
set_option maxHeartbeats 4000000 in
theorem right_any (bE bA bC N : Nat) (b : Bf) (w : World) (h : BufIs w bE bA bC N b) :
    Calls Tryz.prog 72 #[.pointer (some ⟨bE, 0, none⟩)] w (BufPost bE bA bC N ⟨b.l, behindB b⟩ w) := by
  have sp := behind_spec h
  have HA := Lib.hid (behind_any bE bA bC N b w h)
  have HP := Lib.hid (fun W (C : Chg [] w W) => (h.chg0 C).place (behindB b) sp.2.1 sp.2.2)
  have HH := Lib.hid h
  generalize behindB b = a at *
  clear h sp
  go_enter Tryz.func72, Tryz.ntmps72
  go_wp2_with fail
  refine (HA.out).mono ?_
  rintro e w2 ⟨rfl, C2⟩
  have x1 := (HH.out.chg0 C2).c1
  have f1 : w2.frozen? ⟨bE, 1, none⟩ = false := free_of_heap (HH.out.chg0 C2).hE 1
  have HC := Lib.hid C2
  clear C2
  go_wp2_with fail
  go_end0
  exact ⟨rfl, HC.out.trans (HP.out _ HC.out).1 (by simp) (fun x hx _ => by rw [List.mem_singleton.1 hx]; exact List.mem_cons_self), (HP.out _ HC.out).2⟩
set_option maxHeartbeats 4000000 in
theorem home_any (bE bA bC N : Nat) (b : Bf) (w : World) (h : BufIs w bE bA bC N b) :
    Calls Tryz.prog 73 #[.pointer (some ⟨bE, 0, none⟩)] w (BufPost bE bA bC N ⟨b.l, 0⟩ w) := by
  have x1 := h.c1
  have f1 : w.frozen? ⟨bE, 1, none⟩ = false := free_of_heap h.hE 1
  have HP := Lib.hid (h.place 0 (Nat.zero_le _) h.f0)
  clear h
  go_enter Tryz.func73, Tryz.ntmps73
  go_wp2_with fail
  go_end0
  exact ⟨rfl, HP.out.1.mono (by simp), HP.out.2⟩
set_option maxHeartbeats 4000000 in
theorem last_any (bE bA bC N : Nat) (b : Bf) (w : World) (h : BufIs w bE bA bC N b) :
    Calls Tryz.prog 74 #[.pointer (some ⟨bE, 0, none⟩)] w (BufPost bE bA bC N ⟨b.l, b.l.length⟩ w) := by
  have x0 := h.c0
  have x1 := h.c1
  have f1 : w.frozen? ⟨bE, 1, none⟩ = false := free_of_heap h.hE 1
  have HL := Lib.hid (Ar.len_any bA bC N b.l w h.ar)
  have HP := Lib.hid (h.place b.l.length (Nat.le_refl _) (firstB_end (Nat.le_refl _)))
  clear h
  go_enter Tryz.func74, Tryz.ntmps74
  go_wp2_with fail
  refine (HL.out).mono ?_
  rintro e w2 ⟨rfl, rfl⟩
  go_wp2_with fail
  go_end0
  exact ⟨rfl, HP.out.1.mono (by simp), HP.out.2⟩
set_option maxHeartbeats 4000000 in
theorem killStart_any (bE bA bC N : Nat) (b : Bf) (w : World) (h : BufIs w bE bA bC N b) :
    Calls Tryz.prog 75 #[.pointer (some ⟨bE, 0, none⟩)] w (BufPost bE bA bC N (takeB b 0 b.at') w) := by
  have x1 := h.c1
  have HT : Hid (Calls Tryz.prog 99 #[.pointer (some ⟨bE, 0, none⟩), .int .i64 0, .int .i64 (b.at' : Nat)] w (BufPost bE bA bC N (takeB b 0 b.at') w)) := Lib.hid (take_buf bE bA bC N b 0 b.at' w h (Nat.zero_le _) h.le h.fp)
  clear h
  go_enter Tryz.func75, Tryz.ntmps75
  go_wp2_with fail
  refine (HT.out).mono ?_
  rintro e w2 ⟨rfl, C2, B2⟩
  go_wp2_with fail
  go_end0
  exact ⟨rfl, C2, B2⟩
set_option maxHeartbeats 4000000 in
theorem killEnd_any (bE bA bC N : Nat) (b : Bf) (w : World) (h : BufIs w bE bA bC N b) :
    Calls Tryz.prog 76 #[.pointer (some ⟨bE, 0, none⟩)] w (BufPost bE bA bC N (takeB b b.at' b.l.length) w) := by
  have x0 := h.c0
  have x1 := h.c1
  have HA := Lib.hid (fun W (C : Chg [] w W) => Ar.len_any bA bC N b.l W (h.chg0 C).ar)
  have HT := Lib.hid (fun W (C : Chg [] w W) => take_buf bE bA bC N b b.at' b.l.length W (h.chg0 C) h.le (Nat.le_refl _) (firstB_end (Nat.le_refl _)))
  clear h
  go_enter Tryz.func76, Tryz.ntmps76
  go_wp2_with fail
  go_region_with (first
    | (go_at_call 41; refine Calls.mono (HA.out _ (by first | exact (Chg.refl [] w).drew | exact Chg.refl [] w)) ?_; rintro e w2 ⟨rfl, rfl⟩)
    | (go_at_call 99; refine Calls.mono (HT.out _ (by first | exact (Chg.refl [] w).drew | exact Chg.refl [] w)) ?_; rintro e w2 ⟨rfl, C2, B2⟩))
  all_goals (
    go_wp2_with fail
    go_end0
    exact ⟨rfl, C2.of_drew, B2⟩)
end Go.Proofs.YtafmnkngjjnpiaaGreatDoor

namespace Go.Proofs.YtafmnkngjjnpiaaGreatDoor
set_option linter.unusedVariables false
set_option linter.unusedSimpArgs false
set_option maxRecDepth 100000
open Go.RowKit
def doV (k : Int) : Option Value :=
  (if k = 9 then some (Value.func (Fn.func 76) #[] #[]) else (if k = 8 then some (Value.func (Fn.func 75) #[] #[]) else (if k = 7 then some (Value.func (Fn.func 74) #[] #[]) else (if k = 6 then some (Value.func (Fn.func 73) #[] #[]) else (if k = 5 then some (Value.func (Fn.func 72) #[] #[]) else (if k = 4 then some (Value.func (Fn.func 71) #[] #[]) else (if k = 3 then some (Value.func (Fn.func 70) #[] #[]) else (if k = 2 then some (Value.func (Fn.func 69) #[] #[]) else none))))))))
def KindsEPost (w : World) (e : Ending) (w' : World) : Prop := ∃ b es, e = .returned (.map (some b)) ∧ Chg [] w w' ∧ w'.heap[b]? = some (.map es 8) ∧ MapV (Value.int .i64) (.int .i64) es doV ∧ w.heap.size ≤ b
set_option maxHeartbeats 8000000 in
theorem kindsE_any (w : World) : Calls Tryz.prog 47 #[] w (KindsEPost w) := by
  have hmm := @run_makeMap Tryz.prog
  have h0 : (w.alloc (.map #[] 0)).heap[w.heap.size]? = some (.map #[] 0) := alloc_heap w _
  have m0 : MapV (Value.int .i64) (.int .i64) #[] (fun _ => none) := MapV.nil _ _
  obtain ⟨w1, es1, r1, h1, m1, c1, _⟩ := MapV.put (mt := 117) Tryz.underlying117 Tryz.underlying3 m0 keyI keyI_inj h0 2 (by decide) (Value.func (Fn.func 69) #[] #[])
  obtain ⟨w2, es2, r2, h2, m2, c2, _⟩ := MapV.put (mt := 117) Tryz.underlying117 Tryz.underlying3 m1 keyI keyI_inj h1 3 (by decide) (Value.func (Fn.func 70) #[] #[])
  obtain ⟨w3, es3, r3, h3, m3, c3, _⟩ := MapV.put (mt := 117) Tryz.underlying117 Tryz.underlying3 m2 keyI keyI_inj h2 4 (by decide) (Value.func (Fn.func 71) #[] #[])
  obtain ⟨w4, es4, r4, h4, m4, c4, _⟩ := MapV.put (mt := 117) Tryz.underlying117 Tryz.underlying3 m3 keyI keyI_inj h3 5 (by decide) (Value.func (Fn.func 72) #[] #[])
  obtain ⟨w5, es5, r5, h5, m5, c5, _⟩ := MapV.put (mt := 117) Tryz.underlying117 Tryz.underlying3 m4 keyI keyI_inj h4 6 (by decide) (Value.func (Fn.func 73) #[] #[])
  obtain ⟨w6, es6, r6, h6, m6, c6, _⟩ := MapV.put (mt := 117) Tryz.underlying117 Tryz.underlying3 m5 keyI keyI_inj h5 7 (by decide) (Value.func (Fn.func 74) #[] #[])
  obtain ⟨w7, es7, r7, h7, m7, c7, _⟩ := MapV.put (mt := 117) Tryz.underlying117 Tryz.underlying3 m6 keyI keyI_inj h6 8 (by decide) (Value.func (Fn.func 75) #[] #[])
  obtain ⟨w8, es8, r8, h8, m8, c8, _⟩ := MapV.put (mt := 117) Tryz.underlying117 Tryz.underlying3 m7 keyI keyI_inj h7 9 (by decide) (Value.func (Fn.func 76) #[] #[])
  have HE : Hid (KindsEPost w (.returned (.map (some w.heap.size))) w8) := Lib.hid ⟨_, _, rfl, ((((((((((Chg.refl [] w).alloc _).trans c1 (U := []) (by simp) (fun y hy hl => by have := List.mem_singleton.1 hy; omega)).trans c2 (U := []) (by simp) (fun y hy hl => by have := List.mem_singleton.1 hy; omega)).trans c3 (U := []) (by simp) (fun y hy hl => by have := List.mem_singleton.1 hy; omega)).trans c4 (U := []) (by simp) (fun y hy hl => by have := List.mem_singleton.1 hy; omega)).trans c5 (U := []) (by simp) (fun y hy hl => by have := List.mem_singleton.1 hy; omega)).trans c6 (U := []) (by simp) (fun y hy hl => by have := List.mem_singleton.1 hy; omega)).trans c7 (U := []) (by simp) (fun y hy hl => by have := List.mem_singleton.1 hy; omega)).trans c8 (U := []) (by simp) (fun y hy hl => by have := List.mem_singleton.1 hy; omega)), h8, m8, Nat.le_refl _⟩
  clear h0 m0 h1 m1 h2 m2 h3 m3 h4 m4 h5 m5 h6 m6 h7 m7 h8 m8 c1 c2 c3 c4 c5 c6 c7 c8
  go_enter Tryz.func47, Tryz.ntmps47
  go_wp2_with fail
  go_ret
  exact HE.out
def LayPost (bE bA bC N : Nat) (R : Int × Bf) (w : World) (e : Ending) (w' : World) : Prop := e = .returned (.int .i64 R.1) ∧ Chg [bE, bA, bC] w w' ∧ BufIs w' bE bA bC N R.2
theorem getD_eq {l m : List Int} {i j : Nat} (h : l[i]? = m[j]?) : l.getD i 0 = m.getD j 0 := by rw [List.getD_eq_getElem?_getD, List.getD_eq_getElem?_getD, h]
theorem lay_inv {l t : List Int} {p : Nat} (hp : p ≤ l.length) (h0 : firstB l 0 = true) (hf : firstB l p = true) (ht : firstB t 0 = true) : firstB (l.take p ++ t ++ l.drop p) (p + t.length) = true ∧ firstB (l.take p ++ t ++ l.drop p) 0 = true := by
  have hl : (l.take p ++ t ++ l.drop p).length = l.length + t.length := by rw [List.length_append, List.length_append, List.length_take, List.length_drop]; omega
  have htk : (l.take p ++ t).length = p + t.length := by rw [List.length_append, List.length_take]; omega
  have h1 : firstB (l.take p ++ t ++ l.drop p) (p + t.length) = true := by
    rcases Nat.lt_or_ge p l.length with h | h
    · unfold firstB at hf ⊢
      rw [if_pos h] at hf
      rw [if_pos (by rw [hl]; omega), getD_eq (m := l) (j := p) (by rw [List.getElem?_append_right (by omega), htk, List.getElem?_drop, show p + (p + t.length - (p + t.length)) = p by omega])]
      exact hf
    · exact firstB_end (by rw [hl]; omega)
  refine ⟨h1, ?_⟩
  rcases Nat.eq_zero_or_pos p with rfl | hp0
  · rcases Nat.eq_zero_or_pos t.length with ht0 | ht0
    · obtain rfl := List.eq_nil_of_length_eq_zero ht0
      simpa using h0
    · unfold firstB at ht ⊢
      rw [if_pos ht0] at ht
      rw [if_pos (by rw [hl]; omega), getD_eq (m := t) (j := 0) (by rw [List.getElem?_append_left (by omega), List.getElem?_append_right (by simp)]; simp)]
      exact ht
  · unfold firstB at h0 ⊢
    rw [if_pos (by omega)] at h0
    rw [if_pos (by rw [hl]; omega), getD_eq (m := l) (j := 0) (by rw [List.getElem?_append_left (by omega), List.getElem?_append_left (by rw [List.length_take]; omega), List.getElem?_take, if_pos hp0])]
    exact h0
set_option maxHeartbeats 4000000 in
theorem lay_any (bE bA bC N : Nat) (b : Bf) (ao : Option Addr) (n c : Nat) (t : List Int) (w : World) (h : BufIs w bE bA bC N b) (ht : ByR t) (hf : firstB t 0 = true) (hs : Ar.SrcIs w ao n t [bA, bC]) (hn : n ≤ 100000) :
    Calls Tryz.prog 68 #[.pointer (some ⟨bE, 0, none⟩), .slice ao n c] w (LayPost bE bA bC N (layB N b t) w) := by
  have x0 := h.c0
  have x1 := h.c1
  have htl := hs.1
  have hle := h.le
  have hm := h.ar.most
  have hal := h.ar.le
  have nA := h.nA
  have nC := h.nC
  have hne : bE ∉ [bA, bC] := by simp; omega
  have HNE := Lib.hid hne
  have HH := Lib.hid h
  by_cases hroom : N - b.l.length < n
  · have hv : layB N b t = (4, b) := by unfold layB; rw [if_pos (by omega)]
    rw [hv]
    have HI := Lib.hid (fun W (C : Chg [] w W) => Ar.insert_full bA bC N b.l (b.at' : Nat) ao n c W (h.chg0 C).ar (by omega) (by omega) hroom)
    clear h hs hv htl nA nC hne hf
    go_enter Tryz.func68, Tryz.ntmps68
    go_wp2_with fail
    go_region_held3 (fun w' => w'.cell? ⟨bE, 0, none⟩ = some (.pointer (some ⟨bA, 0, none⟩)) ∧ w'.cell? ⟨bE, 1, none⟩ = some (.int .i64 (b.at' : Nat))) (first | exact ⟨C2.cell x0 (by simp), C2.cell x1 (by simp)⟩ | go_keep)
      (first | (go_at_call 40; refine Calls.mono (HI.out _ (by first | exact (Chg.refl [] w).drew | exact Chg.refl [] w)) ?_; rintro e w2 ⟨rfl, C2'⟩; have C2 : Chg [] w w2 := C2'.of_drew))
    all_goals (
      go_wp2_with fail
      go_ret
      exact ⟨rfl, C2.mono (by simp), HH.out.chg0 C2⟩)
  · have hv : layB N b t = (0, ⟨b.l.take b.at' ++ t ++ b.l.drop b.at', b.at' + n⟩) := by unfold layB; rw [if_neg (by omega), htl]
    rw [hv]
    have HI := Lib.hid (fun W (C : Chg [] w W) => Ar.insert_ok bA bC N b.l b.at' ao n c t W (h.chg0 C).ar (hs.chg C (by simp)) hle (by omega))
    have li := lay_inv hle h.f0 h.fp hf
    rw [htl] at li
    have HLI := Lib.hid (And.intro li (And.intro htl ht))
    clear h hs hv htl nA nC hne hf li
    go_enter Tryz.func68, Tryz.ntmps68
    go_wp2_with fail
    go_region_held3 (fun w' => w'.cell? ⟨bE, 0, none⟩ = some (.pointer (some ⟨bA, 0, none⟩)) ∧ w'.cell? ⟨bE, 1, none⟩ = some (.int .i64 (b.at' : Nat))) (first | exact ⟨C2.cell x0 HNE.out, C2.cell x1 HNE.out⟩ | go_keep)
      (first | (go_at_call 40; refine Calls.mono (HI.out _ (by first | exact (Chg.refl [] w).drew | exact Chg.refl [] w)) ?_; rintro e w2 ⟨rfl, C2', A2⟩; have C2 : Chg [bA, bC] w w2 := C2'.of_drew))
    all_goals (
      have E2 := C2.heap HH.out.hE HNE.out
      have y1 : w2.cell? ⟨bE, 1, none⟩ = some (.int .i64 (b.at' : Nat)) := by rw [cell_of_heap E2]; rfl
      have f1 : w2.frozen? ⟨bE, 1, none⟩ = false := free_of_heap E2 1
      have HE := Lib.hid (And.intro C2 (And.intro A2 E2))
      have hw : ((b.at' : Int) + (n : Int)) = ((b.at' + n : Nat) : Int) := by omega
      have HW := Lib.hid hw
      clear C2 C2' A2 E2 x0 x1 hw
      go_wp2_with fail
      go_ret
      rw [HW.out]
      have cc : Chg [bE] w2 (w2.setCell ⟨bE, 1, none⟩ (.int .i64 (b.at' + n : Nat))) := (Chg.refl [bE] w2).setCell (p := ⟨bE, 1, none⟩) (Or.inl List.mem_cons_self) _
      have nA := HH.out.nA
      have nC := HH.out.nC
      refine ⟨rfl, HE.out.1.trans cc (fun x hx => List.mem_cons_of_mem _ hx) (fun x hx _ => by rw [List.mem_singleton.1 hx]; exact List.mem_cons_self), ⟨by rw [setCell_heap _ HE.out.2.2]; rfl, HE.out.2.1.chg cc (by simp; omega) (by simp; omega), nA, nC, ((HH.out.by'.take _).append HLI.out.2.2).append (HH.out.by'.drop _), ?_, HLI.out.1.2, HLI.out.1.1⟩⟩
      show b.at' + n ≤ (b.l.take b.at' ++ t ++ b.l.drop b.at').length
      rw [List.length_append, List.length_append, List.length_take, List.length_drop, HLI.out.2.1]
      omega)
end Go.Proofs.YtafmnkngjjnpiaaGreatDoor

namespace Go.Proofs.YtafmnkngjjnpiaaGreatDoor
set_option linter.unusedVariables false
set_option linter.unusedSimpArgs false
set_option maxRecDepth 100000
open Go.RowKit
theorem putU_first {c : Int} (h : okU c = true) : firstB (putU c) 0 = true := by
  obtain ⟨hp, _⟩ := putU_pos h
  unfold firstB
  rw [if_pos hp]
  unfold putU Lib.encodeRuneZ
  rw [if_pos h]
  repeat' split
  all_goals (first | (simp; done) | (simp; omega))
theorem shown_ok {c : Int} (h : shownU c = true) : okU c = true := by
  unfold shownU at h
  cases ho : okU c with
  | true => rfl
  | false => rw [ho] at h; simp at h
theorem leave_none {fn : Func} {tmps : Array Value} {R : Ending → World → Prop} {v : Value} {w : World} (h : (results fn tmps).run Tryz.prog w = .ok v w) (hR : R (.returned v) w) : LeavesB Tryz.prog fn tmps R [] w := ⟨v, h, hR⟩
set_option maxHeartbeats 8000000 in
theorem put_buf (bE bA bC N : Nat) (b : Bf) (c : Int) (w : World) (h : BufIs w bE bA bC N b) :
    Calls Tryz.prog 46 #[.pointer (some ⟨bE, 0, none⟩), .int .i64 c] w (LayPost bE bA bC N (putB N b c) w) := by
  have HH := Lib.hid h
  have lE := heap_lt h.hE
  have lA := heap_lt h.ar.hA
  have lC := heap_lt h.ar.hC
  have HL := Lib.hid (And.intro lE (And.intro lA lC))
  clear h lE lA lC
  rcases hs : shownU c with _ | _
  · have hv : putB N b c = (2, b) := by unfold putB; rw [hs]; rfl
    rw [hv]
    have HP := Lib.hid (printable_any c w)
    rw [hs] at HP
    clear hv hs
    refine calls_of_wp_b Tryz.func46 rfl ?_
    simp only [Tryz.ntmps46, List.size_toArray, List.length_cons, List.length_nil, Nat.reduceAdd, Nat.reduceSub, Array.replicate_succ, Array.replicate_zero, List.push_toArray, List.append_toArray, List.nil_append, List.cons_append]
    go_wp2_with fail
    refine (HP.out).mono ?_
    rintro e w2 ⟨rfl, C2⟩
    go_wp2_with fail
    exact leave_none (by simp [results, Tryz.results46, go_sem]) ⟨rfl, C2.mono (by simp), HH.out.chg0 C2⟩
  · have hv : putB N b c = layB N b (putU c) := by unfold putB; rw [hs]; rfl
    rw [hv]
    have ho := shown_ok hs
    have HP := Lib.hid (printable_any c w)
    rw [hs] at HP
    have HO := Lib.hid ho
    clear hv hs ho
    refine calls_of_wp_b Tryz.func46 rfl ?_
    simp only [Tryz.ntmps46, List.size_toArray, List.length_cons, List.length_nil, Nat.reduceAdd, Nat.reduceSub, Array.replicate_succ, Array.replicate_zero, List.push_toArray, List.append_toArray, List.nil_append, List.cons_append]
    go_wp2_with fail
    refine (HP.out).mono ?_
    rintro e w2 ⟨rfl, C2⟩
    have HC2 := Lib.hid C2
    clear C2
    go_wp2_with fail
    refine (put_ok c w2 HO.out).mono ?_
    rintro e w3 ⟨g, cap, rfl, O3, C3⟩
    have hg : w2.heap.size ≤ g ∧ g < w3.heap.size := O3.lt g rfl
    have HC3 := Lib.hid (HC2.out.trans C3 (U := []) (by simp) (by simp))
    have hgw : w.heap.size ≤ g := by have := HC2.out.size; omega
    have hS : Ar.SrcIs w3 (some ⟨g, 0, none⟩) (putU c).length (putU c) [bA, bC] := ⟨rfl, fun _ => ⟨⟨g, 0, none⟩, rfl, by have := HL.out; simp; omega, fun j v hv => O3.cells (g := g) rfl j v hv⟩⟩
    have hL := lay_any bE bA bC N b (some ⟨g, 0, none⟩) (putU c).length cap (putU c) w3 (HH.out.chg0 HC3.out) (putU_by c) (putU_first HO.out) hS (by have := (putU_pos HO.out).2; omega)
    have HLY := Lib.hid hL
    have HO3 := Lib.hid O3
    clear C3 O3 hS hL hg
    go_wp2_with fail
    refine (HLY.out).mono ?_
    rintro e w4 ⟨rfl, C4, B4⟩
    have HE := Lib.hid (And.intro C4 B4)
    clear C4 B4
    go_wp2_with fail
    obtain ⟨_, ⟨h0, _⟩ | ⟨g', cap', cur, e1, _, hg3, hn3, _, hsz, _⟩⟩ := HO3.out
    · cases h0
    · injection e1 with e1 _ e3
      injection e1 with e1
      injection e1 with e1 _ _
      subst e1 e3
      have hm : g ∉ [bE, bA, bC] := by have := HL.out; simp; omega
      obtain ⟨w5, r5, C5⟩ := clear_arr (n := (putU c).length) (c := cap) (HE.out.1.heap hg3 hm) (by omega) 0
      refine ⟨.tuple #[], w5, ⟨_, _, _, _, rfl⟩, by simp [invoke, builtin, r5, Result.andThen], leave_none (by simp [results, Tryz.results46, go_sem]) ⟨rfl, ?_, HE.out.2.chg C5 ?_ ?_ ?_⟩⟩
      · exact ((HC3.out.mono (T := [bE, bA, bC]) (by simp)).trans HE.out.1 (fun x hx => hx) (fun x hx _ => hx)).trans C5 (fun x hx => hx) (fun x hx hl => by have := List.mem_singleton.1 hx; omega)
      all_goals (have := HL.out; simp; omega)
def sliceLen : Value → Nat
  | .slice _ n _ => n
  | _ => 0
theorem addr_add (a : Addr) (k j : Nat) : (a.add k).add j = a.add (k + j) := by
  unfold Addr.add
  by_cases hk0 : k = 0
  · subst hk0; simp
  · by_cases hj0 : j = 0
    · subst hj0; simp [hk0]
    · simp [hk0, hj0, Nat.add_assoc]
def fromA (ao : Option Addr) (c k : Nat) : Option Addr := if c = k then ao else ao.map (fun a => a.add k)
theorem SrcAt.from {w : World} {ao : Option Addr} {n c k : Nat} {l : List Int} (h : SrcAt w ao n c (valsOf .u8 l)) (hk : k ≤ n) (hc : n ≤ c) : SrcAt w (fromA ao c k) (n - k) (c - k) (valsOf .u8 (l.drop k)) := by
  have hl := h.len
  unfold fromA
  refine ⟨by rw [valsOf_length, List.length_drop]; omega, fun e => ?_, fun ad e j u hu => ?_⟩
  · split at e
    · have := h.2.1 e; omega
    · cases ao with
      | none => have := h.2.1 rfl; omega
      | some ad => cases e
  · unfold valsOf at hu
    rw [List.getElem?_map, List.getElem?_drop] at hu
    split at e
    · rename_i hck
      have : l.length ≤ k + j := by omega
      rw [List.getElem?_eq_none this] at hu
      cases hu
    · cases ao with
      | none => cases e
      | some a =>
        injection e with e
        subst e
        have := h.2.2 a rfl (k + j) u (by unfold valsOf; rw [List.getElem?_map]; exact hu)
        rw [← this]
        congr 1
        exact addr_add a k j
theorem fineU_zero {t : List Int} (h : t.length = 0) (f : Nat) : fineU f t = true := by
  cases f with
  | zero => rfl
  | succ f => rw [fineU, if_pos h]
set_option maxHeartbeats 8000000 in
theorem fine_any (ao : Option Addr) (n c : Nat) (t : List Int) (w : World) (hT : Lib.Utf8Tabs 1 2 w) (h : SrcAt w ao n c (valsOf .u8 t)) (hb : ByR t) (hn : n ≤ 1000000) (hc : n ≤ c) :
    Calls Tryz.prog 67 #[.slice ao n c] w fun e w' => e = .returned (.bool (fineU t.length t)) ∧ Chg [] w w' := by
  obtain ⟨R, hR⟩ : ∃ R, R = fineU t.length t := ⟨_, rfl⟩
  rw [← hR]
  have HR := Lib.hid hR
  have HS := Lib.hid h
  have HT := Lib.hid hT
  have HB := Lib.hid hb
  clear h hT hb hR
  go_enter Tryz.func67, Tryz.ntmps67
  go_wp2_with fail
  go_loopw [0] (fun v wr => ∃ (t' : List Int) (f : Nat) (ao : Option Addr) (n c : Nat), v = .slice ao n c ∧ SrcAt wr ao n c (valsOf .u8 t') ∧ ByR t' ∧ n ≤ 1000000 ∧ n ≤ c ∧ fineU f t' = R ∧ t'.length ≤ f ∧ Chg [] w wr) (fun v _ => sliceLen v)
  case atStart => exact ⟨t, t.length, ao, n, c, rfl, HS.out, HB.out, hn, hc, HR.out.symm, Nat.le_refl _, Chg.refl _ _⟩
  case round =>
    obtain ⟨t', f, ao', n', c', rfl, hs, hb, hn', hc', hf, hlf, hC⟩ := hrel
    clear hn hc
    have hl := hs.len
    have HS2 := Lib.hid hs
    have HF := Lib.hid hf
    have HC := Lib.hid hC
    have HL := Lib.hid hl
    have HB2 := Lib.hid hb
    clear hs hf hC hb HS HB
    rcases Nat.eq_zero_or_pos n' with rfl | hp
    · have hRt : R = true := by rw [← HF.out]; exact fineU_zero HL.out f
      have HRR := Lib.hid hRt
      clear hl hRt
      go_wp2_with fail
      go_ret
      exact ⟨by rw [HRR.out]; rfl, HC.out⟩
    · obtain ⟨f', rfl⟩ : ∃ f', f = f' + 1 := ⟨f - 1, by omega⟩
      have hf2 := HF.out
      rw [fineU, if_neg (by omega)] at hf2
      have hN := next_any _ (Utf8Tabs.chg0 HT.out HC.out) ao' n' c' t' HS2.out HB2.out hn' hc'
      unfold NextPost at hN
      have hle := nextU_le t'
      have hpos := @nextU_pos t' (by omega)
      obtain ⟨uc, un, ue, hU⟩ : ∃ uc un ue, nextU t' = (uc, un, ue) := ⟨_, _, _, rfl⟩
      rw [hU] at hN hf2 hle hpos
      dsimp only at hN hf2 hle hpos
      have HN := Lib.hid hN
      have HF2 := Lib.hid hf2
      have HLE := Lib.hid (And.intro hle hpos)
      clear hN hf2 hle hpos hU hl
      have t0 : decide ((0 : Int) < (n' : Int)) = true := decide_eq_true (by omega)
      by_cases hue : ue = 0
      · have t1 : (ue != 0) = false := by rw [hue]; rfl
        rcases hsh : shownU uc with _ | _
        · have hR : R = false := by rw [← HF2.out, if_neg (by rw [hsh]; simp)]
          have HRR := Lib.hid hR
          have HP := Lib.hid (fun W => printable_any uc W)
          rw [hsh] at HP
          clear hR hsh hue
          go_wp2_with fail
          refine (HN.out).mono ?_
          rintro e w2 ⟨rfl, C2⟩
          have HC2 := Lib.hid (HC.out.trans C2 (U := []) (by simp) (by simp))
          clear C2
          go_wp2_with fail
          refine (HP.out _).mono ?_
          rintro e w3 ⟨rfl, C3⟩
          go_wp2_with fail
          go_ret
          exact ⟨by rw [HRR.out]; rfl, HC2.out.trans C3 (by simp) (by simp)⟩
        · have hf3 := HF2.out
          rw [if_pos ⟨hue, hsh⟩] at hf3
          have HF3 := Lib.hid hf3
          have HP := Lib.hid (fun W => printable_any uc W)
          rw [hsh] at HP
          have hun : un ≤ n' := by rw [← HL.out]; exact HLE.out.1
          have hun1 : 1 ≤ un := HLE.out.2 (by rw [hue]; decide)
          clear hf3 hsh hue
          obtain ⟨g, off, rfl, _⟩ := HS2.out.int hp
          have hFr := HS2.out.from hun hc'
          have HFR := Lib.hid hFr
          clear hFr
          by_cases hck : c' = un
          · have hnu : n' = un := by omega
            have HCK := Lib.hid hck
            have HNU := Lib.hid hnu
            subst hck
            obtain rfl : n' = c' := by omega
            clear hnu
            go_wp2_with fail
            refine (HN.out).mono ?_
            rintro e w2 ⟨rfl, C2⟩
            have HC2 := Lib.hid C2
            clear C2
            go_wp2_with fail
            refine (HP.out _).mono ?_
            rintro e w3 ⟨rfl, C3⟩
            have HC3 := Lib.hid (HC2.out.trans C3 (U := []) (by simp) (by simp))
            clear C3
            go_wp2_with fail
            have hfr := HFR.out
            rw [fromA, if_pos rfl] at hfr
            rw [Nat.sub_self] at hfr
            exact ⟨⟨_, f', _, _, _, rfl, hfr.chg0 HC3.out, HB2.out.drop _, by omega, by omega, HF3.out, by rw [List.length_drop]; have := HL.out; omega, HC.out.trans HC3.out (by simp) (by simp)⟩, by simp [sliceLen]; omega⟩
          · have hck2 : un < c' := by omega
            go_wp2_with fail
            refine (HN.out).mono ?_
            rintro e w2 ⟨rfl, C2⟩
            have HC2 := Lib.hid C2
            clear C2
            go_wp2_with fail
            refine (HP.out _).mono ?_
            rintro e w3 ⟨rfl, C3⟩
            have HC3 := Lib.hid (HC2.out.trans C3 (U := []) (by simp) (by simp))
            clear C3
            go_wp2_with fail
            have hfr := HFR.out
            rw [fromA, if_neg hck] at hfr
            try simp only [Option.map_some, Addr.add_lit] at hfr
            exact ⟨⟨t'.drop un, f', _, _, _, rfl, hfr.chg0 HC3.out, HB2.out.drop un, by omega, by omega, HF3.out, by rw [List.length_drop]; have := HL.out; omega, HC.out.trans HC3.out (by simp) (by simp)⟩, by simp [sliceLen]; omega⟩
      · have t1 : (ue != 0) = true := by rw [bne_iff_ne]; exact hue
        have hR : R = false := by rw [← HF2.out, if_neg (fun h => hue h.1)]
        have HRR := Lib.hid hR
        clear hR hue
        go_wp2_with fail
        refine (HN.out).mono ?_
        rintro e w2 ⟨rfl, C2⟩
        have HC2 := Lib.hid (HC.out.trans C2 (U := []) (by simp) (by simp))
        clear C2
        go_wp2_with fail
        go_ret
        exact ⟨by rw [HRR.out]; rfl, HC2.out⟩
theorem fineU_first {f : Nat} {t : List Int} (hb : ByR t) (h : fineU (f + 1) t = true) : firstB t 0 = true := by
  rcases Nat.eq_zero_or_pos t.length with h0 | hp
  · exact firstB_end (by omega)
  · rw [fineU, if_neg (by omega)] at h
    split at h
    · rename_i h1
      obtain ⟨h1, h2⟩ := h1
      unfold firstB
      rw [if_pos hp]
      obtain ⟨e0, l0⟩ := hb.byte 0
      rw [e0]
      refine decide_eq_true (fun hc => ?_)
      have hc2 : byN t 0 / 64 = 2 := by omega
      unfold nextU at h1
      rw [if_neg (by omega)] at h1
      have hd : decU t = (65533, 1) := by
        unfold decU Lib.decodeN
        rw [if_neg (by omega), if_neg (by omega), if_neg (by omega), if_neg (by omega), if_neg (by omega)]
      rw [hd] at h1
      simp only [ne_eq, not_true_eq_false, Nat.lt_irrefl, or_self, if_false] at h1
      split at h1
      · cases h1
      · cases h1
    · cases h
set_option maxHeartbeats 4000000 in
theorem insert_buf (bE bA bC N : Nat) (b : Bf) (ao : Option Addr) (n c : Nat) (t : List Int) (w : World) (h : BufIs w bE bA bC N b) (hT : Lib.Utf8Tabs 1 2 w) (ht : ByR t) (hs : SrcAt w ao n c (valsOf .u8 t)) (hao : ∀ ad, ao = some ad → ad.block ∉ [bA, bC]) (hn : n ≤ 100000) (hc : n ≤ c) :
    Calls Tryz.prog 44 #[.pointer (some ⟨bE, 0, none⟩), .slice ao n c] w (LayPost bE bA bC N (insertB N b t) w) := by
  have hl := hs.len
  have HF := Lib.hid (fine_any ao n c t w hT hs ht (by omega) hc)
  have HH := Lib.hid h
  rcases hf : fineU t.length t with _ | _
  · have hv : insertB N b t = (8, b) := by unfold insertB; rw [hf]; rfl
    rw [hv]
    rw [hf] at HF
    clear h hT hs hv hf
    go_enter Tryz.func44, Tryz.ntmps44
    go_wp2_with fail
    refine (HF.out).mono ?_
    rintro e w2 ⟨rfl, C2⟩
    go_wp2_with fail
    go_ret
    exact ⟨rfl, C2.mono (by simp), HH.out.chg0 C2⟩
  · have hv : insertB N b t = layB N b t := by unfold insertB; rw [hf]; rfl
    rw [hv]
    have hf0 : firstB t 0 = true := by
      rcases Nat.eq_zero_or_pos t.length with h0 | hp
      · exact firstB_end (by omega)
      · exact fineU_first (f := t.length - 1) ht (by rw [Nat.sub_add_cancel hp]; exact hf)
    have HSI := Lib.hid (fun W (C : Chg [] w W) => (show Ar.SrcIs W ao n t [bA, bC] from ⟨hl, fun hp => by
      obtain ⟨g, off, rfl, _⟩ := hs.int hp
      exact ⟨_, rfl, hao _ rfl, fun j v hv => C.cell ((hs.2.2 _ rfl) j v hv) (by simp)⟩⟩))
    have HLY := Lib.hid (fun W (C : Chg [] w W) => lay_any bE bA bC N b ao n c t W (h.chg0 C) ht hf0 (HSI.out W C) hn)
    rw [hf] at HF
    clear h hT hs hv hf hf0
    go_enter Tryz.func44, Tryz.ntmps44
    go_wp2_with fail
    refine (HF.out).mono ?_
    rintro e w2 ⟨rfl, C2⟩
    have HC2 := Lib.hid C2
    clear C2
    go_wp2_with fail
    refine (HLY.out _ HC2.out).mono ?_
    rintro e w3 ⟨rfl, C3, B3⟩
    go_wp2_with fail
    go_ret
    exact ⟨rfl, HC2.out.trans C3 (by simp) (fun x hx _ => hx), B3⟩
end Go.Proofs.YtafmnkngjjnpiaaGreatDoor
