import Derived.Test.YtafmnkngjjnpiaaGreatDoorTbD
import Derived.Test.YtafmnkngjjnpiaaGreatDoorDefM
namespace Go.Proofs.YtafmnkngjjnpiaaGreatDoor
set_option linter.unusedVariables false
set_option linter.unusedSimpArgs false
set_option maxRecDepth 100000
open Go.RowKit
structure StgIs (w : World) (bS bA bC N : Nat) (s : Stg) : Prop where
  hS : w.heap[bS]? = some (.cells #[.pointer (some ⟨bA, 0, none⟩), .bool s.begun, .bool s.over] 109 (0, 0))
  ar : Ar.ArenaIs w bA bC N s.l
  nA : bS ≠ bA
  nC : bS ≠ bC
  by' : ByR s.l
theorem StgIs.chg {w w' : World} {bS bA bC N : Nat} {s : Stg} {S : List Nat} (h : StgIs w bS bA bC N s) (c : Chg S w w') (h1 : bS ∉ S) (h2 : bA ∉ S) (h3 : bC ∉ S) : StgIs w' bS bA bC N s :=
  ⟨c.heap h.hS h1, h.ar.chg c h2 h3, h.nA, h.nC, h.by'⟩
theorem StgIs.chg0 {w w' : World} {bS bA bC N : Nat} {s : Stg} (h : StgIs w bS bA bC N s) (c : Chg [] w w') : StgIs w' bS bA bC N s := h.chg c (by simp) (by simp) (by simp)
theorem StgIs.c0 {w : World} {bS bA bC N : Nat} {s : Stg} (h : StgIs w bS bA bC N s) : w.cell? ⟨bS, 0, none⟩ = some (.pointer (some ⟨bA, 0, none⟩)) := by rw [cell_of_heap h.hS]; rfl
theorem StgIs.c1 {w : World} {bS bA bC N : Nat} {s : Stg} (h : StgIs w bS bA bC N s) : w.cell? ⟨bS, 1, none⟩ = some (.bool s.begun) := by rw [cell_of_heap h.hS]; rfl
theorem StgIs.c2 {w : World} {bS bA bC N : Nat} {s : Stg} (h : StgIs w bS bA bC N s) : w.cell? ⟨bS, 2, none⟩ = some (.bool s.over) := by rw [cell_of_heap h.hS]; rfl
def SNewPost (bA bC N : Nat) (w : World) (e : Ending) (w' : World) : Prop :=
  ∃ bS, e = .returned (.tuple #[.pointer (some ⟨bS, 0, none⟩), .int .i64 0]) ∧ w.heap.size ≤ bS ∧ Chg [bA, bC] w w' ∧ StgIs w' bS bA bC N ⟨[], false, false⟩
theorem stgNew_any (bA bC N : Nat) (l : List Int) (w : World) (h : Ar.ArenaIs w bA bC N l) :
    Calls Tryz.prog 11 #[.pointer (some ⟨bA, 0, none⟩)] w (SNewPost bA bC N w) := by
  have HH := Lib.hid h
  clear h
  go_enter Tryz.func11, Tryz.ntmps11
  go_wp2_with fail
  refine (Ar.wipe_any bA bC N l w HH.out).mono ?_
  rintro e w2 ⟨rfl, C2, A2⟩
  have HE := Lib.hid (And.intro C2 A2)
  clear C2 A2
  go_wp2_with fail
  go_ret2
  have lA := heap_lt HE.out.2.hA
  have lC := heap_lt HE.out.2.hC
  exact ⟨w2.heap.size, rfl, HE.out.1.size, HE.out.1.alloc _, ⟨alloc_heap w2 _, HE.out.2.chg ((Chg.refl [] w2).alloc _) (by simp) (by simp), by omega, by omega, (by intro x hx; cases hx)⟩⟩
theorem start_any (bS bA bC N : Nat) (s : Stg) (w : World) (h : StgIs w bS bA bC N s) :
    Calls Tryz.prog 13 #[.pointer (some ⟨bS, 0, none⟩)] w fun e w' => (∃ v, e = .returned v) ∧ Chg [bS] w w' ∧ StgIs w' bS bA bC N { s with begun := true } := by
  obtain ⟨l, bg, ov⟩ := s
  have x1 := h.c1
  have f1 : w.frozen? ⟨bS, 1, none⟩ = false := free_of_heap h.hS 1
  have HH := Lib.hid h
  clear h
  cases bg with
  | true =>
    go_enter Tryz.func13, Tryz.ntmps13
    go_wp2_with fail
    go_ret
    exact ⟨⟨_, rfl⟩, Chg.refl _ _, HH.out⟩
  | false =>
    go_enter Tryz.func13, Tryz.ntmps13
    go_wp2_with fail
    go_ret
    have c : Chg [bS] w (w.setCell ⟨bS, 1, none⟩ (.bool true)) := (Chg.refl [bS] w).setCell (p := ⟨bS, 1, none⟩) (Or.inl List.mem_cons_self) _
    have nA := HH.out.nA
    have nC := HH.out.nC
    exact ⟨⟨_, rfl⟩, c, ⟨by rw [setCell_heap _ HH.out.hS]; rfl, HH.out.ar.chg c (by simp; omega) (by simp; omega), nA, nC, HH.out.by'⟩⟩
theorem begun_any (bS bA bC N : Nat) (s : Stg) (w : World) (h : StgIs w bS bA bC N s) :
    Calls Tryz.prog 15 #[.pointer (some ⟨bS, 0, none⟩)] w fun e w' => e = .returned (.bool s.begun) ∧ w = w' := by
  have x1 := h.c1
  generalize s.begun = b at *
  clear h
  go_enter Tryz.func15, Tryz.ntmps15
  go_wp2_with fail
  go_ret
  exact ⟨rfl, rfl⟩
set_option maxHeartbeats 4000000 in
theorem drop_any (bS bA bC N : Nat) (s : Stg) (w : World) (h : StgIs w bS bA bC N s) :
    CallsD Tryz.prog 43 #[.pointer (some ⟨bS, 0, none⟩)] .returning w fun e u' w' => u' = .returning ∧ (∃ v, e = .returned v) ∧ Chg [bS, bA, bC] w w' ∧ StgIs w' bS bA bC N ⟨[], false, false⟩ := by
  have x0 := h.c0
  have HH := Lib.hid h
  have hne : bS ∉ [bA, bC] := by have := h.nA; have := h.nC; simp; omega
  have HNE := Lib.hid hne
  clear h hne
  refine calledM Tryz.func43 rfl ?_
  simp only [Tryz.ntmps43, List.size_toArray, List.length_cons, List.length_nil, Nat.reduceAdd, Nat.reduceSub, Array.replicate_succ, Array.replicate_zero, List.push_toArray, List.append_toArray, List.nil_append, List.cons_append]
  go_wp2_with fail
  refine (Ar.wipe_any bA bC N s.l w HH.out.ar).mono ?_
  rintro e w2 ⟨rfl, C2, A2⟩
  have E2 := C2.heap HH.out.hS HNE.out
  have y1 : w2.cell? ⟨bS, 1, none⟩ = some (.bool s.begun) := by rw [cell_of_heap E2]; rfl
  have y2 : w2.cell? ⟨bS, 2, none⟩ = some (.bool s.over) := by rw [cell_of_heap E2]; rfl
  have f1 : w2.frozen? ⟨bS, 1, none⟩ = false := free_of_heap E2 1
  have f2 : w2.frozen? ⟨bS, 2, none⟩ = false := free_of_heap E2 2
  have HE := Lib.hid (And.intro C2 (And.intro A2 E2))
  clear C2 A2 E2
  go_wp2_with fail
  go_end0
  have c : Chg [bS] w2 ((w2.setCell ⟨bS, 1, none⟩ (.bool false)).setCell ⟨bS, 2, none⟩ (.bool false)) := ((Chg.refl [bS] w2).setCell (p := ⟨bS, 1, none⟩) (Or.inl List.mem_cons_self) _).setCell (p := ⟨bS, 2, none⟩) (Or.inl List.mem_cons_self) _
  have nA := HH.out.nA
  have nC := HH.out.nC
  have h1 : (w2.setCell ⟨bS, 1, none⟩ (.bool false)).heap[bS]? = some (.cells #[.pointer (some ⟨bA, 0, none⟩), .bool false, .bool s.over] 109 (0, 0)) := by rw [setCell_heap _ HE.out.2.2]; rfl
  exact ⟨⟨_, rfl⟩, HE.out.1.trans c (fun x hx => List.mem_cons_of_mem _ hx) (fun x hx _ => by rw [List.mem_singleton.1 hx]; exact List.mem_cons_self), ⟨by rw [setCell_heap _ h1]; rfl, HE.out.2.1.chg c (by simp; omega) (by simp; omega), nA, nC, (by intro x hx; cases hx)⟩⟩
end Go.Proofs.YtafmnkngjjnpiaaGreatDoor

namespace Go.Proofs.YtafmnkngjjnpiaaGreatDoor
set_option linter.unusedVariables false
set_option linter.unusedSimpArgs false
set_option maxRecDepth 100000
open Go.RowKit
def AddPost (bS bA bC N : Nat) (s : Stg) (w : World) (e : Ending) (w' : World) : Prop := (∃ v, e = .returned v) ∧ Chg [bS, bA, bC] w w' ∧ StgIs w' bS bA bC N s
theorem StgIs.setOver {w : World} {bS bA bC N : Nat} {s : Stg} (h : StgIs w bS bA bC N s) (b : Bool) : Chg [bS] w (w.setCell ⟨bS, 2, none⟩ (.bool b)) ∧ StgIs (w.setCell ⟨bS, 2, none⟩ (.bool b)) bS bA bC N { s with over := b } := by
  have c : Chg [bS] w (w.setCell ⟨bS, 2, none⟩ (.bool b)) := (Chg.refl [bS] w).setCell (p := ⟨bS, 2, none⟩) (Or.inl List.mem_cons_self) _
  have nA := h.nA
  have nC := h.nC
  exact ⟨c, ⟨by rw [setCell_heap _ h.hS]; rfl, h.ar.chg c (by simp; omega) (by simp; omega), nA, nC, h.by'⟩⟩
theorem clear_own {w : World} {base g n cap : Nat} {bs : List Int} (h : w.ownsRow base 5 1 (.slice (some ⟨g, 0, none⟩) n cap) n (valsOf .u8 bs)) : ∃ cur : Array Value, w.heap[g]? = some (.cells cur 5 (0, 0)) ∧ n ≤ cur.size := by
  obtain ⟨_, ⟨h0, _⟩ | ⟨g', cap', cur, e1, _, hg3, hn3, _, hsz, _⟩⟩ := h
  · cases h0
  · injection e1 with e1 _ e3
    injection e1 with e1
    injection e1 with e1 _ _
    subst e1 e3
    exact ⟨cur, hg3, by omega⟩
set_option maxHeartbeats 8000000 in
theorem add_any (bS bA bC N : Nat) (s : Stg) (c : Int) (w : World) (h : StgIs w bS bA bC N s) :
    Calls Tryz.prog 16 #[.pointer (some ⟨bS, 0, none⟩), .int .i64 c] w (AddPost bS bA bC N (addS N s c).2 w) := by
  obtain ⟨l, bg, ov⟩ := s
  have x0 := h.c0
  have x1 := h.c1
  have x2 := h.c2
  dsimp only at x1 x2
  have HH := Lib.hid h
  have lS := heap_lt h.hS
  have lA := heap_lt h.ar.hA
  have lC := heap_lt h.ar.hC
  have hne : bS ∉ [bA, bC] := by have := h.nA; have := h.nC; simp; omega
  have HL := Lib.hid (And.intro (And.intro lS (And.intro lA lC)) hne)
  clear h lS lA lC hne
  refine calls_of_wp_b Tryz.func16 rfl ?_
  simp only [Tryz.ntmps16, List.size_toArray, List.length_cons, List.length_nil, Nat.reduceAdd, Nat.reduceSub, Array.replicate_succ, Array.replicate_zero, List.push_toArray, List.append_toArray, List.nil_append, List.cons_append]
  cases bg with
  | false =>
    have hv : (addS N ⟨l, false, ov⟩ c).2 = ⟨l, false, ov⟩ := rfl
    rw [hv]
    go_wp2_with fail
    exact leave_none (by simp [results, Tryz.results16, go_sem] <;> rfl) ⟨⟨_, rfl⟩, Chg.refl _ _, HH.out⟩
  | true =>
    rcases hs : shownU c with _ | _
    · have hv : (addS N ⟨l, true, ov⟩ c).2 = ⟨l, true, ov⟩ := by unfold addS; rw [if_neg (by simp), if_pos hs]
      rw [hv]
      go_wp2_with fail
      refine (printable_any c _).mono ?_
      rintro e w2 ⟨rfl, C2⟩
      rw [hs]
      go_wp2_with fail
      exact leave_none (by simp [results, Tryz.results16, go_sem] <;> rfl) ⟨⟨_, rfl⟩, C2.mono (by simp), HH.out.chg0 C2⟩
    · have ho := shown_ok hs
      cases ov with
      | true =>
        have hv : (addS N ⟨l, true, true⟩ c).2 = ⟨l, true, true⟩ := by unfold addS; rw [if_neg (by simp), if_neg (by rw [hs]; decide), if_pos rfl]
        rw [hv]
        have HP := Lib.hid (printable_any c w)
        rw [hs] at HP
        clear hv hs ho
        go_wp2_with fail
        refine (HP.out).mono ?_
        rintro e w2 ⟨rfl, C2⟩
        have y2 := C2.cell x2 (by simp)
        have HC2 := Lib.hid C2
        clear C2
        go_wp2_with fail
        exact leave_none (by simp [results, Tryz.results16, go_sem] <;> rfl) ⟨⟨_, rfl⟩, HC2.out.mono (by simp), HH.out.chg0 HC2.out⟩
      | false =>
        have HP := Lib.hid (printable_any c w)
        rw [hs] at HP
        have HO := Lib.hid ho
        have HS := Lib.hid hs
        obtain ⟨R, hR⟩ : ∃ R, R = (addS N ⟨l, true, false⟩ c).2 := ⟨_, rfl⟩
        rw [← hR]
        have HR := Lib.hid hR
        clear hs ho hR
        go_wp2_with fail
        refine (HP.out).mono ?_
        rintro e w2 ⟨rfl, C2⟩
        have y2 := C2.cell x2 (by simp)
        have HC2 := Lib.hid C2
        clear C2
        go_wp2_with fail
        refine (put_ok c w2 HO.out).mono ?_
        rintro e w3 ⟨g, cap, rfl, O3, C3⟩
        have hg : w2.heap.size ≤ g ∧ g < w3.heap.size := O3.lt g rfl
        have HC3 := Lib.hid (HC2.out.trans C3 (U := []) (by simp) (by simp))
        have hgw : w.heap.size ≤ g := by have := HC2.out.size; omega
        have HLN := Lib.hid (fun W (C : Chg [] w3 W) => Ar.len_any bA bC N l W (HH.out.chg0 (HC3.out.trans C (U := []) (by simp) (by simp))).ar)
        have z0 := HC3.out.cell x0 (by simp)
        have HO3 := Lib.hid O3
        have hm4 := HH.out.ar.most
        have hml := HH.out.ar.le
        dsimp only at hml
        have hu4 := (putU_pos HO.out).2
        have hS : Ar.SrcIs w3 (some ⟨g, 0, none⟩) (putU c).length (putU c) [bA, bC] := ⟨rfl, fun _ => ⟨⟨g, 0, none⟩, rfl, by have := HL.out.1; simp; omega, fun j v hv => O3.cells (g := g) rfl j v hv⟩⟩
        have HSI := Lib.hid hS
        clear C3 O3 hg y2 hS
        by_cases hroom : N - l.length < (putU c).length
        · have hv : R = ⟨l, true, true⟩ := by
            rw [HR.out]; unfold addS
            rw [if_neg (by simp), if_neg (by rw [HS.out]; decide), if_neg (by simp), if_pos hroom]
          subst hv
          have HIN := Lib.hid (fun W (C : Chg [] w3 W) => Ar.insert_full bA bC N l (l.length : Nat) (some ⟨g, 0, none⟩) (putU c).length cap W (HH.out.chg0 (HC3.out.trans C (U := []) (by simp) (by simp))).ar (by omega) (by omega) hroom)
          generalize hun : (putU c).length = un at *
          have HUN := Lib.hid hun
          clear hun
          go_wp2_with fail
          go_region_held3 (fun w' => w'.cell? ⟨bS, 0, none⟩ = some (.pointer (some ⟨bA, 0, none⟩))) (first | exact C4.cell z0 (by first | exact HL.out.2 | simp) | go_keep)
            (first
              | (go_at_call 41; refine Calls.mono (HLN.out _ (by first | exact (Chg.refl [] w3).drew | exact Chg.refl [] w3)) ?_; rintro e w2 ⟨rfl, rfl⟩)
              | (go_at_call 40; refine Calls.mono (HIN.out _ (by first | exact (Chg.refl [] w3).drew | exact Chg.refl [] w3)) ?_; rintro e w4 ⟨rfl, C4'⟩; have C4 : Chg [] w3 w4 := C4'.of_drew))
          all_goals (
            have S4 : StgIs w4 bS bA bC N ⟨l, true, false⟩ := HH.out.chg0 (HC3.out.trans C4 (U := []) (by simp) (by simp))
            have O4 := Lib.hid (clear_own HO3.out)
            have y2 := S4.c2
            have f2 : w4.frozen? ⟨bS, 2, none⟩ = false := free_of_heap S4.hS 2
            have HE := Lib.hid (And.intro C4 S4)
            clear S4 C4 C4' z0
            go_wp2_with fail
            obtain ⟨cur, hcu, hsz⟩ := O4.out
            obtain ⟨k5, S5⟩ := HE.out.2.setOver true
            have hl := HL.out.1
            have hcu5 := k5.heap (HE.out.1.heap hcu (by first | (simp; done) | (simp; omega))) (by simp; omega)
            obtain ⟨w6, r6, C6⟩ := clear_arr (n := un) (c := cap) hcu5 hsz 0
            refine ⟨.tuple #[], w6, ⟨_, _, _, _, rfl⟩, by simp [invoke, builtin, r6, Result.andThen], leave_none (by simp [results, Tryz.results16, go_sem] <;> rfl) ⟨⟨_, rfl⟩, ?_, S5.chg C6 (by simp; omega) (by simp; omega) (by simp; omega)⟩⟩
            exact (((HC3.out.mono (T := [bS, bA, bC]) (by simp)).trans HE.out.1 (fun x hx => hx) (fun x hx _ => by simp at hx ⊢; try omega)).trans k5 (fun x hx => hx) (fun x hx _ => by rw [List.mem_singleton.1 hx]; exact List.mem_cons_self)).trans C6 (fun x hx => hx) (fun x hx hl2 => by have := List.mem_singleton.1 hx; omega))
        · have hv : R = ⟨l ++ putU c, true, false⟩ := by
            rw [HR.out]; unfold addS
            rw [if_neg (by simp), if_neg (by rw [HS.out]; decide), if_neg (by simp), if_neg hroom]
          subst hv
          have HIN := Lib.hid (fun W (C : Chg [] w3 W) => Ar.insert_ok bA bC N l l.length (some ⟨g, 0, none⟩) (putU c).length cap (putU c) W (HH.out.chg0 (HC3.out.trans C (U := []) (by simp) (by simp))).ar (HSI.out.chg C (by simp)) (Nat.le_refl _) (by omega))
          generalize hun : (putU c).length = un at *
          have HUN := Lib.hid hun
          clear hun
          go_wp2_with fail
          go_region_held3 (fun w' => w'.cell? ⟨bS, 0, none⟩ = some (.pointer (some ⟨bA, 0, none⟩))) (first | exact C4.cell z0 (by first | exact HL.out.2 | simp) | go_keep)
            (first
              | (go_at_call 41; refine Calls.mono (HLN.out _ (by first | exact (Chg.refl [] w3).drew | exact Chg.refl [] w3)) ?_; rintro e w2 ⟨rfl, rfl⟩)
              | (go_at_call 40; refine Calls.mono (HIN.out _ (by first | exact (Chg.refl [] w3).drew | exact Chg.refl [] w3)) ?_; rintro e w4 ⟨rfl, C4', A4⟩; have C4 : Chg [bA, bC] w3 w4 := C4'.of_drew))
          all_goals (
            have S4 : StgIs w4 bS bA bC N ⟨l ++ putU c, true, false⟩ := ⟨C4.heap (HC3.out.heap HH.out.hS (by simp)) HL.out.2, by simpa using A4, HH.out.nA, HH.out.nC, HH.out.by'.append (putU_by c)⟩
            have O4 := Lib.hid (clear_own HO3.out)
            have y2 := S4.c2
            have f2 : w4.frozen? ⟨bS, 2, none⟩ = false := free_of_heap S4.hS 2
            have HE := Lib.hid (And.intro C4 S4)
            clear S4 C4 C4' z0
            go_wp2_with fail
            obtain ⟨cur, hcu, hsz⟩ := O4.out
            obtain ⟨k5, S5⟩ := HE.out.2.setOver false
            have hl := HL.out.1
            have hcu5 := k5.heap (HE.out.1.heap hcu (by first | (simp; done) | (simp; omega))) (by simp; omega)
            obtain ⟨w6, r6, C6⟩ := clear_arr (n := un) (c := cap) hcu5 hsz 0
            refine ⟨.tuple #[], w6, ⟨_, _, _, _, rfl⟩, by simp [invoke, builtin, r6, Result.andThen], leave_none (by simp [results, Tryz.results16, go_sem] <;> rfl) ⟨⟨_, rfl⟩, ?_, S5.chg C6 (by simp; omega) (by simp; omega) (by simp; omega)⟩⟩
            exact (((HC3.out.mono (T := [bS, bA, bC]) (by simp)).trans HE.out.1 (fun x hx => hx) (fun x hx _ => by simp at hx ⊢; try omega)).trans k5 (fun x hx => hx) (fun x hx _ => by rw [List.mem_singleton.1 hx]; exact List.mem_cons_self)).trans C6 (fun x hx => hx) (fun x hx hl2 => by have := List.mem_singleton.1 hx; omega))
end Go.Proofs.YtafmnkngjjnpiaaGreatDoor

namespace Go.Proofs.YtafmnkngjjnpiaaGreatDoor
set_option linter.unusedVariables false
set_option linter.unusedSimpArgs false
set_option maxRecDepth 100000
open Go.RowKit
theorem zeros4096 : Tryz.zeroCells113 = (List.replicate 4096 (Value.int .u8 0)).toArray := by kernel_rfl
theorem leavesM_clear {fn : Func} {tmps : Array Value} {R : Ending → World → Prop} {ds : List Deferred} {w : World} {g n c : Nat} {t : TypeId} {cur : Array Value} (hg : w.heap[g]? = some (.cells cur t (0, 0))) (hn : n ≤ cur.size)
    (hl : ∀ w', Chg [g] w w' → LeavesM Tryz.prog fn tmps R ds w') : LeavesM Tryz.prog fn tmps R ({ target := .builtin .clear #[22] 0 #[false], args := #[.slice (some ⟨g, 0, none⟩) n c] } :: ds) w := by
  obtain ⟨w5, r5, C5⟩ := clear_arr (c := c) hg hn 0
  exact LeavesM.built (v := .tuple #[]) (w' := w5) ⟨_, _, _, _, rfl⟩ (by simp [invoke, builtin, r5, Result.andThen]) (hl w5 C5)
def EndPost (bS bA bC N bE bB bD M : Nat) (R : Int × Stg × Bf) (w : World) (e : Ending) (w' : World) : Prop :=
  e = .returned (.int .i64 R.1) ∧ Chg [bS, bA, bC, bE, bB, bD] w w' ∧ StgIs w' bS bA bC N R.2.1 ∧ BufIs w' bE bB bD M R.2.2
theorem drop_runs (bS : Nat) (w : World) : (invoke (.fn (Fn.func 43) #[]) #[.pointer (some ⟨bS, 0, none⟩)]).run Tryz.prog w = .ok (.enter 43 #[.pointer (some ⟨bS, 0, none⟩)]) w := by kernel_rfl
set_option maxHeartbeats 16000000 in
theorem end_any (bS bA bC N bE bB bD M : Nat) (s : Stg) (b : Bf) (w : World) (h : StgIs w bS bA bC N s) (k : BufIs w bE bB bD M b) (hT : Lib.Utf8Tabs 1 2 w) (h2 : 2 < w.heap.size) (hd : ∀ x ∈ [bS, bA, bC], x ∉ [bE, bB, bD]) :
    Calls Tryz.prog 14 #[.pointer (some ⟨bS, 0, none⟩), .pointer (some ⟨bE, 0, none⟩)] w (EndPost bS bA bC N bE bB bD M (endS M s b) w) := by
  obtain ⟨l, bg, ov⟩ := s
  have x0 := h.c0
  have x1 := h.c1
  have x2 := h.c2
  dsimp only at x1 x2
  have HH := Lib.hid h
  have HB := Lib.hid k
  have hS := heap_lt h.hS
  have hA := heap_lt h.ar.hA
  have hC := heap_lt h.ar.hC
  have hE := heap_lt k.hE
  have hB := heap_lt k.ar.hA
  have hD := heap_lt k.ar.hC
  have HL := Lib.hid (And.intro (And.intro hS (And.intro hA hC)) (And.intro (And.intro hE (And.intro hB hD)) hd))
  have HT := Lib.hid hT
  have HSZ := Lib.hid h2
  have s1 := hd bS (by simp)
  have s2 := hd bA (by simp)
  have s3 := hd bC (by simp)
  simp only [List.mem_cons, List.not_mem_nil, or_false, not_or] at s1 s2 s3
  have HD := Lib.hid (And.intro s1 (And.intro s2 s3))
  clear h k hS hA hC hE hB hD hd hT h2 s1 s2 s3
  refine calls_of_wp_m Tryz.func14 rfl ?_
  simp only [Tryz.ntmps14, List.size_toArray, List.length_cons, List.length_nil, Nat.reduceAdd, Nat.reduceSub, Array.replicate_succ, Array.replicate_zero, List.push_toArray, List.append_toArray, List.nil_append, List.cons_append]
  cases bg with
  | false =>
    have hv : endS M ⟨l, false, ov⟩ b = (11, ⟨l, false, ov⟩, b) := rfl
    rw [hv]
    go_wp2_with fail
    exact LeavesM.none (by simp [results, Tryz.results14, go_sem] <;> rfl) ⟨rfl, Chg.refl _ _, HH.out, HB.out⟩
  | true =>
    cases ov with
    | true =>
      have hv : endS M ⟨l, true, true⟩ b = (4, ⟨[], false, false⟩, b) := rfl
      rw [hv]
      go_wp2_with fail
      refine LeavesM.fn (drop_runs bS w) (drop_any bS bA bC N _ w HH.out) (fun w2 ⟨C2, S2⟩ => LeavesM.none (by simp [results, Tryz.results14, go_sem] <;> rfl) ⟨rfl, C2.mono (by simp), S2, HB.out.chg C2 ?_ ?_ ?_⟩)
      all_goals (have := HD.out; simp; omega)
    | false =>
      have hv : endS M ⟨l, true, false⟩ b = ((insertB M b l).1, ⟨[], false, false⟩, (insertB M b l).2) := rfl
      rw [hv]
      have Z := zeros4096
      have C1 : Chg [] w (w.alloc (.cells Tryz.zeroCells113 113)) := (Chg.refl _ _).alloc _
      have X1 : ∃ Zs : List Value, (w.alloc (.cells Tryz.zeroCells113 113)).heap[w.heap.size]? = some (.cells Zs.toArray 113 (0, 0)) ∧ Zs.length = 4096 := ⟨List.replicate 4096 (Value.int .u8 0), by rw [alloc_heap, Z], by rw [List.length_replicate]⟩
      obtain ⟨Zs, X1, hZs⟩ := X1
      have HZL := Lib.hid hZs
      have HZ := Lib.hid (And.intro C1 X1)
      generalize hR : insertB M b l = R
      obtain ⟨er, b2⟩ := R
      have HR := Lib.hid hR
      clear hv Z C1 X1 hR hZs
      go_wp2_with fail
      generalize hw2 : World.alloc w _ = w2 at *
      have lt5 : w.heap.size < w2.heap.size := heap_lt HZ.out.2
      have S2 := HH.out.chg0 HZ.out.1
      have n4 : ((min l.length 4096 : Nat) : Int) ≤ 4096 := by omega
      have hmin : min l.length 4096 = l.length := by have := HH.out.ar.le; have := HH.out.ar.most; dsimp only at *; omega
      have HMIN := Lib.hid hmin
      have HCP : Hid (∀ W, Chg [] w2 W → Calls Tryz.prog 45 #[.pointer (some ⟨bA, 0, none⟩), .slice (some ⟨w.heap.size, 0, none⟩) 4096 4096] W fun e w' => e = .returned (.int .i64 (min l.length 4096 : Nat)) ∧ Chg [w.heap.size] W w' ∧ w'.heap[w.heap.size]? = some (.cells (splice Zs 0 ((l.take 4096).map (Value.int .u8))).toArray 113 (0, 0))) :=
        Lib.hid (fun W C => Ar.copy_any bA bC N l w.heap.size 0 4096 4096 Zs 113 W (S2.chg0 C).ar (C.heap HZ.out.2 (by simp)) (by have := HZL.out; omega))
      generalize min l.length 4096 = n at *
      have x0' : w2.cell? ⟨bS, 0, none⟩ = some (.pointer (some ⟨bA, 0, none⟩)) := S2.c0
      have hne : bS ∉ [w.heap.size] := by have := HL.out.1.1; simp; omega
      have HNE := Lib.hid hne
      have HS2 := Lib.hid S2
      have HIN : Hid (∀ W, Chg [w.heap.size] w2 W → W.heap[w.heap.size]? = some (.cells (splice Zs 0 ((l.take 4096).map (Value.int .u8))).toArray 113 (0, 0)) → Calls Tryz.prog 44 #[.pointer (some ⟨bE, 0, none⟩), .slice (some ⟨w.heap.size, 0, none⟩) n 4096] W (LayPost bE bB bD M (er, b2) W)) := by
        refine Lib.hid (fun W C H => ?_)
        rw [← HR.out]
        have hl := HL.out
        have hn : n = l.length := HMIN.out
        have ht4 : l.take 4096 = l := List.take_of_length_le (by omega)
        rw [ht4] at H
        refine insert_buf bE bB bD M b _ n 4096 l W ((HB.out.chg0 HZ.out.1).chg C ?_ ?_ ?_) (Utf8Tabs.chg (Utf8Tabs.chg0 HT.out HZ.out.1) C ?_ ?_) HH.out.by' ⟨?_, fun e => (by cases e), fun ad e j u hu => ?_⟩ ?_ ?_ ?_
        · simp; omega
        · simp; omega
        · simp; omega
        · simp; have := HSZ.out; omega
        · simp; have := HSZ.out; omega
        · rw [valsOf_length]; omega
        · injection e with e
          subst e
          rw [Addr.add_lit, Nat.zero_add, cell_of_heap H]
          have := splice_hd Zs (l.map (Value.int .u8)) j u hu
          simpa using this
        · intro ad e; injection e with e; subst e; simp; omega
        · omega
        · omega
      clear hmin S2 hne lt5 x0 x1 x2
      go_region_held3 (fun w' => w'.cell? ⟨bS, 0, none⟩ = some (.pointer (some ⟨bA, 0, none⟩))) (first | exact C4.cell (C3.cell x0' HNE.out) (HL.out.2.2 bS (by simp)) | exact C3.cell x0' HNE.out | go_keep)
        (first
         | (go_at_call 45; refine (HCP.out _ (by first | exact Chg.refl [] w2 | exact (Chg.refl [] w2).drew | exact (Chg.refl [] w2).drewN _)).mono ?_; rintro e w3 ⟨rfl, C3', H3⟩; have C3 : Chg [w.heap.size] w2 w3 := (by first | exact C3' | exact C3'.of_drew | exact C3'.of_drewN))
         | (go_at_call 44; refine (HIN.out _ (by first | exact C3 | exact C3.drew | exact C3.drewN _) (by first | exact H3)).mono ?_; rintro e w4 ⟨rfl, C4', B4⟩; have C4 : Chg [bE, bB, bD] w3 w4 := (by first | exact C4' | exact C4'.of_drew | exact C4'.of_drewN)))
      have HN := heap_lt H3
      have hsz : 4096 ≤ (splice Zs 0 ((l.take 4096).map (Value.int .u8))).toArray.size := by
        have := HZL.out; unfold splice; simp; omega
      have k3 : w.heap.size ∉ [bE, bB, bD] := by have := HL.out.2.1; simp; omega
      have S4 : StgIs w4 bS bA bC N ⟨l, true, false⟩ := by
        have hl := HL.out
        have hd := HD.out
        refine (HS2.out.chg C3 ?_ ?_ ?_).chg C4 ?_ ?_ ?_
        all_goals (simp; omega)
      have HE := Lib.hid (And.intro (And.intro (HZ.out.1.trans C3 (U := []) (by simp) (fun x hx hl => by have := List.mem_singleton.1 hx; omega)) C4) (And.intro (C4.heap H3 k3) (And.intro hsz (And.intro S4 B4))))
      clear C3 C3' C4 C4' H3 B4 hsz k3 HN x0' hw2 S4
      go_wp2_with fail
      have hl := HL.out
      have hd := HD.out
      refine leavesM_clear HE.out.2.1 HE.out.2.2.1 (fun w5 C5 => ?_)
      refine LeavesM.fn (drop_runs bS w5) (drop_any bS bA bC N _ w5 (HE.out.2.2.2.1.chg C5 ?_ ?_ ?_)) (fun w6 ⟨C6, S6⟩ => LeavesM.none (by simp [results, Tryz.results14, go_sem] <;> rfl) ⟨rfl, (((HE.out.1.1.trans HE.out.1.2 (U := [bS, bA, bC, bE, bB, bD]) (by simp) (fun x hx _ => by simp at hx ⊢; omega)).trans C5 (U := [bS, bA, bC, bE, bB, bD]) (fun x hx => hx) (fun x hx hl => by have := List.mem_singleton.1 hx; omega)).trans C6 (U := [bS, bA, bC, bE, bB, bD]) (fun x hx => hx) (fun x hx _ => by simp at hx ⊢; omega)), S6, (HE.out.2.2.2.2.chg C5 ?_ ?_ ?_).chg C6 ?_ ?_ ?_⟩)
      all_goals (try (simp; omega))
end Go.Proofs.YtafmnkngjjnpiaaGreatDoor
