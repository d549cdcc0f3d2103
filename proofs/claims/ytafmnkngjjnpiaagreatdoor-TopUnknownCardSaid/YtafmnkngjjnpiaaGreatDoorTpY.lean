import Derived.Test.YtafmnkngjjnpiaaGreatDoorTpX
import Derived.Test.YtafmnkngjjnpiaaGreatDoorRowO
import Derived.WalkMore
import Derived.Deep.RegionHeld3
import Derived.Deep.LoopGhost
namespace Go.Proofs.YtafmnkngjjnpiaaGreatDoor
set_option linter.unusedVariables false
set_option linter.unusedSimpArgs false
set_option maxRecDepth 100000
open Go.RowKit
theorem nextE_pos {l : List Int} (h : l.length ≠ 0) (he : (nextE l).2.2 = 0) : 1 ≤ (nextE l).2.1 := by
  unfold nextE at he ⊢
  rw [if_neg h] at he ⊢
  split
  · rename_i h1; rw [if_pos h1] at he; cases he
  · rename_i h1
    rw [if_neg h1] at he
    split
    · exact Nat.le_refl _
    · rename_i h2
      rw [if_neg h2] at he
      have : ∀ f i o, 1 ≤ i → 1 ≤ (escLoop l f i o).2.1 ∨ (escLoop l f i o).2.2 ≠ 0 := by
        intro f
        induction f with
        | zero => intro i o hi; exact .inr (by rw [escLoop]; simp)
        | succ f ih =>
          intro i o hi
          rw [escLoop]
          repeat' split
          all_goals (first | exact ih _ _ (by omega) | exact .inl (by dsimp only; omega) | exact .inr (by simp))
      exact (this _ _ _ (by omega)).resolve_right (by rw [he]; decide)
theorem decU_pos (l : List Int) (h : l.length ≠ 0) : 1 ≤ (decU l).2 := by
  unfold decU Lib.decodeN
  rw [if_neg h]
  repeat' split
  all_goals (dsimp only; omega)
theorem nextU_pos {l : List Int} (h : l.length ≠ 0) (he : (nextU l).2.2 ≠ 7) : 1 ≤ (nextU l).2.1 := by
  unfold nextU at he ⊢
  rw [if_neg h] at he ⊢
  split
  · exact decU_pos l h
  · rename_i h1
    rw [if_neg h1] at he
    split
    · rename_i h2; rw [if_pos h2] at he; exact absurd rfl he
    · exact (growU_le l _ 1 (by omega)).1
theorem nextD_lt {d d' : Dc} {k : Ky} (h : nextD d = some (k, d')) : d'.h.length < d.h.length := by
  unfold nextD at h
  split at h
  · cases h
  · rename_i h0
    have hl : (d.h.take 36).length ≠ 0 := by rw [List.length_take]; omega
    split at h
    · split at h
      · cases h
      · rename_i h1 h2
        have := nextE_pos hl (by simpa using h2)
        injection h with h
        injection h with _ h
        subst h
        dsimp only
        rw [List.length_drop]
        omega
    · split at h
      · cases h
      · rename_i h1 h2
        have := nextU_pos hl h2
        injection h with h
        injection h with _ h
        subst h
        dsimp only
        rw [List.length_drop]
        omega
def kyCells (ks : List Ky) : List Value := ks.flatMap fun k => [.int .i64 k.kind, .int .i64 k.c]
theorem kyCells_snoc (ks : List Ky) (k : Ky) : kyCells (ks ++ [k]) = kyCells ks ++ [.int .i64 k.kind, .int .i64 k.c] := by unfold kyCells; rw [List.flatMap_append]; rfl
theorem infoKey : (Tryz.prog.info? 48).map (fun i => (i.zero, i.size, i.bytes)) = some (some (.agg #[.int .i64 0, .int .i64 0]), 2, 16) := by kernel_rfl
def FeedPost (bD bA bC N : Nat) (ks : List Ky) (d' : Dc) (er : Int) (w : World) (e : Ending) (w' : World) : Prop :=
  ∃ v, e = .returned (.tuple #[v, .int .i64 er]) ∧ HasRow w' 48 2 v ks.length (kyCells ks) ∧ (∀ k, v.ownBlock = some k → w.heap.size ≤ k) ∧ Chg [bD, bA, bC] w w' ∧ DecIs w' bD bA bC N d'
set_option maxHeartbeats 8000000 in
theorem feed_full (bD bA bC N : Nat) (d : Dc) (w : World) (h : DecIs w bD bA bC N d) (ao : Option Addr) (cp : Nat) (c : Int) (hs : SrcAt w ao 1 cp (valsOf .u8 [c])) (hf : N ≤ d.h.length) :
    Calls Tryz.prog 12 #[.pointer (some ⟨bD, 0, none⟩), .slice ao 1 cp] w (FeedPost bD bA bC N [] d 4 w) := by
  obtain ⟨g, off, rfl, c0⟩ := hs.int (j := 0) (by omega)
  rw [Nat.add_zero] at c0
  replace c0 : w.cell? ⟨g, off, none⟩ = some (.int .u8 c) := c0
  have x0 : w.cell? ⟨bD, 0, none⟩ = some (.pointer (some ⟨bA, 0, none⟩)) := by rw [cell_of_heap h.hD]; rfl
  have HH := Lib.hid h
  have HLN := Lib.hid (fun (W : World) (C : Chg [] w W) => Ar.len_any bA bC N d.h W (h.chg0 C).ar)
  have HIN := Lib.hid (fun (W : World) (C : Chg [] w W) (ao : Option Addr) => Ar.insert_full bA bC N d.h (d.h.length : Nat) ao 1 1 W (h.chg0 C).ar (by omega) (by omega) (by omega))
  clear h hs
  go_enter Tryz.func12, Tryz.ntmps12
  go_wp2_with fail
  go_step3
  go_wp2_with fail
  go_step3
  go_wp2_with fail
  refine wp_loop_rounds 2 ?_
  rw [rounds_succ]
  go_wp2_with fail
  go_region_held3 (fun w' => w'.cell? ⟨bD, 0, none⟩ = some (.pointer (some ⟨bA, 0, none⟩))) (first | exact C3.cell x0 (by simp) | go_keep)
    (first
      | (go_at_call 41; refine Calls.mono (HLN.out _ (by first | exact (Chg.refl [] w).drew | exact ((Chg.refl [] w).alloc _).drew | exact Chg.refl [] w)) ?_; rintro e w2 ⟨rfl, rfl⟩)
      | (go_at_call 40; refine Calls.mono (HIN.out _ (((Chg.refl [] w).alloc _).drew) _) ?_; rintro e w3 ⟨rfl, C3'⟩; have C3 : Chg [] w w3 := (((Chg.refl [] w).alloc _).drew).trans C3' (by simp) (by simp)))
  all_goals (
    clear x0 c0
    go_wp2_with fail
    rw [Exit.noGoto_ret]
    go_ret2
    exact ⟨.slice none 0 0, rfl, HasRow.nil _ _ _, (fun k hk => by cases hk), C3.mono (by simp), HH.out.chg0 C3⟩)
def lenAt (w : World) (bA : Nat) : Nat := match w.cell? ⟨bA, 1, none⟩ with | some (.int _ n) => n.toNat | _ => 0
theorem lenAt_eq {w : World} {bA bC N : Nat} {l : List Int} (h : Ar.ArenaIs w bA bC N l) : lenAt w bA = l.length := by unfold lenAt; rw [h.cell1]; simp
theorem drainD_none {d : Dc} (h : nextD d = none) (f : Nat) : drainD f d = ([], d) := by
  cases f with
  | zero => rfl
  | succ f => rw [drainD, h]
theorem drainD_some {d d' : Dc} {k : Ky} (h : nextD d = some (k, d')) (f : Nat) : drainD (f + 1) d = (k :: (drainD f d').1, (drainD f d').2) := by rw [drainD, h]
set_option maxHeartbeats 16000000 in
theorem feed_one (bD bA bC N : Nat) (d : Dc) (w : World) (h : DecIs w bD bA bC N d) (hT : Lib.Utf8Tabs 1 2 w) (hg : 2 < bD ∧ 2 < bA ∧ 2 < bC) (ao : Option Addr) (cp : Nat) (c : Int) (hc : 0 ≤ c ∧ c < 256) (hs : SrcAt w ao 1 cp (valsOf .u8 [c])) (hf : d.h.length < N) :
    Calls Tryz.prog 12 #[.pointer (some ⟨bD, 0, none⟩), .slice ao 1 cp] w (FeedPost bD bA bC N (feedD N d c).1 (feedD N d c).2 0 w) := by
  obtain ⟨g, off, rfl, c0⟩ := hs.int (j := 0) (by omega)
  rw [Nat.add_zero] at c0
  replace c0 : w.cell? ⟨g, off, none⟩ = some (.int .u8 c) := c0
  have hfd : feedD N d c = drainD (d.h.length + 1 + 1) ⟨d.h ++ [c], d.p⟩ ∨ True := .inr trivial
  have x0 : w.cell? ⟨bD, 0, none⟩ = some (.pointer (some ⟨bA, 0, none⟩)) := by rw [cell_of_heap h.hD]; rfl
  have hm4 := h.ar.most
  have HH := Lib.hid h
  have HT := Lib.hid hT
  have HLN := Lib.hid (fun (W : World) (C : Chg [] w W) => Ar.len_any bA bC N d.h W (h.chg0 C).ar)
  have HIN := Lib.hid (fun (W : World) (C : Chg [] w W) (S : W.cell? ⟨w.heap.size, 0, none⟩ = some (.int .u8 c)) => Ar.insert_ok bA bC N d.h d.h.length (some ⟨w.heap.size, 0, none⟩) 1 1 [c] W (h.chg0 C).ar ⟨rfl, fun _ => ⟨⟨w.heap.size, 0, none⟩, rfl, by have := heap_lt h.ar.hA; have := heap_lt h.ar.hC; simp; omega, fun j v hv => by
    cases j with
    | zero => injection hv with hv; subst hv; exact S
    | succ j => cases hv⟩⟩ (Nat.le_refl _) (by omega))
  obtain ⟨i0, hi, hz0, hz1, hz2⟩ := info_parts infoKey
  obtain ⟨KS, DF, hKD⟩ : ∃ KS DF, feedD N d c = (KS, DF) := ⟨_, _, rfl⟩
  have hKD2 : drainD (d.h.length + 1) ⟨d.h ++ [c], d.p⟩ = (KS, DF) := by rw [← hKD]; unfold feedD; rw [if_neg (by omega)]
  rw [hKD]
  have HKD := Lib.hid hKD2
  have HBY := Lib.hid hc
  clear h hs hT hKD hKD2 hfd hc
  go_enter Tryz.func12, Tryz.ntmps12
  go_wp2_with fail
  go_step3
  go_wp2_with fail
  go_step3
  go_wp2_with fail
  refine wp_loop_rounds 2 ?_
  rw [rounds_succ]
  go_wp2_with fail
  have hne : bD ∉ [bA, bC] := by have := HH.out.nA; have := HH.out.nC; simp; omega
  have HNE := Lib.hid hne
  clear hne
  go_region_held3 (fun w' => w'.cell? ⟨bD, 0, none⟩ = some (.pointer (some ⟨bA, 0, none⟩))) (first | exact C3.cell x0 HNE.out | go_keep)
    (first
      | (go_at_call 41; refine Calls.mono (HLN.out _ (by first | exact (Chg.refl [] w).drew | exact ((Chg.refl [] w).alloc _).drew | exact Chg.refl [] w)) ?_; rintro e w2 ⟨rfl, rfl⟩)
      | (go_at_call 40; refine Calls.mono (HIN.out _ (((Chg.refl [] w).alloc _).drew) (by show (w.alloc _).cell? _ = _; rw [cell_of_heap (alloc_heap w _)]; rfl)) ?_; rintro e w3 ⟨rfl, C3', A3⟩; have C3 : Chg [bA, bC] w w3 := (((Chg.refl [] w).alloc _).drew).trans C3' (by simp) (fun x hx _ => hx)))
  all_goals (
    have hD3 : DecIs w3 bD bA bC N ⟨d.h ++ [c], d.p⟩ := ⟨C3.heap HH.out.hD HNE.out, by simpa using A3, HH.out.nA, HH.out.nC, HH.out.by'.append (fun x hx => by rw [List.mem_singleton.1 hx]; exact HBY.out)⟩
    have HE3 := Lib.hid (And.intro (C3.mono (T := [bD, bA, bC]) (fun x hx => List.mem_cons_of_mem _ hx)) hD3)
    clear hD3 C3 C3' A3 x0 c0 HLN HIN
    go_wp2_with fail
    go_loopw [6] (fun v wr => ∃ (ks : List Ky) (d1 : Dc) (f : Nat), HasRow wr 48 2 v ks.length (kyCells ks) ∧ (∀ k, v.ownBlock = some k → w.heap.size ≤ k) ∧ Chg [bD, bA, bC] w wr ∧ DecIs wr bD bA bC N d1 ∧ (ks ++ (drainD f d1).1, (drainD f d1).2) = (KS, DF) ∧ d1.h.length ≤ f ∧ ks.length + d1.h.length ≤ 5000) (fun _ wr => lenAt wr bA)
    case atStart => exact ⟨[], _, d.h.length + 1, HasRow.nil _ _ _, (fun k hk => by cases hk), HE3.out.1, HE3.out.2, HKD.out, by simp, by simp; omega⟩
    case round =>
      obtain ⟨ks, d1, f, hr, ho, hC, hD, hk, hf1, hk5⟩ := hrel
      obtain ⟨ao6, cp6, rfl, _, _, _⟩ := hr.slice
      have hN := next_dec bD bA bC N d1 wr hD (Utf8Tabs.chg HT.out hC (by simp; omega) (by simp; omega))
      have HN := Lib.hid hN
      have HR := Lib.hid hr
      have HI := Lib.hid (And.intro ho (And.intro hC (And.intro hD hk)))
      clear hr ho hC hD hk hN HE3
      go_wp2_with fail
      refine (HN.out).mono ?_
      rintro e w4 hN
      rcases hN with ⟨hnone, a, b, rfl, C4⟩ | ⟨k, d2, hsome, rfl, C4, D4⟩
      · have hk := HI.out.2.2.2
        rw [drainD_none hnone f, List.append_nil] at hk
        injection hk with hk1 hk2
        subst hk1 hk2
        have HZ := Lib.hid (C4.alloc (.cells #[.int .i64 a, .int .i64 b] 48))
        clear C4 hnone
        go_wp2_with fail
        rw [rounds_succ]
        go_wp2_with fail
        rw [Exit.noGoto_ret]
        go_ret2
        exact ⟨_, rfl, HR.out.chg HZ.out (by simp), HI.out.1, HI.out.2.1.trans HZ.out (fun x hx => hx) (by simp), HI.out.2.2.1.chg0 HZ.out⟩
      · have hlt2 := nextD_lt hsome
        obtain ⟨f', rfl⟩ : ∃ f', f = f' + 1 := ⟨f - 1, by omega⟩
        have hk := HI.out.2.2.2
        rw [drainD_some hsome f'] at hk
        obtain ⟨kk, kc⟩ := k
        have hA : Chg [bD, bA, bC] wr ((w4.alloc (.cells #[.int .i64 kk, .int .i64 kc] 48)).alloc (.cells #[.int .i64 kk, .int .i64 kc] 48)) := (C4.alloc _).alloc _
        have hw := HI.out.2.1.size
        have hlo : 2 < w.heap.size := by have := heap_lt HH.out.hD; omega
        have hltA := heap_lt HH.out.ar.hA
        have hltC := heap_lt HH.out.ar.hC
        have hltD := heap_lt HH.out.hD
        have hR4 : HasRow ((w4.alloc (.cells #[.int .i64 kk, .int .i64 kc] 48)).alloc (.cells #[.int .i64 kk, .int .i64 kc] 48)) 48 2 (.slice ao6 ks.length cp6) ks.length (kyCells ks) := HR.out.chg hA (fun q hq => by have := HI.out.1 q hq; simp; omega)
        have hB5 : (w4.alloc (.cells #[.int .i64 kk, .int .i64 kc] 48)).heap[w4.heap.size]? = some (.cells #[.int .i64 kk, .int .i64 kc] 48 (0, 0)) := alloc_heap w4 _
        have y0 : (w4.alloc (.cells #[.int .i64 kk, .int .i64 kc] 48)).cell? ⟨w4.heap.size, 0, none⟩ = some (.int .i64 kk) := by rw [cell_of_heap hB5]; rfl
        have y1 : (w4.alloc (.cells #[.int .i64 kk, .int .i64 kc] 48)).cell? ⟨w4.heap.size, 1, none⟩ = some (.int .i64 kc) := by rw [cell_of_heap hB5]; rfl
        have hB6 : ((w4.alloc (.cells #[.int .i64 kk, .int .i64 kc] 48)).alloc (.cells #[.int .i64 kk, .int .i64 kc] 48)).heap[w4.heap.size + 1]? = some (.cells #[.int .i64 kk, .int .i64 kc] 48 (0, 0)) := alloc2_heap w4 _ _
        have hD5 : DecIs ((w4.alloc (.cells #[.int .i64 kk, .int .i64 kc] 48)).alloc (.cells #[.int .i64 kk, .int .i64 kc] 48)) bD bA bC N d2 := D4.chg0 (((Chg.refl [] w4).alloc _).alloc _)
        have HZ := Lib.hid (And.intro hA (And.intro hR4 (And.intro hB6 (And.intro hD5 hk))))
        clear hD5
        have HLT := Lib.hid (And.intro hlt2 (And.intro hlo (And.intro hltA (And.intro hltC hltD))))
        clear hA hR4 hB5 hB6 C4 D4 hk hsome hlt2
        go_wp2_with (at_builtin; refine wpList_append_off rfl (.tmp 43) (.tmp 45) 44 rfl 48 i0 (.agg #[.int .i64 0, .int .i64 0]) 2 16 Tryz.underlying44 hi hz0 hz1 hz2 rfl (by decide) (.slice ao6 ks.length cp6) ks.length (kyCells ks) (by rfl) HZ.out.2.1 ⟨w4.heap.size + 1, 0, none⟩ 1 1 [.int .i64 kk, .int .i64 kc] (by rfl) rfl (fun j u hu => by rw [Addr.add_lit, cell_of_heap HZ.out.2.2.1, Nat.zero_add]; simpa using hu) (by intro u hu; simp only [List.mem_cons, List.not_mem_nil, or_false] at hu; rcases hu with rfl | rfl <;> rfl) (by unfold maxLen; omega) (by omega) (fun v' w9 R9 C9 B9 => ?_); obtain ⟨ao9, c9, rfl, _, _, _⟩ := R9.slice; have HE9 := Lib.hid (And.intro R9 (And.intro C9 B9)); clear R9 C9 B9)
        have hm9 : ∀ x ∈ (Value.slice ao6 ks.length cp6).ownBlock.toList, w.heap.size ≤ x := fun x hx => HI.out.1 x (by simpa [Option.mem_toList] using hx)
        have D9 := HZ.out.2.2.2.1.chg HE9.out.2.1 (fun hm => by have := hm9 _ hm; have := HLT.out; omega) (fun hm => by have := hm9 _ hm; have := HLT.out; omega) (fun hm => by have := hm9 _ hm; have := HLT.out; omega)
        go_roundw
        case rel =>
          refine ⟨ks ++ [⟨kk, kc⟩], d2, f', ?_, fun q hq => ?_, (HI.out.2.1.trans HZ.out.1 (fun x hx => hx) (fun x hx _ => hx)).trans HE9.out.2.1 (fun x hx => hx) (fun x hx hl => by have := hm9 x hx; omega), D9, ?_, by have := HLT.out.1; omega, by have := HLT.out.1; rw [List.length_append]; simp; omega⟩
          · rw [List.length_append, kyCells_snoc]; exact HE9.out.1
          · rcases HE9.out.2.2 q hq with e | e
            · exact HI.out.1 q e
            · have := HZ.out.1.size; omega
          · rw [← HZ.out.2.2.2.2, List.append_assoc]; rfl
        case measure => rw [lenAt_eq D9.ar, lenAt_eq HI.out.2.2.1.ar]; exact HLT.out.1)
end Go.Proofs.YtafmnkngjjnpiaaGreatDoor
