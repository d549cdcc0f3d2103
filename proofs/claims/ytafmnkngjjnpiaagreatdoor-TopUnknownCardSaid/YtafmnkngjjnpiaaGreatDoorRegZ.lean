import Derived.Test.YtafmnkngjjnpiaaGreatDoorRegN
import Derived.RangeFuncNested
import Derived.RangeFuncBound
import Derived.RangeFuncCalls
import Derived.RangeFuncLeaves
import Derived.Shelf.Abstract
import Derived.Shelf.RegionOpen
import Derived.WalkKit
import Derived.OwnWalkIn
import Derived.TacticsInMore
import Derived.LoopNIn
import Derived.LoopIn
import Derived.RangeFuncFrom
namespace Go.Proofs.YtafmnkngjjnpiaaGreatDoor.Ar
set_option maxRecDepth 100000
set_option linter.unusedVariables false
open Go.RowKit Go.Shelf Go.WideShapes
attribute [local go_sem] Oper.semAt_some
def KeepB (Ks : List Nat) (W W' : World) : Prop := W.heap.size ≤ W'.heap.size ∧ ∀ k ∈ Ks, W'.heap[k]? = W.heap[k]?
theorem KeepB.trans {Ks : List Nat} {A B C : World} (h : KeepB Ks A B) (k : KeepB Ks B C) : KeepB Ks A C := ⟨Nat.le_trans h.1 k.1, fun i hi => (k.2 i hi).trans (h.2 i hi)⟩
abbrev EntOf (A : List Ent) := { x : Ent // x ∈ A }
theorem attach_take (A : List Ent) (k : Nat) (h : k < A.length) : A.attach.take (k + 1) = A.attach.take k ++ [⟨A[k], List.getElem_mem h⟩] := by
  rw [List.take_succ_eq_append_getElem (by simpa using h)]
  simp
set_option maxRecDepth 100000 in
set_option maxHeartbeats 2000000 in
theorem all1_in (F : Fence) (n : Nat) (h32 : F.fn 143) (hro : F.round = none) (hn : 1 ≤ n) (l Bs bR bM : Nat) (nv : Value) (A : List Ent) (Ks : List Nat) (hKs : Bs ∈ Ks ∧ bR ∈ Ks ∧ bM ∈ Ks ∧ ∀ k, nv.ownBlock = some k → k ∈ Ks)
    (J Jx : List (EntOf A) → World → Prop)
    (hY : ∀ pre x W, J pre W → pre.length < A.length → YieldAt F (n - 1) Tryz.prog l #[.pointer (some ⟨x.1.bA, 0, none⟩)] W fun e W' =>
      (e = .returned (.bool true) ∧ J (pre ++ [x]) W' ∧ KeepB Ks W W') ∨ (e = .returned (.bool false) ∧ Jx (pre ++ [x]) W'))
    (W : World) (hBs : W.heap[Bs]? = some (.cells #[.pointer (some ⟨bR, 0, none⟩)] 149 (0, 0)))
    (hR : W.heap[bR]? = some (.cells #[nv, .map (some bM)] 174 (0, 0))) (hrow : W.ownsRow 0 9 1 nv A.length (namesV A)) (hmap : MapIs W bM A.length (findP A)) (hnm : ∀ x ∈ A, x.name.size ≤ maxLen) (hself : ∀ x ∈ A, findP A x.name = some x.bA) (hmost : A.length ≤ 16) (h0 : J [] W) :
    CallsIn F n Tryz.prog 143 #[.func (.yield l) #[] #[], .pointer (some ⟨Bs, 0, none⟩)] W fun e W' => (∃ v, e = .returned v) ∧
      ((∃ ys, ys = A.attach ∧ J ys W') ∨ (∃ pre, pre <+: A.attach ∧ Jx pre W')) := by
  obtain ⟨ao, c, rfl⟩ : ∃ ao c, nv = .slice ao A.length c := by
    rcases hrow.2 with ⟨rfl, h0⟩ | ⟨g, cap, cur, rfl, _⟩
    · exact ⟨none, 0, by rw [h0]⟩
    · exact ⟨_, _, rfl⟩
  have hKR := Lib.hid (show ∀ wr, KeepB Ks W wr → wr.cell? ⟨Bs, 0, none⟩ = some (.pointer (some ⟨bR, 0, none⟩)) ∧ wr.cell? ⟨bR, 0, none⟩ = some (.slice ao A.length c) ∧ wr.cell? ⟨bR, 1, none⟩ = some (.map (some bM)) from fun wr hk =>
    ⟨by rw [cell_of_heap ((hk.2 _ hKs.1).trans hBs)]; rfl, by rw [cell_of_heap ((hk.2 _ hKs.2.1).trans hR)]; rfl, by rw [cell_of_heap ((hk.2 _ hKs.2.1).trans hR)]; rfl⟩)
  have hKN := Lib.hid (show ∀ wr, KeepB Ks W wr → ∀ k (hk : k < A.length), ∃ g, ao = some ⟨g, 0, none⟩ ∧ wr.cell? ⟨g, k, none⟩ = some (.string A[k].name) from fun wr hkp k hk => by
    rcases hrow.2 with ⟨_, h0⟩ | ⟨g, cap, cur, e, _, hg, _, _, _, ht⟩
    · omega
    · injection e with e1 e2 e3
      refine ⟨g, e1, ?_⟩
      have hg' := (hkp.2 g (hKs.2.2.2 g (by rw [e1]; rfl))).trans hg
      rw [cell_of_heap hg', ← Array.getElem?_toList]
      have : (namesV A)[k]? = some (.string A[k].name) := by simp [namesV, hk]
      rw [← ht, List.getElem?_take, if_pos (by omega)] at this
      exact this)
  have hKM := Lib.hid (show ∀ wr, KeepB Ks W wr → ∀ k (hk : k < A.length), (Instr.lookup 172 (.map (some bM)) (.string A[k].name) false).run Tryz.prog wr = .ok (.pointer (some ⟨A[k].bA, 0, none⟩)) wr from fun wr hkp k hk => by
    have := (hmap.of_heap (hkp.2 bM hKs.2.2.1)).look A[k].name (hnm _ (List.getElem_mem hk))
    rw [hself _ (List.getElem_mem hk)] at this
    exact this)
  have hc0 := (hKR.out W ⟨Nat.le_refl _, fun _ _ => rfl⟩).1
  have hc1 := (hKR.out W ⟨Nat.le_refl _, fun _ _ => rfl⟩).2.1
  clear hBs hR hrow hmap hself hnm hKs
  refine callsIn_of_wp Tryz.func143 rfl h32 ?_ hro
  simp only [Tryz.ntmps143, List.size_toArray, List.length_cons, List.length_nil, Nat.reduceAdd, Nat.reduceSub, Array.replicate_succ, Array.replicate_zero, List.push_toArray, List.append_toArray, List.nil_append, List.cons_append]
  gi_wp2
  gi_loopw [12] (fun i wr => ∃ k : Nat, k ≤ A.length ∧ i = .int .i64 k ∧ J (A.attach.take k) wr ∧ KeepB Ks W wr) (fun i _ => A.length - (intOf i).toNat)
  case atStart => exact ⟨0, Nat.zero_le _, rfl, h0, Nat.le_refl _, fun _ _ => rfl⟩
  case round =>
    obtain ⟨k, hk, rfl, hJs, hkp⟩ := hrel
    obtain ⟨q0, q1, q2⟩ := hKR.out wr hkp
    by_cases hlt : k < A.length
    · obtain ⟨g, rfl, hcell⟩ := hKN.out wr hkp k hlt
      have hlook := hKM.out wr hkp k hlt
      obtain ⟨fn, tmps, assign, body, hy, hR⟩ := hY _ ⟨A[k], List.getElem_mem hlt⟩ wr hJs (by simp; omega)
      rw [← attach_take A k hlt] at hR
      dsimp only at hy
      generalize A[k].name = nm at *
      generalize A[k].bA = bA at *
      gi_wp2
      refine hR.mono ?_
      rintro e W3 (⟨rfl, hJ3, hk3⟩ | ⟨rfl, hJx3⟩)
      · gi_wp2
        go_roundw
        case rel => exact ⟨k + 1, by omega, by simp, hJ3, hkp.trans hk3⟩
        case measure => simp [intOf]; omega
      · gi_wp2
        refine bodyPost_ret (results_none rfl _ _ _) rfl ?_
        exact ⟨⟨_, rfl⟩, .inr ⟨_, List.take_prefix _ _, hJx3⟩⟩
    · obtain rfl : k = A.length := by omega
      gi_wp2
      go_end0
      exact ⟨⟨_, rfl⟩, .inl ⟨_, rfl, by rw [List.take_of_length_le (by simp)] at hJs; exact hJs⟩⟩
set_option maxHeartbeats 1000000 in
theorem all_in (F : Fence) (n : Nat) (h28 : F.fn 115) (hro : F.round = none) (p : Option Addr) (w : World) :
    CallsIn F n Tryz.prog 115 #[.pointer p] w fun e w' => e = .returned (.func (.func 143) #[] #[.pointer (some ⟨w.heap.size, 0, none⟩)]) ∧ w' = w.alloc (.cells #[.pointer p] 149) := by
  refine callsIn_of_wp Tryz.func115 rfl h28 ?_ hro
  simp only [Tryz.ntmps115, List.size_toArray, List.length_cons, List.length_nil, Nat.reduceAdd, Nat.reduceSub, Array.replicate_succ, Array.replicate_zero, List.push_toArray, List.append_toArray, List.nil_append, List.cons_append]
  gi_wp2
  go_ret
  exact ⟨rfl, rfl⟩
def itBlks (Bs bR bM : Nat) (nv : Value) : List Nat := Bs :: bR :: bM :: nv.ownBlock.toList
theorem all_stops (F : Fence) (n : Nat) (h32 : F.fn 143) (hro : F.round = none) (hn : 1 ≤ n) (Bs bR bM : Nat) (nv : Value) (A : List Ent) (w : World)
    (hBs : w.heap[Bs]? = some (.cells #[.pointer (some ⟨bR, 0, none⟩)] 149 (0, 0))) (h : RegIs w bR bM nv A) :
    SeqStopsK F n Tryz.prog 143 #[.pointer (some ⟨Bs, 0, none⟩)] (fun x : EntOf A => #[Value.pointer (some ⟨x.1.bA, 0, none⟩)]) (KeepB (itBlks Bs bR bM nv)) (fun ys => ys = A.attach) (fun pre => pre <+: A.attach) A.length w := fun l J Jx W hW _ _ hY h0 => by
  have hlt := h.lt
  have hb : ∀ k, k < w.heap.size → W.heap[k]? = w.heap[k]? := fun k hk => hW.block k hk
  have C : Chg [] w W := Chg.of_below hW (Nat.le_refl _)
  have h' := h.chg C (by simp)
  exact (all1_in F n h32 hro hn l Bs bR bM nv A (itBlks Bs bR bM nv) ⟨by simp [itBlks], by simp [itBlks], by simp [itBlks], fun k hk => by simp [itBlks, hk]⟩ J Jx hY W (C.heap hBs (by simp)) h'.hR h'.row h'.map h.nm h.self h.most h0).mono fun e W' he => he
theorem keepB_b {w : World} {Ks : List Nat} (hK : ∀ k ∈ Ks, k < w.heap.size) (W : World) (l : Nat) (o o' : Obj) (hl : w.heap.size ≤ l) (h : W.heap[l]? = some o) (_ : o.isCells = false) (_ : o.isWalk = false) : KeepB Ks W (W.putObj l o') :=
  ⟨by simp, fun k hk => World.putObj_heap_other (by have := hK k hk; omega)⟩
theorem KeepB.of_chg {Ks S : List Nat} {W W' : World} (c : Chg S W W') (hS : ∀ k ∈ Ks, k < W.heap.size ∧ k ∉ S) : KeepB Ks W W' := ⟨c.size, fun k hk => c.block k (hS k hk).1 (hS k hk).2⟩
theorem ownFrom_chg {β : Type} {w0 : World} {B : Nat} {S : List Nat} (hB : w0.heap.size ≤ B) : OwnFrom B (fun (_ : β) W => Chg S w0 W) := by
  intro s W W' row hs hg hr
  refine ⟨hg.os.trans hs.os, hg.tape.trans hs.tape, hg.output.trans hs.output, Nat.le_trans hs.size hg.size, fun k hk hS => ?_⟩
  rw [hg.block k (Nat.lt_of_lt_of_le hk hs.size) (fun e => by have := (hr k e.symm).1; omega)]
  exact hs.block k hk hS
theorem ownFrom_heap {β : Type} {B b : Nat} (f : β → Obj) (hf : ∀ s, (f s).isCells = true) : OwnFrom B (fun (s : β) W => W.heap[b]? = some (f s)) := by
  intro s W W' row hs hg hr
  rw [hg.block b (heap_lt hs) (fun e => by
    obtain ⟨_, o, ho, hc⟩ := hr b e.symm
    rw [hs] at ho
    injection ho with ho
    rw [← ho, hf s] at hc
    cases hc)]
  exact hs
end Go.Proofs.YtafmnkngjjnpiaaGreatDoor.Ar

namespace Go.Proofs.YtafmnkngjjnpiaaGreatDoor.Ar
set_option maxRecDepth 100000
set_option linter.unusedVariables false
open Go.RowKit Go.Shelf Go.WideShapes
attribute [local go_sem] Oper.semAt_some
theorem chg_putObj (W : World) (l : Nat) (o : Obj) (_ : 0 ≤ l) : Chg [l] W (W.putObj l o) :=
  ⟨rfl, rfl, rfl, by simp, fun k _ hS => World.putObj_heap_other (fun e => hS (by rw [e]; simp))⟩
end Go.Proofs.YtafmnkngjjnpiaaGreatDoor.Ar

namespace Go.Proofs.YtafmnkngjjnpiaaGreatDoor.Ar
set_option maxRecDepth 100000
set_option linter.unusedVariables false
open Go.RowKit Go.Shelf Go.WideShapes
attribute [local go_sem] Oper.semAt_some
theorem itBlks_lt {Bs bR bM : Nat} {nv : Value} {A : List Ent} {m : Nat} (hlt : ∀ x ∈ blks bR bM nv A, x < m) : ∀ k ∈ itBlks Bs bR bM nv, k = Bs ∨ k < m := by
  intro k hk
  unfold itBlks at hk
  rcases List.mem_cons.1 hk with rfl | hk
  · exact .inl rfl
  · exact .inr (hlt k (by unfold blks; exact (List.mem_append.2 (.inl hk) : k ∈ (bR :: bM :: nv.ownBlock.toList) ++ A.flatMap (fun x => [x.bA, x.bC]))))
def allZero (A : List Ent) : Bool := A.all (fun x => zeroB x.l)
theorem allZero_true {A : List Ent} (h : ∀ x ∈ A.attach, zeroB x.1.l = true) : allZero A = true := by
  unfold allZero
  rw [List.all_eq_true]
  exact fun x hx => h ⟨x, hx⟩ (List.mem_attach _ _)
theorem allZero_false {A : List Ent} {x : Ent} (hx : x ∈ A) (h : zeroB x.l = false) : allZero A = false := by
  unfold allZero
  rw [List.all_eq_false]
  exact ⟨x, hx, by simp [h]⟩
set_option maxRecDepth 100000 in
set_option maxHeartbeats 4000000 in
theorem rZero_any (bR bM : Nat) (nv : Value) (A : List Ent) (w : World) (h : RegIs w bR bM nv A) :
    Calls Tryz.prog 91 #[.pointer (some ⟨bR, 0, none⟩)] w fun e w' => e = .returned (.bool (allZero A)) ∧ Chg [] w w' := by
  obtain ⟨zz, hzz⟩ : ∃ zz, zz = allZero A := ⟨_, rfl⟩
  rw [← hzz]
  have HZ := Lib.hid hzz
  clear hzz
  refine (callsIn_wide (n := 6)).1 ?_
  refine callsIn_of_wp_marks Tryz.func91 rfl trivial ?_ rfl
  simp only [Tryz.ntmps91, List.size_toArray, List.length_cons, List.length_nil, Nat.reduceAdd, Nat.reduceSub, Array.replicate_succ, Array.replicate_zero, List.push_toArray, List.append_toArray, List.nil_append, List.cons_append]
  gi_wp2_with (refine ⟨trivial, ?_⟩; gi_at_call 115; refine (all_in Fence.wide _ trivial rfl _ _).mono ?_; rintro e w' ⟨rfl, rfl⟩)
  obtain ⟨w1, hw1⟩ : ∃ w1, w1 = (w.alloc (.cells #[.bool false] 4)).alloc (.cells #[.pointer (some ⟨bR, 0, none⟩)] 149) := ⟨_, rfl⟩
  have C1 : Chg [] w w1 := by rw [hw1]; exact ((Chg.refl _ _).alloc _).alloc _
  have R1 := h.chg C1 (by simp)
  have hB : w1.heap[w.heap.size + 1]? = some (.cells #[.pointer (some ⟨bR, 0, none⟩)] 149 (0, 0)) := by rw [hw1]; exact alloc2_heap w _ _
  have hN : w1.heap[w.heap.size]? = some (.cells #[.bool false] 4 (0, 0)) := by rw [hw1]; exact alloc_keeps (alloc_heap w _)
  have hz : w1.heap.size = w.heap.size + 2 := by rw [hw1]; simp
  have hlt := h.lt
  rw [← hw1]
  have hKs : ∀ k ∈ itBlks (w.heap.size + 1) bR bM nv, k < w1.heap.size ∧ k ≠ w.heap.size := fun k hk => by
    rcases itBlks_lt hlt k hk with e | e <;> omega
  refine wpIn_rangeFunc_ownF rfl (by omega) (gf := 143) (lb := #[.pointer (some ⟨w.heap.size + 1, 0, none⟩)]) rfl trivial (enters_of Tryz.func143 (by kernel_rfl) rfl)
    (all_stops Fence.wide 5 trivial rfl (by omega) (w.heap.size + 1) bR bM nv A w1 hB R1) KeepB.trans (keepB_b (fun k hk => (hKs k hk).1)) (Below.refl _ _) (fun _ => rfl)
    (fun pre W => (Chg [w.heap.size] w1 W ∧ W.heap[w.heap.size]? = some (.cells #[.bool false] 4 (0, 0))) ∧ ∀ x ∈ pre, zeroB x.1.l = true)
    (fun c _ W => (Chg [w.heap.size] w1 W ∧ W.heap[w.heap.size]? = some (.cells #[.bool false] 4 (0, 0))) ∧ c = .ret ∧ allZero A = false)
    (OwnFrom.and (OwnFrom.and (ownFrom_chg (Nat.le_refl _)) (ownFrom_heap (fun _ => .cells #[.bool false] 4 (0, 0)) (fun _ => rfl))) (fun _ _ _ _ hs _ _ => hs))
    (fun c => OwnFrom.and (OwnFrom.and (ownFrom_chg (Nat.le_refl _)) (ownFrom_heap (fun _ => .cells #[.bool false] 4 (0, 0)) (fun _ => rfl))) (fun _ _ _ _ hs _ _ => hs))
    ⟨⟨Chg.refl _ _, hN⟩, by simp⟩
    (fun x => { tmps := #[.pointer (some ⟨bR, 0, none⟩), undef, .pointer (some ⟨w.heap.size, 0, none⟩), .pointer (some ⟨x.1.bA, 0, none⟩), .pointer (some ⟨bR, 0, none⟩), .func (.func 143) #[] #[.pointer (some ⟨w.heap.size + 1, 0, none⟩)], .pointer (some ⟨x.1.bA, 0, none⟩), undef, undef, undef], defers := [] }) ?assign ?body ?done ?stop
  case assign =>
    intro l x W K hK
    gi_wp2
    exact hK
  case body =>
    rintro l pre x W ⟨⟨hC, hH⟩, hp⟩ hlen
    have hA := (R1.ar x.1 x.2).chg hC (by have := hlt _ (mem_blks_ar x.2).1; simp; omega) (by have := hlt _ (mem_blks_ar x.2).2; simp; omega)
    have hcell : W.cell? ⟨w.heap.size, 0, none⟩ = some (.bool false) := by rw [cell_of_heap hH]; rfl
    have hfro := free_of_heap hH 0
    cases hx : zeroB x.1.l with
    | true =>
      have HX := Lib.hid hx
      have hcall := zeroM_any x.1.bA x.1.bC x.1.N x.1.l W hA
      rw [hx] at hcall
      clear hx
      gi_wp2_with (refine ⟨trivial, ?_⟩; gi_at_call 116; refine (CallsIn.inRound l (callsIn_wide.2 hcall)).mono ?_; rintro e w' ⟨rfl, rfl⟩)
      refine ⟨KeepsOthers.refl _, KeepB.of_chg (S := []) (Chg.refl _ _) (fun k hk => ⟨by have := (hKs k hk).1; have := hC.size; omega, by simp⟩), ⟨hC, hH⟩, fun y hy => ?_⟩
      rcases List.mem_append.1 hy with hy | hy
      · exact hp y hy
      · rw [List.mem_singleton.1 hy]; exact HX.out
    | false =>
      have HX := Lib.hid hx
      have hcall := zeroM_any x.1.bA x.1.bC x.1.N x.1.l W hA
      rw [hx] at hcall
      clear hx
      gi_wp2_with (refine ⟨trivial, ?_⟩; gi_at_call 116; refine (CallsIn.inRound l (callsIn_wide.2 hcall)).mono ?_; rintro e w' ⟨rfl, rfl⟩)
      exact ⟨⟨(KeepsOthers.setCell W _ _).size, (KeepsOthers.setCell W _ _).same⟩, ⟨hC.trans ((Chg.refl [w.heap.size] W).setCell (Or.inl (by simp)) _) (fun y hy => hy) (fun y hy _ => hy), by rw [setCell_heap _ hH]; rfl⟩, rfl, allZero_false x.2 HX.out⟩
  case done =>
    rintro D ys W hD rfl ⟨⟨hC, hH⟩, hp⟩ hK
    have hzt := Lib.hid (HZ.out.trans (allZero_true hp))
    have hcell : W.cell? ⟨w.heap.size, 0, none⟩ = some (.bool false) := by rw [cell_of_heap hH]; rfl
    have hfro := free_of_heap hH 0
    gi_wp2
    refine ⟨by simp, .inl ⟨_, _, rfl, run_takeDeferred ((KeepsOthers.setCell W _ _).same D _ hK rfl), ?_⟩⟩
    have hH2 : ((W.setCell ⟨w.heap.size, 0, none⟩ (.bool true)).putObj D (.deferred none)).heap[w.heap.size]? = some (.cells #[.bool true] 4 (0, 0)) := by
      rw [World.putObj_heap_other (by omega), setCell_heap _ hH]; rfl
    have hc2 : ((W.setCell ⟨w.heap.size, 0, none⟩ (.bool true)).putObj D (.deferred none)).cell? ⟨w.heap.size, 0, none⟩ = some (.bool true) := by rw [cell_of_heap hH2]; rfl
    have C2 : Chg [w.heap.size] W (W.setCell ⟨w.heap.size, 0, none⟩ (.bool true)) := (Chg.refl _ _).setCell (Or.inl (by simp)) _
    refine ⟨.bool true, by simp [results, Tryz.results91, go_sem, hc2], by rw [hzt.out], ?_⟩
    exact C1.trans ((hC.trans C2 (U := [w.heap.size]) (fun y hy => hy) (fun y hy _ => hy)).trans (chg_putObj _ D _ (Nat.zero_le _)) (U := [w.heap.size]) (fun y hy => hy) (fun y hy hl => absurd hl (by rw [List.mem_singleton.1 hy]; omega))) (by simp) (fun y hy hl => absurd hl (by rw [List.mem_singleton.1 hy]; omega))
  case stop =>
    rintro D c pre W hD _ ⟨⟨hC, hH⟩, rfl, hz0⟩ hK
    have hzt := Lib.hid (HZ.out.trans hz0)
    have hcell : W.cell? ⟨w.heap.size, 0, none⟩ = some (.bool false) := by rw [cell_of_heap hH]; rfl
    gi_wp2
    refine ⟨by simp, .inl ⟨_, _, rfl, run_takeDeferred hK, ?_⟩⟩
    have hH2 : (W.putObj D (.deferred none)).heap[w.heap.size]? = some (.cells #[.bool false] 4 (0, 0)) := by
      rw [World.putObj_heap_other (by omega), hH]
    have hc2 : (W.putObj D (.deferred none)).cell? ⟨w.heap.size, 0, none⟩ = some (.bool false) := by rw [cell_of_heap hH2]; rfl
    refine ⟨.bool false, by simp [results, Tryz.results91, go_sem, hc2], by rw [hzt.out], ?_⟩
    exact C1.trans (hC.trans (chg_putObj _ D _ (Nat.zero_le _)) (U := [w.heap.size]) (fun y hy => hy) (fun y hy hl => absurd hl (by rw [List.mem_singleton.1 hy]; omega))) (by simp) (fun y hy hl => absurd hl (by rw [List.mem_singleton.1 hy]; omega))
end Go.Proofs.YtafmnkngjjnpiaaGreatDoor.Ar
