/-
  QueueMixed: pushed and popped in turns, each number that is popped comes ahead of, or at, all that are left. The walk.
-/
import Derived.Test.YtaddnhdfdpaieaaMixM
namespace Go.Proofs.Ytaddnhdfdpaieaa
set_option linter.unusedVariables false
open Go.RowKit

/-- The queue, and the map of what is left. -/
structure MixIs (w wr : World) (bQ bL : Nat) (v : Value) (M : List Ele) (D : DU) (p k : Nat) : Prop where
  q : OwnQ w wr bQ v M p
  m : wr.ownsMap Try.prog 3 floatR bL k D
  t : Tied D M k
  pk : p ≤ k
  ml : M.length ≤ k
  n1 : bL ≠ bQ
  n2 : v.ownBlock ≠ some bL
  b : w.heap.size ≤ bL

theorem MixIs.chg0 {w wr w' : World} {bQ bL : Nat} {v : Value} {M : List Ele} {D : DU} {p k : Nat} (h : MixIs w wr bQ bL v M D p k) (c : Chg [] wr w') : MixIs w w' bQ bL v M D p k :=
  ⟨h.q.chg0 c, owns_chgM h.m c (by simp), h.t, h.pk, h.ml, h.n1, h.n2, h.b⟩

theorem MixIs.skip {w wr : World} {bQ bL : Nat} {v : Value} {M : List Ele} {D : DU} {p k : Nat} (h : MixIs w wr bQ bL v M D p k) : MixIs w wr bQ bL v M D p (k + 1) :=
  ⟨h.q, h.m.mono (by omega), h.t.skip, by have := h.pk; omega, by have := h.ml; omega, h.n1, h.n2, h.b⟩

theorem MixIs.notin {w wr : World} {bQ bL : Nat} {v : Value} {M : List Ele} {D : DU} {p k : Nat} (h : MixIs w wr bQ bL v M D p k) : bL ∉ bQ :: v.ownBlock.toList := by
  intro hm
  rcases List.mem_cons.1 hm with e | e
  · exact h.n1 e
  · exact h.n2 (by simpa [Option.mem_toList] using e)

set_option maxRecDepth 100000 in
set_option maxHeartbeats 8000000 in
theorem queueMixed_walk (a0 : Option Addr) (len cap : Nat) (acts : List ActQ) (w : World) (hl : len ≤ maxLen) (hacts : ActsQ w a0 len acts) :
    Calls Try.prog 4 #[.slice a0 len cap] w fun e w' => e = .returned (.bool true) ∧ Below w.heap.size w w' := by
  unfold maxLen at hl
  have hf := frombits_run
  have hb := bits_run
  have HA := Lib.hid hacts
  clear hacts
  by_cases hbig : 300 < len
  · have hbig' : (300 : Int) < (len : Int) := by omega
    go_enter Try.func4, Try.ntmps4
    go_wp2_with fail
    refine (oNew_any w _ (Chg.refl _ _)).mono ?_
    rintro e w1 ⟨rfl, Q1⟩
    have D1 := Lib.hid Q1.c
    clear Q1
    go_wp2_with fail
    refine (alive_any _).mono ?_
    rintro e w3' ⟨rfl, C3⟩
    go_wp2_with fail
    refine (alive_any _).mono ?_
    rintro e w4' ⟨rfl, C4⟩
    go_wp2_with fail
    go_ret
    exact ⟨rfl, Chg.below (Below.refl _ _) ((D1.out.trans C3 (U := []) (by simp) (by simp)).trans C4 (U := []) (by simp) (by simp)) (by simp) (Nat.le_refl _)⟩
  · have hmm := @run_makeMap Try.prog
    have HZ := Lib.hid (show ∀ w : World, (zeroValue 28).run Try.prog w = .ok (.float .f64 0) w from fun w => by kernel_rfl)
    go_enter Try.func4, Try.ntmps4
    go_wp2_with fail
    refine (oNew_any w _ (Chg.refl _ _)).mono ?_
    rintro e w1 ⟨rfl, Q1⟩
    obtain ⟨bQ, hbQ⟩ : ∃ bQ, bQ = w.heap.size := ⟨_, rfl⟩
    rw [← hbQ] at Q1 ⊢
    clear hbQ
    go_wp2_with fail
    refine (alive_any _).mono ?_
    rintro e w2 ⟨rfl, C2⟩
    have Q2 := Q1.chg0 C2
    clear Q1 C2
    go_wp2_with fail
    obtain ⟨bL, hbL⟩ : ∃ bL, bL = w2.heap.size := ⟨_, rfl⟩
    have X2 : MixIs w (w2.alloc (.map #[] 0)) bQ bL (.slice none 0 0) [] (.map []) 0 0 :=
      ⟨Q2.chg0 ((Chg.refl _ _).alloc _), by rw [hbL]; exact World.ownsMap_made w2 _ _ _, Tied.start, Nat.le_refl _, Nat.le_refl _, by have := Q2.q.lt; omega, by simp [Value.ownBlock], by rw [hbL]; exact Q2.c.size⟩
    rw [← hbL]
    clear hbL Q2 hmm
    go_loopw [31] (fun i wr => ∃ (k p : Nat) (v : Value) (M : List Ele) (D : DU), k ≤ len ∧ i = .int .i64 k ∧ MixIs w wr bQ bL v M D p k) (fun i _ => len - (intOf i).toNat)
    case atStart => exact ⟨0, 0, _, _, _, by omega, rfl, X2⟩
    case round =>
      obtain ⟨k, p, v, M, D, hk, rfl, hx⟩ := hrel
      by_cases hlt : k < len
      · obtain ⟨bl, off, rfl, hat⟩ := HA.out.2 (by omega)
        obtain ⟨x, hx0⟩ : ∃ x, acts[k]? = some x := ⟨acts[k]'(by rw [HA.out.1]; exact hlt), List.getElem?_eq_getElem _⟩
        obtain ⟨x0, x1, x2, xs⟩ := hat k x hx0
        clear hat hx0
        have y0 := hx.q.c.cell x0 (by simp)
        have y1 := hx.q.c.cell x1 (by simp)
        have y2 := hx.q.c.cell x2 (by simp)
        clear x0 x1 x2
        obtain ⟨kind, n, b⟩ := x
        dsimp only at y0 y1 y2 xs
        obtain ⟨w3, hw3⟩ : ∃ w3, w3 = wr.alloc (.cells #[.int .i64 kind, .int .i64 n, .int .u64 (b : Int)] 37) := ⟨_, rfl⟩
        have H3 : w3.heap[wr.heap.size]? = some (.cells #[.int .i64 kind, .int .i64 n, .int .u64 (b : Int)] 37 (0, 0)) := by rw [hw3]; exact alloc_heap wr _
        have B3 : MixIs w w3 bQ bL v M D p k := hx.chg0 (by rw [hw3]; exact (Chg.refl _ _).alloc _)
        have l1 := hx.q.q.lt
        have l2 := hx.q.q.lt2
        have l3 := hx.m.lt
        have hw3' := Lib.hid hw3
        obtain ⟨b6, hb6⟩ : ∃ b6, b6 = wr.heap.size := ⟨_, rfl⟩
        rw [← hb6] at H3
        have hn6 : b6 ∉ bQ :: v.ownBlock.toList := by
          intro hm
          rcases List.mem_cons.1 hm with e | e
          · omega
          · have := l2 b6 (by simpa [Option.mem_toList] using e); omega
        have HN6 := Lib.hid hn6
        have HB6 := Lib.hid hb6
        have z0 : w3.cell? ⟨b6, 0, none⟩ = some (.int .i64 kind) := by rw [cell_of_heap H3]; rfl
        have z2 : w3.cell? ⟨b6, 2, none⟩ = some (.int .u64 (b : Int)) := by rw [cell_of_heap H3]; rfl
        have Z := Lib.hid (And.intro z0 z2)
        have HX := Lib.hid B3
        have HK := Lib.hid (keyI (k : Int) (by omega))
        clear z0 z2 H3 hb6 hx hw3 l1 l2 l3 hn6 B3
        by_cases hk0 : kind = 0
        · subst hk0
          go_wp2_with fail
          rw [← hw3'.out, ← HB6.out]
          obtain ⟨z0, z2⟩ := Z.out
          refine (qPush_any bQ v M p b k _ HX.out.q.q (by have := HX.out.ml; omega) xs (by have := HX.out.pk; omega)).mono ?_
          rintro e w4 ⟨rfl, C4, v4, q4, f4⟩
          have Q4 : OwnQ w w4 bQ v4 _ _ := ⟨q4, HX.out.q.c.trans C4 (fun x hx => hx) (fun x hx hl => HX.out.q.none hx hl), HX.out.q.b1, fun k hk => (f4 k hk).elim (HX.out.q.b2 k) (fun h1 => Nat.le_trans HX.out.q.c.size h1)⟩
          have HM4 := Lib.hid (owns_chgM HX.out.m C4 HX.out.notin)
          have z2 := C4.cell z2 HN6.out
          have n4 : v4.ownBlock ≠ some bL := fun e => (f4 bL e).elim HX.out.n2 (fun h => by have := HX.out.m.lt; omega)
          have HQ4 := Lib.hid Q4
          have HN4 := Lib.hid n4
          clear C4 q4 f4 Q4 n4 z0
          go_wp2_with (first
            | (at_mapUpdate; refine wpList_mapUpdate_own _ rfl _ _ _ 35 rfl 3 28 kInt Try.underlying35 floatR bL k D rfl HM4.out (by unfold maxLen; omega) _ _ (.int .i64 (k : Int)) rfl rfl HK.out (.lit (.int .u64 (b : Int))) [] rfl ?_; intro w5 O5 G5; have HO5 := Lib.hid O5; have HC5 := Lib.hid (chg_of_grown G5); clear O5 G5; go_frame))
          have Q5 := HQ4.out.chg HC5.out (by intro x hx; rw [List.mem_singleton.1 hx]; exact HX.out.b) (by intro hm; exact HX.out.n1 (List.mem_singleton.1 hm).symm) (by intro j hj hm; exact HN4.out (by rw [hj, List.mem_singleton.1 hm]))
          go_roundw
          case rel => exact ⟨k + 1, p + 1, v4, _, _, by omega, by go_num, Q5, HO5.out, HX.out.t.push (fun x hx => (HX.out.q.q.ok x hx).2.2), by have := HX.out.pk; omega, by rw [(insQ_perm _ _ _).length_eq]; have := HX.out.ml; simp; omega, HX.out.n1, HN4.out, HX.out.b⟩
          case measure => simp [intOf]; omega
        · cases M with
          | nil =>
            have hsz : Maps.size D = 0 := HX.out.t.sz
            go_wp2_with fail
            rw [← hw3'.out, ← HB6.out]
            refine (qPop_none bQ v p _ HX.out.q.q).mono ?_
            rintro e w4 ⟨rfl, rfl⟩
            go_wp2_with (first
              | (at_len; refine wpList_len_own _ rfl _ 35 rfl 3 28 Try.underlying35 floatR bL k D rfl HX.out.m ?_))
            go_roundw
            case rel => exact ⟨k + 1, p, v, _, _, by omega, by go_num, HX.out.skip⟩
            case measure => simp [intOf]; omega
          | cons x M' =>
            have hsz : ((Maps.size D : Nat) : Int) = (M'.length : Int) + 1 := by rw [HX.out.t.sz]; simp
            have hnz : ¬ ((M'.length : Int) + 1 = 0) := by omega
            have HXA := Lib.hid (HX.out.t.at_ x (List.mem_cons_self))
            have HXL := Lib.hid (keyI x.2.1 (by have := HX.out.t.lt x (List.mem_cons_self); omega))
            have HP := Lib.hid HX.out.t.pop
            have HXW := Lib.hid (HX.out.q.q.ok x (List.mem_cons_self)).1
            have HAH := Lib.hid (fun n c => HX.out.t.ahead (p := p) (n := n) (c := c) HX.out.q.q.sorted (fun y hy => by have := (HX.out.q.q.ok y hy).2; have := HX.out.pk; omega))
            have HWD := Lib.hid (fun y hy => (HX.out.q.q.ok y (List.mem_cons_of_mem x hy)).1)
            have HML := Lib.hid (show M'.length ≤ k by have := HX.out.ml; simp at this; omega)
            go_wp2_with fail
            rw [← hw3'.out, ← HB6.out]
            refine (qPop_any bQ v x M' p _ HX.out.q.q).mono ?_
            rintro e w4 ⟨rfl, C4, v4, q4, f4⟩
            have Q4 : OwnQ w w4 bQ v4 M' p := ⟨q4, HX.out.q.c.trans C4 (fun x hx => hx) (fun x hx hl => HX.out.q.none hx hl), HX.out.q.b1, by rw [f4]; exact HX.out.q.b2⟩
            have HM4 := Lib.hid (owns_chgM HX.out.m C4 HX.out.notin)
            have HN4 := Lib.hid (show v4.ownBlock ≠ some bL by rw [f4]; exact HX.out.n2)
            have HQ4 := Lib.hid Q4
            have HB := Lib.hid (And.intro HX.out.n1 (And.intro HX.out.b HX.out.pk))
            clear C4 q4 f4 Q4 HX
            obtain ⟨xb, xn, xp⟩ := x
            dsimp only at HXA HXL HXW HP HAH ⊢
            go_wp2_with (first
              | (at_len; refine wpList_len_own _ rfl _ 35 rfl 3 28 Try.underlying35 floatR bL k D rfl HM4.out ?_)
              | (at_lookup; refine wpList_lookup_f _ rfl _ _ 35 rfl 3 28 kInt Try.underlying35 (HZ.out _) bL k D rfl HM4.out _ (.int .i64 xn) rfl HXL.out xb HXA.out.1 HXA.out.2 ?_)
              | (at_delete; refine wpList_delete_own _ rfl _ _ 35 3 rfl 28 kInt Try.underlying35 floatR bL k D rfl HM4.out _ (.int .i64 xn) rfl HXL.out ?_; intro w5 O5 T5; have HO5 := Lib.hid O5; have HC5 := Lib.hid (chg_of_grown T5.grown); clear O5 T5)
              | (at_range; refine wpList_range_own _ rfl _ 35 rfl 3 28 kInt Try.underlying35 floatR bL k (D.del (.int .i64 xn)) rfl HO5.out ?_; intro w6 R6 G6 S6))
            go_frame
            have Q5 := HQ4.out.chg HC5.out (by intro x hx; rw [List.mem_singleton.1 hx]; exact HB.out.2.1) (by intro hm; exact HB.out.1 (List.mem_singleton.1 hm).symm) (by intro j hj hm; exact HN4.out (by rw [hj, List.mem_singleton.1 hm]))
            have Q6 := Q5.chg0 (chg_of_grown0 G6)
            have HR := Lib.hid (show w.heap.size ≤ w5.heap.size ∧ bQ ∉ [w5.heap.size] ∧ ∀ j, v4.ownBlock = some j → j ∉ [w5.heap.size] from ⟨Q5.c.size, fun hm => by have := Q5.q.lt; have := List.mem_singleton.1 hm; omega, fun j hj hm => by have := Q5.q.lt2 j hj; have := List.mem_singleton.1 hm; omega⟩)
            clear Q5 G6 S6
            generalize w5.heap.size = r at *
            generalize D.del (.int .i64 xn) = D' at *
            clear hsz hnz HXA HM4 HQ4 HC5 HO5
            go_loopw [12] (fun _ wr' => ∃ (left : Lit → Bool) (cnt : Nat), wr'.ranges Try.prog 3 floatR bL r k D' left cnt ∧ OwnQ w wr' bQ v4 M' p) (fun _ wr' => wr'.rangeLeft bL r)
            case atStart => exact ⟨_, _, R6, Q6⟩
            case round =>
              obtain ⟨left, cnt, hrg, hq⟩ := hrel
              go_wp2_with (first
                | (at_next; refine wpList_next_if _ rfl _ rfl 3 kInt Try.underlying3 bL r k D' left cnt rfl hrg ?_ ?_))
              · go_wp2_with fail
                go_roundw
                case rel => exact ⟨k + 1, p, v4, M', D', by omega, by go_num, hq, hrg.owns.mono (by omega), HP.out.skip, by have := HB.out.2.2; omega, by have := HML.out; omega, HB.out.1, HN4.out, HB.out.2.1⟩
                case measure => simp [intOf]; omega
              · intro y c w7 cnt7 hh hat hrg7 hlt7 C7 hen
                obtain ⟨z, hz, hz1, hz2, hz3⟩ := HAH.out y c hh hat
                have hcW := Lib.hid (show Wd c by rw [← hz2]; exact HWD.out z hz)
                have Q7 := hq.chg C7 (by intro x hx; rw [List.mem_singleton.1 hx]; exact HR.out.1) HR.out.2.1 HR.out.2.2
                have HC := compare_any xb c w7 HXW.out hcW.out
                have HL := Lib.hid hlt7
                clear hh hat hz hz1 hz2 C7 hlt7
                rcases hz3 with h3 | ⟨h3, h4⟩
                · rw [h3] at HC
                  have HC' := Lib.hid HC
                  clear HC h3
                  go_wp2_with fail
                  refine HC'.out.mono ?_
                  rintro e w8 ⟨rfl, rfl⟩
                  go_wp2_with fail
                  go_roundw
                  case rel => exact ⟨_, cnt7, hrg7, Q7⟩
                  case measure => rw [hrg7.left_eq, hrg.left_eq]; exact HL.out
                · rw [h3] at HC
                  have HC' := Lib.hid HC
                  clear HC h3
                  go_wp2_with fail
                  refine HC'.out.mono ?_
                  rintro e w8 ⟨rfl, rfl⟩
                  go_wp2_with fail
                  go_roundw
                  case rel => exact ⟨_, cnt7, hrg7, Q7⟩
                  case measure => rw [hrg7.left_eq, hrg.left_eq]; exact HL.out
      · obtain rfl : k = len := by omega
        go_wp2_with fail
        refine (qLen_any bQ v M p _ hx.q.q).mono ?_
        rintro e w4 ⟨rfl, rfl⟩
        have hsz : Maps.size D = M.length := hx.t.sz
        go_wp2_with (first
          | (at_len; refine wpList_len_own _ rfl _ 35 rfl 3 28 Try.underlying35 floatR bL k D rfl hx.m ?_))
        go_ret
        exact ⟨rfl, Chg.below (Below.refl _ _) hx.q.c (by simp) (Nat.le_refl _)⟩
end Go.Proofs.Ytaddnhdfdpaieaa
