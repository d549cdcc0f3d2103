/-
  QueueActs: of any calls each answer, moments bit by bit, and how many there are. The walk.
-/
import Derived.Test.YtaddnhdfdpaieaaRefPopN
import Derived.Test.YtaddnhdfdpaieaaMixM
namespace Go.Proofs.Ytaddnhdfdpaieaa
set_option linter.unusedVariables false
open Go.RowKit
attribute [local go_sem] run_store_float'

/-- The queue and the reference's, apart. -/
structure BQ (w wr : World) (bQ bM : Nat) (v u : Value) (M N : List Ele) (p : Nat) : Prop where
  q : OwnQ w wr bQ v M p
  r : RefQ wr bM u N
  b1 : w.heap.size ≤ bM
  b2 : ∀ j, u.ownBlock = some j → w.heap.size ≤ j
  ap : ∀ y ∈ bQ :: v.ownBlock.toList, y ∉ bM :: u.ownBlock.toList

theorem BQ.ltq {w wr : World} {bQ bM : Nat} {v u : Value} {M N : List Ele} {p : Nat} (h : BQ w wr bQ bM v u M N p) : ∀ y ∈ bQ :: v.ownBlock.toList, y < wr.heap.size := fun y hy => by
  rcases List.mem_cons.1 hy with e | e
  · rw [e]; exact h.q.q.lt
  · exact h.q.q.lt2 y (by simpa [Option.mem_toList] using e)

theorem BQ.ltr {w wr : World} {bQ bM : Nat} {v u : Value} {M N : List Ele} {p : Nat} (h : BQ w wr bQ bM v u M N p) : ∀ y ∈ bM :: u.ownBlock.toList, y < wr.heap.size := fun y hy => by
  rcases List.mem_cons.1 hy with e | e
  · rw [e]; exact h.r.lt
  · exact h.r.row.lt y (by simpa [Option.mem_toList] using e)

theorem BQ.chg0 {w wr w' : World} {bQ bM : Nat} {v u : Value} {M N : List Ele} {p : Nat} (h : BQ w wr bQ bM v u M N p) (c : Chg [] wr w') : BQ w w' bQ bM v u M N p :=
  ⟨h.q.chg0 c, h.r.chg c (by simp) (by simp), h.b1, h.b2, h.ap⟩

theorem BQ.stepQ {w wr w' : World} {bQ bM : Nat} {v v' u : Value} {M M' N : List Ele} {p p' : Nat} (h : BQ w wr bQ bM v u M N p) (c : Chg (bQ :: v.ownBlock.toList) wr w') (q' : QueIs w' bQ v' M' p')
    (f : ∀ k, v'.ownBlock = some k → v.ownBlock = some k ∨ wr.heap.size ≤ k) : BQ w w' bQ bM v' u M' N p' := by
  refine ⟨⟨q', h.q.c.trans c (fun x hx => hx) (fun x hx hl => h.q.none hx hl), h.q.b1, fun k hk => (f k hk).elim (h.q.b2 k) (fun h1 => Nat.le_trans h.q.c.size h1)⟩, h.r.chg c (fun hm => h.ap _ hm List.mem_cons_self) (fun k hk hm => h.ap _ hm (List.mem_cons_of_mem _ (by rw [hk]; simp))), h.b1, h.b2, fun y hy hm => ?_⟩
  rcases List.mem_cons.1 hy with e | e
  · exact h.ap y (by rw [e]; exact List.mem_cons_self) hm
  · rcases f y (by simpa [Option.mem_toList] using e) with h1 | h1
    · exact h.ap y (List.mem_cons_of_mem _ (by rw [h1]; simp)) hm
    · have := h.ltr y hm; omega

theorem BQ.stepR {w wr w' : World} {bQ bM : Nat} {v u u' : Value} {M N N' : List Ele} {p : Nat} (h : BQ w wr bQ bM v u M N p) (c : Chg (bM :: u.ownBlock.toList) wr w') (r' : RefQ w' bM u' N')
    (f : ∀ k, u'.ownBlock = some k → u.ownBlock = some k ∨ wr.heap.size ≤ k) : BQ w w' bQ bM v u' M N' p := by
  refine ⟨h.q.chg c (fun x hx => ?_) (fun hm => h.ap _ List.mem_cons_self hm) (fun k hk hm => h.ap k (List.mem_cons_of_mem _ (by rw [hk]; simp)) hm), r', h.b1, fun j hj => (f j hj).elim (h.b2 j) (fun h1 => Nat.le_trans h.q.c.size h1), fun y hy hm => ?_⟩
  · rcases List.mem_cons.1 hx with e | e
    · rw [e]; exact h.b1
    · exact h.b2 x (by simpa [Option.mem_toList] using e)
  · rcases List.mem_cons.1 hm with e | e
    · exact h.ap y hy (by rw [e]; exact List.mem_cons_self)
    · rcases f y (by simpa [Option.mem_toList] using e) with h1 | h1
      · exact h.ap y hy (List.mem_cons_of_mem _ (by rw [h1]; simp))
      · have := h.ltq y hy; omega

theorem heap_cell_lt {w : World} {b : Nat} {o : Nat} {v : Value} (h : w.cell? ⟨b, o, none⟩ = some v) : b < w.heap.size := by
  unfold World.cell? at h
  cases hb : w.heap[b]? with
  | none => simp only [hb] at h; cases h
  | some o => exact heap_lt hb

theorem int_cell {w : World} {base : Nat} {ao : Option Addr} {c : Nat} {T : List Ele} (h : w.ownsRow base 3 1 (.slice ao T.length c) T.length (intsE T)) {q : Nat} (hq : q < T.length) : ∃ g, ao = some ⟨g, 0, none⟩ ∧ w.cell? ⟨g, q, none⟩ = some (.int .i64 T[q].2.1) := by
  rcases h.2 with ⟨_, h0⟩ | ⟨g, cap, cur, e, _⟩
  · omega
  · injection e with e1 e2 e3
    have := World.ownsRow.cells h (g := g) (by rw [e1]; rfl) q (.int .i64 T[q].2.1) (by simp [intsE, hq])
    rw [Addr.add_lit, Nat.zero_add] at this
    exact ⟨g, e1, this⟩

set_option maxRecDepth 100000 in
set_option maxHeartbeats 16000000 in
theorem queueActs_walk (a0 : Option Addr) (len cap : Nat) (acts : List ActQ) (w : World) (hl : len ≤ maxLen) (hacts : ActsQ w a0 len acts) :
    Calls Try.prog 7 #[.slice a0 len cap] w fun e w' => e = .returned (.bool true) ∧ Below w.heap.size w w' := by
  unfold maxLen at hl
  have hf := frombits_run
  have hb := bits_run
  have HA := Lib.hid hacts
  clear hacts
  by_cases hbig : 400 < len
  · have hbig' : (400 : Int) < (len : Int) := by omega
    go_enter Try.func7, Try.ntmps7
    go_wp2_with fail
    refine (oNew_any w _ (Chg.refl _ _)).mono ?_
    rintro e w1 ⟨rfl, Q1⟩
    have D1 := Lib.hid Q1.c
    clear Q1
    go_wp2_with fail
    refine (alive_any _).mono ?_
    rintro e w3' ⟨rfl, C3⟩
    go_wp2_with fail
    refine (alive_any _).mono ?_
    rintro e w4' ⟨rfl, C4⟩
    go_wp2_with fail
    go_ret
    exact ⟨rfl, Chg.below (Below.refl _ _) (((D1.out.alloc _).trans C3 (U := []) (by simp) (by simp)).trans C4 (U := []) (by simp) (by simp)) (by simp) (Nat.le_refl _)⟩
  · go_enter Try.func7, Try.ntmps7
    go_wp2_with fail
    refine (oNew_any w _ (Chg.refl _ _)).mono ?_
    rintro e w1 ⟨rfl, Q1⟩
    obtain ⟨bQ, hbQ⟩ : ∃ bQ, bQ = w.heap.size := ⟨_, rfl⟩
    rw [← hbQ] at Q1 ⊢
    clear hbQ
    go_wp2_with fail
    have H1 := alloc_heap w1 (.cells #[.slice none 0 0] 48)
    have X1 : BQ w (w1.alloc (.cells #[.slice none 0 0] 48)) bQ w1.heap.size (.slice none 0 0) (.slice none 0 0) [] [] 0 :=
      ⟨Q1.chg0 ((Chg.refl _ _).alloc _), ⟨H1, HasRow.nil _ _ _, by simp [Value.ownBlock]⟩, Q1.c.size, by simp [Value.ownBlock], fun y hy hm => by simp [Value.ownBlock] at hy hm; have := Q1.q.lt; omega⟩
    generalize w1.heap.size = bM at *
    generalize w1.alloc (.cells #[.slice none 0 0] 48) = w1' at *
    clear H1 Q1
    refine (alive_any _).mono ?_
    rintro e w2 ⟨rfl, C2⟩
    have X2 := X1.chg0 C2
    clear X1 C2
    go_wp2_with fail
    go_loopw [33] (fun i wr => ∃ (k p : Nat) (v u : Value) (M : List Ele), k ≤ len ∧ i = .int .i64 k ∧ BQ w wr bQ bM v u M M p ∧ p ≤ k ∧ M.length ≤ k) (fun i _ => len - (intOf i).toNat)
    case atStart => exact ⟨0, 0, _, _, _, by omega, rfl, X2, Nat.le_refl _, Nat.le_refl _⟩
    case round =>
      obtain ⟨k, p, v, u, M, hk, rfl, hx, hpk, hml⟩ := hrel
      by_cases hlt : k < len
      · obtain ⟨bl, off, rfl, hat⟩ := HA.out.2 (by omega)
        obtain ⟨x, hx0⟩ : ∃ x, acts[k]? = some x := ⟨acts[k]'(by rw [HA.out.1]; exact hlt), List.getElem?_eq_getElem _⟩
        obtain ⟨x0, x1, x2, xs⟩ := hat k x hx0
        clear hat hx0
        have y0 := hx.q.c.cell x0 (by simp)
        have y1 := hx.q.c.cell x1 (by simp)
        have y2 := hx.q.c.cell x2 (by simp)
        clear x0 x1 x2
        obtain ⟨kind, n, b⟩ := x
        dsimp only at y0 y1 y2 xs
        obtain ⟨w3, hw3⟩ : ∃ w3, w3 = wr.alloc (.cells #[.int .i64 kind, .int .i64 n, .int .u64 (b : Int)] 37) := ⟨_, rfl⟩
        have H3 : w3.heap[wr.heap.size]? = some (.cells #[.int .i64 kind, .int .i64 n, .int .u64 (b : Int)] 37 (0, 0)) := by rw [hw3]; exact alloc_heap wr _
        have B3 : BQ w w3 bQ bM v u M M p := hx.chg0 (by rw [hw3]; exact (Chg.refl _ _).alloc _)
        have l1 := hx.ltq
        have l2 := hx.ltr
        have hw3' := Lib.hid hw3
        obtain ⟨b6, hb6⟩ : ∃ b6, b6 = wr.heap.size := ⟨_, rfl⟩
        rw [← hb6] at H3
        have HN6 := Lib.hid (show b6 ∉ bQ :: v.ownBlock.toList ∧ b6 ∉ bM :: u.ownBlock.toList from ⟨fun hm => by have := l1 _ hm; omega, fun hm => by have := l2 _ hm; omega⟩)
        have HB6 := Lib.hid hb6
        have z0 : w3.cell? ⟨b6, 0, none⟩ = some (.int .i64 kind) := by rw [cell_of_heap H3]; rfl
        have z1 : w3.cell? ⟨b6, 1, none⟩ = some (.int .i64 n) := by rw [cell_of_heap H3]; rfl
        have z2 : w3.cell? ⟨b6, 2, none⟩ = some (.int .u64 (b : Int)) := by rw [cell_of_heap H3]; rfl
        have Z := Lib.hid (And.intro z0 (And.intro z1 z2))
        have HX := Lib.hid B3
        have HK := Lib.hid (And.intro hpk hml)
        clear z0 z1 z2 H3 hb6 hx hw3 l1 l2 B3 hpk hml
        by_cases hk0 : kind = 0
        · subst hk0
          go_wp2_with fail
          rw [← hw3'.out, ← HB6.out]
          obtain ⟨z0, z1, z2⟩ := Z.out
          have st : BQ w w3.drew bQ bM v u M M p := HX.out.chg0 ((Chg.refl _ _).drew)
          have HP := Lib.hid (show M.length < 4096 ∧ p < 1000000 by have := HK.out; omega)
          have HSO := Lib.hid HX.out.q.q.sorted
          have HOK := Lib.hid HX.out.q.q.ok
          go_region_with (first
            | (go_at_call 12; refine (qPush_any bQ v M p b n _ st.q.q HP.out.1 xs HP.out.2).mono ?_; rintro e w4 ⟨rfl, C4, v4, q4, f4⟩; replace st := st.stepQ C4 q4 f4; have z1 := C4.cell z1 HN6.out.1; clear C4 q4 f4)
            | (go_at_call 20; refine (refPush_any bM u M p b n _ st.r HP.out.1 xs HSO.out HOK.out HP.out.2).mono ?_; rintro e w5 ⟨rfl, C5, u5', r5, f5⟩; replace st := st.stepR C5 r5 f5; have z1 := C5.cell z1 HN6.out.2; clear C5 r5 f5))
          all_goals (go_wp2_with fail)
          all_goals (
            obtain ⟨ao9, c9, e9⟩ := st.r.slice
            subst e9
            have g9 := st.r.cell0
            have ST := Lib.hid st
            clear st
            go_quiet ((go_at_call 14; exact quiet_same (qLen_any _ _ _ _ _ (ST.out.chg0 ((Chg.refl _ _).drewN _)).q.q)))
            go_wp2_with fail
            go_roundw
            case rel => exact ⟨k + 1, p + 1, _, _, _, by omega, by go_num, ST.out.chg0 ((Chg.refl _ _).drewN _), by have := HK.out; omega, by rw [(insQ_perm _ _ _).length_eq]; have := HK.out; simp; omega⟩
            case measure => simp [intOf]; omega)
        · by_cases hk3 : kind = 3
          · subst hk3
            go_wp2_with fail
            rw [← hw3'.out, ← HB6.out]
            obtain ⟨z0, z1, z2⟩ := Z.out
            refine (qBefore_any bQ v M p b _ HX.out.q.q xs).mono ?_
            rintro e w4 ⟨lv1, v4, rfl, C4, q4, f4, O4⟩
            have st4 := HX.out.stepQ C4 q4 (fun k hk => .inl (by rw [← f4]; exact hk))
            have HWD := Lib.hid (fun x hx => (HX.out.q.q.ok x hx).1)
            have HMO := Lib.hid (HX.out.q.q.most)
            have HMS := Lib.hid (HX.out.r.lt)
            have HR4 := Lib.hid st4
            have HO4 := Lib.hid O4
            clear st4 C4 q4 f4 O4
            go_wp2_with fail
            refine (refBefore_any bM u M b _ HR4.out.r xs HWD.out HMO.out).mono ?_
            rintro e w5 ⟨lv2, u5', rfl, C5, r5, f5, O5⟩
            have C5' : Chg (bM :: u.ownBlock.toList) w4 w5 := (Chg.refl [] w4).trans C5 (by simp) (fun y hy _ => by rw [List.mem_singleton.1 hy]; exact List.mem_cons_self)
            have st5 := HR4.out.stepR C5' r5 (fun k hk => .inl (by rw [← f5]; exact hk))
            have O45 := owns_chg HO4.out C5 (fun k hk hm => by have := (HO4.out.lt k hk).1; have := HMS.out; have := List.mem_singleton.1 hm; omega)
            have hdl : (M.dropWhile (befB b)).length ≤ M.length := (List.dropWhile_sublist _).length_le
            have htl : (M.takeWhile (befB b)).length ≤ 400 := by have := (List.takeWhile_sublist (befB b) (l := M)).length_le; have := HK.out; omega
            have HST := Lib.hid st5
            obtain ⟨ao1, c1, rfl⟩ := owns_slice O45
            obtain ⟨ao2, c2, rfl⟩ := owns_slice O5
            have HO1 := Lib.hid O45
            have HO2 := Lib.hid O5
            have HDL := Lib.hid hdl
            clear st5 C5 C5' r5 f5 O45 O5 hdl HR4 HO4
            generalize M.dropWhile (befB b) = R at *
            generalize M.takeWhile (befB b) = T at *
            go_wp2_with fail
            go_loopw [123] (fun i wx => ∃ q : Nat, q ≤ T.length ∧ i = .int .i64 q ∧ Chg [] w5 wx) (fun i _ => T.length - (intOf i).toNat)
            case atStart => exact ⟨0, by omega, rfl, Chg.refl _ _⟩
            case round =>
              obtain ⟨q, hq, rfl, cx⟩ := hrel
              by_cases hqt : q < T.length
              · obtain ⟨g1, rfl, d1⟩ := int_cell HO1.out hqt
                obtain ⟨g2, rfl, d2⟩ := int_cell HO2.out hqt
                have d1 := cx.cell d1 (by simp)
                have d2 := cx.cell d2 (by simp)
                generalize T[q] = t at *
                go_wp2_with fail
                go_quiet (fail)
                go_wp2_with fail
                go_roundw
                case rel => exact ⟨q + 1, by omega, by go_num, cx.drewN _⟩
                case measure => simp [intOf]; omega
              · have st := HST.out.chg0 cx
                go_wp2_with fail
                obtain ⟨ao9, c9, e9⟩ := st.r.slice
                subst e9
                have g9 := st.r.cell0
                have ST := Lib.hid st
                clear st
                go_quiet ((go_at_call 14; exact quiet_same (qLen_any _ _ _ _ _ (ST.out.chg0 ((Chg.refl _ _).drewN _)).q.q)))
                go_wp2_with fail
                go_roundw
                case rel => exact ⟨k + 1, p, _, _, _, by omega, by go_num, ST.out.chg0 ((Chg.refl _ _).drewN _), by have := HK.out; omega, by have := HK.out; have := HDL.out; omega⟩
                case measure => simp [intOf]; omega
          · by_cases hk12 : kind = 1 ∨ kind = 2
            · cases M with
              | nil =>
                obtain ⟨ao0, c0, e0⟩ := HX.out.r.slice
                subst e0
                have k5 : Chg [] w3 (w3.alloc (.cells #[.float .f64 0, .int .i64 0] 51)) := (Chg.refl _ _).alloc _
                have st5 := HX.out.chg0 k5
                have g5 := st5.r.cell0
                have HS5 := Lib.hid st5
                have hh5 := alloc_heap w3 (.cells #[.float .f64 0, .int .i64 0] 51)
                have s0 : (w3.alloc (.cells #[.float .f64 0, .int .i64 0] 51)).cell? ⟨w3.heap.size, 0, none⟩ = some (.float .f64 0) := by rw [cell_of_heap hh5]; rfl
                have s1 : (w3.alloc (.cells #[.float .f64 0, .int .i64 0] 51)).cell? ⟨w3.heap.size, 1, none⟩ = some (.int .i64 0) := by rw [cell_of_heap hh5]; rfl
                clear st5 hh5
                obtain ⟨z0, z1, z2⟩ := Z.out
                have z0' := k5.cell z0 (by simp)
                rcases hk12 with hk1 | hk2
                · subst hk1
                  go_wp2_with fail
                  rw [← hw3'.out, ← HB6.out]
                  refine (qPeek_none bQ v p _ HX.out.q.q).mono ?_
                  rintro e w4 ⟨rfl, rfl⟩
                  go_wp2_with fail
                  refine (qPop_none bQ v p _ HX.out.q.q).mono ?_
                  rintro e w4 ⟨rfl, rfl⟩
                  go_wp2_with fail
                  refine (refPop_none bM _ _ HS5.out.r).mono ?_
                  rintro e w6 ⟨⟨r, rfl⟩, C6⟩
                  have st6 := HS5.out.chg0 C6
                  have q0 := C6.cell s0 (by simp)
                  have q1 := C6.cell s1 (by simp)
                  clear C6
                  go_wp2_with fail
                  go_quiet (fail)
                  generalize hwq : World.drewN w6 _ = wq
                  have st := st6.chg0 (show Chg [] w6 wq by rw [← hwq]; exact (Chg.refl _ _).drewN _)
                  clear st6 hwq
                  go_wp2_with fail
                  have g9 := st.r.cell0
                  have ST := Lib.hid st
                  clear st
                  go_quiet ((go_at_call 14; exact quiet_same (qLen_any _ _ _ _ _ (ST.out.chg0 ((Chg.refl _ _).drewN _)).q.q)))
                  go_wp2_with fail
                  go_roundw
                  case rel => exact ⟨k + 1, p, _, _, _, by omega, by go_num, ST.out.chg0 ((Chg.refl _ _).drewN _), by have := HK.out; omega, by simp⟩
                  case measure => simp [intOf]; omega
                · subst hk2
                  go_wp2_with fail
                  rw [← hw3'.out, ← HB6.out]
                  refine (qPeek_none bQ v p _ HX.out.q.q).mono ?_
                  rintro e w4 ⟨rfl, rfl⟩
                  go_wp2_with fail
                  go_quiet (fail)
                  generalize hwq : World.drewN (w3.alloc (.cells #[.float .f64 0, .int .i64 0] 51)) _ = wq
                  have st := HS5.out.chg0 (show Chg [] _ wq by rw [← hwq]; exact (Chg.refl _ _).drewN _)
                  clear hwq
                  go_wp2_with fail
                  have g9 := st.r.cell0
                  have ST := Lib.hid st
                  clear st
                  go_quiet ((go_at_call 14; exact quiet_same (qLen_any _ _ _ _ _ (ST.out.chg0 ((Chg.refl _ _).drewN _)).q.q)))
                  go_wp2_with fail
                  go_roundw
                  case rel => exact ⟨k + 1, p, _, _, _, by omega, by go_num, ST.out.chg0 ((Chg.refl _ _).drewN _), by have := HK.out; omega, by simp⟩
                  case measure => simp [intOf]; omega
              | cons x M' =>
                obtain ⟨z0, z1, z2⟩ := Z.out
                have HK1 := Lib.hid (show p ≤ k ∧ M'.length ≤ k by have := HK.out; simp at this; omega)
                rcases hk12 with hk1 | hk2
                · subst hk1
                  go_wp2_with fail
                  rw [← hw3'.out, ← HB6.out]
                  refine (qPeek_any bQ v x M' p _ HX.out.q.q).mono ?_
                  rintro e w4 ⟨rfl, C4⟩
                  have st4 := HX.out.chg0 C4
                  replace z0 := C4.cell z0 (by simp)
                  go_wp2_with fail
                  refine (qPop_any bQ v x M' p _ st4.q.q).mono ?_
                  rintro e w5 ⟨rfl, C5, v5, q5, f5⟩
                  have st5 := st4.stepQ C5 q5 (fun k hk => .inl (by rw [← f5]; exact hk))
                  replace z0 := C5.cell z0 HN6.out.1
                  have HB5 := Lib.hid (show b6 < w5.heap.size from Nat.lt_of_lt_of_le (heap_cell_lt z0) (Nat.le_refl _))
                  clear st4 C4 C5 q5 f5
                  obtain ⟨g, off, cap9, rfl, d1, d2, l1, l2, hne⟩ := st5.r.head
                  have k6 : Chg [] w5 (w5.alloc (.cells #[.float .f64 0, .int .i64 0] 51)) := (Chg.refl _ _).alloc _
                  have st6 := st5.chg0 k6
                  have g6 := st6.r.cell0
                  have d1' := k6.cell d1 (by simp)
                  have d2' := k6.cell d2 (by simp)
                  have z0' := k6.cell z0 (by simp)
                  have hn1 : ¬ b6 = w5.heap.size := by have := HB5.out; omega
                  have hn2 : ¬ w5.heap.size = b6 := by have := HB5.out; omega
                  have HS5 := Lib.hid st5
                  have k7 : Chg [] w5 (w5.alloc (.cells #[.float .f64 x.1, .int .i64 x.2.1] 51)) := (Chg.refl _ _).alloc _
                  have st7 := st5.chg0 k7
                  have z7 := k7.cell z0 (by simp)
                  have hh7 := alloc_heap w5 (.cells #[.float .f64 x.1, .int .i64 x.2.1] 51)
                  have s0 : (w5.alloc (.cells #[.float .f64 x.1, .int .i64 x.2.1] 51)).cell? ⟨w5.heap.size, 0, none⟩ = some (.float .f64 x.1) := by rw [cell_of_heap hh7]; rfl
                  have s1 : (w5.alloc (.cells #[.float .f64 x.1, .int .i64 x.2.1] 51)).cell? ⟨w5.heap.size, 1, none⟩ = some (.int .i64 x.2.1) := by rw [cell_of_heap hh7]; rfl
                  have HS7 := Lib.hid st7
                  have hne7 := Lib.hid (show w5.heap.size ≠ bM by have := HS5.out.r.lt; omega)
                  clear st5 st6 st7 k6 k7 d1 d2 z0 hh7
                  go_wp2_with fail
                  refine (refPop_any bM _ x M' _ HS7.out.r).mono ?_
                  rintro e w8 ⟨r, u8, rfl, C8, r8, f8⟩
                  have C8' : Chg (bM :: (Value.slice (some ⟨g, off, none⟩) (M'.length + 1) cap9).ownBlock.toList) (w5.alloc (.cells #[.float .f64 x.1, .int .i64 x.2.1] 51)) w8 := C8.mono (fun y hy => by rw [List.mem_singleton.1 hy]; exact List.mem_cons_self)
                  have st8 := HS7.out.stepR C8' r8 (fun k hk => .inl (by rw [← f8]; exact hk))
                  have q0 := C8.cell s0 (by simpa using hne7.out)
                  have q1 := C8.cell s1 (by simpa using hne7.out)
                  clear C8 C8' r8 f8 s0 s1 z7 z0'
                  go_wp2_with fail
                  go_quiet (fail)
                  generalize hwq : World.drewN w8 _ = wq
                  have st := st8.chg0 (show Chg [] w8 wq by rw [← hwq]; exact (Chg.refl _ _).drewN _)
                  clear st8 hwq
                  go_wp2_with fail
                  obtain ⟨ao9, c9, e9⟩ := st.r.slice
                  subst e9
                  have g9 := st.r.cell0
                  have ST := Lib.hid st
                  clear st
                  go_quiet ((go_at_call 14; exact quiet_same (qLen_any _ _ _ _ _ (ST.out.chg0 ((Chg.refl _ _).drewN _)).q.q)))
                  go_wp2_with fail
                  go_roundw
                  case rel => exact ⟨k + 1, p, _, _, _, by omega, by go_num, ST.out.chg0 ((Chg.refl _ _).drewN _), by have := HK1.out; omega, by have := HK1.out; omega⟩
                  case measure => simp [intOf]; omega
                · subst hk2
                  go_wp2_with fail
                  rw [← hw3'.out, ← HB6.out]
                  refine (qPeek_any bQ v x M' p _ HX.out.q.q).mono ?_
                  rintro e w5 ⟨rfl, C4⟩
                  have st5 := HX.out.chg0 C4
                  replace z0 := C4.cell z0 (by simp)
                  have HB5 := Lib.hid (show b6 < w5.heap.size from Nat.lt_of_lt_of_le (heap_cell_lt z0) (Nat.le_refl _))
                  clear C4
                  obtain ⟨g, off, cap9, rfl, d1, d2, l1, l2, hne⟩ := st5.r.head
                  have k6 : Chg [] w5 (w5.alloc (.cells #[.float .f64 0, .int .i64 0] 51)) := (Chg.refl _ _).alloc _
                  have st6 := st5.chg0 k6
                  have g6 := st6.r.cell0
                  have d1' := k6.cell d1 (by simp)
                  have d2' := k6.cell d2 (by simp)
                  have z0' := k6.cell z0 (by simp)
                  have hn1 : ¬ b6 = w5.heap.size := by have := HB5.out; omega
                  have hn2 : ¬ w5.heap.size = b6 := by have := HB5.out; omega
                  have k7 : Chg [] w5 (w5.alloc (.cells #[.float .f64 x.1, .int .i64 x.2.1] 51)) := (Chg.refl _ _).alloc _
                  have st7 := st5.chg0 k7
                  have z7 := k7.cell z0 (by simp)
                  have hh7 := alloc_heap w5 (.cells #[.float .f64 x.1, .int .i64 x.2.1] 51)
                  have s0 : (w5.alloc (.cells #[.float .f64 x.1, .int .i64 x.2.1] 51)).cell? ⟨w5.heap.size, 0, none⟩ = some (.float .f64 x.1) := by rw [cell_of_heap hh7]; rfl
                  have s1 : (w5.alloc (.cells #[.float .f64 x.1, .int .i64 x.2.1] 51)).cell? ⟨w5.heap.size, 1, none⟩ = some (.int .i64 x.2.1) := by rw [cell_of_heap hh7]; rfl
                  have HS7 := Lib.hid st7
                  clear st5 st6 st7 k6 k7 d1 d2 hh7
                  go_wp2_with fail
                  go_quiet (fail)
                  generalize hwq : World.drewN (w5.alloc _) _ = wq
                  have st := HS7.out.chg0 (show Chg [] _ wq by rw [← hwq]; exact (Chg.refl _ _).drewN _)
                  clear hwq
                  go_wp2_with fail
                  have g9 := st.r.cell0
                  have ST := Lib.hid st
                  clear st
                  go_quiet ((go_at_call 14; exact quiet_same (qLen_any _ _ _ _ _ (ST.out.chg0 ((Chg.refl _ _).drewN _)).q.q)))
                  go_wp2_with fail
                  go_roundw
                  case rel => exact ⟨k + 1, p, _, _, _, by omega, by go_num, ST.out.chg0 ((Chg.refl _ _).drewN _), by have := HK.out; omega, by have := HK.out; omega⟩
                  case measure => simp [intOf]; omega
            · have hk1 : ¬ kind = 1 := fun e => hk12 (.inl e)
              have hk2 : ¬ kind = 2 := fun e => hk12 (.inr e)
              go_wp2_with fail
              rw [← hw3'.out, ← HB6.out]
              obtain ⟨z0, z1, z2⟩ := Z.out
              go_wp2_with fail
              have st := HX.out
              obtain ⟨ao9, c9, e9⟩ := st.r.slice
              subst e9
              have g9 := st.r.cell0
              have ST := Lib.hid st
              clear st
              go_quiet ((go_at_call 14; exact quiet_same (qLen_any _ _ _ _ _ (ST.out.chg0 ((Chg.refl _ _).drewN _)).q.q)))
              go_wp2_with fail
              go_roundw
              case rel => exact ⟨k + 1, p, _, _, _, by omega, by go_num, ST.out.chg0 ((Chg.refl _ _).drewN _), by have := HK.out; omega, by have := HK.out; omega⟩
              case measure => simp [intOf]; omega
      · obtain rfl : k = len := by omega
        go_wp2_with fail
        go_ret
        exact ⟨rfl, Chg.below (Below.refl _ _) hx.q.c (by simp) (Nat.le_refl _)⟩
end Go.Proofs.Ytaddnhdfdpaieaa
