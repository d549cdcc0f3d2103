/-
  Layer 17's reference: the contracts of Get, Set, Write.
-/
import Derived.Test.YtmcbgpjphjacjaaTtyV
import Derived.Test.YtmcbgpjphjacjaaTtyX
namespace Go.Proofs.Ytmcbgpjphjacjaa
set_option linter.unusedVariables false
set_option linter.unusedSimpArgs false
set_option maxRecDepth 100000
open Go.RowKit

theorem RtGo.free {w0 a b : World} {p : PlanD} {ρ ρ' : Rt} (h : RtGo w0 a p ρ ρ' b) {k : Nat} (hk : k < a.heap.size) (hn : ¬ ρ.own k) : ¬ ρ'.own k := fun ho => (h.own k ho).elim hn (fun hl => by omega)

theorem RtGo.mine {w0 a b c : World} {p : PlanD} {ρ ρ' : Rt} {S : List Nat} (h : RtGo w0 a p ρ ρ' b) (c1 : Chg S b c) (hS : ∀ x ∈ S, a.heap.size ≤ x ∧ ¬ ρ'.own x) (h0 : w0.heap.size ≤ a.heap.size) : RtGo w0 a p ρ ρ' c := by
  refine ⟨h.is.chg c1 (fun x hx => ⟨(hS x hx).2, Nat.le_trans h0 (hS x hx).1⟩), ?_, h.own⟩
  obtain ⟨T, k1, k2⟩ := h.c
  exact ⟨T ++ S, k1.trans c1 (fun x hx => List.mem_append_left _ hx) (fun x hx _ => List.mem_append_right _ hx), fun x hx hl => (List.mem_append.1 hx).elim (fun hm => k2 x hm hl) (fun hm => absurd (hS x hm).1 (by omega))⟩

theorem rres_keep {w0 w w1 w3 : World} {p : PlanD} {ρ ρ' : Rt} {b : Nat} {o : Obj} (h : RtIs w0 w p ρ) (hb : b = w.heap.size) (hr : w1.heap[b]? = some o) (G : RtGo w0 w1 p ρ ρ' w3) : w3.heap[b]? = some o ∧ ¬ ρ'.own b := by
  have hn : ¬ ρ.own b := fun ho => by have := (h.own_lt b ho).2; omega
  exact ⟨G.c.heap hr hn, G.free (heap_lt hr) hn⟩

theorem rget_end {w0 w w1 w3 : World} {p : PlanD} {ρ ρ' : Rt} {b : Nat} (h : RtIs w0 w p ρ) (k : Chg [] w w1) (hb : b = w.heap.size) (G : RtGo w0 w1 p ρ ρ' w3) (R : w3.heap[b]? = some (.cells #[.int .u32 0, .int .u8 0, .int .u8 0] 24 (0, 0)) ∧ ¬ ρ'.own b) (A : At3) (W : World)
    (hW : W = ((w3.setCell ⟨b, 0, none⟩ (.int .u32 A.fl)).setCell ⟨b, 1, none⟩ (.int .u8 A.mn)).setCell ⟨b, 2, none⟩ (.int .u8 A.tm)) : RtGo w0 w p ρ ρ' W :=
  (((RtGo.refl h).chg0 k).trans G).mine (res_fill R.1 A W hW).1 (fun x hx => by rw [List.mem_singleton.1 hx]; exact ⟨by omega, R.2⟩) h.W.c0.size

set_option maxHeartbeats 4000000 in
theorem rtGet_no (w0 w : World) (p : PlanD) (ρ : Rt) (h : RtIs w0 w p ρ) (hm : ((ρ.b : Nat) : Int) ∈ p.gs.take p.gl) (hc : ρ.b ≤ 1000000) (hl : p.gl ≤ 1000000) (hn : ρ.E.length ≤ 1000000) :
    Calls Try.prog 26 #[.pointer (some ⟨ρ.bR, 0, none⟩)] w fun e w' => e = .returned (.tuple #[.agg #[.int .u32 0, .int .u8 0, .int .u8 0], .int .i64 5]) ∧ ∃ v', RtGo w0 w p ρ { ρ with v := v', b := ρ.b + 1, E := ρ.E ++ [ef0 0 at0 0 false] } w' := by
  have k0 : Chg [] w (w.alloc (.cells #[.int .u32 0, .int .u8 0, .int .u8 0] 24)) := (Chg.refl _ _).alloc _
  have h1 := h.chg0 k0
  have r0 := alloc_heap w (.cells #[.int .u32 0, .int .u8 0, .int .u8 0] 24)
  obtain ⟨t0, t1, t2, t3, t4⟩ := h1.c3
  have HH := Lib.hid h
  have H1 := Lib.hid h1
  have K0 := Lib.hid k0
  have R0 := Lib.hid r0
  have hm' : (!decide (((ρ.b : Nat) : Int) ∈ p.gs.take p.gl)) = false := by simp [hm]
  have HM := Lib.hid hm'
  clear h h1 k0 r0 t4 hm hm'
  go_enter Try.func26, Try.ntmps26
  go_wp2_with fail
  refine (rGet_any w0 _ ρ.bM ρ.u ρ.L p ρ.a ρ.b ρ.d H1.out.W hc hl).mono ?_
  rintro e w2 ⟨rfl, F2, O2⟩
  have G2 := Lib.hid (RtGo.of_rf H1.out F2 O2 (fun j hj => .inl hj))
  obtain ⟨b, hb⟩ : ∃ b, b = w.heap.size := ⟨_, rfl⟩
  have HB := Lib.hid hb
  rw [← hb] at R0 ⊢
  rw [HM.out]
  clear F2 O2 t0 t1 t2 t3 hb
  go_wp2_with fail
  refine (rnote_go w0 _ w2 p ρ _ (ef0 0 at0 0 false) G2.out (datR0 _ _ _ _) (fun k hk => by cases hk) hn).mono ?_
  rintro e w3 ⟨rfl, v3, G3⟩
  have RK := rres_keep HH.out HB.out R0.out G3
  have RB := Lib.hid RK
  have f0 := free_of_heap RK.1 0
  have f1 := free_of_heap RK.1 1
  have f2 := free_of_heap RK.1 2
  have y0 : w3.cell? ⟨b, 0, none⟩ = some (.int .u32 0) := by rw [cell_of_heap RK.1]; rfl
  have y1 : w3.cell? ⟨b, 1, none⟩ = some (.int .u8 0) := by rw [cell_of_heap RK.1]; rfl
  have y2 : w3.cell? ⟨b, 2, none⟩ = some (.int .u8 0) := by rw [cell_of_heap RK.1]; rfl
  have HG3 := Lib.hid G3
  clear G3 RK
  go_wp2_with fail
  refine bodyPost_ret (v := .tuple #[at0.val, .int .i64 5]) ?_ rfl ⟨rfl, v3, ?_⟩
  · have hl := (res_fill RB.out.1 at0 _ rfl).2
    rw [results_cell_tmp rfl]
    unfold at0 at hl ⊢
    dsimp only at hl
    simp [asAddr, Result.andThen, hl]
  · exact rget_end HH.out K0.out HB.out HG3.out RB.out at0 _ rfl

set_option maxHeartbeats 4000000 in
theorem rtGet_ok (w0 w : World) (p : PlanD) (ρ : Rt) (h : RtIs w0 w p ρ) (hm : ¬ ((ρ.b : Nat) : Int) ∈ p.gs.take p.gl) (hc : ρ.b ≤ 1000000) (hl : p.gl ≤ 1000000) (hn : ρ.E.length ≤ 1000000) :
    Calls Try.prog 26 #[.pointer (some ⟨ρ.bR, 0, none⟩)] w fun e w' => e = .returned (.tuple #[.agg #[.int .u32 ρ.A.fl, .int .u8 ρ.A.mn, .int .u8 ρ.A.tm], .int .i64 0]) ∧ ∃ v', RtGo w0 w p ρ { ρ with v := v', b := ρ.b + 1, E := ρ.E ++ [ef0 0 ρ.A 0 true] } w' := by
  have k0 : Chg [] w (w.alloc (.cells #[.int .u32 0, .int .u8 0, .int .u8 0] 24)) := (Chg.refl _ _).alloc _
  have h1 := h.chg0 k0
  have r0 := alloc_heap w (.cells #[.int .u32 0, .int .u8 0, .int .u8 0] 24)
  obtain ⟨t0, t1, t2, t3, t4⟩ := h1.c3
  have HH := Lib.hid h
  have H1 := Lib.hid h1
  have K0 := Lib.hid k0
  have R0 := Lib.hid r0
  have hm' : (!decide (((ρ.b : Nat) : Int) ∈ p.gs.take p.gl)) = true := by simp [hm]
  have HM := Lib.hid hm'
  clear h h1 k0 r0 t4 hm hm'
  go_enter Try.func26, Try.ntmps26
  go_wp2_with fail
  refine (rGet_any w0 _ ρ.bM ρ.u ρ.L p ρ.a ρ.b ρ.d H1.out.W hc hl).mono ?_
  rintro e w2 ⟨rfl, F2, O2⟩
  have G2 := Lib.hid (RtGo.of_rf H1.out F2 O2 (fun j hj => .inl hj))
  obtain ⟨b, hb⟩ : ∃ b, b = w.heap.size := ⟨_, rfl⟩
  have HB := Lib.hid hb
  rw [← hb] at R0 ⊢
  rw [HM.out]
  clear F2 O2 t0 t1 t2 t3 hb
  have tt := G2.out.is.c3
  obtain ⟨t0, t1, t2, t3, t4⟩ := tt
  dsimp only at t0 t1 t2 t3 t4
  go_wp2_with fail
  refine (rnote_go w0 _ w2 p ρ _ (ef0 0 ρ.A 0 true) G2.out (datR0 _ _ _ _) (fun k hk => by cases hk) hn).mono ?_
  rintro e w3 ⟨rfl, v3, G3⟩
  have RK := rres_keep HH.out HB.out R0.out G3
  have RB := Lib.hid RK
  have f0 := free_of_heap RK.1 0
  have f1 := free_of_heap RK.1 1
  have f2 := free_of_heap RK.1 2
  have y0 : w3.cell? ⟨b, 0, none⟩ = some (.int .u32 0) := by rw [cell_of_heap RK.1]; rfl
  have y1 : w3.cell? ⟨b, 1, none⟩ = some (.int .u8 0) := by rw [cell_of_heap RK.1]; rfl
  have y2 : w3.cell? ⟨b, 2, none⟩ = some (.int .u8 0) := by rw [cell_of_heap RK.1]; rfl
  obtain ⟨u0, u1, u2, u3, u4⟩ := G3.is.c3
  dsimp only at u0 u1 u2 u3 u4
  have HG3 := Lib.hid G3
  clear G3 RK t0 t1 t2 t3 t4 u4
  go_wp2_with fail
  refine bodyPost_ret (v := .tuple #[ρ.A.val, .int .i64 0]) ?_ rfl ⟨rfl, v3, ?_⟩
  · have hl := (res_fill RB.out.1 ρ.A _ rfl).2
    rw [results_cell_tmp rfl]
    simp [asAddr, Result.andThen, hl]
  · exact rget_end HH.out K0.out HB.out HG3.out RB.out ρ.A _ rfl

set_option maxHeartbeats 4000000 in
theorem rtSet_any (w0 w : World) (p : PlanD) (ρ : Rt) (B : At3) (ok : Bool) (h : RtIs w0 w p ρ) (hok : (!decide (((ρ.d : Nat) : Int) ∈ p.ss.take p.sl)) = ok) (hc : ρ.d ≤ 1000000) (hl : p.sl ≤ 1000000) (hn : ρ.E.length ≤ 1000000) :
    Calls Try.prog 27 #[.pointer (some ⟨ρ.bR, 0, none⟩), .agg #[.int .u32 B.fl, .int .u8 B.mn, .int .u8 B.tm]] w fun e w' => e = .returned (.int .i64 (if ok = true then 0 else 5)) ∧ ∃ v', RtGo w0 w p ρ { ρ with v := v', d := ρ.d + 1, A := if ok = true then B else ρ.A, E := ρ.E ++ [ef0 1 B 0 ok] } w' := by
  have k0 : Chg [] w (w.alloc (.cells #[.int .u32 B.fl, .int .u8 B.mn, .int .u8 B.tm] 24)) := (Chg.refl _ _).alloc _
  have h1 := h.chg0 k0
  have r0 := alloc_heap w (.cells #[.int .u32 B.fl, .int .u8 B.mn, .int .u8 B.tm] 24)
  obtain ⟨t0, t1, t2, t3, t4⟩ := h1.c3
  have HH := Lib.hid h
  have H1 := Lib.hid h1
  have K0 := Lib.hid k0
  have R0 := Lib.hid r0
  have HM := Lib.hid hok
  clear h h1 k0 r0 t4 hok
  go_enter Try.func27, Try.ntmps27
  go_wp2_with fail
  refine (rSet_any w0 _ ρ.bM ρ.u ρ.L p ρ.a ρ.b ρ.d H1.out.W hc hl).mono ?_
  rintro e w2 ⟨rfl, F2, O2⟩
  rw [HM.out]
  have G2 := Lib.hid (RtGo.of_rf H1.out F2 O2 (fun j hj => .inl hj))
  obtain ⟨b, hb⟩ : ∃ b, b = w.heap.size := ⟨_, rfl⟩
  have HB := Lib.hid hb
  rw [← hb] at R0 ⊢
  clear F2 O2 t0 t1 t2 t3 hb
  have RK := rres_keep HH.out HB.out R0.out G2.out
  have y0 : w2.cell? ⟨b, 0, none⟩ = some (.int .u32 B.fl) := by rw [cell_of_heap RK.1]; rfl
  have y1 : w2.cell? ⟨b, 1, none⟩ = some (.int .u8 B.mn) := by rw [cell_of_heap RK.1]; rfl
  have y2 : w2.cell? ⟨b, 2, none⟩ = some (.int .u8 B.tm) := by rw [cell_of_heap RK.1]; rfl
  clear RK
  go_wp2_with fail
  refine (rnote_go w0 _ w2 p ρ _ (ef0 1 B 0 ok) G2.out (datR0 _ _ _ _) (fun k hk => by cases hk) hn).mono ?_
  rintro e w3 ⟨rfl, v3, G3⟩
  have RK := rres_keep HH.out HB.out R0.out G3
  have z0 : w3.cell? ⟨b, 0, none⟩ = some (.int .u32 B.fl) := by rw [cell_of_heap RK.1]; rfl
  have z1 : w3.cell? ⟨b, 1, none⟩ = some (.int .u8 B.mn) := by rw [cell_of_heap RK.1]; rfl
  have z2 : w3.cell? ⟨b, 2, none⟩ = some (.int .u8 B.tm) := by rw [cell_of_heap RK.1]; rfl
  obtain ⟨u0, u1, u2, u3, u4⟩ := G3.is.c3
  have f0 := free_of_heap G3.is.hT 0
  have f1 := free_of_heap G3.is.hT 1
  have f2 := free_of_heap G3.is.hT 2
  have HG3 := Lib.hid G3
  clear G3 RK u3 u4 y0 y1 y2
  dsimp only at u0 u1 u2 f0 f1 f2
  cases ok with
  | false =>
    go_wp2_with fail
    go_ret
    exact ⟨rfl, v3, ((RtGo.refl HH.out).chg0 K0.out).trans HG3.out⟩
  | true =>
    go_wp2_with fail
    go_ret
    exact ⟨rfl, v3, (((RtGo.refl HH.out).chg0 K0.out).trans HG3.out).trans (HG3.out.is.setA B _ rfl)⟩
end Go.Proofs.Ytmcbgpjphjacjaa
