/-
  Layer 17: the contracts of New, Get, Set, Write, Remember, Attrs, Calls.
-/
import Derived.Test.YtmcbgpjphjacjaaTtyB
import Derived.Test.YtmcbgpjphjacjaaWldE
namespace Go.Proofs.Ytmcbgpjphjacjaa
set_option linter.unusedVariables false
set_option linter.unusedSimpArgs false
set_option maxRecDepth 100000
open Go.RowKit
attribute [local go_sem] run_store_float'

def TNewPost (p : PlanD) (w : World) (e : Ending) (w' : World) : Prop :=
  ∃ τ : Tt, e = .returned (.tuple #[.pointer (some ⟨τ.bT, 0, none⟩), .int .i64 0]) ∧ TtIs w w' τ ∧ τ.Z.map Zt.pr = ordP p.its p.il ∧ τ.c = p.cnt ∧ τ.A = ⟨p.fl, p.mn, p.tm⟩ ∧ τ.E = []

theorem tNew_mk {w w1 : World} {μ : Wm} {Z : List Zt} {c : Wc} (O : OwnWd w w1 μ Z c) (A : At3) :
    TtIs w (w1.alloc (.cells #[.int .u32 A.fl, .int .u8 A.mn, .int .u8 A.tm, .pointer (some ⟨μ.bW, 0, none⟩), .slice none 0 0] 87)) ⟨w1.heap.size, .slice none 0 0, μ, Z, c, A, []⟩ :=
  ⟨O.chg0 ((Chg.refl _ _).alloc _), alloc_heap w1 _, HasRow.nil _ _ _, by simp [Value.ownBlock], O.hi _ (Nat.le_refl _), by simp [Value.ownBlock], O.c0.size, by simp [Value.ownBlock], by simp⟩

set_option maxHeartbeats 4000000 in
theorem tNew_any (p : PlanD) (w : World) (h : p.At w) (hc : p.chk = 0) (hW : p.wl ≤ 1000000) (hG : p.gl ≤ 1000000) (hS : p.sl ≤ 1000000) (hmx : ∀ x ∈ p.its, x.m ≤ 1000000) :
    Calls Try.prog 12 #[.agg p.cells] w (TNewPost p w) := by
  have CB : Chg [] w (w.alloc (.cells p.cells 28)) := (Chg.refl _ _).alloc _
  have HN := Lib.hid (wNew_any p _ (h.chg CB) hc hW hG hS hmx)
  have hB := alloc_heap w (.cells p.cells 28)
  have HB := Lib.hid hB
  have hcs : p.cells = #[.int .u32 p.fl, .int .u8 p.mn, .int .u8 p.tm, .slice p.ia p.il p.ic, .slice p.wa p.wl p.wc, .slice p.ga p.gl p.gc, .slice p.sa p.sl p.sc] := rfl
  rw [hcs] at HN CB HB ⊢
  have HCB := Lib.hid CB
  clear hcs hB CB h hc hW hG hS hmx
  go_enter Try.func12, Try.ntmps12
  go_wp2_with fail
  refine (HN.out).mono ?_
  rintro e w1 ⟨μ, Z, rfl, O, hz⟩
  have b1 := O.c0.heap HB.out (by simp)
  have q0 : w1.cell? ⟨w.heap.size, 0, none⟩ = some (.int .u32 p.fl) := by rw [cell_of_heap b1]; rfl
  have q1 : w1.cell? ⟨w.heap.size, 1, none⟩ = some (.int .u8 p.mn) := by rw [cell_of_heap b1]; rfl
  have q2 : w1.cell? ⟨w.heap.size, 2, none⟩ = some (.int .u8 p.tm) := by rw [cell_of_heap b1]; rfl
  have HO := Lib.hid (tNew_mk (A := ⟨p.fl, p.mn, p.tm⟩) (show OwnWd w w1 μ Z p.cnt from ⟨O.is, HCB.out.trans O.c0 (fun y hy => hy) (by simp), fun x hx => O.lo x (Nat.lt_of_lt_of_le hx HCB.out.size), O.hi⟩))
  have HZ := Lib.hid hz
  clear O hz b1
  go_wp2_with fail
  go_ret2
  exact ⟨_, rfl, HO.out, HZ.out, rfl, rfl, rfl⟩

theorem TtIs.c3 {w0 w : World} {τ : Tt} (h : TtIs w0 w τ) : w.cell? ⟨τ.bT, 0, none⟩ = some (.int .u32 τ.A.fl) ∧ w.cell? ⟨τ.bT, 1, none⟩ = some (.int .u8 τ.A.mn) ∧ w.cell? ⟨τ.bT, 2, none⟩ = some (.int .u8 τ.A.tm) ∧ w.cell? ⟨τ.bT, 3, none⟩ = some (.pointer (some ⟨τ.μ.bW, 0, none⟩)) ∧ w.cell? ⟨τ.bT, 4, none⟩ = some τ.v := by
  refine ⟨?_, ?_, ?_, ?_, ?_⟩ <;> (rw [cell_of_heap h.hT]; rfl)

def GetE (τ : Tt) : EfD := if ((τ.c.got : Nat) : Int) ∈ τ.c.gs then ef0 0 at0 0 false else ef0 0 τ.A 0 true

def TGetPost (w0 : World) (τ : Tt) (w : World) (e : Ending) (w' : World) : Prop :=
  e = .returned (.tuple #[if ((τ.c.got : Nat) : Int) ∈ τ.c.gs then at0.val else τ.A.val, .int .i64 (if ((τ.c.got : Nat) : Int) ∈ τ.c.gs then 5 else 0)]) ∧ ∃ v', TtGo w0 w τ { τ with v := v', c := { τ.c with got := τ.c.got + 1 }, E := τ.E ++ [GetE τ] } w'

/-- The result's cell behind a note. -/
theorem res_keep {w0 w w1 w3 : World} {τ τ' : Tt} {b : Nat} {o : Obj} (h : TtIs w0 w τ) (hb : b = w.heap.size) (hr : w1.heap[b]? = some o) (G : TtGo w0 w1 τ τ' w3) : w3.heap[b]? = some o ∧ ¬ τ'.own b := by
  have hn : ¬ τ.own b := fun ho => by have := (h.own_lt b ho).2; omega
  exact ⟨G.c.heap hr hn, G.free (heap_lt hr) hn⟩

/-- The result's cell is filled. -/
theorem res_fill {w3 : World} {b : Nat} (h : w3.heap[b]? = some (.cells #[.int .u32 0, .int .u8 0, .int .u8 0] 24 (0, 0))) (A : At3) (W : World) (hW : W = ((w3.setCell ⟨b, 0, none⟩ (.int .u32 A.fl)).setCell ⟨b, 1, none⟩ (.int .u8 A.mn)).setCell ⟨b, 2, none⟩ (.int .u8 A.tm)) :
    Chg [b] w3 W ∧ (loadVar 24 ⟨b, 0, none⟩).run Try.prog W = .ok A.val W := by
  refine ⟨?_, run_loadVar_row W b 24 24 #[.int .u32 A.fl, .int .u8 A.mn, .int .u8 A.tm] (0, 0) _ ?_ Try.underlying24 rfl (by kernel_rfl)⟩
  · rw [hW]
    exact (((Chg.refl [b] w3).setCell (p := ⟨b, 0, none⟩) (Or.inl List.mem_cons_self) _).setCell (p := ⟨b, 1, none⟩) (Or.inl List.mem_cons_self) _).setCell (p := ⟨b, 2, none⟩) (Or.inl List.mem_cons_self) _
  · rw [hW, setCell_heap _ (setCell_heap _ (setCell_heap _ h))]
    rfl

theorem get_end {w0 w w1 w3 : World} {τ τ' : Tt} {b : Nat} (h : TtIs w0 w τ) (k : Chg [] w w1) (hb : b = w.heap.size) (G : TtGo w0 w1 τ τ' w3) (R : w3.heap[b]? = some (.cells #[.int .u32 0, .int .u8 0, .int .u8 0] 24 (0, 0)) ∧ ¬ τ'.own b) (A : At3) (W : World)
    (hW : W = ((w3.setCell ⟨b, 0, none⟩ (.int .u32 A.fl)).setCell ⟨b, 1, none⟩ (.int .u8 A.mn)).setCell ⟨b, 2, none⟩ (.int .u8 A.tm)) : TtGo w0 w τ τ' W :=
  (((TtGo.refl h).chg0 k).trans G).mine (res_fill R.1 A W hW).1 (fun x hx => by rw [List.mem_singleton.1 hx]; exact ⟨by omega, R.2⟩) h.W.c0.size

set_option maxHeartbeats 4000000 in
theorem tGet_any (w0 w : World) (τ : Tt) (h : TtIs w0 w τ) (hc : τ.c.got ≤ 1000000) (hn : τ.E.length ≤ 1000000) :
    Calls Try.prog 14 #[.pointer (some ⟨τ.bT, 0, none⟩)] w (TGetPost w0 τ w) := by
  have k0 : Chg [] w (w.alloc (.cells #[.int .u32 0, .int .u8 0, .int .u8 0] 24)) := (Chg.refl _ _).alloc _
  have h1 := h.chg0 k0
  have r0 := alloc_heap w (.cells #[.int .u32 0, .int .u8 0, .int .u8 0] 24)
  obtain ⟨t0, t1, t2, t3, t4⟩ := h1.c3
  have HH := Lib.hid h
  have H1 := Lib.hid h1
  have K0 := Lib.hid k0
  have R0 := Lib.hid r0
  clear h h1 k0 r0 t4
  go_enter Try.func14, Try.ntmps14
  go_wp2_with fail
  refine (oGet_any w0 _ τ.μ τ.Z τ.c H1.out.W hc).mono ?_
  rintro e w2 ⟨rfl, F2, O2⟩
  have G2 := Lib.hid (TtGo.of_wd (mv := τ.μ.v) H1.out F2 O2)
  obtain ⟨b, hb⟩ : ∃ b, b = w.heap.size := ⟨_, rfl⟩
  have HB := Lib.hid hb
  rw [← hb] at R0 ⊢
  clear F2 O2 t0 t1 t2 t3 hb
  by_cases hm : ((τ.c.got : Nat) : Int) ∈ τ.c.gs
  · have hm' : (!decide (((τ.c.got : Nat) : Int) ∈ τ.c.gs)) = false := by simp [hm]
    rw [hm']
    have HM := Lib.hid hm
    clear hm hm'
    go_wp2_with fail
    refine (note_go w0 _ w2 τ _ (ef0 0 at0 0 false) G2.out (datE0 _ _ _ _) (fun k hk => by cases hk) hn).mono ?_
    rintro e w3 ⟨rfl, v3, G3⟩
    have RK := res_keep HH.out HB.out R0.out G3
    have RB := Lib.hid RK
    have f0 := free_of_heap RK.1 0
    have f1 := free_of_heap RK.1 1
    have f2 := free_of_heap RK.1 2
    have y0 : w3.cell? ⟨b, 0, none⟩ = some (.int .u32 0) := by rw [cell_of_heap RK.1]; rfl
    have y1 : w3.cell? ⟨b, 1, none⟩ = some (.int .u8 0) := by rw [cell_of_heap RK.1]; rfl
    have y2 : w3.cell? ⟨b, 2, none⟩ = some (.int .u8 0) := by rw [cell_of_heap RK.1]; rfl
    have HG3 := Lib.hid G3
    clear G3 RK
    go_wp2_with fail
    refine bodyPost_ret (v := .tuple #[at0.val, .int .i64 5]) ?_ rfl ⟨?_, v3, ?_⟩
    · have hl := (res_fill RB.out.1 at0 _ rfl).2
      rw [results_cell_tmp rfl]
      unfold at0 at hl ⊢
      dsimp only at hl
      simp [asAddr, Result.andThen, hl]
    · rw [if_pos HM.out, if_pos HM.out]
    · have he : GetE τ = ef0 0 at0 0 false := by unfold GetE; rw [if_pos HM.out]
      rw [he]
      exact get_end HH.out K0.out HB.out HG3.out RB.out at0 _ rfl
  · have hm' : (!decide (((τ.c.got : Nat) : Int) ∈ τ.c.gs)) = true := by simp [hm]
    rw [hm']
    have HM := Lib.hid hm
    clear hm hm'
    have tt := G2.out.is.c3
    obtain ⟨t0, t1, t2, t3, t4⟩ := tt
    go_wp2_with fail
    refine (note_go w0 _ w2 τ _ (ef0 0 τ.A 0 true) G2.out (datE0 _ _ _ _) (fun k hk => by cases hk) hn).mono ?_
    rintro e w3 ⟨rfl, v3, G3⟩
    have RK := res_keep HH.out HB.out R0.out G3
    have RB := Lib.hid RK
    have f0 := free_of_heap RK.1 0
    have f1 := free_of_heap RK.1 1
    have f2 := free_of_heap RK.1 2
    have y0 : w3.cell? ⟨b, 0, none⟩ = some (.int .u32 0) := by rw [cell_of_heap RK.1]; rfl
    have y1 : w3.cell? ⟨b, 1, none⟩ = some (.int .u8 0) := by rw [cell_of_heap RK.1]; rfl
    have y2 : w3.cell? ⟨b, 2, none⟩ = some (.int .u8 0) := by rw [cell_of_heap RK.1]; rfl
    obtain ⟨u0, u1, u2, u3, u4⟩ := G3.is.c3
    have HG3 := Lib.hid G3
    clear G3 RK t0 t1 t2 t3 t4 u4
    go_wp2_with fail
    refine bodyPost_ret (v := .tuple #[τ.A.val, .int .i64 0]) ?_ rfl ⟨?_, v3, ?_⟩
    · have hl := (res_fill RB.out.1 τ.A _ rfl).2
      rw [results_cell_tmp rfl]
      simp [asAddr, Result.andThen, hl]
    · rw [if_neg HM.out, if_neg HM.out]
    · have he : GetE τ = ef0 0 τ.A 0 true := by unfold GetE; rw [if_neg HM.out]
      rw [he]
      exact get_end HH.out K0.out HB.out HG3.out RB.out τ.A _ rfl

def SetOk (τ : Tt) : Bool := !decide (((τ.c.set : Nat) : Int) ∈ τ.c.ss)

def TSetPost (w0 : World) (τ : Tt) (A : At3) (w : World) (e : Ending) (w' : World) : Prop :=
  e = .returned (.int .i64 (if SetOk τ = true then 0 else 5)) ∧ ∃ v', TtGo w0 w τ { τ with v := v', c := { τ.c with set := τ.c.set + 1 }, A := if SetOk τ = true then A else τ.A, E := τ.E ++ [ef0 1 A 0 (SetOk τ)] } w'

set_option maxHeartbeats 4000000 in
theorem tSet_any (w0 w : World) (τ : Tt) (A : At3) (h : TtIs w0 w τ) (hc : τ.c.set ≤ 1000000) (hn : τ.E.length ≤ 1000000) :
    Calls Try.prog 13 #[.pointer (some ⟨τ.bT, 0, none⟩), A.val] w (TSetPost w0 τ A w) := by
  have k0 : Chg [] w (w.alloc (.cells #[.int .u32 A.fl, .int .u8 A.mn, .int .u8 A.tm] 24)) := (Chg.refl _ _).alloc _
  have h1 := h.chg0 k0
  have r0 := alloc_heap w (.cells #[.int .u32 A.fl, .int .u8 A.mn, .int .u8 A.tm] 24)
  obtain ⟨t0, t1, t2, t3, t4⟩ := h1.c3
  have HH := Lib.hid h
  have H1 := Lib.hid h1
  have K0 := Lib.hid k0
  have R0 := Lib.hid r0
  clear h h1 k0 r0 t4
  show Calls _ _ #[_, .agg #[.int .u32 A.fl, .int .u8 A.mn, .int .u8 A.tm]] _ _
  go_enter Try.func13, Try.ntmps13
  go_wp2_with fail
  refine (oSet_any w0 _ τ.μ τ.Z τ.c H1.out.W hc).mono ?_
  rintro e w2 ⟨rfl, F2, O2⟩
  have hm' : (!decide (((τ.c.set : Nat) : Int) ∈ τ.c.ss)) = SetOk τ := rfl
  rw [hm']
  have G2 := Lib.hid (TtGo.of_wd (mv := τ.μ.v) H1.out F2 O2)
  obtain ⟨b, hb⟩ : ∃ b, b = w.heap.size := ⟨_, rfl⟩
  have HB := Lib.hid hb
  rw [← hb] at R0 ⊢
  clear F2 O2 t0 t1 t2 t3 hb hm'
  have RK := res_keep HH.out HB.out R0.out G2.out
  have y0 : w2.cell? ⟨b, 0, none⟩ = some (.int .u32 A.fl) := by rw [cell_of_heap RK.1]; rfl
  have y1 : w2.cell? ⟨b, 1, none⟩ = some (.int .u8 A.mn) := by rw [cell_of_heap RK.1]; rfl
  have y2 : w2.cell? ⟨b, 2, none⟩ = some (.int .u8 A.tm) := by rw [cell_of_heap RK.1]; rfl
  obtain ⟨ok, hok⟩ : ∃ ok, ok = SetOk τ := ⟨_, rfl⟩
  have HOK := Lib.hid hok
  rw [← hok]
  clear RK hok
  go_wp2_with fail
  refine (note_go w0 _ w2 τ _ (ef0 1 A 0 ok) G2.out (datE0 _ _ _ _) (fun k hk => by cases hk) hn).mono ?_
  rintro e w3 ⟨rfl, v3, G3⟩
  have RK := res_keep HH.out HB.out R0.out G3
  have z0 : w3.cell? ⟨b, 0, none⟩ = some (.int .u32 A.fl) := by rw [cell_of_heap RK.1]; rfl
  have z1 : w3.cell? ⟨b, 1, none⟩ = some (.int .u8 A.mn) := by rw [cell_of_heap RK.1]; rfl
  have z2 : w3.cell? ⟨b, 2, none⟩ = some (.int .u8 A.tm) := by rw [cell_of_heap RK.1]; rfl
  obtain ⟨u0, u1, u2, u3, u4⟩ := G3.is.c3
  have f0 := free_of_heap G3.is.hT 0
  have f1 := free_of_heap G3.is.hT 1
  have f2 := free_of_heap G3.is.hT 2
  have HG3 := Lib.hid G3
  clear G3 RK u3 u4 y0 y1 y2
  dsimp only at u0 u1 u2 f0 f1 f2
  cases ok with
  | false =>
    go_wp2_with fail
    go_ret
    refine ⟨by rw [← HOK.out]; rfl, v3, ?_⟩
    have G := ((TtGo.refl HH.out).chg0 K0.out).trans HG3.out
    rw [← HOK.out]
    exact G
  | true =>
    go_wp2_with fail
    go_ret
    refine ⟨by rw [← HOK.out]; rfl, v3, ?_⟩
    have G := (((TtGo.refl HH.out).chg0 K0.out).trans HG3.out).trans (HG3.out.is.setA A _ rfl)
    rw [← HOK.out]
    exact G

set_option maxHeartbeats 4000000 in
theorem tRemember_any (w0 w : World) (τ : Tt) (h : TtIs w0 w τ) (hn : τ.E.length ≤ 1000000) :
    Calls Try.prog 18 #[.pointer (some ⟨τ.bT, 0, none⟩)] w fun e w' => e = .returned (.int .i64 0) ∧ ∃ v', TtGo w0 w τ { τ with v := v', E := τ.E ++ [ef0 6 at0 0 false] } w' := by
  go_enter Try.func18, Try.ntmps18
  go_wp2_with fail
  refine (note_go w0 _ w τ _ (ef0 6 at0 0 false) (TtGo.refl h) (datE0 _ _ _ _) (fun k hk => by cases hk) hn).mono ?_
  rintro e w3 ⟨rfl, v3, G3⟩
  go_wp2_with fail
  go_ret
  exact ⟨rfl, v3, G3⟩

set_option maxHeartbeats 4000000 in
theorem tCalls_any (w0 w : World) (τ : Tt) (h : TtIs w0 w τ) :
    Calls Try.prog 16 #[.pointer (some ⟨τ.bT, 0, none⟩)] w fun e w' => e = .returned (.int .i64 (τ.E.length : Nat)) ∧ w = w' := by
  obtain ⟨t0, t1, t2, t3, t4⟩ := h.c3
  obtain ⟨ao, c, e, _, _, _⟩ := h.row.slice
  rw [e] at t4
  clear h e t0 t1 t2 t3
  go_enter Try.func16, Try.ntmps16
  go_wp2_with fail
  go_ret
  exact ⟨rfl, rfl⟩

set_option maxHeartbeats 4000000 in
theorem tAttrs_any (w0 w : World) (τ : Tt) (h : TtIs w0 w τ) :
    Calls Try.prog 15 #[.pointer (some ⟨τ.bT, 0, none⟩)] w fun e w' => e = .returned τ.A.val ∧ Chg [] w w' := by
  have k0 : Chg [] w (w.alloc (.cells #[.int .u32 0, .int .u8 0, .int .u8 0] 24)) := (Chg.refl _ _).alloc _
  have h1 := h.chg0 k0
  have r0 := alloc_heap w (.cells #[.int .u32 0, .int .u8 0, .int .u8 0] 24)
  obtain ⟨t0, t1, t2, t3, t4⟩ := h1.c3
  have hb : τ.bT < w.heap.size := heap_lt h.hT
  have hn1 : ¬ τ.bT = w.heap.size := by omega
  have hn2 : ¬ w.heap.size = τ.bT := by omega
  have K0 := Lib.hid k0
  have R0 := Lib.hid r0
  clear h h1 k0 r0 t3 t4
  go_enter Try.func15, Try.ntmps15
  go_wp2_with fail
  refine bodyPost_ret (v := τ.A.val) ?_ rfl ⟨rfl, (Chg.refl _ _).alloc _⟩
  exact results_cell_row rfl _ _ w.heap.size 24 #[.int .u32 τ.A.fl, .int .u8 τ.A.mn, .int .u8 τ.A.tm] (0, 0) _ rfl (alloc_heap w _) Try.underlying24 rfl (by kernel_rfl)

def WrE (τ : Tt) (ao : Option Addr) (cap : Nat) (zs : List Int) : EfD := ⟨2, at0, ao, cap, zs, wrN τ.c.ws τ.c.wrote zs.length, wrB τ.c.ws τ.c.wrote⟩

def TWrPost (w0 : World) (τ : Tt) (zs : List Int) (w : World) (e : Ending) (w' : World) : Prop :=
  e = .returned (.tuple #[.int .i64 (if wrB τ.c.ws τ.c.wrote = true then wrN τ.c.ws τ.c.wrote zs.length else 0), .int .i64 (if wrB τ.c.ws τ.c.wrote = true then 0 else 5)]) ∧ ∃ v' ao cap, TtGo w0 w τ { τ with v := v', c := { τ.c with wrote := τ.c.wrote + 1 }, E := τ.E ++ [WrE τ ao cap zs] } w' ∧ ∀ k, (WrE τ ao cap zs).blk = some k → w.heap.size ≤ k

set_option maxHeartbeats 4000000 in
theorem tWrite_any (w0 w : World) (τ : Tt) (ao : Option Addr) (n c : Nat) (zs : List Int) (h : TtIs w0 w τ) (hs : SrcAt w ao n c (valsOf .u8 zs)) (ho : 0 < n → ∀ k, ao.map (·.block) = some k → τ.μ.f k = 0) (hz : n ≤ 1000000) (hc : τ.c.wrote ≤ 1000000) (hn : τ.E.length ≤ 1000000) :
    Calls Try.prog 17 #[.pointer (some ⟨τ.bT, 0, none⟩), .slice ao n c] w (TWrPost w0 τ zs w) := by
  obtain ⟨t0, t1, t2, t3, t4⟩ := h.c3
  have HH := Lib.hid h
  have HS := Lib.hid hs
  have HO := Lib.hid ho
  have hl : zs.length = n := by have := hs.1; rwa [valsOf_length] at this
  have HL := Lib.hid hl
  clear h hs ho t0 t1 t2 t4 hl
  go_enter Try.func17, Try.ntmps17
  go_wp2_with fail
  refine (oWrite_any w0 _ τ.μ τ.Z τ.c n HH.out.W hc).mono ?_
  rintro e w2 ⟨rfl, F2, O2⟩
  have G2 := Lib.hid (TtGo.of_wd (mv := τ.μ.v) HH.out F2 O2)
  have S2 : SrcAt w2 ao n c (valsOf .u8 zs) := by
    obtain ⟨S, k1, k2⟩ := F2
    by_cases h0 : 0 < n
    · exact HS.out.chg k1 (fun ad e hm => k2 _ hm (HO.out h0 _ (by rw [e]; rfl)))
    · obtain rfl : zs = [] := List.eq_nil_of_length_eq_zero (by rw [HL.out]; omega)
      exact ⟨HS.out.1, HS.out.2.1, fun ad e j u hu => by simp [valsOf] at hu⟩
  have HS2 := Lib.hid S2
  obtain ⟨ok, hok⟩ : ∃ ok, ok = wrB τ.c.ws τ.c.wrote := ⟨_, rfl⟩
  obtain ⟨m, hm⟩ : ∃ m, m = wrN τ.c.ws τ.c.wrote n := ⟨_, rfl⟩
  have HOK := Lib.hid (And.intro hok hm)
  rw [← hok, ← hm]
  clear F2 O2 t3 hok hm S2
  go_wp2_with fail
  refine (bclone_any ao n c zs w2 HS2.out hz).mono ?_
  rintro e w3 ⟨vb, rfl, C3, OB⟩
  obtain ⟨ab, cb, rfl, SB, hbb⟩ := owns_srcAt OB
  have hlt := OB.lt
  have G3 := G2.out.chg0 C3
  have hsz := G2.out.c.size
  have HY : Hid (DatE w0 w3 { τ with μ := { τ.μ with v := τ.μ.v }, Z := τ.Z, c := { τ.c with wrote := τ.c.wrote + 1 } } (⟨2, at0, ab, cb, zs, m, ok⟩ : EfD)) := Lib.hid (by
    refine ⟨?_, by rw [HL.out]; exact hz, fun k hk => ?_⟩
    · show SrcAt w3 ab zs.length cb _
      rw [HL.out]; exact SB
    · obtain ⟨ad, e, rfl⟩ := Option.map_eq_some_iff.1 hk
      have h1 := hbb ad e
      have h2 := hlt _ h1
      have hnot : ¬ Tt.own τ ad.block := fun ho => by have := (HH.out.own_lt _ ho).2; omega
      exact ⟨fun e => hnot (.inr (.inl e)), fun e => hnot (.inr (.inr (.inl e))), Classical.byContradiction fun e => hnot (.inl e), by have := HH.out.W.c0.size; omega, h2.2⟩)
  have HYB : Hid (∀ k, (⟨2, at0, ab, cb, zs, m, ok⟩ : EfD).blk = some k → w.heap.size ≤ k) := Lib.hid (fun k hk => by
    obtain ⟨ad, e, rfl⟩ := Option.map_eq_some_iff.1 hk
    have := hlt _ (hbb ad e)
    omega)
  have HG3 := Lib.hid G3
  clear G3 C3 OB SB hbb hlt hsz
  go_wp2_with fail
  have hnote := note_go w0 _ w3 τ _ (⟨2, at0, ab, cb, zs, m, ok⟩ : EfD) HG3.out HY.out HYB.out hn
  unfold EfD.cells at hnote
  dsimp only at hnote
  rw [HL.out] at hnote
  refine hnote.mono ?_
  rintro e w4 ⟨rfl, v4, G4⟩
  have HG4 := Lib.hid G4
  clear G4 hnote
  cases ok with
  | false =>
    go_wp2_with fail
    go_ret2
    refine ⟨by rw [← HOK.out.1]; rfl, v4, ab, cb, ?_, ?_⟩
    · have e1 : WrE τ ab cb zs = ⟨2, at0, ab, cb, zs, m, false⟩ := by unfold WrE; rw [HL.out, ← HOK.out.1, ← HOK.out.2]
      rw [e1]
      exact HG4.out
    · exact HYB.out
  | true =>
    go_wp2_with fail
    go_ret2
    refine ⟨by rw [← HOK.out.1, HL.out, ← HOK.out.2]; rfl, v4, ab, cb, ?_, ?_⟩
    · have e1 : WrE τ ab cb zs = ⟨2, at0, ab, cb, zs, m, true⟩ := by unfold WrE; rw [HL.out, ← HOK.out.1, ← HOK.out.2]
      rw [e1]
      exact HG4.out
    · exact HYB.out

/-! ### By their outcomes -/

theorem tGet_ok (w0 w : World) (bT : Nat) (v : Value) (μ : Wm) (Z : List Zt) (c : Wc) (A : At3) (E : List EfD) (h : TtIs w0 w ⟨bT, v, μ, Z, c, A, E⟩) (hm : ¬ ((c.got : Nat) : Int) ∈ c.gs) (hc : c.got ≤ 1000000) (hn : E.length ≤ 1000000) :
    Calls Try.prog 14 #[.pointer (some ⟨bT, 0, none⟩)] w fun e w' => e = .returned (.tuple #[.agg #[.int .u32 A.fl, .int .u8 A.mn, .int .u8 A.tm], .int .i64 0]) ∧ ∃ v', TtGo w0 w ⟨bT, v, μ, Z, c, A, E⟩ ⟨bT, v', μ, Z, { c with got := c.got + 1 }, A, E ++ [ef0 0 A 0 true]⟩ w' :=
  (tGet_any w0 w _ h hc hn).mono fun e w' ⟨he, v', G⟩ => by
    dsimp only at he
    rw [if_neg hm, if_neg hm] at he
    have e1 : GetE ⟨bT, v, μ, Z, c, A, E⟩ = ef0 0 A 0 true := by unfold GetE; rw [if_neg hm]
    rw [e1] at G
    exact ⟨he, v', G⟩

theorem tGet_no (w0 w : World) (bT : Nat) (v : Value) (μ : Wm) (Z : List Zt) (c : Wc) (A : At3) (E : List EfD) (h : TtIs w0 w ⟨bT, v, μ, Z, c, A, E⟩) (hm : ((c.got : Nat) : Int) ∈ c.gs) (hc : c.got ≤ 1000000) (hn : E.length ≤ 1000000) :
    Calls Try.prog 14 #[.pointer (some ⟨bT, 0, none⟩)] w fun e w' => e = .returned (.tuple #[.agg #[.int .u32 0, .int .u8 0, .int .u8 0], .int .i64 5]) ∧ ∃ v', TtGo w0 w ⟨bT, v, μ, Z, c, A, E⟩ ⟨bT, v', μ, Z, { c with got := c.got + 1 }, A, E ++ [ef0 0 at0 0 false]⟩ w' :=
  (tGet_any w0 w _ h hc hn).mono fun e w' ⟨he, v', G⟩ => by
    dsimp only at he
    rw [if_pos hm, if_pos hm] at he
    have e1 : GetE ⟨bT, v, μ, Z, c, A, E⟩ = ef0 0 at0 0 false := by unfold GetE; rw [if_pos hm]
    rw [e1] at G
    exact ⟨he, v', G⟩

theorem tSet_ok (w0 w : World) (bT : Nat) (v : Value) (μ : Wm) (Z : List Zt) (c : Wc) (A B : At3) (E : List EfD) (h : TtIs w0 w ⟨bT, v, μ, Z, c, A, E⟩) (hm : ¬ ((c.set : Nat) : Int) ∈ c.ss) (hc : c.set ≤ 1000000) (hn : E.length ≤ 1000000) :
    Calls Try.prog 13 #[.pointer (some ⟨bT, 0, none⟩), .agg #[.int .u32 B.fl, .int .u8 B.mn, .int .u8 B.tm]] w fun e w' => e = .returned (.int .i64 0) ∧ ∃ v', TtGo w0 w ⟨bT, v, μ, Z, c, A, E⟩ ⟨bT, v', μ, Z, { c with set := c.set + 1 }, B, E ++ [ef0 1 B 0 true]⟩ w' :=
  (tSet_any w0 w _ B h hc hn).mono fun e w' ⟨he, v', G⟩ => by
    have e1 : SetOk ⟨bT, v, μ, Z, c, A, E⟩ = true := by unfold SetOk; simp [hm]
    rw [e1] at he
    rw [e1] at G
    exact ⟨he, v', G⟩

theorem tSet_no (w0 w : World) (bT : Nat) (v : Value) (μ : Wm) (Z : List Zt) (c : Wc) (A B : At3) (E : List EfD) (h : TtIs w0 w ⟨bT, v, μ, Z, c, A, E⟩) (hm : ((c.set : Nat) : Int) ∈ c.ss) (hc : c.set ≤ 1000000) (hn : E.length ≤ 1000000) :
    Calls Try.prog 13 #[.pointer (some ⟨bT, 0, none⟩), .agg #[.int .u32 B.fl, .int .u8 B.mn, .int .u8 B.tm]] w fun e w' => e = .returned (.int .i64 5) ∧ ∃ v', TtGo w0 w ⟨bT, v, μ, Z, c, A, E⟩ ⟨bT, v', μ, Z, { c with set := c.set + 1 }, A, E ++ [ef0 1 B 0 false]⟩ w' :=
  (tSet_any w0 w _ B h hc hn).mono fun e w' ⟨he, v', G⟩ => by
    have e1 : SetOk ⟨bT, v, μ, Z, c, A, E⟩ = false := by unfold SetOk; simp [hm]
    rw [e1] at he
    rw [e1] at G
    exact ⟨he, v', G⟩

theorem tAttrs_at (w0 w : World) (bT : Nat) (v : Value) (μ : Wm) (Z : List Zt) (c : Wc) (A : At3) (E : List EfD) (h : TtIs w0 w ⟨bT, v, μ, Z, c, A, E⟩) :
    Calls Try.prog 15 #[.pointer (some ⟨bT, 0, none⟩)] w fun e w' => e = .returned (.agg #[.int .u32 A.fl, .int .u8 A.mn, .int .u8 A.tm]) ∧ Chg [] w w' := tAttrs_any w0 w _ h

theorem tCalls_at (w0 w : World) (bT : Nat) (v : Value) (μ : Wm) (Z : List Zt) (c : Wc) (A : At3) (E : List EfD) (h : TtIs w0 w ⟨bT, v, μ, Z, c, A, E⟩) :
    Calls Try.prog 16 #[.pointer (some ⟨bT, 0, none⟩)] w fun e w' => e = .returned (.int .i64 (E.length : Nat)) ∧ w = w' := tCalls_any w0 w _ h
end Go.Proofs.Ytmcbgpjphjacjaa
