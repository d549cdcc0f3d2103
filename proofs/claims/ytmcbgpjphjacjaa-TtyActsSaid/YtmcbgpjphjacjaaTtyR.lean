/-
  Layer 17: the contracts of Read.
-/
import Derived.Test.YtmcbgpjphjacjaaTtyF
namespace Go.Proofs.Ytmcbgpjphjacjaa
set_option linter.unusedVariables false
set_option linter.unusedSimpArgs false
set_option maxRecDepth 100000
open Go.RowKit

/-- What a call of Read leaves. -/
structure RdGo (w0 w : World) (τ τ' : Tt) (bA bC N : Nat) (l' : List Int) (w' : World) : Prop where
  ok : RdOk w0 w' τ' bA bC N l'
  c : ChgO (fun x => τ.own x ∨ x = bA ∨ x = bC) w w'
  own : ∀ k, τ'.own k → τ.own k ∨ w.heap.size ≤ k

/-- Behind the Wipe. -/
theorem RdOk.wiped {w0 w w1 : World} {τ : Tt} {bA bC N : Nat} {l : List Int} (h : RdOk w0 w τ bA bC N l) (c : Chg [bA, bC] w w1) (a : Arn.ArenaIs w1 bA bC N []) : RdGo w0 w τ τ bA bC N [] w1 := by
  have hm : ∀ x ∈ [bA, bC], (x = bA ∨ x = bC) := fun x hx => by simpa using hx
  refine ⟨⟨h.T.chg c (fun x hx => ?_), a, h.nA, h.nC, h.lA, h.lC⟩, ChgO.of c (fun x hx => .inr (hm x hx)), fun k hk => .inl hk⟩
  rcases hm x hx with e | e
  · rw [e]; exact ⟨h.nA, h.lA⟩
  · rw [e]; exact ⟨h.nC, h.lC⟩

/-- A call of the terminal's own behind it. -/
theorem RdGo.go {w0 a b c : World} {τ τ1 τ2 : Tt} {bA bC N : Nat} {l : List Int} (h : RdGo w0 a τ τ1 bA bC N l b) (k : TtGo w0 b τ1 τ2 c) : RdGo w0 a τ τ2 bA bC N l c := by
  refine ⟨⟨k.is, cho_arena k.c h.ok.Ar h.ok.nA h.ok.nC, k.free (heap_lt h.ok.Ar.hA) h.ok.nA, k.free (heap_lt h.ok.Ar.hC) h.ok.nC, h.ok.lA, h.ok.lC⟩, h.c.trans k.c (fun x hx => (h.own x hx).imp .inl id), fun j hj => (k.own j hj).elim (h.own j) (fun e => .inr (Nat.le_trans h.c.size e))⟩

theorem RdGo.chg0 {w0 a b c : World} {τ τ1 : Tt} {bA bC N : Nat} {l : List Int} (h : RdGo w0 a τ τ1 bA bC N l b) (k : Chg [] b c) : RdGo w0 a τ τ1 bA bC N l c :=
  h.go ((TtGo.refl h.ok.T).chg0 k)

set_option maxHeartbeats 4000000 in
theorem tRead_none (w0 w : World) (bT bA bC N : Nat) (v : Value) (μ : Wm) (c : Wc) (A : At3) (E : List EfD) (l : List Int) (h : RdOk w0 w ⟨bT, v, μ, [], c, A, E⟩ bA bC N l) (hN : 64 ≤ N) (hn : E.length ≤ 1000000) :
    Calls Try.prog 20 #[.pointer (some ⟨bT, 0, none⟩), .pointer (some ⟨bA, 0, none⟩)] w fun e w' => e = .returned (.tuple #[.int .i64 0, .int .i64 0, .int .i64 6]) ∧ ∃ v', RdGo w0 w ⟨bT, v, μ, [], c, A, E⟩ ⟨bT, v', μ, [], c, A, E ++ [ef0 5 at0 0 false]⟩ bA bC N [] w' := by
  have HH := Lib.hid h
  have hN' : ¬ (N : Int) < 64 := by omega
  clear h hN
  go_enter Try.func20, Try.ntmps20
  go_wp2_with fail
  refine (Arn.cap_any bA bC N l w HH.out.Ar).mono ?_
  rintro e w1 ⟨rfl, rfl⟩
  go_wp2_with fail
  refine (Arn.wipe_any bA bC N l w HH.out.Ar).mono ?_
  rintro e w1 ⟨rfl, C1, A1⟩
  have HG := Lib.hid (HH.out.wiped C1 A1)
  obtain ⟨_, _, _, t3, _⟩ := HG.out.ok.T.c3
  dsimp only at t3
  clear C1 A1
  go_wp2_with fail
  refine (oNext_none w0 w1 μ c 64 HG.out.ok.T.W (by omega)).mono ?_
  rintro e w2 ⟨rfl, rfl⟩
  go_wp2_with fail
  refine (note_go w0 w1 w1 ⟨bT, v, μ, [], c, A, E⟩ ⟨bT, v, μ, [], c, A, E⟩ (ef0 5 at0 0 false) (TtGo.refl HG.out.ok.T) (datE0 _ _ _ _) (fun k hk => by cases hk) hn).mono ?_
  rintro e w3 ⟨rfl, v3, G3⟩
  have HE := Lib.hid (HG.out.go G3)
  clear G3
  go_wp2_with fail
  refine ⟨rfl, _, by simp [results, Try.results20, go_sem] <;> rfl, ?_⟩
  exact ⟨rfl, v3, HE.out⟩

set_option maxHeartbeats 8000000 in
theorem tRead_sig (w0 w : World) (bT bA bC N : Nat) (v : Value) (μ : Wm) (z : Zt) (Z : List Zt) (c : Wc) (A : At3) (E : List EfD) (l : List Int) (h : RdOk w0 w ⟨bT, v, μ, z :: Z, c, A, E⟩ bA bC N l) (hN : 64 ≤ N) (hn : E.length ≤ 1000000) (hz : z.it.kind = 1) :
    Calls Try.prog 20 #[.pointer (some ⟨bT, 0, none⟩), .pointer (some ⟨bA, 0, none⟩)] w fun e w' => e = .returned (.tuple #[.int .i64 1, .int .i64 z.it.n, .int .i64 0]) ∧
      ∃ v' mv, RdGo w0 w ⟨bT, v, μ, z :: Z, c, A, E⟩ ⟨bT, v', { μ with v := mv }, Z, c, A, E ++ [ef0 4 at0 z.it.n false]⟩ bA bC N [] w' := by
  have HH := Lib.hid h
  have hN' : ¬ (N : Int) < 64 := by omega
  have HZ := Lib.hid hz
  clear h hN hz
  have hlk : ∀ (w3 : World) (b bx : Nat) (hm : w3.heap[b]? = some (.map (kindMap bx) 3)), (Instr.lookup 96 (.map (some b)) (.int .i64 1) false).run Try.prog w3 = .ok (.func (Fn.func 62) #[] #[.pointer (some ⟨bx, 0, none⟩)]) w3 := fun w3 b bx hm => kind_get hm 1 (by omega)
  have hlk2 : ∀ (w3 : World) (b bx : Nat) (hm : w3.heap[b]? = some (.map (kindMap bx) 3)), (Instr.lookup 96 (.map (some b)) (.int .i64 2) false).run Try.prog w3 = .ok (.func (Fn.func 63) #[] #[.pointer (some ⟨bx, 0, none⟩)]) w3 := fun w3 b bx hm => kind_get hm 2 (by omega)
  have HL := Lib.hid (And.intro hlk hlk2)
  clear hlk hlk2
  go_enter Try.func20, Try.ntmps20
  go_wp2_with fail
  refine (Arn.cap_any bA bC N l w HH.out.Ar).mono ?_
  rintro e w1 ⟨rfl, rfl⟩
  go_wp2_with fail
  refine (Arn.wipe_any bA bC N l w HH.out.Ar).mono ?_
  rintro e w1 ⟨rfl, C1, A1⟩
  have HG := Lib.hid (HH.out.wiped C1 A1)
  obtain ⟨_, _, _, t3, _⟩ := HG.out.ok.T.c3
  dsimp only at t3
  clear C1 A1
  go_wp2_with fail
  refine (oNext_far w0 w1 μ z Z c 64 HG.out.ok.T.W (by omega) (by rw [HZ.out]; omega)).mono ?_
  rintro e w2 ⟨rfl, F2, mv, O2⟩
  have HG2 := Lib.hid (HG.out.go (TtGo.of_wd (τ := ⟨bT, v, μ, z :: Z, c, A, E⟩) HG.out.ok.T F2 O2))
  clear F2 O2 t3
  go_wp2_with fail
  refine (kinds_any bT w2).mono ?_
  rintro e w3 ⟨b, bx, rfl, C3, hm, hx, hb1, hb2⟩
  have HG3 := Lib.hid (HG2.out.chg0 C3)
  have HX := Lib.hid (And.intro hx hb2)
  have hno := Lib.hid (show ¬ Tt.own ⟨bT, v, { μ with v := mv }, Z, c, A, E⟩ bx from fun ho => by have := (HG2.out.ok.T.own_lt bx ho).2; omega)
  have l1 := HL.out.1 w3 b bx hm
  rw [HZ.out]
  clear C3 hm hx hb1 hb2
  go_wp2_with fail
  refine (kSig_any w0 w3 ⟨bT, v, { μ with v := mv }, Z, c, A, E⟩ bx z.it.n (.slice none 0 0) _ HG3.out.ok.T HX.out.1 ⟨_, _, _, rfl⟩ hn hno.out).mono ?_
  rintro e w4 ⟨rfl, v4, G4⟩
  have HE := Lib.hid (HG3.out.go G4)
  clear G4
  go_wp2_with fail
  refine ⟨rfl, _, by simp [results, Try.results20, go_sem] <;> rfl, ?_⟩
  exact ⟨rfl, v4, mv, HE.out⟩

set_option maxHeartbeats 8000000 in
theorem tRead_fault (w0 w : World) (bT bA bC N : Nat) (v : Value) (μ : Wm) (z : Zt) (Z : List Zt) (c : Wc) (A : At3) (E : List EfD) (l : List Int) (h : RdOk w0 w ⟨bT, v, μ, z :: Z, c, A, E⟩ bA bC N l) (hN : 64 ≤ N) (hn : E.length ≤ 1000000) (hz : z.it.kind = 2) :
    Calls Try.prog 20 #[.pointer (some ⟨bT, 0, none⟩), .pointer (some ⟨bA, 0, none⟩)] w fun e w' => e = .returned (.tuple #[.int .i64 2, .int .i64 0, .int .i64 5]) ∧
      ∃ v' mv, RdGo w0 w ⟨bT, v, μ, z :: Z, c, A, E⟩ ⟨bT, v', { μ with v := mv }, Z, c, A, E ++ [ef0 3 at0 0 false]⟩ bA bC N [] w' := by
  have HH := Lib.hid h
  have hN' : ¬ (N : Int) < 64 := by omega
  have HZ := Lib.hid hz
  clear h hN hz
  have hlk : ∀ (w3 : World) (b bx : Nat) (hm : w3.heap[b]? = some (.map (kindMap bx) 3)), (Instr.lookup 96 (.map (some b)) (.int .i64 1) false).run Try.prog w3 = .ok (.func (Fn.func 62) #[] #[.pointer (some ⟨bx, 0, none⟩)]) w3 := fun w3 b bx hm => kind_get hm 1 (by omega)
  have hlk2 : ∀ (w3 : World) (b bx : Nat) (hm : w3.heap[b]? = some (.map (kindMap bx) 3)), (Instr.lookup 96 (.map (some b)) (.int .i64 2) false).run Try.prog w3 = .ok (.func (Fn.func 63) #[] #[.pointer (some ⟨bx, 0, none⟩)]) w3 := fun w3 b bx hm => kind_get hm 2 (by omega)
  have HL := Lib.hid (And.intro hlk hlk2)
  clear hlk hlk2
  go_enter Try.func20, Try.ntmps20
  go_wp2_with fail
  refine (Arn.cap_any bA bC N l w HH.out.Ar).mono ?_
  rintro e w1 ⟨rfl, rfl⟩
  go_wp2_with fail
  refine (Arn.wipe_any bA bC N l w HH.out.Ar).mono ?_
  rintro e w1 ⟨rfl, C1, A1⟩
  have HG := Lib.hid (HH.out.wiped C1 A1)
  obtain ⟨_, _, _, t3, _⟩ := HG.out.ok.T.c3
  dsimp only at t3
  clear C1 A1
  go_wp2_with fail
  refine (oNext_far w0 w1 μ z Z c 64 HG.out.ok.T.W (by omega) (by rw [HZ.out]; omega)).mono ?_
  rintro e w2 ⟨rfl, F2, mv, O2⟩
  have HG2 := Lib.hid (HG.out.go (TtGo.of_wd (τ := ⟨bT, v, μ, z :: Z, c, A, E⟩) HG.out.ok.T F2 O2))
  clear F2 O2 t3
  go_wp2_with fail
  refine (kinds_any bT w2).mono ?_
  rintro e w3 ⟨b, bx, rfl, C3, hm, hx, hb1, hb2⟩
  have HG3 := Lib.hid (HG2.out.chg0 C3)
  have HX := Lib.hid (And.intro hx hb2)
  have hno := Lib.hid (show ¬ Tt.own ⟨bT, v, { μ with v := mv }, Z, c, A, E⟩ bx from fun ho => by have := (HG2.out.ok.T.own_lt bx ho).2; omega)
  have l1 := HL.out.2 w3 b bx hm
  rw [HZ.out]
  clear C3 hm hx hb1 hb2
  go_wp2_with fail
  refine (kFault_any w0 w3 ⟨bT, v, { μ with v := mv }, Z, c, A, E⟩ bx z.it.n (.slice none 0 0) _ HG3.out.ok.T HX.out.1 ⟨_, _, _, rfl⟩ hn hno.out).mono ?_
  rintro e w4 ⟨rfl, v4, G4⟩
  have HE := Lib.hid (HG3.out.go G4)
  clear G4
  go_wp2_with fail
  refine ⟨rfl, _, by simp [results, Try.results20, go_sem] <;> rfl, ?_⟩
  exact ⟨rfl, v4, mv, HE.out⟩

set_option maxHeartbeats 8000000 in
theorem tRead_dat (w0 w : World) (bT bA bC N : Nat) (v : Value) (μ : Wm) (z : Zt) (Z : List Zt) (c : Wc) (A : At3) (E : List EfD) (l : List Int) (k : Nat) (bs : List Int) (Z2 : List Zt) (h : RdOk w0 w ⟨bT, v, μ, z :: Z, c, A, E⟩ bA bC N l) (hN : 64 ≤ N) (hn : E.length ≤ 1000000) (hz : z.it.kind = 0) (hk : k = min 64 z.it.bs.length) (hbs : bs = z.it.bs.take k) (hZ2 : Z2 = if k = z.it.bs.length then Z else z.cut k :: Z) :
    Calls Try.prog 20 #[.pointer (some ⟨bT, 0, none⟩), .pointer (some ⟨bA, 0, none⟩)] w fun e w' => e = .returned (.tuple #[.int .i64 0, .int .i64 (k : Nat), .int .i64 0]) ∧
      ∃ v' mv, RdGo w0 w ⟨bT, v, μ, z :: Z, c, A, E⟩ ⟨bT, v', { μ with v := mv }, Z2, c, A, E ++ [ef0 3 at0 (k : Nat) true]⟩ bA bC N bs w' := by
  have HH := Lib.hid h
  have hN' : ¬ (N : Int) < 64 := by omega
  have HN := Lib.hid hN
  have HZ := Lib.hid hz
  have HKM := Lib.hid hk
  have HBS := Lib.hid hbs
  have HZ2 := Lib.hid hZ2
  have hbl : bs.length = k := by rw [hbs, List.length_take]; omega
  have HBL := Lib.hid hbl
  clear h hN hz hk hbs hZ2 hbl
  have hlk : ∀ (w3 : World) (b bx : Nat) (hm : w3.heap[b]? = some (.map (kindMap bx) 3)), (Instr.lookup 96 (.map (some b)) (.int .i64 0) false).run Try.prog w3 = .ok (.func (Fn.func 61) #[] #[.pointer (some ⟨bx, 0, none⟩)]) w3 := fun w3 b bx hm => kind_get hm 0 (by omega)
  have HL := Lib.hid hlk
  clear hlk
  go_enter Try.func20, Try.ntmps20
  go_wp2_with fail
  refine (Arn.cap_any bA bC N l w HH.out.Ar).mono ?_
  rintro e w1 ⟨rfl, rfl⟩
  go_wp2_with fail
  refine (Arn.wipe_any bA bC N l w HH.out.Ar).mono ?_
  rintro e w1 ⟨rfl, C1, A1⟩
  have HG := Lib.hid (HH.out.wiped C1 A1)
  obtain ⟨_, _, _, t3, _⟩ := HG.out.ok.T.c3
  dsimp only at t3
  clear C1 A1
  go_wp2_with fail
  refine (oNext_dat w0 w1 μ z Z c 64 k HG.out.ok.T.W (by omega) HZ.out (by have := HKM.out; omega)).mono ?_
  rintro e w2 ⟨rv, rfl, F2, R2, fo2, mv, O2⟩
  rw [← HZ2.out] at O2
  rw [← HBS.out] at R2
  have hrl : ∀ j, rv.ownBlock = some j → w1.heap.size ≤ j := fun j hj => (R2.lt j hj).1
  have HG2 := Lib.hid (HG.out.go (TtGo.of_wd (τ := ⟨bT, v, μ, z :: Z, c, A, E⟩) HG.out.ok.T F2 O2))
  obtain ⟨ar, cr, rfl, _, _⟩ := owns_srcAt R2
  have HR := Lib.hid (And.intro (owns_low R2 HG.out.ok.T.W.c0.size) hrl)
  clear F2 O2 t3 R2 fo2 hrl
  go_wp2_with fail
  refine (kinds_any bT w2).mono ?_
  rintro e w3 ⟨b, bx, rfl, C3, hm, hx, hb1, hb2⟩
  have HG3 := Lib.hid (HG2.out.chg0 C3)
  have HX := Lib.hid (And.intro hx hb2)
  have hno := Lib.hid (show ¬ Tt.own ⟨bT, v, { μ with v := mv }, Z2, c, A, E⟩ bx from fun ho => by have := (HG2.out.ok.T.own_lt bx ho).2; omega)
  have l1 := HL.out w3 b bx hm
  have HR3 := Lib.hid (owns_keep HR.out.1 C3 (by simp))
  have HRO := Lib.hid (show ∀ j, (Value.slice ar bs.length cr).ownBlock = some j → ¬ Tt.own ⟨bT, v, { μ with v := mv }, Z2, c, A, E⟩ j ∧ j ≠ bA ∧ j ≠ bC from fun j hj => by
    rw [HBL.out] at hj
    have h1 := HR.out.2 j hj
    refine ⟨fun ho => ?_, fun e => ?_, fun e => ?_⟩
    · rcases ho with ho | ho | ho | ⟨y, hy, ho⟩
      · exact ho (HG.out.ok.T.W.hi j h1)
      · have := heap_lt HG.out.ok.T.hT; dsimp only at ho this; omega
      · have := HG.out.ok.T.row.lt j ho; omega
      · have := ((HG.out.ok.T.dat y hy).blk j ho).2.2.2.2; omega
    · have := heap_lt HG.out.ok.Ar.hA; omega
    · have := heap_lt HG.out.ok.Ar.hC; omega)
  clear C3 hm hx hb1 hb2
  go_wp2_with fail
  have hdat := kDat_any w0 w3 ⟨bT, v, { μ with v := mv }, Z2, c, A, E⟩ bx bA bC N ar cr bs HG3.out.ok HX.out.1 (by rw [HBL.out]; exact HR3.out) HRO.out (by rw [HBL.out]; have := HKM.out; have := HN.out; omega) hn hno.out
  rw [HBL.out] at hdat
  refine hdat.mono ?_
  rintro e w4 ⟨he, v4, R4, O4, G4⟩
  rw [HBL.out] at he R4 G4
  subst he
  have HE : Hid (RdGo w0 w ⟨bT, v, μ, z :: Z, c, A, E⟩ ⟨bT, v4, { μ with v := mv }, Z2, c, A, E ++ [ef0 3 at0 (k : Nat) true]⟩ bA bC N bs w4) := Lib.hid ⟨R4, HG3.out.c.trans O4 (fun x hx => by
    rcases hx with hx | hx | hx | hx
    · exact (HG3.out.own x hx).imp .inl id
    · exact .inl (.inr (.inl hx))
    · exact .inl (.inr (.inr hx))
    · have hx' : (Value.slice ar k cr).ownBlock = some x := hx
      exact .inr (Nat.le_trans HG.out.c.size (HR.out.2 x hx'))), fun j hj => (G4 j hj).elim (HG3.out.own j) (fun e => .inr (Nat.le_trans HG3.out.c.size e))⟩
  clear R4 O4 G4 hdat
  go_wp2_with fail
  refine ⟨rfl, _, by simp [results, Try.results20, go_sem] <;> rfl, ?_⟩
  exact ⟨rfl, v4, mv, HE.out⟩
end Go.Proofs.Ytmcbgpjphjacjaa
