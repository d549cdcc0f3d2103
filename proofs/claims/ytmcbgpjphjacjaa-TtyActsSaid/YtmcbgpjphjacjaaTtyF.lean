/-
  Layer 17: what is done with what came, by its kind.
-/
import Derived.Test.YtmcbgpjphjacjaaTtyE
import Derived.Deep.RegionHeld3
namespace Go.Proofs.Ytmcbgpjphjacjaa
set_option linter.unusedVariables false
set_option linter.unusedSimpArgs false
set_option maxRecDepth 100000
open Go.RowKit

set_option maxHeartbeats 4000000 in
theorem kSig_any (w0 w : World) (τ : Tt) (bx : Nat) (n : Int) (sv pa : Value) (h : TtIs w0 w τ) (hx : w.heap[bx]? = some (.cells #[.pointer (some ⟨τ.bT, 0, none⟩)] 32 (0, 0))) (hs : ∃ ao k c, sv = .slice ao k c) (hn : τ.E.length ≤ 1000000) (hw : ¬ τ.own bx) :
    Calls Try.prog 62 #[.agg #[.int .i64 n, sv], pa, .pointer (some ⟨bx, 0, none⟩)] w fun e w' => e = .returned (.tuple #[.int .i64 n, .int .i64 0]) ∧ ∃ v', TtGo w0 w τ { τ with v := v', E := τ.E ++ [ef0 4 at0 n false] } w' := by
  obtain ⟨ao, k, c, rfl⟩ := hs
  have B := h.box0 (.cells #[.int .i64 n, .slice ao k c] 99)
  have k0 : Chg [] w (w.alloc (.cells #[.int .i64 n, .slice ao k c] 99)) := (Chg.refl _ _).alloc _
  have hx1 := k0.heap hx (by simp)
  have x0 : (w.alloc (.cells #[.int .i64 n, .slice ao k c] 99)).cell? ⟨bx, 0, none⟩ = some (.pointer (some ⟨τ.bT, 0, none⟩)) := by rw [cell_of_heap hx1]; rfl
  have x1 : (w.alloc (.cells #[.int .i64 n, .slice ao k c] 99)).cell? ⟨w.heap.size, 0, none⟩ = some (.int .i64 n) := by rw [cell_of_heap B.1]; rfl
  have hb1 : ¬ bx = w.heap.size := by have := heap_lt hx; omega
  have HH := Lib.hid h
  have HB := Lib.hid B
  have HK := Lib.hid k0
  clear h B k0 hx hx1
  go_enter Try.func62, Try.ntmps62
  go_wp2_with fail
  refine (note_at w0 _ (w.alloc (.cells #[.int .i64 n, .slice ao k c] 99)) τ τ (ef0 4 at0 n false) (w.heap.size + 1) (by simp) (TtGo.refl HB.out.2.2) (datE0 _ _ _ _) (fun k hk => by cases hk) hn).mono ?_
  rintro e w3 ⟨rfl, v3, G3⟩
  have BX := G3.box ⟨HB.out.1, HB.out.2.1⟩
  have y1 : w3.cell? ⟨w.heap.size, 0, none⟩ = some (.int .i64 n) := by rw [cell_of_heap BX.1]; rfl
  have HG3 := Lib.hid G3
  clear G3 BX
  go_wp2_with fail
  go_ret2
  exact ⟨rfl, v3, ((TtGo.refl HH.out).chg0 HK.out).trans HG3.out⟩

set_option maxHeartbeats 4000000 in
theorem kFault_any (w0 w : World) (τ : Tt) (bx : Nat) (n : Int) (sv pa : Value) (h : TtIs w0 w τ) (hx : w.heap[bx]? = some (.cells #[.pointer (some ⟨τ.bT, 0, none⟩)] 32 (0, 0))) (hs : ∃ ao k c, sv = .slice ao k c) (hn : τ.E.length ≤ 1000000) (hw : ¬ τ.own bx) :
    Calls Try.prog 63 #[.agg #[.int .i64 n, sv], pa, .pointer (some ⟨bx, 0, none⟩)] w fun e w' => e = .returned (.tuple #[.int .i64 0, .int .i64 5]) ∧ ∃ v', TtGo w0 w τ { τ with v := v', E := τ.E ++ [ef0 3 at0 0 false] } w' := by
  obtain ⟨ao, k, c, rfl⟩ := hs
  have B := h.box0 (.cells #[.int .i64 n, .slice ao k c] 99)
  have k0 : Chg [] w (w.alloc (.cells #[.int .i64 n, .slice ao k c] 99)) := (Chg.refl _ _).alloc _
  have hx1 := k0.heap hx (by simp)
  have x0 : (w.alloc (.cells #[.int .i64 n, .slice ao k c] 99)).cell? ⟨bx, 0, none⟩ = some (.pointer (some ⟨τ.bT, 0, none⟩)) := by rw [cell_of_heap hx1]; rfl
  have hb1 : ¬ bx = w.heap.size := by have := heap_lt hx; omega
  have HH := Lib.hid h
  have HB := Lib.hid B
  have HK := Lib.hid k0
  clear h B k0 hx hx1
  go_enter Try.func63, Try.ntmps63
  go_wp2_with fail
  refine (note_at w0 _ (w.alloc (.cells #[.int .i64 n, .slice ao k c] 99)) τ τ (ef0 3 at0 0 false) (w.heap.size + 1) (by simp) (TtGo.refl HB.out.2.2) (datE0 _ _ _ _) (fun k hk => by cases hk) hn).mono ?_
  rintro e w3 ⟨rfl, v3, G3⟩
  have HG3 := Lib.hid G3
  clear G3
  go_wp2_with fail
  go_ret2
  exact ⟨rfl, v3, ((TtGo.refl HH.out).chg0 HK.out).trans HG3.out⟩

theorem cho_owns {O : Nat → Prop} {w w' : World} {base : Nat} {e : TypeId} {v : Value} {n : Nat} {xs : List Value} (h : ChgO O w w') (hr : w.ownsRow base e 1 v n xs) (hn : ∀ k, v.ownBlock = some k → ¬ O k) : w'.ownsRow base e 1 v n xs := by
  obtain ⟨S, c, hS⟩ := h
  exact owns_keep hr c (fun k hk hm => hn k hk (hS k hm (hr.lt k hk).2))

theorem cho_arena {O : Nat → Prop} {w w' : World} {bA bC N : Nat} {l : List Int} (h : ChgO O w w') (a : Arn.ArenaIs w bA bC N l) (h1 : ¬ O bA) (h2 : ¬ O bC) : Arn.ArenaIs w' bA bC N l := by
  obtain ⟨S, c, hS⟩ := h
  exact a.chg c (fun hm => h1 (hS _ hm (heap_lt a.hA))) (fun hm => h2 (hS _ hm (heap_lt a.hC)))

theorem arn_src {w : World} {base : Nat} {ao : Option Addr} {n c : Nat} {bs : List Int} {S : List Nat} (h : w.ownsRow base 5 1 (.slice ao n c) n (valsOf .u8 bs)) (hS : ∀ k, (Value.slice ao n c).ownBlock = some k → k ∉ S) : Arn.SrcIs w ao n bs S := by
  have hl : bs.length = n := by have := h.1; rw [valsOf_length] at this; omega
  refine ⟨hl, fun h0 => ?_⟩
  rcases h.2 with ⟨_, h1⟩ | ⟨g, cap, cur, e, _⟩
  · omega
  · injection e with e1
    subst e1
    exact ⟨⟨g, 0, none⟩, rfl, hS g rfl, fun j v hv => h.cells (g := g) rfl j v hv⟩

/-- 'clear' of a row of the call's own, deferred. -/
theorem clear_run {w : World} {base : Nat} {ao : Option Addr} {n c : Nat} {bs : List Int} (h : w.ownsRow base 5 1 (.slice ao n c) n (valsOf .u8 bs)) (ty : TypeId) :
    ∃ w', (Builtin.clear_ #[42] ty #[.slice ao n c]).run Try.prog w = .ok (.tuple #[]) w' ∧ Chg (Value.slice ao n c).ownBlock.toList w w' := by
  rcases h.2 with ⟨e, rfl⟩ | ⟨g, cap, cur, e, hb, hg, h1, h2, h3, h4⟩
  · injection e with e1 _ e3
    subst e1 e3
    exact ⟨w, by simp [Builtin.clear_, run_underlying Try.underlying42], Chg.refl _ _⟩
  · injection e with e1 _ e3
    subst e1 e3
    have hz : ∀ w : World, (zeroValue 5).run Try.prog w = .ok (.int .u8 0) w := fun w => by kernel_rfl
    by_cases h0 : n = 0
    · subst h0
      exact ⟨w, by simp [Builtin.clear_, run_underlying Try.underlying42], Chg.refl _ _⟩
    · have hzc : (Builtin.zeroCells (Value.int .u8 0).cells n).toList = List.replicate n (Value.int .u8 0) := by
        rw [show (Value.int .u8 0).cells = #[Value.int .u8 0] from rfl]
        simp [Builtin.zeroCells]
        apply List.ext_getElem
        · simp
        · intro i h1 h2
          simp [Nat.mod_one]
      have hst := run_storeCells_at Try.prog g 0 5 (List.replicate n (Value.int .u8 0)) 0 cur w hg (by simp; omega) (by intro v hv'; rw [List.eq_of_mem_replicate hv']; rfl)
      simp only [Nat.add_zero] at hst
      refine ⟨w.setRow g (List.take 0 cur.toList ++ List.replicate n (Value.int .u8 0) ++ List.drop (0 + (List.replicate n (Value.int .u8 0)).length) cur.toList).toArray, ?_, (Chg.refl _ _).setRow (g := g) (Or.inl (by simp [Value.ownBlock])) _⟩
      obtain ⟨m, rfl⟩ : ∃ m, n = m + 1 := ⟨n - 1, by omega⟩
      simp [Builtin.clear_, run_underlying Try.underlying42, hz, hzc, hst]

/-- A terminal and an arena beside it. -/
structure RdOk (w0 w : World) (τ : Tt) (bA bC N : Nat) (l : List Int) : Prop where
  T : TtIs w0 w τ
  Ar : Arn.ArenaIs w bA bC N l
  nA : ¬ τ.own bA
  nC : ¬ τ.own bC
  lA : w0.heap.size ≤ bA
  lC : w0.heap.size ≤ bC

def KDatPost (w0 : World) (τ : Tt) (bA bC N : Nat) (bs : List Int) (rv : Value) (w : World) (e : Ending) (w' : World) : Prop :=
  e = .returned (.tuple #[.int .i64 (bs.length : Nat), .int .i64 0]) ∧ ∃ v', RdOk w0 w' { τ with v := v', E := τ.E ++ [ef0 3 at0 (bs.length : Nat) true] } bA bC N bs ∧ ChgO (fun x => τ.own x ∨ x = bA ∨ x = bC ∨ rv.ownBlock = some x) w w' ∧ ∀ k, Tt.own { τ with v := v', E := τ.E ++ [ef0 3 at0 (bs.length : Nat) true] } k → τ.own k ∨ w.heap.size ≤ k

set_option maxHeartbeats 8000000 in
theorem kDat_any (w0 w : World) (τ : Tt) (bx bA bC N : Nat) (ao : Option Addr) (c : Nat) (bs : List Int) (h : RdOk w0 w τ bA bC N []) (hx : w.heap[bx]? = some (.cells #[.pointer (some ⟨τ.bT, 0, none⟩)] 32 (0, 0)))
    (hr : w.ownsRow w0.heap.size 5 1 (.slice ao bs.length c) bs.length (valsOf .u8 bs)) (hro : ∀ k, (Value.slice ao bs.length c).ownBlock = some k → ¬ τ.own k ∧ k ≠ bA ∧ k ≠ bC) (hb : bs.length ≤ N) (hn : τ.E.length ≤ 1000000) (hw : ¬ τ.own bx) :
    Calls Try.prog 61 #[.agg #[.int .i64 0, .slice ao bs.length c], .pointer (some ⟨bA, 0, none⟩), .pointer (some ⟨bx, 0, none⟩)] w (KDatPost w0 τ bA bC N bs (.slice ao bs.length c) w) := by
  obtain ⟨k, hk⟩ : ∃ k, k = bs.length := ⟨_, rfl⟩
  have HKL := Lib.hid hk
  rw [← hk] at hr hro hb ⊢
  clear hk
  have B := h.T.box0 (.cells #[.int .i64 0, .slice ao k c] 99)
  have k0 : Chg [] w (w.alloc (.cells #[.int .i64 0, .slice ao k c] 99)) := (Chg.refl _ _).alloc _
  have hx1 := k0.heap hx (by simp)
  have x0 : (w.alloc (.cells #[.int .i64 0, .slice ao k c] 99)).cell? ⟨bx, 0, none⟩ = some (.pointer (some ⟨τ.bT, 0, none⟩)) := by rw [cell_of_heap hx1]; rfl
  have x1 : (w.alloc (.cells #[.int .i64 0, .slice ao k c] 99)).cell? ⟨w.heap.size, 1, none⟩ = some (.slice ao k c) := by rw [cell_of_heap B.1]; rfl
  have hb1 : ¬ bx = w.heap.size := by have := heap_lt hx; omega
  have HH := Lib.hid h
  have HB := Lib.hid B
  have HK := Lib.hid k0
  have HR := Lib.hid hr
  have HRO := Lib.hid hro
  clear h B k0 hx hx1 hr hro
  refine calls_of_wp_b Try.func61 rfl ?_
  simp only [Try.ntmps61, List.size_toArray, List.length_cons, List.length_nil, Nat.reduceAdd, Nat.reduceSub, Array.replicate_succ, Array.replicate_zero, List.push_toArray, List.append_toArray, List.nil_append, List.cons_append]
  go_wp2_with fail
  refine (note_at w0 _ (w.alloc (.cells #[.int .i64 0, .slice ao k c] 99)) τ τ (ef0 3 at0 (k : Nat) true) (w.heap.size + 1) (by simp) (TtGo.refl HB.out.2.2) (datE0 _ _ _ _) (fun k hk => by cases hk) hn).mono ?_
  rintro e w3 ⟨rfl, v3, G3⟩
  have BX := G3.box ⟨HB.out.1, HB.out.2.1⟩
  have y0 : w3.cell? ⟨w.heap.size, 1, none⟩ = some (.slice ao k c) := by rw [cell_of_heap BX.1]; rfl
  have HBX := Lib.hid BX
  have HG3 := Lib.hid G3
  clear G3 BX x0 x1
  go_wp2_with fail
  have HOG := Lib.hid (show ∀ j, (Value.slice ao k c).ownBlock = some j → j ∉ [bA, bC] from fun j hj => by have := HRO.out j hj; simp; omega)
  have A3 := Lib.hid (cho_arena HG3.out.c (HH.out.Ar.chg HK.out (by simp) (by simp)) HH.out.nA HH.out.nC)
  have R3 := Lib.hid (cho_owns HG3.out.c (owns_keep HR.out HK.out (by simp)) (fun j hj => (HRO.out j hj).1))
  have hbA : ¬ w.heap.size = bA := by have := heap_lt HH.out.Ar.hA; omega
  have hbC : ¬ w.heap.size = bC := by have := heap_lt HH.out.Ar.hC; omega
  have hNB := Lib.hid (show w.heap.size ∉ [bA, bC] by simp; omega)
  go_region_held3 (fun w' => w'.cell? ⟨w.heap.size, 1, none⟩ = some (.slice ao k c)) (first | (exact C4.cell y0 hNB.out) | go_keep)
    (first
      | (go_at_call 22; refine (Arn.insert_any bA bC N [] 0 ao k c bs _ A3.out.drew (arn_src (owns_keep R3.out ((Chg.refl [] w3).drew) (by simp)) HOG.out)).mono ?_; rintro e w4 ⟨rfl, C4', A4⟩; have C4 : Chg [bA, bC] w3 w4 := C4'.of_drew))
  go_wp2_with fail
  have hE : Arn.insE N 0 0 k = 0 := by unfold Arn.insE; rw [if_neg (by omega), if_neg (by omega)]
  have hL : Arn.insL N [] 0 bs = bs := by
    unfold Arn.insL
    rw [if_pos (by rw [← HKL.out]; exact hE)]
    simp
  rw [hL] at A4
  have R4 := owns_keep R3.out C4 HOG.out
  obtain ⟨w5, hr5, C5⟩ := clear_run R4 0
  refine ⟨.tuple #[], w5, ⟨_, _, _, _, rfl⟩, by simp [invoke, builtin, hr5, Result.andThen], .tuple #[.int .i64 (k : Nat), .int .i64 (Arn.insE N 0 0 k)], by simp [results, Try.results61, go_sem], ?_⟩
  have hnew : ∀ j, (Value.slice ao k c).ownBlock = some j → ¬ Tt.own { τ with v := v3, E := τ.E ++ [ef0 3 at0 (k : Nat) true] } j := fun j hj => HG3.out.free (Nat.lt_of_lt_of_le (HR.out.lt j hj).2 HK.out.size) (HRO.out j hj).1
  have nA := HG3.out.free (Nat.lt_of_lt_of_le (heap_lt HH.out.Ar.hA) HK.out.size) HH.out.nA
  have nC := HG3.out.free (Nat.lt_of_lt_of_le (heap_lt HH.out.Ar.hC) HK.out.size) HH.out.nC
  have mem5 : ∀ x ∈ (Value.slice ao k c).ownBlock.toList, (Value.slice ao k c).ownBlock = some x := fun x hx => by simpa [Option.mem_toList] using hx
  have T5 := (HG3.out.is.chg C4 (fun x hx => by
    rcases List.mem_cons.1 hx with e | e
    · rw [e]; exact ⟨nA, HH.out.lA⟩
    · rw [List.mem_singleton.1 e]; exact ⟨nC, HH.out.lC⟩)).chg C5 (fun x hx => ⟨hnew x (mem5 x hx), (HR.out.lt x (mem5 x hx)).1⟩)
  have A5 := A4.chg C5 (fun hm => (HRO.out _ (mem5 _ hm)).2.1 rfl) (fun hm => (HRO.out _ (mem5 _ hm)).2.2 rfl)
  have G0 := ((TtGo.refl HH.out.T).chg0 HK.out).trans HG3.out
  refine ⟨by rw [hE, HKL.out], v3, ⟨by rw [← HKL.out]; exact T5, A5, by rw [← HKL.out]; exact nA, by rw [← HKL.out]; exact nC, HH.out.lA, HH.out.lC⟩, ?_, by rw [← HKL.out]; exact G0.own⟩
  have O1 : ChgO (fun x => τ.own x ∨ x = bA ∨ x = bC ∨ (Value.slice ao k c).ownBlock = some x) w w3 := G0.c.mono (fun x h => .inl h)
  refine (O1.trans (ChgO.of C4 (fun x hx => ?_)) (fun x h => .inl h)).trans (ChgO.of C5 (fun x hx => .inr (.inr (.inr (mem5 x hx))))) (fun x h => .inl h)
  rcases List.mem_cons.1 hx with e | e
  · exact .inr (.inl e)
  · exact .inr (.inr (.inl (List.mem_singleton.1 e)))
end Go.Proofs.Ytmcbgpjphjacjaa
