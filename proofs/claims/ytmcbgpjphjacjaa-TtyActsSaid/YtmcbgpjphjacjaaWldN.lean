/-
  Layer 16: the contract of Next.
-/
import Derived.Test.YtmcbgpjphjacjaaWldB
namespace Go.Proofs.Ytmcbgpjphjacjaa
set_option linter.unusedVariables false
set_option maxRecDepth 100000
open Go.RowKit

set_option maxHeartbeats 1000000 in
theorem wNext_bad (f : Nat → Nat) (bW bQ : Nat) (v iv wv gv sv : Value) (ivs : List Value) (Z : List Zt) (p : Nat) (c : Wc) (most : Int) (w : World) (h : WldIs w f bW bQ v iv wv gv sv ivs Z p c) (hm : most < 1) :
    Calls Try.prog 42 #[.pointer (some ⟨bW, 0, none⟩), .int .i64 most] w fun e w' => e = .returned (.tuple #[.int .i64 0, .int .i64 0, .slice none 0 0, .int .i64 3]) ∧ w = w' := by
  clear h
  go_enter Try.func42, Try.ntmps42
  go_wp2_with fail
  exact ⟨rfl, _, by simp [results, Try.results42, go_sem], rfl, rfl⟩

set_option maxHeartbeats 1000000 in
theorem wNext_none (f : Nat → Nat) (bW bQ : Nat) (v iv wv gv sv : Value) (ivs : List Value) (p : Nat) (c : Wc) (most : Int) (w : World) (h : WldIs w f bW bQ v iv wv gv sv ivs [] p c) (hm : 1 ≤ most) :
    Calls Try.prog 42 #[.pointer (some ⟨bW, 0, none⟩), .int .i64 most] w fun e w' => e = .returned (.tuple #[.int .i64 0, .int .i64 0, .slice none 0 0, .int .i64 6]) ∧ w = w' := by
  have h0 := h.cells.1
  have hq := h.q
  have hm' : ¬ most < 1 := by omega
  clear h
  go_enter Try.func42, Try.ntmps42
  go_wp2_with fail
  refine (qPeek_none bQ v p _ hq).mono ?_
  rintro e w' ⟨rfl, rfl⟩
  go_wp2_with fail
  exact ⟨rfl, _, by simp [results, Try.results42, go_sem], rfl, rfl⟩

theorem WldIs.pop {w w' : World} {f : Nat → Nat} {bW bQ : Nat} {v v' iv wv gv sv : Value} {ivs : List Value} {z : Zt} {Z : List Zt} {p : Nat} {c : Wc} (h : WldIs w f bW bQ v iv wv gv sv ivs (z :: Z) p c) (k : Chg (bQ :: v.ownBlock.toList) w w') (q : QueIs w' bQ v' (Z.map (·.e)) p) (hv : v'.ownBlock = v.ownBlock) :
    ChgF f w w' ∧ WldIs w' f bW bQ v' iv wv gv sv ivs Z p c := by
  have hS : ∀ x ∈ bQ :: v.ownBlock.toList, f x = 2 ∨ f x = 3 := fun x hx => by
    rcases List.mem_cons.1 hx with e | e
    · rw [e]; exact .inl h.f2
    · exact .inr (h.f3 x (by simpa [Option.mem_toList] using e))
  have no : ∀ x, f x ≠ 2 → f x ≠ 3 → x ∉ bQ :: v.ownBlock.toList := fun x h2 h3 hm => (hS x hm).elim h2 h3
  refine ⟨ChgF.of k (fun x hx => by rcases hS x hx with e | e <;> omega), ⟨k.heap h.hW (no _ (by rw [h.f1]; omega) (by rw [h.f1]; omega)), q, owns_keep h.row k (fun j hj => no _ (by rw [h.f4 j hj]; omega) (by rw [h.f4 j hj]; omega)), owns_keep h.rw_ k (fun j hj => no _ (by rw [h.f5 j hj]; omega) (by rw [h.f5 j hj]; omega)),
    owns_keep h.rg k (fun j hj => no _ (by rw [h.f6 j hj]; omega) (by rw [h.f6 j hj]; omega)), owns_keep h.rs k (fun j hj => no _ (by rw [h.f7 j hj]; omega) (by rw [h.f7 j hj]; omega)), h.few, fun y hy => (h.zs y (List.mem_cons_of_mem _ hy)).chg k (fun x hx => by rcases hS x hx with e | e <;> omega), ?_, h.f1, h.f2, by rw [hv]; exact h.f3, h.f4, h.f5, h.f6, h.f7⟩⟩
  have := h.ap
  simp only [List.map_cons, List.nodup_cons] at this
  exact this.2

/-- The item's value among the world's. -/
theorem WldIs.item {w : World} {f : Nat → Nat} {bW bQ : Nat} {v iv wv gv sv : Value} {ivs : List Value} {z : Zt} {Z : List Zt} {p : Nat} {c : Wc} (h : WldIs w f bW bQ v iv wv gv sv ivs (z :: Z) p c) :
    ∃ g cap, iv = .slice (some ⟨g, 0, none⟩) ivs.length cap ∧ z.ix < ivs.length ∧ w.cell? ⟨g, z.ix, none⟩ = some z.val := by
  have hz := (h.zs z List.mem_cons_self).iv
  have hlt : z.ix < ivs.length := (List.getElem?_eq_some_iff.1 hz).1
  rcases h.row.2 with ⟨_, h0⟩ | ⟨g, cap, cur, e, _⟩
  · omega
  · refine ⟨g, cap, e, hlt, ?_⟩
    have hr := h.row
    rw [e] at hr
    have := hr.cells (g := g) rfl z.ix z.val hz
    rwa [Addr.add_lit, Nat.zero_add] at this

def NxFar (f : Nat → Nat) (bW bQ : Nat) (iv wv gv sv : Value) (ivs : List Value) (z : Zt) (Z : List Zt) (p : Nat) (c : Wc) (w : World) (e : Ending) (w' : World) : Prop :=
  ∃ v', e = .returned (.tuple #[.int .i64 z.it.kind, .int .i64 z.it.n, .slice none 0 0, .int .i64 0]) ∧ ChgF f w w' ∧ WldIs w' f bW bQ v' iv wv gv sv ivs Z p c

set_option maxHeartbeats 4000000 in
theorem wNext_far (f : Nat → Nat) (bW bQ : Nat) (v iv wv gv sv : Value) (ivs : List Value) (z : Zt) (Z : List Zt) (p : Nat) (c : Wc) (most : Int) (w : World) (h : WldIs w f bW bQ v iv wv gv sv ivs (z :: Z) p c) (hm : 1 ≤ most) (hz : z.it.kind ≠ 0) :
    Calls Try.prog 42 #[.pointer (some ⟨bW, 0, none⟩), .int .i64 most] w (NxFar f bW bQ iv wv gv sv ivs z Z p c w) := by
  have hq := h.q
  have hm' : ¬ most < 1 := by omega
  obtain ⟨gi, ci, rfl, hix, hval⟩ := h.item
  obtain ⟨x0, x1, _⟩ := h.cells
  have hZ := h.zs z List.mem_cons_self
  have hix' : (z.ix : Int) < (ivs.length : Int) := by omega
  have HH := Lib.hid h
  have ei := hZ.ei
  have t1 : ∀ (n : Int) (w : World), (Instr.typeAssert (.iface 121 (.agg #[.int .i64 n])) 20 121 true).run Try.prog w = .ok (.tuple #[.agg #[.int .i64 n], .bool true]) w := fun n w => by kernel_rfl
  have t2 : ∀ (w : World), (Instr.typeAssert (.iface 135 (.agg #[])) 20 121 true).run Try.prog w = .ok (.tuple #[.agg #[.int .i64 0], .bool false]) w := fun w => by kernel_rfl
  have t3 : ∀ (w : World), (Instr.typeAssert (.iface 135 (.agg #[])) 20 122 true).run Try.prog w = .ok (.tuple #[.pointer none, .bool false]) w := fun w => by kernel_rfl
  rcases hZ.kd with ⟨k1, k2, k3⟩ | ⟨k1, kn, k2, k3⟩ | ⟨k1, _⟩
  · have HK := Lib.hid k1
    rw [k3] at hval
    clear h hZ hix k1 k2 k3
    go_enter Try.func42, Try.ntmps42
    go_wp2_with fail
    refine (qPeek_any bQ v _ _ p _ hq).mono ?_
    rintro e w1 ⟨rfl, C1⟩
    rw [ei]
    replace x0 := C1.cell x0 (by simp)
    replace x1 := C1.cell x1 (by simp)
    replace hval := C1.cell hval (by simp)
    have H1 := Lib.hid (HH.out.chg0 C1)
    have HC1 := Lib.hid C1
    clear C1 hq ei
    have k6 : Chg [] w1 (w1.alloc (.cells #[.int .i64 z.it.n] 121)) := (Chg.refl _ _).alloc _
    have y0 := k6.cell x0 (by simp)
    have H6 := Lib.hid (H1.out.chg0 k6)
    have s0 : (w1.alloc (.cells #[.int .i64 z.it.n] 121)).cell? ⟨w1.heap.size, 0, none⟩ = some (.int .i64 z.it.n) := by rw [cell_of_heap (alloc_heap w1 _)]; rfl
    have HC6 := Lib.hid (HC1.out.trans k6 (U := []) (by simp) (by simp))
    have HN := Lib.hid (show w1.heap.size ∉ bQ :: v.ownBlock.toList from fun hm => by
      rcases List.mem_cons.1 hm with e | e
      · have := H1.out.q.lt; omega
      · have := H1.out.q.lt2 _ (by simpa [Option.mem_toList] using e); omega)
    clear k6
    go_wp2_with fail
    refine (qPop_any bQ v _ _ p _ H6.out.q).mono ?_
    rintro e w3 ⟨rfl, C3, v3, q3, e3⟩
    have hP := H6.out.pop C3 q3 e3
    have z0 := C3.cell s0 HN.out
    have HP := Lib.hid hP
    clear C3 q3 e3 hP s0 y0
    go_wp2_with fail
    go_quiet (fail)
    go_wp2_with fail
    refine ⟨rfl, _, by simp [results, Try.results42, go_sem] <;> rfl, v3, by rw [HK.out], ((ChgF.of0 HC6.out).trans HP.out.1).trans (ChgF.of0 ((Chg.refl _ _).drewN _)), HP.out.2.chg0 ((Chg.refl _ _).drewN _)⟩
  · have HK := Lib.hid k1
    have HKN := Lib.hid kn
    rw [k3] at hval
    clear h hZ hix k1 k2 k3 kn
    go_enter Try.func42, Try.ntmps42
    go_wp2_with fail
    refine (qPeek_any bQ v _ _ p _ hq).mono ?_
    rintro e w1 ⟨rfl, C1⟩
    rw [ei]
    replace x0 := C1.cell x0 (by simp)
    replace x1 := C1.cell x1 (by simp)
    replace hval := C1.cell hval (by simp)
    have H1 := Lib.hid (HH.out.chg0 C1)
    have HC1 := Lib.hid C1
    clear C1 hq ei
    go_wp2_with fail
    refine (qPop_any bQ v _ _ p _ H1.out.q).mono ?_
    rintro e w3 ⟨rfl, C3, v3, q3, e3⟩
    have HP := Lib.hid (H1.out.pop C3 q3 e3)
    clear C3 q3 e3
    go_wp2_with fail
    refine ⟨rfl, _, by simp [results, Try.results42, go_sem] <;> rfl, v3, by rw [HK.out, HKN.out], (ChgF.of0 HC1.out).trans HP.out.1, HP.out.2⟩
  · exact absurd k1 hz
end Go.Proofs.Ytmcbgpjphjacjaa
