import Derived.Test.YtafmnkngjjnpiaaGreatDoorWldC
import Derived.Test.YtafmnkngjjnpiaaGreatDoorWldB
namespace Go.Proofs.YtafmnkngjjnpiaaGreatDoor
set_option linter.unusedVariables false
set_option maxRecDepth 100000
open Go.RowKit
set_option maxHeartbeats 1000000 in
theorem wNext_none (f : Nat → Nat) (bW bQ : Nat) (v iv wv gv sv : Value) (ivs : List Value) (p : Nat) (c : Wc) (most : Int) (w : World) (h : WldIs w f bW bQ v iv wv gv sv ivs [] p c) (hm : 1 ≤ most) :
    Calls Tryz.prog 194 #[.pointer (some ⟨bW, 0, none⟩), .int .i64 most] w fun e w' => e = .returned (.tuple #[.int .i64 0, .int .i64 0, .slice none 0 0, .int .i64 6]) ∧ w = w' := by
  have h0 := h.cells.1
  have hq := h.q
  have hm' : ¬ most < 1 := by omega
  clear h
  go_enter Tryz.func194, Tryz.ntmps194
  go_wp2_with fail
  refine (qPeek_none bQ v p _ hq).mono ?_
  rintro e w' ⟨rfl, rfl⟩
  go_wp2_with fail
  exact ⟨rfl, _, by simp [results, Tryz.results194, go_sem], rfl, rfl⟩
theorem WldIs.pop {w w' : World} {f : Nat → Nat} {bW bQ : Nat} {v v' iv wv gv sv : Value} {ivs : List Value} {z : Zt} {Z : List Zt} {p : Nat} {c : Wc} (h : WldIs w f bW bQ v iv wv gv sv ivs (z :: Z) p c) (k : Chg (bQ :: v.ownBlock.toList) w w') (q : QueIs w' bQ v' (Z.map (·.e)) p) (hv : v'.ownBlock = v.ownBlock) :
    ChgF f w w' ∧ WldIs w' f bW bQ v' iv wv gv sv ivs Z p c := by
  have hS : ∀ x ∈ bQ :: v.ownBlock.toList, f x = 2 ∨ f x = 3 := fun x hx => by
    rcases List.mem_cons.1 hx with e | e
    · rw [e]; exact .inl h.f2
    · exact .inr (h.f3 x (by simpa [Option.mem_toList] using e))
  have no : ∀ x, f x ≠ 2 → f x ≠ 3 → x ∉ bQ :: v.ownBlock.toList := fun x h2 h3 hm => (hS x hm).elim h2 h3
  refine ⟨ChgF.of k (fun x hx => by rcases hS x hx with e | e <;> omega), ⟨k.heap h.hW (no _ (by rw [h.f1]; omega) (by rw [h.f1]; omega)), q, owns_keep h.row k (fun j hj => no _ (by rw [h.f4 j hj]; omega) (by rw [h.f4 j hj]; omega)), owns_keep h.rw_ k (fun j hj => no _ (by rw [h.f5 j hj]; omega) (by rw [h.f5 j hj]; omega)),
    owns_keep h.rg k (fun j hj => no _ (by rw [h.f6 j hj]; omega) (by rw [h.f6 j hj]; omega)), owns_keep h.rs k (fun j hj => no _ (by rw [h.f7 j hj]; omega) (by rw [h.f7 j hj]; omega)), h.few, fun y hy => (h.zs y (List.mem_cons_of_mem _ hy)).chg k (fun x hx => by rcases hS x hx with e | e <;> omega), ?_, h.f1, h.f2, by rw [hv]; exact h.f3, h.f4, h.f5, h.f6, h.f7⟩⟩
  have := h.ap
  simp only [List.map_cons, List.nodup_cons] at this
  exact this.2
theorem WldIs.item {w : World} {f : Nat → Nat} {bW bQ : Nat} {v iv wv gv sv : Value} {ivs : List Value} {z : Zt} {Z : List Zt} {p : Nat} {c : Wc} (h : WldIs w f bW bQ v iv wv gv sv ivs (z :: Z) p c) :
    ∃ g cap, iv = .slice (some ⟨g, 0, none⟩) ivs.length cap ∧ z.ix < ivs.length ∧ w.cell? ⟨g, z.ix, none⟩ = some z.val := by
  have hz := (h.zs z List.mem_cons_self).iv
  have hlt : z.ix < ivs.length := (List.getElem?_eq_some_iff.1 hz).1
  rcases h.row.2 with ⟨_, h0⟩ | ⟨g, cap, cur, e, _⟩
  · omega
  · refine ⟨g, cap, e, hlt, ?_⟩
    have hr := h.row
    rw [e] at hr
    have := hr.cells (g := g) rfl z.ix z.val hz
    rwa [Addr.add_lit, Nat.zero_add] at this
def NxFar (f : Nat → Nat) (bW bQ : Nat) (iv wv gv sv : Value) (ivs : List Value) (z : Zt) (Z : List Zt) (p : Nat) (c : Wc) (w : World) (e : Ending) (w' : World) : Prop :=
  ∃ v', e = .returned (.tuple #[.int .i64 z.it.kind, .int .i64 z.it.n, .slice none 0 0, .int .i64 0]) ∧ ChgF f w w' ∧ WldIs w' f bW bQ v' iv wv gv sv ivs Z p c
set_option maxHeartbeats 4000000 in
theorem wNext_far (f : Nat → Nat) (bW bQ : Nat) (v iv wv gv sv : Value) (ivs : List Value) (z : Zt) (Z : List Zt) (p : Nat) (c : Wc) (most : Int) (w : World) (h : WldIs w f bW bQ v iv wv gv sv ivs (z :: Z) p c) (hm : 1 ≤ most) (hz : z.it.kind ≠ 0) :
    Calls Tryz.prog 194 #[.pointer (some ⟨bW, 0, none⟩), .int .i64 most] w (NxFar f bW bQ iv wv gv sv ivs z Z p c w) := by
  have hq := h.q
  have hm' : ¬ most < 1 := by omega
  obtain ⟨gi, ci, rfl, hix, hval⟩ := h.item
  obtain ⟨x0, x1, _⟩ := h.cells
  have hZ := h.zs z List.mem_cons_self
  have hix' : (z.ix : Int) < (ivs.length : Int) := by omega
  have HH := Lib.hid h
  have ei := hZ.ei
  have t1 : ∀ (n : Int) (w : World), (Instr.typeAssert (.iface 243 (.agg #[.int .i64 n])) 20 243 true).run Tryz.prog w = .ok (.tuple #[.agg #[.int .i64 n], .bool true]) w := fun n w => by kernel_rfl
  have t2 : ∀ (w : World), (Instr.typeAssert (.iface 245 (.agg #[])) 20 243 true).run Tryz.prog w = .ok (.tuple #[.agg #[.int .i64 0], .bool false]) w := fun w => by kernel_rfl
  have t3 : ∀ (w : World), (Instr.typeAssert (.iface 245 (.agg #[])) 20 246 true).run Tryz.prog w = .ok (.tuple #[.pointer none, .bool false]) w := fun w => by kernel_rfl
  rcases hZ.kd with ⟨k1, k2, k3⟩ | ⟨k1, kn, k2, k3⟩ | ⟨k1, _⟩
  · have HK := Lib.hid k1
    rw [k3] at hval
    clear h hZ hix k1 k2 k3
    go_enter Tryz.func194, Tryz.ntmps194
    go_wp2_with fail
    refine (qPeek_any bQ v _ _ p _ hq).mono ?_
    rintro e w1 ⟨rfl, C1⟩
    rw [ei]
    replace x0 := C1.cell x0 (by simp)
    replace x1 := C1.cell x1 (by simp)
    replace hval := C1.cell hval (by simp)
    have H1 := Lib.hid (HH.out.chg0 C1)
    have HC1 := Lib.hid C1
    clear C1 hq ei
    have k6 : Chg [] w1 (w1.alloc (.cells #[.int .i64 z.it.n] 243)) := (Chg.refl _ _).alloc _
    have y0 := k6.cell x0 (by simp)
    have H6 := Lib.hid (H1.out.chg0 k6)
    have s0 : (w1.alloc (.cells #[.int .i64 z.it.n] 243)).cell? ⟨w1.heap.size, 0, none⟩ = some (.int .i64 z.it.n) := by rw [cell_of_heap (alloc_heap w1 _)]; rfl
    have HC6 := Lib.hid (HC1.out.trans k6 (U := []) (by simp) (by simp))
    have HN := Lib.hid (show w1.heap.size ∉ bQ :: v.ownBlock.toList from fun hm => by
      rcases List.mem_cons.1 hm with e | e
      · have := H1.out.q.lt; omega
      · have := H1.out.q.lt2 _ (by simpa [Option.mem_toList] using e); omega)
    clear k6
    go_wp2_with fail
    refine (qPop_any bQ v _ _ p _ H6.out.q).mono ?_
    rintro e w3 ⟨rfl, C3, v3, q3, e3⟩
    have hP := H6.out.pop C3 q3 e3
    have z0 := C3.cell s0 HN.out
    have HP := Lib.hid hP
    clear C3 q3 e3 hP s0 y0
    go_wp2_with fail
    go_quiet (fail)
    go_wp2_with fail
    refine ⟨rfl, _, by simp [results, Tryz.results194, go_sem] <;> rfl, v3, by rw [HK.out], ((ChgF.of0 HC6.out).trans HP.out.1).trans (ChgF.of0 ((Chg.refl _ _).drewN _)), HP.out.2.chg0 ((Chg.refl _ _).drewN _)⟩
  · have HK := Lib.hid k1
    have HKN := Lib.hid kn
    rw [k3] at hval
    clear h hZ hix k1 k2 k3 kn
    go_enter Tryz.func194, Tryz.ntmps194
    go_wp2_with fail
    refine (qPeek_any bQ v _ _ p _ hq).mono ?_
    rintro e w1 ⟨rfl, C1⟩
    rw [ei]
    replace x0 := C1.cell x0 (by simp)
    replace x1 := C1.cell x1 (by simp)
    replace hval := C1.cell hval (by simp)
    have H1 := Lib.hid (HH.out.chg0 C1)
    have HC1 := Lib.hid C1
    clear C1 hq ei
    go_wp2_with fail
    refine (qPop_any bQ v _ _ p _ H1.out.q).mono ?_
    rintro e w3 ⟨rfl, C3, v3, q3, e3⟩
    have HP := Lib.hid (H1.out.pop C3 q3 e3)
    clear C3 q3 e3
    go_wp2_with fail
    refine ⟨rfl, _, by simp [results, Tryz.results194, go_sem] <;> rfl, v3, by rw [HK.out, HKN.out], (ChgF.of0 HC1.out).trans HP.out.1, HP.out.2⟩
  · exact absurd k1 hz
end Go.Proofs.YtafmnkngjjnpiaaGreatDoor

namespace Go.Proofs.YtafmnkngjjnpiaaGreatDoor
set_option linter.unusedVariables false
set_option maxRecDepth 100000
open Go.RowKit
theorem zeroU8 (w : World) : (zeroValue 5).run Tryz.prog w = .ok (.int .u8 0) w := by kernel_rfl
def Zt.cut (z : Zt) (k : Nat) : Zt := { z with it := { z.it with bs := z.it.bs.drop k }, off := z.off + k, cap := z.cap - k }
theorem WldIs.popS {w w' : World} {f : Nat → Nat} {bW bQ : Nat} {v v' iv wv gv sv : Value} {ivs : List Value} {z : Zt} {Z : List Zt} {p : Nat} {c : Wc} {S : List Nat} (h : WldIs w f bW bQ v iv wv gv sv ivs (z :: Z) p c) (k : Chg S w w')
    (hS : ∀ x ∈ S, f x = 2 ∨ f x = 3 ∨ f x = 8 + 2 * z.ix ∨ f x = 9 + 2 * z.ix) (q : QueIs w' bQ v' (Z.map (·.e)) p) (hv : v'.ownBlock = v.ownBlock) :
    ChgF f w w' ∧ WldIs w' f bW bQ v' iv wv gv sv ivs Z p c := by
  have no : ∀ x, f x ≠ 2 → f x ≠ 3 → f x < 8 → x ∉ S := fun x h2 h3 h4 hm => by have := hS x hm; omega
  have hap := h.ap
  simp only [List.map_cons, List.nodup_cons] at hap
  refine ⟨ChgF.of k (fun x hx => by have := hS x hx; omega), ⟨k.heap h.hW (no _ (by rw [h.f1]; omega) (by rw [h.f1]; omega) (by rw [h.f1]; omega)), q, owns_keep h.row k (fun j hj => no _ (by rw [h.f4 j hj]; omega) (by rw [h.f4 j hj]; omega) (by rw [h.f4 j hj]; omega)), owns_keep h.rw_ k (fun j hj => no _ (by rw [h.f5 j hj]; omega) (by rw [h.f5 j hj]; omega) (by rw [h.f5 j hj]; omega)),
    owns_keep h.rg k (fun j hj => no _ (by rw [h.f6 j hj]; omega) (by rw [h.f6 j hj]; omega) (by rw [h.f6 j hj]; omega)), owns_keep h.rs k (fun j hj => no _ (by rw [h.f7 j hj]; omega) (by rw [h.f7 j hj]; omega) (by rw [h.f7 j hj]; omega)), h.few, fun y hy => (h.zs y (List.mem_cons_of_mem _ hy)).chg k (fun x hx => ?_), hap.2, h.f1, h.f2, by rw [hv]; exact h.f3, h.f4, h.f5, h.f6, h.f7⟩⟩
  have hne : y.ix ≠ z.ix := fun e => hap.1 (by rw [← e]; exact List.mem_map.2 ⟨y, hy, rfl⟩)
  have := hS x hx
  omega
theorem WldIs.cutS {w w' : World} {f : Nat → Nat} {bW bQ : Nat} {v iv wv gv sv : Value} {ivs : List Value} {z z' : Zt} {Z : List Zt} {p : Nat} {c : Wc} {S : List Nat} (h : WldIs w f bW bQ v iv wv gv sv ivs (z :: Z) p c) (k : Chg S w w')
    (hS : ∀ x ∈ S, f x = 8 + 2 * z.ix ∨ f x = 9 + 2 * z.ix) (he : z'.e = z.e) (hx : z'.ix = z.ix) (hz : ZIs w' f ivs z') :
    ChgF f w w' ∧ WldIs w' f bW bQ v iv wv gv sv ivs (z' :: Z) p c := by
  have no : ∀ x, f x < 8 → x ∉ S := fun x h4 hm => by have := hS x hm; omega
  have hap := h.ap
  simp only [List.map_cons, List.nodup_cons] at hap
  have hq : QueIs w' bQ v ((z' :: Z).map (·.e)) p := by
    have := h.q.chg k (no _ (by rw [h.f2]; omega)) (fun j hj => no _ (by rw [h.f3 j hj]; omega))
    simpa [he] using this
  refine ⟨ChgF.of k (fun x hx => by have := hS x hx; omega), ⟨k.heap h.hW (no _ (by rw [h.f1]; omega)), hq, owns_keep h.row k (fun j hj => no _ (by rw [h.f4 j hj]; omega)), owns_keep h.rw_ k (fun j hj => no _ (by rw [h.f5 j hj]; omega)),
    owns_keep h.rg k (fun j hj => no _ (by rw [h.f6 j hj]; omega)), owns_keep h.rs k (fun j hj => no _ (by rw [h.f7 j hj]; omega)), h.few, fun y hy => ?_, by simp only [List.map_cons, List.nodup_cons, hx]; exact hap, h.f1, h.f2, h.f3, h.f4, h.f5, h.f6, h.f7⟩⟩
  rcases List.mem_cons.1 hy with rfl | hy
  · exact hz
  · refine (h.zs y (List.mem_cons_of_mem _ hy)).chg k (fun x hx => ?_)
    have hne : y.ix ≠ z.ix := fun e => hap.1 (by rw [← e]; exact List.mem_map.2 ⟨y, hy, rfl⟩)
    have := hS x hx
    omega
def NxDat (f : Nat → Nat) (bW bQ : Nat) (iv wv gv sv : Value) (ivs : List Value) (z : Zt) (Z : List Zt) (p : Nat) (c : Wc) (k : Nat) (w : World) (e : Ending) (w' : World) : Prop :=
  ∃ v' rv, e = .returned (.tuple #[.int .i64 0, .int .i64 0, rv, .int .i64 0]) ∧ ChgF f w w' ∧ w'.ownsRow w.heap.size 5 1 rv k (valsOf .u8 (z.it.bs.take k)) ∧ (∀ j, rv.ownBlock = some j → f j = 0) ∧
    WldIs w' f bW bQ v' iv wv gv sv ivs (if k = z.it.bs.length then Z else z.cut k :: Z) p c
theorem splice_get (cur cs : List Value) (off j : Nat) (h : off + cs.length ≤ cur.length) (hj : off + cs.length ≤ j) : (splice cur off cs)[j]? = cur[j]? := by
  unfold splice
  rw [List.getElem?_append_right (by simp; omega), List.getElem?_append_right (by simp; omega), List.getElem?_drop]
  congr 1
  simp
  omega
theorem Zt.cut_len (z : Zt) (k : Nat) : (z.cut k).it.bs.length = z.it.bs.length - k := by simp [Zt.cut]
theorem DatIs.cut {w2 w3 : World} {f : Nat → Nat} {z : Zt} {k : Nat} {cur : List Value} (h : DatIs w2 f z) (hk : k < z.it.bs.length) (hr : w2.heap[z.g]? = some (.cells cur.toArray 5 (0, 0)) ∧ z.off + z.it.bs.length ≤ cur.length ∧ ∀ j, j < z.it.bs.length → cur[z.off + j]? = some (.int .u8 (z.it.bs.getD j 0)))
    (H3 : w3.heap[z.g]? = some (.cells (splice cur z.off (List.replicate k (.int .u8 0))).toArray 5 (0, 0))) (hp3 : w3.heap[z.pb]? = some (.cells #[.slice (some ⟨z.g, z.off, none⟩) z.it.bs.length z.cap] 248 (0, 0))) (hpg : ¬ z.pb = z.g) :
    DatIs (w3.setCell ⟨z.pb, 0, none⟩ (.slice (some ⟨z.g, z.off + k, none⟩) (z.it.bs.length - k) (z.cap - k))) f (z.cut k) := by
  obtain ⟨r1, r2, r3⟩ := hr
  have hl := z.cut_len k
  have hsl : (splice cur z.off (List.replicate k (Value.int .u8 0))).length = cur.length := by unfold splice; simp; omega
  refine ⟨h.val, ?_, ⟨splice cur z.off (List.replicate k (.int .u8 0)), ?_, ?_, fun j hj => ?_⟩, by rw [hl]; omega, by rw [hl]; show _ ≤ z.cap - k; have := h.le; omega, by show z.cap - k ≤ maxLen; have := h.cm; omega, by rw [hl]; have := h.few; omega, h.fp, h.fg⟩
  · show (w3.setCell ⟨z.pb, 0, none⟩ _).heap[z.pb]? = _
    rw [setCell_heap _ hp3, hl]
    rfl
  · show (w3.setCell ⟨z.pb, 0, none⟩ _).heap[z.g]? = _
    rw [setCell_heap_ne _ (fun e => hpg e.symm)]
    exact H3
  · show z.off + k + (z.cut k).it.bs.length ≤ _
    rw [hl, hsl]; omega
  · rw [hl] at hj
    show (splice cur z.off (List.replicate k (Value.int .u8 0)))[z.off + k + j]? = some (.int .u8 ((z.it.bs.drop k).getD j 0))
    rw [splice_get _ _ _ _ (by simp; omega) (by simp), Nat.add_assoc, r3 (k + j) (by omega)]
    simp [List.getD_eq_getElem?_getD, List.getElem?_drop]
theorem dat_end {w w1 w2 w3 : World} {f : Nat → Nat} {z : Zt} {rv : Value} {k : Nat} {xs : List Value} (hc : w.heap.size ≤ w1.heap.size) (c2 : Chg [] w1 w2) (hd : DatIs w1 f z) (o : w2.ownsRow w1.heap.size 5 1 rv k xs) (c3 : Chg [z.g] w2 w3) (hF : ∀ j, w.heap.size ≤ j → f j = 0) (u : Value) :
    (w3.setCell ⟨z.pb, 0, none⟩ u).ownsRow w.heap.size 5 1 rv k xs ∧ (∀ j, rv.ownBlock = some j → w1.heap.size ≤ j) ∧ (∀ j, rv.ownBlock = some j → f j = 0) ∧ Chg [z.g, z.pb] w2 (w3.setCell ⟨z.pb, 0, none⟩ u) := by
  have h1 := fun j hj => (o.lt j hj).1
  obtain ⟨cur, r1, _⟩ := hd.row
  have g1 := heap_lt r1
  have g2 := heap_lt hd.pb
  have c4 : Chg [z.g, z.pb] w2 (w3.setCell ⟨z.pb, 0, none⟩ u) := (c3.mono (T := [z.g, z.pb]) (fun x hx => by rw [List.mem_singleton.1 hx]; exact List.mem_cons_self)).setCell (p := ⟨z.pb, 0, none⟩) (Or.inl (by simp)) u
  refine ⟨?_, h1, fun j hj => hF j (by have := h1 j hj; omega), c4⟩
  have o2 := owns_keep o c4 (fun j hj hm => by
    have := h1 j hj
    simp only [List.mem_cons, List.not_mem_nil, or_false] at hm
    rcases hm with e | e <;> omega)
  refine ⟨o2.1, o2.2.imp id ?_⟩
  rintro ⟨g, cap, cur, rfl, k1, k2, k3⟩
  exact ⟨g, cap, cur, rfl, by omega, k2, k3⟩
theorem DatIs.src {w : World} {f : Nat → Nat} {z : Zt} (h : DatIs w f z) {k : Nat} (hk : k ≤ z.it.bs.length) (c : Nat) : SrcAt w (some ⟨z.g, z.off, none⟩) k c (valsOf .u8 (z.it.bs.take k)) := by
  obtain ⟨cur, r1, r2, r3⟩ := h.row
  refine ⟨by simp [valsOf]; omega, fun e => by (cases e), fun ad e j u hu => ?_⟩
  injection e with e
  subst e
  simp only [valsOf, List.getElem?_map, List.getElem?_take] at hu
  split at hu
  · rename_i hj
    rw [List.getElem?_eq_getElem (by omega)] at hu
    injection hu with hu
    rw [← hu, Addr.add_lit, cell_of_heap r1]
    simp only [List.getElem?_toArray]
    rw [r3 j (by omega)]
    simp [List.getD_eq_getElem?_getD, List.getElem?_eq_getElem (show j < z.it.bs.length by omega)]
  · cases hu
set_option maxHeartbeats 8000000 in
theorem wNext_dat (f : Nat → Nat) (bW bQ : Nat) (v iv wv gv sv : Value) (ivs : List Value) (z : Zt) (Z : List Zt) (p : Nat) (c : Wc) (most : Int) (k : Nat) (w : World) (h : WldIs w f bW bQ v iv wv gv sv ivs (z :: Z) p c) (hm : 1 ≤ most) (hz : z.it.kind = 0)
    (hk : (most = (k : Int) ∧ k ≤ z.it.bs.length) ∨ (k = z.it.bs.length ∧ (z.it.bs.length : Int) < most)) (hf0 : ∀ j, w.heap.size ≤ j → f j = 0) :
    Calls Tryz.prog 194 #[.pointer (some ⟨bW, 0, none⟩), .int .i64 most] w (NxDat f bW bQ iv wv gv sv ivs z Z p c k w) := by
  have hq := h.q
  have hm' : ¬ most < 1 := by omega
  obtain ⟨gi, ci, rfl, hix, hval⟩ := h.item
  obtain ⟨x0, x1, _⟩ := h.cells
  have hZ := h.zs z List.mem_cons_self
  have hix' : (z.ix : Int) < (ivs.length : Int) := by omega
  have HH := Lib.hid h
  have ei := hZ.ei
  have HF0 := Lib.hid hf0
  have HZ := Lib.hid hZ
  have t1 : ∀ (a : Option Addr) (w : World), (Instr.typeAssert (.iface 246 (.pointer a)) 20 243 true).run Tryz.prog w = .ok (.tuple #[.agg #[.int .i64 0], .bool false]) w := fun a w => by kernel_rfl
  have t3 : ∀ (a : Option Addr) (w : World), (Instr.typeAssert (.iface 246 (.pointer a)) 20 246 true).run Tryz.prog w = .ok (.tuple #[.pointer a, .bool true]) w := fun a w => by kernel_rfl
  obtain ⟨kn, hd⟩ : z.it.n = 0 ∧ DatIs w f z := by
    rcases hZ.kd with ⟨k1, _⟩ | ⟨k1, _⟩ | ⟨_, kn, hd⟩
    · omega
    · omega
    · exact ⟨kn, hd⟩
  have hpos := hd.pos
  have hle := hd.le
  have hcm := hd.cm
  have hfew := hd.few
  unfold maxLen at hcm
  rw [hd.val] at hval
  have y0 : w.cell? ⟨z.pb, 0, none⟩ = some (.slice (some ⟨z.g, z.off, none⟩) z.it.bs.length z.cap) := by rw [cell_of_heap hd.pb]; rfl
  have HD := Lib.hid hd
  have hkle : k ≤ z.it.bs.length := by omega
  clear h hZ hix hd hf0
  have hcase : (most = (k : Int) ∧ k < z.it.bs.length) ∨ (k = z.it.bs.length ∧ (z.it.bs.length : Int) ≤ most) := by omega
  rcases hcase with ⟨rfl, hk2⟩ | ⟨rfl, hk2⟩
  · have hk3 : (k : Int) ≤ (z.it.bs.length : Int) := by omega
    have hck : ¬ z.cap = k := by omega
    have hl0 : ((z.it.bs.length : Int) - (k : Int)) = ((z.it.bs.length - k : Nat) : Int) := by omega
    have hl1 : ((z.it.bs.length - k : Nat) : Int) ≠ 0 := by omega
    clear hk
    go_enter Tryz.func194, Tryz.ntmps194
    go_wp2_with fail
    refine (qPeek_any bQ v _ _ p _ hq).mono ?_
    rintro e w1 ⟨rfl, C1⟩
    rw [ei]
    replace x0 := C1.cell x0 (by simp)
    replace x1 := C1.cell x1 (by simp)
    replace y0 := C1.cell y0 (by simp)
    replace hval := C1.cell hval (by simp)
    have H1 := Lib.hid (HH.out.chg0 C1)
    have HC1 := Lib.hid C1
    have HD1 := Lib.hid (HD.out.chg C1 (by simp) (by simp))
    clear C1 hq ei
    go_wp2_with fail
    refine (bclone_any (some ⟨z.g, z.off, none⟩) k z.cap (z.it.bs.take k) _ (HD1.out.src hkle _) (by omega)).mono ?_
    rintro e w2 ⟨rv, rfl, C2, O2⟩
    have y2 := C2.cell y0 (by simp)
    replace x0 := C2.cell x0 (by simp)
    have H2 := Lib.hid (H1.out.chg0 C2)
    have HD2 := Lib.hid (HD1.out.chg C2 (by simp) (by simp))
    have HC2 := Lib.hid (HC1.out.trans C2 (U := []) (by simp) (by simp))
    have HC12 := Lib.hid C2
    have HO2 := Lib.hid (And.intro O2 HC1.out.size)
    obtain ⟨cur, r1, r2, r3⟩ := HD2.out.row
    have HR := Lib.hid (And.intro r1 (And.intro r2 r3))
    have hpg : ¬ z.pb = z.g := fun e => by have h1 := HD2.out.fp; have h2 := HD2.out.fg; rw [e] at h1; omega
    have hgW : ¬ bW = z.g := fun e => by have h1 := H2.out.f1; have h2 := HD2.out.fg; rw [e] at h1; omega
    have hpW : ¬ bW = z.pb := fun e => by have h1 := H2.out.f1; have h2 := HD2.out.fp; rw [e] at h1; omega
    have fpb := free_of_heap HD2.out.pb 0
    clear C2 O2 r1 r2 r3 y0 x1 hval
    go_wp2_with (refine wpList_clear_chg rfl (.tmp 72) 22 rfl 5 Tryz.underlying22 _ zeroU8 rfl rfl _ k _ rfl z.g z.off cur 5 HR.out.1 (fun _ => rfl) (by have := HR.out.2.1; omega) (fun w3 H3 C3 => ?_); have y3 := C3.cell y2 (by simpa using hpg); have x03 := C3.cell x0 (by simpa using hgW); have HPB3 := Lib.hid (C3.heap HD2.out.pb (by simpa using hpg)); have fpb3 := free_of_heap HPB3.out 0; have HC3 := Lib.hid C3; clear y2 x0 fpb C3)
    refine ⟨rfl, _, by simp [results, Tryz.results194, go_sem] <;> rfl, v, rv, rfl, ?_⟩
    obtain ⟨e1, e2, e3, e4⟩ := dat_end HO2.out.2 HC12.out HD1.out HO2.out.1 HC3.out HF0.out (.slice (some ⟨z.g, z.off + k, none⟩) (z.it.bs.length - k) (z.cap - k))
    have hdc := HD2.out.cut hk2 HR.out H3.out HPB3.out hpg
    have hcs := H2.out.cutS (z' := z.cut k) e4 (fun x hx => by
      simp only [List.mem_cons, List.not_mem_nil, or_false] at hx
      rcases hx with rfl | rfl
      · exact .inr HD2.out.fg
      · exact .inl HD2.out.fp) rfl rfl ⟨HZ.out.wd, HZ.out.eb, HZ.out.ei, HZ.out.iv, .inr (.inr ⟨hz, kn, hdc⟩)⟩
    rw [if_neg (by omega)]
    exact ⟨(ChgF.of0 HC2.out).trans hcs.1, e1, e3, hcs.2⟩
  · have hcase2 : most = (z.it.bs.length : Int) ∨ (z.it.bs.length : Int) < most := by omega
    clear hk hkle hk2
    rcases hcase2 with rfl | hk2 <;> by_cases hck : z.cap = z.it.bs.length
    all_goals
      go_enter Tryz.func194, Tryz.ntmps194
      go_wp2_with fail
      refine (qPeek_any bQ v _ _ p _ hq).mono ?_
      rintro e w1 ⟨rfl, C1⟩
      rw [ei]
      replace x0 := C1.cell x0 (by simp)
      replace x1 := C1.cell x1 (by simp)
      replace y0 := C1.cell y0 (by simp)
      replace hval := C1.cell hval (by simp)
      have H1 := Lib.hid (HH.out.chg0 C1)
      have HC1 := Lib.hid C1
      have HD1 := Lib.hid (HD.out.chg C1 (by simp) (by simp))
      clear C1 hq ei
      go_wp2_with fail
      refine (bclone_any (some ⟨z.g, z.off, none⟩) z.it.bs.length _ (z.it.bs.take z.it.bs.length) _ (HD1.out.src (Nat.le_refl _) _) (by omega)).mono ?_
      rintro e w2 ⟨rv, rfl, C2, O2⟩
      have y2 := C2.cell y0 (by simp)
      replace x0 := C2.cell x0 (by simp)
      have H2 := Lib.hid (H1.out.chg0 C2)
      have HD2 := Lib.hid (HD1.out.chg C2 (by simp) (by simp))
      have HC2 := Lib.hid (HC1.out.trans C2 (U := []) (by simp) (by simp))
      have HC12 := Lib.hid C2
      have HO2 := Lib.hid (And.intro O2 HC1.out.size)
      obtain ⟨cur, r1, r2, r3⟩ := HD2.out.row
      have HR := Lib.hid (And.intro r1 (And.intro r2 r3))
      have hpg : ¬ z.pb = z.g := fun e => by have h1 := HD2.out.fp; have h2 := HD2.out.fg; rw [e] at h1; omega
      have hgW : ¬ bW = z.g := fun e => by have h1 := H2.out.f1; have h2 := HD2.out.fg; rw [e] at h1; omega
      have hpW : ¬ bW = z.pb := fun e => by have h1 := H2.out.f1; have h2 := HD2.out.fp; rw [e] at h1; omega
      have fpb := free_of_heap HD2.out.pb 0
      clear C2 O2 r1 r2 r3 y0 x1 hval
      go_wp2_with (refine wpList_clear_chg rfl (.tmp 72) 22 rfl 5 Tryz.underlying22 _ zeroU8 rfl rfl _ z.it.bs.length _ rfl z.g z.off cur 5 HR.out.1 (fun _ => rfl) (by have := HR.out.2.1; omega) (fun w3 H3 C3 => ?_); have y3 := C3.cell y2 (by simpa using hpg); have x03 := C3.cell x0 (by simpa using hgW); have HPB3 := Lib.hid (C3.heap HD2.out.pb (by simpa using hpg)); have fpb3 := free_of_heap HPB3.out 0; have HC3 := Lib.hid C3; clear y2 x0 fpb C3)
      have hl2 := fun u => dat_end HO2.out.2 HC12.out HD1.out HO2.out.1 HC3.out HF0.out u
      have HL2 := Lib.hid hl2
      have hS := Lib.hid (show ∀ x ∈ [z.g, z.pb], f x = 9 + 2 * z.ix ∨ f x = 8 + 2 * z.ix from fun x hx => by
        simp only [List.mem_cons, List.not_mem_nil, or_false] at hx
        rcases hx with rfl | rfl
        · exact .inl HD2.out.fg
        · exact .inr HD2.out.fp)
      have hq4 := fun u => H2.out.q.chg (HL2.out u).2.2.2 (fun hm => by have h1 := hS.out _ hm; have h2 := H2.out.f2; omega) (fun j hj hm => by have h1 := hS.out _ hm; have h2 := H2.out.f3 j hj; omega)
      clear hl2
      refine (qPop_any bQ v _ _ p _ (hq4 _)).mono ?_
      rintro e w5 ⟨rfl, C5, v5, q5, e5⟩
      obtain ⟨o1, o2, o3, o4⟩ := HL2.out (_)
      have hC := o4.trans C5 (U := [z.g, z.pb] ++ (bQ :: v.ownBlock.toList)) (fun x hx => List.mem_append_left _ hx) (fun x hx _ => List.mem_append_right _ hx)
      have hP := Lib.hid (H2.out.popS hC (fun x hx => by
        rcases List.mem_append.1 hx with e | e
        · have := hS.out x e; omega
        · rcases List.mem_cons.1 e with e | e
          · rw [e]; exact .inl H2.out.f2
          · exact .inr (.inl (H2.out.f3 x (by simpa [Option.mem_toList] using e)))) q5 e5)
      have hO := Lib.hid (owns_keep o1 C5 (fun j hj hm => by
        have h1 := o2 j hj
        rcases List.mem_cons.1 hm with e | e
        · have := H1.out.q.lt; omega
        · have := H1.out.q.lt2 j (by simpa [Option.mem_toList] using e); omega))
      have hO3 := Lib.hid o3
      clear hC C5 q5 e5 o1 o2 o3 o4 hq4
      go_wp2_with fail
      refine ⟨rfl, _, by simp [results, Tryz.results194, go_sem] <;> rfl, v5, rv, rfl, ?_⟩
      rw [if_pos rfl]
      exact ⟨(ChgF.of0 HC2.out).trans hP.out.1, hO.out, hO3.out, hP.out.2⟩
end Go.Proofs.YtafmnkngjjnpiaaGreatDoor

namespace Go.Proofs.YtafmnkngjjnpiaaGreatDoor
set_option linter.unusedVariables false
set_option maxRecDepth 100000
open Go.RowKit
structure Wm where
  f : Nat → Nat
  bW : Nat
  bQ : Nat
  v : Value
  iv : Value
  wv : Value
  gv : Value
  sv : Value
  ivs : List Value
  p : Nat
structure OwnWd (w0 w : World) (μ : Wm) (Z : List Zt) (c : Wc) : Prop where
  is : WldIs w μ.f μ.bW μ.bQ μ.v μ.iv μ.wv μ.gv μ.sv μ.ivs Z μ.p c
  c0 : Chg [] w0 w
  lo : ∀ k, k < w0.heap.size → μ.f k = 0
  hi : ∀ k, w.heap.size ≤ k → μ.f k = 0
theorem ChgF.own {f : Nat → Nat} {w0 w w' : World} (c0 : Chg [] w0 w) (lo : ∀ k, k < w0.heap.size → f k = 0) (k : ChgF f w w') : Chg [] w0 w' := by
  obtain ⟨S, k1, k2⟩ := k
  exact c0.trans k1 (by simp) (fun x hx hl => absurd (lo x hl) (k2 x hx))
theorem OwnWd.step {w0 w w' : World} {μ : Wm} {Z Z' : List Zt} {c c' : Wc} {v' : Value} (h : OwnWd w0 w μ Z c) (k : ChgF μ.f w w') (i : WldIs w' μ.f μ.bW μ.bQ v' μ.iv μ.wv μ.gv μ.sv μ.ivs Z' μ.p c') : OwnWd w0 w' { μ with v := v' } Z' c' :=
  ⟨i, k.own h.c0 h.lo, h.lo, fun j hj => h.hi j (Nat.le_trans k.size hj)⟩
theorem OwnWd.chg {w0 w w' : World} {μ : Wm} {Z : List Zt} {c : Wc} {S : List Nat} (h : OwnWd w0 w μ Z c) (k : Chg S w w') (hS : ∀ x ∈ S, μ.f x = 0 ∧ w0.heap.size ≤ x) : OwnWd w0 w' μ Z c :=
  ⟨h.is.chg k (fun x hx => (hS x hx).1), h.c0.trans k (by simp) (fun x hx hl => absurd (hS x hx).2 (by omega)), h.lo, fun j hj => h.hi j (Nat.le_trans k.size hj)⟩
theorem OwnWd.chg0 {w0 w w' : World} {μ : Wm} {Z : List Zt} {c : Wc} (h : OwnWd w0 w μ Z c) (k : Chg [] w w') : OwnWd w0 w' μ Z c := h.chg k (by simp)
theorem WldIs.ext {w : World} {f f' : Nat → Nat} {bW bQ : Nat} {v iv wv gv sv : Value} {ivs : List Value} {Z : List Zt} {p : Nat} {c : Wc} (h : WldIs w f bW bQ v iv wv gv sv ivs Z p c) (e : ∀ k, k < w.heap.size → f' k = f k) : WldIs w f' bW bQ v iv wv gv sv ivs Z p c := by
  refine ⟨h.hW, h.q, h.row, h.rw_, h.rg, h.rs, h.few, fun z hz => ?_, h.ap, by rw [e _ (heap_lt h.hW)]; exact h.f1, by rw [e _ h.q.lt]; exact h.f2, fun k hk => by rw [e _ (h.q.lt2 k hk)]; exact h.f3 k hk, fun k hk => by rw [e _ (h.row.lt k hk).2]; exact h.f4 k hk,
    fun k hk => by rw [e _ (h.rw_.lt k hk).2]; exact h.f5 k hk, fun k hk => by rw [e _ (h.rg.lt k hk).2]; exact h.f6 k hk, fun k hk => by rw [e _ (h.rs.lt k hk).2]; exact h.f7 k hk⟩
  have hz' := h.zs z hz
  refine ⟨hz'.wd, hz'.eb, hz'.ei, hz'.iv, hz'.kd.imp id (fun h => h.imp id (fun ⟨k1, k2, k3⟩ => ⟨k1, k2, ?_⟩))⟩
  have hg : z.g < w.heap.size := by obtain ⟨cur, r1, _⟩ := k3.row; exact heap_lt r1
  exact ⟨k3.val, k3.pb, k3.row, k3.pos, k3.le, k3.cm, k3.few, by rw [e _ (heap_lt k3.pb)]; exact k3.fp, by rw [e _ hg]; exact k3.fg⟩
/-! ### The contracts -/
theorem oWrite_any (w0 w : World) (μ : Wm) (Z : List Zt) (c : Wc) (n : Int) (h : OwnWd w0 w μ Z c) (hc : c.wrote ≤ 1000000) :
    Calls Tryz.prog 188 #[.pointer (some ⟨μ.bW, 0, none⟩), .int .i64 n] w fun e w' => e = .returned (.tuple #[.int .i64 (wrN c.ws c.wrote n), .bool (wrB c.ws c.wrote)]) ∧ ChgF μ.f w w' ∧ OwnWd w0 w' μ Z { c with wrote := c.wrote + 1 } :=
  (wWrite_any _ _ _ _ _ _ _ _ _ _ _ _ n w h.is hc).mono fun e w' ⟨he, k, i⟩ => by
    have kf : ChgF μ.f w w' := ChgF.of k (fun x hx => by rw [List.mem_singleton.1 hx, h.is.f1]; omega)
    exact ⟨he, kf, h.step kf i⟩
theorem oGet_any (w0 w : World) (μ : Wm) (Z : List Zt) (c : Wc) (h : OwnWd w0 w μ Z c) (hc : c.got ≤ 1000000) :
    Calls Tryz.prog 156 #[.pointer (some ⟨μ.bW, 0, none⟩)] w fun e w' => e = .returned (.bool (!decide ((c.got : Int) ∈ c.gs))) ∧ ChgF μ.f w w' ∧ OwnWd w0 w' μ Z { c with got := c.got + 1 } :=
  (wGet_any _ _ _ _ _ _ _ _ _ _ _ _ w h.is hc).mono fun e w' ⟨he, k, i⟩ => by
    have kf : ChgF μ.f w w' := ChgF.of k (fun x hx => by rw [List.mem_singleton.1 hx, h.is.f1]; omega)
    exact ⟨he, kf, h.step kf i⟩
theorem oSet_any (w0 w : World) (μ : Wm) (Z : List Zt) (c : Wc) (h : OwnWd w0 w μ Z c) (hc : c.set ≤ 1000000) :
    Calls Tryz.prog 158 #[.pointer (some ⟨μ.bW, 0, none⟩)] w fun e w' => e = .returned (.bool (!decide ((c.set : Int) ∈ c.ss))) ∧ ChgF μ.f w w' ∧ OwnWd w0 w' μ Z { c with set := c.set + 1 } :=
  (wSet_any _ _ _ _ _ _ _ _ _ _ _ _ w h.is hc).mono fun e w' ⟨he, k, i⟩ => by
    have kf : ChgF μ.f w w' := ChgF.of k (fun x hx => by rw [List.mem_singleton.1 hx, h.is.f1]; omega)
    exact ⟨he, kf, h.step kf i⟩
theorem oNext_none (w0 w : World) (μ : Wm) (c : Wc) (most : Int) (h : OwnWd w0 w μ [] c) (hm : 1 ≤ most) :
    Calls Tryz.prog 194 #[.pointer (some ⟨μ.bW, 0, none⟩), .int .i64 most] w fun e w' => e = .returned (.tuple #[.int .i64 0, .int .i64 0, .slice none 0 0, .int .i64 6]) ∧ w = w' :=
  wNext_none _ _ _ _ _ _ _ _ _ _ _ most w h.is hm
def OxFar (w0 : World) (μ : Wm) (z : Zt) (Z : List Zt) (c : Wc) (w : World) (e : Ending) (w' : World) : Prop :=
  e = .returned (.tuple #[.int .i64 z.it.kind, .int .i64 z.it.n, .slice none 0 0, .int .i64 0]) ∧ ChgF μ.f w w' ∧ ∃ v', OwnWd w0 w' { μ with v := v' } Z c
theorem oNext_far (w0 w : World) (μ : Wm) (z : Zt) (Z : List Zt) (c : Wc) (most : Int) (h : OwnWd w0 w μ (z :: Z) c) (hm : 1 ≤ most) (hz : z.it.kind ≠ 0) :
    Calls Tryz.prog 194 #[.pointer (some ⟨μ.bW, 0, none⟩), .int .i64 most] w (OxFar w0 μ z Z c w) :=
  (wNext_far _ _ _ _ _ _ _ _ _ z Z _ _ most w h.is hm hz).mono fun e w' ⟨v', he, k, i⟩ => ⟨he, k, v', h.step k i⟩
def OxDat (w0 : World) (μ : Wm) (z : Zt) (Z : List Zt) (c : Wc) (k : Nat) (w : World) (e : Ending) (w' : World) : Prop :=
  ∃ rv, e = .returned (.tuple #[.int .i64 0, .int .i64 0, rv, .int .i64 0]) ∧ ChgF μ.f w w' ∧ w'.ownsRow w.heap.size 5 1 rv k (valsOf .u8 (z.it.bs.take k)) ∧ (∀ j, rv.ownBlock = some j → μ.f j = 0) ∧
    ∃ v', OwnWd w0 w' { μ with v := v' } (if k = z.it.bs.length then Z else z.cut k :: Z) c
theorem oNext_dat (w0 w : World) (μ : Wm) (z : Zt) (Z : List Zt) (c : Wc) (most : Int) (k : Nat) (h : OwnWd w0 w μ (z :: Z) c) (hm : 1 ≤ most) (hz : z.it.kind = 0) (hk : (most = (k : Int) ∧ k ≤ z.it.bs.length) ∨ (k = z.it.bs.length ∧ (z.it.bs.length : Int) < most)) :
    Calls Tryz.prog 194 #[.pointer (some ⟨μ.bW, 0, none⟩), .int .i64 most] w (OxDat w0 μ z Z c k w) :=
  (wNext_dat _ _ _ _ _ _ _ _ _ z Z _ _ most k w h.is hm hz hk h.hi).mono fun e w' ⟨v', rv, he, k1, o, o2, i⟩ => ⟨rv, he, k1, o, o2, v', h.step k1 i⟩
/-! ### The order -/
def insG {α : Type} (o : α → Nat) (M : List α) (x : α) : List α := M.filter (fun y => decide (o y < o x)) ++ x :: M.filter (fun y => !decide (o y < o x))
theorem insG_perm {α : Type} (o : α → Nat) (M : List α) (x : α) : (insG o M x).Perm (x :: M) := by
  unfold insG
  exact (List.perm_middle).trans (List.Perm.cons x (List.filter_append_perm (fun y => decide (o y < o x)) M))
theorem insG_map {α β : Type} (f : α → β) (o : β → Nat) (M : List α) (x : α) : (insG (fun y => o (f y)) M x).map f = insG o (M.map f) (f x) := by
  unfold insG
  simp only [List.map_append, List.map_cons, List.filter_map, Function.comp_def]
theorem insQ_insG (o : Ele → Nat) (M : List Ele) (x : Ele) : insQ o M x = insG o M x := rfl
def insZ (Z : List Zt) (z : Zt) : List Zt := insG (fun y => oE y.e) Z z
def insP (M : List (Ele × It)) (x : Ele × It) : List (Ele × It) := insG (fun y => oE y.1) M x
def Zt.pr (z : Zt) : Ele × It := (z.e, z.it)
theorem insZ_e (Z : List Zt) (z : Zt) : (insZ Z z).map (·.e) = insQ oE (Z.map (·.e)) z.e := (insG_map (fun z : Zt => z.e) oE Z z).trans (insQ_insG _ _ _).symm
theorem insZ_pr (Z : List Zt) (z : Zt) : (insZ Z z).map Zt.pr = insP (Z.map Zt.pr) z.pr := insG_map Zt.pr (fun y => oE y.1) Z z
theorem insZ_perm (Z : List Zt) (z : Zt) : (insZ Z z).Perm (z :: Z) := insG_perm _ Z z
theorem insP_perm (M : List (Ele × It)) (x : Ele × It) : (insP M x).Perm (x :: M) := insG_perm _ M x
def itOf (x : ItD) : It := ⟨x.b, x.kind, x.n, x.zs.take x.m⟩
def comes (x : ItD) : Bool := !(decide (x.kind = 0) && decide (x.m = 0))
def ordStep (M : List (Ele × It)) (x : ItD) (k : Nat) : List (Ele × It) := if comes x = true then insP M ((x.b, (k : Int), (M.length : Int)), itOf x) else M
def ordP (its : List ItD) : Nat → List (Ele × It)
  | 0 => []
  | k + 1 => match its[k]? with
    | some x => ordStep (ordP its k) x k
    | none => ordP its k
theorem ordP_succ {its : List ItD} {k : Nat} {x : ItD} (h : its[k]? = some x) : ordP its (k + 1) = ordStep (ordP its k) x k := by
  show (match its[k]? with | some x => ordStep (ordP its k) x k | none => ordP its k) = _
  rw [h]
theorem ordP_len (its : List ItD) (k : Nat) : (ordP its k).length ≤ k := by
  induction k with
  | zero => exact Nat.le_refl _
  | succ k ih =>
    show (match its[k]? with | some x => ordStep (ordP its k) x k | none => ordP its k).length ≤ _
    cases its[k]? with
    | none => dsimp only; omega
    | some x =>
      dsimp only
      unfold ordStep
      split
      · rw [(insP_perm _ _).length_eq]; simp; omega
      · omega
end Go.Proofs.YtafmnkngjjnpiaaGreatDoor
