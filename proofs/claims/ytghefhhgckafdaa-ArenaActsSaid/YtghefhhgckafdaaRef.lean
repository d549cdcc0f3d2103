/-
  The reference's arena: what it is in memory, and the contracts of its methods.
-/
import Derived.Test.YtghefhhgckafdaaApp
import Derived.Test.YtghefhhgckafdaaAreE
import Derived.Test.YtghefhhgckafdaaAreT
import Derived.Test.YtghefhhgckafdaaParts
import Derived.Deep.RegionHeld3
import Derived.Deep.RegionLaw
import Derived.Deep.Slices
import Derived.Deep.DrawnRows
namespace Go.Proofs.Ytghefhhgckafdaa
set_option linter.unusedVariables false
set_option linter.unusedSimpArgs false
open Go.RowKit
attribute [local go_sem ↓] Go.wp_at_zero Go.wp_at_succ

structure RefIs (w : World) (base bM N : Nat) (l : List Int) (ao : Option Addr) (c : Nat) : Prop where
  hM : w.heap[bM]? = some (.cells #[.slice ao l.length c, .int .i64 (N : Nat)] 44 (0, 0))
  src : SrcIs w ao l.length l []
  le : l.length ≤ N
  most : N ≤ 300
  hc : l.length ≤ c
  big : c ≤ maxLen
  nil : ao = none → c = 0
  blk : ∀ ad, ao = some ad → base ≤ ad.block
  lt : bM < base
  size : base ≤ w.heap.size

theorem RefIs.chg {w w' : World} {base bM N : Nat} {l : List Int} {ao : Option Addr} {c : Nat} {S : List Nat} (h : RefIs w base bM N l ao c) (k : Chg S w w') (hS : ∀ x ∈ S, x < base ∧ x ≠ bM) : RefIs w' base bM N l ao c :=
  ⟨k.heap h.hM (fun hx => (hS _ hx).2 rfl), ⟨h.src.1, fun h0 => by
    obtain ⟨ad, e, _, hcell⟩ := h.src.2 h0
    have hb := h.blk ad e
    exact ⟨ad, e, by simp, fun j v hv => k.cell (hcell j v hv) (fun hx => by
      have e2 : (ad.add j).block = ad.block := by unfold Addr.add; split <;> rfl
      rw [e2] at hx
      have := (hS _ hx).1
      omega)⟩⟩, h.le, h.most, h.hc, h.big, h.nil, h.blk, h.lt, Nat.le_trans h.size k.size⟩

theorem RefIs.cell0 {w : World} {base bM N : Nat} {l : List Int} {ao : Option Addr} {c : Nat} (h : RefIs w base bM N l ao c) : w.cell? ⟨bM, 0, none⟩ = some (.slice ao l.length c) := by rw [cell_of_heap h.hM]; rfl
theorem RefIs.cell1 {w : World} {base bM N : Nat} {l : List Int} {ao : Option Addr} {c : Nat} (h : RefIs w base bM N l ao c) : w.cell? ⟨bM, 1, none⟩ = some (.int .i64 (N : Nat)) := by rw [cell_of_heap h.hM]; rfl

/-- A part of the reference's bytes, as a source. -/
theorem SrcIs.head {w : World} {ao : Option Addr} {m : Nat} {ys : List Int} {S : List Nat} (h : SrcIs w ao m ys S) (k : Nat) (hk : k ≤ m) : SrcIs w ao k (ys.take k) S :=
  ⟨by rw [List.length_take, h.1]; omega, fun h0 => by
    obtain ⟨ad, e, hS, hc⟩ := h.2 (by omega)
    refine ⟨ad, e, hS, fun j v hv => hc j v ?_⟩
    rw [List.map_take, List.getElem?_take] at hv
    split at hv
    · exact hv
    · cases hv⟩

theorem SrcIs.tail {w : World} {ao : Option Addr} {m c : Nat} {ys : List Int} {S : List Nat} (h : SrcIs w ao m ys S) (k : Nat) (hk : k ≤ m) (hc : m ≤ c) : SrcIs w (if c = k then ao else ao.map (fun x => x.add k)) (m - k) (ys.drop k) S :=
  ⟨by rw [List.length_drop, h.1], fun h0 => by
    rw [if_neg (by omega)]
    obtain ⟨ad, e, hS, hc⟩ := h.2 (by omega)
    subst e
    refine ⟨_, rfl, ?_, fun j v hv => ?_⟩
    · intro hx; apply hS; unfold Addr.add at hx; split at hx <;> exact hx
    · rw [Go.Deep.add_add]
      refine hc (k + j) v ?_
      simpa [List.getElem?_drop] using hv⟩

theorem src_cells {w : World} {ao : Option Addr} {m : Nat} {ys : List Int} {S : List Nat} (h : SrcIs w ao m ys S) : ∀ ad, ao = some ad → ∀ j u, (ys.map (Value.int .u8))[j]? = some u → w.cell? (ad.add j) = some u := by
  intro ad e j u hu
  have hj : j < m := by
    have := (List.getElem?_eq_some_iff.1 hu).1
    simpa [h.1] using this
  obtain ⟨ad', e', _, hc⟩ := h.2 (by omega)
  rw [e] at e'
  cases e'
  exact hc j u hu

theorem run_append_src {P : Program} {w : World} (t ty : TypeId) (base : Nat) (e : TypeId) (i : TypeInfo) (z : Value) (size bytes : Nat) (ht : P.underlying t = some (.slice e)) (hi : P.info? e = some i) (hz : i.zero = some z)
    (hsize : i.size = size) (hby : i.bytes = bytes) (hzs : z.cells.size = size) (hsz : 0 < size)
    (v : Value) (n : Nat) (xs : List Value) (hown : w.ownsRow base e size v n xs)
    (ao : Option Addr) (m c : Nat) (news : List Value) (hl : news.length = m * size) (hnone : ao = none → m = 0 ∧ c = 0)
    (hnews : ∀ ad, ao = some ad → ∀ j u, news[j]? = some u → w.cell? (ad.add j) = some u) (h1 : ∀ u ∈ news, u.oneCell' = true)
    (h63 : n + m ≤ maxLen) (hbytes : (n + m) * bytes ≤ 140737488355328) (hbase : base ≤ w.heap.size) :
    ∃ v' w', (Builtin.append_ #[t, t] ty #[v, .slice ao m c]).run P w = .ok v' w' ∧ w'.ownsRow base e size v' (n + m) (xs ++ news) ∧ Chg (v.ownBlock.toList) w w' := by
  cases ao with
  | some ad =>
    obtain ⟨v', w', hr, h2, h3, _⟩ := run_append_own (P := P) (w := w) base t ty e i z size bytes ht hi hz hsize hby hzs hsz v n xs hown ad m c news hl (hnews ad rfl) h1 h63 hbytes hbase
    exact ⟨v', w', hr, h2, ⟨h3.os, h3.tape, h3.output, h3.size, fun k hk hS => h3.block k hk (fun e => hS (by rw [← e]; simp))⟩⟩
  | none =>
    obtain ⟨rfl, rfl⟩ := hnone rfl
    have hn : news = [] := List.eq_nil_of_length_eq_zero (by simpa using hl)
    subst hn
    exact ⟨v, w, run_append_owned_none (P := P) (w := w) base t ty e i size ht hi v n xs hown, by simpa using hown, Chg.refl _ _⟩

theorem step_append_src {P : Program} {w : World} {ops : Array Oper} {o : Oper} {a : Act} {K : Act → World → Prop} {Q : Exit → Act → World → Prop} {E : Prop} (hgd : o.guard = none) (s x : Operand) (t : TypeId)
    (ho : o.op = .call { callee := .builtin .append, args := #[s, x], argTypes := #[t, t] })
    (base : Nat) (e : TypeId) (i : TypeInfo) (z : Value) (size bytes : Nat) (ht : P.underlying t = some (.slice e)) (hi : P.info? e = some i) (hz : i.zero = some z)
    (hsize : i.size = size) (hby : i.bytes = bytes) (hzs : z.cells.size = size) (hsz : 0 < size)
    (v : Value) (n : Nat) (xs : List Value) (hs : a.eval s = v) (hown : w.ownsRow base e size v n xs)
    (ao : Option Addr) (m c : Nat) (news : List Value) (hx : a.eval x = .slice ao m c) (hl : news.length = m * size) (hnone : ao = none → m = 0 ∧ c = 0)
    (hnews : ∀ ad, ao = some ad → ∀ j u, news[j]? = some u → w.cell? (ad.add j) = some u) (h1 : ∀ u ∈ news, u.oneCell' = true)
    (h63 : n + m ≤ maxLen) (hbytes : (n + m) * bytes ≤ 140737488355328) (hbase : base ≤ w.heap.size)
    (h : ∀ v' w', w'.ownsRow base e size v' (n + m) (xs ++ news) → Chg (v.ownBlock.toList) w w' → K (a.put o.dst v') w') :
    if Region.wanted o (yielded ops a.tmps) = true then Oper.wp P o a w K Q else E := by
  have hw : Region.wanted o (yielded ops a.tmps) = true := by simp [Region.wanted, hgd]
  rw [if_pos hw]
  obtain ⟨v', w', hr, h2, h3⟩ := run_append_src (P := P) (w := w) t o.type base e i z size bytes ht hi hz hsize hby hzs hsz v n xs hown ao m c news hl hnone hnews h1 h63 hbytes hbase
  unfold Oper.wp execOp
  simp only [ho, resolve, invoke, builtin, Sem.run_bind, Sem.run_pure, Result.andThen_ok, List.map_toArray, List.map_cons, List.map_nil, hs, hx, hr]
  exact h v' w' h2 h3

/-- A row of the call's own, written out. -/
theorem owns_form {w : World} {base : Nat} {t : TypeId} {v : Value} {n : Nat} {xs : List Int} (h : w.ownsRow base t 1 v n (xs.map (Value.int .u8))) :
    ∃ ao c, v = .slice ao n c ∧ SrcIs w ao n xs [] ∧ n ≤ c ∧ c ≤ maxLen ∧ (ao = none → c = 0) ∧ ∀ ad, ao = some ad → base ≤ ad.block := by
  have hl : xs.length = n := by have := h.1; simpa using this
  rcases h.2 with ⟨rfl, rfl⟩ | ⟨g, cap, cur, rfl, hb, hh, h1, h2, _, ht⟩
  · exact ⟨none, 0, rfl, ⟨hl, fun h => absurd h (by omega)⟩, Nat.le_refl _, Nat.zero_le _, fun _ => rfl, fun ad e => by cases e⟩
  · refine ⟨_, _, rfl, ⟨hl, fun _ => ⟨_, rfl, by simp, fun j u hu => ?_⟩⟩, h1, h2, fun e => (by cases e), fun ad e => by cases e; exact hb⟩
    rw [Addr.add_lit, cell_of_heap hh, Nat.zero_add]
    rw [← ht, List.getElem?_take] at hu
    split at hu
    · simpa using hu
    · cases hu

theorem ref_mk {w0 w3 : World} {base bM N : Nat} {l : List Int} {bo : Option Addr} {bc : Nat} (R0 : RefIs w0 base bM N l bo bc) (D3 : Chg [] w0 w3) {b3 : Option Addr} {n c3 : Nat} {xs : List Int}
    (F3 : SrcIs w3 b3 n xs [] ∧ n ≤ c3 ∧ c3 ≤ maxLen ∧ (b3 = none → c3 = 0) ∧ ∀ ad, b3 = some ad → w0.heap.size ≤ ad.block) (hN : xs.length ≤ N) :
    RefIs (w3.setCell ⟨bM, 0, none⟩ (.slice b3 n c3)) base bM N xs b3 c3 := by
  obtain ⟨f1, f2, f3, f4, f5⟩ := F3
  have hn := f1.1
  have hlt := R0.lt
  have hsz := R0.size
  have hC : Chg [bM] w3 (w3.setCell ⟨bM, 0, none⟩ (.slice b3 n c3)) := (Chg.refl _ _).setCell (Or.inl (by simp)) _
  refine ⟨?_, ⟨rfl, fun h0 => ?_⟩, hN, R0.most, by omega, f3, f4, fun ad e => by have := f5 ad e; omega, hlt, Nat.le_trans hsz (Nat.le_trans D3.size hC.size)⟩
  · rw [setCell_heap _ (D3.heap R0.hM (by simp)), hn]; rfl
  · obtain ⟨ad, e, _, hc⟩ := f1.2 (by omega)
    have hb := f5 ad e
    refine ⟨ad, e, by simp, fun j v hv => hC.cell (hc j v hv) (fun hx => ?_)⟩
    have e2 : (ad.add j).block = ad.block := by unfold Addr.add; split <;> rfl
    rw [e2] at hx
    simp at hx
    omega

set_option maxHeartbeats 2000000 in
theorem refInsert_ok (base bM N : Nat) (l : List Int) (bo : Option Addr) (bc : Nat) (k : Nat) (ao : Option Addr) (m c : Nat) (ys : List Int) (w : World) (h : RefIs w base bM N l bo bc) (hs : SrcIs w ao m ys []) (hn : ao = none → m = 0 ∧ c = 0) (hk : k ≤ l.length) (hm : m ≤ N - l.length) :
    Calls Try.prog 19 #[.pointer (some ⟨bM, 0, none⟩), .int .i64 k, .slice ao m c] w fun e w' => e = .returned (.int .i64 0) ∧ Chg [bM] w w' ∧ ∃ bo' bc', RefIs w' base bM N (l.take k ++ ys ++ l.drop k) bo' bc' := by
  obtain ⟨zs, hzs⟩ : ∃ zs, zs = l.take k ++ ys ++ l.drop k := ⟨_, rfl⟩
  rw [← hzs]
  have HZ := Lib.hid hzs
  clear hzs
  have h0 := h.cell0
  have h1 := h.cell1
  have hle := h.le
  have hmost := h.most
  have hc := h.hc
  have hbig := h.big
  unfold maxLen at hbig
  have f1 : (k : Int) ≤ (l.length : Int) := by omega
  have f2 : (l.length : Int) + (m : Int) ≤ (N : Int) := by omega
  have f3 : IntKind.i64.wrap ((l.length : Int) + (m : Int)) = (l.length : Int) + (m : Int) := IntWalk.i64_in _ (by omega)
  have f4 : (k : Int) ≤ (bc : Int) := by omega
  go_enter Try.func19, Try.ntmps19
  go_wp2_with fail
  go_quiet (fail)
  go_wp2_with fail
  generalize hw0 : w.drewN _ = w0
  have D0 : Chg [] w w0 := by rw [← hw0]; exact (Chg.refl [] w).drewN _
  clear hw0
  have R0 := h.chg D0 (by simp)
  have S0 := hs.chg D0 (by simp)
  have hK := Lib.hid (show ∀ w', Chg [] w0 w' → w'.cell? ⟨bM, 0, none⟩ = some (.slice bo l.length bc) ∧ w'.frozen? ⟨bM, 0, none⟩ = false from fun w' hc => ⟨hc.cell R0.cell0 (by simp), free_of_heap (hc.heap R0.hM (by simp)) 0⟩)
  have hsz0 := Lib.hid R0.size
  have hlc := Lib.hid R0.hc
  have hA := Lib.hid (R0.src.head k hk)
  have hB := Lib.hid S0
  have hC := Lib.hid (R0.src.tail k hk R0.hc)
  have hN := Lib.hid R0.nil
  have D00 : Chg [] w0 w0.drew := (Chg.refl [] w0).drew
  have DB0 : Chg [] w0 (w0.alloc (.cells #[] 5)).drew := ((Chg.refl [] w0).alloc _).drew
  obtain ⟨i0, hi, hz0, hz1, hz2⟩ := info_parts infoU8
  have O0 : (w0.alloc (.cells #[] 5)).drew.ownsRow w0.heap.size 5 1 (.slice (some ⟨w0.heap.size, 0, none⟩) 0 0) 0 [] := owns_empty w0 w0.heap.size 5 (Nat.le_refl _)
  obtain ⟨q0, q1⟩ := hK.out _ D00
  obtain ⟨q2, q3⟩ := hK.out _ DB0
  have hR := Lib.hid R0
  have hD := Lib.hid D0
  clear h hs R0 S0 h0 h1 hc hbig hle f1 f2 f3 D0
  have hNC := Lib.hid (show (if bc = k then bo else bo.map (fun x => x.add k)) = none → l.length - k = 0 ∧ bc - k = 0 from fun e => by
    have : bo = none := by
      cases bo with
      | none => rfl
      | some ad => split at e <;> cases e
    have := hN.out this
    have := hlc.out
    omega)
  go_region_law
    (first
      | (refine step_append_src rfl _ _ 22 (by rfl) w0.heap.size 5 i0 (.int .u8 0) 1 1 Try.underlying22 hi hz0 hz1 hz2 rfl (by decide) v2 (0 + k + m) _ (by rfl) O2 (if bc = k then bo else bo.map (fun x => x.add k)) (l.length - k) (bc - k) ((l.drop k).map (Value.int .u8)) (by rfl) (by rw [List.length_map, hC.out.1, Nat.mul_one]) (fun e => hNC.out e) (src_cells (hC.out.chg D2 (by simp))) (oneCell_u8 _) (by unfold maxLen; omega) (by omega) (D2.size) ?_; intro v3 w3 O3 C3; have D3 : Chg [] w0 w3 := D2.trans C3 (by simp) (fun x hx hlt => absurd (owns_block O2 x (by simpa [Option.mem_toList] using hx)) (by omega)); obtain ⟨r0, r1⟩ := hK.out _ D3; rw [List.nil_append, ← List.map_append, ← List.map_append, ← HZ.out] at O3; obtain ⟨n3, hn3⟩ : ∃ n3, n3 = 0 + k + m + (l.length - k) := ⟨_, rfl⟩; rw [← hn3] at O3; have HN3 := Lib.hid hn3; clear hn3; obtain ⟨b3, c3, rfl, F3⟩ := owns_form O3; generalize (if bc = k then bo else Option.map (fun x => x.add k) bo) = dd)
      | (refine step_append_src rfl _ _ 22 (by rfl) w0.heap.size 5 i0 (.int .u8 0) 1 1 Try.underlying22 hi hz0 hz1 hz2 rfl (by decide) v1 (0 + k) _ (by rfl) O1 ao m c (ys.map (Value.int .u8)) (by rfl) (by rw [List.length_map, hB.out.1, Nat.mul_one]) (hn) (src_cells (hB.out.chg D1 (by simp))) (oneCell_u8 _) (by unfold maxLen; omega) (by omega) (D1.size) ?_; intro v2 w2 O2 C2; have D2 : Chg [] w0 w2 := D1.trans C2 (by simp) (fun x hx hlt => absurd (owns_block O1 x (by simpa [Option.mem_toList] using hx)) (by omega)); obtain ⟨r0, r1⟩ := hK.out _ D2)
      | (refine step_append_src rfl _ _ 22 (by rfl) w0.heap.size 5 i0 (.int .u8 0) 1 1 Try.underlying22 hi hz0 hz1 hz2 rfl (by decide) _ 0 [] (by rfl) O0 bo k bc ((l.take k).map (Value.int .u8)) (by rfl) (by rw [List.length_map, hA.out.1, Nat.mul_one]) (fun e => by have := hN.out e; omega) (src_cells (hA.out.chg DB0 (by simp))) (oneCell_u8 _) (by unfold maxLen; omega) (by omega) (DB0.size) ?_; intro v1 w1 O1 C1; have D1 : Chg [] w0 w1 := DB0.trans C1 (by simp) (by simp [Value.ownBlock]); obtain ⟨r0, r1⟩ := hK.out _ D1))
  all_goals (
    go_wp2_with fail
    go_ret
    exact ⟨rfl, ((hD.out.trans D3 (U := [bM]) (by simp) (by simp)).setCell (Or.inl (by simp)) _), _, _, ref_mk hR.out D3 F3 (by rw [F3.1.1, HN3.out]; have := hR.out.le; omega)⟩)
end Go.Proofs.Ytghefhhgckafdaa
