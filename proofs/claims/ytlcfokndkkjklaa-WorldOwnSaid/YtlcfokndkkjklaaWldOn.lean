/-
  WorldOwn: who changes a plan that was handed in, or bytes that were told, changes nothing of the world. The walk.
-/
import Derived.Test.YtlcfokndkkjklaaWldL
import Derived.Deep.DeepCutAuto
namespace Go.Proofs.Ytlcfokndkkjklaa
set_option linter.unusedVariables false
set_option linter.unusedSimpArgs false
set_option maxRecDepth 100000
open Go.RowKit

theorem OwnWd.base {w0 w1 w : World} {μ : Wm} {Z : List Zt} {c : Wc} (h : OwnWd w1 w μ Z c) (k : Chg [] w0 w1) : OwnWd w0 w μ Z c :=
  ⟨h.is, k.trans h.c0 (fun y hy => hy) (by simp), fun x hx => h.lo x (Nat.lt_of_lt_of_le hx k.size), h.hi⟩

/-- The plan that was handed in. -/
def onPlan (ao : Option Addr) (k c : Nat) (zs : List Int) (h : Nat) : PlanD := ⟨0, 0, 0, some ⟨h + 1, 0, none⟩, 2, 2, [⟨0, 0, 0, ao, k, c, zs⟩, ⟨f1w, 0, 0, some ⟨h, 0, none⟩, 3, 3, [101, 110, 100]⟩], some ⟨h + 1 + 1, 0, none⟩, 1, 1, [2], some ⟨h + 1 + 1 + 1, 0, none⟩, 1, 1, [1], some ⟨h + 1 + 1 + 1 + 1, 0, none⟩, 1, 1, [0]⟩

theorem owns_caps {w : World} {base : Nat} {e : TypeId} {ao : Option Addr} {n c : Nat} {xs : List Value} (h : w.ownsRow base e 1 (.slice ao n c) n xs) : n ≤ c ∧ c ≤ maxLen := by
  rcases h.2 with ⟨e, h0⟩ | ⟨g, cap, cur, e, _, _, h1, h2, _⟩
  · injection e with _ _ e3; subst e3; subst h0; exact ⟨Nat.le_refl _, Nat.zero_le _⟩
  · injection e with _ _ e3; subst e3; exact ⟨h1, h2⟩

/-- What was laid for the plan. -/
structure OnHas (w : World) (ao : Option Addr) (k c h : Nat) : Prop where
  h0 : w.heap[h]? = some (.cells #[.int .u8 101, .int .u8 110, .int .u8 100] 5 (3, 4))
  h1 : w.heap[h + 1]? = some (.cells #[.float .f64 0, .int .i64 0, .int .i64 0, .slice ao k c, .float .f64 f1w, .int .i64 0, .int .i64 0, .slice (some ⟨h, 0, none⟩) 3 3] 26 (0, 0))
  h2 : w.heap[h + 1 + 1]? = some (.cells #[.int .i64 2] 3 (0, 0))
  h3 : w.heap[h + 1 + 1 + 1]? = some (.cells #[.int .i64 1] 3 (0, 0))
  h4 : w.heap[h + 1 + 1 + 1 + 1]? = some (.cells #[.int .i64 0] 3 (0, 0))
  h5 : w.heap[h + 1 + 1 + 1 + 1 + 1]? = some (.cells #[.int .u32 0, .int .u8 0, .int .u8 0, .slice (some ⟨h + 1, 0, none⟩) 2 2, .slice (some ⟨h + 1 + 1, 0, none⟩) 1 1, .slice (some ⟨h + 1 + 1 + 1, 0, none⟩) 1 1, .slice (some ⟨h + 1 + 1 + 1 + 1, 0, none⟩) 1 1] 36 (0, 0))

theorem OnHas.chg {w w' : World} {ao : Option Addr} {k c h : Nat} {S : List Nat} (H : OnHas w ao k c h) (C : Chg S w w') (hS : ∀ x ∈ S, x < h) : OnHas w' ao k c h :=
  ⟨C.heap H.h0 (fun hm => by have := hS _ hm; omega), C.heap H.h1 (fun hm => by have := hS _ hm; omega), C.heap H.h2 (fun hm => by have := hS _ hm; omega), C.heap H.h3 (fun hm => by have := hS _ hm; omega), C.heap H.h4 (fun hm => by have := hS _ hm; omega), C.heap H.h5 (fun hm => by have := hS _ hm; omega)⟩

theorem on_made {w w' : World} {o0 o1 o2 o3 o4 o5 : Obj} (e : (((((w.alloc o0).alloc o1).alloc o2).alloc o3).alloc o4).alloc o5 = w') :
    Chg [] w w' ∧ w'.heap[w.heap.size]? = some o0 ∧ w'.heap[w.heap.size + 1]? = some o1 ∧ w'.heap[w.heap.size + 1 + 1]? = some o2 ∧ w'.heap[w.heap.size + 1 + 1 + 1]? = some o3 ∧ w'.heap[w.heap.size + 1 + 1 + 1 + 1]? = some o4 ∧ w'.heap[w.heap.size + 1 + 1 + 1 + 1 + 1]? = some o5 ∧ w'.heap.size = w.heap.size + 6 := by
  subst e
  have s1 : (w.alloc o0).heap.size = w.heap.size + 1 := by simp
  have s2 : ((w.alloc o0).alloc o1).heap.size = w.heap.size + 1 + 1 := by simp
  have s3 : (((w.alloc o0).alloc o1).alloc o2).heap.size = w.heap.size + 1 + 1 + 1 := by simp
  have s4 : ((((w.alloc o0).alloc o1).alloc o2).alloc o3).heap.size = w.heap.size + 1 + 1 + 1 + 1 := by simp
  have s5 : (((((w.alloc o0).alloc o1).alloc o2).alloc o3).alloc o4).heap.size = w.heap.size + 1 + 1 + 1 + 1 + 1 := by simp
  refine ⟨((((((Chg.refl [] w).alloc o0).alloc o1).alloc o2).alloc o3).alloc o4).alloc o5, ?_, ?_, ?_, ?_, ?_, ?_, ?_⟩
  · exact alloc_keeps (alloc_keeps (alloc_keeps (alloc_keeps (alloc_keeps (alloc_heap w o0)))))
  · rw [← s1]; exact alloc_keeps (alloc_keeps (alloc_keeps (alloc_keeps (alloc_heap _ o1))))
  · rw [← s2]; exact alloc_keeps (alloc_keeps (alloc_keeps (alloc_heap _ o2)))
  · rw [← s3]; exact alloc_keeps (alloc_keeps (alloc_heap _ o3))
  · rw [← s4]; exact alloc_keeps (alloc_heap _ o4)
  · rw [← s5]; exact alloc_heap _ o5
  · simp

theorem int_row {w : World} {g : Nat} {z : Int} (h : w.heap[g]? = some (.cells #[.int .i64 z] 3 (0, 0))) (hz : (Lit.int .i64 z).wf = true) : IsRow .i64 w (some ⟨g, 0, none⟩) 1 1 [z] :=
  .inr ⟨⟨g, 0, none⟩, rfl, Nat.le_refl _, by unfold maxLen; simp, rfl, fun i hi => by
    rw [Addr.add_lit, cell_of_heap h]
    match i, hi with
    | 0, _ => rfl, fun n hn => by rw [List.mem_singleton.1 hn]; exact hz⟩

theorem OnHas.at {w : World} {ao : Option Addr} {k c h : Nat} {zs : List Int} (H : OnHas w ao k c h) (hr : BRow w ao k c zs) : (onPlan ao k c zs h).At w := by
  have cg := fun j => cell_of_heap H.h0 j
  have ch := fun j => cell_of_heap H.h1 j
  refine ⟨⟨rfl, fun _ => ⟨h + 1, 0, rfl, fun k x hx => ?_⟩⟩, by unfold onPlan maxLen; simp, int_row H.h2 (by decide), int_row H.h3 (by decide), int_row H.h4 (by decide)⟩
  match k, hx with
  | 0, hx =>
    cases hx
    exact ⟨by rw [ch]; rfl, by rw [ch]; rfl, by rw [ch]; rfl, by rw [ch]; rfl, hr, Wd_zero⟩
  | 1, hx =>
    cases hx
    refine ⟨by rw [ch]; rfl, by rw [ch]; rfl, by rw [ch]; rfl, by rw [ch]; rfl, IsRow.row (.inr ⟨⟨h, 0, none⟩, rfl, Nat.le_refl _, by unfold maxLen; simp, rfl, fun i hi => ?_, fun n hn => ?_⟩), Wd_f1⟩
    · rw [Addr.add_lit, cg]
      match i, hi with
      | 0, _ => rfl
      | 1, _ => rfl
      | 2, _ => rfl
    · simp only [List.mem_cons, List.not_mem_nil, or_false] at hn
      rcases hn with rfl | rfl | rfl <;> decide
  | k + 2, hx => cases hx

theorem on_chk (ao : Option Addr) (k c : Nat) (zs : List Int) (h : Nat) : (onPlan ao k c zs h).chk = 0 := by
  unfold onPlan PlanD.chk
  simp [chkL, chk1]

theorem on_ord (ao : Option Addr) (k c : Nat) (zs : List Int) (h : Nat) (hk : zs.length = k) : ordP (onPlan ao k c zs h).its (onPlan ao k c zs h).il = if k = 0 then [((f1w, 1, 0), ⟨f1w, 0, 0, [101, 110, 100]⟩)] else [((0, 0, 0), ⟨0, 0, 0, zs⟩), ((f1w, 1, 1), ⟨f1w, 0, 0, [101, 110, 100]⟩)] := by
  have e2 : (onPlan ao k c zs h).il = 1 + 1 := rfl
  rw [e2, ordP_succ (its := (onPlan ao k c zs h).its) (k := 1) (x := ⟨f1w, 0, 0, some ⟨h, 0, none⟩, 3, 3, [101, 110, 100]⟩) rfl, ordP_succ (its := (onPlan ao k c zs h).its) (k := 0) (x := ⟨0, 0, 0, ao, k, c, zs⟩) rfl]
  have e0 : ordP (onPlan ao k c zs h).its 0 = [] := rfl
  rw [e0]
  by_cases h0 : k = 0
  · subst h0
    rw [if_pos rfl]
    rfl
  · rw [if_neg h0]
    have c1 : comes ⟨0, 0, 0, ao, k, c, zs⟩ = true := comes_yes (.inr h0)
    have c2 : comes ⟨f1w, 0, 0, some ⟨h, 0, none⟩, 3, 3, [101, 110, 100]⟩ = true := rfl
    have i1 : itOf ⟨0, 0, 0, ao, k, c, zs⟩ = ⟨0, 0, 0, zs⟩ := by unfold itOf; dsimp only; rw [List.take_of_length_le (by omega)]
    unfold ordStep
    rw [if_pos c1, if_pos c2, i1]
    have d : decide (oE (0, 0, 0) < oE (f1w, 1, 1)) = true := by decide +kernel
    have p1 : insP [] ((0, ((0 : Nat) : Int), (([] : List (Ele × It)).length : Int)), ⟨0, 0, 0, zs⟩) = [((0, 0, 0), ⟨0, 0, 0, zs⟩)] := rfl
    dsimp only
    rw [p1]
    unfold insP insG
    simp only [List.filter_cons, List.filter_nil]
    show (if decide (oE (0, 0, 0) < oE (f1w, 1, 1)) = true then _ else _) ++ _ :: (if (!decide (oE (0, 0, 0) < oE (f1w, 1, 1))) = true then _ else _) = _
    rw [d]
    rfl

theorem one_of {Z : List Zt} {a : Ele × It} (h : Z.map Zt.pr = [a]) : ∃ z1, Z = [z1] ∧ z1.pr = a := by
  match Z, h with
  | [z1], h =>
    injection h with h1 _
    exact ⟨z1, rfl, h1⟩

/-- Bytes that are turned over. -/
def Flip (w : World) (a : Option Addr) (k : Nat) : Prop := k = 0 ∨ ∃ g cur, a = some ⟨g, 0, none⟩ ∧ w.heap[g]? = some (.cells cur 5 (0, 0)) ∧ ∀ j, j < k → ∃ y, cur[j]? = some (.int .u8 y)

theorem Flip.of_owns {w : World} {base : Nat} {ao : Option Addr} {n c : Nat} {zs : List Int} (h : w.ownsRow base 5 1 (.slice ao n c) n (valsOf .u8 zs)) : Flip w ao n := by
  rcases h.2 with ⟨_, h0⟩ | ⟨g, cap, cur, e, _, hg, h1, h2, h3, h4⟩
  · exact .inl h0
  · injection e with e1 _ e3
    subst e1 e3
    refine .inr ⟨g, cur, rfl, hg, fun j hj => ?_⟩
    have hl : (valsOf .u8 zs).length = n := by have := h.1; omega
    rw [valsOf_length] at hl
    have := h.cells (g := g) rfl j (.int .u8 (zs.getD j 0)) (by simp [valsOf, List.getElem?_eq_getElem (show j < zs.length by omega)])
    rw [Addr.add_lit, Nat.zero_add, cell_of_heap hg] at this
    exact ⟨_, this⟩

theorem Flip.get {w : World} {a : Option Addr} {k i : Nat} (h : Flip w a k) (hi : i < k) : ∃ g y, a = some ⟨g, 0, none⟩ ∧ w.cell? ⟨g, i, none⟩ = some (.int .u8 y) ∧ (∀ j, w.frozen? ⟨g, j, none⟩ = false) ∧ ∀ z, Flip (w.setCell ⟨g, i, none⟩ (.int .u8 z)) a k := by
  rcases h with h | ⟨g, cur, e, hg, hc⟩
  · omega
  · obtain ⟨y, hy⟩ := hc i hi
    refine ⟨g, y, e, by rw [cell_of_heap hg]; exact hy, fun j => free_of_heap hg j, fun z => .inr ⟨g, _, e, setCell_heap _ hg, fun j hj => ?_⟩⟩
    rw [Array.getElem?_setIfInBounds]
    by_cases c : i = j
    · subst c
      rw [if_pos rfl, if_pos (Array.getElem?_eq_some_iff.1 hy).1]
      exact ⟨z, rfl⟩
    · rw [if_neg c]; exact hc j hj

theorem Flip.chg {w w' : World} {a : Option Addr} {k : Nat} (h : Flip w a k) (c : Chg [] w w') : Flip w' a k := by
  rcases h with h | ⟨g, cur, e, hg, hc⟩
  · exact .inl h
  · exact .inr ⟨g, cur, e, c.heap hg (by simp), hc⟩

set_option maxHeartbeats 16000000 in
theorem own_walk (ao : Option Addr) (n c : Nat) (zs : List Int) (m : Int) (w : World) (hr : IsRow .u8 w ao n c zs) (hm : (Lit.int .i64 m).wf = true) :
    Calls Try.prog 6 #[.slice ao n c, .int .i64 m] w fun e w' => e = .returned (.bool true) ∧ Below w.heap.size w w' := by
  obtain ⟨i0, hi, hz0, hz1, hz2⟩ := info_parts infoB
  have kc := fun (w : World) (C : Array Value) (n c : Nat) => Lib.run_convert_bytes_const (P := Try.prog) w 24 5 C n c Try.underlying24 Try.underlying5
  have hb : -9223372036854775808 ≤ m ∧ m ≤ 9223372036854775807 := by simpa [Lit.wf, IntKind.min, IntKind.max, IntKind.bits, IntKind.signed] using hm
  have HB := Lib.hid hb
  clear hb hm
  have hle := hr.le
  unfold maxLen at hle
  obtain ⟨l1, l2, l3⟩ := hle
  obtain ⟨k, hk, hk1, hk2⟩ : ∃ k, k ≤ n ∧ k ≤ 500 ∧ ((n ≤ 500 ∧ k = n) ∨ (500 < n ∧ k = 500)) := by
    by_cases h : n ≤ 500
    · exact ⟨n, Nat.le_refl _, h, .inl ⟨h, rfl⟩⟩
    · exact ⟨500, by omega, Nat.le_refl _, .inr ⟨by omega, rfl⟩⟩
  have hS : SrcAt w ao k c (valsOf .u8 (zs.take k)) := by
    have hs := hr.src
    refine ⟨by rw [valsOf_length]; simp; omega, fun e => ⟨by have := (hs.2.1 e).1; omega, (hs.2.1 e).2⟩, fun ad e j u hu => hs.2.2 ad e j u ?_⟩
    unfold valsOf at hu ⊢
    rw [List.getElem?_map, List.getElem?_take] at hu ⊢
    split at hu
    · rw [if_pos (by omega)]; exact hu
    · cases hu
  have C0 : Chg [] w (w.alloc (.cells #[] 5)) := (Chg.refl _ _).alloc _
  have O0 : (w.alloc (.cells #[] 5)).ownsRow w.heap.size 5 1 (.slice (some ⟨w.heap.size, 0, none⟩) 0 0) 0 [] := owns_empty w w.heap.size 5 (Nat.le_refl _)
  have S1 := Lib.hid (hS.chg0 C0)
  have hl := Lib.hid (show (valsOf .u8 (zs.take k)).length = k * 1 by rw [valsOf_length]; simp; omega)
  have HC0 := Lib.hid C0
  have HO0 := Lib.hid O0
  have HS := Lib.hid hS
  have hkc : k ≤ c := by omega
  clear hr hS C0 O0
  have hc2 : ¬ ((c : Int) < 0) := by omega
  have HK2 := Lib.hid hk2
  clear hk2
  go_enter Try.func6, Try.ntmps6
  go_upto_region 1 with (fail)
  go_cut [0] (fun v wx => v = .slice ao k c ∧ w = wx)
  case first =>
    rcases HK2.out with ⟨hk2, rfl⟩ | ⟨hk2, rfl⟩
    · go_wp2_with fail
      go_meet
      exact ⟨rfl, rfl⟩
    · go_wp2_with fail
      go_meet
      exact ⟨rfl, rfl⟩
  case rest =>
  obtain ⟨rfl, rfl⟩ := hcut
  go_wp2_with (refine wpList_append_src rfl (.tmp 26) (.tmp 27) 24 rfl w.heap.size 5 i0 (.int .u8 0) 1 1 Try.underlying24 hi hz0 hz1 hz2 rfl (by decide) _ 0 [] (by rfl) HO0.out ao _ c (valsOf .u8 (zs.take _)) (by rfl) hl.out S1.out.2.1 S1.out.2.2 (oneCell_vals _ _) (by unfold maxLen; omega) (by omega) HC0.out.size (fun v5 w5 O5 C5 _ => ?_); have D5 : Chg [] w w5 := HC0.out.trans C5 (by simp) (by simp [Value.ownBlock]); rw [List.nil_append, Nat.zero_add] at O5; obtain ⟨a5, c5, rfl, _, _⟩ := owns_srcAt O5; have H5 := Lib.hid O5; have HD5 := Lib.hid D5; clear O5 C5 D5)
  have hks : (zs.take k).length = k := by simp; omega
  have hk6 : k ≤ 500 := by omega
  obtain ⟨h, hh⟩ : ∃ h, h = w5.heap.size := ⟨_, rfl⟩
  rw [← hh]
  generalize hw6 : World.alloc (World.alloc (World.alloc (World.alloc (World.alloc (World.alloc w5 _) _) _) _) _) _ = w6
  obtain ⟨M0, M1, M2, M3, M4, M5, M6, M7⟩ := on_made hw6
  rw [← hh] at M1 M2 M3 M4 M5 M6 M7
  have OH : OnHas w6 a5 k c5 h := ⟨M1, M2, M3, M4, M5, M6⟩
  have HOH := Lib.hid OH
  have D6 := Lib.hid (HD5.out.trans M0 (U := []) (fun y hy => hy) (by simp))
  have H6 := Lib.hid (owns_keep H5.out M0 (by simp))
  have HSZ : Hid (w6.heap.size = h + 6 ∧ w.heap.size ≤ h) := Lib.hid ⟨M7, by rw [hh]; exact HD5.out.size⟩
  have HGL : Hid (∀ x, (Value.slice a5 k c5).ownBlock = some x → x < h ∧ w.heap.size ≤ x) := Lib.hid (fun x hx => ⟨by rw [hh]; exact (H5.out.lt x hx).2, (H5.out.lt x hx).1⟩)
  have hnw := wNew_any (onPlan a5 k c5 (zs.take k) h) w6 (OH.at ⟨(owns_caps H5.out).1, (owns_caps H5.out).2, by omega, by
    have ho := owns_keep H5.out M0 (by simp)
    obtain ⟨a6, c6, e, hs6, _⟩ := owns_srcAt ho
    injection e with e1 _ e3
    subst e1 e3
    rw [List.take_of_length_le (show (zs.take k).length ≤ k by omega)]
    exact hs6⟩) (on_chk _ _ _ _ _) (by show 1 ≤ _; omega) (by show 1 ≤ _; omega) (by show 1 ≤ _; omega) (fun x hx => by
    unfold onPlan at hx
    simp only [List.mem_cons, List.not_mem_nil, or_false] at hx
    rcases hx with rfl | rfl
    · show k ≤ _; omega
    · show 3 ≤ _; omega)
  refine hnw.mono ?_
  rintro e w7 ⟨μ, Z, rfl, O7, hz⟩
  rw [on_ord _ _ _ _ _ hks] at hz
  have HZ := Lib.hid hz
  have HLO := Lib.hid (fun x (hx : x < h + 6) => O7.lo x (by rw [HSZ.out.1]; exact hx))
  have o7 := O7.base D6.out
  rw [show (onPlan a5 k c5 (zs.take k) h).cnt = ⟨[2], [1], [0], 0, 0, 0⟩ from rfl] at o7
  have HO7 := Lib.hid o7
  clear o7
  have F7 := Flip.of_owns (owns_keep H6.out O7.c0 (by simp))
  have D7 := Lib.hid (D6.out.trans O7.c0 (U := []) (fun y hy => hy) (by simp))
  have HOH7 := Lib.hid (HOH.out.chg O7.c0 (by simp))
  clear hz O7 hnw hw6 M0 M1 M2 M3 M4 M5 M6 M7 OH HOH hh hi hz0 hz1 hz2 kc i0 HO0 HC0 S1 hl hc2
  go_wp2_with fail
  go_loopw [52] (fun iv wr => ∃ j : Nat, j ≤ k ∧ iv = .int .i64 j ∧ Flip wr a5 k ∧ Chg (Value.slice a5 k c5).ownBlock.toList w7 wr) (fun iv _ => k - (intOf iv).toNat)
  case atStart => exact ⟨0, by omega, rfl, F7, Chg.refl _ _⟩
  case round =>
    obtain ⟨j, hj, rfl, hF, hC⟩ := hrel
    by_cases hlt : j < k
    · obtain ⟨g, y, rfl, hy, hfr, hst⟩ := hF.get hlt
      have HST := Lib.hid hst
      clear hst hF
      go_wp2_with fail
      have hg := HGL.out g rfl
      go_roundw
      case rel => exact ⟨j + 1, by omega, by go_num, HST.out _, hC.setCell (p := ⟨g, j, none⟩) (Or.inl (by show g ∈ (some g).toList; simp)) _⟩
      case measure => simp [intOf]; omega
    · obtain rfl : j = k := by omega
      have hOH := HOH7.out.chg hC (fun x hx => (HGL.out x (by simpa [Option.mem_toList] using hx)).1)
      have OW := Lib.hid (HO7.out.chg hC (fun x hx => ⟨HLO.out x (by have := (HGL.out x (by simpa [Option.mem_toList] using hx)).1; omega), (HGL.out x (by simpa [Option.mem_toList] using hx)).2⟩))
      have HCW := Lib.hid hC
      have q1 : wr.cell? ⟨h + 1 + 1 + 1 + 1 + 1, 3, none⟩ = some (.slice (some ⟨h + 1, 0, none⟩) 2 2) := by rw [cell_of_heap hOH.h5]; rfl
      have q2 : wr.cell? ⟨h + 1 + 1 + 1 + 1 + 1, 4, none⟩ = some (.slice (some ⟨h + 1 + 1, 0, none⟩) 1 1) := by rw [cell_of_heap hOH.h5]; rfl
      have q3 : wr.cell? ⟨h + 1 + 1 + 1 + 1 + 1, 5, none⟩ = some (.slice (some ⟨h + 1 + 1 + 1, 0, none⟩) 1 1) := by rw [cell_of_heap hOH.h5]; rfl
      have q4 : wr.cell? ⟨h + 1 + 1 + 1 + 1 + 1, 6, none⟩ = some (.slice (some ⟨h + 1 + 1 + 1 + 1, 0, none⟩) 1 1) := by rw [cell_of_heap hOH.h5]; rfl
      have q5 : wr.cell? ⟨h + 1, 5, none⟩ = some (.int .i64 0) := by rw [cell_of_heap hOH.h1]; rfl
      have q6 : wr.cell? ⟨h + 1 + 1, 0, none⟩ = some (.int .i64 2) := by rw [cell_of_heap hOH.h2]; rfl
      have q7 : wr.cell? ⟨h + 1 + 1 + 1, 0, none⟩ = some (.int .i64 1) := by rw [cell_of_heap hOH.h3]; rfl
      have q8 : wr.cell? ⟨h + 1 + 1 + 1 + 1, 0, none⟩ = some (.int .i64 0) := by rw [cell_of_heap hOH.h4]; rfl
      have f1 := free_of_heap hOH.h1 5
      have f2 := free_of_heap hOH.h2 0
      have f3 := free_of_heap hOH.h3 0
      have f4 := free_of_heap hOH.h4 0
      clear hOH hF hC
      go_wp2_with fail
      go_region
      have K8 := ((((Chg.refl [h + 1, h + 1 + 1, h + 1 + 1 + 1, h + 1 + 1 + 1 + 1] wr).setCell (p := ⟨h + 1, 5, none⟩) (Or.inl (by simp)) (.int .i64 2)).setCell (p := ⟨h + 1 + 1, 0, none⟩) (Or.inl (by simp)) (.int .i64 99)).setCell (p := ⟨h + 1 + 1 + 1, 0, none⟩) (Or.inl (by simp)) (.int .i64 0)).setCell (p := ⟨h + 1 + 1 + 1 + 1, 0, none⟩) (Or.inl (by simp)) (.int .i64 5) |>.drew
      generalize World.drew _ = w8 at K8 ⊢
      have O8 := Lib.hid (OW.out.chg K8 (fun x hx => by
        simp only [List.mem_cons, List.not_mem_nil, or_false] at hx
        have h1 := HSZ.out.2
        rcases hx with rfl | rfl | rfl | rfl
        · exact ⟨HLO.out _ (by omega), by omega⟩
        · exact ⟨HLO.out _ (by omega), by omega⟩
        · exact ⟨HLO.out _ (by omega), by omega⟩
        · exact ⟨HLO.out _ (by omega), by omega⟩))
      clear K8 OW f1 f2 f3 f4 q1 q2 q3 q4 q5 q6 q7 q8
      go_upto_if 77 with (fail)
      go_cut [] (fun wx => ∃ (v' : Value) (z2 : Zt), Hid (z2.it.kind = 0 ∧ z2.it.bs = [101, 110, 100]) ∧ Hid (OwnWd w wx { μ with v := v' } [z2] ⟨[2], [1], [0], 0, 0, 0⟩))
      case first =>
        by_cases hk0 : j = 0
        · have hz := HZ.out
          rw [if_pos hk0] at hz
          obtain ⟨z2, rfl, h2⟩ : ∃ z2, Z = [z2] ∧ z2.pr = ((f1w, 1, 0), ⟨f1w, 0, 0, [101, 110, 100]⟩) := one_of hz
          have i2 : z2.it = ⟨f1w, 0, 0, [101, 110, 100]⟩ := congrArg (·.2) h2
          have I2 : Hid (z2.it.kind = 0 ∧ z2.it.bs = [101, 110, 100]) := Lib.hid ⟨by rw [i2], by rw [i2]⟩
          have hk1' : ¬ (0 : Int) < (j : Int) := by omega
          clear hz h2 i2 HZ hk0
          go_wp2_with fail
          go_meet
          case rel => exact ⟨μ.v, z2, I2, O8⟩
        · have hz := HZ.out
          rw [if_neg hk0] at hz
          obtain ⟨z1, z2, rfl, h1, h2⟩ := two_of hz
          have i1 : z1.it = ⟨0, 0, 0, zs.take j⟩ := congrArg (·.2) h1
          have i2 : z2.it = ⟨f1w, 0, 0, [101, 110, 100]⟩ := congrArg (·.2) h2
          have I1 : Hid (z1.it.kind = 0 ∧ z1.it.bs = zs.take j) := Lib.hid ⟨by rw [i1], by rw [i1]⟩
          have I2 : Hid (z2.it.kind = 0 ∧ z2.it.bs = [101, 110, 100]) := Lib.hid ⟨by rw [i2], by rw [i2]⟩
          have hk1' : (0 : Int) < (j : Int) := by omega
          clear hz h1 h2 i1 i2 HZ hk0
          go_wp2_with fail
          refine (oNext_dat _ _ _ z1 [z2] _ 1000 j O8.out (by omega) I1.out.1 (.inr ⟨by rw [I1.out.2]; exact hks.symm, by rw [I1.out.2, hks]; omega⟩)).mono ?_
          rintro e w9 ⟨rv9, rfl, F9, R9, fo9, v9, O9⟩
          rw [if_pos (by rw [I1.out.2]; exact hks.symm)] at O9
          rw [I1.out.2, List.take_of_length_le (show (zs.take j).length ≤ j by omega)] at R9
          obtain ⟨a9, c9, rfl, S9, _⟩ := owns_srcAt R9
          have cv1 := conv_at S9
          have cv2 := conv_at (HS.out.chg0 O9.c0)
          have F9' := Lib.hid (Flip.of_owns R9)
          have HG9 := Lib.hid (fun x hx => (⟨fo9 x hx, Nat.le_trans O8.out.c0.size (R9.lt x hx).1⟩ : μ.f x = 0 ∧ w.heap.size ≤ x))
          have HO9 := Lib.hid O9
          clear F9 R9 fo9 O9 S9 O8
          go_wp2_with fail
          go_loopw [92] (fun iv wr => ∃ i : Nat, i ≤ j ∧ iv = .int .i64 i ∧ Flip wr a9 j ∧ Chg (Value.slice a9 j c9).ownBlock.toList w9 wr) (fun iv _ => j - (intOf iv).toNat)
          case atStart => exact ⟨0, by omega, rfl, F9'.out, Chg.refl _ _⟩
          case round =>
            obtain ⟨i, hi, rfl, hF, hC⟩ := hrel
            by_cases hlt : i < j
            · obtain ⟨g, y, rfl, hy, hfr, hst⟩ := hF.get hlt
              have HST := Lib.hid hst
              clear hst hF
              go_wp2_with fail
              go_roundw
              case rel => exact ⟨i + 1, by omega, by go_num, HST.out _, hC.setCell (p := ⟨g, i, none⟩) (Or.inl (by show g ∈ (some g).toList; simp)) _⟩
              case measure => simp [intOf]; omega
            · obtain rfl : i = j := by omega
              have OT := Lib.hid (HO9.out.chg hC (fun x hx => HG9.out x (by simpa [Option.mem_toList] using hx)))
              clear hF hC HO9
              go_wp2_with fail
              go_meet
              case rel => exact ⟨v9, z2, I2, OT⟩
      case rest =>
        obtain ⟨v2, z2, I2, OT⟩ := hcut
        go_wp2_with fail
        refine (oNext_dat _ _ _ z2 [] _ 1000 3 OT.out (by omega) I2.out.1 (.inr ⟨by rw [I2.out.2]; rfl, by rw [I2.out.2]; decide⟩)).mono ?_
        rintro e wa ⟨rva, rfl, Fa, Ra, foa, va, Oa⟩
        rw [if_pos (by rw [I2.out.2]; rfl)] at Oa
        rw [I2.out.2] at Ra
        obtain ⟨aa, ca, rfl, _, _⟩ := owns_srcAt Ra
        have HRA := Lib.hid (And.intro Ra foa)
        have HOA := Lib.hid Oa
        clear Fa Ra foa Oa OT
        obtain ⟨hm1, hm2⟩ := HB.out
        rcases (show m ≤ 0 ∨ m = 1 ∨ (0 < m ∧ 2 ≤ m) by omega) with hm | rfl | ⟨hm, hm'⟩
        all_goals
        go_wp2_with fail
        refine (oWrite_any _ _ _ _ _ _ HOA.out (by show 0 ≤ _; omega)).mono ?_
        rintro e wb ⟨rfl, Fb, Ob⟩
        dsimp only at Ob ⊢
        first | rw [show wrN [2] 0 0 = 0 from rfl] | rw [show wrN [2] 0 1 = 1 from rfl] | rw [show wrN [2] 0 m = 2 by unfold wrN; simp; omega]
        rw [show wrB [2] 0 = true from rfl]
        have HRB := Lib.hid (owns_keepF HRA.out.1 Fb HRA.out.2)
        have HOB := Lib.hid Ob
        clear Fb Ob HOA
        go_wp2_with fail
        refine (alive_any _).mono ?_
        rintro e wc ⟨rfl, Cc⟩
        obtain ⟨_, _, e3, S3, _⟩ := owns_srcAt (owns_keep HRB.out Cc (by simp))
        injection e3 with e3a _ e3b
        subst e3a e3b
        have cv3 := conv_at S3
        rw [show strOfNums (([101, 110, 100] : List Int).take 3) = ⟨#[101, 110, 100]⟩ by decide +kernel] at cv3
        have HOC := Lib.hid (HOB.out.chg0 Cc)
        clear S3 Cc HOB
        go_wp2_with fail
        refine (oGet_any _ _ _ _ _ HOC.out (by show 0 ≤ _; omega)).mono ?_
        rintro e wd ⟨rfl, _, Od⟩
        dsimp only at Od ⊢
        rw [show (!decide (((0 : Nat) : Int) ∈ [1])) = true from rfl]
        have HOD := Lib.hid Od
        clear Od HOC
        go_wp2_with fail
        refine (oGet_any _ _ _ _ _ HOD.out (by show 0 + 1 ≤ _; omega)).mono ?_
        rintro e we ⟨rfl, _, Oe⟩
        dsimp only at Oe ⊢
        rw [show (!decide (((0 + 1 : Nat) : Int) ∈ [1])) = false from rfl]
        have HOE := Lib.hid Oe
        clear Oe HOD
        go_wp2_with fail
        refine (oSet_any _ _ _ _ _ HOE.out (by show 0 ≤ _; omega)).mono ?_
        rintro e wf ⟨rfl, _, Of⟩
        dsimp only at Of ⊢
        rw [show (!decide (((0 : Nat) : Int) ∈ [0])) = false from rfl]
        have HOF := Lib.hid Of
        clear Of HOE
        go_wp2_with fail
        refine (oSet_any _ _ _ _ _ HOF.out (by show 0 + 1 ≤ _; omega)).mono ?_
        rintro e wg ⟨rfl, _, Og⟩
        dsimp only at Og ⊢
        rw [show (!decide (((0 + 1 : Nat) : Int) ∈ [0])) = true from rfl]
        have HOG := Lib.hid Og
        clear Og HOF
        go_wp2_with fail
        go_ret
        exact ⟨rfl, Chg.below (Below.refl _ _) HOG.out.c0 (by simp) (Nat.le_refl _)⟩
end Go.Proofs.Ytlcfokndkkjklaa
