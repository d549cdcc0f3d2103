/-
  RegistryShares: what is laid into an arena by who made it is in the one that the registry tells. The walk.
-/
import Derived.Test.YtojabenkhjgafaaRegU
import Derived.Lib.MinMax
import Derived.RegionTactic
import Derived.LaidEqlPtr
namespace Go.Proofs.Ytojabenkhjgafaa
set_option linter.unusedVariables false
open Go.RowKit Go.WideShapes

/-- A registry of two arenas, written out. -/
def two (s t : ByteArray) (a c n : Nat) (l : List Int) (b d m : Nat) (k : List Int) : List Ent := [⟨s, a, c, n, l⟩, ⟨t, b, d, m, k⟩]

theorem neq_ptr (b : Nat) (w : World) : (binOp .neq 29 (.pointer (some ⟨b, 0, none⟩)) (.pointer (some ⟨b, 0, none⟩))).run Try.prog w = .ok (.bool false) w := by
  obtain ⟨j, hj⟩ : ∃ j, Try.prog.info? 61 = some j := ⟨_, rfl⟩
  have h : ∀ d : Nat, (Op.equalIn (d + 1) 29 (.pointer (some ⟨b, 0, none⟩)) (.pointer (some ⟨b, 0, none⟩))).run Try.prog w = .ok true w := fun d => by
    simp [Op.equalIn, run_underlying Try.underlying29, sizeOf, typeInfo, hj, run_sameAddr_same]
  simp only [binOp]
  simp [Op.equal, Op.maxDepth, h 9999]

/-- A copy of bytes at the head of new cells, as a source. -/
theorem src_spliced {w : World} {g m : Nat} {ys : List Int} {t : TypeId} (S : List Nat) (hS : g ∉ S) (hm : ys.length = m) (hm2 : m ≤ 50) (h : w.heap[g]? = some (.cells (splice (cellsOf 50 []) 0 ((ys.take 50).map (Value.int .u8))).toArray t (0, 0))) : SrcIs w (some ⟨g, 0, none⟩) m ys S := by
  refine ⟨hm, fun _ => ⟨_, rfl, hS, fun j u hu => ?_⟩⟩
  rw [Addr.add_lit, Nat.zero_add, cell_of_heap h, List.take_of_length_le (by omega)]
  have hj := (List.getElem?_eq_some_iff.1 hu).1
  simp only [splice, List.take_zero, List.nil_append, List.getElem?_toArray]
  rw [List.getElem?_append_left hj]
  exact hu

set_option maxRecDepth 100000 in
set_option maxHeartbeats 8000000 in
theorem registryShares_walk (a0 : Option Addr) (len0 cap0 : Nat) (z0 : List Int) (a1 : Option Addr) (len1 cap1 : Nat) (z1 : List Int) (w : World) (r0 : IsRow .u8 w a0 len0 cap0 z0) (r1 : IsRow .u8 w a1 len1 cap1 z1) :
    Calls Try.prog 4 #[.slice a0 len0 cap0, .slice a1 len1 cap1] w fun e w' => e = .returned (.bool true) ∧ Below w.heap.size w w' := by
  obtain ⟨hlc0, hcm0, hzl0⟩ := r0.le
  obtain ⟨hlc1, hcm1, hzl1⟩ := r1.le
  unfold maxLen at hcm0 hcm1
  obtain ⟨m0, hm0⟩ : ∃ m : Nat, m = min len0 50 := ⟨_, rfl⟩
  obtain ⟨m1, hm1⟩ : ∃ m : Nat, m = min len1 50 := ⟨_, rfl⟩
  have e0 : min (len0 : Int) 50 = (m0 : Int) := by omega
  have e1 : min (len1 : Int) 50 = (m1 : Int) := by omega
  have f0 : (m0 : Int) ≤ (cap0 : Int) := by omega
  have f1 : (m1 : Int) ≤ (cap1 : Int) := by omega
  have g0 : m0 ≤ 50 := by omega
  have g1 : m1 ≤ 50 := by omega
  have s0 := Lib.hid (fun S hS => r0.src m0 (by omega) S hS)
  have s1 := Lib.hid (fun S hS => r1.src m1 (by omega) S hS)
  generalize z0.take m0 = ys0 at s0
  generalize z1.take m1 = ys1 at s1
  clear r0 r1 hm0 hm1 hzl0 hzl1
  go_enter Try.func4, Try.ntmps4
  go_wp2_with fail
  go_region
  go_wp2_with fail
  refine (rNew_any w _ ((Chg.refl _ _).drew)).mono ?_
  rintro e w1 ⟨rfl, Q1⟩
  have hbR : w.heap.size ≤ w.drew.heap.size + 1 := by simp
  generalize w.drew.heap.size + 1 = bR at *
  generalize w.drew.heap.size = bM at *
  go_wp2_with fail
  refine (alive_any _).mono ?_
  rintro e w2 ⟨rfl, C2⟩
  have Q2 := Q1.chg0 C2
  clear Q1 C2
  go_wp2_with fail
  refine (rMake_ok w bR bM _ [] ⟨#[120]⟩ 50 _ Q2 (by simp [ByteArray.size, maxLen]) (by decide +kernel) rfl (by simp) (by omega) (by omega)).mono ?_
  rintro e w3 ⟨rfl, n3, Q3, _, _⟩
  have hp1 : w.heap.size ≤ w2.heap.size := Q2.c.size
  generalize w2.heap.size + 1 = p1 at *
  generalize w2.heap.size = q1 at *
  go_wp2_with fail
  refine (rMake_ok w bR bM _ _ ⟨#[121]⟩ 50 _ Q3 (by simp [ByteArray.size, maxLen]) (by decide +kernel) (find_one _ _ _ _ _ _ (by decide)) (by simp) (by omega) (by omega)).mono ?_
  rintro e w4 ⟨rfl, n4, Q4, _, _⟩
  generalize w3.heap.size + 1 = p2 at *
  generalize w3.heap.size = q2 at *
  clear Q2 Q3
  have A4 := Q4.r.ar ⟨⟨#[120]⟩, p1, q1, 50, []⟩ (by simp)
  have b1 : w.heap.size ≤ p1 ∧ w.heap.size ≤ q1 := ⟨Q4.b _ (mem_blks_ar (x := ⟨⟨#[120]⟩, p1, q1, 50, []⟩) (by simp)).1, Q4.b _ (mem_blks_ar (x := ⟨⟨#[120]⟩, p1, q1, 50, []⟩) (by simp)).2⟩
  have b2 : w.heap.size ≤ p2 ∧ w.heap.size ≤ q2 := ⟨Q4.b _ (mem_blks_ar (x := ⟨⟨#[121]⟩, p2, q2, 50, []⟩) (by simp)).1, Q4.b _ (mem_blks_ar (x := ⟨⟨#[121]⟩, p2, q2, 50, []⟩) (by simp)).2⟩
  have hne : insE 50 0 0 m0 = 0 := by unfold insE; rw [if_neg (by omega), if_neg (by omega)]
  have hnl : insL 50 [] 0 ys0 = ys0 := by unfold insL; rw [(s0.out [] (by simp)).1]; show (if insE 50 0 0 m0 = 0 then _ else _) = _; rw [hne]; simp
  have hne' : insE 50 0 0 m1 = 0 := by unfold insE; rw [if_neg (by omega), if_neg (by omega)]
  have hnl' : insL 50 [] 0 ys1 = ys1 := by unfold insL; rw [(s1.out [] (by simp)).1]; show (if insE 50 0 0 m1 = 0 then _ else _) = _; rw [hne']; simp
  have HE := Lib.hid hne
  have HL := Lib.hid hnl
  have HE' := Lib.hid hne'
  have HL' := Lib.hid hnl'
  clear hne hnl hne' hnl'
  go_wp2_with fail
  refine (insert_any p1 q1 50 [] 0 _ _ _ ys0 _ A4 ((s0.out [p1, q1] (by intro x hx; simp at hx; omega)).chg Q4.c (by simp))).mono ?_
  rintro e w5 ⟨rfl, C5, A5⟩
  rw [HL.out] at A5
  have Q5 := Q4.set 0 (by simp) ys0 C5 A5
  rw [show ([] : List Int).length = 0 from rfl, HE.out]
  have A5' := Q5.r.ar ⟨⟨#[121]⟩, p2, q2, 50, []⟩ (by simp [setL])
  clear A4 A5 C5 Q4
  go_wp2_with fail
  refine (insert_any p2 q2 50 [] 0 _ _ _ ys1 _ A5' ((s1.out [p2, q2] (by intro x hx; simp at hx; omega)).chg Q5.c (by simp))).mono ?_
  rintro e w6 ⟨rfl, C6, A6⟩
  rw [HL'.out] at A6
  have Q6 := Q5.set 1 (by simp [setL]) ys1 C6 A6
  rw [show ([] : List Int).length = 0 from rfl, HE'.out]
  clear A5' A6 C6 Q5
  rw [show setL (setL (([] ++ [(⟨⟨#[120]⟩, p1, q1, 50, []⟩ : Ent)]) ++ [⟨⟨#[121]⟩, p2, q2, 50, []⟩]) 0 ys0) 1 ys1 = [⟨⟨#[120]⟩, p1, q1, 50, ys0⟩, ⟨⟨#[121]⟩, p2, q2, 50, ys1⟩] from rfl] at Q6
  have AX := Q6.r.ar ⟨⟨#[120]⟩, p1, q1, 50, ys0⟩ (by simp)
  have AY := Q6.r.ar ⟨⟨#[121]⟩, p2, q2, 50, ys1⟩ (by simp)
  have hf1 : findP [(⟨⟨#[120]⟩, p1, q1, 50, ys0⟩ : Ent), ⟨⟨#[121]⟩, p2, q2, 50, ys1⟩] ⟨#[120]⟩ = some p1 := by simp [findP]
  have hf2 : findP [(⟨⟨#[120]⟩, p1, q1, 50, ys0⟩ : Ent), ⟨⟨#[121]⟩, p2, q2, 50, ys1⟩] ⟨#[121]⟩ = some p2 := by
    have : ¬ (⟨#[120]⟩ : ByteArray) = ⟨#[121]⟩ := by decide
    simp [findP, this]
  generalize [(⟨⟨#[120]⟩, p1, q1, 50, ys0⟩ : Ent), ⟨⟨#[121]⟩, p2, q2, 50, ys1⟩] = L at Q6 hf1 hf2
  have HF1 := Lib.hid hf1
  have HF2 := Lib.hid hf2
  clear hf1 hf2
  go_wp2_with fail
  refine (rGet_any bR bM _ _ ⟨#[120]⟩ _ Q6.r (by simp [ByteArray.size, maxLen])).mono ?_
  rintro e w7 ⟨rfl, rfl⟩
  rw [HF1.out]
  simp only [ptrV, Option.map_some, Option.isSome_some, if_true]
  go_wp2_with fail
  refine (rGet_any bR bM _ _ ⟨#[121]⟩ _ Q6.r (by simp [ByteArray.size, maxLen])).mono ?_
  rintro e w7 ⟨rfl, rfl⟩
  rw [HF2.out]
  simp only [ptrV, Option.map_some, Option.isSome_some, if_true]
  have hnp := neq_ptr
  have hmk : ∀ w : World, (Instr.makeSlice 45 (.int .i64 50) (.int .i64 50)).run Try.prog w = .ok (.slice (some ⟨w.heap.size, 0, none⟩) 50 50) (w.alloc (.cells (cellsOf 50 []).toArray 5)) := make_bytes 50 (by omega)
  go_wp2_with fail
  have hq6 := Q6.c
  have l1 := (s0.out [] (by simp)).1
  have l2 := (s1.out [] (by simp)).1
  have HL1 := Lib.hid (show min ys0.length 50 = m0 by omega)
  have HL2 := Lib.hid (show min ys1.length 50 = m1 by omega)
  have HY1 := Lib.hid l1
  have HY2 := Lib.hid l2
  obtain ⟨w7, hw7⟩ : ∃ w7, w7 = ((w6.alloc (.cells (cellsOf 50 []).toArray 5)).alloc (.cells (cellsOf 50 []).toArray 5)).drew := ⟨_, rfl⟩
  have C7 : Chg [] w6 w7 := by rw [hw7]; exact (((Chg.refl _ _).alloc _).alloc _).drew
  have H1 : w7.heap[w6.heap.size]? = some (.cells (cellsOf 50 []).toArray 5 (0, 0)) := by rw [hw7]; exact alloc_keeps (alloc_heap w6 _)
  have H2 : w7.heap[w6.heap.size + 1]? = some (.cells (cellsOf 50 []).toArray 5 (0, 0)) := by rw [hw7]; exact alloc2_heap w6 _ _
  have X7 := AX.chg C7 (by simp) (by simp)
  have Y7 := AY.chg C7 (by simp) (by simp)
  have D7 := hq6.trans C7 (U := []) (by simp) (by simp)
  have lx := AX.lt
  have ly := AY.lt
  have hws := hq6.size
  have HW7 := Lib.hid hw7
  have E7 := Lib.hid D7
  clear Q6 AX AY hq6 l1 l2 C7 D7 hw7
  go_region
  obtain ⟨sB, tB, hS, hT, hne, hsx, hty, hsw⟩ : ∃ sB tB, w7.heap[sB]? = some (.cells (cellsOf 50 []).toArray 5 (0, 0)) ∧ w7.heap[tB]? = some (.cells (cellsOf 50 []).toArray 5 (0, 0)) ∧ sB ≠ tB ∧ (sB = w6.heap.size) ∧ (tB = w6.heap.size + 1) ∧ w6.heap.size ≤ sB ∧ w6.heap.size ≤ tB := ⟨_, _, H1, H2, by omega, rfl, rfl, by omega, by omega⟩
  rw [← hty, ← hsx, ← HW7.out]
  clear hty hsx H1 H2
  rotate_left
  obtain ⟨sB, tB, hS, hT, hne, hsx, hty, hsw⟩ : ∃ sB tB, w7.heap[sB]? = some (.cells (cellsOf 50 []).toArray 5 (0, 0)) ∧ w7.heap[tB]? = some (.cells (cellsOf 50 []).toArray 5 (0, 0)) ∧ sB ≠ tB ∧ (sB = w6.heap.size + 1) ∧ (tB = w6.heap.size) ∧ w6.heap.size ≤ sB ∧ w6.heap.size ≤ tB := ⟨_, _, H2, H1, by omega, rfl, rfl, by omega, by omega⟩
  rw [← hsx, ← hty, ← HW7.out]
  clear hty hsx H1 H2
  all_goals (
    have l50 : (cellsOf 50 []).length = 50 := cellsOf_length 50 [] (by simp)
    have HC := Lib.hid l50
    have h50 : (m0 : Int) ≤ 50 := by omega
    have h51 : (m1 : Int) ≤ 50 := by omega
    have HP := Lib.hid (show p2 ∉ [sB] ∧ q2 ∉ [sB] by simp; omega)
    have HST := Lib.hid (show ∀ x ∈ [sB, tB], w.heap.size ≤ x by intro x hx; simp at hx; omega)
    have HNE := Lib.hid hne
    have HS := Lib.hid hS
    have HT := Lib.hid hT
    have HG0 := Lib.hid g0
    have HG1 := Lib.hid g1
    have HFit := Lib.hid (show 0 + 50 ≤ (cellsOf 50 []).length by omega)
    have K1 := copy_any p1 q1 50 ys0 sB 0 50 50 _ _ w7.drew X7.drew (show w7.drew.heap[sB]? = _ from hS) HFit.out
    clear l50 hmk hnp hne hS hT g0 g1 hsw b1 b2 lx ly hws e0 e1 hp1 hbR hlc0 hlc1 hcm0 hcm1
    go_wp2_with fail
    refine wp_region_any (by kernel_rfl) ?_
    try (change wpAny _ _ _ _ _ _ _ (World.drew _))
    refine wpAny_take (i := 0) (v := ?_) rfl (by kernel_rfl) (by kernel_rfl) (by kernel_rfl) (fun _ _ _ h => h) (Or.inl ⟨by kernel_rfl, ?_⟩) ?_
    rotate_left
    focus ((intro w; go_simp); try with_reducible rfl)
    refine wpAny_take (i := 1) (v := ?_) rfl (by kernel_rfl) (by kernel_rfl) (by kernel_rfl) (fun _ _ _ h => h) (Or.inl ⟨by kernel_rfl, ?_⟩) ?_
    rotate_left
    focus ((intro w; go_simp); try with_reducible rfl)
    refine wpAny_take (i := 3) (v := ?_) rfl (by kernel_rfl) (by kernel_rfl) (by kernel_rfl) (fun _ _ _ h => h) (Or.inl ⟨by kernel_rfl, ?_⟩) ?_
    rotate_left
    focus ((intro w; go_simp); try with_reducible rfl)
    refine wpAny_take (i := 4) (v := ?_) rfl (by kernel_rfl) (by kernel_rfl) (by kernel_rfl) (fun _ _ _ h => h) (Or.inl ⟨by kernel_rfl, ?_⟩) ?_
    rotate_left
    focus ((intro w; go_simp); try with_reducible rfl)
    refine wpAny_ready (rs := [2]) (by kernel_rfl) (by simp) ?_
    refine AllReady.cons rfl (fun K hK => ?_) AllReady.nil
    go_simp
    go_wp2_with (go_at_call 19; ((with_reducible refine K1.mono ?_)); clear K1; rintro e w8 ⟨rfl, C8, H8⟩; rw [HL1.out]; have HH8 := Lib.hid H8; have HC8 := Lib.hid C8; have K2 := Lib.hid (copy_any p2 q2 50 ys1 tB 0 50 50 _ _ w8 (Y7.drew.chg C8 HP.out.1 HP.out.2) (C8.heap (show w7.drew.heap[tB]? = _ from HT.out) (by simpa using Ne.symm HNE.out)) HFit.out); clear H8 C8)
    try (refine hK _ _ ?_; clear hK K)
    refine wpAny_take (i := 5) (v := ?_) rfl (by kernel_rfl) (by kernel_rfl) (by kernel_rfl) (fun _ _ _ h => h) (Or.inl ⟨by kernel_rfl, ?_⟩) ?_
    rotate_left
    focus ((intro w; go_simp); try with_reducible rfl)
    refine wpAny_take (i := 6) (v := ?_) rfl (by kernel_rfl) (by kernel_rfl) (by kernel_rfl) (fun _ _ _ h => h) (Or.inl ⟨by kernel_rfl, ?_⟩) ?_
    rotate_left
    focus ((intro w; go_simp); try with_reducible rfl)
    refine wpAny_take (i := 7) (v := ?_) rfl (by kernel_rfl) (by kernel_rfl) (by kernel_rfl) (fun _ _ _ h => h) (Or.inl ⟨by kernel_rfl, ?_⟩) ?_
    rotate_left
    focus ((intro w; go_simp); try with_reducible rfl)
    refine wpAny_take (i := 8) (v := ?_) rfl (by kernel_rfl) (by kernel_rfl) (by kernel_rfl) (fun _ _ _ h => h) (Or.inl ⟨by kernel_rfl, ?_⟩) ?_
    rotate_left
    focus ((intro w; go_simp); try with_reducible rfl)
    refine wpAny_take (i := 10) (v := ?_) rfl (by kernel_rfl) (by kernel_rfl) (by kernel_rfl) (fun _ _ _ h => h) (Or.inl ⟨by kernel_rfl, ?_⟩) ?_
    rotate_left
    focus ((intro w; go_simp); try with_reducible rfl)
    refine wpAny_take (i := 11) (v := ?_) rfl (by kernel_rfl) (by kernel_rfl) (by kernel_rfl) (fun _ _ _ h => h) (Or.inl ⟨by kernel_rfl, ?_⟩) ?_
    rotate_left
    focus ((intro w; go_simp); try with_reducible rfl)
    refine wpAny_ready (rs := [9]) (by kernel_rfl) (by simp) ?_
    refine AllReady.cons rfl (fun K hK => ?_) AllReady.nil
    go_simp
    go_wp2_with (go_at_call 19; ((with_reducible refine K2.out.mono ?_)); clear K2; rintro e w9 ⟨rfl, C9, H9⟩; rw [HL2.out]; have D9 : Chg [sB, tB] w w9 := (E7.out.drew.trans HC8.out (U := [sB, tB]) (by simp) (by simp)).trans C9 (by simp) (by simp); have c1 := conv_src (c := 50) ((src_spliced [tB] (by simpa using HNE.out) HY1.out HG0.out HH8.out).chg C9 (by simp)); have c2 := conv_src (c := 50) (src_spliced [] (by simp) HY2.out HG1.out H9); have c3 := conv_src (c := cap0) ((s0.out [sB, tB] HST.out).chg D9 (by simp)); have c4 := conv_src (c := cap1) ((s1.out [sB, tB] HST.out).chg D9 (by simp)); have HD9 := Lib.hid D9; clear H9 C9 D9)
    try (refine hK _ _ ?_; clear hK K)
    refine wpAny_take (i := 12) (v := ?_) rfl (by kernel_rfl) (by kernel_rfl) (by kernel_rfl) (fun _ _ _ h => h) (Or.inl ⟨by kernel_rfl, ?_⟩) ?_
    rotate_left
    focus ((intro w; go_simp); try with_reducible rfl)
    refine wpAny_take (i := 13) (v := ?_) rfl (by kernel_rfl) (by kernel_rfl) (by kernel_rfl) (fun _ _ _ h => h) (Or.inl ⟨by kernel_rfl, ?_⟩) ?_
    rotate_left
    focus ((intro w; go_simp); try with_reducible rfl)
    refine wpAny_take (i := 14) (v := ?_) rfl (by kernel_rfl) (by kernel_rfl) (by kernel_rfl) (fun _ _ _ h => h) (Or.inl ⟨by kernel_rfl, ?_⟩) ?_
    rotate_left
    focus ((intro w; go_simp); try with_reducible rfl)
    refine wpAny_take (i := 15) (v := ?_) rfl (by kernel_rfl) (by kernel_rfl) (by kernel_rfl) (fun _ _ _ h => h) (Or.inl ⟨by kernel_rfl, ?_⟩) ?_
    rotate_left
    focus ((intro w; go_simp); try with_reducible rfl)
    refine wpAny_take (i := 16) (v := ?_) rfl (by kernel_rfl) (by kernel_rfl) (by kernel_rfl) (fun _ _ _ h => h) (Or.inl ⟨by kernel_rfl, ?_⟩) ?_
    rotate_left
    focus ((intro w; go_simp); try with_reducible rfl)
    refine wpAny_take (i := 17) (v := ?_) rfl (by kernel_rfl) (by kernel_rfl) (by kernel_rfl) (fun _ _ _ h => h) (Or.inl ⟨by kernel_rfl, ?_⟩) ?_
    rotate_left
    focus ((intro w; go_simp); try with_reducible rfl)
    refine wpAny_take (i := 18) (v := ?_) rfl (by kernel_rfl) (by kernel_rfl) (by kernel_rfl) (fun _ _ _ h => h) (Or.inl ⟨by kernel_rfl, ?_⟩) ?_
    rotate_left
    focus ((intro w; go_simp); try with_reducible rfl)
    refine wpAny_take (i := 20) (v := ?_) rfl (by kernel_rfl) (by kernel_rfl) (by kernel_rfl) (fun _ _ _ h => h) (Or.inl ⟨by kernel_rfl, ?_⟩) ?_
    rotate_left
    focus ((intro w; go_simp); try with_reducible rfl)
    refine wpAny_ready (rs := [19, 21]) (by kernel_rfl) (by simp) ?_
    refine AllReady.cons rfl (fun K hK => ?_) (AllReady.cons rfl (fun K hK => ?_) AllReady.nil)
    focus (go_simp; refine hK _ _ ?_; clear hK K; refine wpAny_ready (rs := [21]) (by kernel_rfl) (by simp) ?_; refine AllReady.cons rfl (fun K hK => ?_) AllReady.nil; go_simp; refine hK _ _ ?_; clear hK K)
    rotate_left
    focus (go_simp; refine hK _ _ ?_; clear hK K; refine wpAny_ready (rs := [19]) (by kernel_rfl) (by simp) ?_; refine AllReady.cons rfl (fun K hK => ?_) AllReady.nil; go_simp; refine hK _ _ ?_; clear hK K)
    all_goals (
      refine wpAny_take (i := 22) (v := ?_) rfl (by kernel_rfl) (by kernel_rfl) (by kernel_rfl) (fun _ _ _ h => h) (Or.inl ⟨by kernel_rfl, ?_⟩) ?_
      rotate_left
      focus ((intro w; go_simp); try with_reducible rfl)
      refine wpAny_take (i := 23) (v := ?_) rfl (by kernel_rfl) (by kernel_rfl) (by kernel_rfl) (fun _ _ _ h => h) (Or.inl ⟨by kernel_rfl, ?_⟩) ?_
      rotate_left
      focus ((intro w; go_simp); try with_reducible rfl)
      refine wpAny_take (i := 24) (v := ?_) rfl (by kernel_rfl) (by kernel_rfl) (by kernel_rfl) (fun _ _ _ h => h) (Or.inl ⟨by kernel_rfl, ?_⟩) ?_
      rotate_left
      focus ((intro w; go_simp); try with_reducible rfl)
      refine wpAny_take (i := 25) (v := ?_) rfl (by kernel_rfl) (by kernel_rfl) (by kernel_rfl) (fun _ _ _ h => h) (Or.inl ⟨by kernel_rfl, ?_⟩) ?_
      rotate_left
      focus ((intro w; go_simp); try with_reducible rfl)
      refine wpAny_take (i := 26) (v := ?_) rfl (by kernel_rfl) (by kernel_rfl) (by kernel_rfl) (fun _ _ _ h => h) (Or.inl ⟨by kernel_rfl, ?_⟩) ?_
      rotate_left
      focus ((intro w; go_simp); try with_reducible rfl)
      refine wpAny_take (i := 27) (v := ?_) rfl (by kernel_rfl) (by kernel_rfl) (by kernel_rfl) (fun _ _ _ h => h) (Or.inl ⟨by kernel_rfl, ?_⟩) ?_
      rotate_left
      focus ((intro w; go_simp); try with_reducible rfl)
      refine wpAny_take (i := 28) (v := ?_) rfl (by kernel_rfl) (by kernel_rfl) (by kernel_rfl) (fun _ _ _ h => h) (Or.inl ⟨by kernel_rfl, ?_⟩) ?_
      rotate_left
      focus ((intro w; go_simp); try with_reducible rfl)
      refine wpAny_take (i := 30) (v := ?_) rfl (by kernel_rfl) (by kernel_rfl) (by kernel_rfl) (fun _ _ _ h => h) (Or.inl ⟨by kernel_rfl, ?_⟩) ?_
      rotate_left
      focus ((intro w; go_simp); try with_reducible rfl)
      refine wpAny_ready (rs := [29, 31]) (by kernel_rfl) (by simp) ?_
      refine AllReady.cons rfl (fun K hK => ?_) (AllReady.cons rfl (fun K hK => ?_) AllReady.nil)
      focus (go_simp; refine hK _ _ ?_; clear hK K; refine wpAny_ready (rs := [31]) (by kernel_rfl) (by simp) ?_; refine AllReady.cons rfl (fun K hK => ?_) AllReady.nil; go_simp; refine hK _ _ ?_; clear hK K)
      rotate_left
      focus (go_simp; refine hK _ _ ?_; clear hK K; refine wpAny_ready (rs := [29]) (by kernel_rfl) (by simp) ?_; refine AllReady.cons rfl (fun K hK => ?_) AllReady.nil; go_simp; refine hK _ _ ?_; clear hK K))
    all_goals (
      refine wpAny_take (i := 32) (v := ?_) rfl (by kernel_rfl) (by kernel_rfl) (by kernel_rfl) (fun _ _ _ h => h) (Or.inl ⟨by kernel_rfl, ?_⟩) ?_
      rotate_left
      focus ((intro w; go_simp); try with_reducible rfl)
      refine wpAny_take (i := 33) (v := ?_) rfl (by kernel_rfl) (by kernel_rfl) (by kernel_rfl) (fun _ _ _ h => h) (Or.inl ⟨by kernel_rfl, ?_⟩) ?_
      rotate_left
      focus ((intro w; go_simp); try with_reducible rfl)
      refine wpAny_take (i := 34) (v := ?_) rfl (by kernel_rfl) (by kernel_rfl) (by kernel_rfl) (fun _ _ _ h => h) (Or.inl ⟨by kernel_rfl, ?_⟩) ?_
      rotate_left
      focus ((intro w; go_simp); try with_reducible rfl)
      refine wpAny_done (by kernel_rfl) ?_ _)
    all_goals (go_wp2_with fail; go_ret; exact ⟨rfl, Chg.below (Below.refl _ _) HD9.out HST.out (Nat.le_refl _)⟩))
end Go.Proofs.Ytojabenkhjgafaa
