import Derived.Test.YtafmnkngjjnpiaaGreatDoorTvC
import Derived.Test.YtafmnkngjjnpiaaGreatDoorTpS
import Derived.Test.YtafmnkngjjnpiaaGreatDoorWldB
import Derived.Test.YtafmnkngjjnpiaaGreatDoorAre
import Derived.Lib.AppendStr
import Derived.Lib.ItoaLen
import Derived.Room.MakeNoZero
import Derived.Laws.CopyOwn
import Derived.Deep.DeepCutAuto
import Derived.Deep.RegionLaw
namespace Go.Proofs.YtafmnkngjjnpiaaGreatDoor
set_option linter.unusedVariables false
set_option linter.unusedSimpArgs false
set_option maxRecDepth 100000
open Go.RowKit
def RowB (l : List Int) (w : World) (e : Ending) (w' : World) : Prop :=
  ∃ g c cur, e = .returned (.slice (some ⟨g, 0, none⟩) l.length c) ∧ w.heap.size ≤ g ∧ Chg [] w w' ∧ w'.heap[g]? = some (.cells (valsOf .u8 l ++ cur).toArray 5 (0, 0)) ∧ l.length ≤ c
theorem noZero_run (n : Nat) (hn : n ≤ 100000) (w : World) : ∃ cs : List Value, (callFunc 107 #[.int .i64 (n : Nat)]).run Tryz.prog w = .ok (.value (.slice (some ⟨w.heap.size, 0, none⟩) n cs.length)) (w.drew.drew.alloc (.cells cs.toArray 5)) ∧ n ≤ cs.length := by
  obtain ⟨cs, hr, h1, _⟩ := Lib.run_makeNoZero_cap (P := Tryz.prog) w #[3] 22 5 Tryz.underlying22 n (by omega)
  refine ⟨cs.toList, ?_, by simpa using h1⟩
  have he := run_callFunc_extern (e := Extern.BytealgMakeNoZero.makeNoZero #[3] #[22]) Tryz.func107 (by kernel_rfl) (by kernel_rfl) (by kernel_rfl) (by kernel_rfl) #[.int .i64 (n : Nat)] w
  rw [he, hr]
  simp [Result.andThen]
theorem src_repl {w : World} {g k m : Nat} {c : Int} {rest : List Value} {t : TypeId} (h : w.heap[g]? = some (.cells (List.replicate k (Value.int .u8 c) ++ rest).toArray t (0, 0))) (hm : m ≤ k) :
    ∀ j v, (List.replicate m (Value.int .u8 c))[j]? = some v → w.drew.cell? ((⟨g, 0, none⟩ : Addr).add j) = some v := by
  intro j v hj
  have hlt : j < m := by simpa using (List.getElem?_eq_some_iff.1 hj).1
  rw [List.getElem?_replicate, if_pos hlt] at hj
  rw [Addr.add_lit, Nat.zero_add, cell_of_heap (show w.drew.heap[g]? = _ from h)]
  rw [List.getElem?_toArray, List.getElem?_append_left (by simp; omega), List.getElem?_replicate, if_pos (by omega)]
  exact hj
theorem below_drewX {B : Nat} {a w : World} (h : Below B a w) : Below B a w.drew := ⟨h.os, h.tape, h.output, h.size, h.block⟩
theorem splice_rep {k m : Nat} {x : Value} {rest : List Value} : splice (List.replicate k x ++ rest) k (List.replicate m x) = List.replicate (k + m) x ++ rest.drop m := by
  unfold splice
  rw [List.take_left' (by simp), List.length_replicate, List.drop_append, List.length_replicate, ← List.replicate_append_replicate, List.drop_eq_nil_of_le (by simp), Nat.add_sub_cancel_left, List.nil_append, List.append_assoc]
set_option maxHeartbeats 8000000 in
theorem repeat_any (n : Nat) (hn : n ≤ 8192) (c : Int) (g cp : Nat) (w : World) (hs : w.cell? ⟨g, 0, none⟩ = some (.int .u8 c)) (hcp : 1 ≤ cp) (hg : g < w.heap.size) :
    Calls Tryz.prog 87 #[.slice (some ⟨g, 0, none⟩) 1 cp, .int .i64 (n : Nat)] w (RowB (List.replicate n c) w) := by
  rcases Nat.eq_zero_or_pos n with rfl | hp
  · go_enter Tryz.func87, Tryz.ntmps87
    go_wp2_with fail
    go_ret
    exact ⟨w.heap.size, 0, [], rfl, Nat.le_refl _, (Chg.refl _ _).alloc _, alloc_heap w _, Nat.zero_le _⟩
  · have hm := Tryz.bits_Mul 1 n (by omega) (by omega) w
    rw [show 1 * n / 18446744073709551616 = 0 by omega, show 1 * n % 18446744073709551616 = n by omega] at hm
    have HM := Lib.hid hm
    obtain ⟨cs, hnz, hcs⟩ := noZero_run n (by omega) w
    have HP := Lib.hid hp
    have HCS := Lib.hid hcs
    have HS := Lib.hid hs
    have HG := Lib.hid (And.intro hg hcp)
    have n0 : decide ((n : Int) < 0) = false := by rw [decide_eq_false_iff_not]; omega
    have n1 : (((n : Nat) : Int) == 0) = false := by rw [beq_eq_false_iff_ne]; omega
    have n2 : decide ((8192 : Int) < (n : Nat)) = false := by rw [decide_eq_false_iff_not]; omega
    clear hm hs hg
    go_enter Tryz.func87, Tryz.ntmps87
    go_upto_region 17 with (go_at_call 106; refine (HM.out).mono ?_; rintro e w2 ⟨rfl, rfl⟩)
    obtain ⟨w3, hw3⟩ : ∃ w3, w3 = (w2.alloc (.cells cs.toArray 5)).drew.drew := ⟨_, rfl⟩
    have C3 : Chg [] w2 w3 := by rw [hw3]; exact (((Chg.refl _ _).alloc _).drew).drew
    have H3 : w3.heap[w2.heap.size]? = some (.cells cs.toArray 5 (0, 0)) := by rw [hw3]; exact alloc_heap w2 _
    rw [← hw3]
    have S3 := C3.cell HS.out (by simp)
    have HC3 := Lib.hid C3
    clear hw3 C3 hnz HM
    iterate 7 go_step
    refine wpList_copy_chg rfl (.tmp 58) (.tmp 59) 22 22 rfl 5 Tryz.underlying22 Ar.info5 _ _ _ _ _ _ rfl rfl w2.heap.size 0 cs 5 H3 [.int .u8 c] (by simp [Nat.min_def]; omega) (fun _ => ⟨rfl, _, rfl, fun j v hj => ?_⟩) (by simp; omega) (by simp [Value.oneCell']) (fun w4 H4 C4 => ?_)
    · cases j with
      | zero => injection hj with hj; subst hj; exact S3
      | succ j => cases hj
    have C24 := HC3.out.trans C4 (U := [w2.heap.size]) (by simp) (fun x hx _ => hx)
    have B4 : Below w2.heap.size w2 w4 := ⟨C24.os, C24.tape, C24.output, C24.size, fun q hq => C24.block q hq (by simp; omega)⟩
    clear C24
    have H4' : w4.heap[w2.heap.size]? = some (.cells (List.replicate 1 (Value.int .u8 c) ++ cs.drop 1).toArray 5 (0, 0)) := by rw [show List.replicate 1 (Value.int .u8 c) ++ cs.drop 1 = splice cs 0 [.int .u8 c] by simp [splice]]; exact H4
    have HW4 := Lib.hid (And.intro H4' B4)
    clear H3 H4 C4 S3 H4' B4 HC3
    generalize hg9 : w2.heap.size = g9 at *
    go_upto_region 18 with (fail)
    go_loopw [10] (fun v wr => ∃ (k : Nat) (rest : List Value), v = .int .i64 (k : Nat) ∧ 1 ≤ k ∧ k ≤ n ∧ k + rest.length = cs.length ∧ wr.heap[g9]? = some (.cells (List.replicate k (Value.int .u8 c) ++ rest).toArray 5 (0, 0)) ∧ Below g9 w2 wr) (fun v _ => n - (intOf v).toNat)
    case atStart => exact ⟨1, cs.drop 1, rfl, by omega, hp, by rw [List.length_drop]; omega, HW4.out.1, HW4.out.2⟩
    case round =>
      obtain ⟨k, rest, rfl, hk1, hkn, hlen, hH, hB⟩ := hrel
      have HR := Lib.hid (And.intro hH (And.intro hlen hB))
      clear hH hB
      rcases Nat.lt_or_ge k n with hlt | hge
      · obtain ⟨m, hm1, hm2, hm3, hm4⟩ : ∃ m, m = Nat.min k (n - k) ∧ 1 ≤ m ∧ m ≤ k ∧ k + m ≤ n := ⟨Nat.min k (n - k), rfl, by simp only [Nat.min_def]; split <;> omega, by simp only [Nat.min_def]; split <;> omega, by simp only [Nat.min_def]; split <;> omega⟩
        have HCN : Hid ((List.replicate m (Value.int .u8 c)).length = Nat.min k (n - k)) := Lib.hid (by rw [List.length_replicate]; exact hm1)
        have HCF : Hid (k + (List.replicate m (Value.int .u8 c)).length ≤ (List.replicate k (Value.int .u8 c) ++ rest).length) := Lib.hid (by simp; omega)
        have HC1 : Hid (∀ v ∈ List.replicate m (Value.int .u8 c), v.oneCell' = true) := Lib.hid (fun v hv => by rw [(List.mem_replicate.1 hv).2]; rfl)
        have HSR : Hid (∀ j v, (List.replicate m (Value.int .u8 c))[j]? = some v → wr.drew.cell? ((⟨g9, 0, none⟩ : Addr).add j) = some v) := Lib.hid (src_repl HR.out.1 hm3)
        have HM := Lib.hid (And.intro hm2 (And.intro hm3 hm4))
        clear hm1 hm2 hm3 hm4
        have hmin : min ((k : Nat) : Int) (n : Nat) = (k : Nat) := by omega
        go_upto_region 20 with (fail)
        refine wp_region_any (by kernel_rfl) ?_
        try (change wpAny _ _ _ _ _ _ _ (World.drew _))
        refine wpAny_take (i := 0) (v := ?_) rfl (by kernel_rfl) (by kernel_rfl) (by kernel_rfl) (fun _ _ _ h => h) (Or.inl ⟨by kernel_rfl, ?_⟩) ?_
        rotate_left
        focus ((intro w; go_simp); try with_reducible rfl)
        refine wpAny_take (i := 1) (v := ?_) rfl (by kernel_rfl) (by kernel_rfl) (by kernel_rfl) (fun _ _ _ h => h) (Or.inl ⟨by kernel_rfl, ?_⟩) ?_
        rotate_left
        focus ((intro w; go_simp); try with_reducible rfl)
        refine wpAny_take (i := 2) (v := ?_) rfl (by kernel_rfl) (by kernel_rfl) (by kernel_rfl) (fun _ _ _ h => h) (Or.inl ⟨by kernel_rfl, ?_⟩) ?_
        rotate_left
        focus ((intro w; go_simp); try with_reducible rfl)
        refine wpAny_take (i := 4) (v := ?_) rfl (by kernel_rfl) (by kernel_rfl) (by kernel_rfl) (fun _ _ _ h => h) (Or.inl ⟨by kernel_rfl, ?_⟩) ?_
        rotate_left
        focus ((intro w; go_simp); try with_reducible rfl)
        refine wpAny_take (i := 5) (v := ?_) rfl (by kernel_rfl) (by kernel_rfl) (by kernel_rfl) (fun _ _ _ h => h) (Or.inl ⟨by kernel_rfl, ?_⟩) ?_
        rotate_left
        focus ((intro w; go_simp); try with_reducible rfl)
        refine wpAny_take (i := 3) (v := ?_) rfl (by kernel_rfl) (by kernel_rfl) (by kernel_rfl) (fun _ _ _ h => h) (Or.inl ⟨by kernel_rfl, ?_⟩) ?_
        rotate_left
        focus ((intro w; go_simp); try with_reducible rfl)
        refine wpAny_take (i := 6) (v := ?_) rfl (by kernel_rfl) (by kernel_rfl) (by kernel_rfl) (fun _ _ _ h => h) (Or.inl ⟨by kernel_rfl, ?_⟩) ?_
        rotate_left
        focus ((intro w; go_simp); try with_reducible rfl)
        refine wpAny_ready (rs := [7]) (by kernel_rfl) (by simp) ?_
        refine AllReady.cons rfl (fun K hK => ?_) AllReady.nil
        refine step_copy_splice rfl (.tmp 70) (.tmp 73) 22 22 rfl 5 Tryz.underlying22 Ar.info5 (some ⟨g9, k, none⟩) (some ⟨g9, 0, none⟩) (n - k) (n - k) k n (by go_simp <;> omega) (by go_simp) g9 k (List.replicate k (Value.int .u8 c) ++ rest) 5 HR.out.1 (List.replicate m (Value.int .u8 c)) HCN.out (fun _ => ⟨rfl, _, rfl, HSR.out⟩) HCF.out HC1.out g9 w2 (below_drewX HR.out.2.2) (Nat.le_refl _) ?_
        intro w6 H6 B6
        have hgl : goInt (List.replicate m (Value.int .u8 c)).length = .int .i64 (m : Nat) := by rw [List.length_replicate]; rfl
        rw [hgl]
        refine hK _ _ ?_
        clear hK K hgl
        refine wpAny_take (i := 8) (v := ?_) rfl (by kernel_rfl) (by kernel_rfl) (by kernel_rfl) (fun _ _ _ h => h) (Or.inl ⟨by kernel_rfl, ?_⟩) ?_
        rotate_left
        focus ((intro w; go_simp); try with_reducible rfl)
        refine wpAny_ready (rs := [9]) (by kernel_rfl) (by simp) ?_
        refine AllReady.cons rfl (fun K hK => ?_) AllReady.nil
        go_simp
        refine hK _ _ ?_
        clear hK K
        refine wpAny_done (by kernel_rfl) ?_ _
        have HE := Lib.hid (And.intro H6 B6)
        have hM := HM.out
        have hwr : IntKind.i64.wrap (((k : Nat) : Int) + (m : Nat)) = ((k + m : Nat) : Int) := by rw [IntWalk.i64_in _ (by omega)]; omega
        clear H6 B6 hM
        go_wp2_with fail
        go_roundw
        case rel =>
          have hM := HM.out
          refine ⟨k + m, rest.drop m, by go_num, by omega, by omega, by rw [List.length_drop]; omega, ?_, HE.out.2⟩
          rw [show List.replicate (k + m) (Value.int .u8 c) ++ rest.drop m = splice (List.replicate k (Value.int .u8 c) ++ rest) k (List.replicate m (Value.int .u8 c)) by rw [splice_rep]]
          exact HE.out.1
        case measure => have hM := HM.out; simp [intOf]; omega
      · obtain rfl : k = n := by omega
        go_wp2_with fail
        go_ret
        refine ⟨g9, k, rest, by rw [List.length_replicate]; rfl, by omega, Chg.of_below HR.out.2.2 (by omega), ?_, by simp⟩
        rw [show valsOf .u8 (List.replicate k c) = List.replicate k (Value.int .u8 c) by simp [valsOf]]
        exact HR.out.1
end Go.Proofs.YtafmnkngjjnpiaaGreatDoor

namespace Go.Proofs.YtafmnkngjjnpiaaGreatDoor
set_option linter.unusedVariables false
set_option linter.unusedSimpArgs false
set_option maxRecDepth 100000
open Go.RowKit
structure LibT (w : World) : Prop where
  u : Lib.Utf8Tabs 1 2 w
  p : Lib.TabBelow Tryz.prog 8 w "internal/strconv.uint64pow10" .u64 Lib.pow10Tab
  sz : 8 ≤ w.heap.size
  e : w.cell? ⟨3, 0, none⟩ = some (.iface 275 (.agg #[.pointer (some ⟨8, 225, none⟩)]))
theorem LibT.chg {w w' : World} (h : LibT w) {S : List Nat} (c : Chg S w w') (hS : ∀ x ∈ S, 8 ≤ x) : LibT w' :=
  ⟨Utf8Tabs.chg h.u c (fun hm => by have := hS _ hm; omega) (fun hm => by have := hS _ hm; omega),
    h.p.on ⟨c.os, c.tape, c.output, c.size, fun k hk => c.block k (by have := h.sz; omega) (fun hm => by have := hS _ hm; omega)⟩, Nat.le_trans h.sz c.size, c.cell h.e (fun hm => by have := hS _ hm; dsimp only at this; omega)⟩
theorem LibT.chg0 {w w' : World} (h : LibT w) (c : Chg [] w w') : LibT w' := h.chg c (by simp)
theorem LibT.pow {w : World} (h : LibT w) {B : Nat} (hB : 8 ≤ B) : Lib.TabBelow Tryz.prog B w "internal/strconv.uint64pow10" .u64 Lib.pow10Tab :=
  fun w' hb => h.p w' ⟨hb.os, hb.tape, hb.output, hb.size, fun k hk => hb.block k (by omega)⟩
def LnB (w1 w : World) (v : Value) (l : List Int) : Prop := w.ownsRow w1.heap.size 5 1 v l.length (valsOf .u8 l) ∧ Chg [] w1 w
theorem LnB.on {w1 w w' : World} {v : Value} {l : List Int} (h : LnB w1 w v l) (c : Chg [] w w') : LnB w1 w' v l :=
  ⟨eowns_keep h.1 c (by simp), h.2.trans c (by simp) (by simp)⟩
theorem strCells_bI (s : ByteArray) : Lib.strCells s = valsOf .u8 (bI s) := by
  unfold Lib.strCells valsOf bI
  rw [List.map_map]
  rfl
theorem LnB.grown {w1 w w' : World} {v v' : Value} {l t : List Int} (h : LnB w1 w v l) (c : Chg v.ownBlock.toList w w') (o : w'.ownsRow w1.heap.size 5 1 v' (l.length + t.length) (valsOf .u8 l ++ valsOf .u8 t)) : LnB w1 w' v' (l ++ t) := by
  refine ⟨?_, h.2.trans c (by simp) (fun x hx hl => ?_)⟩
  · rw [List.length_append, show valsOf .u8 (l ++ t) = valsOf .u8 l ++ valsOf .u8 t by simp [valsOf]]
    exact o
  · have := owns_block h.1 x (by simpa [Option.mem_toList] using hx)
    omega
theorem wp_ln_src {ops : Array Oper} {rest : List Oper} {o : Oper} {a : Act} {Q : Exit → Act → World → Prop} {w1 w : World} (hgd : o.guard = none) (s x : Operand)
    (ho : o.op = .call { callee := .builtin .append, args := #[s, x], argTypes := #[22, 22] }) (v : Value) (l : List Int) (hs : a.eval s = v) (hl : LnB w1 w v l) (ao : Option Addr) (m c : Nat) (t : List Int)
    (hx : a.eval x = .slice ao m c) (hS : SrcAt w ao m c (valsOf .u8 t)) (hn : l.length + m ≤ 1000000)
    (h : ∀ v' w', LnB w1 w' v' (l ++ t) → Chg v.ownBlock.toList w w' → wpList Tryz.prog ops Q rest (a.put o.dst v') w') : wpList Tryz.prog ops Q (o :: rest) a w := by
  obtain ⟨i0, hi, hz0, hz1, hz2⟩ := info_parts infoB
  have ht : t.length = m := by have := hS.1; rwa [valsOf_length] at this
  subst ht
  refine wpList_append_src hgd s x 22 ho w1.heap.size 5 i0 (.int .u8 0) 1 1 Tryz.underlying22 hi hz0 hz1 hz2 rfl (by decide) v l.length (valsOf .u8 l) hs hl.1 ao t.length c (valsOf .u8 t) hx (by rw [valsOf_length]; omega) hS.2.1 hS.2.2 (oneCell_vals _ t) (by unfold maxLen; omega) (by omega) hl.2.size (fun v' w' o' c' _ => ?_)
  exact h v' w' (hl.grown c' o') c'
theorem wp_ln_str {ops : Array Oper} {rest : List Oper} {o : Oper} {a : Act} {Q : Exit → Act → World → Prop} {w1 w : World} (hgd : o.guard = none) (s x : Operand)
    (ho : o.op = .call { callee := .builtin .append, args := #[s, x], argTypes := #[22, 9] }) (v : Value) (l : List Int) (hs : a.eval s = v) (hl : LnB w1 w v l) (t : ByteArray)
    (hx : a.eval x = .string t) (hn : l.length + t.size ≤ 1000000)
    (h : ∀ v' w', LnB w1 w' v' (l ++ bI t) → Chg v.ownBlock.toList w w' → wpList Tryz.prog ops Q rest (a.put o.dst v') w') : wpList Tryz.prog ops Q (o :: rest) a w := by
  obtain ⟨i0, hi, hz0, hz1, hz2⟩ := info_parts infoB
  refine Lib.wpList_append_own_string _ hgd s x 22 9 ho w1.heap.size 5 i0 Tryz.underlying22 Tryz.underlying9 hi hz0 hz1 hz2 v l.length (valsOf .u8 l) hs hl.1 t hx (by unfold maxLen; omega) (by omega) hl.2.size (fun v' w' o' g' _ => ?_)
  have c' : Chg v.ownBlock.toList w w' := ⟨g'.os, g'.tape, g'.output, g'.size, fun k hk hS => g'.block k hk (fun e => hS (by rw [← e]; simp))⟩
  refine h v' w' (hl.grown c' ?_) c'
  rw [bI_length, ← strCells_bI]
  exact o'
theorem ln_new (w1 w : World) (x : Int) (h : Chg [] w1 w) : LnB w1 (w.alloc (.cells #[.int .u8 x] 5)) (.slice (some ⟨w.heap.size, 0, none⟩) 1 1) [x] :=
  ⟨⟨rfl, Or.inr ⟨w.heap.size, 1, #[.int .u8 x], rfl, h.size, alloc_heap w _, Nat.le_refl _, by unfold maxLen; omega, rfl, rfl⟩⟩, h.alloc _⟩
theorem bI_csi : bI ⟨#[27, 91]⟩ = [27, 91] := by rfl
theorem bI_clr : bI ⟨#[27, 91, 75]⟩ = [27, 91, 75] := by rfl
theorem byteCells_dec (b : Nat) : Lib.byteCells (Lib.itoa (b : Nat)) = valsOf .u8 (decT b) := by
  unfold Lib.byteCells valsOf decT
  rw [List.map_map]
  rfl
def RendPost (l : List Int) (w : World) (e : Ending) (w' : World) : Prop :=
  ∃ ao c, e = .returned (.tuple #[.slice ao l.length c, .int .i64 0]) ∧ SrcAt w' ao l.length c (valsOf .u8 l) ∧ (∀ ad, ao = some ad → w.heap.size ≤ ad.block) ∧ Chg [] w w' ∧ l.length ≤ c
theorem ln_end {w0 w1 w : World} {ao : Option Addr} {l : List Int} {k : Nat} (c0 : Chg [] w0 w1) (h : LnB w1 w (.slice ao l.length k) l) : RendPost l w0 (.returned (.tuple #[.slice ao l.length k, .int .i64 0])) w := by
  obtain ⟨ao', c', e, hS, hb⟩ := owns_srcAt h.1
  injection e with e1 _ e2
  subst e1 e2
  refine ⟨ao, k, rfl, hS, fun ad e => ?_, c0.trans h.2 (by simp) (by simp), ?_⟩
  · have := owns_block h.1 ad.block (hb ad e)
    have := c0.size
    omega
  · rcases h.1.2 with ⟨e, hn⟩ | ⟨g, cap, cur, e, _, _, hc, _⟩
    · omega
    · injection e with _ _ e2
      omega
theorem ln_int (w1 w : World) (v : Value) (l : List Int) (b : Nat) (h : LnB w1 w v l) (hb : b ≤ 1024) (hl : l.length ≤ 1286) (hL : LibT w) (h8 : 8 ≤ w1.heap.size) :
    Calls Tryz.prog 192 #[v, .int .i64 (b : Nat), .int .i64 10] w fun e w' => ∃ a k l', l' = l ++ decT b ∧ e = .returned (.slice a l'.length k) ∧ LnB w1 w' (.slice a l'.length k) l' ∧ l'.length ≤ 1400 := by
  refine (Tryz.strconv_AppendInt_10 w1.heap.size l.length b (by omega) (by omega) v (valsOf .u8 l) w h.1 h.2.size (by omega) (hL.pow h8)).mono ?_
  rintro e w' ⟨v', rfl, o', b', _⟩
  rw [byteCells_dec, show (Lib.itoa (b : Nat)).length = (decT b).length by unfold decT; rw [List.length_map]] at o'
  have L : LnB w1 w' v' (l ++ decT b) := by
    refine ⟨?_, ⟨by rw [b'.os, h.2.os], by rw [b'.tape, h.2.tape], by rw [b'.output, h.2.output], Nat.le_trans h.2.size b'.size, fun k hk hS => by rw [b'.block k hk, h.2.block k hk hS]⟩⟩
    rw [List.length_append, show valsOf .u8 (l ++ decT b) = valsOf .u8 l ++ valsOf .u8 (decT b) by simp [valsOf]]
    exact o'
  obtain ⟨a, k, rfl, _⟩ := owns_srcAt L.1
  refine ⟨a, k, _, rfl, rfl, L, ?_⟩
  rw [List.length_append]
  have : (decT b).length ≤ 21 := by
    unfold decT
    rw [List.length_map]
    exact Lib.itoa_length_le _ (by omega) (by omega)
  omega
theorem src_row {w : World} {g c : Nat} {l : List Int} {cur : List Value} {t : TypeId} (h : w.heap[g]? = some (.cells (valsOf .u8 l ++ cur).toArray t (0, 0))) : SrcAt w (some ⟨g, 0, none⟩) l.length c (valsOf .u8 l) := by
  refine ⟨valsOf_length _ _, fun e => (by cases e), fun ad e j u hu => ?_⟩
  injection e with e
  subst e
  rw [Addr.add_lit, Nat.zero_add, cell_of_heap h, List.getElem?_toArray, List.getElem?_append_left (List.getElem?_eq_some_iff.1 hu).1]
  exact hu
theorem starsV_le (mode : Int) (count : Nat) (h : count ≤ 1024) : starsV mode count ≤ 1024 := by
  unfold starsV
  split
  · exact h
  · split <;> omega
theorem placeV_le (mode : Int) (count at' : Nat) (h : at' ≤ count) : placeV mode count at' ≤ starsV mode count := by
  unfold starsV placeV
  split
  · exact h
  · exact Nat.le_refl _
set_option maxHeartbeats 16000000 in
theorem render_any (s : ByteArray) (mode room : Int) (count at' : Nat) (w : World) (h : AskOk s mode room) (h2 : at' ≤ count) (h3 : count ≤ 1024) (hL : LibT w) :
    Calls Tryz.prog 176 #[askV s mode room, .int .i64 (count : Nat), .int .i64 (at' : Nat)] w (RendPost (lineV (bI s) mode count at' decT) w) := by
  have HLT := Lib.hid hL
  have HCK : Hid (∀ W, Chg [] w W → Calls Tryz.prog 103 #[askV s mode room] W fun e w' => e = .returned (.int .i64 0) ∧ Chg [] W w') := Lib.hid (fun W c => vCheck_ok s mode room W h (hL.chg0 c).u)
  have HRT := Lib.hid (fun W => vright_any mode count at' W h.m0 h.m3 h2 h3)
  have HST := Lib.hid (fun W => stars_any mode count W h.m0 h.m3 h3)
  have HPL := Lib.hid (fun W => place_any mode count at' W h.m0 h.m3 h2 h3)
  have hn := starsV_le mode count h3
  have hp := placeV_le mode count at' h2
  obtain ⟨R, hR⟩ : ∃ R, R = lineV (bI s) mode count at' decT := ⟨_, rfl⟩
  rw [← hR]
  unfold lineV at hR
  generalize starsV mode count = n at *
  generalize placeV mode count at' = p at *
  have hsz := h.len
  have HSZ := Lib.hid hsz
  have HR := Lib.hid hR
  have HNP := Lib.hid (And.intro hn hp)
  have B1 := alloc_heap w (.cells #[.string s, .int .i64 mode, .int .i64 room] 76)
  have C1 : Chg [] w (w.alloc (.cells #[.string s, .int .i64 mode, .int .i64 room] 76)) := (Chg.refl _ _).alloc _
  have HB := Lib.hid (And.intro B1 C1)
  clear h h2 h3 hL hsz hn hp B1 C1 hR
  unfold askV at *
  go_enter Tryz.func176, Tryz.ntmps176
  go_wp2_with fail
  generalize hw1 : w.alloc _ = w1 at *
  refine (HCK.out w1 HB.out.2).mono ?_
  rintro e w2 ⟨rfl, C2⟩
  have x0 : w2.cell? ⟨w.heap.size, 0, none⟩ = some (.string s) := by rw [cell_of_heap (C2.heap HB.out.1 (by simp))]; rfl
  have x1 : w2.cell? ⟨w.heap.size, 1, none⟩ = some (.int .i64 mode) := by rw [cell_of_heap (C2.heap HB.out.1 (by simp))]; rfl
  have HC2 := Lib.hid C2
  have HX := Lib.hid (And.intro x0 x1)
  clear C2
  go_wp2_with fail
  refine (HRT.out w2).mono ?_
  rintro e w3 ⟨rfl, C3⟩
  have y1 := C3.cell x1 (by simp)
  have HC3 := Lib.hid (HC2.out.trans C3 (U := []) (by simp) (by simp))
  have HX3 := Lib.hid (C3.cell x0 (by simp))
  clear C3 x0 x1 HC2
  go_wp2_with fail
  refine (HST.out w3).mono ?_
  rintro e w4 ⟨rfl, C4⟩
  have z0 := C4.cell HX3.out (by simp)
  have HZ1 := Lib.hid (C4.cell y1 (by simp))
  have HC4 := Lib.hid (HC3.out.trans C4 (U := []) (by simp) (by simp))
  have HZ0 := Lib.hid z0
  have C5 : Chg [] w4 (w4.alloc (.cells #[.int .u8 13] 5)) := (Chg.refl _ _).alloc _
  have L5 := Lib.hid (ln_new w1 w4 13 HC4.out)
  have a0 := C5.cell z0 (by simp)
  have HC5 := Lib.hid C5
  clear C4 y1 HC3 HX HX3 C5 z0
  go_wp2_with (at_builtin; refine wp_ln_str rfl (.tmp 27) (.tmp 29) rfl _ [13] (by rfl) L5.out s (by rfl) (by simp only [List.length_cons, List.length_nil]; have := HSZ.out; omega) (fun v6 w6 L6' c6 => ?_); obtain ⟨l6, hl6⟩ : ∃ l6, l6 = [13] ++ bI s := ⟨_, rfl⟩; rw [← hl6] at L6'; have HL6 := Lib.hid hl6; clear hl6; have L6 := Lib.hid L6'; obtain ⟨a6, k6, rfl, _⟩ := owns_srcAt L6'.1; clear L6' c6)
  have hz6 : l6.length ≤ 257 := by rw [HL6.out, List.length_append, bI_length]; have := HSZ.out; simp; omega
  have HZ6 := Lib.hid hz6
  have C7 : Chg [] w6 (w6.alloc (.cells #[.int .u8 42] 5)) := (Chg.refl _ _).alloc _
  have X7 : (w6.alloc (.cells #[.int .u8 42] 5)).cell? ⟨w6.heap.size, 0, none⟩ = some (.int .u8 42) := by rw [cell_of_heap (alloc_heap w6 _)]; rfl
  refine (repeat_any n (by have := HNP.out.1; omega) 42 w6.heap.size 1 _ X7 (Nat.le_refl _) (by simp)).mono ?_
  rintro e w8 ⟨g8, c8, cur8, rfl, hg8, C8, H8, hc8⟩
  have S8 := Lib.hid (src_row (l := List.replicate n 42) (c := c8) H8)
  have L8 := Lib.hid (L6.out.on (C7.trans C8 (U := []) (by simp) (by simp)))
  have hrl : (List.replicate n (42 : Int)).length = n := List.length_replicate
  have HRL := Lib.hid hrl
  have HZM : Hid (w1.cell? ⟨w.heap.size, 1, none⟩ = some (.int .i64 mode)) := Lib.hid (by rw [cell_of_heap HB.out.1]; rfl)
  clear C7 X7 C8 H8 hc8 hg8 L5 a0 HC5 HZ0 HZ1 L6
  rw [hrl] at S8 ⊢
  go_wp2_with (first
    | (at_builtin; refine wp_ln_src rfl (.tmp 31) (.tmp 34) rfl _ l6 (by rfl) L8.out (some ⟨g8, 0, none⟩) n c8 (List.replicate n 42) (by rfl) S8.out (by have := HZ6.out; have := HNP.out.1; omega) (fun v9 w9 L9' c9 => ?_); obtain ⟨l9, hl9⟩ : ∃ l9, l9 = l6 ++ List.replicate n 42 := ⟨_, rfl⟩; rw [← hl9] at L9'; have HL9 := Lib.hid hl9; have hz9 : l9.length ≤ 1281 := (by rw [hl9, List.length_append, List.length_replicate]; have := HNP.out.1; have := HZ6.out; omega); have HZ9 := Lib.hid hz9; clear hl9 hz9; have L9 := Lib.hid L9'; obtain ⟨a9, k9, rfl, _⟩ := owns_srcAt L9'.1; clear L9' c9)
    | (at_builtin; refine wp_ln_str rfl (.tmp 36) (.const (.string ⟨#[27, 91, 75]⟩)) rfl _ l9 (by rfl) L9.out ⟨#[27, 91, 75]⟩ (by rfl) (by have h0 := HZ9.out; have h1 : (⟨#[27, 91, 75]⟩ : ByteArray).size = 3 := rfl; omega) (fun v10 w10 L10' c10 => ?_); obtain ⟨l10, hl10⟩ : ∃ l10, l10 = l9 ++ bI ⟨#[27, 91, 75]⟩ := ⟨_, rfl⟩; rw [← hl10] at L10'; have HL10 := Lib.hid hl10; have hz10 : l10.length ≤ 1284 := (by rw [hl10, List.length_append, bI_length]; have h0 := HZ9.out; have h1 : (⟨#[27, 91, 75]⟩ : ByteArray).size = 3 := rfl; omega); have HZ10 := Lib.hid hz10; have x10 := L10'.2.cell HZM.out (by simp); clear hl10 hz10; have L10 := Lib.hid L10'; obtain ⟨a10, k10, rfl, _⟩ := owns_srcAt L10'.1; clear L10' c10))
  clear x10 hrl hz6
  refine (HPL.out w10).mono ?_
  rintro e w11 ⟨rfl, C11⟩
  have L11 := Lib.hid (L10.out.on C11)
  have hnp := HNP.out
  have hwr : IntKind.i64.wrap (((n : Nat) : Int) - (p : Nat)) = ((n - p : Nat) : Int) := by rw [IntWalk.i64_in _ (by omega)]; omega
  clear C11 hnp L10
  rcases Nat.lt_or_ge p n with hlt | hge
  · have hRb : R = l10 ++ bI ⟨#[27, 91]⟩ ++ decT (n - p) ++ [68] := by
      rw [HR.out, if_pos hlt, HL10.out, HL9.out, HL6.out, bI_csi, bI_clr]
      simp [List.append_assoc]
    have hb : (0 : Int) < ((n - p : Nat) : Int) := by omega
    have hb2 : n - p ≤ 1024 := by have := HNP.out; omega
    clear hlt
    generalize n - p = b at *
    have HRB := Lib.hid hRb
    have HB2 := Lib.hid hb2
    clear hRb hb2
    go_wp2_with (at_builtin; refine wp_ln_str rfl (.tmp 47) (.const (.string ⟨#[27, 91]⟩)) rfl _ l10 (by rfl) L11.out ⟨#[27, 91]⟩ (by rfl) (by have h0 := HZ10.out; have h1 : (⟨#[27, 91]⟩ : ByteArray).size = 2 := rfl; omega) (fun v12 w12 L12' c12 => ?_); obtain ⟨l12, hl12⟩ : ∃ l12, l12 = l10 ++ bI ⟨#[27, 91]⟩ := ⟨_, rfl⟩; rw [← hl12] at L12'; have HL12 := Lib.hid hl12; have hz12 : l12.length ≤ 1286 := (by rw [hl12, List.length_append, bI_length]; have h0 := HZ10.out; have h1 : (⟨#[27, 91]⟩ : ByteArray).size = 2 := rfl; omega); have HZ12 := Lib.hid hz12; clear hl12 hz12; have L12 := Lib.hid L12'; obtain ⟨a12, k12, rfl, _⟩ := owns_srcAt L12'.1; clear L12' c12)
    refine (ln_int w1 w12 (.slice a12 l12.length k12) l12 b L12.out HB2.out HZ12.out (HLT.out.chg0 (HB.out.2.trans L12.out.2 (U := []) (by simp) (by simp))) (Nat.le_trans HLT.out.sz HB.out.2.size)).mono ?_
    rintro e w13 ⟨a13, k13, l13, hl13, rfl, L13, hz13⟩
    have HL13 := Lib.hid hl13
    have HL := Lib.hid L13
    have HZ13 := Lib.hid hz13
    clear hl13 L13 hz13
    have C14 : Chg [] w13 (w13.alloc (.cells #[.int .u8 68] 5)) := (Chg.refl _ _).alloc _
    have L14 := Lib.hid (HL.out.on C14)
    have S14 := Lib.hid (src_row (l := [68]) (cur := []) (c := 1) (alloc_heap w13 (.cells #[.int .u8 68] 5)))
    clear C14
    go_wp2_with (at_builtin; refine wp_ln_src rfl (.tmp 51) (.tmp 52) rfl _ l13 (by rfl) L14.out (some ⟨w13.heap.size, 0, none⟩) 1 1 [68] (by rfl) S14.out (by have := HZ13.out; omega) (fun v15 w15 L15' c15 => ?_); obtain ⟨l15, hl15⟩ : ∃ l15, l15 = l13 ++ [68] := ⟨_, rfl⟩; rw [← hl15] at L15'; have HL15 := Lib.hid hl15; clear hl15; have L15 := Lib.hid L15'; obtain ⟨a15, k15, rfl, _⟩ := owns_srcAt L15'.1; clear L15' c15)
    go_ret2
    rw [HRB.out, ← HL12.out, ← HL13.out, ← HL15.out]
    exact ln_end HB.out.2 L15.out
  · have hRb : R = l10 := by
      rw [HR.out, if_neg (by omega), HL10.out, HL9.out, HL6.out, bI_clr, List.append_nil]
    have hnb : n - p = 0 := by omega
    rw [hnb] at hwr
    clear hge hnb
    have HRB := Lib.hid hRb
    clear hRb
    go_wp2_with fail
    go_ret2
    rw [HRB.out]
    exact ln_end HB.out.2 L11.out
end Go.Proofs.YtafmnkngjjnpiaaGreatDoor
