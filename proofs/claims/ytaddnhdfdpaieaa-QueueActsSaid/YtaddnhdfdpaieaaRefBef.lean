/-
  The reference queue: the contract of Before.
-/
import Derived.Test.YtaddnhdfdpaieaaRefQ
namespace Go.Proofs.Ytaddnhdfdpaieaa
set_option linter.unusedVariables false
open Go.RowKit
attribute [local go_sem] run_store_float'

def RefBefPost (bM : Nat) (v : Value) (L : List Ele) (b : Nat) (w : World) (e : Ending) (w' : World) : Prop :=
  ∃ lv v', e = .returned lv ∧ Chg [bM] w w' ∧ RefQ w' bM v' (L.dropWhile (befB b)) ∧ v'.ownBlock = v.ownBlock ∧ w'.ownsRow w.heap.size 3 1 lv (L.takeWhile (befB b)).length (intsE (L.takeWhile (befB b)))

theorem befB_leq (b : Nat) (x : Ele) : decide (cmpF x.1 b ≤ (0 : Int)) = befB b x := by
  have h := befB_cmp b x
  cases hb : befB b x with
  | true => rw [hb] at h; have := of_decide_eq_false h; exact decide_eq_true (by omega)
  | false => rw [hb] at h; have := of_decide_eq_true h; exact decide_eq_false (by omega)

theorem RefQ.lt {w : World} {bM : Nat} {v : Value} {L : List Ele} (h : RefQ w bM v L) : bM < w.heap.size := heap_lt h.hM
theorem RefQ.slice {w : World} {bM : Nat} {v : Value} {L : List Ele} (h : RefQ w bM v L) : ∃ ao c, v = .slice ao L.length c := by
  obtain ⟨ao, c, e, _⟩ := h.row.slice
  exact ⟨ao, c, e⟩

set_option maxHeartbeats 4000000 in
theorem refBefore_any (bM : Nat) (v : Value) (L : List Ele) (b : Nat) (w : World) (h : RefQ w bM v L) (hb : Wd b) (hok : ∀ x ∈ L, Wd x.1) (hmost : L.length ≤ 4096) :
    Calls Try.prog 23 #[.pointer (some ⟨bM, 0, none⟩), .float .f64 b] w (RefBefPost bM v L b w) := by
  obtain ⟨i0, hi, hz0, hz1, hz2⟩ := info_parts infoInt
  have hlt := h.lt
  have hlt2 := Lib.hid (h.row.lt)
  have HOK := Lib.hid hok
  clear hok
  go_enter Try.func23, Try.ntmps23
  go_wp2_with fail
  go_loopw [5] (fun lv wr => ∃ (T M1 : List Ele) (v1 : Value), L = T ++ M1 ∧ (∀ y ∈ T, befB b y = true) ∧ RefQ wr bM v1 M1 ∧ v1.ownBlock = v.ownBlock ∧ wr.ownsRow w.heap.size 3 1 lv T.length (intsE T) ∧ Chg [bM] w wr) (fun lv _ => 4096 - (match lv with | .slice _ n _ => n | _ => 0))
  case atStart => exact ⟨[], L, v, rfl, by simp, h, rfl, World.ownsRow_nil _ _ _ _, Chg.refl _ _⟩
  case round =>
    obtain ⟨T, M1, v1, hM, hT, hq, hv, ho, hc⟩ := hrel
    have HM := Lib.hid hM
    have HT := Lib.hid hT
    have HV := Lib.hid hv
    have hsz := hc.size
    have hlen : L.length = T.length + M1.length := by rw [hM]; simp
    have h0 := hq.cell0
    clear hM hT hv h
    cases M1 with
    | nil =>
      obtain ⟨ao, c, rfl⟩ := hq.slice
      simp only [List.length_nil] at h0
      go_wp2_with fail
      go_ret
      obtain ⟨e1, e2⟩ := bef_split b T default [] HT.out
      refine ⟨_, _, rfl, hc, ?_, HV.out, ?_⟩
      · rw [HM.out, e2]; exact hq
      · rw [HM.out, e1]; simpa using ho
    | cons x M2 =>
      have hcmp := befB_leq b x
      have x1 : Wd x.1 := HOK.out x (by rw [HM.out]; simp)
      obtain ⟨g, off, cap, rfl, c1, c2, l1, l2, hne⟩ := hq.head
      unfold maxLen at l2
      have hgl : g < w.heap.size := hlt2.out g (by rw [← HV.out]; rfl)
      have HQ := Lib.hid hq
      clear hq
      have hp : (0 : Int) < (M2.length : Int) + 1 := by omega
      cases hx : befB b x with
      | false =>
        rw [hx] at hcmp
        go_wp2_with fail
        refine (refcompare_any _ _ _ x1 hb).mono ?_
        rintro e w1' ⟨rfl, rfl⟩
        go_wp2_with fail
        go_ret
        obtain ⟨e1, e2⟩ := bef_split b T default (x :: M2) HT.out
        refine ⟨_, _, rfl, hc, ?_, HV.out, ?_⟩
        · rw [HM.out, e2]; simpa [List.dropWhile_cons, hx] using HQ.out
        · rw [HM.out, e1]; simpa [List.takeWhile_cons, hx] using ho
      | true =>
        rw [hx] at hcmp
        have HX := Lib.hid hx
        simp only [List.length_cons] at hlen
        have k1 : Chg [] wr (wr.alloc (.cells #[.int .i64 x.2.1] 3)) := (Chg.refl _ _).alloc _
        have HO := Lib.hid ho
        have hsl := HQ.out.lt
        clear ho hx
        by_cases hcap : cap = 1
        · subst hcap
          obtain rfl : M2 = [] := List.eq_nil_of_length_eq_zero (by omega)
          go_wp2_with fail
          refine (refcompare_any _ _ _ x1 hb).mono ?_
          rintro e w1' ⟨rfl, rfl⟩
          go_wp2_with (at_builtin; refine wpList_append_own _ rfl _ _ 54 rfl w.heap.size 3 i0 (.int .i64 0) 1 8 Try.underlying54 hi hz0 hz1 hz2 rfl (by decide) _ _ _ rfl (HO.out.alloc _) ⟨wr.heap.size, 0, none⟩ 1 1 [.int .i64 x.2.1] rfl rfl (cell_one_new _ _ _) (by simp [Value.oneCell']) (by unfold maxLen; omega) (by omega) (by simp; omega) (fun v' w3 hown3 hg3 _ => ?_); have C3 : Chg u5.ownBlock.toList wr w3 := k1.trans (chg_grown hg3) (by simp) (fun y hy _ => hy); have HB := Lib.hid (show ∀ k, k < w.heap.size → k ∉ u5.ownBlock.toList from fun k hk hm => by have := (HO.out.lt k (by simpa [Option.mem_toList] using hm)).1; omega); have Q3 := HQ.out.chg C3 (HB.out _ hlt) (fun k hk => HB.out k (by injection hk with hk; have hk' : g = k := hk; omega)); have h03 := Q3.cell0; have f03 := free_of_heap Q3.hM 0; have HQ3 := Lib.hid Q3; have HC3 := Lib.hid C3; have HO3 := Lib.hid hown3; clear Q3 C3 hown3 hg3)
          have C4 : Chg [bM] w3 (w3.setCell ⟨bM, 0, none⟩ (.slice (some ⟨g, off, none⟩) 0 0)) := (Chg.refl [bM] w3).setCell (p := ⟨bM, 0, none⟩) (Or.inl List.mem_cons_self) _
          have O4 := owns_chg HO3.out C4 (fun k hk hm => by have := (HO3.out.lt k hk).1; have := List.mem_singleton.1 hm; omega)
          have R4 : RefQ (w3.setCell ⟨bM, 0, none⟩ (.slice (some ⟨g, off, none⟩) 0 0)) bM (.slice (some ⟨g, off, none⟩) 0 0) [] := HQ3.out.pop off (by rw [if_pos rfl])
          obtain ⟨ao5, c5, e5⟩ := owns_slice HO.out
          obtain ⟨ao6, c6, e6⟩ := owns_slice HO3.out
          go_roundw
          case rel =>
            refine ⟨T ++ [x], _, _, by rw [HM.out]; simp, fun y hy => ?_, R4, HV.out, ?_, (hc.trans HC3.out (fun y hy => hy) (fun y hy hl => absurd hy (HB.out y hl))).trans C4 (fun y hy => hy) (fun y hy _ => hy)⟩
            · rcases List.mem_append.1 hy with hy | hy
              · exact HT.out y hy
              · rw [List.mem_singleton.1 hy]; exact HX.out
            · have : intsE (T ++ [x]) = intsE T ++ [Value.int .i64 x.2.1] := by simp [intsE]
              rw [this, List.length_append]
              exact O4
          case measure => rw [e5, e6]; show 4096 - (T.length + 1) < 4096 - T.length; simp only [List.length_nil] at hlen; omega
        · go_wp2_with fail
          refine (refcompare_any _ _ _ x1 hb).mono ?_
          rintro e w1' ⟨rfl, rfl⟩
          go_wp2_with (at_builtin; refine wpList_append_own _ rfl _ _ 54 rfl w.heap.size 3 i0 (.int .i64 0) 1 8 Try.underlying54 hi hz0 hz1 hz2 rfl (by decide) _ _ _ rfl (HO.out.alloc _) ⟨wr.heap.size, 0, none⟩ 1 1 [.int .i64 x.2.1] rfl rfl (cell_one_new _ _ _) (by simp [Value.oneCell']) (by unfold maxLen; omega) (by omega) (by simp; omega) (fun v' w3 hown3 hg3 _ => ?_); have C3 : Chg u5.ownBlock.toList wr w3 := k1.trans (chg_grown hg3) (by simp) (fun y hy _ => hy); have HB := Lib.hid (show ∀ k, k < w.heap.size → k ∉ u5.ownBlock.toList from fun k hk hm => by have := (HO.out.lt k (by simpa [Option.mem_toList] using hm)).1; omega); have Q3 := HQ.out.chg C3 (HB.out _ hlt) (fun k hk => HB.out k (by injection hk with hk; have hk' : g = k := hk; omega)); have h03 := Q3.cell0; have f03 := free_of_heap Q3.hM 0; have HQ3 := Lib.hid Q3; have HC3 := Lib.hid C3; have HO3 := Lib.hid hown3; clear Q3 C3 hown3 hg3)
          have C4 : Chg [bM] w3 (w3.setCell ⟨bM, 0, none⟩ (.slice (some ⟨g, (off + 2), none⟩) M2.length (cap - 1))) := (Chg.refl [bM] w3).setCell (p := ⟨bM, 0, none⟩) (Or.inl List.mem_cons_self) _
          have O4 := owns_chg HO3.out C4 (fun k hk hm => by have := (HO3.out.lt k hk).1; have := List.mem_singleton.1 hm; omega)
          have R4 := HQ3.out.pop (off + 2) (by rw [if_neg hcap])
          obtain ⟨ao5, c5, e5⟩ := owns_slice HO.out
          obtain ⟨ao6, c6, e6⟩ := owns_slice HO3.out
          go_roundw
          case rel =>
            refine ⟨T ++ [x], _, _, by rw [HM.out]; simp, fun y hy => ?_, R4, HV.out, ?_, (hc.trans HC3.out (fun y hy => hy) (fun y hy hl => absurd hy (HB.out y hl))).trans C4 (fun y hy => hy) (fun y hy _ => hy)⟩
            · rcases List.mem_append.1 hy with hy | hy
              · exact HT.out y hy
              · rw [List.mem_singleton.1 hy]; exact HX.out
            · have : intsE (T ++ [x]) = intsE T ++ [Value.int .i64 x.2.1] := by simp [intsE]
              rw [this, List.length_append]
              exact O4
          case measure => rw [e5, e6]; show 4096 - (T.length + 1) < 4096 - T.length; omega
end Go.Proofs.Ytaddnhdfdpaieaa
