import Derived.Test.YtafmnkngjjnpiaaGreatDoorMomD
import Derived.Test.YtafmnkngjjnpiaaGreatDoorApp
namespace Go.Proofs.YtafmnkngjjnpiaaGreatDoor
set_option linter.unusedVariables false
set_option maxRecDepth 100000
open Go.RowKit
def SrcAt (w : World) (ao : Option Addr) (n c : Nat) (xs : List Value) : Prop :=
  xs.length = n ∧ (ao = none → n = 0 ∧ c = 0) ∧ ∀ ad, ao = some ad → ∀ j u, xs[j]? = some u → w.cell? (ad.add j) = some u
def valsOf (k : IntKind) (zs : List Int) : List Value := zs.map (.int k)
theorem valsOf_length (k : IntKind) (zs : List Int) : (valsOf k zs).length = zs.length := by simp [valsOf]
theorem oneCell_vals (k : IntKind) (zs : List Int) : ∀ u ∈ valsOf k zs, u.oneCell' = true := by
  intro u hu
  obtain ⟨x, _, rfl⟩ := List.mem_map.1 hu
  rfl
theorem SrcAt.chg {w w' : World} {ao : Option Addr} {n c : Nat} {xs : List Value} {S : List Nat} (h : SrcAt w ao n c xs) (k : Chg S w w') (hS : ∀ ad, ao = some ad → ad.block ∉ S) : SrcAt w' ao n c xs :=
  ⟨h.1, h.2.1, fun ad e j u hu => k.cell (h.2.2 ad e j u hu) (by
    have : (ad.add j).block = ad.block := by unfold Addr.add; split <;> rfl
    rw [this]; exact hS ad e)⟩
theorem SrcAt.chg0 {w w' : World} {ao : Option Addr} {n c : Nat} {xs : List Value} (h : SrcAt w ao n c xs) (k : Chg [] w w') : SrcAt w' ao n c xs := h.chg k (by simp)
theorem IsRow.src {k : IntKind} {w : World} {a : Option Addr} {len cap : Nat} {zs : List Int} (h : IsRow k w a len cap zs) : SrcAt w a len cap (valsOf k (zs.take len)) := by
  rcases h with ⟨rfl, rfl, rfl, rfl⟩ | ⟨x, rfl, h1, h2, h3, h4, _⟩
  · exact ⟨by simp [valsOf], fun _ => ⟨rfl, rfl⟩, fun ad e => by cases e⟩
  · refine ⟨by simp [valsOf]; omega, fun e => by (cases e), fun ad e j u hu => ?_⟩
    injection e with e
    subst e
    simp only [valsOf, List.getElem?_map, List.getElem?_take] at hu
    split at hu
    · rename_i hj
      rw [List.getElem?_eq_getElem (by omega)] at hu
      injection hu with hu
      rw [← hu, h4 j (by omega)]
      simp [List.getD_eq_getElem?_getD, List.getElem?_eq_getElem (show j < zs.length by omega)]
    · cases hu
theorem owns_srcAt {w : World} {base : Nat} {e : TypeId} {v : Value} {n : Nat} {xs : List Value} (h : w.ownsRow base e 1 v n xs) : ∃ ao c, v = .slice ao n c ∧ SrcAt w ao n c xs ∧ ∀ ad, ao = some ad → v.ownBlock = some ad.block := by
  have hl : xs.length = n := by have := h.1; omega
  rcases h.2 with ⟨rfl, rfl⟩ | ⟨g, cap, cur, rfl, hb, hg, h1, h2, h3, h4⟩
  · exact ⟨none, 0, rfl, ⟨hl, fun _ => ⟨rfl, rfl⟩, fun ad e => by cases e⟩, fun ad e => by cases e⟩
  · refine ⟨_, cap, rfl, ⟨hl, fun e => by (cases e), fun ad e j u hu => ?_⟩, fun ad e => by injection e with e; subst e; rfl⟩
    injection e with e
    subst e
    exact h.cells (g := g) rfl j u hu
theorem infoI : (Tryz.prog.info? 3).map (fun i => (i.zero, i.size, i.bytes)) = some (some (.int .i64 0), 1, 8) := by kernel_rfl
theorem infoB : (Tryz.prog.info? 5).map (fun i => (i.zero, i.size, i.bytes)) = some (some (.int .u8 0), 1, 1) := by kernel_rfl
def ClonePost (t : TypeId) (n : Nat) (xs : List Value) (w : World) (e : Ending) (w' : World) : Prop :=
  ∃ rv, e = .returned rv ∧ Chg [] w w' ∧ w'.ownsRow w.heap.size t 1 rv n xs
set_option maxHeartbeats 1000000 in
theorem iclone_any (ao : Option Addr) (n c : Nat) (zs : List Int) (w : World) (h : SrcAt w ao n c (valsOf .i64 zs)) (hn : n ≤ 1000000) :
    Calls Tryz.prog 125 #[.slice ao n c] w (ClonePost 3 n (valsOf .i64 zs) w) := by
  obtain ⟨i0, hi, hz0, hz1, hz2⟩ := info_parts infoI
  have hnil := fun (w : World) (a : Option Addr) (n c : Nat) => Lib.run_eql_slice_nil (P := Tryz.prog) w 38 3 a n c 0 0 Tryz.underlying38
  cases ao with
  | none =>
    obtain ⟨rfl, rfl⟩ := h.2.1 rfl
    obtain rfl : zs = [] := List.eq_nil_of_length_eq_zero (by have := h.1; simpa [valsOf] using this)
    clear h
    go_enter Tryz.func125, Tryz.ntmps125
    go_wp2_with fail
    go_ret
    exact ⟨_, rfl, Chg.refl _ _, World.ownsRow_nil _ _ _ _⟩
  | some ad =>
    have O0 : (w.alloc (.cells #[] 3)).ownsRow w.heap.size 3 1 (.slice (some ⟨w.heap.size, 0, none⟩) 0 0) 0 [] := owns_empty w w.heap.size 3 (Nat.le_refl _)
    have C0 : Chg [] w (w.alloc (.cells #[] 3)) := (Chg.refl _ _).alloc _
    have S1 := Lib.hid (h.chg0 C0)
    have hl := Lib.hid (show (valsOf .i64 zs).length = n * 1 by rw [h.1]; omega)
    clear h
    go_enter Tryz.func125, Tryz.ntmps125
    go_wp2_with (refine wpList_append_src rfl (.tmp 5) (.tmp 6) 38 rfl w.heap.size 3 i0 (.int .i64 0) 1 8 Tryz.underlying38 hi hz0 hz1 hz2 rfl (by decide) _ 0 [] (by rfl) O0 (some ad) n c (valsOf .i64 zs) (by rfl) hl.out (fun e => by cases e) S1.out.2.2 (oneCell_vals _ zs) (by unfold maxLen; omega) (by omega) C0.size (fun v6 w6 O6 C6 _ => ?_); have D6 : Chg [] w w6 := C0.trans C6 (by simp) (by simp [Value.ownBlock]); rw [List.nil_append, Nat.zero_add] at O6; have H6 := Lib.hid O6; clear O6)
    go_ret
    exact ⟨_, rfl, D6, H6.out⟩
set_option maxHeartbeats 1000000 in
theorem bclone_any (ao : Option Addr) (n c : Nat) (zs : List Int) (w : World) (h : SrcAt w ao n c (valsOf .u8 zs)) (hn : n ≤ 1000000) :
    Calls Tryz.prog 114 #[.slice ao n c] w (ClonePost 5 n (valsOf .u8 zs) w) := by
  obtain ⟨i0, hi, hz0, hz1, hz2⟩ := info_parts infoB
  have hnil := fun (w : World) (a : Option Addr) (n c : Nat) => Lib.run_eql_slice_nil (P := Tryz.prog) w 22 5 a n c 0 0 Tryz.underlying22
  cases ao with
  | none =>
    obtain ⟨rfl, rfl⟩ := h.2.1 rfl
    obtain rfl : zs = [] := List.eq_nil_of_length_eq_zero (by have := h.1; simpa [valsOf] using this)
    clear h
    go_enter Tryz.func114, Tryz.ntmps114
    go_wp2_with fail
    go_ret
    exact ⟨_, rfl, Chg.refl _ _, World.ownsRow_nil _ _ _ _⟩
  | some ad =>
    have O0 : (w.alloc (.cells #[] 5)).ownsRow w.heap.size 5 1 (.slice (some ⟨w.heap.size, 0, none⟩) 0 0) 0 [] := owns_empty w w.heap.size 5 (Nat.le_refl _)
    have C0 : Chg [] w (w.alloc (.cells #[] 5)) := (Chg.refl _ _).alloc _
    have S1 := Lib.hid (h.chg0 C0)
    have hl := Lib.hid (show (valsOf .u8 zs).length = n * 1 by rw [h.1]; omega)
    clear h
    go_enter Tryz.func114, Tryz.ntmps114
    go_wp2_with (refine wpList_append_src rfl (.tmp 5) (.tmp 6) 22 rfl w.heap.size 5 i0 (.int .u8 0) 1 1 Tryz.underlying22 hi hz0 hz1 hz2 rfl (by decide) _ 0 [] (by rfl) O0 (some ad) n c (valsOf .u8 zs) (by rfl) hl.out (fun e => by cases e) S1.out.2.2 (oneCell_vals _ zs) (by unfold maxLen; omega) (by omega) C0.size (fun v6 w6 O6 C6 _ => ?_); have D6 : Chg [] w w6 := C0.trans C6 (by simp) (by simp [Value.ownBlock]); rw [List.nil_append, Nat.zero_add] at O6; have H6 := Lib.hid O6; clear O6)
    go_ret
    exact ⟨_, rfl, D6, H6.out⟩
theorem SrcAt.int {k : IntKind} {w : World} {ao : Option Addr} {n c : Nat} {zs : List Int} (h : SrcAt w ao n c (valsOf k zs)) {j : Nat} (hj : j < n) : ∃ g off, ao = some ⟨g, off, none⟩ ∧ w.cell? ⟨g, off + j, none⟩ = some (.int k (zs.getD j 0)) := by
  have hl : zs.length = n := by have := h.1; rwa [valsOf_length] at this
  cases ao with
  | none => have := (h.2.1 rfl).1; omega
  | some ad =>
    have h0 := h.2.2 ad rfl 0 (.int k (zs.getD 0 0)) (by simp [valsOf, List.getElem?_eq_getElem (show 0 < zs.length by omega)])
    have hsp := World.cell?_spot h0
    obtain ⟨g, off, spot⟩ := ad
    have : spot = none := by simpa [Addr.add] using hsp
    subst this
    refine ⟨g, off, rfl, ?_⟩
    have hj' := h.2.2 _ rfl j (.int k (zs.getD j 0)) (by simp [valsOf, List.getElem?_eq_getElem (show j < zs.length by omega)])
    rwa [Addr.add_lit] at hj'
def IdxPost (n : Int) (zs : List Int) (w : World) (e : Ending) (w' : World) : Prop := ∃ i : Int, e = .returned (.int .i64 i) ∧ (0 ≤ i ↔ n ∈ zs) ∧ w = w'
theorem mem_take {zs : List Int} {n : Int} {k : Nat} (hk : k < zs.length) (h : n ∉ zs.take k) (hne : zs.getD k 0 ≠ n) : n ∉ zs.take (k + 1) := by
  rw [List.take_succ_eq_append_getElem hk]
  intro hm
  rcases List.mem_append.1 hm with hm | hm
  · exact h hm
  · rw [List.mem_singleton] at hm
    exact hne (by simp [List.getD_eq_getElem?_getD, List.getElem?_eq_getElem hk, hm])
set_option maxHeartbeats 1000000 in
theorem index_any (ao : Option Addr) (n c : Nat) (zs : List Int) (x : Int) (w : World) (h : SrcAt w ao n c (valsOf .i64 zs)) (hn : n ≤ 1000000) :
    Calls Tryz.prog 187 #[.slice ao n c, .int .i64 x] w (IdxPost x zs w) := by
  have hl : zs.length = n := by have := h.1; rwa [valsOf_length] at this
  have HL := Lib.hid hl
  have HH := Lib.hid h
  clear hl h
  go_enter Tryz.func187, Tryz.ntmps187
  go_wp2_with fail
  go_loopw [8] (fun iv wr => ∃ k : Nat, k ≤ n ∧ iv = .int .i64 k ∧ Hid (x ∉ zs.take k) ∧ w = wr) (fun iv _ => n - (intOf iv).toNat)
  case atStart => exact ⟨0, by omega, rfl, Lib.hid (by simp), rfl⟩
  case round =>
    obtain ⟨k, hk, rfl, hx, rfl⟩ := hrel
    by_cases hlt : k < n
    · obtain ⟨g, off, rfl, hc⟩ := HH.out.int hlt
      by_cases he : x = zs.getD k 0
      · have hm : Hid (x ∈ zs) := Lib.hid (by
          rw [he, List.getD_eq_getElem?_getD, List.getElem?_eq_getElem (by rw [HL.out]; exact hlt)]; exact List.getElem_mem _)
        rw [← he] at hc
        clear he
        go_wp2_with fail
        go_ret
        exact ⟨k, rfl, ⟨fun _ => hm.out, fun _ => by omega⟩, rfl⟩
      · have hm := Lib.hid (mem_take (by rw [HL.out]; exact hlt) hx.out (fun e => he e.symm))
        have hne : (x == zs.getD k 0) = false := by rw [beq_eq_false_iff_ne]; exact he
        generalize zs.getD k 0 = y at *
        clear he
        go_wp2_with fail
        go_roundw
        case rel => exact ⟨k + 1, by omega, by go_num, hm, by first | rfl | trivial⟩
        case measure => simp [intOf]; omega
    · obtain rfl : k = n := by omega
      go_wp2_with fail
      go_ret
      have := hx.out
      rw [List.take_of_length_le (by rw [HL.out]; exact Nat.le_refl _)] at this
      exact ⟨-1, rfl, ⟨fun h => by omega, fun h => absurd h this⟩, rfl⟩
set_option maxHeartbeats 1000000 in
theorem contains_any (ao : Option Addr) (n c : Nat) (zs : List Int) (x : Int) (w : World) (h : SrcAt w ao n c (valsOf .i64 zs)) (hn : n ≤ 1000000) :
    Calls Tryz.prog 171 #[.slice ao n c, .int .i64 x] w fun e w' => e = .returned (.bool (decide (x ∈ zs))) ∧ w = w' := by
  go_enter Tryz.func171, Tryz.ntmps171
  go_wp2_with fail
  refine (index_any ao n c zs x _ h hn).mono ?_
  rintro e w1 ⟨i, rfl, hm, rfl⟩
  have HM := Lib.hid hm
  clear hm
  go_wp2_with fail
  go_ret
  refine ⟨ret_bool' ?_, rfl⟩
  exact decide_eq_decide.2 HM.out
end Go.Proofs.YtafmnkngjjnpiaaGreatDoor
