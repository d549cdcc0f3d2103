/-
  MomentSorts: of any moments those in order, bit by bit. The walk.
-/
import Derived.Test.YtjjebeiomfdjeaaSrtR
import Derived.Test.YtjjebeiomfdjeaaMomZ
import Derived.Test.YtjjebeiomfdjeaaWrd
namespace Go.Proofs.Ytjjebeiomfdjeaa
set_option linter.unusedVariables false
open Go.RowKit

attribute [local go_sem] run_store_float'

theorem ownsF_chg {w w' : World} {base : Nat} {v : Value} {n : Nat} {xs : List Value} {e : TypeId} {S : List Nat} (h : w.ownsRow base e 1 v n xs) (c : Chg S w w') (hv : ∀ k, v.ownBlock = some k → k ∉ S) : w'.ownsRow base e 1 v n xs := by
  refine ⟨h.1, h.2.imp id ?_⟩
  rintro ⟨g, cap, cur, rfl, h1, h2, h3⟩
  exact ⟨g, cap, cur, rfl, h1, c.heap h2 (hv g rfl), h3⟩

theorem chgF_grown {w w' : World} {v : Value} (h : w.grownBy w' v.ownBlock) : Chg v.ownBlock.toList w w' :=
  ⟨h.os, h.tape, h.output, h.size, fun k hk hS => h.block k hk (fun e => hS (by rw [← e]; simp))⟩

theorem cellF_new (w : World) (t : TypeId) (u : Value) : ∀ j v, [u][j]? = some v → (w.alloc (.cells #[u] t)).cell? ((⟨w.heap.size, 0, none⟩ : Addr).add j) = some v := by
  intro j v hv
  rw [Addr.add_lit, Nat.zero_add, cell_of_heap (alloc_heap w _)]
  simpa using hv

theorem ownsF_lower {w : World} {base base' : Nat} {v : Value} {n : Nat} {xs : List Value} {e : TypeId} (h : w.ownsRow base e 1 v n xs) (hb : base' ≤ base) : w.ownsRow base' e 1 v n xs := by
  refine ⟨h.1, h.2.imp id ?_⟩
  rintro ⟨g, cap, cur, rfl, h1, h2, h3⟩
  exact ⟨g, cap, cur, rfl, by omega, h2, h3⟩

theorem fword_at {w : World} {base : Nat} {v : Value} {vs : List Nat} {n : Nat} (h : w.ownsRow base 23 1 v n (fwords vs)) {k : Nat} (hk : k < n) : ∃ g c, v = .slice (some ⟨g, 0, none⟩) n c ∧ w.cell? ⟨g, k, none⟩ = some (.float .f64 (vs.getD k 0)) := by
  have hl : vs.length = n := by have := h.1; simpa [fwords] using this
  rcases owns_src h with ⟨rfl, h0⟩ | ⟨g, c, rfl, _, _, _, hc⟩
  · omega
  · refine ⟨g, c, rfl, ?_⟩
    have := hc k (.float .f64 (vs.getD k 0)) (by simp [fwords, List.getElem?_eq_getElem (show k < vs.length by omega)])
    rwa [Addr.add_lit, Nat.zero_add] at this

theorem slice_any {w : World} {base : Nat} {e : TypeId} {v : Value} {n : Nat} {xs : List Value} (h : w.ownsRow base e 1 v n xs) : ∃ ao c, v = .slice ao n c := by
  rcases owns_src h with ⟨rfl, rfl⟩ | ⟨g, c, rfl, _⟩
  · exact ⟨none, 0, rfl⟩
  · exact ⟨_, c, rfl⟩

theorem take_words (ws : List Nat) (k : Nat) (h : k < ws.length) : ws.take (k + 1) = ws.take k ++ [ws.getD k 0] := by
  rw [List.take_succ_eq_append_getElem h, List.getD_eq_getElem?_getD, List.getElem?_eq_getElem h]; rfl

theorem Ordered.getD_wd {ws vs : List Nat} (h : Ordered ws vs) (hW : ∀ x ∈ ws, Wd x) : ∀ x ∈ vs, Wd x := by
  obtain ⟨l1, s1, rfl⟩ := h
  intro x hx
  obtain ⟨y, hy, rfl⟩ := List.mem_map.1 hx
  have hy' := (s1.mv.perm.mem_iff).1 hy
  obtain ⟨k, hk, rfl⟩ := List.getElem_of_mem hy'
  simp only [tagged, List.getElem_zipIdx]
  exact hW _ (List.getElem_mem _)

theorem words_mem {w : World} {a : Option Addr} {len : Nat} {ws : List Nat} (h : WordsAt w a len ws) : ∀ x ∈ ws, Wd x := by
  intro x hx
  obtain ⟨k, hk, rfl⟩ := List.getElem_of_mem hx
  have := (h.2 k (by rw [← h.1]; exact hk)).1
  simpa [List.getD_eq_getElem?_getD, List.getElem?_eq_getElem hk] using this

set_option maxRecDepth 100000 in
set_option maxHeartbeats 8000000 in
theorem sorts_walk (a0 : Option Addr) (len cap : Nat) (zs : List Int) (w : World) (hr : IsRow .u64 w a0 len cap zs) :
    Calls Try.prog 8 #[.slice a0 len cap] w fun e w' => e = .returned (.bool true) ∧ Below w.heap.size w w' := by
  obtain ⟨i0, hi, hz0, hz1, hz2⟩ := info_parts infoF
  obtain ⟨hlc, hcm, hzl⟩ := hr.le
  unfold maxLen at hcm
  have hW := hr.words
  generalize (zs.take len).map Int.toNat = ws at hW
  clear hr hzl
  have hf := frombits_run
  have hb := bits_run
  by_cases hbig : 200 < len
  · have hbig' : (200 : Int) < (len : Int) := by omega
    go_enter Try.func8, Try.ntmps8
    go_wp2_with (go_at_call 13; refine (alive_any _).mono ?_; rintro e w' ⟨rfl, rfl⟩)
    go_ret
    exact ⟨rfl, Below.refl _ _⟩
  · have HW := Lib.hid hW
    clear hW
    go_enter Try.func8, Try.ntmps8
    go_wp2_with fail
    go_loopw [3, 15] (fun v i wr => ∃ k : Nat, k ≤ len ∧ i = .int .i64 k ∧ wr.ownsRow w.heap.size 23 1 v k (fwords (ws.take k)) ∧ Chg [] w wr) (fun _ i _ => len - (intOf i).toNat)
    case atStart => exact ⟨0, by omega, rfl, by simpa [fwords] using World.ownsRow_nil w w.heap.size 23 1, Chg.refl _ _⟩
    case round =>
      obtain ⟨k, hk, rfl, ho, hc⟩ := hrel
      by_cases hlt : k < len
      · obtain ⟨b1, b, off, rfl, hcell⟩ := (HW.out.chg hc).2 k hlt
        have HT := Lib.hid (take_words ws k (by rw [HW.out.1]; exact hlt))
        generalize ws.getD k 0 = b0 at *
        have hs := hc.size
        go_wp2_with (at_builtin; refine wpList_append_own _ rfl _ _ 35 rfl w.heap.size 23 i0 (.float .f64 0) 1 8 Try.underlying35 hi hz0 hz1 hz2 rfl (by decide) _ _ _ rfl (ho.alloc _) ⟨wr.heap.size, 0, none⟩ 1 1 [.float .f64 b0] rfl rfl (cellF_new _ _ _) (by simp [Value.oneCell']) (by unfold maxLen; omega) (by omega) (by simp; omega) (fun v' w3 hown3 hg3 _ => ?_))
        have hg : (wr.alloc (Obj.cells #[Value.float .f64 b0] 23)).grownBy w3 u3.ownBlock := hg3
        have C3 : Chg u3.ownBlock.toList wr w3 := ((Chg.refl [] wr).alloc _).trans (chgF_grown hg) (by simp) (fun y hy _ => hy)
        have B3 := fun k hk => (ho.lt k hk).1
        go_roundw
        case rel =>
          refine ⟨k + 1, by omega, by go_num, ?_, hc.trans C3 (by simp) (fun y hy hl => ?_)⟩
          · rw [HT.out]
            have e : fwords (ws.take k ++ [b0]) = fwords (ws.take k) ++ [Value.float .f64 b0] := by simp [fwords]
            rw [e]
            exact hown3
          · have := B3 y (by simpa [Option.mem_toList] using hy); omega
        case measure => simp [intOf]; omega
      · obtain rfl : k = len := by omega
        have HL : Hid (ws.length = k) := Lib.hid HW.out.1
        have hT : ws.take k = ws := List.take_of_length_le (by rw [HW.out.1]; exact Nat.le_refl _)
        rw [hT] at ho
        have hW := words_mem HW.out
        have HB := Lib.hid (ownsF_lower ho (Nat.zero_le w.heap.size))
        have hs := hc.size
        clear hT
        have ho0 : wr.ownsRow 0 23 1 u3 ws.length (fwords ws) := by rw [HL.out]; exact ownsF_lower ho (Nat.zero_le _)
        clear ho HB
        go_wp2_with fail
        refine (momSort_any u3 ws _ ho0 (by rw [HL.out]; omega) hW).mono ?_
        rintro e w1 ⟨rv1, vs1, rfl, C1, R1, O1⟩
        have ho1 := ownsF_chg ho0 C1 (by simp)
        have HR1 := Lib.hid R1
        have HO1 := Lib.hid O1
        have hc1 := hc.trans C1 (U := []) (by simp) (by simp)
        clear R1 O1 C1 ho0 hc
        go_wp2_with fail
        refine (refSort_any u3 ws _ ho1 (by rw [HL.out]; omega) hW).mono ?_
        rintro e w2 ⟨rv2, vs2, rfl, C2, R2, O2⟩
        have HE := Lib.hid (R2.one HR1.out)
        have O1 := ownsF_chg HO1.out C2 (by simp)
        rw [HE.out] at O2
        rw [HL.out] at O1 O2
        have hc2 := hc1.trans C2 (U := []) (by simp) (by simp)
        obtain ⟨ao1, c1, e1⟩ := slice_any O1
        obtain ⟨ao2, c2, e2⟩ := slice_any O2
        subst e1 e2
        have HO1' := Lib.hid O1
        have HO2' := Lib.hid O2
        clear O1 O2 R2 C2 hc1 ho1 HO1
        go_wp2_with (go_at_call 13; refine (alive_any _).mono ?_; rintro e w' ⟨rfl, rfl⟩)
        go_loopw [40] (fun i wx => ∃ q : Nat, q ≤ k ∧ i = .int .i64 q ∧ Chg [] w2 wx) (fun i _ => k - (intOf i).toNat)
        case atStart => exact ⟨0, by omega, rfl, Chg.refl _ _⟩
        case round =>
          obtain ⟨q, hq, rfl, cx⟩ := hrel
          by_cases hqt : q < k
          · obtain ⟨g1, c1', e1, d1⟩ := fword_at HO1'.out hqt
            obtain ⟨g2, c2', e2, d2⟩ := fword_at HO2'.out hqt
            injection e1 with e1 _ e1'
            injection e2 with e2 _ e2'
            subst e1 e2 e1' e2'
            have d1 := cx.cell d1 (by simp)
            have d2 := cx.cell d2 (by simp)
            generalize vs1.getD q 0 = t at *
            go_wp2_with fail
            go_quiet (fail)
            go_wp2_with fail
            go_roundw
            case rel => exact ⟨q + 1, by omega, by go_num, cx.drewN _⟩
            case measure => simp [intOf]; omega
          · go_wp2_with fail
            go_ret
            exact ⟨rfl, Chg.below (Below.refl _ _) (hc2.trans cx (U := []) (by simp) (by simp)) (by simp) (Nat.le_refl _)⟩
end Go.Proofs.Ytjjebeiomfdjeaa
