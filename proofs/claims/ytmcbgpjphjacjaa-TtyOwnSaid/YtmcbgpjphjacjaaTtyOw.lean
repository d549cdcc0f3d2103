/-
  TtyOwn: who changes bytes that were written, or effects that were told, changes no effect. The walk.
-/
import Derived.Test.YtmcbgpjphjacjaaTtyL
import Derived.Test.YtmcbgpjphjacjaaTtyD
import Derived.Test.YtmcbgpjphjacjaaTtyX
namespace Go.Proofs.Ytmcbgpjphjacjaa
set_option linter.unusedVariables false
set_option linter.unusedSimpArgs false
set_option maxRecDepth 100000
open Go.RowKit

def zPlan : PlanD := ⟨0, 0, 0, none, 0, 0, [], none, 0, 0, [], none, 0, 0, [], none, 0, 0, []⟩

theorem zPlan_at (w : World) : zPlan.At w := ⟨⟨rfl, fun h => absurd h (by unfold zPlan; simp)⟩, Nat.zero_le _, .inl ⟨rfl, rfl, rfl, rfl⟩, .inl ⟨rfl, rfl, rfl, rfl⟩, .inl ⟨rfl, rfl, rfl, rfl⟩⟩

theorem ChgO.owns {O : Nat → Prop} {w w' : World} {base : Nat} {e : TypeId} {v : Value} {n : Nat} {xs : List Value} (h : ChgO O w w') (hr : w.ownsRow base e 1 v n xs) (hn : ∀ k, v.ownBlock = some k → ¬ O k) : w'.ownsRow base e 1 v n xs := by
  obtain ⟨S, c, hS⟩ := h
  exact owns_keep hr c (fun k hk hm => hn k hk (hS k hm (hr.lt k hk).2))

theorem two_pl {E' : List EfD} {a b : EfD} (h : E'.map EfD.pl = [a, b].map EfD.pl) : ∃ y z, E' = [y, z] ∧ y.pl = a.pl ∧ z.pl = b.pl := by
  have hl : E'.length = 2 := by have := congrArg List.length h; simpa using this
  cases E' with
  | nil => simp at hl
  | cons y r =>
    cases r with
    | nil => simp at hl
    | cons z r =>
      cases r with
      | nil =>
        rw [List.map_cons, List.map_cons, List.map_cons, List.map_cons] at h
        injection h with h1 h2
        injection h2 with h2 _
        exact ⟨y, z, rfl, h1, h2⟩
      | cons _ _ => simp at hl

/-- A clone of two effects, in memory. -/
theorem eff_two {base : Nat} {w : World} {rv : Value} {a b : EfD} {E' : List EfD} (h : EffAt base w rv [a, b] E' 2) :
    ∃ g c y z, rv = .slice (some ⟨g, 0, none⟩) 2 c ∧ base ≤ g ∧ g < w.heap.size ∧ 2 ≤ c ∧ c ≤ maxLen ∧ y.pl = a.pl ∧ z.pl = b.pl ∧ OwnE base w g y ∧ OwnE base w g z ∧
      (∀ j u, (y.cells ++ z.cells)[j]? = some u → w.cell? ⟨g, j, none⟩ = some u) ∧ ∃ cur, w.heap[g]? = some (.cells cur 49 (0, 0)) := by
  obtain ⟨y, z, rfl, h1, h2⟩ := two_pl h.pl
  rcases h.row.2 with ⟨_, h0⟩ | ⟨g, c, cur, rfl, hb, hg, k1, k2, _, _⟩
  · simp at h0
  · refine ⟨g, c, y, z, rfl, hb, heap_lt hg, k1, k2, h1, h2, h.own 0 y (by omega) rfl g rfl, h.own 1 z (by omega) rfl g rfl, fun j u hu => ?_, cur, hg⟩
    have := h.row.cells (g := g) rfl j u (by rw [cellsF_cons, cellsF_cons]; simpa [cellsF] using hu)
    rwa [Addr.add_lit, Nat.zero_add] at this

set_option maxHeartbeats 16000000 in
theorem ttyOwn_walk (a : Option Addr) (n cap : Nat) (zs : List Int) (w : World) (hr : IsRow .u8 w a n cap zs) :
    Calls Try.prog 4 #[.slice a n cap] w fun e w' => e = .returned (.bool true) ∧ Below w.heap.size w w' := by
  obtain ⟨i0, hi, hz0, hz1, hz2⟩ := info_parts infoB
  have hle := hr.le
  unfold maxLen at hle
  have HS := Lib.hid hr.src
  have hbl : (zs.take n).length = n := by rw [List.length_take]; omega
  have HBL := Lib.hid hbl
  have HN := Lib.hid (tNew_any zPlan w (zPlan_at w) rfl (by unfold zPlan; simp) (by unfold zPlan; simp) (by unfold zPlan; simp) (by unfold zPlan; simp))
  clear hr hbl
  generalize zs.take n = bs at *
  go_enter Try.func4, Try.ntmps4
  go_wp2_with fail
  refine (HN.out).mono ?_
  rintro e w1 ⟨⟨bT, v, μ, Z, c, A, E⟩, rfl, T1, hz, h1, h2, h3⟩
  dsimp only at hz h1 h2 h3
  subst h3
  have hws : c.ws = [] ∧ c.wrote = 0 := by rw [h1]; exact ⟨rfl, rfl⟩
  have HT1 := Lib.hid T1
  have HWS := Lib.hid hws
  clear hz h1 h2 T1 HN hws
  go_wp2_with fail
  refine (talive_any _).mono ?_
  rintro e w2 ⟨rfl, C2⟩
  have HT2 := Lib.hid (HT1.out.chg0 C2)
  clear C2 HT1
  by_cases hbig : 1000 < n
  · have hb' : (1000 : Int) < (n : Int) := by omega
    go_wp2_with fail
    refine (talive_any _).mono ?_
    rintro e w3 ⟨rfl, C3⟩
    go_wp2_with fail
    go_ret
    exact ⟨rfl, Chg.below (Below.refl _ _) (HT2.out.W.c0.trans C3 (U := []) (by simp) (by simp)) (by simp) (Nat.le_refl _)⟩
  · have hb' : ¬ (1000 : Int) < (n : Int) := by omega
    have O0 : (w2.alloc (.cells #[] 5)).ownsRow w2.heap.size 5 1 (.slice (some ⟨w2.heap.size, 0, none⟩) 0 0) 0 [] := owns_empty w2 w2.heap.size 5 (Nat.le_refl _)
    have C0 : Chg [] w2 (w2.alloc (.cells #[] 5)) := (Chg.refl _ _).alloc _
    have S1 := Lib.hid (HS.out.chg0 (HT2.out.W.c0.trans C0 (U := []) (by simp) (by simp)))
    have hl := Lib.hid (show (valsOf .u8 bs).length = n * 1 by rw [valsOf_length, HBL.out]; omega)
    have HC0 := Lib.hid C0
    have HO0 := Lib.hid O0
    clear O0 C0
    go_wp2_with (at_builtin; refine wpList_append_src rfl (.tmp 31) (.tmp 32) 42 rfl w2.heap.size 5 i0 (.int .u8 0) 1 1 Try.underlying42 hi hz0 hz1 hz2 rfl (by decide) _ 0 [] (by rfl) HO0.out a n cap (valsOf .u8 bs) (by rfl) hl.out S1.out.2.1 S1.out.2.2 (oneCell_vals _ bs) (by unfold maxLen; omega) (by omega) HC0.out.size (fun v6 w6 O6 C6 _ => ?_); have D6 : Chg [] w2 w6 := HC0.out.trans C6 (by simp) (by simp [Value.ownBlock]); rw [List.nil_append, Nat.zero_add] at O6; obtain ⟨ao, co, rfl, _, _⟩ := owns_srcAt O6; have H6 := Lib.hid O6; have HD6 := Lib.hid D6; clear O6 C6 D6)
    have HT6 := Lib.hid (HT2.out.chg0 HD6.out)
    have hown : ∀ k, (Value.slice ao n co).ownBlock = some k → ¬ Tt.own ⟨bT, v, μ, Z, c, A, []⟩ k := fun k hk ho => by
      have h1 := (H6.out.lt k hk).1
      have h2 := (HT2.out.own_lt k ho).2
      omega
    obtain ⟨ao', co', e6, S6, hbk⟩ := owns_srcAt H6.out
    injection e6 with e61 _ e62
    subst e61 e62
    have HOW := Lib.hid hown
    have hblk : ∀ k, ao.map (·.block) = some k → (Value.slice ao n co).ownBlock = some k := fun k hk => by
      obtain ⟨ad, e, rfl⟩ := Option.map_eq_some_iff.1 hk
      exact hbk ad e
    refine (tWrite_any w w6 ⟨bT, v, μ, Z, c, A, []⟩ ao n co bs HT6.out S6 (fun k hk => Classical.byContradiction fun h => hown k (hblk k hk) (.inl h)) (by omega) (by show c.wrote ≤ _; have := HWS.out.2; omega) (by show 0 ≤ _; omega)).mono ?_
    rintro e w7 ⟨rfl, v7, a7, c7, G7, hnew⟩
    have HG7 := Lib.hid G7
    have HB7 := Lib.hid hnew
    clear G7 hnew hown S6 hbk hblk
    have hwr : wrB c.ws c.wrote = true ∧ wrN c.ws c.wrote bs.length = n := by
      rw [HWS.out.1, HWS.out.2, HBL.out]
      exact ⟨rfl, by unfold wrN; simp⟩
    dsimp only at HG7 HB7 ⊢
    rw [hwr.1, hwr.2]
    have HWR := Lib.hid hwr
    clear hwr
    go_wp2_with fail
    refine (tRemember_any w w7 _ HG7.out.is (by simp)).mono ?_
    rintro e w8 ⟨rfl, v8, G8⟩
    dsimp only at G8
    have HG8 := Lib.hid (HG7.out.trans G8)
    clear G8
    obtain ⟨y1, hy1⟩ : ∃ y1, y1 = WrE ⟨bT, v, μ, Z, c, A, []⟩ a7 c7 bs := ⟨_, rfl⟩
    have hE : ([] : List EfD) ++ [WrE ⟨bT, v, μ, Z, c, A, []⟩ a7 c7 bs] ++ [ef0 6 at0 0 false] = [y1, ef0 6 at0 0 false] := by rw [hy1]; rfl
    rw [hE] at HG8
    have hpl1 : y1.zs = bs ∧ y1.n = n ∧ y1.ok = true := by rw [hy1]; exact ⟨rfl, HWR.out.2, HWR.out.1⟩
    have HP1 := Lib.hid hpl1
    clear hE hy1 hpl1 HG7 HB7
    generalize ({ c with wrote := c.wrote + 1 } : Wc) = c8 at *
    have HR8 := Lib.hid (HG8.out.c.owns H6.out HOW.out)
    have HF8 := Lib.hid (show ∀ k, (Value.slice ao n co).ownBlock = some k → ¬ Tt.own ⟨bT, v8, μ, Z, c8, A, [y1, ef0 6 at0 0 false]⟩ k ∧ w.heap.size ≤ k from fun k hk => ⟨HG8.out.free (H6.out.lt k hk).2 (HOW.out k hk), Nat.le_trans HT2.out.W.c0.size (H6.out.lt k hk).1⟩)
    have HI8 := Lib.hid HG8.out.is
    go_wp2_with fail
    go_loopw [41] (fun iv wr => ∃ i : Nat, i ≤ n ∧ iv = .int .i64 i ∧ Flip wr ao n ∧ TtIs w wr ⟨bT, v8, μ, Z, c8, A, [y1, ef0 6 at0 0 false]⟩) (fun iv _ => n - (intOf iv).toNat)
    case atStart => exact ⟨0, Nat.zero_le _, rfl, Flip.of_owns HR8.out, HI8.out⟩
    case round =>
      obtain ⟨i, hi2, rfl, hF, hT⟩ := hrel
      by_cases hlt : i < n
      · obtain ⟨g, y, rfl, hy, hfr, hst⟩ := hF.get hlt
        have HST := Lib.hid hst
        have HT := Lib.hid hT
        have hf0 := hfr i
        clear hst hF hT hfr
        go_wp2_with fail
        go_roundw
        case rel => exact ⟨i + 1, by omega, by go_num, HST.out _, HT.out.chg (S := [g]) ((Chg.refl [g] wr).setCell (p := ⟨g, i, none⟩) (Or.inl List.mem_cons_self) _) (fun x hx => by rw [List.mem_singleton.1 hx]; exact HF8.out g rfl)⟩
        case measure => simp [intOf]; omega
      · have HT := Lib.hid hT
        obtain ⟨w9, rfl⟩ : ∃ wo : World, wo = wr := ⟨_, rfl⟩
        clear hF hT
        go_wp2_with fail
        refine (tEffects_any w w9 _ HT.out (by simp)).mono ?_
        rintro e w10 ⟨rv, E', rfl, C10, X10⟩
        obtain ⟨g, cg, y2, z2, rfl, hg1, hg2, hg3, hg4, p1, p2, o1, o2, hcell, cur, hh⟩ := eff_two X10
        have HX := Lib.hid (And.intro hg1 (And.intro hg2 (And.intro hcell hh)))
        have HO1 := Lib.hid o1
        have HP2 := Lib.hid p1
        have HC10 := Lib.hid C10
        have hzl : y2.zs.length = n := by
          have : y2.zs = y1.zs := congrArg (fun q => q.2.2.2.2.1) p1
          rw [this, HP1.out.1, HBL.out]
        obtain ⟨da, hda⟩ : ∃ da, da = y2.ao := ⟨_, rfl⟩
        have r4 : w10.cell? ⟨g, 4, none⟩ = some (.slice da n y2.cap) := by rw [hda, ← hzl]; exact hcell 4 _ rfl
        have r7 : w10.cell? ⟨g, 7, none⟩ = some (.int .i64 z2.kind) := hcell 7 _ rfl
        have hg4' : cg ≤ 9223372036854775807 := by unfold maxLen at hg4; omega
        have hFl : Flip w10 da n := by rw [hda, ← hzl]; exact Flip.of_owns o1.row
        have HFl := Lib.hid hFl
        have HDA := Lib.hid (show ∀ k, da.map (·.block) = some k → k ≠ g ∧ w9.heap.size ≤ k from fun k hk => by
          rw [hda] at hk
          exact ⟨o1.ne k hk, (o1.row.lt k (by rw [o1.blk_own]; exact hk)).1⟩)
        have HR := Lib.hid (And.intro r4 r7)
        clear C10 X10 hg1 hg2 hg4 p1 p2 o1 o2 hcell hh hzl hda hFl r7
        generalize y2.cap = dc at *
        go_wp2_with fail
        go_loopw [61] (fun iv wr => ∃ i : Nat, i ≤ n ∧ iv = .int .i64 i ∧ Flip wr da n ∧ Chg (da.map (·.block)).toList w10 wr) (fun iv _ => n - (intOf iv).toNat)
        case atStart => exact ⟨0, Nat.zero_le _, rfl, HFl.out, Chg.refl _ _⟩
        case round =>
          obtain ⟨i2, hi3, rfl, hF, hC⟩ := hrel
          have hgb : g ∉ (da.map (·.block)).toList := fun hm => (HDA.out g (by simpa [Option.mem_toList] using hm)).1 rfl
          have q4 := hC.cell HR.out.1 hgb
          by_cases hlt2 : i2 < n
          · obtain ⟨g3, y, rfl, hy, hfr, hst⟩ := hF.get hlt2
            have HST := Lib.hid hst
            have HC := Lib.hid hC
            have hf0 := hfr i2
            clear hst hF hC hfr hgb r4
            go_wp2_with fail
            go_roundw
            case rel => exact ⟨i2 + 1, by omega, by go_num, HST.out _, HC.out.setCell (p := ⟨g3, i2, none⟩) (Or.inl (by simp)) _⟩
            case measure => simp [intOf]; omega
          · have q7 := hC.cell HR.out.2 hgb
            have hf7 : wr.frozen? ⟨g, 7, none⟩ = false := free_of_heap (hC.heap HX.out.2.2.2 hgb) 7
            obtain ⟨w11, rfl⟩ : ∃ wo : World, wo = wr := ⟨_, rfl⟩
            have cW : Chg [g] w11 (w11.setCell ⟨g, 7, none⟩ (.int .i64 5)) := (Chg.refl [g] w11).setCell (p := ⟨g, 7, none⟩) (Or.inl List.mem_cons_self) _
            have TW := (HT.out.chg0 HC10.out).chg (hC.trans cW (U := (da.map (·.block)).toList ++ [g]) (fun x hx => List.mem_append_left _ hx) (fun x hx _ => List.mem_append_right _ hx)) (fun x hx => by
              have hge : w9.heap.size ≤ x := by
                rcases List.mem_append.1 hx with h | h
                · exact (HDA.out x (by simpa [Option.mem_toList] using h)).2
                · rw [List.mem_singleton.1 h]; exact HX.out.1
              exact ⟨fun ho => by have := (HT.out.own_lt x ho).2; omega, Nat.le_trans HT.out.W.c0.size hge⟩)
            have HTW := Lib.hid TW
            clear hC hF hgb cW TW r4
            go_wp2_with fail
            refine (tEffects_any w _ _ HTW.out (by simp)).mono ?_
            rintro e w12 ⟨rv2, E2, rfl, C12, X12⟩
            obtain ⟨g2, cg2, y3, z3, rfl, _, _, hc1, hc2, p3, p4, o3, _, hcell, _⟩ := eff_two X12
            have e1 : y3.zs = bs := by
              have : y3.zs = y1.zs := congrArg (fun q => q.2.2.2.2.1) p3
              rw [this, HP1.out.1]
            have e2 : y3.n = n := by
              have : y3.n = y1.n := congrArg (fun q => q.2.2.2.2.2.1) p3
              rw [this, HP1.out.2.1]
            have e3 : y3.ok = true := by
              have : y3.ok = y1.ok := congrArg (fun q => q.2.2.2.2.2.2) p3
              rw [this, HP1.out.2.2]
            have e4 : z3.kind = 6 := congrArg (fun q => q.1) p4
            have s4 : w12.cell? ⟨g2, 4, none⟩ = some (.slice y3.ao n y3.cap) := by
              have := hcell 4 _ rfl
              rw [this, e1, HBL.out]
            have s5 : w12.cell? ⟨g2, 5, none⟩ = some (.int .i64 n) := by rw [hcell 5 _ rfl, e2]
            have s6 : w12.cell? ⟨g2, 6, none⟩ = some (.bool true) := by rw [hcell 6 _ rfl, e3]
            have s7 : w12.cell? ⟨g2, 7, none⟩ = some (.int .i64 6) := by rw [hcell 7 _ rfl, e4]
            have C12w := HTW.out.W.c0.trans C12 (U := []) (by simp) (by simp)
            have o3s := o3.src
            rw [e1, HBL.out] at o3s
            have cv1 : ∀ m, _ := fun m => tconv_at (o3s.chg0 ((Chg.refl [] w12).drewN m))
            have cv2 : ∀ m, _ := fun m => tconv_at (HS.out.chg0 (C12w.drewN m))
            have HC12 := Lib.hid C12w
            unfold maxLen at hc2
            clear C12 X12 p3 p4 o3 o3s hcell e1 e2 e3 e4 C12w q4 q7 hf7
            generalize strOfNums bs = sb at *
            go_wp2_with fail
            go_quiet (fail)
            go_wp2_with fail
            go_ret
            exact ⟨rfl, Chg.below (Below.refl _ _) (HC12.out.drewN _) (by simp) (Nat.le_refl _)⟩
end Go.Proofs.Ytmcbgpjphjacjaa
