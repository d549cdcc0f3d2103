/-
  Layer 17's reference: the contracts of Write, Read, New.
-/
import Derived.Test.YtmcbgpjphjacjaaTtyZ
import Derived.Test.YtmcbgpjphjacjaaRfN
import Derived.Test.YtmcbgpjphjacjaaWldTi
namespace Go.Proofs.Ytmcbgpjphjacjaa
set_option linter.unusedVariables false
set_option linter.unusedSimpArgs false
set_option maxRecDepth 100000
open Go.RowKit

def RWrPost (w0 : World) (p : PlanD) (ρ : Rt) (zs : List Int) (w : World) (e : Ending) (w' : World) : Prop :=
  e = .returned (.tuple #[.int .i64 (if wrB (p.ws.take p.wl) ρ.a = true then wrN (p.ws.take p.wl) ρ.a zs.length else 0), .int .i64 (if wrB (p.ws.take p.wl) ρ.a = true then 0 else 5)]) ∧ ∃ v' ao cap, RtGo w0 w p ρ { ρ with v := v', a := ρ.a + 1, E := ρ.E ++ [⟨2, at0, ao, cap, zs, wrN (p.ws.take p.wl) ρ.a zs.length, wrB (p.ws.take p.wl) ρ.a⟩] } w'

set_option maxHeartbeats 4000000 in
theorem rtWrite_any (w0 w : World) (p : PlanD) (ρ : Rt) (ao : Option Addr) (n c : Nat) (zs : List Int) (h : RtIs w0 w p ρ) (hs : SrcAt w ao n c (valsOf .u8 zs)) (ho : 0 < n → ∀ k, ao.map (·.block) = some k → k < w0.heap.size) (hz : n ≤ 1000000) (hc : ρ.a ≤ 1000000) (hl : p.wl ≤ 1000000) (hn : ρ.E.length ≤ 1000000) :
    Calls Try.prog 28 #[.pointer (some ⟨ρ.bR, 0, none⟩), .slice ao n c] w (RWrPost w0 p ρ zs w) := by
  obtain ⟨t0, t1, t2, t3, t4⟩ := h.c3
  obtain ⟨i0, hi, hz0, hz1, hz2⟩ := info_parts infoB
  have HH := Lib.hid h
  have HS := Lib.hid hs
  have HO := Lib.hid ho
  have hzl : zs.length = n := by have := hs.1; rwa [valsOf_length] at this
  have HL := Lib.hid hzl
  clear h hs ho t0 t1 t2 t4 hzl
  go_enter Try.func28, Try.ntmps28
  go_wp2_with fail
  refine (rWrite_any w0 _ ρ.bM ρ.u ρ.L p ρ.a ρ.b ρ.d n HH.out.W hc hl).mono ?_
  rintro e w2 ⟨rfl, F2, O2⟩
  have G2 := Lib.hid (RtGo.of_rf HH.out F2 O2 (fun j hj => .inl hj))
  have S2 : SrcAt w2 ao n c (valsOf .u8 zs) := by
    by_cases h0 : 0 < n
    · exact HS.out.chg F2 (fun ad e hm => by have := HO.out h0 ad.block (by rw [e]; rfl); have := HH.out.W.b1; have := List.mem_singleton.1 hm; omega)
    · obtain rfl : zs = [] := List.eq_nil_of_length_eq_zero (by rw [HL.out]; omega)
      exact ⟨HS.out.1, HS.out.2.1, fun ad e j u hu => by simp [valsOf] at hu⟩
  obtain ⟨ok, hok⟩ : ∃ ok, ok = wrB (p.ws.take p.wl) ρ.a := ⟨_, rfl⟩
  obtain ⟨m, hm⟩ : ∃ m, m = wrN (p.ws.take p.wl) ρ.a n := ⟨_, rfl⟩
  have HOK := Lib.hid (And.intro hok hm)
  rw [← hok, ← hm]
  have C0 : Chg [] w2 (w2.alloc (.cells #[] 5)) := (Chg.refl _ _).alloc _
  have O0 : (w2.alloc (.cells #[] 5)).ownsRow w2.heap.size 5 1 (.slice (some ⟨w2.heap.size, 0, none⟩) 0 0) 0 [] := owns_empty w2 w2.heap.size 5 (Nat.le_refl _)
  have HS1 := Lib.hid (S2.chg0 C0)
  have HO0 := Lib.hid O0
  have HC0 := Lib.hid C0
  have hl1 := Lib.hid (show (valsOf .u8 zs).length = n * 1 by rw [valsOf_length, HL.out]; omega)
  clear F2 O2 t3 hok hm S2 C0 O0
  go_wp2_with (at_builtin; refine wpList_append_src rfl (.tmp 19) (.tmp 20) 42 rfl w2.heap.size 5 i0 (.int .u8 0) 1 1 Try.underlying42 hi hz0 hz1 hz2 rfl (by decide) _ 0 [] (by rfl) HO0.out ao n c (valsOf .u8 zs) (by rfl) hl1.out HS1.out.2.1 HS1.out.2.2 (oneCell_vals _ zs) (by unfold maxLen; omega) (by omega) HC0.out.size (fun v6 w6 O6 C6 _ => ?_); have D6 : Chg [] w2 w6 := HC0.out.trans C6 (by simp) (by simp [Value.ownBlock]); rw [List.nil_append, Nat.zero_add] at O6; obtain ⟨ab, cb, rfl, _, _⟩ := owns_srcAt O6; have H6 := Lib.hid O6; have HD6 := Lib.hid D6; clear O6 C6 D6)
  have G3 := G2.out.chg0 HD6.out
  have hsz := G2.out.c.size
  have HY : Hid (DatR w0 w6 { ρ with u := ρ.u, L := ρ.L, a := ρ.a + 1, b := ρ.b, d := ρ.d } (⟨2, at0, ab, cb, zs, m, ok⟩ : EfD)) := Lib.hid (by
    obtain ⟨ao', co', e6, S6, hbk⟩ := owns_srcAt H6.out
    injection e6 with e61 _ e62
    subst e61 e62
    refine ⟨?_, by rw [HL.out]; exact hz, fun k hk => ?_⟩
    · show SrcAt w6 ab zs.length cb _
      rw [HL.out]; exact S6
    · obtain ⟨ad, e, rfl⟩ := Option.map_eq_some_iff.1 hk
      have h2 := H6.out.lt _ (hbk ad e)
      have hnot : ¬ Rt.own ρ ad.block := fun ho => by have := (HH.out.own_lt _ ho).2; omega
      exact ⟨fun e => hnot (.inr (.inl e)), fun e => hnot (.inr (.inr (.inl e))), fun e => hnot (.inl e), by have := HH.out.W.c0.size; omega, h2.2⟩)
  have HYB : Hid (∀ k, (⟨2, at0, ab, cb, zs, m, ok⟩ : EfD).blk = some k → w.heap.size ≤ k) := Lib.hid (fun k hk => by
    obtain ⟨ao', co', e6, S6, hbk⟩ := owns_srcAt H6.out
    injection e6 with e61 _ e62
    subst e61 e62
    obtain ⟨ad, e, rfl⟩ := Option.map_eq_some_iff.1 hk
    have := H6.out.lt _ (hbk ad e)
    omega)
  have HG3 := Lib.hid G3
  clear G3 hsz
  have hnote := rnote_go w0 _ w6 p ρ _ (⟨2, at0, ab, cb, zs, m, ok⟩ : EfD) HG3.out HY.out HYB.out hn
  unfold EfD.cells at hnote
  dsimp only at hnote
  rw [HL.out] at hnote
  refine hnote.mono ?_
  rintro e w4 ⟨rfl, v4, G4⟩
  have HG4 := Lib.hid G4
  clear G4 hnote
  cases ok with
  | false =>
    go_wp2_with fail
    go_ret2
    refine ⟨by rw [← HOK.out.1]; rfl, v4, ab, cb, ?_⟩
    rw [HL.out, ← HOK.out.1, ← HOK.out.2]
    exact HG4.out
  | true =>
    go_wp2_with fail
    go_ret2
    refine ⟨by rw [← HOK.out.1, HL.out, ← HOK.out.2]; rfl, v4, ab, cb, ?_⟩
    rw [HL.out, ← HOK.out.1, ← HOK.out.2]
    exact HG4.out

set_option maxHeartbeats 4000000 in
theorem rtRead_none (w0 w : World) (p : PlanD) (ρ : Rt) (h : RtIs w0 w p ρ) (hL : ρ.L = []) (hn : ρ.E.length ≤ 1000000) :
    Calls Try.prog 29 #[.pointer (some ⟨ρ.bR, 0, none⟩)] w fun e w' => e = .returned (.tuple #[.int .i64 0, .int .i64 0, .slice none 0 0, .int .i64 6]) ∧ ∃ v', RtGo w0 w p ρ { ρ with v := v', E := ρ.E ++ [ef0 5 at0 0 false] } w' := by
  obtain ⟨t0, t1, t2, t3, t4⟩ := h.c3
  have hW := h.W
  rw [hL] at hW
  have HW := Lib.hid hW
  have HH := Lib.hid h
  clear h t0 t1 t2 t4 hW hL
  go_enter Try.func29, Try.ntmps29
  go_wp2_with fail
  refine (rNext_none w0 w ρ.bM ρ.u p ρ.a ρ.b ρ.d 64 HW.out (by omega)).mono ?_
  rintro e w2 ⟨rfl, rfl⟩
  go_wp2_with fail
  refine (rnote_go w0 _ w p ρ _ (ef0 5 at0 0 false) (RtGo.refl HH.out) (datR0 _ _ _ _) (fun k hk => by cases hk) hn).mono ?_
  rintro e w3 ⟨rfl, v3, G3⟩
  go_wp2_with fail
  exact ⟨rfl, _, by simp [results, Try.results29, go_sem] <;> rfl, rfl, v3, G3⟩

set_option maxHeartbeats 4000000 in
theorem rtRead_sig (w0 w : World) (p : PlanD) (ρ : Rt) (x : ItD) (L : List ItD) (h : RtIs w0 w p ρ) (hL : ρ.L = x :: L) (hx : x.kind = 1) (hn : ρ.E.length ≤ 1000000) :
    Calls Try.prog 29 #[.pointer (some ⟨ρ.bR, 0, none⟩)] w fun e w' => e = .returned (.tuple #[.int .i64 1, .int .i64 x.n, .slice none 0 0, .int .i64 0]) ∧ ∃ v' u', RtGo w0 w p ρ { ρ with v := v', u := u', L := L, E := ρ.E ++ [ef0 4 at0 x.n false] } w' ∧ (∀ j, u'.ownBlock = some j → ρ.u.ownBlock = some j) := by
  obtain ⟨t0, t1, t2, t3, t4⟩ := h.c3
  have hW := h.W
  rw [hL] at hW
  have HW := Lib.hid hW
  have HH := Lib.hid h
  have HX := Lib.hid hx
  clear h t0 t1 t2 t4 hW hL hx
  go_enter Try.func29, Try.ntmps29
  go_wp2_with fail
  refine (rNext_far w0 w ρ.bM ρ.u x L p ρ.a ρ.b ρ.d 64 HW.out (by omega) (by rw [HX.out]; decide)).mono ?_
  rintro e w2 ⟨rfl, F2, u', O2, hu⟩
  have G2 := Lib.hid (RtGo.of_rf HH.out F2 O2 (fun j hj => .inl (by rw [← hu]; exact hj)))
  have HU := Lib.hid hu
  rw [HX.out]
  clear F2 O2 t3 hu
  go_wp2_with fail
  refine (rnote_go w0 _ w2 p ρ _ (ef0 4 at0 x.n false) G2.out (datR0 _ _ _ _) (fun k hk => by cases hk) hn).mono ?_
  rintro e w3 ⟨rfl, v3, G3⟩
  have HE := Lib.hid G3
  clear G3
  go_wp2_with fail
  exact ⟨rfl, _, by simp [results, Try.results29, go_sem] <;> rfl, rfl, v3, u', HE.out, fun j hj => by rw [← HU.out]; exact hj⟩

set_option maxHeartbeats 4000000 in
theorem rtRead_fault (w0 w : World) (p : PlanD) (ρ : Rt) (x : ItD) (L : List ItD) (h : RtIs w0 w p ρ) (hL : ρ.L = x :: L) (hx : x.kind = 2) (hn : ρ.E.length ≤ 1000000) :
    Calls Try.prog 29 #[.pointer (some ⟨ρ.bR, 0, none⟩)] w fun e w' => e = .returned (.tuple #[.int .i64 2, .int .i64 0, .slice none 0 0, .int .i64 5]) ∧ ∃ v' u', RtGo w0 w p ρ { ρ with v := v', u := u', L := L, E := ρ.E ++ [ef0 3 at0 0 false] } w' ∧ (∀ j, u'.ownBlock = some j → ρ.u.ownBlock = some j) := by
  obtain ⟨t0, t1, t2, t3, t4⟩ := h.c3
  have hW := h.W
  rw [hL] at hW
  have HW := Lib.hid hW
  have HH := Lib.hid h
  have HX := Lib.hid hx
  clear h t0 t1 t2 t4 hW hL hx
  go_enter Try.func29, Try.ntmps29
  go_wp2_with fail
  refine (rNext_far w0 w ρ.bM ρ.u x L p ρ.a ρ.b ρ.d 64 HW.out (by omega) (by rw [HX.out]; decide)).mono ?_
  rintro e w2 ⟨rfl, F2, u', O2, hu⟩
  have G2 := Lib.hid (RtGo.of_rf HH.out F2 O2 (fun j hj => .inl (by rw [← hu]; exact hj)))
  have HU := Lib.hid hu
  rw [HX.out]
  clear F2 O2 t3 hu
  go_wp2_with fail
  refine (rnote_go w0 _ w2 p ρ _ (ef0 3 at0 0 false) G2.out (datR0 _ _ _ _) (fun k hk => by cases hk) hn).mono ?_
  rintro e w3 ⟨rfl, v3, G3⟩
  have HE := Lib.hid G3
  clear G3
  go_wp2_with fail
  exact ⟨rfl, _, by simp [results, Try.results29, go_sem] <;> rfl, rfl, v3, u', HE.out, fun j hj => by rw [← HU.out]; exact hj⟩

def RRdPost (w0 : World) (p : PlanD) (ρ : Rt) (x : ItD) (L : List ItD) (k : Nat) (w : World) (e : Ending) (w' : World) : Prop :=
  ∃ ao co, e = .returned (.tuple #[.int .i64 0, .int .i64 (k : Nat), .slice ao k co, .int .i64 0]) ∧ SrcAt w' ao k co (valsOf .u8 (x.zs.take k)) ∧
    ∃ v' u', RtGo w0 w p ρ { ρ with v := v', u := u', L := if k = x.m then L else x.cut k :: L, E := ρ.E ++ [ef0 3 at0 (k : Nat) true] } w' ∧ (∀ j, u'.ownBlock = some j → w.heap.size ≤ j)

set_option maxHeartbeats 4000000 in
theorem rtRead_dat (w0 w : World) (p : PlanD) (ρ : Rt) (x : ItD) (L : List ItD) (k : Nat) (h : RtIs w0 w p ρ) (hL : ρ.L = x :: L) (hx : x.kind = 0) (hxm : 0 < x.m) (hxm2 : x.m ≤ 1000000) (hLL : L.length ≤ 1000000) (hk : k = min 64 x.m) (hn : ρ.E.length ≤ 1000000) :
    Calls Try.prog 29 #[.pointer (some ⟨ρ.bR, 0, none⟩)] w (RRdPost w0 p ρ x L k w) := by
  obtain ⟨t0, t1, t2, t3, t4⟩ := h.c3
  have hW := h.W
  rw [hL] at hW
  have HW := Lib.hid hW
  have HH := Lib.hid h
  have HX := Lib.hid (And.intro hx (And.intro hxm (And.intro hxm2 (And.intro hLL hk))))
  clear h t0 t1 t2 t4 hW hL hx hxm hxm2 hLL hk
  go_enter Try.func29, Try.ntmps29
  go_wp2_with fail
  refine (rNext_dat w0 w ρ.bM ρ.u x L p ρ.a ρ.b ρ.d 64 k HW.out (by omega) HX.out.1 HX.out.2.1 HX.out.2.2.1 HX.out.2.2.2.1 (by have := HX.out.2.2.2.2; omega)).mono ?_
  rintro e w2 ⟨rv, rfl, F2, R2, ne2, u', O2, hn2, hu⟩
  have G2 := Lib.hid (RtGo.of_rf HH.out F2 O2 (fun j hj => .inr (hu j hj)))
  obtain ⟨ao, co, rfl, S2, hbk⟩ := owns_srcAt R2
  have HRV : Hid (∀ j, (Value.slice ao k co).ownBlock = some j → ¬ Rt.own { ρ with u := u', L := if k = x.m then L else x.cut k :: L, a := ρ.a, b := ρ.b, d := ρ.d } j ∧ j < w2.heap.size) := Lib.hid (fun j hj => by
    have h1 := R2.lt j hj
    refine ⟨fun ho => ?_, h1.2⟩
    have hnot : ∀ q, Rt.own ρ q → q ≠ j := fun q hq e => by have := (HH.out.own_lt q hq).2; omega
    rcases ho with (e | e) | e | e | e
    · exact ne2 (by rw [hj, e])
    · exact hn2 (by rw [hj]; exact e)
    · exact hnot j (.inr (.inl e)) rfl
    · exact hnot j (.inr (.inr (.inl e))) rfl
    · exact hnot j (.inr (.inr (.inr e))) rfl)
  have HR2 := Lib.hid R2
  have HU := Lib.hid hu
  clear F2 O2 t3 hu R2 ne2 hn2 S2 hbk
  generalize hL2 : (if k = x.m then L else x.cut k :: L) = L2 at *
  have HL2 := Lib.hid hL2
  clear hL2
  go_wp2_with fail
  refine (rnote_go w0 w2 w2 p _ _ (ef0 3 at0 (k : Nat) true) (RtGo.refl G2.out.is) (datR0 _ _ _ _) (fun k hk => by cases hk) hn).mono ?_
  rintro e w3 ⟨rfl, v3, G3⟩
  have hS3 : SrcAt w3 ao k co (valsOf .u8 (x.zs.take k)) := by
    obtain ⟨S, c, hS⟩ := G3.c
    obtain ⟨ao', co', e6, S6, _⟩ := owns_srcAt (owns_keep HR2.out c (fun j hj hm => (HRV.out j hj).1 (hS j hm (HRV.out j hj).2)))
    injection e6 with e61 _ e62
    subst e61 e62
    exact S6
  have HS3 := Lib.hid hS3
  have HE := Lib.hid (G2.out.trans G3)
  clear G3 hS3
  go_wp2_with fail
  refine ⟨rfl, _, by simp [results, Try.results29, go_sem] <;> rfl, ?_⟩
  refine ⟨ao, co, rfl, HS3.out, v3, u', ?_, HU.out⟩
  rw [HL2.out]
  exact HE.out

def RtNewPost (p : PlanD) (w : World) (e : Ending) (w' : World) : Prop :=
  ∃ ρ : Rt, e = .returned (.pointer (some ⟨ρ.bR, 0, none⟩)) ∧ RtIs w w' p ρ ∧ ρ.L = ordL p.its p.il ∧ (ρ.a = 0 ∧ ρ.b = 0 ∧ ρ.d = 0) ∧ ρ.A = ⟨p.fl, p.mn, p.tm⟩ ∧ ρ.E = []

theorem rtNew_mk {w w1 w2 : World} {p : PlanD} {bM : Nat} {u : Value} {L : List ItD} (hp : p.At w) (hd : ∀ y ∈ L, BRow w y.ao y.m y.cap y.zs ∧ Wd y.b) (k : Chg [] w w1) (O : OwnRf w1 w2 bM u L p 0 0 0) :
    RtIs w (w2.alloc (.cells #[.int .u32 p.fl, .int .u8 p.mn, .int .u8 p.tm, .pointer (some ⟨bM, 0, none⟩), .slice none 0 0] 78)) p ⟨w2.heap.size, .slice none 0 0, bM, u, L, 0, 0, 0, ⟨p.fl, p.mn, p.tm⟩, []⟩ := by
  have O' := (O.base k hp hd).chg0 ((Chg.refl [] w2).alloc (.cells #[.int .u32 p.fl, .int .u8 p.mn, .int .u8 p.tm, .pointer (some ⟨bM, 0, none⟩), .slice none 0 0] 78))
  refine ⟨O', alloc_heap w2 _, HasRow.nil _ _ _, by simp [Value.ownBlock], ?_, by simp [Value.ownBlock], Nat.le_trans k.size O.c0.size, by simp [Value.ownBlock], by simp⟩
  rintro (e | e)
  · have h1 := heap_lt O.hM
    have h2 : w2.heap.size = bM := e
    omega
  · have h1 := O.row.lt _ e
    have h2 : w2.heap.size < w2.heap.size := h1
    omega

set_option maxHeartbeats 8000000 in
theorem rtNew_any (p : PlanD) (w : World) (h : p.At w) (hil : p.il ≤ 4096) :
    Calls Try.prog 25 #[.agg p.cells] w (RtNewPost p w) := by
  have CB : Chg [] w (w.alloc (.cells p.cells 28)) := (Chg.refl _ _).alloc _
  have hB := alloc_heap w (.cells p.cells 28)
  have HP := Lib.hid h
  have HB := Lib.hid hB
  have hcs : p.cells = #[.int .u32 p.fl, .int .u8 p.mn, .int .u8 p.tm, .slice p.ia p.il p.ic, .slice p.wa p.wl p.wc, .slice p.ga p.gl p.gc, .slice p.sa p.sl p.sc] := rfl
  rw [hcs] at CB HB ⊢
  have HCB := Lib.hid CB
  clear hcs hB CB h
  go_enter Try.func25, Try.ntmps25
  go_upto_region 1 with (fail)
  generalize w.alloc _ = w1 at *
  obtain ⟨bP, hbP⟩ : ∃ bP, bP = w.heap.size := ⟨_, rfl⟩
  rw [← hbP] at HB ⊢
  clear hbP
  have p0 : w1.cell? ⟨bP, 0, none⟩ = some (.int .u32 p.fl) := by rw [cell_of_heap HB.out]; rfl
  have p1 : w1.cell? ⟨bP, 1, none⟩ = some (.int .u8 p.mn) := by rw [cell_of_heap HB.out]; rfl
  have p2 : w1.cell? ⟨bP, 2, none⟩ = some (.int .u8 p.tm) := by rw [cell_of_heap HB.out]; rfl
  have p3 : w1.cell? ⟨bP, 3, none⟩ = some (.slice p.ia p.il p.ic) := by rw [cell_of_heap HB.out]; rfl
  have p4 : w1.cell? ⟨bP, 4, none⟩ = some (.slice p.wa p.wl p.wc) := by rw [cell_of_heap HB.out]; rfl
  have p5 : w1.cell? ⟨bP, 5, none⟩ = some (.slice p.ga p.gl p.gc) := by rw [cell_of_heap HB.out]; rfl
  have p6 : w1.cell? ⟨bP, 6, none⟩ = some (.slice p.sa p.sl p.sc) := by rw [cell_of_heap HB.out]; rfl
  have HN := Lib.hid (show ∀ W, Chg [] w1 W → Calls Try.prog 44 #[.agg #[.int .u32 p.fl, .int .u8 p.mn, .int .u8 p.tm, .slice p.ia p.il p.ic, .slice p.wa p.wl p.wc, .slice p.ga p.gl p.gc, .slice p.sa p.sl p.sc]] W (RNewPost p W) from fun W c => rNew_any p W ((HP.out.chg HCB.out).chg c) hil)
  go_region_held3 (fun w' => w'.cell? ⟨bP, 0, none⟩ = some (.int .u32 p.fl) ∧ w'.cell? ⟨bP, 1, none⟩ = some (.int .u8 p.mn) ∧ w'.cell? ⟨bP, 2, none⟩ = some (.int .u8 p.tm) ∧ w'.cell? ⟨bP, 3, none⟩ = some (.slice p.ia p.il p.ic) ∧ w'.cell? ⟨bP, 4, none⟩ = some (.slice p.wa p.wl p.wc) ∧ w'.cell? ⟨bP, 5, none⟩ = some (.slice p.ga p.gl p.gc) ∧ w'.cell? ⟨bP, 6, none⟩ = some (.slice p.sa p.sl p.sc)) (first | (exact ⟨st.cell p0 (by simp), st.cell p1 (by simp), st.cell p2 (by simp), st.cell p3 (by simp), st.cell p4 (by simp), st.cell p5 (by simp), st.cell p6 (by simp)⟩) | go_keep)
    (first | (go_at_call 44; refine (HN.out _ (by first | exact Chg.refl _ _ | exact (Chg.refl _ _).drew | exact (Chg.refl _ _).drewN _)).mono ?_; rintro e w2 ⟨bM, u, rfl, O2⟩; have st : Chg [] w1 w2 := (by first | exact O2.c0 | exact O2.c0.of_drew | exact O2.c0.of_drewN)))
  go_wp2_with fail
  go_ret
  have hmem : ∀ y ∈ ordL p.its p.il, y ∈ p.its := fun y hy => by
    unfold ordL at hy
    obtain ⟨z, hz, rfl⟩ := List.mem_map.1 hy
    exact ((ordD_ok p.its p.il (by omega)).2 z hz).2.2.2.1
  exact ⟨_, rfl, rtNew_mk HP.out (fun y hy => its_row HP.out y (hmem y hy)) (HCB.out.trans ((Chg.refl [] w1).drew) (U := []) (by simp) (by simp)) O2, rfl, ⟨rfl, rfl, rfl⟩, rfl, rfl⟩
end Go.Proofs.Ytmcbgpjphjacjaa
