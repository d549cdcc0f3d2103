import Derived.Test.YtafmnkngjjnpiaaGreatDoorWldA
namespace Go.Proofs.YtafmnkngjjnpiaaGreatDoor
set_option linter.unusedVariables false
set_option linter.unusedSimpArgs false
set_option maxRecDepth 100000
open Go.RowKit
attribute [local go_sem] run_store_float'
def BRow (w : World) (a : Option Addr) (len cap : Nat) (zs : List Int) : Prop := len ≤ cap ∧ cap ≤ maxLen ∧ len ≤ zs.length ∧ SrcAt w a len cap (valsOf .u8 (zs.take len))
theorem BRow.le {w : World} {a : Option Addr} {len cap : Nat} {zs : List Int} (h : BRow w a len cap zs) : len ≤ cap ∧ cap ≤ maxLen ∧ len ≤ zs.length := ⟨h.1, h.2.1, h.2.2.1⟩
theorem BRow.src {w : World} {a : Option Addr} {len cap : Nat} {zs : List Int} (h : BRow w a len cap zs) : SrcAt w a len cap (valsOf .u8 (zs.take len)) := h.2.2.2
theorem BRow.chg0 {w w' : World} {a : Option Addr} {len cap : Nat} {zs : List Int} (h : BRow w a len cap zs) (c : Chg [] w w') : BRow w' a len cap zs := ⟨h.1, h.2.1, h.2.2.1, h.src.chg0 c⟩
structure ItD where
  b : Nat
  kind : Int
  n : Int
  ao : Option Addr
  m : Nat
  cap : Nat
  zs : List Int
def ItD.at (x : ItD) (w : World) (bl off : Nat) : Prop :=
  w.cell? ⟨bl, off, none⟩ = some (.float .f64 x.b) ∧ w.cell? ⟨bl, off + 1, none⟩ = some (.int .i64 x.kind) ∧ w.cell? ⟨bl, off + 2, none⟩ = some (.int .i64 x.n) ∧ w.cell? ⟨bl, off + 3, none⟩ = some (.slice x.ao x.m x.cap) ∧ BRow w x.ao x.m x.cap x.zs ∧ Wd x.b
def ItsAt (w : World) (a : Option Addr) (len : Nat) (its : List ItD) : Prop :=
  its.length = len ∧ (0 < len → ∃ bl off, a = some ⟨bl, off, none⟩ ∧ ∀ (k : Nat) (x : ItD), its[k]? = some x → x.at w bl (off + k * 4))
theorem IsRow.chg0 {w w' : World} {k : IntKind} {a : Option Addr} {len cap : Nat} {zs : List Int} (h : IsRow k w a len cap zs) (c : Chg [] w w') : IsRow k w' a len cap zs := by
  rcases h with h | ⟨x, h1, h2, h3, h4, h5, h6⟩
  · exact .inl h
  · exact .inr ⟨x, h1, h2, h3, h4, fun i hi => c.cell (h5 i hi) (by simp), h6⟩
theorem ItD.at.chg {w w' : World} {bl off : Nat} {x : ItD} (h : x.at w bl off) (c : Chg [] w w') : x.at w' bl off := by
  obtain ⟨h0, h1, h2, h3, hr, hw⟩ := h
  exact ⟨c.cell h0 (by simp), c.cell h1 (by simp), c.cell h2 (by simp), c.cell h3 (by simp), hr.chg0 c, hw⟩
theorem ItsAt.chg {w w' : World} {a : Option Addr} {len : Nat} {its : List ItD} (h : ItsAt w a len its) (c : Chg [] w w') : ItsAt w' a len its :=
  ⟨h.1, fun h0 => by obtain ⟨bl, off, e, hx⟩ := h.2 h0; exact ⟨bl, off, e, fun k x hk => (hx k x hk).chg c⟩⟩
theorem ItsAt.get {w : World} {a : Option Addr} {len : Nat} {its : List ItD} (h : ItsAt w a len its) {k : Nat} (hk : k < len) :
    ∃ bl off x, a = some ⟨bl, off, none⟩ ∧ its[k]? = some x ∧ x.at w bl (off + k * 4) := by
  obtain ⟨bl, off, e, hx⟩ := h.2 (by omega)
  have hl := h.1
  have : its[k]? = some (its[k]'(by omega)) := List.getElem?_eq_getElem (by omega)
  exact ⟨bl, off, _, e, this, hx k _ this⟩
structure PlanD where
  fl : Int
  mn : Int
  tm : Int
  ia : Option Addr
  il : Nat
  ic : Nat
  its : List ItD
  wa : Option Addr
  wl : Nat
  wc : Nat
  ws : List Int
  ga : Option Addr
  gl : Nat
  gc : Nat
  gs : List Int
  sa : Option Addr
  sl : Nat
  sc : Nat
  ss : List Int
def PlanD.cells (p : PlanD) : Array Value := #[.int .u32 p.fl, .int .u8 p.mn, .int .u8 p.tm, .slice p.ia p.il p.ic, .slice p.wa p.wl p.wc, .slice p.ga p.gl p.gc, .slice p.sa p.sl p.sc]
structure PlanD.At (w : World) (p : PlanD) : Prop where
  its : ItsAt w p.ia p.il p.its
  ilm : p.il ≤ maxLen
  ws : IsRow .i64 w p.wa p.wl p.wc p.ws
  gs : IsRow .i64 w p.ga p.gl p.gc p.gs
  ss : IsRow .i64 w p.sa p.sl p.sc p.ss
theorem PlanD.At.chg {w w' : World} {p : PlanD} (h : p.At w) (c : Chg [] w w') : p.At w' := ⟨h.its.chg c, h.ilm, h.ws.chg0 c, h.gs.chg0 c, h.ss.chg0 c⟩
def chk1 (x : ItD) : Int := if x.kind < 0 ∨ 2 < x.kind then 9 else if (x.kind ≠ 0 ∧ 0 < x.m) ∨ (x.kind ≠ 1 ∧ x.n ≠ 0) then 2 else if x.n < 0 then 3 else 0
def chkL : List ItD → Int
  | [] => 0
  | x :: r => if chk1 x = 0 then chkL r else chk1 x
def PlanD.chk (p : PlanD) : Int := if 4096 < p.il then 10 else chkL p.its
theorem chkL_drop (its : List ItD) (k : Nat) (x : ItD) (h : its[k]? = some x) : chkL (its.drop k) = if chk1 x = 0 then chkL (its.drop (k + 1)) else chk1 x := by
  obtain ⟨hk, rfl⟩ := List.getElem?_eq_some_iff.1 h
  rw [List.drop_eq_getElem_cons hk]
  rfl
set_option maxHeartbeats 8000000 in
theorem wCheck_any (p : PlanD) (w : World) (h : p.At w) :
    Calls Tryz.prog 102 #[.agg p.cells] w fun e w' => e = .returned (.int .i64 p.chk) ∧ Chg [] w w' := by
  obtain ⟨fl, mn, tm, ia, il, ic, its, wa, wl, wc, ws, ga, gl, gc, gs, sa, sl, sc, ss⟩ := p
  have hI := h.its
  have hm := h.ilm
  unfold maxLen at hm
  clear h
  dsimp only at hI hm
  unfold PlanD.cells
  dsimp only
  have CB : Chg [] w (w.alloc (.cells #[.int .u32 fl, .int .u8 mn, .int .u8 tm, .slice ia il ic, .slice wa wl wc, .slice ga gl gc, .slice sa sl sc] 74)) := (Chg.refl _ _).alloc _
  by_cases hbig : 4096 < il
  · have hv : Hid (PlanD.chk ⟨fl, mn, tm, ia, il, ic, its, wa, wl, wc, ws, ga, gl, gc, gs, sa, sl, sc, ss⟩ = 10) := Lib.hid (by unfold PlanD.chk; rw [if_pos hbig])
    have hbig' : (4096 : Int) < (il : Int) := by omega
    go_enter Tryz.func102, Tryz.ntmps102
    go_wp2_with fail
    go_ret
    exact ⟨ret_i64' hv.out.symm, CB⟩
  · have hv : Hid (PlanD.chk ⟨fl, mn, tm, ia, il, ic, its, wa, wl, wc, ws, ga, gl, gc, gs, sa, sl, sc, ss⟩ = chkL its) := Lib.hid (by unfold PlanD.chk; rw [if_neg hbig])
    have hbig' : ¬ (4096 : Int) < (il : Int) := by omega
    have HI := Lib.hid hI
    clear hI
    go_enter Tryz.func102, Tryz.ntmps102
    go_wp2_with fail
    go_loopw [12] (fun iv wr => ∃ k : Nat, k ≤ il ∧ iv = .int .i64 k ∧ Hid (chkL its = chkL (its.drop k)) ∧ Chg [] w wr) (fun iv _ => il - (intOf iv).toNat)
    case atStart => exact ⟨0, by omega, rfl, Lib.hid rfl, CB⟩
    case round =>
      obtain ⟨k, hk, rfl, hd, hc⟩ := hrel
      by_cases hlt : k < il
      · obtain ⟨bl, off, x, rfl, hx, h0, h1, h2, h3, hr, hw⟩ := (HI.out.chg hc).get hlt
        have HX := Lib.hid (chkL_drop its k x hx)
        have hmx : x.m ≤ maxLen := by have := hr.le; omega
        unfold maxLen at hmx
        obtain ⟨xb, kind, n, ao, m, cap, zs⟩ := x
        dsimp only at h0 h1 h2 h3 hmx
        have hok : chk1 ⟨xb, kind, n, ao, m, cap, zs⟩ = 0 → Hid (chkL its = chkL (its.drop (k + 1))) := fun e => Lib.hid (by rw [hd.out, HX.out, if_pos e])
        have hno : ∀ v : Int, chk1 ⟨xb, kind, n, ao, m, cap, zs⟩ = v → v ≠ 0 → Hid (chkL its = v) := fun v e hv => Lib.hid (by rw [hd.out, HX.out, if_neg (by omega), e])
        have HOK := Lib.hid hok
        have HNO := Lib.hid hno
        have HCA := Lib.hid (show ∀ o, Chg [] wr (wr.alloc o) from fun o => (Chg.refl _ _).alloc o)
        clear hr hx hok hno
        go_wp2_with fail
        all_goals (
          try simp only [bne_iff_ne, ne_eq, bne_eq_false_iff_eq] at *
          first
            | (go_roundw
               case rel =>
                 exact ⟨k + 1, by omega, by go_num, HOK.out (by unfold chk1; dsimp only; repeat' split <;> omega), hc.trans (HCA.out _) (by simp) (by simp)⟩
               case measure => simp [intOf]; omega)
            | (go_ret; exact ⟨ret_i64' (hv.out.trans (HNO.out 9 (by unfold chk1; dsimp only; repeat' split <;> omega) (by decide)).out).symm, hc.trans (HCA.out _) (by simp) (by simp)⟩)
            | (go_ret; exact ⟨ret_i64' (hv.out.trans (HNO.out 2 (by unfold chk1; dsimp only; repeat' split <;> omega) (by decide)).out).symm, hc.trans (HCA.out _) (by simp) (by simp)⟩)
            | (go_ret; exact ⟨ret_i64' (hv.out.trans (HNO.out 3 (by unfold chk1; dsimp only; repeat' split <;> omega) (by decide)).out).symm, hc.trans (HCA.out _) (by simp) (by simp)⟩))
      · obtain rfl : k = il := by omega
        have hz : Hid (chkL its = 0) := Lib.hid (by rw [hd.out, List.drop_of_length_le (by rw [HI.out.1]; exact Nat.le_refl _)]; rfl)
        go_wp2_with fail
        go_ret
        exact ⟨ret_i64' (by rw [hv.out, hz.out]), hc⟩
end Go.Proofs.YtafmnkngjjnpiaaGreatDoor
