/-
  Layer 17: trace.Same of two lists of effects that tell the same.
-/
import Derived.Test.YtmcbgpjphjacjaaTtyD
import Derived.Test.YtmcbgpjphjacjaaTtyX
import Derived.Laws.StructEq
namespace Go.Proofs.Ytmcbgpjphjacjaa
set_option linter.unusedVariables false
set_option linter.unusedSimpArgs false
set_option maxRecDepth 100000
open Go.RowKit

def EfD.at (y : EfD) (w : World) (bl off : Nat) : Prop :=
  w.cell? ⟨bl, off, none⟩ = some (.int .i64 y.kind) ∧ w.cell? ⟨bl, off + 1, none⟩ = some (.int .u32 y.a.fl) ∧ w.cell? ⟨bl, off + 2, none⟩ = some (.int .u8 y.a.mn) ∧ w.cell? ⟨bl, off + 3, none⟩ = some (.int .u8 y.a.tm) ∧ w.cell? ⟨bl, off + 4, none⟩ = some (.slice y.ao y.zs.length y.cap) ∧ w.cell? ⟨bl, off + 5, none⟩ = some (.int .i64 y.n) ∧ w.cell? ⟨bl, off + 6, none⟩ = some (.bool y.ok) ∧ SrcAt w y.ao y.zs.length y.cap (valsOf .u8 y.zs)

/-- Effects that can be read. -/
def EffR (w : World) (a : Option Addr) (n : Nat) (E : List EfD) : Prop :=
  E.length = n ∧ (0 < n → ∃ bl off, a = some ⟨bl, off, none⟩ ∧ ∀ (k : Nat) (y : EfD), E[k]? = some y → y.at w bl (off + k * 7))

theorem EfD.at.chg {w w' : World} {bl off : Nat} {y : EfD} (h : y.at w bl off) (c : Chg [] w w') : y.at w' bl off := by
  obtain ⟨h0, h1, h2, h3, h4, h5, h6, h7⟩ := h
  exact ⟨c.cell h0 (by simp), c.cell h1 (by simp), c.cell h2 (by simp), c.cell h3 (by simp), c.cell h4 (by simp), c.cell h5 (by simp), c.cell h6 (by simp), h7.chg0 c⟩

theorem EffR.chg {w w' : World} {a : Option Addr} {n : Nat} {E : List EfD} (h : EffR w a n E) (c : Chg [] w w') : EffR w' a n E :=
  ⟨h.1, fun h0 => by obtain ⟨bl, off, e, hx⟩ := h.2 h0; exact ⟨bl, off, e, fun k x hk => (hx k x hk).chg c⟩⟩

theorem EffR.get {w : World} {a : Option Addr} {n : Nat} {E : List EfD} (h : EffR w a n E) {k : Nat} (hk : k < n) :
    ∃ bl off x, a = some ⟨bl, off, none⟩ ∧ E[k]? = some x ∧ x.at w bl (off + k * 7) := by
  obtain ⟨bl, off, e, hx⟩ := h.2 (by omega)
  have hl := h.1
  have : E[k]? = some (E[k]'(by omega)) := List.getElem?_eq_getElem (by omega)
  exact ⟨bl, off, _, e, this, hx k _ this⟩

theorem EffR.take {w : World} {a : Option Addr} {n : Nat} {E : List EfD} (h : EffR w a n E) {m : Nat} (hm : m ≤ n) : EffR w a m (E.take m) := by
  refine ⟨by rw [List.length_take, h.1]; omega, fun h0 => ?_⟩
  obtain ⟨bl, off, e, hx⟩ := h.2 (by omega)
  refine ⟨bl, off, e, fun k y hk => hx k y ?_⟩
  have hlt : k < m := by
    have := (List.getElem?_eq_some_iff.1 hk).1
    rw [List.length_take] at this
    omega
  rw [List.getElem?_take_of_lt hlt] at hk
  exact hk

/-- A clone can be read. -/
theorem EffAt.reads {base : Nat} {w : World} {a : Option Addr} {n m c : Nat} {E E' : List EfD} (h : EffAt base w (.slice a m c) E E' n) (hn : n = E.length) : m = E.length ∧ E'.length = E.length ∧ EffR w a m E' := by
  have hl : E'.length = E.length := by have := congrArg List.length h.pl; simpa using this
  rcases h.row.2 with ⟨e, h0⟩ | ⟨g, cap, cur, e, hb, hg, k1, k2, k3, k4⟩
  · injection e with e1 e2 e3
    subst e1 e2
    exact ⟨by omega, hl, by omega, fun h0 => absurd h0 (by omega)⟩
  · injection e with e1 e2 e3
    subst e1 e2 e3
    refine ⟨rfl, hl, hl, fun h0 => ⟨g, 0, rfl, fun k y hk => ?_⟩⟩
    have hlt := (List.getElem?_eq_some_iff.1 hk).1
    have gt : ∀ j, j < 7 → ∀ u, y.cells[j]? = some u → w.cell? ⟨g, 0 + k * 7 + j, none⟩ = some u := fun j hj u hu => by
      have := h.row.cells (g := g) rfl (k * 7 + j) u (by rw [cellsF_get E' k y hk j hj]; exact hu)
      rw [Addr.add_lit] at this
      rw [show 0 + k * 7 + j = 0 + (k * 7 + j) by omega]
      exact this
    exact ⟨gt 0 (by omega) _ rfl, gt 1 (by omega) _ rfl, gt 2 (by omega) _ rfl, gt 3 (by omega) _ rfl, gt 4 (by omega) _ rfl, gt 5 (by omega) _ rfl, gt 6 (by omega) _ rfl, (h.own k y (by omega) hk g rfl).src⟩

theorem EffAt.slice {base : Nat} {w : World} {rv : Value} {n : Nat} {E E' : List EfD} (h : EffAt base w rv E E' n) : ∃ a m c, rv = .slice a m c ∧ m ≤ c ∧ c ≤ maxLen := by
  rcases h.row.2 with ⟨e, h0⟩ | ⟨g, cap, cur, e, hb, hg, k1, k2, k3, k4⟩
  · exact ⟨_, _, _, e, Nat.le_refl _, Nat.zero_le _⟩
  · exact ⟨_, _, _, e, k1, k2⟩

theorem bequal_any (a b : Option Addr) (n c d : Nat) (zs : List Int) (w : World) (h1 : SrcAt w a n c (valsOf .u8 zs)) (h2 : SrcAt w b n d (valsOf .u8 zs)) :
    Calls Try.prog 66 #[.slice a n c, .slice b n d] w fun e w' => e = .returned (.bool true) ∧ w = w' := by
  have c1 := tconv_at h1
  have c2 := tconv_at h2
  go_enter Try.func66, Try.ntmps66
  go_wp2_with fail
  go_ret
  exact ⟨rfl, rfl⟩

set_option maxHeartbeats 4000000 in
theorem same1_any (x y : EfD) (w : World) (hp : x.pl = y.pl) (h1 : SrcAt w x.ao x.zs.length x.cap (valsOf .u8 x.zs)) (h2 : SrcAt w y.ao y.zs.length y.cap (valsOf .u8 y.zs)) :
    Calls Try.prog 52 #[.agg x.cells.toArray, .agg y.cells.toArray] w fun e w' => e = .returned (.bool true) ∧ Chg [] w w' := by
  obtain ⟨kind, ⟨fl, mn, tm⟩, ao, cap, zs, n, ok⟩ := x
  obtain ⟨kind', ⟨fl', mn', tm'⟩, ao', cap', zs', n', ok'⟩ := y
  unfold EfD.pl at hp
  dsimp only at hp h1 h2
  injection hp with e1 hp
  injection hp with e2 hp
  injection hp with e3 hp
  injection hp with e4 hp
  injection hp with e5 hp
  injection hp with e6 e7
  subst e1 e2 e3 e4 e5 e6 e7
  unfold EfD.cells
  dsimp only
  have C2 : Chg [] w ((w.alloc (.cells #[.int .i64 kind, .int .u32 fl, .int .u8 mn, .int .u8 tm, .slice ao zs.length cap, .int .i64 n, .bool ok] 49)).alloc (.cells #[.int .i64 kind, .int .u32 fl, .int .u8 mn, .int .u8 tm, .slice ao' zs.length cap', .int .i64 n, .bool ok] 49)) := ((Chg.refl _ _).alloc _).alloc _
  have HB := Lib.hid (bequal_any ao ao' zs.length cap cap' zs _ (h1.chg0 C2) (h2.chg0 C2))
  have HC := Lib.hid C2
  clear C2 h1 h2
  go_enter Try.func52, Try.ntmps52
  cases ok <;> (
    go_wp2_with fail
    refine (HB.out).mono ?_
    rintro e w' ⟨rfl, rfl⟩
    go_wp2_with fail
    go_ret
    exact ⟨rfl, HC.out⟩)

set_option maxHeartbeats 4000000 in
theorem sEqual_any (a b : Option Addr) (n c d : Nat) (E F : List EfD) (w : World) (h1 : EffR w a n E) (h2 : EffR w b n F) (hp : E.map EfD.pl = F.map EfD.pl) (hn : n ≤ 1000000) :
    Calls Try.prog 51 #[.slice a n c, .slice b n d, .func (Fn.func 52) #[] #[]] w fun e w' => e = .returned (.bool true) ∧ Chg [] w w' := by
  have H1 := Lib.hid h1
  have H2 := Lib.hid h2
  clear h1 h2
  go_enter Try.func51, Try.ntmps51
  go_wp2_with fail
  go_loopw [17] (fun i wr => ∃ k : Nat, k ≤ n ∧ i = .int .i64 k ∧ Chg [] w wr) (fun i _ => n - (intOf i).toNat)
  case atStart => exact ⟨0, Nat.zero_le _, rfl, Chg.refl _ _⟩
  case round =>
    obtain ⟨k, hk, rfl, hc⟩ := hrel
    by_cases hlt : k < n
    · obtain ⟨b1, o1, x, rfl, hx, x0, x1, x2, x3, x4, x5, x6, x7⟩ := (H1.out.chg hc).get hlt
      obtain ⟨b2, o2, y, rfl, hy, y0, y1, y2, y3, y4, y5, y6, y7⟩ := (H2.out.chg hc).get hlt
      have hxy : x.pl = y.pl := by
        have e := congrArg (fun l => l[k]?) hp
        simp only [List.getElem?_map, hx, hy] at e
        injection e
      have k1 : Chg [] wr (wr.alloc (.cells x.cells.toArray 49)) := (Chg.refl _ _).alloc _
      have k2 : Chg [] wr ((wr.alloc (.cells x.cells.toArray 49)).alloc (.cells y.cells.toArray 49)) := k1.alloc _
      have HS := Lib.hid (same1_any x y _ hxy (x7.chg0 k2) (y7.chg0 k2))
      have HK := Lib.hid k2
      have HC := Lib.hid hc
      unfold EfD.cells at HS HK k1
      have z0 := k1.cell y0 (by simp)
      have z1 := k1.cell y1 (by simp)
      have z2 := k1.cell y2 (by simp)
      have z3 := k1.cell y3 (by simp)
      have z4 := k1.cell y4 (by simp)
      have z5 := k1.cell y5 (by simp)
      have z6 := k1.cell y6 (by simp)
      clear k1 k2 x7 y7 hxy hx hy hc hp
      go_wp2_with fail
      refine (HS.out).mono ?_
      rintro e w2 ⟨rfl, C2⟩
      have HD := Lib.hid ((HC.out.trans HK.out (U := []) (by simp) (by simp)).trans C2 (U := []) (by simp) (by simp))
      clear C2 HS HK HC x0 x1 x2 x3 x4 x5 x6 y0 y1 y2 y3 y4 y5 y6 z0 z1 z2 z3 z4 z5 z6
      go_wp2_with fail
      go_roundw
      case rel => exact ⟨k + 1, by omega, by go_num, HD.out⟩
      case measure => simp [intOf]; omega
    · obtain rfl : k = n := by omega
      go_wp2_with fail
      go_ret
      exact ⟨rfl, hc⟩

theorem sSame_any (a b : Option Addr) (n c d : Nat) (E F : List EfD) (w : World) (h1 : EffR w a n E) (h2 : EffR w b n F) (hp : E.map EfD.pl = F.map EfD.pl) (hn : n ≤ 1000000) :
    Calls Try.prog 32 #[.slice a n c, .slice b n d] w fun e w' => e = .returned (.bool true) ∧ Chg [] w w' := by
  have HE := Lib.hid (sEqual_any a b n c d E F w h1 h2 hp hn)
  clear h1 h2 hp hn
  go_enter Try.func32, Try.ntmps32
  go_wp2_with fail
  refine (HE.out).mono ?_
  rintro e w2 ⟨rfl, C2⟩
  go_wp2_with fail
  go_ret
  exact ⟨rfl, C2⟩
end Go.Proofs.Ytmcbgpjphjacjaa
