import Derived.Test.YtafmnkngjjnpiaaGreatDoorTqV
import Derived.Test.YtafmnkngjjnpiaaGreatDoorTtyD
import Derived.Test.YtafmnkngjjnpiaaGreatDoorTtyX
import Derived.Laws.StructEq
namespace Go.Proofs.YtafmnkngjjnpiaaGreatDoor
set_option linter.unusedVariables false
set_option linter.unusedSimpArgs false
set_option maxRecDepth 100000
open Go.RowKit
def EfD.at (y : EfD) (w : World) (bl off : Nat) : Prop :=
  w.cell? ⟨bl, off, none⟩ = some (.int .i64 y.kind) ∧ w.cell? ⟨bl, off + 1, none⟩ = some (.int .u32 y.a.fl) ∧ w.cell? ⟨bl, off + 2, none⟩ = some (.int .u8 y.a.mn) ∧ w.cell? ⟨bl, off + 3, none⟩ = some (.int .u8 y.a.tm) ∧ w.cell? ⟨bl, off + 4, none⟩ = some (.slice y.ao y.zs.length y.cap) ∧ w.cell? ⟨bl, off + 5, none⟩ = some (.int .i64 y.n) ∧ w.cell? ⟨bl, off + 6, none⟩ = some (.bool y.ok) ∧ SrcAt w y.ao y.zs.length y.cap (valsOf .u8 y.zs)
def EffR (w : World) (a : Option Addr) (n : Nat) (E : List EfD) : Prop :=
  E.length = n ∧ (0 < n → ∃ bl off, a = some ⟨bl, off, none⟩ ∧ ∀ (k : Nat) (y : EfD), E[k]? = some y → y.at w bl (off + k * 7))
theorem EfD.at.chg {w w' : World} {bl off : Nat} {y : EfD} (h : y.at w bl off) (c : Chg [] w w') : y.at w' bl off := by
  obtain ⟨h0, h1, h2, h3, h4, h5, h6, h7⟩ := h
  exact ⟨c.cell h0 (by simp), c.cell h1 (by simp), c.cell h2 (by simp), c.cell h3 (by simp), c.cell h4 (by simp), c.cell h5 (by simp), c.cell h6 (by simp), h7.chg0 c⟩
theorem EffR.chg {w w' : World} {a : Option Addr} {n : Nat} {E : List EfD} (h : EffR w a n E) (c : Chg [] w w') : EffR w' a n E :=
  ⟨h.1, fun h0 => by obtain ⟨bl, off, e, hx⟩ := h.2 h0; exact ⟨bl, off, e, fun k x hk => (hx k x hk).chg c⟩⟩
theorem EffR.get {w : World} {a : Option Addr} {n : Nat} {E : List EfD} (h : EffR w a n E) {k : Nat} (hk : k < n) :
    ∃ bl off x, a = some ⟨bl, off, none⟩ ∧ E[k]? = some x ∧ x.at w bl (off + k * 7) := by
  obtain ⟨bl, off, e, hx⟩ := h.2 (by omega)
  have hl := h.1
  have : E[k]? = some (E[k]'(by omega)) := List.getElem?_eq_getElem (by omega)
  exact ⟨bl, off, _, e, this, hx k _ this⟩
end Go.Proofs.YtafmnkngjjnpiaaGreatDoor

namespace Go.Proofs.YtafmnkngjjnpiaaGreatDoor
set_option linter.unusedVariables false
set_option linter.unusedSimpArgs false
set_option maxRecDepth 100000
open Go.RowKit
attribute [local go_sem] run_store_float'
def tookP (x : Int) (n : Nat) : Nat := (max 0 (min x (n : Int))).toNat
def wrP (y : Pl) : List Int := if y.1 = 2 then y.2.2.2.2.1.take (tookP y.2.2.2.2.2.1 y.2.2.2.2.1.length) else []
def outP (E : List Pl) : List Int := E.flatMap wrP
theorem outP_append (A B : List Pl) : outP (A ++ B) = outP A ++ outP B := by unfold outP; rw [List.flatMap_append]
theorem outP_take {E : List Pl} {k : Nat} {y : Pl} (h : E[k]? = some y) : outP (E.take (k + 1)) = outP (E.take k) ++ wrP y := by
  rw [List.take_add_one, h, outP_append]
  unfold outP
  simp
theorem outP_le (E : List Pl) (k : Nat) : (outP (E.take k)).length ≤ (outP E).length := by
  conv => rhs; rw [← List.take_append_drop k E, outP_append, List.length_append]
  omega
theorem effR_of {w : World} {ao : Option Addr} {c : Nat} {E : List EfD} (h : HasRow w 86 7 (.slice ao E.length c) E.length (cellsF E)) (hs : ∀ y ∈ E, SrcAt w y.ao y.zs.length y.cap (valsOf .u8 y.zs)) : EffR w ao E.length E := by
  refine ⟨rfl, fun h0 => ?_⟩
  obtain ⟨g, off, cap, e, hc, _⟩ := h.cells h0
  injection e with e1 e2 e3
  subst e1
  refine ⟨g, off, rfl, fun k y hk => ?_⟩
  have gt : ∀ j, j < 7 → ∀ u, y.cells[j]? = some u → w.cell? ⟨g, off + k * 7 + j, none⟩ = some u := fun j hj u hu => by
    have := hc (k * 7 + j) u (by rw [cellsF_get E k y hk j hj]; exact hu)
    rw [show off + k * 7 + j = off + (k * 7 + j) by omega]
    exact this
  exact ⟨gt 0 (by omega) _ rfl, gt 1 (by omega) _ rfl, gt 2 (by omega) _ rfl, gt 3 (by omega) _ rfl, gt 4 (by omega) _ rfl, gt 5 (by omega) _ rfl, gt 6 (by omega) _ rfl, hs y (List.mem_of_getElem? hk)⟩
theorem src_few {w : World} {ao : Option Addr} {n c k : Nat} {zs : List Int} (h : SrcAt w ao n c (valsOf .u8 zs)) (hk : k ≤ n) : SrcAt w ao k c (valsOf .u8 (zs.take k)) := by
  have hl := h.1
  rw [valsOf_length] at hl
  refine ⟨by rw [valsOf_length, List.length_take]; omega, fun e => ?_, fun ad e j u hu => h.2.2 ad e j u ?_⟩
  · have := h.2.1 e
    omega
  · unfold valsOf at hu ⊢
    rw [List.map_take, List.getElem?_take] at hu
    split at hu
    · exact hu
    · cases hu
theorem row_few {w : World} {e : TypeId} {size : Nat} {ao : Option Addr} {n c : Nat} {xs : List Value} (h : HasRow w e size (.slice ao n c) n xs) : n ≤ maxLen := by
  obtain ⟨_, _, e, h1, h2, _⟩ := h.slice
  injection e with _ _ e
  omega
theorem ln_none (w : World) : LnB w w (.slice none 0 0) [] := ⟨⟨rfl, Or.inl ⟨rfl, rfl⟩⟩, Chg.refl _ _⟩
def WritPost (l : List Int) (w : World) (e : Ending) (w' : World) : Prop := ∃ a k, e = .returned (.slice a l.length k) ∧ SrcAt w' a l.length k (valsOf .u8 l) ∧ Chg [] w w'
set_option maxHeartbeats 8000000 in
theorem written_any (ao : Option Addr) (n c : Nat) (E : List EfD) (w : World) (h : EffR w ao n E) (hn : n ≤ maxLen) (hcap : ∀ y ∈ E, y.zs.length ≤ y.cap) (hL : (outP (E.map EfD.pl)).length ≤ 1000000) :
    Calls Tryz.prog 37 #[.slice ao n c] w (WritPost (outP (E.map EfD.pl)) w) := by
  unfold maxLen at hn
  have H1 := Lib.hid h
  have HL := Lib.hid hL
  clear h hL
  go_enter Tryz.func37, Tryz.ntmps37
  go_wp2_with fail
  go_loopw [3, 8] (fun v i wr => ∃ k : Nat, k ≤ n ∧ i = .int .i64 k ∧ LnB w wr v (outP ((E.map EfD.pl).take k))) (fun _ i _ => n - (intOf i).toNat)
  case atStart => exact ⟨0, Nat.zero_le _, rfl, ln_none w⟩
  case round =>
    obtain ⟨k, hk, rfl, hln⟩ := hrel
    by_cases hlt : k < n
    · obtain ⟨b1, o1, x, rfl, hx, x0, x1, x2, x3, x4, x5, x6, x7⟩ := (H1.out.chg hln.2).get hlt
      have hx2 : (E.map EfD.pl)[k]? = some x.pl := by rw [List.getElem?_map, hx]; rfl
      have HX := Lib.hid (And.intro hx2 (And.intro hln (And.intro x7 (outP_take hx2))))
      have HC := Lib.hid (hcap _ (List.mem_of_getElem? hx))
      clear hx hx2 hln x7
      obtain ⟨kind, ⟨fl, mn, tm⟩, ao, cap, zs, nn, ok⟩ := x
      dsimp only at x0 x1 x2 x3 x4 x5 x6
      by_cases hk2 : kind = 2
      · subst hk2
        obtain ⟨q, hq⟩ : ∃ q : Int, min nn (zs.length : Int) = q := ⟨_, rfl⟩
        obtain ⟨m, hm⟩ : ∃ m : Nat, max 0 q = (m : Int) := ⟨(max 0 q).toNat, by omega⟩
        have hmc : m ≤ cap := by have := HC.out; dsimp only at this; omega
        have hmz : m ≤ zs.length := by omega
        have HM : Hid (tookP nn zs.length = m) := Lib.hid (by unfold tookP; rw [hq, hm]; rfl)
        obtain ⟨l, hl⟩ : ∃ l, l = outP ((E.map EfD.pl).take k) := ⟨_, rfl⟩
        have k1 : Chg [] wr (wr.alloc (.cells #[.int .i64 2, .int .u32 fl, .int .u8 mn, .int .u8 tm, .slice ao zs.length cap, .int .i64 nn, .bool ok] 86)) := (Chg.refl _ _).alloc _
        have HS := Lib.hid (And.intro (HX.out.2.2.1.chg0 k1) (hl ▸ HX.out.2.1.on k1))
        have HLL := Lib.hid hl
        clear k1 hl HC
        go_upto_region 6 with (fail)
        go_wp2_with (at_builtin; refine wp_ln_src rfl (.tmp 15) (.tmp 25) rfl _ l rfl HS.out.2 ao m cap (zs.take m) rfl ?_ ?_ (fun v' w' hln' hc' => ?_))
        · exact src_few HS.out.1 hmz
        · have h1 := HL.out
          have h2 := outP_le (E.map EfD.pl) (k + 1)
          rw [HX.out.2.2.2, ← HLL.out, List.length_append] at h2
          have h3 : (wrP (2, fl, mn, tm, zs, nn, ok)).length = m := by
            unfold wrP
            rw [if_pos rfl, List.length_take]
            have := HM.out
            dsimp only
            omega
          have h4 : (wrP (EfD.pl ⟨2, ⟨fl, mn, tm⟩, ao, cap, zs, nn, ok⟩)).length = m := h3
          omega
        · go_wp2_with fail
          have h3 : wrP (EfD.pl ⟨2, ⟨fl, mn, tm⟩, ao, cap, zs, nn, ok⟩) = zs.take m := by
            show (if (2 : Int) = 2 then _ else _) = _
            rw [if_pos rfl]
            show zs.take (tookP nn zs.length) = _
            rw [HM.out]
          rw [h3, ← HLL.out] at HX
          refine ⟨⟨k + 1, hlt, by rw [Int.natCast_add]; rfl, ?_⟩, ?_⟩
          · rw [HX.out.2.2.2]
            exact hln'
          · show n - (k + 1) < n - k
            omega
      · go_wp2_with fail
        have h3 : wrP (EfD.pl ⟨kind, ⟨fl, mn, tm⟩, ao, cap, zs, nn, ok⟩) = [] := by
          show (if kind = 2 then _ else _) = _
          rw [if_neg hk2]
        rw [h3] at HX
        refine ⟨⟨k + 1, hlt, by rw [Int.natCast_add]; rfl, ?_⟩, ?_⟩
        · rw [HX.out.2.2.2, List.append_nil]
          exact HX.out.2.1.on ((Chg.refl _ _).alloc _)
        · show n - (k + 1) < n - k
          omega
    · have hkn : k = n := by omega
      have hl : (E.map EfD.pl).take k = E.map EfD.pl := List.take_of_length_le (by rw [List.length_map, H1.out.1]; omega)
      rw [hl] at hln
      obtain ⟨ao', c', e, hS, hb⟩ := owns_srcAt hln.1
      subst e
      go_wp2_with fail
      go_ret
      exact ⟨ao', c', rfl, hS, hln.2⟩
end Go.Proofs.YtafmnkngjjnpiaaGreatDoor
