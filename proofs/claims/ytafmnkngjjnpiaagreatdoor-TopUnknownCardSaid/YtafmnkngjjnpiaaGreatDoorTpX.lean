import Derived.Test.YtafmnkngjjnpiaaGreatDoorAreE
import Derived.Test.YtafmnkngjjnpiaaGreatDoorDef
import Derived.Test.YtafmnkngjjnpiaaGreatDoorTpO
import Derived.Test.YtafmnkngjjnpiaaGreatDoorTpM
import Derived.Test.YtafmnkngjjnpiaaGreatDoorTtyX
import Derived.Deep.RegionHeld3
import Derived.Deep.DeepCutAuto
import Derived.WalkMore
import Derived.Deep.LoopGhost
namespace Go.Proofs.YtafmnkngjjnpiaaGreatDoor
set_option linter.unusedVariables false
set_option linter.unusedSimpArgs false
set_option maxRecDepth 100000
open Go.RowKit
def btw (c f t : Int) : Bool := decide (f ≤ c) && decide (c ≤ t)
theorem between_any (c f t : Int) (w : World) : Calls Tryz.prog 93 #[.int .u8 c, .int .u8 f, .int .u8 t] w fun e w' => e = .returned (.bool (btw c f t)) ∧ w = w' := by
  unfold btw
  by_cases h : f ≤ c
  · have d1 : decide (f ≤ c) = true := decide_eq_true h
    rw [d1, Bool.true_and]
    clear h
    go_enter Tryz.func93, Tryz.ntmps93
    go_wp2_with fail
    go_ret
    exact ⟨rfl, rfl⟩
  · have d1 : decide (f ≤ c) = false := decide_eq_false h
    rw [d1, Bool.false_and]
    clear h
    go_enter Tryz.func93, Tryz.ntmps93
    go_wp2_with fail
    go_ret
    exact ⟨rfl, rfl⟩
theorem cell_lt {w : World} {g o : Nat} {v : Value} (h : w.cell? ⟨g, o, none⟩ = some v) : g < w.heap.size := by
  rcases Nat.lt_or_ge g w.heap.size with h1 | h1
  · exact h1
  · simp [World.cell?, Array.getElem?_eq_none h1] at h
theorem strOfNums_inj {l m : List Int} (hl : ByR l) (hm : ByR m) (h : strOfNums l = strOfNums m) : l = m := by
  have e : (l.map fun n => UInt8.ofNat n.toNat) = (m.map fun n => UInt8.ofNat n.toNat) := by
    have := congrArg (fun s : ByteArray => s.data.toList) h
    simpa [strOfNums] using this
  clear h
  induction l generalizing m with
  | nil => cases m with
    | nil => rfl
    | cons y m => cases e
  | cons x l ih => cases m with
    | nil => cases e
    | cons y m =>
      rw [List.map_cons, List.map_cons] at e
      injection e with e1 e2
      have hx := hl x List.mem_cons_self
      have hy := hm y List.mem_cons_self
      have := congrArg UInt8.toNat e1
      rw [UInt8.toNat_ofNat_of_lt' (show x.toNat < 256 by omega), UInt8.toNat_ofNat_of_lt' (show y.toNat < 256 by omega)] at this
      rw [show x = y by omega, ih (fun z hz => hl z (List.mem_cons_of_mem _ hz)) (fun z hz => hm z (List.mem_cons_of_mem _ hz)) e2]
theorem knownB_eq (l : List Int) (h : ByR l) : match knownB (strOfNums l) with | some v => v = .int .i64 (knownK l) | none => knownK l = 15 := by
  by_cases h0 : l = [27, 91, 67]
  · subst h0; rfl
  by_cases h1 : l = [27, 79, 67]
  · subst h1; rfl
  by_cases h2 : l = [27, 91, 68]
  · subst h2; rfl
  by_cases h3 : l = [27, 79, 68]
  · subst h3; rfl
  by_cases h4 : l = [27, 91, 72]
  · subst h4; rfl
  by_cases h5 : l = [27, 79, 72]
  · subst h5; rfl
  by_cases h6 : l = [27, 91, 49, 126]
  · subst h6; rfl
  by_cases h7 : l = [27, 91, 55, 126]
  · subst h7; rfl
  by_cases h8 : l = [27, 91, 70]
  · subst h8; rfl
  by_cases h9 : l = [27, 79, 70]
  · subst h9; rfl
  by_cases h10 : l = [27, 91, 52, 126]
  · subst h10; rfl
  by_cases h11 : l = [27, 91, 56, 126]
  · subst h11; rfl
  by_cases h12 : l = [27, 91, 51, 126]
  · subst h12; rfl
  by_cases h13 : l = [27, 91, 50, 48, 48, 126]
  · subst h13; rfl
  by_cases h14 : l = [27, 91, 50, 48, 49, 126]
  · subst h14; rfl
  have key : ∀ m : List Int, ByR m → l ≠ m → strOfNums l ≠ strOfNums m := fun m hm hne e => hne (strOfNums_inj h hm e)
  have hk : knownK l = 15 := by
    unfold knownK knownS
    simp only [List.find?_cons, List.find?_nil]
    simp only [eq_comm (b := l), h0, h1, h2, h3, h4, h5, h6, h7, h8, h9, h10, h11, h12, h13, h14, decide_false]
  have n0 : strOfNums l ≠ (⟨#[27, 91, 67]⟩ : ByteArray) := key [27, 91, 67] (by intro x hx; simp at hx; omega) h0
  have n1 : strOfNums l ≠ (⟨#[27, 79, 67]⟩ : ByteArray) := key [27, 79, 67] (by intro x hx; simp at hx; omega) h1
  have n2 : strOfNums l ≠ (⟨#[27, 91, 68]⟩ : ByteArray) := key [27, 91, 68] (by intro x hx; simp at hx; omega) h2
  have n3 : strOfNums l ≠ (⟨#[27, 79, 68]⟩ : ByteArray) := key [27, 79, 68] (by intro x hx; simp at hx; omega) h3
  have n4 : strOfNums l ≠ (⟨#[27, 91, 72]⟩ : ByteArray) := key [27, 91, 72] (by intro x hx; simp at hx; omega) h4
  have n5 : strOfNums l ≠ (⟨#[27, 79, 72]⟩ : ByteArray) := key [27, 79, 72] (by intro x hx; simp at hx; omega) h5
  have n6 : strOfNums l ≠ (⟨#[27, 91, 49, 126]⟩ : ByteArray) := key [27, 91, 49, 126] (by intro x hx; simp at hx; omega) h6
  have n7 : strOfNums l ≠ (⟨#[27, 91, 55, 126]⟩ : ByteArray) := key [27, 91, 55, 126] (by intro x hx; simp at hx; omega) h7
  have n8 : strOfNums l ≠ (⟨#[27, 91, 70]⟩ : ByteArray) := key [27, 91, 70] (by intro x hx; simp at hx; omega) h8
  have n9 : strOfNums l ≠ (⟨#[27, 79, 70]⟩ : ByteArray) := key [27, 79, 70] (by intro x hx; simp at hx; omega) h9
  have n10 : strOfNums l ≠ (⟨#[27, 91, 52, 126]⟩ : ByteArray) := key [27, 91, 52, 126] (by intro x hx; simp at hx; omega) h10
  have n11 : strOfNums l ≠ (⟨#[27, 91, 56, 126]⟩ : ByteArray) := key [27, 91, 56, 126] (by intro x hx; simp at hx; omega) h11
  have n12 : strOfNums l ≠ (⟨#[27, 91, 51, 126]⟩ : ByteArray) := key [27, 91, 51, 126] (by intro x hx; simp at hx; omega) h12
  have n13 : strOfNums l ≠ (⟨#[27, 91, 50, 48, 48, 126]⟩ : ByteArray) := key [27, 91, 50, 48, 48, 126] (by intro x hx; simp at hx; omega) h13
  have n14 : strOfNums l ≠ (⟨#[27, 91, 50, 48, 49, 126]⟩ : ByteArray) := key [27, 91, 50, 48, 49, 126] (by intro x hx; simp at hx; omega) h14
  have hn : knownB (strOfNums l) = none := by
    unfold knownB
    simp only [n0, n1, n2, n3, n4, n5, n6, n7, n8, n9, n10, n11, n12, n13, n14, if_false]
  rw [hn]
  exact hk
theorem esc_end (l : List Int) (i f : Nat) (o : Bool) (h : ¬ i < l.length) : escLoop l f i o = (⟨0, 0⟩, l.length, 7) := by
  cases f with
  | zero => rfl
  | succ f => rw [escLoop, if_pos (by omega)]
theorem esc_step (l : List Int) (hb : ByR l) (B : Bool) (hB : B = decide (l.getD 1 0 = 79)) (i f : Nat) (o : Bool) (h : i < l.length) :
    escLoop l (f + 1) i o = (if btw (byN l i : Nat) 64 126 = true then (⟨knownK (l.take (i + 1)), 0⟩, i + 1, 0) else if B = true ∨ 34 ≤ i then (⟨15, 0⟩, i, 0)
      else if btw (byN l i : Nat) 48 63 = true ∧ o = false then escLoop l f (i + 1) o else if btw (byN l i : Nat) 32 47 = true then escLoop l f (i + 1) true else (⟨15, 0⟩, i, 0)) := by
  have e := (hb.byte i).1
  rw [escLoop, if_neg (by omega), e, hB]
  unfold btw
  simp only [Bool.and_eq_true, decide_eq_true_eq, and_assoc]
theorem key_stored {w : World} {b : Nat} {a0 c0 : Value} {t : TypeId} (h : w.heap[b]? = some (.cells #[a0, c0] t (0, 0))) (a c : Value) :
    (w.setCell ⟨b, 0, none⟩ a).cell? ⟨b, 0, none⟩ = some a ∧ ((w.setCell ⟨b, 0, none⟩ a).setCell ⟨b, 1, none⟩ c).cell? ⟨b, 0, none⟩ = some a ∧ ((w.setCell ⟨b, 0, none⟩ a).setCell ⟨b, 1, none⟩ c).cell? ⟨b, 1, none⟩ = some c ∧ ((w.setCell ⟨b, 0, none⟩ a).setCell ⟨b, 1, none⟩ c).heap[b]? = some (.cells #[a, c] t (0, 0)) := by
  have h1 : (w.setCell ⟨b, 0, none⟩ a).heap[b]? = some (.cells #[a, c0] t (0, 0)) := by rw [setCell_heap _ h]; rfl
  have h2 : ((w.setCell ⟨b, 0, none⟩ a).setCell ⟨b, 1, none⟩ c).heap[b]? = some (.cells #[a, c] t (0, 0)) := by rw [setCell_heap _ h1]; rfl
  exact ⟨by rw [cell_of_heap h1]; rfl, by rw [cell_of_heap h2]; rfl, by rw [cell_of_heap h2]; rfl, h2⟩
def EscPost (R : Ky × Nat × Int) (w : World) (e : Ending) (w' : World) : Prop := e = .returned (.tuple #[.agg #[.int .i64 R.1.kind, .int .i64 R.1.c], .int .i64 (R.2.1 : Nat), .int .i64 R.2.2]) ∧ Chg [] w w'
set_option maxHeartbeats 8000000 in
theorem escNext_any (w : World) (ao : Option Addr) (n c : Nat) (l : List Int) (h : SrcAt w ao n c (valsOf .u8 l)) (hb : ByR l) (hn : n ≤ 1000000) (hc : n ≤ c) :
    Calls Tryz.prog 62 #[.slice ao n c] w (EscPost (nextE l) w) := by
  have hl := h.len
  rcases Nat.eq_zero_or_pos n with rfl | hp
  · have hv : nextE l = (⟨0, 0⟩, 0, 6) := by unfold nextE; rw [if_pos hl]
    rw [hv]
    have e0 : ((0 : Nat) : Int) = 0 := rfl
    clear hv h
    go_enter Tryz.func62, Tryz.ntmps62
    go_wp2_with fail
    go_step3
    go_wp2_with fail
    rw [Exit.noGoto_ret]
    refine ⟨rfl, _, by simp [results, Tryz.results62, go_sem] <;> rfl, ?_⟩
    exact ⟨rfl, (Chg.refl _ _).alloc _⟩
  · obtain ⟨e0, l0⟩ := hb.byte 0
    obtain ⟨e1, l1⟩ := hb.byte 1
    have hcell : ∀ j, j < n → ∃ g off, ao = some ⟨g, off, none⟩ ∧ w.cell? ⟨g, off + j, none⟩ = some (.int .u8 (byN l j : Nat)) := fun j hj => by
      obtain ⟨g, off, e, hc⟩ := h.int hj
      exact ⟨g, off, e, by rw [hc, (hb.byte j).1]⟩
    have HS := Lib.hid h
    obtain ⟨g, off, rfl, c0⟩ := hcell 0 hp
    rw [Nat.add_zero] at c0
    have hcell2 : ∀ j, j < n → w.cell? ⟨g, off + j, none⟩ = some (.int .u8 (byN l j : Nat)) := fun j hj => by
      obtain ⟨g', off', e, hc⟩ := hcell j hj
      injection e with e
      injection e with e3 e4 _
      subst e3
      subst e4
      exact hc
    have hglt : g < w.heap.size := cell_lt c0
    clear h hcell
    have HC := Lib.hid hcell2
    clear hcell2
    by_cases h27 : byN l 0 = 27
    · have t0 : (((byN l 0 : Nat) : Int) != 27) = false := by rw [h27]; rfl
      have hv1 : nextE l = (if 1 < n ∧ l.getD 1 0 ≠ 91 ∧ l.getD 1 0 ≠ 79 then (⟨15, 0⟩, 1, 0) else escLoop l l.length 2 false) := by
        unfold nextE
        rw [if_neg (by omega), if_neg (by rw [e0, h27]; decide), hl]
      rw [e1] at hv1
      by_cases hA : 1 < n ∧ ((byN l 1 : Nat) : Int) ≠ 91 ∧ ((byN l 1 : Nat) : Int) ≠ 79
      · have hv : nextE l = (⟨15, 0⟩, 1, 0) := by rw [hv1, if_pos hA]
        rw [hv]
        obtain ⟨hA1, hA2, hA3⟩ := hA
        have c1 := HC.out 1 hA1
        have d1 : decide ((1 : Int) < n) = true := decide_eq_true (by omega)
        have d2 : (((byN l 1 : Nat) : Int) != 91) = true := by rw [bne_iff_ne]; exact hA2
        have d3 : (((byN l 1 : Nat) : Int) != 79) = true := by rw [bne_iff_ne]; exact hA3
        clear hv hv1 e0 e1 h27 hA2 hA3 hl
        go_enter Tryz.func62, Tryz.ntmps62
        go_wp2_with fail
        go_step3
        go_wp2_with fail
        rw [Exit.noGoto_ret]
        refine ⟨rfl, _, by simp [results, Tryz.results62, go_sem] <;> rfl, ?_⟩
        exact ⟨rfl, ((Chg.refl _ _).alloc _).alloc _⟩
      · have hv : nextE l = escLoop l l.length 2 false := by rw [hv1, if_neg hA]
        obtain ⟨R, hR⟩ : ∃ R, R = escLoop l l.length 2 false := ⟨_, rfl⟩
        rw [hv, ← hR]
        obtain ⟨B, hB⟩ : ∃ B, B = (((byN l 1 : Nat) : Int) == 79) := ⟨_, rfl⟩
        have hB2 : B = decide (l.getD 1 0 = 79) := by rw [hB, e1]; rfl
        have HST := Lib.hid (fun (i f : Nat) (o : Bool) (hi : i < n) => esc_step l hb B hB2 i f o (by omega : i < l.length))
        have HEND := Lib.hid (fun (i f : Nat) (o : Bool) (hi : ¬ i < n) => esc_end l i f o (by omega : ¬ i < l.length))
        have HR := Lib.hid hR
        have HL := Lib.hid hl
        have hcs : n = 1 ∨ (1 < n ∧ ((byN l 1 : Nat) : Int) = 91) ∨ (1 < n ∧ ((byN l 1 : Nat) : Int) = 79) := by
          rcases Nat.lt_or_ge 1 n with h1 | h1
          · by_cases h2 : ((byN l 1 : Nat) : Int) = 91
            · exact .inr (.inl ⟨h1, h2⟩)
            · by_cases h3 : ((byN l 1 : Nat) : Int) = 79
              · exact .inr (.inr ⟨h1, h3⟩)
              · exact absurd ⟨h1, h2, h3⟩ hA
          · exact .inl (by omega)
        have hts : ∃ b2 b3 : Bool, ((((byN l 1 : Nat) : Int) != 91) = b2 ∧ (((byN l 1 : Nat) : Int) != 79) = b3) ∧ ((decide ((1 : Int) < n) = false) ∨ (decide ((1 : Int) < n) = true ∧ 1 < n ∧ (b2 = false ∨ (b2 = true ∧ b3 = false)))) := by
          refine ⟨_, _, ⟨rfl, rfl⟩, ?_⟩
          rcases hcs with h1 | ⟨h1, h2⟩ | ⟨h1, h2⟩
          · exact .inl (decide_eq_false (by omega))
          · exact .inr ⟨decide_eq_true (by omega), h1, .inl (by rw [h2]; rfl)⟩
          · exact .inr ⟨decide_eq_true (by omega), h1, .inr ⟨by rw [h2]; rfl, by rw [h2]; rfl⟩⟩
        obtain ⟨b2, b3, ⟨hb2, hb3⟩, hts⟩ := hts
        have HBB := Lib.hid hB
        have HC1 : Hid (1 < n → w.cell? ⟨g, off + 1, none⟩ = some (.int .u8 (byN l 1 : Nat))) := Lib.hid (fun h => HC.out 1 h)
        have tz : (((n : Nat) : Int) == 0) = false := by rw [beq_eq_false_iff_ne]; omega
        clear hv hv1 hA hB hB2 hR hcs e0 e1 h27 hl
        rcases hts with d1 | ⟨d1, h1, rfl | ⟨rfl, rfl⟩⟩
        all_goals (
          try (have c1 := HC1.out h1)
          go_enter Tryz.func62, Tryz.ntmps62
          go_wp2_with fail
          go_step3
          go_wp2_with fail
          go_step3
          go_wp2_with fail
          have C0 : Chg [] w ((w.alloc (.cells #[.int .i64 0, .int .i64 0] 48)).alloc (.cells #[.int .i64 15, .int .i64 0] 48)) := ((Chg.refl _ _).alloc _).alloc _
          have X0 : ((w.alloc (.cells #[.int .i64 0, .int .i64 0] 48)).alloc (.cells #[.int .i64 15, .int .i64 0] 48)).heap[w.heap.size]? = some (.cells #[.int .i64 0, .int .i64 0] 48 (0, 0)) := alloc_keeps (alloc_heap w _)
          have X1 : ((w.alloc (.cells #[.int .i64 0, .int .i64 0] 48)).alloc (.cells #[.int .i64 15, .int .i64 0] 48)).heap[w.heap.size + 1]? = some (.cells #[.int .i64 15, .int .i64 0] 48 (0, 0)) := alloc2_heap w _ _
          have HX := Lib.hid (And.intro C0 (And.intro X0 X1))
          clear C0 X0 X1 c0 hb2 hb3
          try clear c1
          go_loopw [6, 7] (fun ov iv wr => ∃ (i f : Nat) (o : Bool), ov = .bool o ∧ iv = .int .i64 i ∧ 2 ≤ i ∧ i ≤ max n 2 ∧ n ≤ i + f ∧ escLoop l f i o = R ∧ Chg [] w wr ∧ wr.heap[w.heap.size]? = some (.cells #[.int .i64 0, .int .i64 0] 48 (0, 0)) ∧ wr.heap[w.heap.size + 1]? = some (.cells #[.int .i64 15, .int .i64 0] 48 (0, 0))) (fun _ iv _ => max n 2 - (intOf iv).toNat)
          case atStart => exact ⟨2, l.length, false, rfl, rfl, by omega, by omega, by rw [HL.out]; omega, HR.out.symm, HX.out.1, HX.out.2.1, HX.out.2.2⟩
          case round =>
            obtain ⟨i, f, o, rfl, rfl, i1, i2, i3, hg, C2, X0, X1⟩ := hrel
            have HG := Lib.hid hg
            have HX2 := Lib.hid (And.intro C2 (And.intro X0 X1))
            clear hg C2 X0 X1
            by_cases hin : i < n
            · obtain ⟨f', rfl⟩ : ∃ f', f = f' + 1 := ⟨f - 1, by omega⟩
              have hs := HST.out i f' o hin
              rw [HG.out] at hs
              have HS2 := Lib.hid hs
              have ci := HX2.out.1.cell (HC.out i hin) (by simp)
              have d4 : decide ((i : Int) < n) = true := decide_eq_true (by omega)
              have x0 : wr.cell? ⟨w.heap.size, 0, none⟩ = some (.int .i64 0) := by rw [cell_of_heap HX2.out.2.1]; rfl
              have x1 : wr.cell? ⟨w.heap.size, 1, none⟩ = some (.int .i64 0) := by rw [cell_of_heap HX2.out.2.1]; rfl
              have f0 : wr.frozen? ⟨w.heap.size, 0, none⟩ = false := free_of_heap HX2.out.2.1 0
              have f1 : wr.frozen? ⟨w.heap.size, 1, none⟩ = false := free_of_heap HX2.out.2.1 1
              have y0 : wr.cell? ⟨w.heap.size + 1, 0, none⟩ = some (.int .i64 15) := by rw [cell_of_heap HX2.out.2.2]; rfl
              have y1 : wr.cell? ⟨w.heap.size + 1, 1, none⟩ = some (.int .i64 0) := by rw [cell_of_heap HX2.out.2.2]; rfl
              clear hs
              rcases h1 : btw (byN l i : Nat) 64 126 with _ | _
              · have hs := HS2.out
                rw [h1, if_neg (by decide)] at hs
                have HS3 := Lib.hid hs
                clear hs
                rcases hBv : B with _ | _
                · by_cases hfu : 34 ≤ i
                  · have d5 : decide ((34 : Int) ≤ i) = true := decide_eq_true (by omega)
                    have hv := HS3.out
                    rw [if_pos (.inr hfu)] at hv
                    have t79 : (((byN l 1 : Nat) : Int) == 79) = false := by rw [← HBB.out, hBv]
                    have c1 := HX2.out.1.cell (HC.out 1 (by omega)) (by simp)
                    subst hv
                    clear hBv
                    go_wp2_with fail
                    refine (between_any _ _ _ _).mono ?_
                    rintro e w3 ⟨rfl, rfl⟩
                    rw [h1]
                    go_wp2_with fail
                    rw [Exit.noGoto_ret]
                    obtain ⟨k0, k1, k2, _⟩ := key_stored HX2.out.2.1 (.int .i64 15) (.int .i64 0)
                    refine ⟨rfl, _, by simp [results, Tryz.results62, go_sem, k0, k1, k2] <;> rfl, ?_⟩
                    exact ⟨rfl, (HX2.out.1.setCell (p := ⟨w.heap.size, 0, none⟩) (Or.inr (Nat.le_refl _)) _).setCell (p := ⟨w.heap.size, 1, none⟩) (Or.inr (Nat.le_refl _)) _⟩
                  · have d5 : decide ((34 : Int) ≤ i) = false := decide_eq_false (by omega)
                    have hv0 := HS3.out
                    rw [if_neg (by rw [hBv]; simp; omega)] at hv0
                    have t79 : (((byN l 1 : Nat) : Int) == 79) = false := by rw [← HBB.out, hBv]
                    have c1 := HX2.out.1.cell (HC.out 1 (by omega)) (by simp)
                    have HS30 := Lib.hid hv0
                    clear hBv hv0
                    rcases h2 : btw (byN l i : Nat) 48 63 with _ | _
                    · have hs4 := HS30.out
                      rw [h2, if_neg (by simp)] at hs4
                      have HS4 := Lib.hid hs4
                      clear hs4
                      rcases h3 : btw (byN l i : Nat) 32 47 with _ | _
                      · have hv := HS4.out
                        rw [h3, if_neg (by decide)] at hv
                        subst hv
                        go_wp2_with fail
                        refine (between_any _ _ _ _).mono ?_
                        rintro e w3 ⟨rfl, rfl⟩
                        rw [h1]
                        go_wp2_with fail
                        refine (between_any _ _ _ _).mono ?_
                        rintro e w3 ⟨rfl, rfl⟩
                        rw [h2]
                        go_wp2_with fail
                        refine (between_any _ _ _ _).mono ?_
                        rintro e w3 ⟨rfl, rfl⟩
                        rw [h3]
                        go_wp2_with fail
                        rw [Exit.noGoto_ret]
                        obtain ⟨k0, k1, k2, _⟩ := key_stored HX2.out.2.1 (.int .i64 15) (.int .i64 0)
                        refine ⟨rfl, _, by simp [results, Tryz.results62, go_sem, k0, k1, k2] <;> rfl, ?_⟩
                        exact ⟨rfl, ((HX2.out.1).setCell (p := ⟨w.heap.size, 0, none⟩) (Or.inr (Nat.le_refl _)) _).setCell (p := ⟨w.heap.size, 1, none⟩) (Or.inr (Nat.le_refl _)) _⟩
                      · have hv := HS4.out
                        rw [h3, if_pos rfl] at hv
                        have HV := Lib.hid hv
                        clear hv
                        go_wp2_with fail
                        refine (between_any _ _ _ _).mono ?_
                        rintro e w3 ⟨rfl, rfl⟩
                        rw [h1]
                        go_wp2_with fail
                        refine (between_any _ _ _ _).mono ?_
                        rintro e w3 ⟨rfl, rfl⟩
                        rw [h2]
                        go_wp2_with fail
                        refine (between_any _ _ _ _).mono ?_
                        rintro e w3 ⟨rfl, rfl⟩
                        rw [h3]
                        go_wp2_with fail
                        go_roundw
                        case rel => exact ⟨i + 1, f', true, rfl, by go_num, by omega, by omega, by omega, HV.out.symm, HX2.out.1, HX2.out.2.1, HX2.out.2.2⟩
                        case measure => simp [intOf]; omega
                    · cases o with
                      | true =>
                        have hs4 := HS30.out
                        rw [if_neg (by simp)] at hs4
                        have HS4 := Lib.hid hs4
                        clear hs4
                        rcases h3 : btw (byN l i : Nat) 32 47 with _ | _
                        · have hv := HS4.out
                          rw [h3, if_neg (by decide)] at hv
                          subst hv
                          go_wp2_with fail
                          refine (between_any _ _ _ _).mono ?_
                          rintro e w3 ⟨rfl, rfl⟩
                          rw [h1]
                          go_wp2_with fail
                          refine (between_any _ _ _ _).mono ?_
                          rintro e w3 ⟨rfl, rfl⟩
                          rw [h2]
                          go_wp2_with fail
                          refine (between_any _ _ _ _).mono ?_
                          rintro e w3 ⟨rfl, rfl⟩
                          rw [h3]
                          go_wp2_with fail
                          rw [Exit.noGoto_ret]
                          obtain ⟨k0, k1, k2, _⟩ := key_stored HX2.out.2.1 (.int .i64 15) (.int .i64 0)
                          refine ⟨rfl, _, by simp [results, Tryz.results62, go_sem, k0, k1, k2] <;> rfl, ?_⟩
                          exact ⟨rfl, ((HX2.out.1).setCell (p := ⟨w.heap.size, 0, none⟩) (Or.inr (Nat.le_refl _)) _).setCell (p := ⟨w.heap.size, 1, none⟩) (Or.inr (Nat.le_refl _)) _⟩
                        · have hv := HS4.out
                          rw [h3, if_pos rfl] at hv
                          have HV := Lib.hid hv
                          clear hv
                          go_wp2_with fail
                          refine (between_any _ _ _ _).mono ?_
                          rintro e w3 ⟨rfl, rfl⟩
                          rw [h1]
                          go_wp2_with fail
                          refine (between_any _ _ _ _).mono ?_
                          rintro e w3 ⟨rfl, rfl⟩
                          rw [h2]
                          go_wp2_with fail
                          refine (between_any _ _ _ _).mono ?_
                          rintro e w3 ⟨rfl, rfl⟩
                          rw [h3]
                          go_wp2_with fail
                          go_roundw
                          case rel => exact ⟨i + 1, f', true, rfl, by go_num, by omega, by omega, by omega, HV.out.symm, HX2.out.1, HX2.out.2.1, HX2.out.2.2⟩
                          case measure => simp [intOf]; omega
                      | false =>
                        have hv := HS30.out
                        rw [h2, if_pos ⟨rfl, rfl⟩] at hv
                        have HV := Lib.hid hv
                        clear hv
                        go_wp2_with fail
                        refine (between_any _ _ _ _).mono ?_
                        rintro e w3 ⟨rfl, rfl⟩
                        rw [h1]
                        go_wp2_with fail
                        refine (between_any _ _ _ _).mono ?_
                        rintro e w3 ⟨rfl, rfl⟩
                        rw [h2]
                        go_wp2_with fail
                        go_roundw
                        case rel => exact ⟨i + 1, f', false, rfl, by go_num, by omega, by omega, by omega, HV.out.symm, HX2.out.1, HX2.out.2.1, HX2.out.2.2⟩
                        case measure => simp [intOf]; omega
                · have hv := HS3.out
                  rw [if_pos (.inl hBv)] at hv
                  have t79 : (((byN l 1 : Nat) : Int) == 79) = true := by rw [← HBB.out, hBv]
                  have c1 := HX2.out.1.cell (HC.out 1 (by omega)) (by simp)
                  subst hv
                  clear hBv
                  go_wp2_with fail
                  refine (between_any _ _ _ _).mono ?_
                  rintro e w3 ⟨rfl, rfl⟩
                  rw [h1]
                  go_wp2_with fail
                  rw [Exit.noGoto_ret]
                  obtain ⟨k0, k1, k2, _⟩ := key_stored HX2.out.2.1 (.int .i64 15) (.int .i64 0)
                  refine ⟨rfl, _, by simp [results, Tryz.results62, go_sem, k0, k1, k2] <;> rfl, ?_⟩
                  exact ⟨rfl, ((HX2.out.1).setCell (p := ⟨w.heap.size, 0, none⟩) (Or.inr (Nat.le_refl _)) _).setCell (p := ⟨w.heap.size, 1, none⟩) (Or.inr (Nat.le_refl _)) _⟩
              · have hv := HS2.out
                rw [if_pos h1] at hv
                have HS0 := HS.out.pre (k := i + 1) (by omega) (by omega)
                obtain ⟨s, hs⟩ : ∃ s, s = strOfNums (l.take (i + 1)) := ⟨_, rfl⟩
                have HCV := Lib.hid (show ∀ W, Chg [] w W → (convert 22 9 (.slice (some ⟨g, off, none⟩) (i + 1) c)).run Tryz.prog W = .ok (.string s) W from fun W C => by rw [hs]; exact tconv_at (HS0.chg0 C))
                have hkn := knownB_eq (l.take (i + 1)) (hb.take _)
                rw [← hs] at hkn
                clear hs HS0
                rcases hk : knownB s with _ | v
                · rw [hk] at hkn
                  rw [hkn] at hv
                  subst hv
                  have HKB := Lib.hid hk
                  have e1 : IntKind.i64.wrap ((i : Int) + 1) = (i : Int) + 1 := IntWalk.i64_in _ (by omega)
                  have e2 : (0 : Int) ≤ (i : Int) + 1 := by omega
                  have e3 : ((i : Int) + 1).toNat = i + 1 := by omega
                  have e4 : (i : Int) + 1 ≤ (c : Int) := by omega
                  clear hk hkn
                  go_wp2_with fail
                  refine (between_any _ _ _ _).mono ?_
                  rintro e w3 ⟨rfl, rfl⟩
                  rw [h1]
                  go_wp2_with fail
                  have cv := HCV.out _ HX2.out.1
                  go_region_held3 (fun w' => (convert 22 9 (.slice (some ⟨g, off, none⟩) (i + 1) c)).run Tryz.prog w' = .ok (.string s) w') (first | exact HCV.out _ HX4.out.1 | exact HCV.out _ HX2.out.1.drew | exact HCV.out _ HX2.out.1 | go_keep)
                    (first | (go_at_call 94; refine (known_any _).mono ?_; rintro e w4 ⟨b4, es4, rfl, C4, H4, M4, _⟩; have LK := MapV.look (mt := 158) (z := .int .i64 0) Tryz.underlying158 Tryz.underlying9 M4 keySt H4 (by kernel_rfl) s; rw [HKB.out] at LK; simp only [Option.getD_some, Option.getD_none, Option.isSome_some, Option.isSome_none] at LK; have HX4 := Lib.hid (And.intro (HX2.out.1.drew.trans C4 (U := []) (by simp) (by simp)) (And.intro (C4.heap HX2.out.2.1 (by simp)) (C4.heap HX2.out.2.2 (by simp)))); clear C4 H4 M4))
                  all_goals (
                    clear e1 e2 e3 e4 x0 x1 f0 f1 y0 y1 ci
                    have x0 : w4.cell? ⟨w.heap.size, 0, none⟩ = some (.int .i64 0) := by rw [cell_of_heap HX4.out.2.1]; rfl
                    have x1 : w4.cell? ⟨w.heap.size, 1, none⟩ = some (.int .i64 0) := by rw [cell_of_heap HX4.out.2.1]; rfl
                    have f0 : w4.frozen? ⟨w.heap.size, 0, none⟩ = false := free_of_heap HX4.out.2.1 0
                    have f1 : w4.frozen? ⟨w.heap.size, 1, none⟩ = false := free_of_heap HX4.out.2.1 1
                    have y0 : w4.cell? ⟨w.heap.size + 1, 0, none⟩ = some (.int .i64 15) := by rw [cell_of_heap HX4.out.2.2]; rfl
                    have y1 : w4.cell? ⟨w.heap.size + 1, 1, none⟩ = some (.int .i64 0) := by rw [cell_of_heap HX4.out.2.2]; rfl
                    go_wp2_with fail
                    rw [Exit.noGoto_ret]
                    obtain ⟨k0, k1, k2, _⟩ := key_stored HX4.out.2.1 (.int .i64 15) (.int .i64 0)
                    refine ⟨rfl, _, by simp [results, Tryz.results62, go_sem, k0, k1, k2] <;> rfl, ?_⟩
                    exact ⟨rfl, (HX4.out.1.setCell (p := ⟨w.heap.size, 0, none⟩) (Or.inr (Nat.le_refl _)) _).setCell (p := ⟨w.heap.size, 1, none⟩) (Or.inr (Nat.le_refl _)) _⟩)
                · rw [hk] at hkn
                  subst hkn
                  obtain ⟨kk, hkk⟩ : ∃ kk, knownK (l.take (i + 1)) = kk := ⟨_, rfl⟩
                  rw [hkk] at hv hk
                  have hkn : True := trivial
                  clear hkk
                  subst hv
                  have HKB := Lib.hid hk
                  have e1 : IntKind.i64.wrap ((i : Int) + 1) = (i : Int) + 1 := IntWalk.i64_in _ (by omega)
                  have e2 : (0 : Int) ≤ (i : Int) + 1 := by omega
                  have e3 : ((i : Int) + 1).toNat = i + 1 := by omega
                  have e4 : (i : Int) + 1 ≤ (c : Int) := by omega
                  clear hk hkn
                  go_wp2_with fail
                  refine (between_any _ _ _ _).mono ?_
                  rintro e w3 ⟨rfl, rfl⟩
                  rw [h1]
                  go_wp2_with fail
                  have cv := HCV.out _ HX2.out.1
                  go_region_held3 (fun w' => (convert 22 9 (.slice (some ⟨g, off, none⟩) (i + 1) c)).run Tryz.prog w' = .ok (.string s) w') (first | exact HCV.out _ HX4.out.1 | exact HCV.out _ HX2.out.1.drew | exact HCV.out _ HX2.out.1 | go_keep)
                    (first | (go_at_call 94; refine (known_any _).mono ?_; rintro e w4 ⟨b4, es4, rfl, C4, H4, M4, _⟩; have LK := MapV.look (mt := 158) (z := .int .i64 0) Tryz.underlying158 Tryz.underlying9 M4 keySt H4 (by kernel_rfl) s; rw [HKB.out] at LK; simp only [Option.getD_some, Option.getD_none, Option.isSome_some, Option.isSome_none] at LK; have HX4 := Lib.hid (And.intro (HX2.out.1.drew.trans C4 (U := []) (by simp) (by simp)) (And.intro (C4.heap HX2.out.2.1 (by simp)) (C4.heap HX2.out.2.2 (by simp)))); clear C4 H4 M4))
                  all_goals (
                    clear e1 e2 e3 e4 x0 x1 f0 f1 y0 y1 ci
                    have x0 : w4.cell? ⟨w.heap.size, 0, none⟩ = some (.int .i64 0) := by rw [cell_of_heap HX4.out.2.1]; rfl
                    have x1 : w4.cell? ⟨w.heap.size, 1, none⟩ = some (.int .i64 0) := by rw [cell_of_heap HX4.out.2.1]; rfl
                    have f0 : w4.frozen? ⟨w.heap.size, 0, none⟩ = false := free_of_heap HX4.out.2.1 0
                    have f1 : w4.frozen? ⟨w.heap.size, 1, none⟩ = false := free_of_heap HX4.out.2.1 1
                    have y0 : w4.cell? ⟨w.heap.size + 1, 0, none⟩ = some (.int .i64 15) := by rw [cell_of_heap HX4.out.2.2]; rfl
                    have y1 : w4.cell? ⟨w.heap.size + 1, 1, none⟩ = some (.int .i64 0) := by rw [cell_of_heap HX4.out.2.2]; rfl
                    go_wp2_with fail
                    rw [Exit.noGoto_ret]
                    obtain ⟨k0, k1, k2, _⟩ := key_stored HX4.out.2.1 (.int .i64 kk) (.int .i64 0)
                    refine ⟨rfl, _, by simp [results, Tryz.results62, go_sem, k0, k1, k2] <;> rfl, ?_⟩
                    exact ⟨rfl, (HX4.out.1.setCell (p := ⟨w.heap.size, 0, none⟩) (Or.inr (Nat.le_refl _)) _).setCell (p := ⟨w.heap.size, 1, none⟩) (Or.inr (Nat.le_refl _)) _⟩)
            · have hv := HEND.out i f o hin
              rw [HG.out, HL.out] at hv
              subst hv
              have d4 : decide ((i : Int) < n) = false := decide_eq_false (by omega)
              have x0 : wr.cell? ⟨w.heap.size, 0, none⟩ = some (.int .i64 0) := by rw [cell_of_heap HX2.out.2.1]; rfl
              have x1 : wr.cell? ⟨w.heap.size, 1, none⟩ = some (.int .i64 0) := by rw [cell_of_heap HX2.out.2.1]; rfl
              have f0 : wr.frozen? ⟨w.heap.size, 0, none⟩ = false := free_of_heap HX2.out.2.1 0
              have f1 : wr.frozen? ⟨w.heap.size, 1, none⟩ = false := free_of_heap HX2.out.2.1 1
              go_wp2_with fail
              rw [Exit.noGoto_ret]
              obtain ⟨k0, k1, k2, _⟩ := key_stored HX2.out.2.1 (.int .i64 0) (.int .i64 0)
              refine ⟨rfl, _, by simp [results, Tryz.results62, go_sem, k0, k1, k2] <;> rfl, ?_⟩
              exact ⟨rfl, (HX2.out.1.setCell (p := ⟨w.heap.size, 0, none⟩) (Or.inr (Nat.le_refl _)) _).setCell (p := ⟨w.heap.size, 1, none⟩) (Or.inr (Nat.le_refl _)) _⟩)
    · have hv : nextE l = (⟨0, 0⟩, 0, 8) := by
        unfold nextE
        rw [if_neg (by omega), if_pos (by rw [e0]; omega)]
      rw [hv]
      have t0 : (((byN l 0 : Nat) : Int) != 27) = true := by rw [bne_iff_ne]; omega
      clear hv e0 e1 h27 hl
      go_enter Tryz.func62, Tryz.ntmps62
      go_wp2_with fail
      go_step3
      go_wp2_with fail
      rw [Exit.noGoto_ret]
      refine ⟨rfl, _, by simp [results, Tryz.results62, go_sem] <;> rfl, ?_⟩
      exact ⟨rfl, (Chg.refl _ _).alloc _⟩
end Go.Proofs.YtafmnkngjjnpiaaGreatDoor

namespace Go.Proofs.YtafmnkngjjnpiaaGreatDoor
set_option linter.unusedVariables false
set_option linter.unusedSimpArgs false
set_option maxRecDepth 100000
open Go.RowKit
def OfPost (k : Ky) (w : World) (e : Ending) (w' : World) : Prop := e = .returned (.agg #[.int .i64 k.kind, .int .i64 k.c]) ∧ Chg [] w w'
set_option maxHeartbeats 4000000 in
theorem keyOf_any (c : Int) (w : World) : Calls Tryz.prog 98 #[.int .i64 c] w (OfPost (keyOf c) w) := by
  have C0 : Chg [] w (w.alloc (.cells #[.int .i64 0, .int .i64 0] 48)) := (Chg.refl _ _).alloc _
  have X0 := alloc_heap w (.cells #[.int .i64 0, .int .i64 0] 48)
  have HX := Lib.hid (And.intro C0 X0)
  clear C0 X0
  rcases hs : shownU c with _ | _
  · have hv : keyOf c = (match charK c with | some k => ⟨k, 0⟩ | none => ⟨15, 0⟩) := by unfold keyOf; rw [hs]; rfl
    rcases hk : charK c with _ | kk
    · rw [hk] at hv
      rw [hv]
      have hf : charV c = none := by unfold charV; rw [hk]; rfl
      have HF := Lib.hid hf
      clear hv hk hf
      go_enter Tryz.func98, Tryz.ntmps98
      go_wp2_with fail
      refine (printable_any c _).mono ?_
      rintro e w2 ⟨rfl, C2⟩
      rw [hs]
      go_wp2_with fail
      refine (chars_any _).mono ?_
      rintro e w3 ⟨b, es, cc, rfl, C3, H3, M3, _⟩
      have LK := MapV.look (mt := 192) (z := .int .i64 0) Tryz.underlying192 Tryz.underlying3 M3 keyI H3 (by kernel_rfl) c
      rw [HF.out] at LK
      simp only [Option.getD_none, Option.isSome_none] at LK
      have HX3 := Lib.hid (And.intro ((HX.out.1.trans C2 (U := []) (by simp) (by simp)).trans C3 (U := []) (by simp) (by simp)) (C3.heap (C2.heap HX.out.2 (by simp)) (by simp)))
      clear C2 C3 H3 M3
      have x0 : w3.cell? ⟨w.heap.size, 0, none⟩ = some (.int .i64 0) := by rw [cell_of_heap HX3.out.2]; rfl
      have x1 : w3.cell? ⟨w.heap.size, 1, none⟩ = some (.int .i64 0) := by rw [cell_of_heap HX3.out.2]; rfl
      have f0 : w3.frozen? ⟨w.heap.size, 0, none⟩ = false := free_of_heap HX3.out.2 0
      have f1 : w3.frozen? ⟨w.heap.size, 1, none⟩ = false := free_of_heap HX3.out.2 1
      go_wp2_with fail
      refine bodyPost_ret (v := .agg #[.int .i64 15, .int .i64 0]) ?_ rfl ⟨rfl, (HX3.out.1.setCell (p := ⟨w.heap.size, 0, none⟩) (Or.inr (Nat.le_refl _)) _).setCell (p := ⟨w.heap.size, 1, none⟩) (Or.inr (Nat.le_refl _)) _⟩
      exact results_cell_row rfl _ _ w.heap.size 48 #[.int .i64 15, .int .i64 0] (0, 0) _ rfl (key_stored HX3.out.2 _ _).2.2.2 Tryz.underlying48 rfl (by kernel_rfl)
    · rw [hk] at hv
      rw [hv]
      have hf : charV c = some (.int .i64 kk) := by unfold charV; rw [hk]; rfl
      have HF := Lib.hid hf
      clear hv hk hf
      go_enter Tryz.func98, Tryz.ntmps98
      go_wp2_with fail
      refine (printable_any c _).mono ?_
      rintro e w2 ⟨rfl, C2⟩
      rw [hs]
      go_wp2_with fail
      refine (chars_any _).mono ?_
      rintro e w3 ⟨b, es, cc, rfl, C3, H3, M3, _⟩
      have LK := MapV.look (mt := 192) (z := .int .i64 0) Tryz.underlying192 Tryz.underlying3 M3 keyI H3 (by kernel_rfl) c
      rw [HF.out] at LK
      simp only [Option.getD_some, Option.isSome_some] at LK
      have HX3 := Lib.hid (And.intro ((HX.out.1.trans C2 (U := []) (by simp) (by simp)).trans C3 (U := []) (by simp) (by simp)) (C3.heap (C2.heap HX.out.2 (by simp)) (by simp)))
      clear C2 C3 H3 M3
      have x0 : w3.cell? ⟨w.heap.size, 0, none⟩ = some (.int .i64 0) := by rw [cell_of_heap HX3.out.2]; rfl
      have x1 : w3.cell? ⟨w.heap.size, 1, none⟩ = some (.int .i64 0) := by rw [cell_of_heap HX3.out.2]; rfl
      have f0 : w3.frozen? ⟨w.heap.size, 0, none⟩ = false := free_of_heap HX3.out.2 0
      have f1 : w3.frozen? ⟨w.heap.size, 1, none⟩ = false := free_of_heap HX3.out.2 1
      go_wp2_with fail
      refine bodyPost_ret (v := .agg #[.int .i64 kk, .int .i64 0]) ?_ rfl ⟨rfl, (HX3.out.1.setCell (p := ⟨w.heap.size, 0, none⟩) (Or.inr (Nat.le_refl _)) _).setCell (p := ⟨w.heap.size, 1, none⟩) (Or.inr (Nat.le_refl _)) _⟩
      exact results_cell_row rfl _ _ w.heap.size 48 #[.int .i64 kk, .int .i64 0] (0, 0) _ rfl (key_stored HX3.out.2 _ _).2.2.2 Tryz.underlying48 rfl (by kernel_rfl)
  · have hv : keyOf c = ⟨0, c⟩ := by unfold keyOf; rw [hs]; rfl
    rw [hv]
    clear hv
    go_enter Tryz.func98, Tryz.ntmps98
    go_wp2_with fail
    refine (printable_any c _).mono ?_
    rintro e w2 ⟨rfl, C2⟩
    rw [hs]
    have HX3 := Lib.hid (And.intro (HX.out.1.trans C2 (U := []) (by simp) (by simp)) (C2.heap HX.out.2 (by simp)))
    clear C2
    have x0 : w2.cell? ⟨w.heap.size, 0, none⟩ = some (.int .i64 0) := by rw [cell_of_heap HX3.out.2]; rfl
    have x1 : w2.cell? ⟨w.heap.size, 1, none⟩ = some (.int .i64 0) := by rw [cell_of_heap HX3.out.2]; rfl
    have f0 : w2.frozen? ⟨w.heap.size, 0, none⟩ = false := free_of_heap HX3.out.2 0
    have f1 : w2.frozen? ⟨w.heap.size, 1, none⟩ = false := free_of_heap HX3.out.2 1
    go_wp2_with fail
    refine bodyPost_ret (v := .agg #[.int .i64 0, .int .i64 c]) ?_ rfl ⟨rfl, (HX3.out.1.setCell (p := ⟨w.heap.size, 0, none⟩) (Or.inr (Nat.le_refl _)) _).setCell (p := ⟨w.heap.size, 1, none⟩) (Or.inr (Nat.le_refl _)) _⟩
    exact results_cell_row rfl _ _ w.heap.size 48 #[.int .i64 0, .int .i64 c] (0, 0) _ rfl (key_stored HX3.out.2 _ _).2.2.2 Tryz.underlying48 rfl (by kernel_rfl)
end Go.Proofs.YtafmnkngjjnpiaaGreatDoor

namespace Go.Proofs.YtafmnkngjjnpiaaGreatDoor
set_option linter.unusedVariables false
set_option linter.unusedSimpArgs false
set_option maxRecDepth 100000
open Go.RowKit
structure DecIs (w : World) (bD bA bC N : Nat) (d : Dc) : Prop where
  hD : w.heap[bD]? = some (.cells #[.pointer (some ⟨bA, 0, none⟩), .bool d.p] 107 (0, 0))
  ar : Ar.ArenaIs w bA bC N d.h
  nA : bD ≠ bA
  nC : bD ≠ bC
  by' : ByR d.h
theorem DecIs.chg {w w' : World} {bD bA bC N : Nat} {d : Dc} {S : List Nat} (h : DecIs w bD bA bC N d) (c : Chg S w w') (h1 : bD ∉ S) (h2 : bA ∉ S) (h3 : bC ∉ S) : DecIs w' bD bA bC N d :=
  ⟨c.heap h.hD h1, h.ar.chg c h2 h3, h.nA, h.nC, h.by'⟩
theorem DecIs.chg0 {w w' : World} {bD bA bC N : Nat} {d : Dc} (h : DecIs w bD bA bC N d) (c : Chg [] w w') : DecIs w' bD bA bC N d := h.chg c (by simp) (by simp) (by simp)
structure SeqW (bD : Nat) (aV : Value) (b : Nat) (p : Bool) (w w3 : World) : Prop where
  c : Chg [bD] w w3
  r : ∃ a0 c0, w3.heap[b]? = some (.cells #[a0, c0] 48 (0, 0))
  d : w3.heap[bD]? = some (.cells #[aV, .bool p] 107 (0, 0))
  lt : bD < w.heap.size
  lb : w.heap.size ≤ b
theorem SeqW.drewN {bD b n : Nat} {aV : Value} {p : Bool} {w w3 : World} (h : SeqW bD aV b p w w3) : SeqW bD aV b p w (w3.drewN n) := ⟨h.c.drewN _, h.r, h.d, h.lt, h.lb⟩
theorem SeqW.set {bD b : Nat} {aV : Value} {p q : Bool} {w w3 : World} (h : SeqW bD aV b p w w3) : SeqW bD aV b q w (w3.setCell ⟨bD, 1, none⟩ (.bool q)) := by
  obtain ⟨a0, c0, hr⟩ := h.r
  have k : Chg [bD] w3 (w3.setCell ⟨bD, 1, none⟩ (.bool q)) := (Chg.refl [bD] w3).setCell (p := ⟨bD, 1, none⟩) (Or.inl List.mem_cons_self) _
  exact ⟨h.c.setCell (p := ⟨bD, 1, none⟩) (Or.inl List.mem_cons_self) _, ⟨a0, c0, k.heap hr (by have := h.lt; have := h.lb; simp; omega)⟩, by rw [setCell_heap _ h.d]; rfl, h.lt, h.lb⟩
theorem SeqW.fin {bD b : Nat} {aV K C : Value} {p : Bool} {w w3 : World} (h : SeqW bD aV b p w w3) :
    ((w3.setCell ⟨b, 0, none⟩ K).setCell ⟨b, 1, none⟩ C).heap[b]? = some (.cells #[K, C] 48 (0, 0)) ∧ Chg [bD] w ((w3.setCell ⟨b, 0, none⟩ K).setCell ⟨b, 1, none⟩ C) ∧ ((w3.setCell ⟨b, 0, none⟩ K).setCell ⟨b, 1, none⟩ C).heap[bD]? = some (.cells #[aV, .bool p] 107 (0, 0)) := by
  obtain ⟨a0, c0, hr⟩ := h.r
  have k : Chg [b] w3 ((w3.setCell ⟨b, 0, none⟩ K).setCell ⟨b, 1, none⟩ C) := ((Chg.refl [b] w3).setCell (p := ⟨b, 0, none⟩) (Or.inl List.mem_cons_self) _).setCell (p := ⟨b, 1, none⟩) (Or.inl List.mem_cons_self) _
  exact ⟨(key_stored hr K C).2.2.2, (h.c.setCell (p := ⟨b, 0, none⟩) (Or.inr h.lb) _).setCell (p := ⟨b, 1, none⟩) (Or.inr h.lb) _, k.heap h.d (by have := h.lt; have := h.lb; simp; omega)⟩
def SeqPost (bD : Nat) (aV : Value) (p : Bool) (k : Ky) (w : World) (e : Ending) (w' : World) : Prop :=
  e = .returned (.agg #[.int .i64 (seqD p k).1.kind, .int .i64 (seqD p k).1.c]) ∧ Chg [bD] w w' ∧ w'.heap[bD]? = some (.cells #[aV, .bool (seqD p k).2] 107 (0, 0))
set_option maxHeartbeats 8000000 in
theorem sequence_any (bD : Nat) (aV : Value) (p : Bool) (k : Ky) (w : World) (h : w.heap[bD]? = some (.cells #[aV, .bool p] 107 (0, 0))) :
    Calls Tryz.prog 64 #[.pointer (some ⟨bD, 0, none⟩), .agg #[.int .i64 k.kind, .int .i64 k.c]] w (SeqPost bD aV p k w) := by
  obtain ⟨kk, kc⟩ := k
  have C1 : Chg [] w ((w.alloc (.cells #[.int .i64 kk, .int .i64 kc] 48)).alloc (.cells #[.int .i64 0, .int .i64 0] 48)) := ((Chg.refl _ _).alloc _).alloc _
  have X0 : ((w.alloc (.cells #[.int .i64 kk, .int .i64 kc] 48)).alloc (.cells #[.int .i64 0, .int .i64 0] 48)).heap[w.heap.size]? = some (.cells #[.int .i64 kk, .int .i64 kc] 48 (0, 0)) := alloc_keeps (alloc_heap w _)
  have X1 : ((w.alloc (.cells #[.int .i64 kk, .int .i64 kc] 48)).alloc (.cells #[.int .i64 0, .int .i64 0] 48)).heap[w.heap.size + 1]? = some (.cells #[.int .i64 0, .int .i64 0] 48 (0, 0)) := alloc2_heap w _ _
  have X2 := C1.heap h (by simp)
  have hlt := heap_lt h
  have HW := Lib.hid (And.intro C1 (And.intro X0 (And.intro X1 X2)))
  dsimp only
  obtain ⟨w2, hw2⟩ : ∃ w2, ((w.alloc (.cells #[.int .i64 kk, .int .i64 kc] 48)).alloc (.cells #[.int .i64 0, .int .i64 0] 48)) = w2 := ⟨_, rfl⟩
  rw [hw2] at HW
  have HG := Lib.hid hw2
  clear C1 X0 X1 X2 h hw2
  have b0 : w2.cell? ⟨bD, 1, none⟩ = some (.bool p) := by rw [cell_of_heap HW.out.2.2.2]; rfl
  have bf : w2.frozen? ⟨bD, 1, none⟩ = false := free_of_heap HW.out.2.2.2 1
  have k0 : w2.cell? ⟨w.heap.size, 0, none⟩ = some (.int .i64 kk) := by rw [cell_of_heap HW.out.2.1]; rfl
  have k1 : w2.cell? ⟨w.heap.size, 1, none⟩ = some (.int .i64 kc) := by rw [cell_of_heap HW.out.2.1]; rfl
  have r0 : w2.cell? ⟨w.heap.size + 1, 0, none⟩ = some (.int .i64 0) := by rw [cell_of_heap HW.out.2.2.1]; rfl
  have r1 : w2.cell? ⟨w.heap.size + 1, 1, none⟩ = some (.int .i64 0) := by rw [cell_of_heap HW.out.2.2.1]; rfl
  have g0 : w2.frozen? ⟨w.heap.size + 1, 0, none⟩ = false := free_of_heap HW.out.2.2.1 0
  have g1 : w2.frozen? ⟨w.heap.size + 1, 1, none⟩ = false := free_of_heap HW.out.2.2.1 1
  have n1 : ¬ bD = w.heap.size := by omega
  have n2 : ¬ bD = w.heap.size + 1 := by omega
  have n3 : ¬ w.heap.size = bD := by omega
  have n4 : ¬ w.heap.size + 1 = bD := by omega
  have HLT := Lib.hid hlt
  clear hlt
  have HSW : Hid (SeqW bD aV (w.heap.size + 1) p w w2) := Lib.hid ⟨HW.out.1.mono (by simp), ⟨_, _, HW.out.2.2.1⟩, HW.out.2.2.2, HLT.out, by omega⟩
  by_cases hq : kk = 14
  · subst hq
    cases p with
    | true =>
      have hv : seqD true ⟨14, kc⟩ = (⟨14, kc⟩, false) := by unfold seqD; simp
      unfold SeqPost
      rw [hv]
      clear hv
      go_enter Tryz.func64, Tryz.ntmps64
      go_wp2_with fail
      rw [HG.out]
      go_quiet (fail)
      go_wp2_with fail
      refine bodyPost_ret (v := .agg #[.int .i64 14, .int .i64 kc]) ?_ rfl ⟨rfl, HSW.out.drewN.set.fin.2.1, HSW.out.drewN.set.fin.2.2⟩
      exact results_cell_row rfl _ _ (w.heap.size + 1) 48 #[.int .i64 14, .int .i64 kc] (0, 0) _ rfl HSW.out.drewN.set.fin.1 Tryz.underlying48 rfl (by kernel_rfl)
    | false =>
      have hv : seqD false ⟨14, kc⟩ = (⟨15, 0⟩, false) := by unfold seqD; simp
      unfold SeqPost
      rw [hv]
      clear hv
      go_enter Tryz.func64, Tryz.ntmps64
      go_wp2_with fail
      rw [HG.out]
      go_quiet (fail)
      go_wp2_with fail
      refine bodyPost_ret (v := .agg #[.int .i64 15, .int .i64 0]) ?_ rfl ⟨rfl, HSW.out.drewN.fin.2.1, HSW.out.drewN.fin.2.2⟩
      exact results_cell_row rfl _ _ (w.heap.size + 1) 48 #[.int .i64 15, .int .i64 0] (0, 0) _ rfl HSW.out.drewN.fin.1 Tryz.underlying48 rfl (by kernel_rfl)
  · have t14 : (kk == 14) = false := by rw [beq_eq_false_iff_ne]; exact hq
    cases p with
    | true =>
      have hv : seqD true ⟨kk, kc⟩ = (⟨15, 0⟩, true) := by unfold seqD; simp[hq]
      unfold SeqPost
      rw [hv]
      clear hv
      clear hq
      go_enter Tryz.func64, Tryz.ntmps64
      go_wp2_with fail
      rw [HG.out]
      go_quiet (fail)
      go_wp2_with fail
      refine bodyPost_ret (v := .agg #[.int .i64 15, .int .i64 0]) ?_ rfl ⟨rfl, HSW.out.drewN.fin.2.1, HSW.out.drewN.fin.2.2⟩
      exact results_cell_row rfl _ _ (w.heap.size + 1) 48 #[.int .i64 15, .int .i64 0] (0, 0) _ rfl HSW.out.drewN.fin.1 Tryz.underlying48 rfl (by kernel_rfl)
    | false =>
      by_cases h13 : kk = 13
      · subst h13
        have hv : seqD false ⟨13, kc⟩ = (⟨13, kc⟩, true) := by unfold seqD; simp
        unfold SeqPost
        rw [hv]
        clear hv
        clear hq
        go_enter Tryz.func64, Tryz.ntmps64
        go_wp2_with fail
        rw [HG.out]
        go_quiet (fail)
        go_wp2_with fail
        refine bodyPost_ret (v := .agg #[.int .i64 13, .int .i64 kc]) ?_ rfl ⟨rfl, HSW.out.drewN.set.fin.2.1, HSW.out.drewN.set.fin.2.2⟩
        exact results_cell_row rfl _ _ (w.heap.size + 1) 48 #[.int .i64 13, .int .i64 kc] (0, 0) _ rfl HSW.out.drewN.set.fin.1 Tryz.underlying48 rfl (by kernel_rfl)
      · have t13 : (kk == 13) = false := by rw [beq_eq_false_iff_ne]; exact h13
        have hv : seqD false ⟨kk, kc⟩ = (⟨kk, kc⟩, false) := by unfold seqD; simp[hq, h13]
        unfold SeqPost
        rw [hv]
        clear hv
        clear hq h13
        go_enter Tryz.func64, Tryz.ntmps64
        go_wp2_with fail
        rw [HG.out]
        go_quiet (fail)
        go_wp2_with fail
        refine bodyPost_ret (v := .agg #[.int .i64 kk, .int .i64 kc]) ?_ rfl ⟨rfl, HSW.out.drewN.fin.2.1, HSW.out.drewN.fin.2.2⟩
        exact results_cell_row rfl _ _ (w.heap.size + 1) 48 #[.int .i64 kk, .int .i64 kc] (0, 0) _ rfl HSW.out.drewN.fin.1 Tryz.underlying48 rfl (by kernel_rfl)
def CharPost (p : Bool) (c : Int) (w : World) (e : Ending) (w' : World) : Prop := e = .returned (.agg #[.int .i64 (charD p c).kind, .int .i64 (charD p c).c]) ∧ Chg [] w w'
set_option maxHeartbeats 8000000 in
theorem char_any (bD : Nat) (aV : Value) (p : Bool) (c : Int) (w : World) (h : w.heap[bD]? = some (.cells #[aV, .bool p] 107 (0, 0))) :
    Calls Tryz.prog 66 #[.pointer (some ⟨bD, 0, none⟩), .int .i64 c] w (CharPost p c w) := by
  obtain ⟨kk, kc, hk⟩ : ∃ kk kc, keyOf c = ⟨kk, kc⟩ := ⟨_, _, rfl⟩
  have HK := Lib.hid hk
  have C0 : Chg [] w (w.alloc (.cells #[.int .i64 0, .int .i64 0] 48)) := (Chg.refl _ _).alloc _
  have X0 := alloc_heap w (.cells #[.int .i64 0, .int .i64 0] 48)
  have HX := Lib.hid (And.intro C0 (And.intro X0 (C0.heap h (by simp))))
  have hv : charD p c = if p = true ∧ kk ≠ 0 then ⟨15, 0⟩ else ⟨kk, kc⟩ := by unfold charD; rw [hk]
  have hlt := heap_lt h
  have n1 : ¬ bD = w.heap.size := by omega
  clear C0 X0 h hk hlt
  unfold CharPost
  cases p with
  | false =>
    have hv2 : charD false c = ⟨kk, kc⟩ := by rw [hv]; simp
    rw [hv2]
    clear hv hv2
    go_enter Tryz.func66, Tryz.ntmps66
    go_wp2_with fail
    refine (keyOf_any c _).mono ?_
    rintro e w2 ⟨rfl, C2⟩
    rw [HK.out]
    have C3 := Lib.hid (HX.out.1.trans C2 (U := []) (by simp) (by simp))
    have R2 := C2.heap HX.out.2.1 (by simp)
    have D2 := C2.heap HX.out.2.2 (by simp)
    have R3 : (w2.alloc (.cells #[.int .i64 kk, .int .i64 kc] 48)).heap[w.heap.size]? = some (.cells #[.int .i64 0, .int .i64 0] 48 (0, 0)) := alloc_keeps R2
    have K3 := alloc_heap w2 (.cells #[.int .i64 kk, .int .i64 kc] 48)
    have D3 : (w2.alloc (.cells #[.int .i64 kk, .int .i64 kc] 48)).heap[bD]? = some (.cells #[aV, .bool false] 107 (0, 0)) := alloc_keeps D2
    have HE := Lib.hid (And.intro (C3.out.alloc (.cells #[.int .i64 kk, .int .i64 kc] 48)) (And.intro R3 (And.intro K3 D3)))
    clear C2 C3 R2 D2 R3 K3 D3
    obtain ⟨b2, hb2⟩ : ∃ b, b = w2.heap.size := ⟨_, rfl⟩
    have HB2 := Lib.hid hb2
    rw [← hb2] at HE
    obtain ⟨w3, hw3⟩ : ∃ w3, (w2.alloc (.cells #[.int .i64 kk, .int .i64 kc] 48)) = w3 := ⟨_, rfl⟩
    rw [hw3] at HE
    have HW3 := Lib.hid hw3
    clear hb2 hw3
    have b0 : w3.cell? ⟨bD, 1, none⟩ = some (.bool false) := by rw [cell_of_heap HE.out.2.2.2]; rfl
    have k0 : w3.cell? ⟨b2, 0, none⟩ = some (.int .i64 kk) := by rw [cell_of_heap HE.out.2.2.1]; rfl
    have k1 : w3.cell? ⟨b2, 1, none⟩ = some (.int .i64 kc) := by rw [cell_of_heap HE.out.2.2.1]; rfl
    have r0 : w3.cell? ⟨w.heap.size, 0, none⟩ = some (.int .i64 0) := by rw [cell_of_heap HE.out.2.1]; rfl
    have r1 : w3.cell? ⟨w.heap.size, 1, none⟩ = some (.int .i64 0) := by rw [cell_of_heap HE.out.2.1]; rfl
    have g0 : w3.frozen? ⟨w.heap.size, 0, none⟩ = false := free_of_heap HE.out.2.1 0
    have g1 : w3.frozen? ⟨w.heap.size, 1, none⟩ = false := free_of_heap HE.out.2.1 1
    go_upto_region 2 with (fail)
    rw [← HB2.out, HW3.out]
    go_wp2_with fail
    refine bodyPost_ret (v := .agg #[.int .i64 kk, .int .i64 kc]) ?_ rfl ⟨rfl, (HE.out.1.setCell (p := ⟨w.heap.size, 0, none⟩) (Or.inr (Nat.le_refl _)) _).setCell (p := ⟨w.heap.size, 1, none⟩) (Or.inr (Nat.le_refl _)) _⟩
    exact results_cell_row rfl _ _ w.heap.size 48 #[.int .i64 kk, .int .i64 kc] (0, 0) _ rfl (key_stored HE.out.2.1 _ _).2.2.2 Tryz.underlying48 rfl (by kernel_rfl)
  | true =>
    by_cases h0 : kk = 0
    · have hv2 : charD true c = ⟨kk, kc⟩ := by rw [hv, if_neg (by simp [h0])]
      rw [hv2]
      have t0 : (kk != 0) = false := by rw [h0]; rfl
      clear hv hv2 h0
      go_enter Tryz.func66, Tryz.ntmps66
      go_wp2_with fail
      refine (keyOf_any c _).mono ?_
      rintro e w2 ⟨rfl, C2⟩
      rw [HK.out]
      have C3 := Lib.hid (HX.out.1.trans C2 (U := []) (by simp) (by simp))
      have R2 := C2.heap HX.out.2.1 (by simp)
      have D2 := C2.heap HX.out.2.2 (by simp)
      have R3 : (w2.alloc (.cells #[.int .i64 kk, .int .i64 kc] 48)).heap[w.heap.size]? = some (.cells #[.int .i64 0, .int .i64 0] 48 (0, 0)) := alloc_keeps R2
      have K3 := alloc_heap w2 (.cells #[.int .i64 kk, .int .i64 kc] 48)
      have D3 : (w2.alloc (.cells #[.int .i64 kk, .int .i64 kc] 48)).heap[bD]? = some (.cells #[aV, .bool true] 107 (0, 0)) := alloc_keeps D2
      have HE := Lib.hid (And.intro (C3.out.alloc (.cells #[.int .i64 kk, .int .i64 kc] 48)) (And.intro R3 (And.intro K3 D3)))
      clear C2 C3 R2 D2 R3 K3 D3
      obtain ⟨b2, hb2⟩ : ∃ b, b = w2.heap.size := ⟨_, rfl⟩
      have HB2 := Lib.hid hb2
      rw [← hb2] at HE
      obtain ⟨w3, hw3⟩ : ∃ w3, (w2.alloc (.cells #[.int .i64 kk, .int .i64 kc] 48)) = w3 := ⟨_, rfl⟩
      rw [hw3] at HE
      have HW3 := Lib.hid hw3
      clear hb2 hw3
      have b0 : w3.cell? ⟨bD, 1, none⟩ = some (.bool true) := by rw [cell_of_heap HE.out.2.2.2]; rfl
      have k0 : w3.cell? ⟨b2, 0, none⟩ = some (.int .i64 kk) := by rw [cell_of_heap HE.out.2.2.1]; rfl
      have k1 : w3.cell? ⟨b2, 1, none⟩ = some (.int .i64 kc) := by rw [cell_of_heap HE.out.2.2.1]; rfl
      have r0 : w3.cell? ⟨w.heap.size, 0, none⟩ = some (.int .i64 0) := by rw [cell_of_heap HE.out.2.1]; rfl
      have r1 : w3.cell? ⟨w.heap.size, 1, none⟩ = some (.int .i64 0) := by rw [cell_of_heap HE.out.2.1]; rfl
      have g0 : w3.frozen? ⟨w.heap.size, 0, none⟩ = false := free_of_heap HE.out.2.1 0
      have g1 : w3.frozen? ⟨w.heap.size, 1, none⟩ = false := free_of_heap HE.out.2.1 1
      go_upto_region 2 with (fail)
      rw [← HB2.out, HW3.out]
      go_wp2_with fail
      refine bodyPost_ret (v := .agg #[.int .i64 kk, .int .i64 kc]) ?_ rfl ⟨rfl, (HE.out.1.setCell (p := ⟨w.heap.size, 0, none⟩) (Or.inr (Nat.le_refl _)) _).setCell (p := ⟨w.heap.size, 1, none⟩) (Or.inr (Nat.le_refl _)) _⟩
      exact results_cell_row rfl _ _ w.heap.size 48 #[.int .i64 kk, .int .i64 kc] (0, 0) _ rfl (key_stored HE.out.2.1 _ _).2.2.2 Tryz.underlying48 rfl (by kernel_rfl)
    · have hv2 : charD true c = ⟨15, 0⟩ := by rw [hv, if_pos ⟨rfl, h0⟩]
      rw [hv2]
      have t0 : (kk != 0) = true := by rw [bne_iff_ne]; exact h0
      clear hv hv2 h0
      go_enter Tryz.func66, Tryz.ntmps66
      go_wp2_with fail
      refine (keyOf_any c _).mono ?_
      rintro e w2 ⟨rfl, C2⟩
      rw [HK.out]
      have C3 := Lib.hid (HX.out.1.trans C2 (U := []) (by simp) (by simp))
      have R2 := C2.heap HX.out.2.1 (by simp)
      have D2 := C2.heap HX.out.2.2 (by simp)
      have R3 : (w2.alloc (.cells #[.int .i64 kk, .int .i64 kc] 48)).heap[w.heap.size]? = some (.cells #[.int .i64 0, .int .i64 0] 48 (0, 0)) := alloc_keeps R2
      have K3 := alloc_heap w2 (.cells #[.int .i64 kk, .int .i64 kc] 48)
      have D3 : (w2.alloc (.cells #[.int .i64 kk, .int .i64 kc] 48)).heap[bD]? = some (.cells #[aV, .bool true] 107 (0, 0)) := alloc_keeps D2
      have HE := Lib.hid (And.intro (C3.out.alloc (.cells #[.int .i64 kk, .int .i64 kc] 48)) (And.intro R3 (And.intro K3 D3)))
      clear C2 C3 R2 D2 R3 K3 D3
      obtain ⟨b2, hb2⟩ : ∃ b, b = w2.heap.size := ⟨_, rfl⟩
      have HB2 := Lib.hid hb2
      rw [← hb2] at HE
      obtain ⟨w3, hw3⟩ : ∃ w3, (w2.alloc (.cells #[.int .i64 kk, .int .i64 kc] 48)) = w3 := ⟨_, rfl⟩
      rw [hw3] at HE
      have HW3 := Lib.hid hw3
      clear hb2 hw3
      have b0 : w3.cell? ⟨bD, 1, none⟩ = some (.bool true) := by rw [cell_of_heap HE.out.2.2.2]; rfl
      have k0 : w3.cell? ⟨b2, 0, none⟩ = some (.int .i64 kk) := by rw [cell_of_heap HE.out.2.2.1]; rfl
      have k1 : w3.cell? ⟨b2, 1, none⟩ = some (.int .i64 kc) := by rw [cell_of_heap HE.out.2.2.1]; rfl
      have r0 : w3.cell? ⟨w.heap.size, 0, none⟩ = some (.int .i64 0) := by rw [cell_of_heap HE.out.2.1]; rfl
      have r1 : w3.cell? ⟨w.heap.size, 1, none⟩ = some (.int .i64 0) := by rw [cell_of_heap HE.out.2.1]; rfl
      have g0 : w3.frozen? ⟨w.heap.size, 0, none⟩ = false := free_of_heap HE.out.2.1 0
      have g1 : w3.frozen? ⟨w.heap.size, 1, none⟩ = false := free_of_heap HE.out.2.1 1
      go_upto_region 2 with (fail)
      rw [← HB2.out, HW3.out]
      go_wp2_with fail
      refine bodyPost_ret (v := .agg #[.int .i64 15, .int .i64 0]) ?_ rfl ⟨rfl, (HE.out.1.setCell (p := ⟨w.heap.size, 0, none⟩) (Or.inr (Nat.le_refl _)) _).setCell (p := ⟨w.heap.size, 1, none⟩) (Or.inr (Nat.le_refl _)) _⟩
      exact results_cell_row rfl _ _ w.heap.size 48 #[.int .i64 15, .int .i64 0] (0, 0) _ rfl (key_stored HE.out.2.1 _ _).2.2.2 Tryz.underlying48 rfl (by kernel_rfl)
end Go.Proofs.YtafmnkngjjnpiaaGreatDoor

namespace Go.Proofs.YtafmnkngjjnpiaaGreatDoor
set_option linter.unusedVariables false
set_option linter.unusedSimpArgs false
set_option maxRecDepth 100000
open Go.RowKit
theorem splice_hd (a b : List Value) : ∀ (j : Nat) (u : Value), b[j]? = some u → (splice a 0 b)[j]? = some u := by
  intro j u hu
  unfold splice
  have hlt := (List.getElem?_eq_some_iff.1 hu).1
  rw [List.take_zero, List.nil_append, List.getElem?_append_left hlt]
  exact hu
theorem clear_arr {w : World} {g n c : Nat} {t : TypeId} {cur : Array Value} (hg : w.heap[g]? = some (.cells cur t (0, 0))) (hn : n ≤ cur.size) (ty : TypeId) :
    ∃ w', (Builtin.clear_ #[22] ty #[.slice (some ⟨g, 0, none⟩) n c]).run Tryz.prog w = .ok (.tuple #[]) w' ∧ Chg [g] w w' := by
  have hz : ∀ w : World, (zeroValue 5).run Tryz.prog w = .ok (.int .u8 0) w := fun w => by kernel_rfl
  by_cases h0 : n = 0
  · subst h0
    exact ⟨w, by simp [Builtin.clear_, run_underlying Tryz.underlying22], Chg.refl _ _⟩
  · have hzc : (Builtin.zeroCells (Value.int .u8 0).cells n).toList = List.replicate n (Value.int .u8 0) := by
      rw [show (Value.int .u8 0).cells = #[Value.int .u8 0] from rfl]
      simp [Builtin.zeroCells]
      apply List.ext_getElem
      · simp
      · intro i h1 h2
        simp [Nat.mod_one]
    have hst := run_storeCells_at Tryz.prog g 0 t (List.replicate n (Value.int .u8 0)) 0 cur w hg (by simp; omega) (by intro v hv'; rw [List.eq_of_mem_replicate hv']; rfl)
    simp only [Nat.add_zero] at hst
    refine ⟨w.setRow g (List.take 0 cur.toList ++ List.replicate n (Value.int .u8 0) ++ List.drop (0 + (List.replicate n (Value.int .u8 0)).length) cur.toList).toArray, ?_, (Chg.refl _ _).setRow (g := g) (Or.inl (by simp)) _⟩
    obtain ⟨m, rfl⟩ : ∃ m, n = m + 1 := ⟨n - 1, by omega⟩
    simp [Builtin.clear_, run_underlying Tryz.underlying22, hz, hzc, hst]
theorem next_leave {bR b4 : Nat} {K C : Value} {B : Bool} {cur : Array Value} {tmps : Array Value} {wf : World} {R : Ending → World → Prop} (hg : wf.heap[b4]? = some (.cells cur 133 (0, 0))) (hsz : 36 ≤ cur.size)
    (hr : wf.heap[bR]? = some (.cells #[K, C] 48 (0, 0))) (hne : bR ≠ b4) (hp : tmps.getD 2 undef = .pointer (some ⟨bR, 0, none⟩)) (hb : tmps.getD 3 undef = .bool B)
    (hR : ∀ w5, Chg [b4] wf w5 → R (.returned (.tuple #[.agg #[K, C], .bool B])) w5) :
    LeavesB Tryz.prog Tryz.f42 tmps R [{ target := .builtin .clear #[22] 0 #[false], args := #[.slice (some ⟨b4, 0, none⟩) 36 36] }] wf := by
  obtain ⟨w5, r5, C5⟩ := clear_arr (c := 36) hg hsz 0
  have h5 := C5.heap hr (by simpa using hne)
  have hp' : tmps[2]?.getD undef = .pointer (some ⟨bR, 0, none⟩) := by simpa using hp
  have hb' : tmps[3]?.getD undef = .bool B := by simpa using hb
  refine ⟨.tuple #[], w5, ⟨_, _, _, _, rfl⟩, by simp [invoke, builtin, r5, Result.andThen], _, ?_, hR w5 C5⟩
  have c0 : w5.cell? ⟨bR, 0, none⟩ = some K := by rw [cell_of_heap h5]; rfl
  have c1 : w5.cell? ⟨bR, 1, none⟩ = some C := by rw [cell_of_heap h5]; rfl
  simp [results, Tryz.results42, hp', hb', c0, c1, go_sem]
def NextDPost (bD bA bC N : Nat) (d : Dc) (w : World) (e : Ending) (w' : World) : Prop :=
  (nextD d = none ∧ ∃ a b : Int, e = .returned (.tuple #[.agg #[.int .i64 a, .int .i64 b], .bool false]) ∧ Chg [] w w') ∨
  ∃ k d', nextD d = some (k, d') ∧ e = .returned (.tuple #[.agg #[.int .i64 k.kind, .int .i64 k.c], .bool true]) ∧ Chg [bD, bA, bC] w w' ∧ DecIs w' bD bA bC N d'
structure NxW (S : List Nat) (bD bA bC N : Nat) (d : Dc) (w ws : World) : Prop where
  c : Chg S w ws
  r : ws.heap[w.heap.size]? = some (.cells #[.int .i64 0, .int .i64 0] 48 (0, 0))
  a : ∃ cur : Array Value, ws.heap[w.heap.size + 1]? = some (.cells cur 133 (0, 0)) ∧ 36 ≤ cur.size
  dec : DecIs ws bD bA bC N d
  lt : bD < w.heap.size ∧ bA < w.heap.size ∧ bC < w.heap.size
theorem NxW.chg0 {S : List Nat} {bD bA bC N : Nat} {d : Dc} {w ws wt : World} (h : NxW S bD bA bC N d w ws) (c : Chg [] ws wt) : NxW S bD bA bC N d w wt :=
  ⟨h.c.trans c (fun x hx => hx) (by simp), c.heap h.r (by simp), h.a.imp fun cur hc => ⟨c.heap hc.1 (by simp), hc.2⟩, h.dec.chg0 c, h.lt⟩
theorem NxW.leave {S : List Nat} {bD bA bC N : Nat} {d : Dc} {w ws : World} (h : NxW S bD bA bC N d w ws) {K C : Value} {B : Bool} {tmps : Array Value} {R : Ending → World → Prop} (hp : tmps.getD 2 undef = .pointer (some ⟨w.heap.size, 0, none⟩)) (hb : tmps.getD 3 undef = .bool B)
    (hR : ∀ w5, Chg S w w5 → DecIs w5 bD bA bC N d → R (.returned (.tuple #[.agg #[K, C], .bool B])) w5) :
    LeavesB Tryz.prog Tryz.f42 tmps R [{ target := .builtin .clear #[22] 0 #[false], args := #[.slice (some ⟨w.heap.size + 1, 0, none⟩) 36 36] }] ((ws.setCell ⟨w.heap.size, 0, none⟩ K).setCell ⟨w.heap.size, 1, none⟩ C) := by
  obtain ⟨cur, hc, hs⟩ := h.a
  obtain ⟨_, _, _, k3⟩ := key_stored h.r K C
  have kc : Chg [w.heap.size] ws ((ws.setCell ⟨w.heap.size, 0, none⟩ K).setCell ⟨w.heap.size, 1, none⟩ C) := ((Chg.refl [w.heap.size] _).setCell (p := ⟨w.heap.size, 0, none⟩) (Or.inl List.mem_cons_self) _).setCell (p := ⟨w.heap.size, 1, none⟩) (Or.inl List.mem_cons_self) _
  have hl := h.lt
  refine next_leave (kc.heap hc (by simp)) hs k3 (by omega) hp hb (fun w5 C5 => hR w5 ((h.c.trans kc (fun x hx => hx) (fun x hx hl => by have := List.mem_singleton.1 hx; omega)).trans C5 (fun x hx => hx) (fun x hx hl => by have := List.mem_singleton.1 hx; omega)) ((h.dec.chg kc ?_ ?_ ?_).chg C5 ?_ ?_ ?_))
  all_goals (simp; omega)
theorem NxW.del {S : List Nat} {bD bA bC N : Nat} {d : Dc} {w ws wt : World} (h : NxW S bD bA bC N d w ws) (hS : ∀ x ∈ S, x ∈ [bD, bA, bC]) (k : Nat) (c : Chg [bA, bC] ws wt) (a : Ar.ArenaIs wt bA bC N (d.h.take 0 ++ d.h.drop k)) : NxW [bD, bA, bC] bD bA bC N ⟨d.h.drop k, d.p⟩ w wt := by
  have hl := h.lt
  have m1 : w.heap.size ∉ [bA, bC] := by simp; omega
  have m2 : w.heap.size + 1 ∉ [bA, bC] := by simp; omega
  refine ⟨h.c.trans c hS (fun x hx _ => List.mem_cons_of_mem _ hx), c.heap h.r m1, h.a.imp fun cur hc => ⟨c.heap hc.1 m2, hc.2⟩, ⟨c.heap h.dec.hD ?_, by simpa using a, h.dec.nA, h.dec.nC, h.dec.by'.drop k⟩, hl⟩
  have := h.dec.nA
  have := h.dec.nC
  simp
  omega
theorem NxW.seq {bD bA bC N : Nat} {d : Dc} {w ws wt : World} (h : NxW [bD, bA, bC] bD bA bC N d w ws) (p : Bool) (c : Chg [bD] ws wt) (hd : wt.heap[bD]? = some (.cells #[.pointer (some ⟨bA, 0, none⟩), .bool p] 107 (0, 0))) : NxW [bD, bA, bC] bD bA bC N ⟨d.h, p⟩ w wt := by
  have hl := h.lt
  have m1 : w.heap.size ∉ [bD] := by simp; omega
  have m2 : w.heap.size + 1 ∉ [bD] := by simp; omega
  have n1 := h.dec.nA
  have n2 := h.dec.nC
  exact ⟨h.c.trans c (fun x hx => hx) (fun x hx _ => by rw [List.mem_singleton.1 hx]; exact List.mem_cons_self), c.heap h.r m1, h.a.imp fun cur hc => ⟨c.heap hc.1 m2, hc.2⟩, ⟨hd, h.dec.ar.chg c (by simp; omega) (by simp; omega), n1, n2, h.dec.by'⟩, hl⟩
theorem nextE_le (l : List Int) : (nextE l).2.1 ≤ l.length ∨ (nextE l).2.2 ≠ 0 := by
  unfold nextE
  split
  · exact .inl (Nat.zero_le _)
  · split
    · exact .inl (Nat.zero_le _)
    · split
      · exact .inl (by dsimp only; omega)
      · have : ∀ f i o, (escLoop l f i o).2.1 ≤ l.length ∨ (escLoop l f i o).2.2 ≠ 0 := by
          intro f
          induction f with
          | zero => intro i o; exact .inl (by rw [escLoop]; exact Nat.le_refl _)
          | succ f ih =>
            intro i o
            rw [escLoop]
            repeat' split
            all_goals (first | exact ih _ _ | exact .inl (by dsimp only; omega) | exact .inl (Nat.le_refl _))
        exact this _ _ _
theorem nextU_le (l : List Int) : (nextU l).2.1 ≤ l.length := by
  unfold nextU
  split
  · exact Nat.zero_le _
  · split
    · rename_i h1 h2
      dsimp only
      unfold decU at h2 ⊢
      rw [if_neg h1] at h2 ⊢
      unfold Lib.decodeN at h2 ⊢
      repeat' split
      all_goals (first | (dsimp only; omega) | (rename_i h; simp_all; omega) | simp_all)
    · split
      · exact Nat.le_refl _
      · exact (growU_le l _ 1 (by omega)).2
set_option maxHeartbeats 8000000 in
theorem next_dec (bD bA bC N : Nat) (d : Dc) (w : World) (h : DecIs w bD bA bC N d) (hT : Lib.Utf8Tabs 1 2 w) :
    Calls Tryz.prog 42 #[.pointer (some ⟨bD, 0, none⟩)] w (NextDPost bD bA bC N d w) := by
  have HH := Lib.hid h
  have HT := Lib.hid hT
  clear h hT
  refine calls_of_wp_b Tryz.func42 rfl ?_
  simp only [Tryz.ntmps42, List.size_toArray, List.length_cons, List.length_nil, Nat.reduceAdd, Nat.reduceSub, Array.replicate_succ, Array.replicate_zero, List.push_toArray, List.append_toArray, List.nil_append, List.cons_append]
  go_wp2_with fail
  generalize hw2 : World.alloc (World.alloc w _) _ = w2
  have C1 : Chg [] w w2 := by rw [← hw2]; exact ((Chg.refl _ _).alloc _).alloc _
  have X0 : w2.heap[w.heap.size]? = some (.cells #[.int .i64 0, .int .i64 0] 48 (0, 0)) := by rw [← hw2]; exact alloc_keeps (alloc_heap w _)
  have X1 : w2.heap[w.heap.size + 1]? = some (.cells (List.replicate 36 (Value.int .u8 0)).toArray 133 (0, 0)) := by rw [← hw2]; exact alloc2_heap w _ _
  have D2 := HH.out.chg0 C1
  have ltD := heap_lt HH.out.hD
  have ltA := heap_lt HH.out.ar.hA
  have ltC := heap_lt HH.out.ar.hC
  have HLT := Lib.hid (And.intro ltD (And.intro ltA ltC))
  obtain ⟨n, hn⟩ : ∃ n, n = min d.h.length 36 := ⟨_, rfl⟩
  have HCP : Hid (∀ W, Chg [] w2 W → Calls Tryz.prog 45 #[.pointer (some ⟨bA, 0, none⟩), .slice (some ⟨w.heap.size + 1, 0, none⟩) 36 36] W fun e w' => e = .returned (.int .i64 (n : Nat)) ∧ Chg [w.heap.size + 1] W w' ∧ w'.heap[w.heap.size + 1]? = some (.cells (splice (List.replicate 36 (Value.int .u8 0)) 0 ((d.h.take 36).map (Value.int .u8))).toArray 133 (0, 0))) :=
    Lib.hid (fun W C => by rw [hn]; exact Ar.copy_any bA bC N d.h (w.heap.size + 1) 0 36 36 (List.replicate 36 (Value.int .u8 0)) 133 W (D2.chg0 C).ar (C.heap X1 (by simp)) (by simp))
  have x0 : w2.cell? ⟨bD, 0, none⟩ = some (.pointer (some ⟨bA, 0, none⟩)) := by rw [cell_of_heap D2.hD]; rfl
  have n36 : ((n : Nat) : Int) ≤ 36 := by omega
  have HW := Lib.hid (And.intro C1 (And.intro X0 (And.intro X1 (And.intro D2 hn))))
  have hne : bD ∉ [w.heap.size + 1] := by simp; omega
  have HNE := Lib.hid hne
  clear hw2 C1 X0 X1 D2 ltD ltA ltC hn hne
  go_region_held3 (fun w' => w'.cell? ⟨bD, 0, none⟩ = some (.pointer (some ⟨bA, 0, none⟩))) (first | exact C3.cell x0 HNE.out | go_keep)
    (first | (go_at_call 45; refine (HCP.out _ (by first | exact Chg.refl [] w2 | exact (Chg.refl [] w2).drew | exact (Chg.refl [] w2).drewN _)).mono ?_; rintro e w3 ⟨rfl, C3', H3⟩; have C3 : Chg [w.heap.size + 1] w2 w3 := (by first | exact C3' | exact C3'.of_drew | exact C3'.of_drewN)))
  have hSrc : SrcAt w3 (some ⟨w.heap.size + 1, 0, none⟩) n 36 (valsOf .u8 (d.h.take 36)) := by
    refine ⟨by rw [valsOf_length, List.length_take, HW.out.2.2.2.2]; omega, (fun e => by cases e), fun ad e j u hu => ?_⟩
    injection e with e
    subst e
    rw [Addr.add_lit, Nat.zero_add, cell_of_heap H3]
    have := splice_hd (List.replicate 36 (Value.int .u8 0)) ((d.h.take 36).map (Value.int .u8)) j u hu
    simpa using this
  have hsz : 36 ≤ (splice (List.replicate 36 (Value.int .u8 0)) 0 ((d.h.take 36).map (Value.int .u8))).toArray.size := by
    unfold splice; simp; omega
  have HE := Lib.hid (And.intro (HW.out.1.trans C3 (U := []) (by simp) (fun x hx hl => by have := List.mem_singleton.1 hx; omega)) (And.intro (C3.heap HW.out.2.1 (by simp)) (And.intro (And.intro H3 hsz) (HW.out.2.2.2.1.chg C3 HNE.out (by have := HLT.out; simp; omega) (by have := HLT.out; simp; omega)))))
  have HS := Lib.hid hSrc
  have hlen : (d.h.take 36).length = n := by rw [List.length_take, HW.out.2.2.2.2]; omega
  have HL := Lib.hid hlen
  clear C3 C3' H3 hSrc hsz hlen x0
  rcases Nat.eq_zero_or_pos n with h0 | hpos
  · have hv : nextD d = none := by
      unfold nextD
      rw [if_pos (by have := HW.out.2.2.2.2; omega)]
    have t0 : ((n : Int) == 0) = true := by rw [h0]; rfl
    have x0 : w3.cell? ⟨w.heap.size, 0, none⟩ = some (.int .i64 0) := by rw [cell_of_heap HE.out.2.1]; rfl
    have x1 : w3.cell? ⟨w.heap.size, 1, none⟩ = some (.int .i64 0) := by rw [cell_of_heap HE.out.2.1]; rfl
    have f0 : w3.frozen? ⟨w.heap.size, 0, none⟩ = false := free_of_heap HE.out.2.1 0
    have f1 : w3.frozen? ⟨w.heap.size, 1, none⟩ = false := free_of_heap HE.out.2.1 1
    have HV := Lib.hid hv
    clear hv h0
    go_wp2_with fail
    obtain ⟨k0, k1, k2, k3⟩ := key_stored HE.out.2.1 (.int .i64 0) (.int .i64 0)
    have kc : Chg [w.heap.size] w3 ((w3.setCell ⟨w.heap.size, 0, none⟩ (.int .i64 0)).setCell ⟨w.heap.size, 1, none⟩ (.int .i64 0)) := ((Chg.refl [w.heap.size] _).setCell (p := ⟨w.heap.size, 0, none⟩) (Or.inl List.mem_cons_self) _).setCell (p := ⟨w.heap.size, 1, none⟩) (Or.inl List.mem_cons_self) _
    exact next_leave (kc.heap HE.out.2.2.1.1 (by simp)) HE.out.2.2.1.2 k3 (by omega) rfl rfl (fun w5 C5 => .inl ⟨HV.out, _, _, rfl, (HE.out.1.trans kc (U := []) (by simp) (fun x hx hl => by have := List.mem_singleton.1 hx; omega)).trans C5 (U := []) (by simp) (fun x hx hl => by have := List.mem_singleton.1 hx; have := kc.size; have := HE.out.1.size; omega)⟩)
  · have hNX : NxW [] bD bA bC N d w w3 := ⟨HE.out.1, HE.out.2.1, ⟨_, HE.out.2.2.1.1, HE.out.2.2.1.2⟩, HE.out.2.2.2, HLT.out⟩
    have HNX := Lib.hid hNX
    obtain ⟨l36, hl36⟩ : ∃ l36, l36 = d.h.take 36 := ⟨_, rfl⟩
    have hb36 : ByR l36 := by rw [hl36]; exact HH.out.by'.take 36
    rw [← hl36] at HS HL
    obtain ⟨g', off', e, hc0⟩ := HS.out.int hpos
    injection e with e
    injection e with e1 e2 _
    rw [← e1, ← e2, Nat.add_zero, (hb36.byte 0).1] at hc0
    have hdl : d.h.length ≠ 0 := by have := HW.out.2.2.2.2; omega
    have hnd : nextD d = (if l36.getD 0 0 = 27 then
        if (nextE l36).2.2 ≠ 0 then none else some ((seqD d.p (nextE l36).1).1, ⟨d.h.drop (nextE l36).2.1, (seqD d.p (nextE l36).1).2⟩)
      else if (nextU l36).2.2 = 7 then none
      else some (charD d.p (if (nextU l36).2.2 = 8 then 65533 else (nextU l36).1), ⟨d.h.drop (nextU l36).2.1, d.p⟩)) := by
      unfold nextD
      rw [if_neg hdl, ← hl36]
    have hle36 : l36.length ≤ d.h.length := by rw [hl36, List.length_take]; omega
    have tz : ((n : Int) == 0) = false := by rw [beq_eq_false_iff_ne]; omega
    have hN4 := HH.out.ar.most
    have hNl := HH.out.ar.le
    have HB := Lib.hid (And.intro hb36 (And.intro hle36 (And.intro hN4 hNl)))
    rw [(hb36.byte 0).1] at hnd
    have HND := Lib.hid hnd
    clear hNX hl36 hb36 e1 e2 hdl hnd hle36 hN4 hNl HE HW HCP
    by_cases h27 : ((byN l36 0 : Nat) : Int) = 27
    · have t27 : (((byN l36 0 : Nat) : Int) == 27) = true := by rw [h27]; rfl
      have hnd := HND.out
      rw [if_pos h27] at hnd
      obtain ⟨⟨ek, ec⟩, en, ee, hR⟩ : ∃ (k : Ky) (en : Nat) (ee : Int), nextE l36 = (k, en, ee) := ⟨_, _, _, rfl⟩
      have hE := escNext_any w3 (some ⟨w.heap.size + 1, 0, none⟩) n 36 l36 HS.out HB.out.1 (by omega) (by omega)
      unfold EscPost at hE
      rw [hR] at hE hnd
      dsimp only at hE hnd
      have hle := nextE_le l36
      rw [hR] at hle
      have HE := Lib.hid hE
      have HLE := Lib.hid hle
      have HND2 := Lib.hid hnd
      clear hE hnd hle hR h27
      go_wp2_with fail
      refine (HE.out).mono ?_
      rintro e w4 ⟨rfl, C4⟩
      have B5 := alloc_heap w4 (.cells #[.int .i64 ek, .int .i64 ec] 48)
      have N5 := (HNX.out.chg0 C4).chg0 ((Chg.refl [] w4).alloc (.cells #[.int .i64 ek, .int .i64 ec] 48))
      have HX := Lib.hid N5
      have HB5 := Lib.hid B5
      have hb6 : w.heap.size + 1 < w4.heap.size := by obtain ⟨cur, hc, _⟩ := HNX.out.a; have := heap_lt (C4.heap hc (by simp)); omega
      clear C4 B5 N5 hc0
      by_cases hee : ee = 0
      · subst hee
        have hnd := HND2.out
        rw [if_neg (by simp)] at hnd
        have HND3 := Lib.hid hnd
        have hen : en ≤ d.h.length := by
          rcases HLE.out with h | h
          · have := HB.out.2.1; omega
          · exact absurd rfl h
        have d0 : (w4.alloc (.cells #[.int .i64 ek, .int .i64 ec] 48)).cell? ⟨bD, 0, none⟩ = some (.pointer (some ⟨bA, 0, none⟩)) := by rw [cell_of_heap HX.out.dec.hD]; rfl
        have HDL : Hid (Calls Tryz.prog 63 #[.pointer (some ⟨bA, 0, none⟩), .int .i64 0, .int .i64 (en : Nat)] (w4.alloc (.cells #[.int .i64 ek, .int .i64 ec] 48)) fun e w' => e = .returned (.int .i64 0) ∧ Chg [bA, bC] (w4.alloc (.cells #[.int .i64 ek, .int .i64 ec] 48)) w' ∧ Ar.ArenaIs w' bA bC N (d.h.take 0 ++ d.h.drop en)) := Lib.hid (Ar.delete_ok bA bC N d.h 0 en _ HX.out.dec.ar (Nat.zero_le _) hen)
        clear hnd
        go_upto_region 8 with (fail)
        generalize w4.alloc _ = w5 at *
        generalize w4.heap.size = b6 at *
        go_wp2_with fail
        refine (HDL.out).mono ?_
        rintro e w6 ⟨rfl, C6, A6⟩
        have hb6' : b6 ∉ [bA, bC] := by have := HLT.out; simp; omega
        have B6 := Lib.hid (C6.heap HB5.out hb6')
        have HX6 := Lib.hid (HX.out.del (by simp) en C6 A6)
        clear C6 A6 d0
        have y0 : w6.cell? ⟨b6, 0, none⟩ = some (.int .i64 ek) := by rw [cell_of_heap B6.out]; rfl
        have y1 : w6.cell? ⟨b6, 1, none⟩ = some (.int .i64 ec) := by rw [cell_of_heap B6.out]; rfl
        have HSQ := Lib.hid (sequence_any bD (.pointer (some ⟨bA, 0, none⟩)) d.p ⟨ek, ec⟩ w6 HX6.out.dec.hD)
        generalize hsq : seqD d.p ⟨ek, ec⟩ = sq at HND3
        obtain ⟨⟨sk, sc⟩, sp⟩ := sq
        have HSQ2 := Lib.hid hsq
        clear hsq
        go_wp2_with fail
        refine (HSQ.out).mono ?_
        unfold SeqPost
        rw [HSQ2.out]
        rintro e w7 ⟨rfl, C7, D7⟩
        have HX7 := Lib.hid (HX6.out.seq sp C7 D7)
        clear C7 D7 y0 y1
        have x0 : w7.cell? ⟨w.heap.size, 0, none⟩ = some (.int .i64 0) := by rw [cell_of_heap HX7.out.r]; rfl
        have x1 : w7.cell? ⟨w.heap.size, 1, none⟩ = some (.int .i64 0) := by rw [cell_of_heap HX7.out.r]; rfl
        have f0 : w7.frozen? ⟨w.heap.size, 0, none⟩ = false := free_of_heap HX7.out.r 0
        have f1 : w7.frozen? ⟨w.heap.size, 1, none⟩ = false := free_of_heap HX7.out.r 1
        go_wp2_with fail
        exact HX7.out.leave rfl rfl (fun w8 C8 D8 => .inr ⟨_, _, HND3.out, rfl, C8, D8⟩)
      · have t1 : (ee != 0) = true := by rw [bne_iff_ne]; exact hee
        have hnd := HND2.out
        rw [if_pos hee] at hnd
        have HND3 := Lib.hid hnd
        have y0 : (w4.alloc (.cells #[.int .i64 ek, .int .i64 ec] 48)).cell? ⟨w4.heap.size, 0, none⟩ = some (.int .i64 ek) := by rw [cell_of_heap HB5.out]; rfl
        have y1 : (w4.alloc (.cells #[.int .i64 ek, .int .i64 ec] 48)).cell? ⟨w4.heap.size, 1, none⟩ = some (.int .i64 ec) := by rw [cell_of_heap HB5.out]; rfl
        have x0 : (w4.alloc (.cells #[.int .i64 ek, .int .i64 ec] 48)).cell? ⟨w.heap.size, 0, none⟩ = some (.int .i64 0) := by rw [cell_of_heap HX.out.r]; rfl
        have x1 : (w4.alloc (.cells #[.int .i64 ek, .int .i64 ec] 48)).cell? ⟨w.heap.size, 1, none⟩ = some (.int .i64 0) := by rw [cell_of_heap HX.out.r]; rfl
        have f0 : (w4.alloc (.cells #[.int .i64 ek, .int .i64 ec] 48)).frozen? ⟨w.heap.size, 0, none⟩ = false := free_of_heap HX.out.r 0
        have f1 : (w4.alloc (.cells #[.int .i64 ek, .int .i64 ec] 48)).frozen? ⟨w.heap.size, 1, none⟩ = false := free_of_heap HX.out.r 1
        clear hnd hee
        go_upto_region 8 with (fail)
        generalize w4.alloc _ = w5 at *
        generalize w4.heap.size = b6 at *
        go_wp2_with fail
        exact HX.out.leave rfl rfl (fun w5 C5 D5 => .inl ⟨HND3.out, _, _, rfl, C5⟩)
    · have t27 : (((byN l36 0 : Nat) : Int) == 27) = false := by rw [beq_eq_false_iff_ne]; exact h27
      have hnd := HND.out
      rw [if_neg h27] at hnd
      obtain ⟨uc, un, ue, hR⟩ : ∃ (uc : Int) (un : Nat) (ue : Int), nextU l36 = (uc, un, ue) := ⟨_, _, _, rfl⟩
      have hU := next_any w3 (Utf8Tabs.chg0 HT.out HNX.out.c) (some ⟨w.heap.size + 1, 0, none⟩) n 36 l36 HS.out HB.out.1 (by omega) (by omega)
      unfold NextPost at hU
      have hle := nextU_le l36
      rw [hR] at hU hnd hle
      dsimp only at hU hnd hle
      have HU := Lib.hid hU
      have HLE := Lib.hid hle
      have HND2 := Lib.hid hnd
      clear hU hnd hle hR h27
      go_wp2_with fail
      refine (HU.out).mono ?_
      rintro e w4 ⟨rfl, C4⟩
      have HX := Lib.hid (HNX.out.chg0 C4)
      clear C4 hc0
      by_cases h7 : ue = 7
      · subst h7
        have hnd := HND2.out
        rw [if_pos rfl] at hnd
        have HND3 := Lib.hid hnd
        clear hnd
        have x0 : w4.cell? ⟨w.heap.size, 0, none⟩ = some (.int .i64 0) := by rw [cell_of_heap HX.out.r]; rfl
        have x1 : w4.cell? ⟨w.heap.size, 1, none⟩ = some (.int .i64 0) := by rw [cell_of_heap HX.out.r]; rfl
        have f0 : w4.frozen? ⟨w.heap.size, 0, none⟩ = false := free_of_heap HX.out.r 0
        have f1 : w4.frozen? ⟨w.heap.size, 1, none⟩ = false := free_of_heap HX.out.r 1
        go_wp2_with fail
        exact HX.out.leave rfl rfl (fun w5 C5 D5 => .inl ⟨HND3.out, _, _, rfl, C5⟩)
      · have t7 : (ue == 7) = false := by rw [beq_eq_false_iff_ne]; exact h7
        by_cases h8 : ue = 8
        · subst h8
          have hnd := HND2.out
          rw [if_neg (by decide), if_pos rfl] at hnd
          have HND3 := Lib.hid hnd
          have hen : un ≤ d.h.length := by have := HLE.out; have := HB.out.2.1; omega
          have d0 : w4.cell? ⟨bD, 0, none⟩ = some (.pointer (some ⟨bA, 0, none⟩)) := by rw [cell_of_heap HX.out.dec.hD]; rfl
          have HDL : Hid (Calls Tryz.prog 63 #[.pointer (some ⟨bA, 0, none⟩), .int .i64 0, .int .i64 (un : Nat)] w4 fun e w' => e = .returned (.int .i64 0) ∧ Chg [bA, bC] w4 w' ∧ Ar.ArenaIs w' bA bC N (d.h.take 0 ++ d.h.drop un)) := Lib.hid (Ar.delete_ok bA bC N d.h 0 un _ HX.out.dec.ar (Nat.zero_le _) hen)
          clear hnd hen h7
          go_wp2_with fail
          refine (HDL.out).mono ?_
          rintro e w6 ⟨rfl, C6, A6⟩
          have HX6 := Lib.hid (HX.out.del (by simp) un C6 A6)
          clear C6 A6 d0
          have HCH := Lib.hid (char_any bD (.pointer (some ⟨bA, 0, none⟩)) d.p 65533 w6 HX6.out.dec.hD)
          generalize hch : charD d.p 65533 = ck at HND3
          obtain ⟨ck, cc⟩ := ck
          have HCH2 := Lib.hid hch
          clear hch
          go_wp2_with fail
          refine (HCH.out).mono ?_
          unfold CharPost
          rw [HCH2.out]
          rintro e w7 ⟨rfl, C7⟩
          have HX7 := Lib.hid (HX6.out.chg0 C7)
          clear C7
          have x0 : w7.cell? ⟨w.heap.size, 0, none⟩ = some (.int .i64 0) := by rw [cell_of_heap HX7.out.r]; rfl
          have x1 : w7.cell? ⟨w.heap.size, 1, none⟩ = some (.int .i64 0) := by rw [cell_of_heap HX7.out.r]; rfl
          have f0 : w7.frozen? ⟨w.heap.size, 0, none⟩ = false := free_of_heap HX7.out.r 0
          have f1 : w7.frozen? ⟨w.heap.size, 1, none⟩ = false := free_of_heap HX7.out.r 1
          go_wp2_with fail
          exact HX7.out.leave rfl rfl (fun w8 C8 D8 => .inr ⟨_, _, HND3.out, rfl, C8, D8⟩)
        · have t8 : (ue == 8) = false := by rw [beq_eq_false_iff_ne]; exact h8
          have hnd := HND2.out
          rw [if_neg h7, if_neg h8] at hnd
          have HND3 := Lib.hid hnd
          have hen : un ≤ d.h.length := by have := HLE.out; have := HB.out.2.1; omega
          have d0 : w4.cell? ⟨bD, 0, none⟩ = some (.pointer (some ⟨bA, 0, none⟩)) := by rw [cell_of_heap HX.out.dec.hD]; rfl
          have HDL : Hid (Calls Tryz.prog 63 #[.pointer (some ⟨bA, 0, none⟩), .int .i64 0, .int .i64 (un : Nat)] w4 fun e w' => e = .returned (.int .i64 0) ∧ Chg [bA, bC] w4 w' ∧ Ar.ArenaIs w' bA bC N (d.h.take 0 ++ d.h.drop un)) := Lib.hid (Ar.delete_ok bA bC N d.h 0 un _ HX.out.dec.ar (Nat.zero_le _) hen)
          clear hnd hen h7 h8
          go_wp2_with fail
          refine (HDL.out).mono ?_
          rintro e w6 ⟨rfl, C6, A6⟩
          have HX6 := Lib.hid (HX.out.del (by simp) un C6 A6)
          clear C6 A6 d0
          have HCH := Lib.hid (char_any bD (.pointer (some ⟨bA, 0, none⟩)) d.p uc w6 HX6.out.dec.hD)
          generalize hch : charD d.p uc = ck at HND3
          obtain ⟨ck, cc⟩ := ck
          have HCH2 := Lib.hid hch
          clear hch
          go_wp2_with fail
          refine (HCH.out).mono ?_
          unfold CharPost
          rw [HCH2.out]
          rintro e w7 ⟨rfl, C7⟩
          have HX7 := Lib.hid (HX6.out.chg0 C7)
          clear C7
          have x0 : w7.cell? ⟨w.heap.size, 0, none⟩ = some (.int .i64 0) := by rw [cell_of_heap HX7.out.r]; rfl
          have x1 : w7.cell? ⟨w.heap.size, 1, none⟩ = some (.int .i64 0) := by rw [cell_of_heap HX7.out.r]; rfl
          have f0 : w7.frozen? ⟨w.heap.size, 0, none⟩ = false := free_of_heap HX7.out.r 0
          have f1 : w7.frozen? ⟨w.heap.size, 1, none⟩ = false := free_of_heap HX7.out.r 1
          go_wp2_with fail
          exact HX7.out.leave rfl rfl (fun w8 C8 D8 => .inr ⟨_, _, HND3.out, rfl, C8, D8⟩)
end Go.Proofs.YtafmnkngjjnpiaaGreatDoor
