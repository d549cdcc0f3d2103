import Derived.Test.YtafmnkngjjnpiaaGreatDoorWldA
import Derived.Test.YtafmnkngjjnpiaaGreatDoorTpA
import Derived.Test.YtafmnkngjjnpiaaGreatDoorTpS
namespace Go.Proofs.YtafmnkngjjnpiaaGreatDoor
set_option linter.unusedVariables false
set_option linter.unusedSimpArgs false
set_option maxRecDepth 100000
open Go.RowKit
def ByR (l : List Int) : Prop := ∀ x ∈ l, 0 ≤ x ∧ x < 256
theorem ByR.take {l : List Int} (h : ByR l) (k : Nat) : ByR (l.take k) := fun x hx => h x (List.mem_of_mem_take hx)
theorem ByR.drop {l : List Int} (h : ByR l) (k : Nat) : ByR (l.drop k) := fun x hx => h x (List.mem_of_mem_drop hx)
theorem ByR.append {l m : List Int} (h : ByR l) (k : ByR m) : ByR (l ++ m) := fun x hx => (List.mem_append.1 hx).elim (h x) (k x)
theorem ByR.byte {l : List Int} (h : ByR l) (i : Nat) : l.getD i 0 = (byN l i : Int) ∧ byN l i < 256 := by
  unfold byN
  rcases Nat.lt_or_ge i l.length with hi | hi
  · have hm : l.getD i 0 ∈ l := by
      rw [List.getD_eq_getElem?_getD, List.getElem?_eq_getElem hi]
      exact List.getElem_mem hi
    have := h _ hm
    omega
  · have e : l.getD i 0 = 0 := by rw [List.getD_eq_getElem?_getD, List.getElem?_eq_none hi]; rfl
    rw [e]; simp
theorem tab_first {w : World} (h : Lib.Utf8Tabs 1 2 w) {c K : Nat} (hc : c < 256) (hK : Lib.firstT c = K) : w.cell? ⟨1, c, none⟩ = some (.int .u8 K) := by rw [← hK]; exact h.1 c hc
def FullPost (b : Bool) (w : World) (e : Ending) (w' : World) : Prop := e = .returned (.bool b) ∧ Chg [] w w'
set_option maxHeartbeats 4000000 in
theorem fullRune_any (w : World) (hT : Lib.Utf8Tabs 1 2 w) (ao : Option Addr) (n c : Nat) (l : List Int) (h : SrcAt w ao n c (valsOf .u8 l)) (hb : ByR l) (hn : n ≤ 1000000) :
    Calls Tryz.prog 118 #[.slice ao n c] w (FullPost (fullU l) w) := by
  have hl : l.length = n := by have := h.1; rwa [valsOf_length] at this
  rcases Nat.eq_zero_or_pos n with rfl | hp
  · have hf : fullU l = false := by unfold fullU; rw [if_pos hl]
    rw [hf]
    clear hf h hT
    go_enter Tryz.func118, Tryz.ntmps118
    go_wp2_with fail
    go_ret
    exact ⟨rfl, Chg.refl _ _⟩
  · obtain ⟨g, off, rfl, hc0⟩ := h.int hp
    obtain ⟨e0, l0⟩ := hb.byte 0
    obtain ⟨e1, l1⟩ := hb.byte 1
    obtain ⟨e2, l2⟩ := hb.byte 2
    have hcell : ∀ j, j < n → w.cell? ⟨g, off + j, none⟩ = some (.int .u8 (byN l j : Nat)) := fun j hj => by
      obtain ⟨g', off', e, hc⟩ := h.int hj
      injection e with e
      injection e with e3 e4 _
      subst e3
      subst e4
      rw [hc, (hb.byte j).1]
    have c0 := hcell 0 hp
    rw [Nat.add_zero] at c0
    have hF : ∀ K, Lib.firstT (byN l 0) = K → fullU l = (if K % 8 ≤ n then true else if 1 < n ∧ (byN l 1 < Lib.accLo (K / 16) ∨ Lib.accHi (K / 16) < byN l 1) then true else decide (2 < n ∧ (byN l 2 < 128 ∨ 191 < byN l 2))) := fun K hK => by
      unfold fullU
      rw [hl, if_neg (by omega), hK]
    have HC := Lib.hid hcell
    clear h hc0 e0 e1 e2 hcell
    rcases Lib.firstT_cases (byN l 0) with hK | hK | hK | hK | hK | hK | hK | hK | hK
    · have c1 := tab_first hT l0 hK
      have hv : fullU l = true := by rw [hF _ hK]; rw [if_pos (by omega)]
      rw [hv]
      clear hv hF hK hT
      go_enter Tryz.func118, Tryz.ntmps118
      go_wp2_with fail
      go_ret
      exact ⟨rfl, Chg.refl _ _⟩
    · have c1 := tab_first hT l0 hK
      have hv : fullU l = true := by rw [hF _ hK]; rw [if_pos (by omega)]
      rw [hv]
      clear hv hF hK hT
      go_enter Tryz.func118, Tryz.ntmps118
      go_wp2_with fail
      go_ret
      exact ⟨rfl, Chg.refl _ _⟩
    · have c1 := tab_first hT l0 hK
      have c2 : w.cell? ⟨2, 0, none⟩ = some (.int .u8 128) := (hT.2 0 (by omega)).1
      have c3 : w.cell? ⟨2, 1, none⟩ = some (.int .u8 191) := (hT.2 0 (by omega)).2
      by_cases hs : 2 ≤ n
      · have hv : fullU l = true := by rw [hF _ hK]; rw [if_pos (by omega)]
        rw [hv]
        clear hv hF hK hT
        go_enter Tryz.func118, Tryz.ntmps118
        go_wp2_with fail
        go_ret
        exact ⟨rfl, Chg.refl _ _⟩
      · have s0 : ((n : Int) < 2) := by omega
        by_cases h1 : n = 1
        · have hv : fullU l = false := by rw [hF _ hK]; rw [if_neg (by omega)]; show (if 1 < n ∧ (byN l 1 < 128 ∨ 191 < byN l 1) then true else decide (2 < n ∧ (byN l 2 < 128 ∨ 191 < byN l 2))) = false; rw [if_neg (by omega)]; exact decide_eq_false (by omega)
          rw [hv]
          clear hv hF hK hT
          have d1 : decide ((1 : Int) < n) = false := decide_eq_false (by omega)
          have d2 : decide ((2 : Int) < n) = false := decide_eq_false (by omega)
          go_enter Tryz.func118, Tryz.ntmps118
          go_wp2_with fail
          have K3 : Chg [] w (w.alloc (.cells #[.int .u8 128, .int .u8 191] 235)) := (Chg.refl _ _).alloc _
          have hA := alloc_heap w (.cells #[.int .u8 128, .int .u8 191] 235)
          have y0 : (w.alloc (.cells #[.int .u8 128, .int .u8 191] 235)).cell? ⟨w.heap.size, 0, none⟩ = some (.int .u8 128) := by rw [cell_of_heap hA]; rfl
          have y1 : (w.alloc (.cells #[.int .u8 128, .int .u8 191] 235)).cell? ⟨w.heap.size, 1, none⟩ = some (.int .u8 191) := by rw [cell_of_heap hA]; rfl
          generalize w.alloc _ = w3 at *
          clear hA c2 c3 c0 c1
          go_quiet (fail)
          go_wp2_with fail
          go_ret
          exact ⟨rfl, by first | exact K3 | exact K3.drew | exact K3.drewN _⟩
        · omega
    · have c1 := tab_first hT l0 hK
      have c2 : w.cell? ⟨2, 2, none⟩ = some (.int .u8 160) := (hT.2 1 (by omega)).1
      have c3 : w.cell? ⟨2, 3, none⟩ = some (.int .u8 191) := (hT.2 1 (by omega)).2
      by_cases hs : 3 ≤ n
      · have hv : fullU l = true := by rw [hF _ hK]; rw [if_pos (by omega)]
        rw [hv]
        clear hv hF hK hT
        go_enter Tryz.func118, Tryz.ntmps118
        go_wp2_with fail
        go_ret
        exact ⟨rfl, Chg.refl _ _⟩
      · have s0 : ((n : Int) < 3) := by omega
        by_cases h1 : n = 1
        · have hv : fullU l = false := by rw [hF _ hK]; rw [if_neg (by omega)]; show (if 1 < n ∧ (byN l 1 < 160 ∨ 191 < byN l 1) then true else decide (2 < n ∧ (byN l 2 < 128 ∨ 191 < byN l 2))) = false; rw [if_neg (by omega)]; exact decide_eq_false (by omega)
          rw [hv]
          clear hv hF hK hT
          have d1 : decide ((1 : Int) < n) = false := decide_eq_false (by omega)
          have d2 : decide ((2 : Int) < n) = false := decide_eq_false (by omega)
          go_enter Tryz.func118, Tryz.ntmps118
          go_wp2_with fail
          have K3 : Chg [] w (w.alloc (.cells #[.int .u8 160, .int .u8 191] 235)) := (Chg.refl _ _).alloc _
          have hA := alloc_heap w (.cells #[.int .u8 160, .int .u8 191] 235)
          have y0 : (w.alloc (.cells #[.int .u8 160, .int .u8 191] 235)).cell? ⟨w.heap.size, 0, none⟩ = some (.int .u8 160) := by rw [cell_of_heap hA]; rfl
          have y1 : (w.alloc (.cells #[.int .u8 160, .int .u8 191] 235)).cell? ⟨w.heap.size, 1, none⟩ = some (.int .u8 191) := by rw [cell_of_heap hA]; rfl
          generalize w.alloc _ = w3 at *
          clear hA c2 c3 c0 c1
          go_quiet (fail)
          go_wp2_with fail
          go_ret
          exact ⟨rfl, by first | exact K3 | exact K3.drew | exact K3.drewN _⟩
        · have b1 := HC.out 1 (by omega)
          by_cases p1 : byN l 1 < 160
          · have hv : fullU l = true := by rw [hF _ hK]; rw [if_neg (by omega)]; show (if 1 < n ∧ (byN l 1 < 160 ∨ 191 < byN l 1) then true else decide (2 < n ∧ (byN l 2 < 128 ∨ 191 < byN l 2))) = true; rw [if_pos (by omega)]
            rw [hv]
            clear hv hF hK hT
            have d1 : decide ((1 : Int) < n) = true := decide_eq_true (by omega)
            have d3 : decide ((byN l 1 : Int) < 160) = true := decide_eq_true (by omega)
            go_enter Tryz.func118, Tryz.ntmps118
            go_wp2_with fail
            have K3 : Chg [] w (w.alloc (.cells #[.int .u8 160, .int .u8 191] 235)) := (Chg.refl _ _).alloc _
            have hA := alloc_heap w (.cells #[.int .u8 160, .int .u8 191] 235)
            have y0 : (w.alloc (.cells #[.int .u8 160, .int .u8 191] 235)).cell? ⟨w.heap.size, 0, none⟩ = some (.int .u8 160) := by rw [cell_of_heap hA]; rfl
            have y1 : (w.alloc (.cells #[.int .u8 160, .int .u8 191] 235)).cell? ⟨w.heap.size, 1, none⟩ = some (.int .u8 191) := by rw [cell_of_heap hA]; rfl
            replace b1 := K3.cell b1 (by simp)
            generalize w.alloc _ = w3 at *
            clear hA c2 c3 c0 c1
            go_quiet (fail)
            go_wp2_with fail
            go_ret
            exact ⟨rfl, by first | exact K3 | exact K3.drew | exact K3.drewN _⟩
          · by_cases p2 : 191 < byN l 1
            · have hv : fullU l = true := by rw [hF _ hK]; rw [if_neg (by omega)]; show (if 1 < n ∧ (byN l 1 < 160 ∨ 191 < byN l 1) then true else decide (2 < n ∧ (byN l 2 < 128 ∨ 191 < byN l 2))) = true; rw [if_pos (by omega)]
              rw [hv]
              clear hv hF hK hT
              have d1 : decide ((1 : Int) < n) = true := decide_eq_true (by omega)
              have d3 : decide ((byN l 1 : Int) < 160) = false := decide_eq_false (by omega)
              have d4 : decide ((191 : Int) < byN l 1) = true := decide_eq_true (by omega)
              go_enter Tryz.func118, Tryz.ntmps118
              go_wp2_with fail
              have K3 : Chg [] w (w.alloc (.cells #[.int .u8 160, .int .u8 191] 235)) := (Chg.refl _ _).alloc _
              have hA := alloc_heap w (.cells #[.int .u8 160, .int .u8 191] 235)
              have y0 : (w.alloc (.cells #[.int .u8 160, .int .u8 191] 235)).cell? ⟨w.heap.size, 0, none⟩ = some (.int .u8 160) := by rw [cell_of_heap hA]; rfl
              have y1 : (w.alloc (.cells #[.int .u8 160, .int .u8 191] 235)).cell? ⟨w.heap.size, 1, none⟩ = some (.int .u8 191) := by rw [cell_of_heap hA]; rfl
              replace b1 := K3.cell b1 (by simp)
              generalize w.alloc _ = w3 at *
              clear hA c2 c3 c0 c1
              go_quiet (fail)
              go_wp2_with fail
              go_ret
              exact ⟨rfl, by first | exact K3 | exact K3.drew | exact K3.drewN _⟩
            · have hv : fullU l = false := by rw [hF _ hK]; rw [if_neg (by omega)]; show (if 1 < n ∧ (byN l 1 < 160 ∨ 191 < byN l 1) then true else decide (2 < n ∧ (byN l 2 < 128 ∨ 191 < byN l 2))) = false; rw [if_neg (by omega)]; exact decide_eq_false (by omega)
              rw [hv]
              clear hv hF hK hT
              have d1 : decide ((1 : Int) < n) = true := decide_eq_true (by omega)
              have d3 : decide ((byN l 1 : Int) < 160) = false := decide_eq_false (by omega)
              have d4 : decide ((191 : Int) < byN l 1) = false := decide_eq_false (by omega)
              have d2 : decide ((2 : Int) < n) = false := decide_eq_false (by omega)
              go_enter Tryz.func118, Tryz.ntmps118
              go_wp2_with fail
              have K3 : Chg [] w (w.alloc (.cells #[.int .u8 160, .int .u8 191] 235)) := (Chg.refl _ _).alloc _
              have hA := alloc_heap w (.cells #[.int .u8 160, .int .u8 191] 235)
              have y0 : (w.alloc (.cells #[.int .u8 160, .int .u8 191] 235)).cell? ⟨w.heap.size, 0, none⟩ = some (.int .u8 160) := by rw [cell_of_heap hA]; rfl
              have y1 : (w.alloc (.cells #[.int .u8 160, .int .u8 191] 235)).cell? ⟨w.heap.size, 1, none⟩ = some (.int .u8 191) := by rw [cell_of_heap hA]; rfl
              replace b1 := K3.cell b1 (by simp)
              generalize w.alloc _ = w3 at *
              clear hA c2 c3 c0 c1
              go_quiet (fail)
              go_wp2_with fail
              go_ret
              exact ⟨rfl, by first | exact K3 | exact K3.drew | exact K3.drewN _⟩
    · have c1 := tab_first hT l0 hK
      have c2 : w.cell? ⟨2, 0, none⟩ = some (.int .u8 128) := (hT.2 0 (by omega)).1
      have c3 : w.cell? ⟨2, 1, none⟩ = some (.int .u8 191) := (hT.2 0 (by omega)).2
      by_cases hs : 3 ≤ n
      · have hv : fullU l = true := by rw [hF _ hK]; rw [if_pos (by omega)]
        rw [hv]
        clear hv hF hK hT
        go_enter Tryz.func118, Tryz.ntmps118
        go_wp2_with fail
        go_ret
        exact ⟨rfl, Chg.refl _ _⟩
      · have s0 : ((n : Int) < 3) := by omega
        by_cases h1 : n = 1
        · have hv : fullU l = false := by rw [hF _ hK]; rw [if_neg (by omega)]; show (if 1 < n ∧ (byN l 1 < 128 ∨ 191 < byN l 1) then true else decide (2 < n ∧ (byN l 2 < 128 ∨ 191 < byN l 2))) = false; rw [if_neg (by omega)]; exact decide_eq_false (by omega)
          rw [hv]
          clear hv hF hK hT
          have d1 : decide ((1 : Int) < n) = false := decide_eq_false (by omega)
          have d2 : decide ((2 : Int) < n) = false := decide_eq_false (by omega)
          go_enter Tryz.func118, Tryz.ntmps118
          go_wp2_with fail
          have K3 : Chg [] w (w.alloc (.cells #[.int .u8 128, .int .u8 191] 235)) := (Chg.refl _ _).alloc _
          have hA := alloc_heap w (.cells #[.int .u8 128, .int .u8 191] 235)
          have y0 : (w.alloc (.cells #[.int .u8 128, .int .u8 191] 235)).cell? ⟨w.heap.size, 0, none⟩ = some (.int .u8 128) := by rw [cell_of_heap hA]; rfl
          have y1 : (w.alloc (.cells #[.int .u8 128, .int .u8 191] 235)).cell? ⟨w.heap.size, 1, none⟩ = some (.int .u8 191) := by rw [cell_of_heap hA]; rfl
          generalize w.alloc _ = w3 at *
          clear hA c2 c3 c0 c1
          go_quiet (fail)
          go_wp2_with fail
          go_ret
          exact ⟨rfl, by first | exact K3 | exact K3.drew | exact K3.drewN _⟩
        · have b1 := HC.out 1 (by omega)
          by_cases p1 : byN l 1 < 128
          · have hv : fullU l = true := by rw [hF _ hK]; rw [if_neg (by omega)]; show (if 1 < n ∧ (byN l 1 < 128 ∨ 191 < byN l 1) then true else decide (2 < n ∧ (byN l 2 < 128 ∨ 191 < byN l 2))) = true; rw [if_pos (by omega)]
            rw [hv]
            clear hv hF hK hT
            have d1 : decide ((1 : Int) < n) = true := decide_eq_true (by omega)
            have d3 : decide ((byN l 1 : Int) < 128) = true := decide_eq_true (by omega)
            go_enter Tryz.func118, Tryz.ntmps118
            go_wp2_with fail
            have K3 : Chg [] w (w.alloc (.cells #[.int .u8 128, .int .u8 191] 235)) := (Chg.refl _ _).alloc _
            have hA := alloc_heap w (.cells #[.int .u8 128, .int .u8 191] 235)
            have y0 : (w.alloc (.cells #[.int .u8 128, .int .u8 191] 235)).cell? ⟨w.heap.size, 0, none⟩ = some (.int .u8 128) := by rw [cell_of_heap hA]; rfl
            have y1 : (w.alloc (.cells #[.int .u8 128, .int .u8 191] 235)).cell? ⟨w.heap.size, 1, none⟩ = some (.int .u8 191) := by rw [cell_of_heap hA]; rfl
            replace b1 := K3.cell b1 (by simp)
            generalize w.alloc _ = w3 at *
            clear hA c2 c3 c0 c1
            go_quiet (fail)
            go_wp2_with fail
            go_ret
            exact ⟨rfl, by first | exact K3 | exact K3.drew | exact K3.drewN _⟩
          · by_cases p2 : 191 < byN l 1
            · have hv : fullU l = true := by rw [hF _ hK]; rw [if_neg (by omega)]; show (if 1 < n ∧ (byN l 1 < 128 ∨ 191 < byN l 1) then true else decide (2 < n ∧ (byN l 2 < 128 ∨ 191 < byN l 2))) = true; rw [if_pos (by omega)]
              rw [hv]
              clear hv hF hK hT
              have d1 : decide ((1 : Int) < n) = true := decide_eq_true (by omega)
              have d3 : decide ((byN l 1 : Int) < 128) = false := decide_eq_false (by omega)
              have d4 : decide ((191 : Int) < byN l 1) = true := decide_eq_true (by omega)
              go_enter Tryz.func118, Tryz.ntmps118
              go_wp2_with fail
              have K3 : Chg [] w (w.alloc (.cells #[.int .u8 128, .int .u8 191] 235)) := (Chg.refl _ _).alloc _
              have hA := alloc_heap w (.cells #[.int .u8 128, .int .u8 191] 235)
              have y0 : (w.alloc (.cells #[.int .u8 128, .int .u8 191] 235)).cell? ⟨w.heap.size, 0, none⟩ = some (.int .u8 128) := by rw [cell_of_heap hA]; rfl
              have y1 : (w.alloc (.cells #[.int .u8 128, .int .u8 191] 235)).cell? ⟨w.heap.size, 1, none⟩ = some (.int .u8 191) := by rw [cell_of_heap hA]; rfl
              replace b1 := K3.cell b1 (by simp)
              generalize w.alloc _ = w3 at *
              clear hA c2 c3 c0 c1
              go_quiet (fail)
              go_wp2_with fail
              go_ret
              exact ⟨rfl, by first | exact K3 | exact K3.drew | exact K3.drewN _⟩
            · have hv : fullU l = false := by rw [hF _ hK]; rw [if_neg (by omega)]; show (if 1 < n ∧ (byN l 1 < 128 ∨ 191 < byN l 1) then true else decide (2 < n ∧ (byN l 2 < 128 ∨ 191 < byN l 2))) = false; rw [if_neg (by omega)]; exact decide_eq_false (by omega)
              rw [hv]
              clear hv hF hK hT
              have d1 : decide ((1 : Int) < n) = true := decide_eq_true (by omega)
              have d3 : decide ((byN l 1 : Int) < 128) = false := decide_eq_false (by omega)
              have d4 : decide ((191 : Int) < byN l 1) = false := decide_eq_false (by omega)
              have d2 : decide ((2 : Int) < n) = false := decide_eq_false (by omega)
              go_enter Tryz.func118, Tryz.ntmps118
              go_wp2_with fail
              have K3 : Chg [] w (w.alloc (.cells #[.int .u8 128, .int .u8 191] 235)) := (Chg.refl _ _).alloc _
              have hA := alloc_heap w (.cells #[.int .u8 128, .int .u8 191] 235)
              have y0 : (w.alloc (.cells #[.int .u8 128, .int .u8 191] 235)).cell? ⟨w.heap.size, 0, none⟩ = some (.int .u8 128) := by rw [cell_of_heap hA]; rfl
              have y1 : (w.alloc (.cells #[.int .u8 128, .int .u8 191] 235)).cell? ⟨w.heap.size, 1, none⟩ = some (.int .u8 191) := by rw [cell_of_heap hA]; rfl
              replace b1 := K3.cell b1 (by simp)
              generalize w.alloc _ = w3 at *
              clear hA c2 c3 c0 c1
              go_quiet (fail)
              go_wp2_with fail
              go_ret
              exact ⟨rfl, by first | exact K3 | exact K3.drew | exact K3.drewN _⟩
    · have c1 := tab_first hT l0 hK
      have c2 : w.cell? ⟨2, 4, none⟩ = some (.int .u8 128) := (hT.2 2 (by omega)).1
      have c3 : w.cell? ⟨2, 5, none⟩ = some (.int .u8 159) := (hT.2 2 (by omega)).2
      by_cases hs : 3 ≤ n
      · have hv : fullU l = true := by rw [hF _ hK]; rw [if_pos (by omega)]
        rw [hv]
        clear hv hF hK hT
        go_enter Tryz.func118, Tryz.ntmps118
        go_wp2_with fail
        go_ret
        exact ⟨rfl, Chg.refl _ _⟩
      · have s0 : ((n : Int) < 3) := by omega
        by_cases h1 : n = 1
        · have hv : fullU l = false := by rw [hF _ hK]; rw [if_neg (by omega)]; show (if 1 < n ∧ (byN l 1 < 128 ∨ 159 < byN l 1) then true else decide (2 < n ∧ (byN l 2 < 128 ∨ 191 < byN l 2))) = false; rw [if_neg (by omega)]; exact decide_eq_false (by omega)
          rw [hv]
          clear hv hF hK hT
          have d1 : decide ((1 : Int) < n) = false := decide_eq_false (by omega)
          have d2 : decide ((2 : Int) < n) = false := decide_eq_false (by omega)
          go_enter Tryz.func118, Tryz.ntmps118
          go_wp2_with fail
          have K3 : Chg [] w (w.alloc (.cells #[.int .u8 128, .int .u8 159] 235)) := (Chg.refl _ _).alloc _
          have hA := alloc_heap w (.cells #[.int .u8 128, .int .u8 159] 235)
          have y0 : (w.alloc (.cells #[.int .u8 128, .int .u8 159] 235)).cell? ⟨w.heap.size, 0, none⟩ = some (.int .u8 128) := by rw [cell_of_heap hA]; rfl
          have y1 : (w.alloc (.cells #[.int .u8 128, .int .u8 159] 235)).cell? ⟨w.heap.size, 1, none⟩ = some (.int .u8 159) := by rw [cell_of_heap hA]; rfl
          generalize w.alloc _ = w3 at *
          clear hA c2 c3 c0 c1
          go_quiet (fail)
          go_wp2_with fail
          go_ret
          exact ⟨rfl, by first | exact K3 | exact K3.drew | exact K3.drewN _⟩
        · have b1 := HC.out 1 (by omega)
          by_cases p1 : byN l 1 < 128
          · have hv : fullU l = true := by rw [hF _ hK]; rw [if_neg (by omega)]; show (if 1 < n ∧ (byN l 1 < 128 ∨ 159 < byN l 1) then true else decide (2 < n ∧ (byN l 2 < 128 ∨ 191 < byN l 2))) = true; rw [if_pos (by omega)]
            rw [hv]
            clear hv hF hK hT
            have d1 : decide ((1 : Int) < n) = true := decide_eq_true (by omega)
            have d3 : decide ((byN l 1 : Int) < 128) = true := decide_eq_true (by omega)
            go_enter Tryz.func118, Tryz.ntmps118
            go_wp2_with fail
            have K3 : Chg [] w (w.alloc (.cells #[.int .u8 128, .int .u8 159] 235)) := (Chg.refl _ _).alloc _
            have hA := alloc_heap w (.cells #[.int .u8 128, .int .u8 159] 235)
            have y0 : (w.alloc (.cells #[.int .u8 128, .int .u8 159] 235)).cell? ⟨w.heap.size, 0, none⟩ = some (.int .u8 128) := by rw [cell_of_heap hA]; rfl
            have y1 : (w.alloc (.cells #[.int .u8 128, .int .u8 159] 235)).cell? ⟨w.heap.size, 1, none⟩ = some (.int .u8 159) := by rw [cell_of_heap hA]; rfl
            replace b1 := K3.cell b1 (by simp)
            generalize w.alloc _ = w3 at *
            clear hA c2 c3 c0 c1
            go_quiet (fail)
            go_wp2_with fail
            go_ret
            exact ⟨rfl, by first | exact K3 | exact K3.drew | exact K3.drewN _⟩
          · by_cases p2 : 159 < byN l 1
            · have hv : fullU l = true := by rw [hF _ hK]; rw [if_neg (by omega)]; show (if 1 < n ∧ (byN l 1 < 128 ∨ 159 < byN l 1) then true else decide (2 < n ∧ (byN l 2 < 128 ∨ 191 < byN l 2))) = true; rw [if_pos (by omega)]
              rw [hv]
              clear hv hF hK hT
              have d1 : decide ((1 : Int) < n) = true := decide_eq_true (by omega)
              have d3 : decide ((byN l 1 : Int) < 128) = false := decide_eq_false (by omega)
              have d4 : decide ((159 : Int) < byN l 1) = true := decide_eq_true (by omega)
              go_enter Tryz.func118, Tryz.ntmps118
              go_wp2_with fail
              have K3 : Chg [] w (w.alloc (.cells #[.int .u8 128, .int .u8 159] 235)) := (Chg.refl _ _).alloc _
              have hA := alloc_heap w (.cells #[.int .u8 128, .int .u8 159] 235)
              have y0 : (w.alloc (.cells #[.int .u8 128, .int .u8 159] 235)).cell? ⟨w.heap.size, 0, none⟩ = some (.int .u8 128) := by rw [cell_of_heap hA]; rfl
              have y1 : (w.alloc (.cells #[.int .u8 128, .int .u8 159] 235)).cell? ⟨w.heap.size, 1, none⟩ = some (.int .u8 159) := by rw [cell_of_heap hA]; rfl
              replace b1 := K3.cell b1 (by simp)
              generalize w.alloc _ = w3 at *
              clear hA c2 c3 c0 c1
              go_quiet (fail)
              go_wp2_with fail
              go_ret
              exact ⟨rfl, by first | exact K3 | exact K3.drew | exact K3.drewN _⟩
            · have hv : fullU l = false := by rw [hF _ hK]; rw [if_neg (by omega)]; show (if 1 < n ∧ (byN l 1 < 128 ∨ 159 < byN l 1) then true else decide (2 < n ∧ (byN l 2 < 128 ∨ 191 < byN l 2))) = false; rw [if_neg (by omega)]; exact decide_eq_false (by omega)
              rw [hv]
              clear hv hF hK hT
              have d1 : decide ((1 : Int) < n) = true := decide_eq_true (by omega)
              have d3 : decide ((byN l 1 : Int) < 128) = false := decide_eq_false (by omega)
              have d4 : decide ((159 : Int) < byN l 1) = false := decide_eq_false (by omega)
              have d2 : decide ((2 : Int) < n) = false := decide_eq_false (by omega)
              go_enter Tryz.func118, Tryz.ntmps118
              go_wp2_with fail
              have K3 : Chg [] w (w.alloc (.cells #[.int .u8 128, .int .u8 159] 235)) := (Chg.refl _ _).alloc _
              have hA := alloc_heap w (.cells #[.int .u8 128, .int .u8 159] 235)
              have y0 : (w.alloc (.cells #[.int .u8 128, .int .u8 159] 235)).cell? ⟨w.heap.size, 0, none⟩ = some (.int .u8 128) := by rw [cell_of_heap hA]; rfl
              have y1 : (w.alloc (.cells #[.int .u8 128, .int .u8 159] 235)).cell? ⟨w.heap.size, 1, none⟩ = some (.int .u8 159) := by rw [cell_of_heap hA]; rfl
              replace b1 := K3.cell b1 (by simp)
              generalize w.alloc _ = w3 at *
              clear hA c2 c3 c0 c1
              go_quiet (fail)
              go_wp2_with fail
              go_ret
              exact ⟨rfl, by first | exact K3 | exact K3.drew | exact K3.drewN _⟩
    · have c1 := tab_first hT l0 hK
      have c2 : w.cell? ⟨2, 6, none⟩ = some (.int .u8 144) := (hT.2 3 (by omega)).1
      have c3 : w.cell? ⟨2, 7, none⟩ = some (.int .u8 191) := (hT.2 3 (by omega)).2
      by_cases hs : 4 ≤ n
      · have hv : fullU l = true := by rw [hF _ hK]; rw [if_pos (by omega)]
        rw [hv]
        clear hv hF hK hT
        go_enter Tryz.func118, Tryz.ntmps118
        go_wp2_with fail
        go_ret
        exact ⟨rfl, Chg.refl _ _⟩
      · have s0 : ((n : Int) < 4) := by omega
        by_cases h1 : n = 1
        · have hv : fullU l = false := by rw [hF _ hK]; rw [if_neg (by omega)]; show (if 1 < n ∧ (byN l 1 < 144 ∨ 191 < byN l 1) then true else decide (2 < n ∧ (byN l 2 < 128 ∨ 191 < byN l 2))) = false; rw [if_neg (by omega)]; exact decide_eq_false (by omega)
          rw [hv]
          clear hv hF hK hT
          have d1 : decide ((1 : Int) < n) = false := decide_eq_false (by omega)
          have d2 : decide ((2 : Int) < n) = false := decide_eq_false (by omega)
          go_enter Tryz.func118, Tryz.ntmps118
          go_wp2_with fail
          have K3 : Chg [] w (w.alloc (.cells #[.int .u8 144, .int .u8 191] 235)) := (Chg.refl _ _).alloc _
          have hA := alloc_heap w (.cells #[.int .u8 144, .int .u8 191] 235)
          have y0 : (w.alloc (.cells #[.int .u8 144, .int .u8 191] 235)).cell? ⟨w.heap.size, 0, none⟩ = some (.int .u8 144) := by rw [cell_of_heap hA]; rfl
          have y1 : (w.alloc (.cells #[.int .u8 144, .int .u8 191] 235)).cell? ⟨w.heap.size, 1, none⟩ = some (.int .u8 191) := by rw [cell_of_heap hA]; rfl
          generalize w.alloc _ = w3 at *
          clear hA c2 c3 c0 c1
          go_quiet (fail)
          go_wp2_with fail
          go_ret
          exact ⟨rfl, by first | exact K3 | exact K3.drew | exact K3.drewN _⟩
        · have b1 := HC.out 1 (by omega)
          by_cases p1 : byN l 1 < 144
          · have hv : fullU l = true := by rw [hF _ hK]; rw [if_neg (by omega)]; show (if 1 < n ∧ (byN l 1 < 144 ∨ 191 < byN l 1) then true else decide (2 < n ∧ (byN l 2 < 128 ∨ 191 < byN l 2))) = true; rw [if_pos (by omega)]
            rw [hv]
            clear hv hF hK hT
            have d1 : decide ((1 : Int) < n) = true := decide_eq_true (by omega)
            have d3 : decide ((byN l 1 : Int) < 144) = true := decide_eq_true (by omega)
            go_enter Tryz.func118, Tryz.ntmps118
            go_wp2_with fail
            have K3 : Chg [] w (w.alloc (.cells #[.int .u8 144, .int .u8 191] 235)) := (Chg.refl _ _).alloc _
            have hA := alloc_heap w (.cells #[.int .u8 144, .int .u8 191] 235)
            have y0 : (w.alloc (.cells #[.int .u8 144, .int .u8 191] 235)).cell? ⟨w.heap.size, 0, none⟩ = some (.int .u8 144) := by rw [cell_of_heap hA]; rfl
            have y1 : (w.alloc (.cells #[.int .u8 144, .int .u8 191] 235)).cell? ⟨w.heap.size, 1, none⟩ = some (.int .u8 191) := by rw [cell_of_heap hA]; rfl
            replace b1 := K3.cell b1 (by simp)
            generalize w.alloc _ = w3 at *
            clear hA c2 c3 c0 c1
            go_quiet (fail)
            go_wp2_with fail
            go_ret
            exact ⟨rfl, by first | exact K3 | exact K3.drew | exact K3.drewN _⟩
          · by_cases p2 : 191 < byN l 1
            · have hv : fullU l = true := by rw [hF _ hK]; rw [if_neg (by omega)]; show (if 1 < n ∧ (byN l 1 < 144 ∨ 191 < byN l 1) then true else decide (2 < n ∧ (byN l 2 < 128 ∨ 191 < byN l 2))) = true; rw [if_pos (by omega)]
              rw [hv]
              clear hv hF hK hT
              have d1 : decide ((1 : Int) < n) = true := decide_eq_true (by omega)
              have d3 : decide ((byN l 1 : Int) < 144) = false := decide_eq_false (by omega)
              have d4 : decide ((191 : Int) < byN l 1) = true := decide_eq_true (by omega)
              go_enter Tryz.func118, Tryz.ntmps118
              go_wp2_with fail
              have K3 : Chg [] w (w.alloc (.cells #[.int .u8 144, .int .u8 191] 235)) := (Chg.refl _ _).alloc _
              have hA := alloc_heap w (.cells #[.int .u8 144, .int .u8 191] 235)
              have y0 : (w.alloc (.cells #[.int .u8 144, .int .u8 191] 235)).cell? ⟨w.heap.size, 0, none⟩ = some (.int .u8 144) := by rw [cell_of_heap hA]; rfl
              have y1 : (w.alloc (.cells #[.int .u8 144, .int .u8 191] 235)).cell? ⟨w.heap.size, 1, none⟩ = some (.int .u8 191) := by rw [cell_of_heap hA]; rfl
              replace b1 := K3.cell b1 (by simp)
              generalize w.alloc _ = w3 at *
              clear hA c2 c3 c0 c1
              go_quiet (fail)
              go_wp2_with fail
              go_ret
              exact ⟨rfl, by first | exact K3 | exact K3.drew | exact K3.drewN _⟩
            · by_cases h2 : n = 2
              · have hv : fullU l = false := by rw [hF _ hK]; rw [if_neg (by omega)]; show (if 1 < n ∧ (byN l 1 < 144 ∨ 191 < byN l 1) then true else decide (2 < n ∧ (byN l 2 < 128 ∨ 191 < byN l 2))) = false; rw [if_neg (by omega)]; exact decide_eq_false (by omega)
                rw [hv]
                clear hv hF hK hT
                have d1 : decide ((1 : Int) < n) = true := decide_eq_true (by omega)
                have d3 : decide ((byN l 1 : Int) < 144) = false := decide_eq_false (by omega)
                have d4 : decide ((191 : Int) < byN l 1) = false := decide_eq_false (by omega)
                have d2 : decide ((2 : Int) < n) = false := decide_eq_false (by omega)
                go_enter Tryz.func118, Tryz.ntmps118
                go_wp2_with fail
                have K3 : Chg [] w (w.alloc (.cells #[.int .u8 144, .int .u8 191] 235)) := (Chg.refl _ _).alloc _
                have hA := alloc_heap w (.cells #[.int .u8 144, .int .u8 191] 235)
                have y0 : (w.alloc (.cells #[.int .u8 144, .int .u8 191] 235)).cell? ⟨w.heap.size, 0, none⟩ = some (.int .u8 144) := by rw [cell_of_heap hA]; rfl
                have y1 : (w.alloc (.cells #[.int .u8 144, .int .u8 191] 235)).cell? ⟨w.heap.size, 1, none⟩ = some (.int .u8 191) := by rw [cell_of_heap hA]; rfl
                replace b1 := K3.cell b1 (by simp)
                generalize w.alloc _ = w3 at *
                clear hA c2 c3 c0 c1
                go_quiet (fail)
                go_wp2_with fail
                go_ret
                exact ⟨rfl, by first | exact K3 | exact K3.drew | exact K3.drewN _⟩
              · have b2 := HC.out 2 (by omega)
                by_cases p3 : byN l 2 < 128
                · have hv : fullU l = true := by rw [hF _ hK]; rw [if_neg (by omega)]; show (if 1 < n ∧ (byN l 1 < 144 ∨ 191 < byN l 1) then true else decide (2 < n ∧ (byN l 2 < 128 ∨ 191 < byN l 2))) = true; rw [if_neg (by omega)]; exact decide_eq_true (by omega)
                  rw [hv]
                  clear hv hF hK hT
                  have d1 : decide ((1 : Int) < n) = true := decide_eq_true (by omega)
                  have d3 : decide ((byN l 1 : Int) < 144) = false := decide_eq_false (by omega)
                  have d4 : decide ((191 : Int) < byN l 1) = false := decide_eq_false (by omega)
                  have d2 : decide ((2 : Int) < n) = true := decide_eq_true (by omega)
                  have d5 : decide ((byN l 2 : Int) < 128) = true := decide_eq_true (by omega)
                  go_enter Tryz.func118, Tryz.ntmps118
                  go_wp2_with fail
                  have K3 : Chg [] w (w.alloc (.cells #[.int .u8 144, .int .u8 191] 235)) := (Chg.refl _ _).alloc _
                  have hA := alloc_heap w (.cells #[.int .u8 144, .int .u8 191] 235)
                  have y0 : (w.alloc (.cells #[.int .u8 144, .int .u8 191] 235)).cell? ⟨w.heap.size, 0, none⟩ = some (.int .u8 144) := by rw [cell_of_heap hA]; rfl
                  have y1 : (w.alloc (.cells #[.int .u8 144, .int .u8 191] 235)).cell? ⟨w.heap.size, 1, none⟩ = some (.int .u8 191) := by rw [cell_of_heap hA]; rfl
                  replace b1 := K3.cell b1 (by simp)
                  replace b2 := K3.cell b2 (by simp)
                  generalize w.alloc _ = w3 at *
                  clear hA c2 c3 c0 c1
                  go_quiet (fail)
                  go_wp2_with fail
                  go_ret
                  exact ⟨rfl, by first | exact K3 | exact K3.drew | exact K3.drewN _⟩
                · by_cases p4 : 191 < byN l 2
                  · have hv : fullU l = true := by rw [hF _ hK]; rw [if_neg (by omega)]; show (if 1 < n ∧ (byN l 1 < 144 ∨ 191 < byN l 1) then true else decide (2 < n ∧ (byN l 2 < 128 ∨ 191 < byN l 2))) = true; rw [if_neg (by omega)]; exact decide_eq_true (by omega)
                    rw [hv]
                    clear hv hF hK hT
                    have d1 : decide ((1 : Int) < n) = true := decide_eq_true (by omega)
                    have d3 : decide ((byN l 1 : Int) < 144) = false := decide_eq_false (by omega)
                    have d4 : decide ((191 : Int) < byN l 1) = false := decide_eq_false (by omega)
                    have d2 : decide ((2 : Int) < n) = true := decide_eq_true (by omega)
                    have d5 : decide ((byN l 2 : Int) < 128) = false := decide_eq_false (by omega)
                    have d6 : decide ((191 : Int) < byN l 2) = true := decide_eq_true (by omega)
                    go_enter Tryz.func118, Tryz.ntmps118
                    go_wp2_with fail
                    have K3 : Chg [] w (w.alloc (.cells #[.int .u8 144, .int .u8 191] 235)) := (Chg.refl _ _).alloc _
                    have hA := alloc_heap w (.cells #[.int .u8 144, .int .u8 191] 235)
                    have y0 : (w.alloc (.cells #[.int .u8 144, .int .u8 191] 235)).cell? ⟨w.heap.size, 0, none⟩ = some (.int .u8 144) := by rw [cell_of_heap hA]; rfl
                    have y1 : (w.alloc (.cells #[.int .u8 144, .int .u8 191] 235)).cell? ⟨w.heap.size, 1, none⟩ = some (.int .u8 191) := by rw [cell_of_heap hA]; rfl
                    replace b1 := K3.cell b1 (by simp)
                    replace b2 := K3.cell b2 (by simp)
                    generalize w.alloc _ = w3 at *
                    clear hA c2 c3 c0 c1
                    go_quiet (fail)
                    go_wp2_with fail
                    go_ret
                    exact ⟨rfl, by first | exact K3 | exact K3.drew | exact K3.drewN _⟩
                  · have hv : fullU l = false := by rw [hF _ hK]; rw [if_neg (by omega)]; show (if 1 < n ∧ (byN l 1 < 144 ∨ 191 < byN l 1) then true else decide (2 < n ∧ (byN l 2 < 128 ∨ 191 < byN l 2))) = false; rw [if_neg (by omega)]; exact decide_eq_false (by omega)
                    rw [hv]
                    clear hv hF hK hT
                    have d1 : decide ((1 : Int) < n) = true := decide_eq_true (by omega)
                    have d3 : decide ((byN l 1 : Int) < 144) = false := decide_eq_false (by omega)
                    have d4 : decide ((191 : Int) < byN l 1) = false := decide_eq_false (by omega)
                    have d2 : decide ((2 : Int) < n) = true := decide_eq_true (by omega)
                    have d5 : decide ((byN l 2 : Int) < 128) = false := decide_eq_false (by omega)
                    have d6 : decide ((191 : Int) < byN l 2) = false := decide_eq_false (by omega)
                    go_enter Tryz.func118, Tryz.ntmps118
                    go_wp2_with fail
                    have K3 : Chg [] w (w.alloc (.cells #[.int .u8 144, .int .u8 191] 235)) := (Chg.refl _ _).alloc _
                    have hA := alloc_heap w (.cells #[.int .u8 144, .int .u8 191] 235)
                    have y0 : (w.alloc (.cells #[.int .u8 144, .int .u8 191] 235)).cell? ⟨w.heap.size, 0, none⟩ = some (.int .u8 144) := by rw [cell_of_heap hA]; rfl
                    have y1 : (w.alloc (.cells #[.int .u8 144, .int .u8 191] 235)).cell? ⟨w.heap.size, 1, none⟩ = some (.int .u8 191) := by rw [cell_of_heap hA]; rfl
                    replace b1 := K3.cell b1 (by simp)
                    replace b2 := K3.cell b2 (by simp)
                    generalize w.alloc _ = w3 at *
                    clear hA c2 c3 c0 c1
                    go_quiet (fail)
                    go_wp2_with fail
                    go_ret
                    exact ⟨rfl, by first | exact K3 | exact K3.drew | exact K3.drewN _⟩
    · have c1 := tab_first hT l0 hK
      have c2 : w.cell? ⟨2, 0, none⟩ = some (.int .u8 128) := (hT.2 0 (by omega)).1
      have c3 : w.cell? ⟨2, 1, none⟩ = some (.int .u8 191) := (hT.2 0 (by omega)).2
      by_cases hs : 4 ≤ n
      · have hv : fullU l = true := by rw [hF _ hK]; rw [if_pos (by omega)]
        rw [hv]
        clear hv hF hK hT
        go_enter Tryz.func118, Tryz.ntmps118
        go_wp2_with fail
        go_ret
        exact ⟨rfl, Chg.refl _ _⟩
      · have s0 : ((n : Int) < 4) := by omega
        by_cases h1 : n = 1
        · have hv : fullU l = false := by rw [hF _ hK]; rw [if_neg (by omega)]; show (if 1 < n ∧ (byN l 1 < 128 ∨ 191 < byN l 1) then true else decide (2 < n ∧ (byN l 2 < 128 ∨ 191 < byN l 2))) = false; rw [if_neg (by omega)]; exact decide_eq_false (by omega)
          rw [hv]
          clear hv hF hK hT
          have d1 : decide ((1 : Int) < n) = false := decide_eq_false (by omega)
          have d2 : decide ((2 : Int) < n) = false := decide_eq_false (by omega)
          go_enter Tryz.func118, Tryz.ntmps118
          go_wp2_with fail
          have K3 : Chg [] w (w.alloc (.cells #[.int .u8 128, .int .u8 191] 235)) := (Chg.refl _ _).alloc _
          have hA := alloc_heap w (.cells #[.int .u8 128, .int .u8 191] 235)
          have y0 : (w.alloc (.cells #[.int .u8 128, .int .u8 191] 235)).cell? ⟨w.heap.size, 0, none⟩ = some (.int .u8 128) := by rw [cell_of_heap hA]; rfl
          have y1 : (w.alloc (.cells #[.int .u8 128, .int .u8 191] 235)).cell? ⟨w.heap.size, 1, none⟩ = some (.int .u8 191) := by rw [cell_of_heap hA]; rfl
          generalize w.alloc _ = w3 at *
          clear hA c2 c3 c0 c1
          go_quiet (fail)
          go_wp2_with fail
          go_ret
          exact ⟨rfl, by first | exact K3 | exact K3.drew | exact K3.drewN _⟩
        · have b1 := HC.out 1 (by omega)
          by_cases p1 : byN l 1 < 128
          · have hv : fullU l = true := by rw [hF _ hK]; rw [if_neg (by omega)]; show (if 1 < n ∧ (byN l 1 < 128 ∨ 191 < byN l 1) then true else decide (2 < n ∧ (byN l 2 < 128 ∨ 191 < byN l 2))) = true; rw [if_pos (by omega)]
            rw [hv]
            clear hv hF hK hT
            have d1 : decide ((1 : Int) < n) = true := decide_eq_true (by omega)
            have d3 : decide ((byN l 1 : Int) < 128) = true := decide_eq_true (by omega)
            go_enter Tryz.func118, Tryz.ntmps118
            go_wp2_with fail
            have K3 : Chg [] w (w.alloc (.cells #[.int .u8 128, .int .u8 191] 235)) := (Chg.refl _ _).alloc _
            have hA := alloc_heap w (.cells #[.int .u8 128, .int .u8 191] 235)
            have y0 : (w.alloc (.cells #[.int .u8 128, .int .u8 191] 235)).cell? ⟨w.heap.size, 0, none⟩ = some (.int .u8 128) := by rw [cell_of_heap hA]; rfl
            have y1 : (w.alloc (.cells #[.int .u8 128, .int .u8 191] 235)).cell? ⟨w.heap.size, 1, none⟩ = some (.int .u8 191) := by rw [cell_of_heap hA]; rfl
            replace b1 := K3.cell b1 (by simp)
            generalize w.alloc _ = w3 at *
            clear hA c2 c3 c0 c1
            go_quiet (fail)
            go_wp2_with fail
            go_ret
            exact ⟨rfl, by first | exact K3 | exact K3.drew | exact K3.drewN _⟩
          · by_cases p2 : 191 < byN l 1
            · have hv : fullU l = true := by rw [hF _ hK]; rw [if_neg (by omega)]; show (if 1 < n ∧ (byN l 1 < 128 ∨ 191 < byN l 1) then true else decide (2 < n ∧ (byN l 2 < 128 ∨ 191 < byN l 2))) = true; rw [if_pos (by omega)]
              rw [hv]
              clear hv hF hK hT
              have d1 : decide ((1 : Int) < n) = true := decide_eq_true (by omega)
              have d3 : decide ((byN l 1 : Int) < 128) = false := decide_eq_false (by omega)
              have d4 : decide ((191 : Int) < byN l 1) = true := decide_eq_true (by omega)
              go_enter Tryz.func118, Tryz.ntmps118
              go_wp2_with fail
              have K3 : Chg [] w (w.alloc (.cells #[.int .u8 128, .int .u8 191] 235)) := (Chg.refl _ _).alloc _
              have hA := alloc_heap w (.cells #[.int .u8 128, .int .u8 191] 235)
              have y0 : (w.alloc (.cells #[.int .u8 128, .int .u8 191] 235)).cell? ⟨w.heap.size, 0, none⟩ = some (.int .u8 128) := by rw [cell_of_heap hA]; rfl
              have y1 : (w.alloc (.cells #[.int .u8 128, .int .u8 191] 235)).cell? ⟨w.heap.size, 1, none⟩ = some (.int .u8 191) := by rw [cell_of_heap hA]; rfl
              replace b1 := K3.cell b1 (by simp)
              generalize w.alloc _ = w3 at *
              clear hA c2 c3 c0 c1
              go_quiet (fail)
              go_wp2_with fail
              go_ret
              exact ⟨rfl, by first | exact K3 | exact K3.drew | exact K3.drewN _⟩
            · by_cases h2 : n = 2
              · have hv : fullU l = false := by rw [hF _ hK]; rw [if_neg (by omega)]; show (if 1 < n ∧ (byN l 1 < 128 ∨ 191 < byN l 1) then true else decide (2 < n ∧ (byN l 2 < 128 ∨ 191 < byN l 2))) = false; rw [if_neg (by omega)]; exact decide_eq_false (by omega)
                rw [hv]
                clear hv hF hK hT
                have d1 : decide ((1 : Int) < n) = true := decide_eq_true (by omega)
                have d3 : decide ((byN l 1 : Int) < 128) = false := decide_eq_false (by omega)
                have d4 : decide ((191 : Int) < byN l 1) = false := decide_eq_false (by omega)
                have d2 : decide ((2 : Int) < n) = false := decide_eq_false (by omega)
                go_enter Tryz.func118, Tryz.ntmps118
                go_wp2_with fail
                have K3 : Chg [] w (w.alloc (.cells #[.int .u8 128, .int .u8 191] 235)) := (Chg.refl _ _).alloc _
                have hA := alloc_heap w (.cells #[.int .u8 128, .int .u8 191] 235)
                have y0 : (w.alloc (.cells #[.int .u8 128, .int .u8 191] 235)).cell? ⟨w.heap.size, 0, none⟩ = some (.int .u8 128) := by rw [cell_of_heap hA]; rfl
                have y1 : (w.alloc (.cells #[.int .u8 128, .int .u8 191] 235)).cell? ⟨w.heap.size, 1, none⟩ = some (.int .u8 191) := by rw [cell_of_heap hA]; rfl
                replace b1 := K3.cell b1 (by simp)
                generalize w.alloc _ = w3 at *
                clear hA c2 c3 c0 c1
                go_quiet (fail)
                go_wp2_with fail
                go_ret
                exact ⟨rfl, by first | exact K3 | exact K3.drew | exact K3.drewN _⟩
              · have b2 := HC.out 2 (by omega)
                by_cases p3 : byN l 2 < 128
                · have hv : fullU l = true := by rw [hF _ hK]; rw [if_neg (by omega)]; show (if 1 < n ∧ (byN l 1 < 128 ∨ 191 < byN l 1) then true else decide (2 < n ∧ (byN l 2 < 128 ∨ 191 < byN l 2))) = true; rw [if_neg (by omega)]; exact decide_eq_true (by omega)
                  rw [hv]
                  clear hv hF hK hT
                  have d1 : decide ((1 : Int) < n) = true := decide_eq_true (by omega)
                  have d3 : decide ((byN l 1 : Int) < 128) = false := decide_eq_false (by omega)
                  have d4 : decide ((191 : Int) < byN l 1) = false := decide_eq_false (by omega)
                  have d2 : decide ((2 : Int) < n) = true := decide_eq_true (by omega)
                  have d5 : decide ((byN l 2 : Int) < 128) = true := decide_eq_true (by omega)
                  go_enter Tryz.func118, Tryz.ntmps118
                  go_wp2_with fail
                  have K3 : Chg [] w (w.alloc (.cells #[.int .u8 128, .int .u8 191] 235)) := (Chg.refl _ _).alloc _
                  have hA := alloc_heap w (.cells #[.int .u8 128, .int .u8 191] 235)
                  have y0 : (w.alloc (.cells #[.int .u8 128, .int .u8 191] 235)).cell? ⟨w.heap.size, 0, none⟩ = some (.int .u8 128) := by rw [cell_of_heap hA]; rfl
                  have y1 : (w.alloc (.cells #[.int .u8 128, .int .u8 191] 235)).cell? ⟨w.heap.size, 1, none⟩ = some (.int .u8 191) := by rw [cell_of_heap hA]; rfl
                  replace b1 := K3.cell b1 (by simp)
                  replace b2 := K3.cell b2 (by simp)
                  generalize w.alloc _ = w3 at *
                  clear hA c2 c3 c0 c1
                  go_quiet (fail)
                  go_wp2_with fail
                  go_ret
                  exact ⟨rfl, by first | exact K3 | exact K3.drew | exact K3.drewN _⟩
                · by_cases p4 : 191 < byN l 2
                  · have hv : fullU l = true := by rw [hF _ hK]; rw [if_neg (by omega)]; show (if 1 < n ∧ (byN l 1 < 128 ∨ 191 < byN l 1) then true else decide (2 < n ∧ (byN l 2 < 128 ∨ 191 < byN l 2))) = true; rw [if_neg (by omega)]; exact decide_eq_true (by omega)
                    rw [hv]
                    clear hv hF hK hT
                    have d1 : decide ((1 : Int) < n) = true := decide_eq_true (by omega)
                    have d3 : decide ((byN l 1 : Int) < 128) = false := decide_eq_false (by omega)
                    have d4 : decide ((191 : Int) < byN l 1) = false := decide_eq_false (by omega)
                    have d2 : decide ((2 : Int) < n) = true := decide_eq_true (by omega)
                    have d5 : decide ((byN l 2 : Int) < 128) = false := decide_eq_false (by omega)
                    have d6 : decide ((191 : Int) < byN l 2) = true := decide_eq_true (by omega)
                    go_enter Tryz.func118, Tryz.ntmps118
                    go_wp2_with fail
                    have K3 : Chg [] w (w.alloc (.cells #[.int .u8 128, .int .u8 191] 235)) := (Chg.refl _ _).alloc _
                    have hA := alloc_heap w (.cells #[.int .u8 128, .int .u8 191] 235)
                    have y0 : (w.alloc (.cells #[.int .u8 128, .int .u8 191] 235)).cell? ⟨w.heap.size, 0, none⟩ = some (.int .u8 128) := by rw [cell_of_heap hA]; rfl
                    have y1 : (w.alloc (.cells #[.int .u8 128, .int .u8 191] 235)).cell? ⟨w.heap.size, 1, none⟩ = some (.int .u8 191) := by rw [cell_of_heap hA]; rfl
                    replace b1 := K3.cell b1 (by simp)
                    replace b2 := K3.cell b2 (by simp)
                    generalize w.alloc _ = w3 at *
                    clear hA c2 c3 c0 c1
                    go_quiet (fail)
                    go_wp2_with fail
                    go_ret
                    exact ⟨rfl, by first | exact K3 | exact K3.drew | exact K3.drewN _⟩
                  · have hv : fullU l = false := by rw [hF _ hK]; rw [if_neg (by omega)]; show (if 1 < n ∧ (byN l 1 < 128 ∨ 191 < byN l 1) then true else decide (2 < n ∧ (byN l 2 < 128 ∨ 191 < byN l 2))) = false; rw [if_neg (by omega)]; exact decide_eq_false (by omega)
                    rw [hv]
                    clear hv hF hK hT
                    have d1 : decide ((1 : Int) < n) = true := decide_eq_true (by omega)
                    have d3 : decide ((byN l 1 : Int) < 128) = false := decide_eq_false (by omega)
                    have d4 : decide ((191 : Int) < byN l 1) = false := decide_eq_false (by omega)
                    have d2 : decide ((2 : Int) < n) = true := decide_eq_true (by omega)
                    have d5 : decide ((byN l 2 : Int) < 128) = false := decide_eq_false (by omega)
                    have d6 : decide ((191 : Int) < byN l 2) = false := decide_eq_false (by omega)
                    go_enter Tryz.func118, Tryz.ntmps118
                    go_wp2_with fail
                    have K3 : Chg [] w (w.alloc (.cells #[.int .u8 128, .int .u8 191] 235)) := (Chg.refl _ _).alloc _
                    have hA := alloc_heap w (.cells #[.int .u8 128, .int .u8 191] 235)
                    have y0 : (w.alloc (.cells #[.int .u8 128, .int .u8 191] 235)).cell? ⟨w.heap.size, 0, none⟩ = some (.int .u8 128) := by rw [cell_of_heap hA]; rfl
                    have y1 : (w.alloc (.cells #[.int .u8 128, .int .u8 191] 235)).cell? ⟨w.heap.size, 1, none⟩ = some (.int .u8 191) := by rw [cell_of_heap hA]; rfl
                    replace b1 := K3.cell b1 (by simp)
                    replace b2 := K3.cell b2 (by simp)
                    generalize w.alloc _ = w3 at *
                    clear hA c2 c3 c0 c1
                    go_quiet (fail)
                    go_wp2_with fail
                    go_ret
                    exact ⟨rfl, by first | exact K3 | exact K3.drew | exact K3.drewN _⟩
    · have c1 := tab_first hT l0 hK
      have c2 : w.cell? ⟨2, 8, none⟩ = some (.int .u8 128) := (hT.2 4 (by omega)).1
      have c3 : w.cell? ⟨2, 9, none⟩ = some (.int .u8 143) := (hT.2 4 (by omega)).2
      by_cases hs : 4 ≤ n
      · have hv : fullU l = true := by rw [hF _ hK]; rw [if_pos (by omega)]
        rw [hv]
        clear hv hF hK hT
        go_enter Tryz.func118, Tryz.ntmps118
        go_wp2_with fail
        go_ret
        exact ⟨rfl, Chg.refl _ _⟩
      · have s0 : ((n : Int) < 4) := by omega
        by_cases h1 : n = 1
        · have hv : fullU l = false := by rw [hF _ hK]; rw [if_neg (by omega)]; show (if 1 < n ∧ (byN l 1 < 128 ∨ 143 < byN l 1) then true else decide (2 < n ∧ (byN l 2 < 128 ∨ 191 < byN l 2))) = false; rw [if_neg (by omega)]; exact decide_eq_false (by omega)
          rw [hv]
          clear hv hF hK hT
          have d1 : decide ((1 : Int) < n) = false := decide_eq_false (by omega)
          have d2 : decide ((2 : Int) < n) = false := decide_eq_false (by omega)
          go_enter Tryz.func118, Tryz.ntmps118
          go_wp2_with fail
          have K3 : Chg [] w (w.alloc (.cells #[.int .u8 128, .int .u8 143] 235)) := (Chg.refl _ _).alloc _
          have hA := alloc_heap w (.cells #[.int .u8 128, .int .u8 143] 235)
          have y0 : (w.alloc (.cells #[.int .u8 128, .int .u8 143] 235)).cell? ⟨w.heap.size, 0, none⟩ = some (.int .u8 128) := by rw [cell_of_heap hA]; rfl
          have y1 : (w.alloc (.cells #[.int .u8 128, .int .u8 143] 235)).cell? ⟨w.heap.size, 1, none⟩ = some (.int .u8 143) := by rw [cell_of_heap hA]; rfl
          generalize w.alloc _ = w3 at *
          clear hA c2 c3 c0 c1
          go_quiet (fail)
          go_wp2_with fail
          go_ret
          exact ⟨rfl, by first | exact K3 | exact K3.drew | exact K3.drewN _⟩
        · have b1 := HC.out 1 (by omega)
          by_cases p1 : byN l 1 < 128
          · have hv : fullU l = true := by rw [hF _ hK]; rw [if_neg (by omega)]; show (if 1 < n ∧ (byN l 1 < 128 ∨ 143 < byN l 1) then true else decide (2 < n ∧ (byN l 2 < 128 ∨ 191 < byN l 2))) = true; rw [if_pos (by omega)]
            rw [hv]
            clear hv hF hK hT
            have d1 : decide ((1 : Int) < n) = true := decide_eq_true (by omega)
            have d3 : decide ((byN l 1 : Int) < 128) = true := decide_eq_true (by omega)
            go_enter Tryz.func118, Tryz.ntmps118
            go_wp2_with fail
            have K3 : Chg [] w (w.alloc (.cells #[.int .u8 128, .int .u8 143] 235)) := (Chg.refl _ _).alloc _
            have hA := alloc_heap w (.cells #[.int .u8 128, .int .u8 143] 235)
            have y0 : (w.alloc (.cells #[.int .u8 128, .int .u8 143] 235)).cell? ⟨w.heap.size, 0, none⟩ = some (.int .u8 128) := by rw [cell_of_heap hA]; rfl
            have y1 : (w.alloc (.cells #[.int .u8 128, .int .u8 143] 235)).cell? ⟨w.heap.size, 1, none⟩ = some (.int .u8 143) := by rw [cell_of_heap hA]; rfl
            replace b1 := K3.cell b1 (by simp)
            generalize w.alloc _ = w3 at *
            clear hA c2 c3 c0 c1
            go_quiet (fail)
            go_wp2_with fail
            go_ret
            exact ⟨rfl, by first | exact K3 | exact K3.drew | exact K3.drewN _⟩
          · by_cases p2 : 143 < byN l 1
            · have hv : fullU l = true := by rw [hF _ hK]; rw [if_neg (by omega)]; show (if 1 < n ∧ (byN l 1 < 128 ∨ 143 < byN l 1) then true else decide (2 < n ∧ (byN l 2 < 128 ∨ 191 < byN l 2))) = true; rw [if_pos (by omega)]
              rw [hv]
              clear hv hF hK hT
              have d1 : decide ((1 : Int) < n) = true := decide_eq_true (by omega)
              have d3 : decide ((byN l 1 : Int) < 128) = false := decide_eq_false (by omega)
              have d4 : decide ((143 : Int) < byN l 1) = true := decide_eq_true (by omega)
              go_enter Tryz.func118, Tryz.ntmps118
              go_wp2_with fail
              have K3 : Chg [] w (w.alloc (.cells #[.int .u8 128, .int .u8 143] 235)) := (Chg.refl _ _).alloc _
              have hA := alloc_heap w (.cells #[.int .u8 128, .int .u8 143] 235)
              have y0 : (w.alloc (.cells #[.int .u8 128, .int .u8 143] 235)).cell? ⟨w.heap.size, 0, none⟩ = some (.int .u8 128) := by rw [cell_of_heap hA]; rfl
              have y1 : (w.alloc (.cells #[.int .u8 128, .int .u8 143] 235)).cell? ⟨w.heap.size, 1, none⟩ = some (.int .u8 143) := by rw [cell_of_heap hA]; rfl
              replace b1 := K3.cell b1 (by simp)
              generalize w.alloc _ = w3 at *
              clear hA c2 c3 c0 c1
              go_quiet (fail)
              go_wp2_with fail
              go_ret
              exact ⟨rfl, by first | exact K3 | exact K3.drew | exact K3.drewN _⟩
            · by_cases h2 : n = 2
              · have hv : fullU l = false := by rw [hF _ hK]; rw [if_neg (by omega)]; show (if 1 < n ∧ (byN l 1 < 128 ∨ 143 < byN l 1) then true else decide (2 < n ∧ (byN l 2 < 128 ∨ 191 < byN l 2))) = false; rw [if_neg (by omega)]; exact decide_eq_false (by omega)
                rw [hv]
                clear hv hF hK hT
                have d1 : decide ((1 : Int) < n) = true := decide_eq_true (by omega)
                have d3 : decide ((byN l 1 : Int) < 128) = false := decide_eq_false (by omega)
                have d4 : decide ((143 : Int) < byN l 1) = false := decide_eq_false (by omega)
                have d2 : decide ((2 : Int) < n) = false := decide_eq_false (by omega)
                go_enter Tryz.func118, Tryz.ntmps118
                go_wp2_with fail
                have K3 : Chg [] w (w.alloc (.cells #[.int .u8 128, .int .u8 143] 235)) := (Chg.refl _ _).alloc _
                have hA := alloc_heap w (.cells #[.int .u8 128, .int .u8 143] 235)
                have y0 : (w.alloc (.cells #[.int .u8 128, .int .u8 143] 235)).cell? ⟨w.heap.size, 0, none⟩ = some (.int .u8 128) := by rw [cell_of_heap hA]; rfl
                have y1 : (w.alloc (.cells #[.int .u8 128, .int .u8 143] 235)).cell? ⟨w.heap.size, 1, none⟩ = some (.int .u8 143) := by rw [cell_of_heap hA]; rfl
                replace b1 := K3.cell b1 (by simp)
                generalize w.alloc _ = w3 at *
                clear hA c2 c3 c0 c1
                go_quiet (fail)
                go_wp2_with fail
                go_ret
                exact ⟨rfl, by first | exact K3 | exact K3.drew | exact K3.drewN _⟩
              · have b2 := HC.out 2 (by omega)
                by_cases p3 : byN l 2 < 128
                · have hv : fullU l = true := by rw [hF _ hK]; rw [if_neg (by omega)]; show (if 1 < n ∧ (byN l 1 < 128 ∨ 143 < byN l 1) then true else decide (2 < n ∧ (byN l 2 < 128 ∨ 191 < byN l 2))) = true; rw [if_neg (by omega)]; exact decide_eq_true (by omega)
                  rw [hv]
                  clear hv hF hK hT
                  have d1 : decide ((1 : Int) < n) = true := decide_eq_true (by omega)
                  have d3 : decide ((byN l 1 : Int) < 128) = false := decide_eq_false (by omega)
                  have d4 : decide ((143 : Int) < byN l 1) = false := decide_eq_false (by omega)
                  have d2 : decide ((2 : Int) < n) = true := decide_eq_true (by omega)
                  have d5 : decide ((byN l 2 : Int) < 128) = true := decide_eq_true (by omega)
                  go_enter Tryz.func118, Tryz.ntmps118
                  go_wp2_with fail
                  have K3 : Chg [] w (w.alloc (.cells #[.int .u8 128, .int .u8 143] 235)) := (Chg.refl _ _).alloc _
                  have hA := alloc_heap w (.cells #[.int .u8 128, .int .u8 143] 235)
                  have y0 : (w.alloc (.cells #[.int .u8 128, .int .u8 143] 235)).cell? ⟨w.heap.size, 0, none⟩ = some (.int .u8 128) := by rw [cell_of_heap hA]; rfl
                  have y1 : (w.alloc (.cells #[.int .u8 128, .int .u8 143] 235)).cell? ⟨w.heap.size, 1, none⟩ = some (.int .u8 143) := by rw [cell_of_heap hA]; rfl
                  replace b1 := K3.cell b1 (by simp)
                  replace b2 := K3.cell b2 (by simp)
                  generalize w.alloc _ = w3 at *
                  clear hA c2 c3 c0 c1
                  go_quiet (fail)
                  go_wp2_with fail
                  go_ret
                  exact ⟨rfl, by first | exact K3 | exact K3.drew | exact K3.drewN _⟩
                · by_cases p4 : 191 < byN l 2
                  · have hv : fullU l = true := by rw [hF _ hK]; rw [if_neg (by omega)]; show (if 1 < n ∧ (byN l 1 < 128 ∨ 143 < byN l 1) then true else decide (2 < n ∧ (byN l 2 < 128 ∨ 191 < byN l 2))) = true; rw [if_neg (by omega)]; exact decide_eq_true (by omega)
                    rw [hv]
                    clear hv hF hK hT
                    have d1 : decide ((1 : Int) < n) = true := decide_eq_true (by omega)
                    have d3 : decide ((byN l 1 : Int) < 128) = false := decide_eq_false (by omega)
                    have d4 : decide ((143 : Int) < byN l 1) = false := decide_eq_false (by omega)
                    have d2 : decide ((2 : Int) < n) = true := decide_eq_true (by omega)
                    have d5 : decide ((byN l 2 : Int) < 128) = false := decide_eq_false (by omega)
                    have d6 : decide ((191 : Int) < byN l 2) = true := decide_eq_true (by omega)
                    go_enter Tryz.func118, Tryz.ntmps118
                    go_wp2_with fail
                    have K3 : Chg [] w (w.alloc (.cells #[.int .u8 128, .int .u8 143] 235)) := (Chg.refl _ _).alloc _
                    have hA := alloc_heap w (.cells #[.int .u8 128, .int .u8 143] 235)
                    have y0 : (w.alloc (.cells #[.int .u8 128, .int .u8 143] 235)).cell? ⟨w.heap.size, 0, none⟩ = some (.int .u8 128) := by rw [cell_of_heap hA]; rfl
                    have y1 : (w.alloc (.cells #[.int .u8 128, .int .u8 143] 235)).cell? ⟨w.heap.size, 1, none⟩ = some (.int .u8 143) := by rw [cell_of_heap hA]; rfl
                    replace b1 := K3.cell b1 (by simp)
                    replace b2 := K3.cell b2 (by simp)
                    generalize w.alloc _ = w3 at *
                    clear hA c2 c3 c0 c1
                    go_quiet (fail)
                    go_wp2_with fail
                    go_ret
                    exact ⟨rfl, by first | exact K3 | exact K3.drew | exact K3.drewN _⟩
                  · have hv : fullU l = false := by rw [hF _ hK]; rw [if_neg (by omega)]; show (if 1 < n ∧ (byN l 1 < 128 ∨ 143 < byN l 1) then true else decide (2 < n ∧ (byN l 2 < 128 ∨ 191 < byN l 2))) = false; rw [if_neg (by omega)]; exact decide_eq_false (by omega)
                    rw [hv]
                    clear hv hF hK hT
                    have d1 : decide ((1 : Int) < n) = true := decide_eq_true (by omega)
                    have d3 : decide ((byN l 1 : Int) < 128) = false := decide_eq_false (by omega)
                    have d4 : decide ((143 : Int) < byN l 1) = false := decide_eq_false (by omega)
                    have d2 : decide ((2 : Int) < n) = true := decide_eq_true (by omega)
                    have d5 : decide ((byN l 2 : Int) < 128) = false := decide_eq_false (by omega)
                    have d6 : decide ((191 : Int) < byN l 2) = false := decide_eq_false (by omega)
                    go_enter Tryz.func118, Tryz.ntmps118
                    go_wp2_with fail
                    have K3 : Chg [] w (w.alloc (.cells #[.int .u8 128, .int .u8 143] 235)) := (Chg.refl _ _).alloc _
                    have hA := alloc_heap w (.cells #[.int .u8 128, .int .u8 143] 235)
                    have y0 : (w.alloc (.cells #[.int .u8 128, .int .u8 143] 235)).cell? ⟨w.heap.size, 0, none⟩ = some (.int .u8 128) := by rw [cell_of_heap hA]; rfl
                    have y1 : (w.alloc (.cells #[.int .u8 128, .int .u8 143] 235)).cell? ⟨w.heap.size, 1, none⟩ = some (.int .u8 143) := by rw [cell_of_heap hA]; rfl
                    replace b1 := K3.cell b1 (by simp)
                    replace b2 := K3.cell b2 (by simp)
                    generalize w.alloc _ = w3 at *
                    clear hA c2 c3 c0 c1
                    go_quiet (fail)
                    go_wp2_with fail
                    go_ret
                    exact ⟨rfl, by first | exact K3 | exact K3.drew | exact K3.drewN _⟩
end Go.Proofs.YtafmnkngjjnpiaaGreatDoor
