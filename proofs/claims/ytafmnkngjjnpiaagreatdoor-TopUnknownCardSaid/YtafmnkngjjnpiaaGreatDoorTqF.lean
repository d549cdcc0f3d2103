import Derived.Test.YtafmnkngjjnpiaaGreatDoorTpY
import Derived.Test.YtafmnkngjjnpiaaGreatDoorTqC
import Derived.Test.YtafmnkngjjnpiaaGreatDoorTbE
import Derived.Test.YtafmnkngjjnpiaaGreatDoorTsC
namespace Go.Proofs.YtafmnkngjjnpiaaGreatDoor
set_option linter.unusedVariables false
set_option linter.unusedSimpArgs false
set_option maxRecDepth 100000
open Go.RowKit
theorem SPost.pre {w0 a b c : World} {γ : Gm} {τ τ1 : Tt} {s1 : Ss} {rd r1 : List Int} {R : Option Int × Ss} {k j : Nat} {e : Ending} (h : SPost w0 γ τ1 rd R k b e c) (G : SGo w0 a γ τ τ1 s1 r1 b) (hf : fee τ1 ≤ fee τ + j) : SPost w0 γ τ rd R (k + j) a e c := by
  obtain ⟨v, τ', h1, h2, h3, h4⟩ := h
  exact ⟨v, τ', h1, h2.pre G.c.size, G.trans h3, by omega⟩
def keyV (k : Ky) : Value := .agg #[.int .i64 k.kind, .int .i64 k.c]
def KeyCalls (w0 w : World) (γ : Gm) (τ : Tt) (s : Ss) (rd : List Int) (k : Ky) : Prop :=
  Calls Tryz.prog 196 #[.pointer (some ⟨γ.bS, 0, none⟩), keyV k] w (SPost w0 γ τ rd (keyS γ.q s k) 1 w)
theorem spost_end {w0 w w' : World} {γ : Gm} {τ : Tt} {s : Ss} {rd : List Int} {o : Int} {k : Nat} (G : SGo w0 w γ τ τ s rd w') :
    SPost w0 γ τ rd (some o, s) k w (.returned (.iface 222 (.pointer (some ⟨w'.heap.size, 0, none⟩)))) (w'.alloc (.cells #[.int .i64 o] 229)) :=
  ⟨_, τ, rfl, .inr ⟨o, w'.heap.size, rfl, rfl, alloc_heap w' _, G.c.size, G.is.new (Nat.le_refl _)⟩, G.chg0 ((Chg.refl _ _).alloc _), by omega⟩
theorem key_start (w0 w : World) (γ : Gm) (τ : Tt) (s : Ss) (rd : List Int) (c : Int) (h : SesIs w0 w γ τ s rd) : KeyCalls w0 w γ τ s rd ⟨13, c⟩ := by
  have hv : keyS γ.q s ⟨13, c⟩ = (none, { s with g := { s.g with begun := true } }) := rfl
  unfold KeyCalls keyV
  rw [hv]
  dsimp only
  have C1 : Chg [] w (w.alloc (.cells #[.int .i64 13, .int .i64 c] 48)) := (Chg.refl _ _).alloc _
  have X1 := alloc_heap w (.cells #[.int .i64 13, .int .i64 c] 48)
  have x0 : (w.alloc (.cells #[.int .i64 13, .int .i64 c] 48)).cell? ⟨w.heap.size, 0, none⟩ = some (.int .i64 13) := by rw [cell_of_heap X1]; rfl
  have H1 := h.chg0 C1
  have x6 : (w.alloc (.cells #[.int .i64 13, .int .i64 c] 48)).cell? ⟨γ.bS, 6, none⟩ = some (.pointer (some ⟨γ.bG, 0, none⟩)) := by rw [cell_of_heap H1.S]; rfl
  have HH := Lib.hid (And.intro h (And.intro C1 H1))
  clear h C1 X1 H1 hv
  go_enter Tryz.func196, Tryz.ntmps196
  go_wp2_with fail
  refine (start_any _ _ _ _ _ _ HH.out.2.2.G).mono ?_
  rintro e w2 ⟨⟨v, rfl⟩, C2, G2⟩
  have HP := Lib.hid (And.intro C2 G2)
  clear C2 G2
  go_wp2_with fail
  go_ret
  have hk := HH.out.2.2.K
  exact ⟨.nilIface, τ, rfl, .inl ⟨rfl, rfl⟩, SGo.pre0 HH.out.2.1 (SGo.of_k (HH.out.2.2.stg (HP.out.1.mono (by simp)) HP.out.2) HP.out.1 (by simp [hk.k3])), by omega⟩
set_option maxHeartbeats 8000000 in
theorem key_end (w0 w : World) (γ : Gm) (τ : Tt) (s : Ss) (rd : List Int) (c : Int) (h : SesIs w0 w γ τ s rd) (hf : fee τ ≤ 999999) : KeyCalls w0 w γ τ s rd ⟨14, c⟩ := by
  have hv : keyS γ.q s ⟨14, c⟩ = ansS γ.q { s with g := (endS 1024 s.g s.b).2.1, b := (endS 1024 s.g s.b).2.2 } true (endS 1024 s.g s.b).1 := rfl
  unfold KeyCalls keyV
  rw [hv]
  dsimp only
  have C1 : Chg [] w (w.alloc (.cells #[.int .i64 14, .int .i64 c] 48)) := (Chg.refl _ _).alloc _
  have X1 := alloc_heap w (.cells #[.int .i64 14, .int .i64 c] 48)
  have x0 : (w.alloc (.cells #[.int .i64 14, .int .i64 c] 48)).cell? ⟨w.heap.size, 0, none⟩ = some (.int .i64 14) := by rw [cell_of_heap X1]; rfl
  have HH := Lib.hid (And.intro h (And.intro C1 hf))
  have hk := h.K
  have hd : ∀ x ∈ [γ.bG, γ.pA, γ.pC], x ∉ [γ.bE, γ.eA, γ.eC] := by
    intro x hx hm
    have h1 : γ.κ x = 3 ∨ γ.κ x = 7 ∨ γ.κ x = 8 := by
      simp only [List.mem_cons, List.not_mem_nil, or_false] at hx
      rcases hx with rfl | rfl | rfl
      · exact .inl hk.k3
      · exact .inr (.inl hk.k7)
      · exact .inr (.inr hk.k8)
    have h2 : γ.κ x = 2 ∨ γ.κ x = 5 ∨ γ.κ x = 6 := by
      simp only [List.mem_cons, List.not_mem_nil, or_false] at hm
      rcases hm with rfl | rfl | rfl
      · exact .inl hk.k2
      · exact .inr (.inl hk.k5)
      · exact .inr (.inr hk.k6)
    omega
  have hS : γ.bS ∉ [γ.bG, γ.pA, γ.pC, γ.bE, γ.eA, γ.eC] := kn (κ := γ.κ) (by simp [hk.k1, hk.k2, hk.k3, hk.k5, hk.k6, hk.k7, hk.k8])
  have HEN := Lib.hid (fun W (cW : Chg [] w W) => end_any γ.bG γ.pA γ.pC 1024 γ.bE γ.eA γ.eC 1024 s.g s.b W (h.G.chg0 cW) (h.B.chg0 cW) (h.L.chg0 cW).u (by have := (h.L.chg0 cW).sz; omega) hd)
  have x6 : (w.alloc (.cells #[.int .i64 14, .int .i64 c] 48)).cell? ⟨γ.bS, 6, none⟩ = some (.pointer (some ⟨γ.bG, 0, none⟩)) := by rw [cell_of_heap (h.chg0 C1).S]; rfl
  have x5 : (w.alloc (.cells #[.int .i64 14, .int .i64 c] 48)).cell? ⟨γ.bS, 5, none⟩ = some (.pointer (some ⟨γ.bE, 0, none⟩)) := by rw [cell_of_heap (h.chg0 C1).S]; rfl
  have HSB := Lib.hid hS
  have HC1 := Lib.hid C1
  generalize hR : endS 1024 s.g s.b = R at *
  obtain ⟨er, g', b'⟩ := R
  clear h C1 X1 hv hf hd hS hR hk
  unfold EndPost at HEN
  dsimp only at HEN ⊢
  go_enter Tryz.func196, Tryz.ntmps196
  go_upto_region 5 with (fail)
  generalize hw1 : w.alloc _ = w1 at *
  go_region_held3 (fun w' => w'.cell? ⟨γ.bS, 6, none⟩ = some (.pointer (some ⟨γ.bG, 0, none⟩)) ∧ w'.cell? ⟨γ.bS, 5, none⟩ = some (.pointer (some ⟨γ.bE, 0, none⟩)))
    (first | exact ⟨x6, x5⟩ | exact ⟨C3.cell x6 HSB.out, C3.cell x5 HSB.out⟩ | exact ⟨(by rw [cell_of_heap hG4.is.S]; rfl), (by rw [cell_of_heap hG4.is.S]; rfl)⟩ | go_keep)
    (first
     | (go_at_call 14; refine (HEN.out _ (by first | exact HC1.out | exact HC1.out.drew | exact HC1.out.drewN _)).mono ?_; rintro e w3 ⟨rfl, C3', G3, B3⟩; have C3 : Chg [γ.bG, γ.pA, γ.pC, γ.bE, γ.eA, γ.eC] w1 w3 := (by first | exact C3' | exact C3'.of_drew | exact C3'.of_drewN))
     | (go_at_call 208; refine ((answer_any w0 w3 γ τ _ rd true er ((HH.out.1.chg0 HC1.out).both C3 G3 B3) HH.out.2.2)).mono ?_; rintro e w4 ⟨v, τ', rfl, hE4, hG4, hF4⟩))
  have hk := HH.out.1.K
  have hP : SPost w0 γ τ rd (ansS γ.q { s with g := g', b := b' } true er) 1 w (.returned v) w4 :=
    SPost.pre (j := 0) ⟨v, τ', rfl, hE4, hG4, hF4⟩ (SGo.pre0 HC1.out (SGo.of_k ((HH.out.1.chg0 HC1.out).both C3 G3 B3) C3 (by simp [hk.k2, hk.k3, hk.k5, hk.k6, hk.k7, hk.k8]))) (Nat.le_refl _)
  have HP := Lib.hid hP
  clear hP hE4 hG4 hF4 C3 C3' G3 B3 x5 x6 x0 HEN
  go_wp2_with fail
  go_ret
  exact HP.out
set_option maxHeartbeats 8000000 in
theorem key_add (w0 w : World) (γ : Gm) (τ : Tt) (s : Ss) (rd : List Int) (c : Int) (h : SesIs w0 w γ τ s rd) (hb : s.g.begun = true) : KeyCalls w0 w γ τ s rd ⟨0, c⟩ := by
  have hv : keyS γ.q s ⟨0, c⟩ = (none, { s with g := (addS 1024 s.g c).2 }) := by unfold keyS; rw [if_neg (by dsimp only; decide), if_neg (by dsimp only; decide), if_pos hb, if_pos rfl]
  unfold KeyCalls keyV
  rw [hv]
  dsimp only
  have C1 : Chg [] w (w.alloc (.cells #[.int .i64 0, .int .i64 c] 48)) := (Chg.refl _ _).alloc _
  have X1 := alloc_heap w (.cells #[.int .i64 0, .int .i64 c] 48)
  have x0 : (w.alloc (.cells #[.int .i64 0, .int .i64 c] 48)).cell? ⟨w.heap.size, 0, none⟩ = some (.int .i64 0) := by rw [cell_of_heap X1]; rfl
  have x1 : (w.alloc (.cells #[.int .i64 0, .int .i64 c] 48)).cell? ⟨w.heap.size, 1, none⟩ = some (.int .i64 c) := by rw [cell_of_heap X1]; rfl
  have H1 := h.chg0 C1
  have x6 : (w.alloc (.cells #[.int .i64 0, .int .i64 c] 48)).cell? ⟨γ.bS, 6, none⟩ = some (.pointer (some ⟨γ.bG, 0, none⟩)) := by rw [cell_of_heap H1.S]; rfl
  have x5 : (w.alloc (.cells #[.int .i64 0, .int .i64 c] 48)).cell? ⟨γ.bS, 5, none⟩ = some (.pointer (some ⟨γ.bE, 0, none⟩)) := by rw [cell_of_heap H1.S]; rfl
  have hk := h.K
  have hbw : w.heap.size < (w.alloc (.cells #[.int .i64 0, .int .i64 c] 48)).heap.size := heap_lt X1
  have hnw : ¬ Sown γ τ w.heap.size := h.new (Nat.le_refl _)
  have HBG := Lib.hid (begun_any γ.bG γ.pA γ.pC 1024 s.g (w.alloc (.cells #[.int .i64 0, .int .i64 c] 48)) H1.G)
  rw [hb] at HBG
  have HH := Lib.hid (And.intro h (And.intro C1 H1))
  have HNW := Lib.hid (And.intro hbw hnw)
  have hS : γ.bS ∉ [γ.bG, γ.pA, γ.pC] := kn (κ := γ.κ) (by simp [hk.k1, hk.k3, hk.k7, hk.k8])
  have hW : w.heap.size ∉ [γ.bG, γ.pA, γ.pC] := fun hm => hnw (.inl (by
    simp only [List.mem_cons, List.not_mem_nil, or_false] at hm
    rcases hm with e | e | e <;> rw [e]
    · rw [hk.k3]; decide
    · rw [hk.k7]; decide
    · rw [hk.k8]; decide))
  have HSB := Lib.hid (And.intro hS hW)
  have HAD := Lib.hid (fun W (cW : Chg [] (w.alloc (.cells #[.int .i64 0, .int .i64 c] 48)) W) => add_any γ.bG γ.pA γ.pC 1024 s.g c W (H1.G.chg0 cW))
  clear h C1 X1 H1 hv hb hbw hnw hS hW
  go_enter Tryz.func196, Tryz.ntmps196
  go_upto_region 6 with (fail)
  generalize hw1 : w.alloc _ = w1 at *
  go_upto_region 8 with (go_at_call 15; refine (HBG.out).mono ?_; rintro e w2 ⟨rfl, rfl⟩)
  go_region_held3 (fun w' => w'.cell? ⟨γ.bS, 6, none⟩ = some (.pointer (some ⟨γ.bG, 0, none⟩)) ∧ w'.cell? ⟨w.heap.size, 1, none⟩ = some (.int .i64 c))
    (first | exact ⟨x6, x1⟩ | exact ⟨C3.cell x6 HSB.out.1, C3.cell x1 HSB.out.2⟩ | go_keep)
    (first
     | (go_at_call 16; refine (HAD.out _ (by first | exact Chg.refl [] w1 | exact (Chg.refl [] w1).drew | exact (Chg.refl [] w1).drewN _)).mono ?_; rintro e w3 ⟨⟨v, rfl⟩, C3', G3⟩; have C3 : Chg [γ.bG, γ.pA, γ.pC] w1 w3 := (by first | exact C3' | exact C3'.of_drew | exact C3'.of_drewN)))
  have HP := Lib.hid (SGo.pre0 HH.out.2.1 (SGo.of_k (HH.out.2.2.stg C3 G3) C3 (by simp [hk.k3, hk.k7, hk.k8])))
  clear C3 C3' G3 x0 x1 x5 x6 HAD HBG
  go_wp2_with fail
  go_ret
  exact ⟨.nilIface, τ, rfl, .inl ⟨rfl, rfl⟩, HP.out, by omega⟩
set_option maxHeartbeats 8000000 in
theorem key_skip (w0 w : World) (γ : Gm) (τ : Tt) (s : Ss) (rd : List Int) (kk c : Int) (h : SesIs w0 w γ τ s rd) (hb : s.g.begun = true) (n0 : kk ≠ 0) (n13 : kk ≠ 13) (n14 : kk ≠ 14) : KeyCalls w0 w γ τ s rd ⟨kk, c⟩ := by
  have hv : keyS γ.q s ⟨kk, c⟩ = (none, s) := by unfold keyS; rw [if_neg n13, if_neg n14, if_pos hb, if_neg n0]
  unfold KeyCalls keyV
  rw [hv]
  dsimp only
  have C1 : Chg [] w (w.alloc (.cells #[.int .i64 kk, .int .i64 c] 48)) := (Chg.refl _ _).alloc _
  have X1 := alloc_heap w (.cells #[.int .i64 kk, .int .i64 c] 48)
  have x0 : (w.alloc (.cells #[.int .i64 kk, .int .i64 c] 48)).cell? ⟨w.heap.size, 0, none⟩ = some (.int .i64 kk) := by rw [cell_of_heap X1]; rfl
  have x1 : (w.alloc (.cells #[.int .i64 kk, .int .i64 c] 48)).cell? ⟨w.heap.size, 1, none⟩ = some (.int .i64 c) := by rw [cell_of_heap X1]; rfl
  have H1 := h.chg0 C1
  have x6 : (w.alloc (.cells #[.int .i64 kk, .int .i64 c] 48)).cell? ⟨γ.bS, 6, none⟩ = some (.pointer (some ⟨γ.bG, 0, none⟩)) := by rw [cell_of_heap H1.S]; rfl
  have x5 : (w.alloc (.cells #[.int .i64 kk, .int .i64 c] 48)).cell? ⟨γ.bS, 5, none⟩ = some (.pointer (some ⟨γ.bE, 0, none⟩)) := by rw [cell_of_heap H1.S]; rfl
  have hk := h.K
  have hbw : w.heap.size < (w.alloc (.cells #[.int .i64 kk, .int .i64 c] 48)).heap.size := heap_lt X1
  have hnw : ¬ Sown γ τ w.heap.size := h.new (Nat.le_refl _)
  have HBG := Lib.hid (begun_any γ.bG γ.pA γ.pC 1024 s.g (w.alloc (.cells #[.int .i64 kk, .int .i64 c] 48)) H1.G)
  rw [hb] at HBG
  have HH := Lib.hid (And.intro h (And.intro C1 H1))
  have HNW := Lib.hid (And.intro hbw hnw)
  have t13 : (kk == 13) = false := by rw [beq_eq_false_iff_ne]; exact n13
  have t14 : (kk == 14) = false := by rw [beq_eq_false_iff_ne]; exact n14
  have t0 : (kk == 0) = false := by rw [beq_eq_false_iff_ne]; exact n0
  clear h C1 X1 H1 hv hb hbw hnw n0 n13 n14
  go_enter Tryz.func196, Tryz.ntmps196
  go_upto_region 6 with (fail)
  generalize hw1 : w.alloc _ = w1 at *
  go_wp2_with (go_at_call 15; refine (HBG.out).mono ?_; rintro e w2 ⟨rfl, rfl⟩)
  go_ret
  exact ⟨.nilIface, τ, rfl, .inl ⟨rfl, rfl⟩, SGo.pre0 HH.out.2.1 (SGo.refl HH.out.2.2), by omega⟩
set_option maxHeartbeats 8000000 in
theorem key_enter (w0 w : World) (γ : Gm) (τ : Tt) (s : Ss) (rd : List Int) (c : Int) (h : SesIs w0 w γ τ s rd) (hb : s.g.begun = false) : KeyCalls w0 w γ τ s rd ⟨1, c⟩ := by
  have hv : keyS γ.q s ⟨1, c⟩ = (some 0, s) := by unfold keyS; rw [if_neg (by dsimp only; decide), if_neg (by dsimp only; decide), if_neg (by rw [hb]; decide)]; rfl
  unfold KeyCalls keyV
  rw [hv]
  dsimp only
  have C1 : Chg [] w (w.alloc (.cells #[.int .i64 1, .int .i64 c] 48)) := (Chg.refl _ _).alloc _
  have X1 := alloc_heap w (.cells #[.int .i64 1, .int .i64 c] 48)
  have x0 : (w.alloc (.cells #[.int .i64 1, .int .i64 c] 48)).cell? ⟨w.heap.size, 0, none⟩ = some (.int .i64 1) := by rw [cell_of_heap X1]; rfl
  have x1 : (w.alloc (.cells #[.int .i64 1, .int .i64 c] 48)).cell? ⟨w.heap.size, 1, none⟩ = some (.int .i64 c) := by rw [cell_of_heap X1]; rfl
  have H1 := h.chg0 C1
  have x6 : (w.alloc (.cells #[.int .i64 1, .int .i64 c] 48)).cell? ⟨γ.bS, 6, none⟩ = some (.pointer (some ⟨γ.bG, 0, none⟩)) := by rw [cell_of_heap H1.S]; rfl
  have x5 : (w.alloc (.cells #[.int .i64 1, .int .i64 c] 48)).cell? ⟨γ.bS, 5, none⟩ = some (.pointer (some ⟨γ.bE, 0, none⟩)) := by rw [cell_of_heap H1.S]; rfl
  have hk := h.K
  have hbw : w.heap.size < (w.alloc (.cells #[.int .i64 1, .int .i64 c] 48)).heap.size := heap_lt X1
  have hnw : ¬ Sown γ τ w.heap.size := h.new (Nat.le_refl _)
  have HBG := Lib.hid (begun_any γ.bG γ.pA γ.pC 1024 s.g (w.alloc (.cells #[.int .i64 1, .int .i64 c] 48)) H1.G)
  rw [hb] at HBG
  have HH := Lib.hid (And.intro h (And.intro C1 H1))
  have HNW := Lib.hid (And.intro hbw hnw)
  clear h C1 X1 H1 hv hb hbw hnw
  go_enter Tryz.func196, Tryz.ntmps196
  go_upto_region 6 with (fail)
  generalize hw1 : w.alloc _ = w1 at *
  go_wp2_with (go_at_call 15; refine (HBG.out).mono ?_; rintro e w2 ⟨rfl, rfl⟩)
  go_ret
  exact spost_end (SGo.pre0 HH.out.2.1 (SGo.refl HH.out.2.2))
set_option maxHeartbeats 8000000 in
theorem key_cancel (w0 w : World) (γ : Gm) (τ : Tt) (s : Ss) (rd : List Int) (c : Int) (h : SesIs w0 w γ τ s rd) (hb : s.g.begun = false) : KeyCalls w0 w γ τ s rd ⟨11, c⟩ := by
  have hv : keyS γ.q s ⟨11, c⟩ = (some 1, s) := by unfold keyS; rw [if_neg (by dsimp only; decide), if_neg (by dsimp only; decide), if_neg (by rw [hb]; decide)]; rfl
  unfold KeyCalls keyV
  rw [hv]
  dsimp only
  have C1 : Chg [] w (w.alloc (.cells #[.int .i64 11, .int .i64 c] 48)) := (Chg.refl _ _).alloc _
  have X1 := alloc_heap w (.cells #[.int .i64 11, .int .i64 c] 48)
  have x0 : (w.alloc (.cells #[.int .i64 11, .int .i64 c] 48)).cell? ⟨w.heap.size, 0, none⟩ = some (.int .i64 11) := by rw [cell_of_heap X1]; rfl
  have x1 : (w.alloc (.cells #[.int .i64 11, .int .i64 c] 48)).cell? ⟨w.heap.size, 1, none⟩ = some (.int .i64 c) := by rw [cell_of_heap X1]; rfl
  have H1 := h.chg0 C1
  have x6 : (w.alloc (.cells #[.int .i64 11, .int .i64 c] 48)).cell? ⟨γ.bS, 6, none⟩ = some (.pointer (some ⟨γ.bG, 0, none⟩)) := by rw [cell_of_heap H1.S]; rfl
  have x5 : (w.alloc (.cells #[.int .i64 11, .int .i64 c] 48)).cell? ⟨γ.bS, 5, none⟩ = some (.pointer (some ⟨γ.bE, 0, none⟩)) := by rw [cell_of_heap H1.S]; rfl
  have hk := h.K
  have hbw : w.heap.size < (w.alloc (.cells #[.int .i64 11, .int .i64 c] 48)).heap.size := heap_lt X1
  have hnw : ¬ Sown γ τ w.heap.size := h.new (Nat.le_refl _)
  have HBG := Lib.hid (begun_any γ.bG γ.pA γ.pC 1024 s.g (w.alloc (.cells #[.int .i64 11, .int .i64 c] 48)) H1.G)
  rw [hb] at HBG
  have HH := Lib.hid (And.intro h (And.intro C1 H1))
  have HNW := Lib.hid (And.intro hbw hnw)
  clear h C1 X1 H1 hv hb hbw hnw
  go_enter Tryz.func196, Tryz.ntmps196
  go_upto_region 6 with (fail)
  generalize hw1 : w.alloc _ = w1 at *
  go_wp2_with (go_at_call 15; refine (HBG.out).mono ?_; rintro e w2 ⟨rfl, rfl⟩)
  go_ret
  exact spost_end (SGo.pre0 HH.out.2.1 (SGo.refl HH.out.2.2))
set_option maxHeartbeats 8000000 in
theorem key_eof (w0 w : World) (γ : Gm) (τ : Tt) (s : Ss) (rd : List Int) (c : Int) (h : SesIs w0 w γ τ s rd) (hb : s.g.begun = false) : KeyCalls w0 w γ τ s rd ⟨12, c⟩ := by
  have hv : keyS γ.q s ⟨12, c⟩ = (if charsB s.b.l s.b.l.length = 0 then some 2 else none, s) := by unfold keyS; rw [if_neg (by dsimp only; decide), if_neg (by dsimp only; decide), if_neg (by rw [hb]; decide)]; rfl
  unfold KeyCalls keyV
  rw [hv]
  dsimp only
  have C1 : Chg [] w (w.alloc (.cells #[.int .i64 12, .int .i64 c] 48)) := (Chg.refl _ _).alloc _
  have X1 := alloc_heap w (.cells #[.int .i64 12, .int .i64 c] 48)
  have x0 : (w.alloc (.cells #[.int .i64 12, .int .i64 c] 48)).cell? ⟨w.heap.size, 0, none⟩ = some (.int .i64 12) := by rw [cell_of_heap X1]; rfl
  have x1 : (w.alloc (.cells #[.int .i64 12, .int .i64 c] 48)).cell? ⟨w.heap.size, 1, none⟩ = some (.int .i64 c) := by rw [cell_of_heap X1]; rfl
  have H1 := h.chg0 C1
  have x6 : (w.alloc (.cells #[.int .i64 12, .int .i64 c] 48)).cell? ⟨γ.bS, 6, none⟩ = some (.pointer (some ⟨γ.bG, 0, none⟩)) := by rw [cell_of_heap H1.S]; rfl
  have x5 : (w.alloc (.cells #[.int .i64 12, .int .i64 c] 48)).cell? ⟨γ.bS, 5, none⟩ = some (.pointer (some ⟨γ.bE, 0, none⟩)) := by rw [cell_of_heap H1.S]; rfl
  have hk := h.K
  have hbw : w.heap.size < (w.alloc (.cells #[.int .i64 12, .int .i64 c] 48)).heap.size := heap_lt X1
  have hnw : ¬ Sown γ τ w.heap.size := h.new (Nat.le_refl _)
  have HBG := Lib.hid (begun_any γ.bG γ.pA γ.pC 1024 s.g (w.alloc (.cells #[.int .i64 12, .int .i64 c] 48)) H1.G)
  rw [hb] at HBG
  have HH := Lib.hid (And.intro h (And.intro C1 H1))
  have HNW := Lib.hid (And.intro hbw hnw)
  have HCN := Lib.hid (count_buf γ.bE γ.eA γ.eC 1024 s.b (w.alloc (.cells #[.int .i64 12, .int .i64 c] 48)) H1.B)
  clear h C1 X1 H1 hv hb hbw hnw
  generalize charsB s.b.l s.b.l.length = cn at *
  rcases Nat.eq_zero_or_pos cn with rfl | hp
  · rw [if_pos rfl]
    go_enter Tryz.func196, Tryz.ntmps196
    go_upto_region 6 with (fail)
    generalize hw1 : w.alloc _ = w1 at *
    go_wp2_with (first | (go_at_call 15; refine (HBG.out).mono ?_; rintro e w2 ⟨rfl, rfl⟩) | (go_at_call 177; refine (HCN.out).mono ?_; rintro e w2 ⟨rfl, rfl⟩))
    go_ret
    exact spost_end (SGo.pre0 HH.out.2.1 (SGo.refl HH.out.2.2))
  · have hc0 : (((cn : Nat) : Int) == 0) = false := by rw [beq_eq_false_iff_ne]; omega
    rw [if_neg (by omega)]
    clear hp
    go_enter Tryz.func196, Tryz.ntmps196
    go_upto_region 6 with (fail)
    generalize hw1 : w.alloc _ = w1 at *
    go_wp2_with (first | (go_at_call 15; refine (HBG.out).mono ?_; rintro e w2 ⟨rfl, rfl⟩) | (go_at_call 177; refine (HCN.out).mono ?_; rintro e w2 ⟨rfl, rfl⟩))
    go_ret
    exact ⟨.nilIface, τ, rfl, .inl ⟨rfl, rfl⟩, SGo.pre0 HH.out.2.1 (SGo.refl HH.out.2.2), by omega⟩
set_option maxHeartbeats 8000000 in
theorem key_draw (w0 w : World) (γ : Gm) (τ : Tt) (s : Ss) (rd : List Int) (c : Int) (h : SesIs w0 w γ τ s rd) (hf : fee τ ≤ 999999) (hb : s.g.begun = false) : KeyCalls w0 w γ τ s rd ⟨10, c⟩ := by
  have hv : keyS γ.q s ⟨10, c⟩ = showS γ.q s := by unfold keyS; rw [if_neg (by dsimp only; decide), if_neg (by dsimp only; decide), if_neg (by rw [hb]; decide)]; rfl
  unfold KeyCalls keyV
  rw [hv]
  dsimp only
  have C1 : Chg [] w (w.alloc (.cells #[.int .i64 10, .int .i64 c] 48)) := (Chg.refl _ _).alloc _
  have X1 := alloc_heap w (.cells #[.int .i64 10, .int .i64 c] 48)
  have x0 : (w.alloc (.cells #[.int .i64 10, .int .i64 c] 48)).cell? ⟨w.heap.size, 0, none⟩ = some (.int .i64 10) := by rw [cell_of_heap X1]; rfl
  have x1 : (w.alloc (.cells #[.int .i64 10, .int .i64 c] 48)).cell? ⟨w.heap.size, 1, none⟩ = some (.int .i64 c) := by rw [cell_of_heap X1]; rfl
  have H1 := h.chg0 C1
  have x6 : (w.alloc (.cells #[.int .i64 10, .int .i64 c] 48)).cell? ⟨γ.bS, 6, none⟩ = some (.pointer (some ⟨γ.bG, 0, none⟩)) := by rw [cell_of_heap H1.S]; rfl
  have x5 : (w.alloc (.cells #[.int .i64 10, .int .i64 c] 48)).cell? ⟨γ.bS, 5, none⟩ = some (.pointer (some ⟨γ.bE, 0, none⟩)) := by rw [cell_of_heap H1.S]; rfl
  have hk := h.K
  have hbw : w.heap.size < (w.alloc (.cells #[.int .i64 10, .int .i64 c] 48)).heap.size := heap_lt X1
  have hnw : ¬ Sown γ τ w.heap.size := h.new (Nat.le_refl _)
  have HBG := Lib.hid (begun_any γ.bG γ.pA γ.pC 1024 s.g (w.alloc (.cells #[.int .i64 10, .int .i64 c] 48)) H1.G)
  rw [hb] at HBG
  have HH := Lib.hid (And.intro h (And.intro C1 H1))
  have HNW := Lib.hid (And.intro hbw hnw)
  have HSH := Lib.hid (show_any w0 (w.alloc (.cells #[.int .i64 10, .int .i64 c] 48)) γ τ s rd H1 hf)
  clear h C1 X1 H1 hv hb hbw hnw
  go_enter Tryz.func196, Tryz.ntmps196
  go_upto_region 6 with (fail)
  generalize hw1 : w.alloc _ = w1 at *
  go_wp2_with (first | (go_at_call 15; refine (HBG.out).mono ?_; rintro e w2 ⟨rfl, rfl⟩) | (go_at_call 166; refine (HSH.out).mono ?_; rintro e w4 ⟨v, τ', rfl, hE, hG, hF⟩; have HP := Lib.hid (And.intro hE (And.intro hG hF)); clear hE hG hF))
  go_ret
  exact SPost.pre0 ⟨v, τ', rfl, HP.out.1, HP.out.2.1, HP.out.2.2⟩ HH.out.2.1
set_option maxHeartbeats 8000000 in
theorem key_do (w0 w : World) (γ : Gm) (τ : Tt) (s : Ss) (rd : List Int) (kk c : Int) (h : SesIs w0 w γ τ s rd) (hf : fee τ ≤ 999999) (hb : s.g.begun = false) (n13 : kk ≠ 13) (n14 : kk ≠ 14) (n1 : kk ≠ 1) (n11 : kk ≠ 11) (n12 : kk ≠ 12) (n10 : kk ≠ 10) : KeyCalls w0 w γ τ s rd ⟨kk, c⟩ := by
  have hv : keyS γ.q s ⟨kk, c⟩ = ansS γ.q { s with b := (doB 1024 s.b ⟨kk, c⟩).2.2 } (doB 1024 s.b ⟨kk, c⟩).1 (doB 1024 s.b ⟨kk, c⟩).2.1 := by unfold keyS; rw [if_neg n13, if_neg n14, if_neg (by rw [hb]; decide), if_neg n1, if_neg n11, if_neg n12, if_neg n10]
  unfold KeyCalls keyV
  rw [hv]
  dsimp only
  have C1 : Chg [] w (w.alloc (.cells #[.int .i64 kk, .int .i64 c] 48)) := (Chg.refl _ _).alloc _
  have X1 := alloc_heap w (.cells #[.int .i64 kk, .int .i64 c] 48)
  have x0 : (w.alloc (.cells #[.int .i64 kk, .int .i64 c] 48)).cell? ⟨w.heap.size, 0, none⟩ = some (.int .i64 kk) := by rw [cell_of_heap X1]; rfl
  have x1 : (w.alloc (.cells #[.int .i64 kk, .int .i64 c] 48)).cell? ⟨w.heap.size, 1, none⟩ = some (.int .i64 c) := by rw [cell_of_heap X1]; rfl
  have H1 := h.chg0 C1
  have x6 : (w.alloc (.cells #[.int .i64 kk, .int .i64 c] 48)).cell? ⟨γ.bS, 6, none⟩ = some (.pointer (some ⟨γ.bG, 0, none⟩)) := by rw [cell_of_heap H1.S]; rfl
  have x5 : (w.alloc (.cells #[.int .i64 kk, .int .i64 c] 48)).cell? ⟨γ.bS, 5, none⟩ = some (.pointer (some ⟨γ.bE, 0, none⟩)) := by rw [cell_of_heap H1.S]; rfl
  have hk := h.K
  have hbw : w.heap.size < (w.alloc (.cells #[.int .i64 kk, .int .i64 c] 48)).heap.size := heap_lt X1
  have hnw : ¬ Sown γ τ w.heap.size := h.new (Nat.le_refl _)
  have HBG := Lib.hid (begun_any γ.bG γ.pA γ.pC 1024 s.g (w.alloc (.cells #[.int .i64 kk, .int .i64 c] 48)) H1.G)
  rw [hb] at HBG
  have HH := Lib.hid (And.intro h (And.intro C1 H1))
  have HNW := Lib.hid (And.intro hbw hnw)
  have t13 : (kk == 13) = false := by rw [beq_eq_false_iff_ne]; exact n13
  have t14 : (kk == 14) = false := by rw [beq_eq_false_iff_ne]; exact n14
  have t1 : (kk == 1) = false := by rw [beq_eq_false_iff_ne]; exact n1
  have t11 : (kk == 11) = false := by rw [beq_eq_false_iff_ne]; exact n11
  have t12 : (kk == 12) = false := by rw [beq_eq_false_iff_ne]; exact n12
  have t10 : (kk == 10) = false := by rw [beq_eq_false_iff_ne]; exact n10
  have hS : γ.bS ∉ [γ.bE, γ.eA, γ.eC] := kn (κ := γ.κ) (by simp [hk.k1, hk.k2, hk.k5, hk.k6])
  have hW : w.heap.size ∉ [γ.bE, γ.eA, γ.eC] := fun hm => hnw (.inl (by
    simp only [List.mem_cons, List.not_mem_nil, or_false] at hm
    rcases hm with e | e | e <;> rw [e]
    · rw [hk.k2]; decide
    · rw [hk.k5]; decide
    · rw [hk.k6]; decide))
  have HSB := Lib.hid (And.intro hS hW)
  have HDO := Lib.hid (fun W (cW : Chg [] (w.alloc (.cells #[.int .i64 kk, .int .i64 c] 48)) W) => do_any γ.bE γ.eA γ.eC 1024 s.b ⟨kk, c⟩ W (H1.B.chg0 cW))
  have HF := Lib.hid hf
  generalize hR : doB 1024 s.b ⟨kk, c⟩ = R at *
  obtain ⟨ch, er, b'⟩ := R
  unfold DoCalls at HDO
  rw [hR] at HDO
  unfold DoPost at HDO
  dsimp only at HDO ⊢
  clear h C1 X1 H1 hv hb hbw hnw hS hW hf n13 n14 n1 n11 n12 n10 hR
  go_enter Tryz.func196, Tryz.ntmps196
  go_upto_region 6 with (fail)
  generalize hw1 : w.alloc _ = w1 at *
  go_upto_region 21 with (go_at_call 15; refine (HBG.out).mono ?_; rintro e w2 ⟨rfl, rfl⟩)
  go_region_held3 (fun w' => w'.cell? ⟨γ.bS, 5, none⟩ = some (.pointer (some ⟨γ.bE, 0, none⟩)) ∧ w'.cell? ⟨w.heap.size, 0, none⟩ = some (.int .i64 kk) ∧ w'.cell? ⟨w.heap.size, 1, none⟩ = some (.int .i64 c))
    (first | exact ⟨x5, x0, x1⟩ | exact ⟨C3.cell x5 HSB.out.1, C3.cell x0 HSB.out.2, C3.cell x1 HSB.out.2⟩ | exact ⟨(by rw [cell_of_heap hG4.is.S]; rfl), hG4.c.cell (C3.cell x0 HSB.out.2) HNW.out.2, hG4.c.cell (C3.cell x1 HSB.out.2) HNW.out.2⟩ | go_keep)
    (first
     | (go_at_call 17; refine (HDO.out _ (by first | exact Chg.refl [] w1 | exact (Chg.refl [] w1).drew | exact (Chg.refl [] w1).drewN _)).mono ?_; rintro e w3 ⟨rfl, C3', B3⟩; have C3 : Chg [γ.bE, γ.eA, γ.eC] w1 w3 := (by first | exact C3' | exact C3'.of_drew | exact C3'.of_drewN))
     | (go_at_call 208; refine (answer_any w0 w3 γ τ _ rd ch er (HH.out.2.2.buf C3 B3) HF.out).mono ?_; rintro e w4 ⟨v, τ', rfl, hE4, hG4, hF4⟩))
  have hP : SPost w0 γ τ rd (ansS γ.q { s with b := b' } ch er) 1 w (.returned v) w4 :=
    SPost.pre (j := 0) ⟨v, τ', rfl, hE4, hG4, hF4⟩ (SGo.pre0 HH.out.2.1 (SGo.of_k (HH.out.2.2.buf C3 B3) C3 (by simp [hk.k2, hk.k5, hk.k6]))) (Nat.le_refl _)
  have HP := Lib.hid hP
  clear hP hE4 hG4 hF4 C3 C3' B3 x5 x6 x0 x1 HDO HBG
  go_wp2_with fail
  go_ret
  exact HP.out
theorem sKey_any (w0 w : World) (γ : Gm) (τ : Tt) (s : Ss) (rd : List Int) (k : Ky) (h : SesIs w0 w γ τ s rd) (hf : fee τ ≤ 999999) : KeyCalls w0 w γ τ s rd k := by
  obtain ⟨kk, c⟩ := k
  by_cases n13 : kk = 13
  · subst n13; exact key_start w0 w γ τ s rd c h
  by_cases n14 : kk = 14
  · subst n14; exact key_end w0 w γ τ s rd c h hf
  cases hb : s.g.begun with
  | true =>
    by_cases n0 : kk = 0
    · subst n0; exact key_add w0 w γ τ s rd c h hb
    · exact key_skip w0 w γ τ s rd kk c h hb n0 n13 n14
  | false =>
    by_cases n1 : kk = 1
    · subst n1; exact key_enter w0 w γ τ s rd c h hb
    by_cases n11 : kk = 11
    · subst n11; exact key_cancel w0 w γ τ s rd c h hb
    by_cases n12 : kk = 12
    · subst n12; exact key_eof w0 w γ τ s rd c h hb
    by_cases n10 : kk = 10
    · subst n10; exact key_draw w0 w γ τ s rd c h hf hb
    · exact key_do w0 w γ τ s rd kk c h hf hb n13 n14 n1 n11 n12 n10
end Go.Proofs.YtafmnkngjjnpiaaGreatDoor

namespace Go.Proofs.YtafmnkngjjnpiaaGreatDoor
set_option linter.unusedVariables false
set_option linter.unusedSimpArgs false
set_option maxRecDepth 100000
open Go.RowKit
theorem zeros_keys (n : Nat) : (Builtin.zeroCells #[Value.int .i64 0, Value.int .i64 0] n).toList.length = n * 2 ∧ ∀ u ∈ (Builtin.zeroCells #[Value.int .i64 0, Value.int .i64 0] n).toList, u.oneCell' = true := by
  unfold Builtin.zeroCells
  refine ⟨by simp, fun u hu => ?_⟩
  rw [Array.toList_map, List.mem_map] at hu
  obtain ⟨i, _, rfl⟩ := hu
  have h2 : (#[Value.int .i64 0, Value.int .i64 0] : Array Value).size = 2 := rfl
  rw [h2]
  rcases (by omega : i % 2 = 0 ∨ i % 2 = 1) with h | h <;> rw [h] <;> rfl
theorem clear_keys {w : World} {v : Value} {n : Nat} {xs : List Value} (h : HasRow w 48 2 v n xs) (ty : TypeId) :
    ∃ w', (Builtin.clear_ #[44] ty #[v]).run Tryz.prog w = .ok (.tuple #[]) w' ∧ Chg v.ownBlock.toList w w' := by
  have hz : ∀ w : World, (zeroValue 48).run Tryz.prog w = .ok (.agg #[.int .i64 0, .int .i64 0]) w := fun w => by kernel_rfl
  rcases h.2 with ⟨rfl, rfl⟩ | ⟨g, off, cap, cur, rfl, hg, hc, hm, hsz, hx⟩
  · exact ⟨w, by simp [Builtin.clear_, run_underlying Tryz.underlying44], Chg.refl _ _⟩
  · by_cases h0 : n = 0
    · subst h0
      exact ⟨w, by simp [Builtin.clear_, run_underlying Tryz.underlying44], Chg.refl _ _⟩
    · obtain ⟨m, rfl⟩ : ∃ m, n = m + 1 := ⟨n - 1, by omega⟩
      obtain ⟨hl, h1⟩ := zeros_keys (m + 1)
      have hzc : (Value.agg #[.int .i64 0, .int .i64 0]).cells = #[Value.int .i64 0, Value.int .i64 0] := rfl
      have hst := run_storeCells_at Tryz.prog g off 48 (Builtin.zeroCells #[Value.int .i64 0, Value.int .i64 0] (m + 1)).toList 0 cur w hg (by rw [hl]; omega) h1
      generalize hZ : (Builtin.zeroCells #[Value.int .i64 0, Value.int .i64 0] (m + 1)).toList = Z at *
      refine ⟨w.setRow g (List.take (off + 0) cur.toList ++ Z ++ List.drop (off + 0 + Z.length) cur.toList).toArray, ?_, (Chg.refl _ _).setRow (g := g) (Or.inl (by simp [Value.ownBlock])) _⟩
      simp [Builtin.clear_, run_underlying Tryz.underlying44, hz, hzc, hZ, hst]
theorem do_leave {tmps : Array Value} {v rv : Value} {n : Nat} {xs : List Value} {w : World} {R : Ending → World → Prop} (h : HasRow w 48 2 v n xs) (hr : tmps.getD 4 undef = rv) (hR : ∀ w', Chg v.ownBlock.toList w w' → R (.returned rv) w') :
    LeavesB Tryz.prog Tryz.f181 tmps R [{ target := .builtin .clear #[44] 0 #[false], args := #[v] }] w := by
  obtain ⟨w5, r5, C5⟩ := clear_keys h 0
  refine ⟨.tuple #[], w5, ⟨_, _, _, _, rfl⟩, by simp [invoke, builtin, r5, Result.andThen], rv, ?_, hR w5 C5⟩
  have hr' : tmps[4]?.getD undef = rv := by simpa using hr
  simp [results, Tryz.results181, go_sem, hr']
theorem kyCells_get : ∀ (ks : List Ky) (k : Nat) (y : Ky), ks[k]? = some y → (kyCells ks)[k * 2]? = some (.int .i64 y.kind) ∧ (kyCells ks)[k * 2 + 1]? = some (.int .i64 y.c)
  | [], k, y, h => by cases h
  | x :: r, 0, y, h => by
    injection h with h
    subst h
    exact ⟨rfl, rfl⟩
  | x :: r, k + 1, y, h => by
    have e : kyCells (x :: r) = .int .i64 x.kind :: .int .i64 x.c :: kyCells r := rfl
    rw [e, show (k + 1) * 2 = k * 2 + 1 + 1 by omega, List.getElem?_cons_succ, List.getElem?_cons_succ, List.getElem?_cons_succ, List.getElem?_cons_succ]
    exact kyCells_get r k y h
theorem key_cell {w : World} {g off : Nat} {cur : Array Value} {ks : List Ky} {k : Nat} {y : Ky} (hg : w.heap[g]? = some (.cells cur 48 (0, 0))) (hx : (cur.toList.drop off).take (ks.length * 2) = kyCells ks) (hy : ks[k]? = some y) :
    w.cell? ⟨g, off + k * 2, none⟩ = some (.int .i64 y.kind) ∧ w.cell? ⟨g, off + k * 2 + 1, none⟩ = some (.int .i64 y.c) := by
  obtain ⟨h1, h2⟩ := kyCells_get ks k y hy
  have hk : k < ks.length := (List.getElem?_eq_some_iff.1 hy).1
  rw [← hx] at h1 h2
  rw [List.getElem?_take, if_pos (by omega), List.getElem?_drop, Array.getElem?_toList] at h1 h2
  rw [cell_of_heap hg, cell_of_heap hg]
  exact ⟨h1, by rw [Nat.add_assoc]; exact h2⟩
theorem HasRow.chgO {w w' : World} {e : TypeId} {size : Nat} {v : Value} {n : Nat} {xs : List Value} {O : Nat → Prop} (h : HasRow w e size v n xs) (c : ChgO O w w') (hO : ∀ k, v.ownBlock = some k → ¬ O k) : HasRow w' e size v n xs := by
  obtain ⟨S, c, hS⟩ := c
  exact h.chg c (fun k hk hm => hO k hk (hS k hm (h.lt k hk)))
def DoPostS (w0 : World) (γ : Gm) (τ : Tt) (rd : List Int) (ob : Option Nat) (R : Option Int × Ss) (k : Nat) (w : World) (e : Ending) (w' : World) : Prop :=
  ∃ v τ', e = .returned v ∧ ErrV γ τ' R.1 v w w' ∧ SesIs w0 w' γ τ' R.2 rd ∧ ChgO (fun x => Sown γ τ x ∨ ob = some x) w w' ∧ (∀ j, τ'.own j → τ.own j ∨ w.heap.size ≤ j) ∧ fee τ' ≤ fee τ + k ∧ τ'.bT = τ.bT
theorem dopost_of {w0 w wr w' : World} {γ : Gm} {τ τr : Tt} {s' : Ss} {rd : List Int} {r : Option Int} {v rv : Value} {k : Nat} (hE : ErrV γ τr r rv w wr) (G : SGo w0 w γ τ τr s' rd wr) (hfree : ∀ k, v.ownBlock = some k → ¬ Sown γ τ k ∧ w0.heap.size ≤ k ∧ k < w.heap.size) (hf : fee τr ≤ fee τ + k) (c : Chg v.ownBlock.toList wr w') :
    DoPostS w0 γ τ rd v.ownBlock (r, s') k w (.returned rv) w' := by
  have hS : ∀ x ∈ v.ownBlock.toList, ¬ Sown γ τr x ∧ w0.heap.size ≤ x := fun x hx => by
    have hb := hfree x (by simpa [Option.mem_toList] using hx)
    exact ⟨fun ho => ho.elim (fun e => hb.1 (.inl e)) (fun e => (G.own x e).elim (fun e => hb.1 (.inr e)) (fun hl => by omega)), hb.2.1⟩
  refine ⟨rv, τr, rfl, ?_, G.is.chg c hS, ?_, G.own, hf, G.bT⟩
  · rcases hE with h | ⟨o, g, h1, h2, h3, h4, h5⟩
    · exact .inl h
    · exact .inr ⟨o, g, h1, h2, c.heap h3 (fun hm => by have := (hfree g (by simpa [Option.mem_toList] using hm)).2.2; omega), h4, h5⟩
  · obtain ⟨U, k1, k2⟩ := G.c
    exact ⟨U ++ v.ownBlock.toList, k1.trans c (fun x hx => List.mem_append_left _ hx) (fun x hx _ => List.mem_append_right _ hx), fun x hx hl => (List.mem_append.1 hx).elim (fun hm => .inl (k2 x hm hl)) (fun hm => .inr (by simpa [Option.mem_toList] using hm))⟩
set_option maxHeartbeats 8000000 in
theorem sDo_any (w0 w : World) (γ : Gm) (τ : Tt) (s : Ss) (rd : List Int) (v : Value) (ks : List Ky) (h : SesIs w0 w γ τ s rd) (hv : HasRow w 48 2 v ks.length (kyCells ks)) (hfree : ∀ k, v.ownBlock = some k → ¬ Sown γ τ k ∧ w0.heap.size ≤ k ∧ k < w.heap.size)
    (hn : ks.length ≤ 1000) (hf : fee τ + ks.length ≤ 999999) :
    Calls Tryz.prog 181 #[.pointer (some ⟨γ.bS, 0, none⟩), v] w (DoPostS w0 γ τ rd v.ownBlock (keysS γ.q s ks) ks.length w) := by
  have hvs := hv.2
  have HV := Lib.hid hv
  have HH := Lib.hid (And.intro h (And.intro hfree hf))
  rcases hvs with ⟨rfl, h0⟩ | ⟨g, off, cap, cur, rfl, hg, hc, hm, hsz, hx⟩
  · obtain rfl : ks = [] := List.eq_nil_of_length_eq_zero h0
    clear h hv hfree hf hn h0
    refine calls_of_wp_b Tryz.func181 rfl ?_
    simp only [Tryz.ntmps181, List.size_toArray, List.length_cons, List.length_nil, Nat.reduceAdd, Nat.reduceSub, Array.replicate_succ, Array.replicate_zero, List.push_toArray, List.append_toArray, List.nil_append, List.cons_append]
    go_upto_region 3 with (fail)
    go_loopw [11] (fun i wr => i = .int .i64 0 ∧ wr = w) (fun i _ => 0)
    case atStart => exact ⟨rfl, rfl⟩
    case round =>
      obtain ⟨rfl, rfl⟩ := hrel
      go_wp2_with fail
      exact do_leave HV.out rfl (fun w' c => dopost_of (.inl ⟨rfl, rfl⟩) (SGo.refl HH.out.1) (fun k hk => by cases hk) (Nat.le_refl _) c)
  · clear h hv hfree
    refine calls_of_wp_b Tryz.func181 rfl ?_
    simp only [Tryz.ntmps181, List.size_toArray, List.length_cons, List.length_nil, Nat.reduceAdd, Nat.reduceSub, Array.replicate_succ, Array.replicate_zero, List.push_toArray, List.append_toArray, List.nil_append, List.cons_append]
    go_upto_region 3 with (fail)
    go_loopw [11] (fun i wr => ∃ (k : Nat) (τr : Tt) (sr : Ss), i = .int .i64 (k : Nat) ∧ k ≤ ks.length ∧ SGo w0 w γ τ τr sr rd wr ∧ keysS γ.q s ks = keysS γ.q sr (ks.drop k) ∧ fee τr ≤ fee τ + k) (fun i _ => ks.length - (intOf i).toNat)
    case atStart => exact ⟨0, τ, s, rfl, Nat.zero_le _, SGo.refl HH.out.1, by simp, by omega⟩
    case round =>
      obtain ⟨k, τr, sr, rfl, hkn, hG, hK, hF⟩ := hrel
      rcases Nat.lt_or_ge k ks.length with hlt | hge
      · obtain ⟨y, hy⟩ : ∃ y, ks[k]? = some y := ⟨ks[k], List.getElem?_eq_getElem hlt⟩
        have hb := HH.out.2.1 g rfl
        have hgr := (hG.box (And.intro hg hb.1)).1
        obtain ⟨c0, c1⟩ := key_cell hgr hx hy
        have C5 : Chg [] wr (wr.alloc (.cells #[.int .i64 y.kind, .int .i64 y.c] 48)) := (Chg.refl _ _).alloc _
        have hkey := sKey_any w0 (wr.alloc (.cells #[.int .i64 y.kind, .int .i64 y.c] 48)) γ τr sr rd y (hG.is.chg0 C5) (by have := HH.out.2.2; omega)
        unfold KeyCalls keyV at hkey
        have hdr : ks.drop k = y :: ks.drop (k + 1) := by
          rw [List.drop_eq_getElem_cons hlt]
          rw [List.getElem?_eq_getElem hlt] at hy
          injection hy with hy
          rw [hy]
        rw [hdr] at hK
        have hK2 : keysS γ.q sr (y :: ks.drop (k + 1)) = (match (keyS γ.q sr y).1 with | some o => (some o, (keyS γ.q sr y).2) | none => keysS γ.q (keyS γ.q sr y).2 (ks.drop (k + 1))) := rfl
        rw [hK2] at hK
        generalize keyS γ.q sr y = R at *
        obtain ⟨r, s2⟩ := R
        obtain ⟨kk, kc⟩ := y
        dsimp only at hK hkey c0 c1 C5
        have HK := Lib.hid (And.intro hK (And.intro hG (And.intro hF (And.intro C5 hlt))))
        have HKEY := Lib.hid hkey
        clear hK hG hF C5 hkey hK2 hdr hy hb hgr hg hx hsz hc hm hkn hf
        go_upto_region 5 with (fail)
        go_wp2_with fail
        refine (HKEY.out).mono ?_
        rintro e w4 ⟨v, τ2, rfl, hE, hG2, hF2⟩
        have HP := Lib.hid (And.intro hG2 hF2)
        have HE := Lib.hid hE
        clear hG2 hF2
        rcases hE with ⟨hr, rfl⟩ | ⟨o, ge, hr, rfl, _⟩
        · dsimp only at hr
          subst hr
          go_wp2_with fail
          have hP := HP.out
          have hK := HK.out
          refine ⟨⟨k + 1, τ2, s2, by go_num, by omega, hK.2.1.trans (SGo.pre0 hK.2.2.2.1 hP.1), hK.1, by omega⟩, by simp [intOf]; omega⟩
        · dsimp only at hr
          subst hr
          go_wp2_with fail
          have hP := HP.out
          have hK := HK.out
          have hk1 := hK.1
          try dsimp only at hk1
          rw [hk1]
          have hG := hK.2.1.trans (SGo.pre0 hK.2.2.2.1 hP.1)
          refine do_leave (HasRow.chgO HV.out hG.c (fun k hk => (HH.out.2.1 k hk).1)) rfl (fun w' c => dopost_of (HE.out.pre (Nat.le_trans hK.2.1.c.size hK.2.2.2.1.size)) hG HH.out.2.1 (by omega) c)
      · obtain rfl : k = ks.length := by omega
        have HP := Lib.hid (And.intro hG (And.intro hK hF))
        clear hG hK hF hge
        go_wp2_with fail
        have hP := HP.out
        have hk1 := hP.2.1
        rw [List.drop_eq_nil_of_le (Nat.le_refl _)] at hk1
        rw [hk1]
        refine do_leave (HasRow.chgO HV.out hP.1.c (fun k hk => (HH.out.2.1 k hk).1)) rfl (fun w' c => dopost_of (.inl ⟨rfl, rfl⟩) hP.1 HH.out.2.1 hP.2.2 c)
end Go.Proofs.YtafmnkngjjnpiaaGreatDoor

namespace Go.Proofs.YtafmnkngjjnpiaaGreatDoor
set_option linter.unusedVariables false
set_option linter.unusedSimpArgs false
set_option maxRecDepth 100000
open Go.RowKit
def KNewPost (bA bC N : Nat) (w : World) (e : Ending) (w' : World) : Prop :=
  ∃ bD, e = .returned (.tuple #[.pointer (some ⟨bD, 0, none⟩), .int .i64 0]) ∧ w.heap.size ≤ bD ∧ Chg [bA, bC] w w' ∧ DecIs w' bD bA bC N ⟨[], false⟩
theorem decNew_any (bA bC N : Nat) (l : List Int) (w : World) (h : Ar.ArenaIs w bA bC N l) (hN : 36 ≤ N) :
    Calls Tryz.prog 10 #[.pointer (some ⟨bA, 0, none⟩)] w (KNewPost bA bC N w) := by
  have HH := Lib.hid h
  have d1 : decide ((N : Int) < 36) = false := decide_eq_false (by omega)
  clear h
  go_enter Tryz.func10, Tryz.ntmps10
  go_wp2_with fail
  refine (Ar.cap_any bA bC N l w HH.out).mono ?_
  rintro e w1 ⟨rfl, rfl⟩
  go_wp2_with fail
  refine (Ar.wipe_any bA bC N l w HH.out).mono ?_
  rintro e w2 ⟨rfl, C2, A2⟩
  have HE := Lib.hid (And.intro C2 A2)
  clear C2 A2
  go_wp2_with fail
  go_ret2
  have lA := heap_lt HE.out.2.hA
  have lC := heap_lt HE.out.2.hC
  exact ⟨w2.heap.size, rfl, HE.out.1.size, HE.out.1.alloc _, ⟨alloc_heap w2 _, HE.out.2.chg ((Chg.refl [] w2).alloc _) (by simp) (by simp), by omega, by omega, by intro x hx; cases hx⟩⟩
theorem built_row {w : World} {k : Ky} : HasRow (w.alloc (.cells #[.int .i64 k.kind, .int .i64 k.c] 48)) 48 2 (.slice (some ⟨w.heap.size, 0, none⟩) 1 1) 1 (kyCells [k]) :=
  ⟨rfl, .inr ⟨w.heap.size, 0, 1, _, rfl, alloc_heap w _, Nat.le_refl _, by decide, by simp, rfl⟩⟩
set_option maxHeartbeats 4000000 in
theorem finish_dec (bD bA bC N : Nat) (d : Dc) (w : World) (h : DecIs w bD bA bC N d) :
    Calls Tryz.prog 180 #[.pointer (some ⟨bD, 0, none⟩)] w (FeedPost bD bA bC N (lastD d) ⟨[], d.p⟩ 0 w) := by
  obtain ⟨l, p⟩ := d
  have x0 : w.cell? ⟨bD, 0, none⟩ = some (.pointer (some ⟨bA, 0, none⟩)) := by rw [cell_of_heap h.hD]; rfl
  have hat := Ar.at_any bA bC N l 0 w h.ar
  have HH := Lib.hid h
  rcases Nat.eq_zero_or_pos l.length with h0 | hp
  · obtain rfl := List.eq_nil_of_length_eq_zero h0
    have hv : lastD ⟨[], p⟩ = [] := rfl
    rw [hv]
    have HA := Lib.hid hat
    clear h hat hv h0
    go_enter Tryz.func180, Tryz.ntmps180
    go_wp2_with fail
    refine (HA.out).mono ?_
    rintro e w1 ⟨rfl, rfl⟩
    go_wp2_with fail
    go_ret2
    exact ⟨_, rfl, HasRow.nil _ _ _, (fun k hk => by cases hk), Chg.refl _ _, HH.out⟩
  · have hE : Ar.atE l.length 0 = 0 := by unfold Ar.atE; rw [if_neg (by omega)]
    have hR : Ar.atR l 0 = (byN l 0 : Nat) := by
      unfold Ar.atR Ar.cellV
      rw [if_neg (by omega)]
      exact (HH.out.by'.byte 0).1
    rw [hE, hR] at hat
    have HA := Lib.hid hat
    have hne : bD ∉ [bA, bC] := by have := HH.out.nA; have := HH.out.nC; simp; omega
    have HNE := Lib.hid hne
    have e0 := (HH.out.by'.byte 0).1
    dsimp only at e0
    by_cases h27 : ((byN l 0 : Nat) : Int) = 27
    · have hv : lastD ⟨l, p⟩ = [⟨15, 0⟩] := by unfold lastD; rw [if_neg (by dsimp only; omega), if_pos (by rw [e0]; exact h27)]
      rw [hv]
      have t0 : (((byN l 0 : Nat) : Int) == 27) = true := by rw [h27]; rfl
      clear h hat hv hE hR hp hne e0 h27
      go_enter Tryz.func180, Tryz.ntmps180
      go_wp2_with fail
      refine (HA.out).mono ?_
      rintro e w1 ⟨rfl, rfl⟩
      go_wp2_with fail
      refine (Ar.wipe_any bA bC N l w HH.out.ar).mono ?_
      rintro e w2 ⟨rfl, C2, A2⟩
      have HE := Lib.hid (And.intro C2 A2)
      clear C2 A2
      go_wp2_with fail
      go_ret2
      exact ⟨_, rfl, built_row (k := ⟨15, 0⟩), (fun k hk => by injection hk with hk; subst hk; exact HE.out.1.size), (HE.out.1.mono (fun x hx => List.mem_cons_of_mem _ hx)).alloc _, ⟨alloc_keeps (HE.out.1.heap HH.out.hD HNE.out), HE.out.2.chg ((Chg.refl [] w2).alloc _) (by simp) (by simp), HH.out.nA, HH.out.nC, by intro x hx; cases hx⟩⟩
    · have hv : lastD ⟨l, p⟩ = [⟨0, 65533⟩] := by unfold lastD; rw [if_neg (by dsimp only; omega), if_neg (by rw [e0]; exact h27)]
      rw [hv]
      have t0 : (((byN l 0 : Nat) : Int) == 27) = false := by rw [beq_eq_false_iff_ne]; exact h27
      clear h hat hv hE hR hp hne e0 h27
      go_enter Tryz.func180, Tryz.ntmps180
      go_wp2_with fail
      refine (HA.out).mono ?_
      rintro e w1 ⟨rfl, rfl⟩
      go_wp2_with fail
      refine (Ar.wipe_any bA bC N l w HH.out.ar).mono ?_
      rintro e w2 ⟨rfl, C2, A2⟩
      have HE := Lib.hid (And.intro C2 A2)
      clear C2 A2
      go_wp2_with fail
      go_ret2
      exact ⟨_, rfl, built_row (k := ⟨0, 65533⟩), (fun k hk => by injection hk with hk; subst hk; exact HE.out.1.size), (HE.out.1.mono (fun x hx => List.mem_cons_of_mem _ hx)).alloc _, ⟨alloc_keeps (HE.out.1.heap HH.out.hD HNE.out), HE.out.2.chg ((Chg.refl [] w2).alloc _) (by simp) (by simp), HH.out.nA, HH.out.nC, by intro x hx; cases hx⟩⟩
end Go.Proofs.YtafmnkngjjnpiaaGreatDoor

namespace Go.Proofs.YtafmnkngjjnpiaaGreatDoor
set_option linter.unusedVariables false
set_option linter.unusedSimpArgs false
set_option maxRecDepth 100000
open Go.RowKit
theorem drainD_len : ∀ (f : Nat) (d : Dc), (drainD f d).1.length + (drainD f d).2.h.length ≤ d.h.length
  | 0, d => by rw [drainD]; simp
  | f + 1, d => by
    cases hn : nextD d with
    | none => rw [drainD_none hn]; simp
    | some x =>
      obtain ⟨k, d'⟩ := x
      have h1 := nextD_lt hn
      have h2 := drainD_len f d'
      rw [drainD_some hn]
      simp only [List.length_cons]
      omega
theorem feedD_len (d : Dc) (c : Int) : (feedD 36 d c).1.length + (feedD 36 d c).2.h.length ≤ d.h.length + 1 := by
  unfold feedD
  split
  · simp
  · have := drainD_len (d.h.length + 1) ⟨d.h ++ [c], d.p⟩
    simp only [List.length_append, List.length_cons, List.length_nil] at this
    omega
theorem keyS_d (q : Aq) (s : Ss) (k : Ky) : (keyS q s k).2.d = s.d := by
  unfold keyS ansS showS wrS
  split
  · rfl
  split
  · split
    · rfl
    · split <;> rfl
  split
  · rfl
  split
  · rfl
  split
  · rfl
  split
  · rfl
  split
  · rfl
  · split
    · rfl
    · split <;> rfl
theorem keysS_d (q : Aq) : ∀ (ks : List Ky) (s : Ss), (keysS q s ks).2.d = s.d
  | [], s => rfl
  | k :: r, s => by
    rw [keysS]
    split
    · exact keyS_d q s k
    · rw [keysS_d q r, keyS_d]
theorem feed_any (bD bA bC : Nat) (d : Dc) (w : World) (h : DecIs w bD bA bC 36 d) (hT : Lib.Utf8Tabs 1 2 w) (hg : 2 < bD ∧ 2 < bA ∧ 2 < bC) (ao : Option Addr) (cp : Nat) (c : Int) (hc : 0 ≤ c ∧ c < 256) (hs : SrcAt w ao 1 cp (valsOf .u8 [c])) :
    ∃ er, Calls Tryz.prog 12 #[.pointer (some ⟨bD, 0, none⟩), .slice ao 1 cp] w (FeedPost bD bA bC 36 (feedD 36 d c).1 (feedD 36 d c).2 er w) := by
  rcases Nat.lt_or_ge d.h.length 36 with hl | hl
  · exact ⟨0, feed_one bD bA bC 36 d w h hT hg ao cp c hc hs hl⟩
  · refine ⟨4, ?_⟩
    have hv : feedD 36 d c = ([], d) := by unfold feedD; rw [if_pos hl]
    rw [hv]
    exact feed_full bD bA bC 36 d w h ao cp c hs hl
theorem SGo.doS {w0 a b c : World} {γ : Gm} {τ τ1 τ2 : Tt} {s1 s2 : Ss} {r1 r2 : List Int} {ob : Option Nat} (h : SGo w0 a γ τ τ1 s1 r1 b) (is : SesIs w0 c γ τ2 s2 r2) (k : ChgO (fun x => Sown γ τ1 x ∨ ob = some x) b c) (own : ∀ j, τ2.own j → τ1.own j ∨ b.heap.size ≤ j) (hbT : τ2.bT = τ1.bT)
    (hob : ∀ x, ob = some x → a.heap.size ≤ x) : SGo w0 a γ τ τ2 s2 r2 c :=
  ⟨is, h.c.trans k (fun x hx => hx.elim (fun hx => hx.elim (fun e => .inl (.inl e)) (fun e => (h.own x e).imp .inr id)) (fun e => .inr (hob x e))), fun j hj => (own j hj).elim (h.own j) (fun e => .inr (Nat.le_trans h.c.size e)), hbT.trans h.bT⟩
theorem atR_get {l : List Int} {k : Nat} {c : Int} (h : l[k]? = some c) : Ar.atR l (k : Nat) = c := by
  have hk : k < l.length := (List.getElem?_eq_some_iff.1 h).1
  unfold Ar.atR
  rw [if_neg (by omega)]
  unfold Ar.cellV
  simp [List.getD, h]
def TakePost (w0 : World) (γ : Gm) (τ : Tt) (s : Ss) (rd : List Int) (R : Option Int × Ss) (k : Nat) (w : World) (e : Ending) (w' : World) : Prop :=
  ∃ v τ', e = .returned v ∧ ErrV γ τ' R.1 v w w' ∧ SGo w0 w γ τ τ' R.2 rd w' ∧ fee τ' + R.2.d.h.length ≤ fee τ + s.d.h.length + k
set_option maxHeartbeats 8000000 in
theorem take_any (w0 w : World) (γ : Gm) (τ : Tt) (s : Ss) (rd : List Int) (h : SesIs w0 w γ τ s rd) (hf : fee τ + s.d.h.length + rd.length ≤ 999000) :
    Calls Tryz.prog 182 #[.pointer (some ⟨γ.bS, 0, none⟩)] w (TakePost w0 γ τ s rd (bytesS γ.q s rd) rd.length w) := by
  have x4 : w.cell? ⟨γ.bS, 4, none⟩ = some (.pointer (some ⟨γ.rA, 0, none⟩)) := by rw [cell_of_heap h.S]; rfl
  have HLN := Lib.hid (Ar.len_any γ.rA γ.rC 64 rd w h.A)
  have hrl : rd.length ≤ 64 := h.A.le
  have HH := Lib.hid (And.intro h hf)
  clear h hf
  go_enter Tryz.func182, Tryz.ntmps182
  go_upto_region 2 with (go_at_call 41; refine (HLN.out).mono ?_; rintro e w2 ⟨rfl, rfl⟩)
  go_loopw [14] (fun i wr => ∃ (k : Nat) (τr : Tt) (sr : Ss), i = .int .i64 (k : Nat) ∧ k ≤ rd.length ∧ SGo w0 w γ τ τr sr rd wr ∧ bytesS γ.q s rd = bytesS γ.q sr (rd.drop k) ∧ fee τr + sr.d.h.length ≤ fee τ + s.d.h.length + k) (fun i _ => rd.length - (intOf i).toNat)
  case atStart => exact ⟨0, τ, s, rfl, Nat.zero_le _, SGo.refl HH.out.1, by simp, by omega⟩
  case round =>
    obtain ⟨k, τr, sr, rfl, hkn, hG, hK, hF⟩ := hrel
    rcases Nat.lt_or_ge k rd.length with hlt | hge
    · obtain ⟨c, hc⟩ : ∃ c, rd[k]? = some c := ⟨rd[k], List.getElem?_eq_getElem hlt⟩
      have hat := Ar.at_any γ.rA γ.rC 64 rd (k : Nat) wr hG.is.A
      rw [atR_get hc] at hat
      have hcr := hG.is.rby c (List.mem_of_getElem? hc)
      have y4 : wr.cell? ⟨γ.bS, 4, none⟩ = some (.pointer (some ⟨γ.rA, 0, none⟩)) := by rw [cell_of_heap hG.is.S]; rfl
      have y7 : wr.cell? ⟨γ.bS, 7, none⟩ = some (.pointer (some ⟨γ.bD, 0, none⟩)) := by rw [cell_of_heap hG.is.S]; rfl
      have C5 : Chg [] wr (wr.alloc (.cells #[.int .u8 c] 5)) := (Chg.refl _ _).alloc _
      have H5 := hG.is.chg0 C5
      have hk := H5.K
      have h8 := H5.L0.sz
      have l1 := H5.lo γ.bD (by rw [hk.k4]; decide)
      have l2 := H5.lo γ.kA (by rw [hk.k9]; decide)
      have l3 := H5.lo γ.kC (by rw [hk.k10]; decide)
      obtain ⟨er, hfd⟩ := feed_any γ.bD γ.kA γ.kC sr.d _ H5.D H5.L.u ⟨by omega, by omega, by omega⟩ (some ⟨wr.heap.size, 0, none⟩) 1 c hcr (src_row (l := [c]) (cur := []) (c := 1) (alloc_heap wr (.cells #[.int .u8 c] 5)))
      have hdr : rd.drop k = c :: rd.drop (k + 1) := by
        rw [List.drop_eq_getElem_cons hlt]
        rw [List.getElem?_eq_getElem hlt] at hc
        injection hc with hc
        rw [hc]
      rw [hdr] at hK
      have hK2 : bytesS γ.q sr (c :: rd.drop (k + 1)) = (match (byteS γ.q sr c).1 with | some o => (some o, (byteS γ.q sr c).2) | none => bytesS γ.q (byteS γ.q sr c).2 (rd.drop (k + 1))) := rfl
      rw [hK2] at hK
      have hby : byteS γ.q sr c = keysS γ.q { sr with d := (feedD 36 sr.d c).2 } (feedD 36 sr.d c).1 := rfl
      rw [hby] at hK
      have hfl := feedD_len sr.d c
      generalize feedD 36 sr.d c = FD at *
      obtain ⟨ks, d'⟩ := FD
      dsimp only at hK hfd hfl
      have HK := Lib.hid (And.intro hK (And.intro hG (And.intro hF (And.intro hlt (And.intro hfl H5)))))
      have HAT := Lib.hid hat
      have HFD := Lib.hid hfd
      clear hK hG hF C5 hK2 hdr hby hat hfd H5 hk h8 l1 l2 l3 hcr hkn hfl hc
      go_wp2_with fail
      refine (HAT.out).mono ?_
      rintro e w2 ⟨rfl, rfl⟩
      go_wp2_with fail
      refine (HFD.out).mono ?_
      rintro e w6 ⟨vv, rfl, hrow, hnew, C6, D6⟩
      have H6 := HK.out.2.2.2.2.2.dec C6 D6
      have hK := HK.out
      have hfree : ∀ x, vv.ownBlock = some x → ¬ Sown γ τr x ∧ w0.heap.size ≤ x ∧ x < w6.heap.size := fun x hx => by
        have h1 := hnew x hx
        have h2 := hK.2.2.2.2.2.c0.size
        exact ⟨hK.2.2.2.2.2.new h1, by omega, hrow.lt x hx⟩
      have hG6 := (hK.2.1.chg0 ((Chg.refl _ wr).alloc (.cells #[.int .u8 c] 5))).trans (SGo.of_k H6 C6 (by have hk := H6.K; simp [hk.k4, hk.k9, hk.k10]))
      have hnw : ∀ x, vv.ownBlock = some x → w.heap.size ≤ x := fun x hx => by
        have h1 := hnew x hx
        have h2 := hK.2.1.c.size
        simp at h1
        omega
      have hdo := sDo_any w0 w6 γ τr { sr with d := d' } rd vv ks H6 hrow hfree (by have := hK.2.2.2.2.2.D.ar.le; omega) (by have := HH.out.2; omega)
      have hkd := keysS_d γ.q ks { sr with d := d' }
      generalize keysS γ.q { sr with d := d' } ks = R at *
      obtain ⟨r, s2⟩ := R
      have HDO := Lib.hid hdo
      have HW6 := Lib.hid (And.intro hG6 (And.intro hnw hkd))
      clear hdo hrow hnew hfree C6 D6 H6 hG6 hnw hkd hK y4 y7 x4
      go_wp2_with fail
      refine (HDO.out).mono ?_
      rintro e w7 ⟨v, τ2, rfl, hE, is2, chg2, own2, fee2, bT2⟩
      have hG7 := HW6.out.1.doS is2 chg2 own2 bT2 HW6.out.2.1
      have HG7 := Lib.hid (And.intro hG7 fee2)
      have HE := Lib.hid hE
      clear is2 chg2 own2 fee2 hG7
      rcases hE with ⟨hr, rfl⟩ | ⟨o, ge, hr, rfl, _⟩
      · dsimp only at hr
        subst hr
        go_wp2_with fail
        have hK := HK.out
        have hW := HW6.out.2.2
        try dsimp only at hW
        have hg := HG7.out
        refine ⟨⟨k + 1, τ2, s2, by go_num, by omega, hg.1, hK.1, ?_⟩, by simp [intOf]; omega⟩
        rw [hW]
        omega
      · dsimp only at hr
        subst hr
        go_wp2_with fail
        have hK := HK.out
        have hk1 := hK.1
        try dsimp only at hk1
        have hW := HW6.out.2.2
        try dsimp only at hW
        have hg := HG7.out
        go_ret
        rw [hk1]
        refine ⟨_, τ2, rfl, HE.out.pre HW6.out.1.c.size, hg.1, ?_⟩
        dsimp only
        rw [hW]
        omega
    · obtain rfl : k = rd.length := by omega
      rw [List.drop_eq_nil_of_le (Nat.le_refl _)] at hK
      have HP := Lib.hid (And.intro hG (And.intro hK hF))
      clear hG hK hF hge
      go_wp2_with fail
      go_ret
      have hP := HP.out
      rw [hP.2.1]
      exact ⟨.nilIface, τr, rfl, .inl ⟨rfl, rfl⟩, hP.1, hP.2.2⟩
end Go.Proofs.YtafmnkngjjnpiaaGreatDoor
