import Derived.Test.YtafmnkngjjnpiaaGreatDoorTtyC
namespace Go.Proofs.YtafmnkngjjnpiaaGreatDoor
set_option linter.unusedVariables false
set_option linter.unusedSimpArgs false
set_option maxRecDepth 100000
open Go.RowKit
def EfD.pl (y : EfD) : Int × Int × Int × Int × List Int × Int × Bool := (y.kind, y.a.fl, y.a.mn, y.a.tm, y.zs, y.n, y.ok)
structure OwnE (base : Nat) (w : World) (g : Nat) (y : EfD) : Prop where
  row : w.ownsRow base 5 1 (.slice y.ao y.zs.length y.cap) y.zs.length (valsOf .u8 y.zs)
  few : y.zs.length ≤ 1000000
  ne : ∀ k, y.blk = some k → k ≠ g
theorem OwnE.blk_own {base : Nat} {w : World} {g : Nat} {y : EfD} (h : OwnE base w g y) : (Value.slice y.ao y.zs.length y.cap).ownBlock = y.blk := by
  rcases h.row.2 with ⟨e, _⟩ | ⟨g, cap, cur, e, _⟩
  · injection e with e1; unfold EfD.blk; rw [e1]; rfl
  · injection e with e1; unfold EfD.blk; rw [e1]; rfl
theorem OwnE.chg {base : Nat} {w w' : World} {g : Nat} {y : EfD} {S : List Nat} (h : OwnE base w g y) (c : Chg S w w') (hS : ∀ k, y.blk = some k → k ∉ S) : OwnE base w' g y :=
  ⟨owns_keep h.row c (fun k hk => hS k (by rw [← h.blk_own]; exact hk)), h.few, h.ne⟩
theorem OwnE.src {base : Nat} {w : World} {g : Nat} {y : EfD} (h : OwnE base w g y) : SrcAt w y.ao y.zs.length y.cap (valsOf .u8 y.zs) := by
  obtain ⟨ao, c, e, hs, _⟩ := owns_srcAt h.row
  injection e with e1 e2 e3
  subst e1 e3
  exact hs
def EClonePost (n : Nat) (xs : List Value) (w : World) (e : Ending) (w' : World) : Prop :=
  ∃ rv, e = .returned rv ∧ Chg [] w w' ∧ w'.ownsRow w.heap.size 86 7 rv n xs
theorem cellsF_one (E : List EfD) : ∀ u ∈ cellsF E, u.oneCell' = true := by
  intro u hu
  unfold cellsF at hu
  obtain ⟨y, _, hy⟩ := List.mem_flatMap.1 hu
  exact ef_one y u hy
set_option maxHeartbeats 1000000 in
theorem eclone_any (v : Value) (E : List EfD) (w : World) (h : HasRow w 86 7 v E.length (cellsF E)) (hn : E.length ≤ 1000000) :
    Calls Tryz.prog 113 #[v] w (EClonePost E.length (cellsF E) w) := by
  obtain ⟨i0, hi, hz0, hz1, hz2⟩ := info_parts infoEff
  have hnil := fun (w : World) (a : Option Addr) (n c : Nat) => Lib.run_eql_slice_nil (P := Tryz.prog) w 80 86 a n c 0 0 Tryz.underlying80
  obtain ⟨ao, c, rfl, l1, l2, hnone⟩ := h.slice
  cases ao with
  | none =>
    obtain ⟨h0, rfl⟩ := hnone rfl
    obtain rfl : E = [] := List.eq_nil_of_length_eq_zero h0
    clear h hnone l1 l2 h0
    go_enter Tryz.func113, Tryz.ntmps113
    go_wp2_with fail
    go_ret
    exact ⟨_, rfl, Chg.refl _ _, World.ownsRow_nil _ _ _ _⟩
  | some ad =>
    have O0 : (w.alloc (.cells #[] 86)).ownsRow w.heap.size 86 7 (.slice (some ⟨w.heap.size, 0, none⟩) 0 0) 0 [] := ⟨rfl, Or.inr ⟨w.heap.size, 0, #[], rfl, Nat.le_refl _, alloc_heap w _, Nat.le_refl _, Nat.zero_le _, rfl, rfl⟩⟩
    have C0 : Chg [] w (w.alloc (.cells #[] 86)) := (Chg.refl _ _).alloc _
    have S1 := Lib.hid (show ∀ a', (some ad : Option Addr) = some a' → ∀ j u, (cellsF E)[j]? = some u → (w.alloc (.cells #[] 86)).cell? (a'.add j) = some u from fun a' e j u hu => by
      have hpos : 0 < E.length := by
        have := (List.getElem?_eq_some_iff.1 hu).1
        rw [cellsF_length] at this
        omega
      obtain ⟨g, off, cap, e2, hc, _⟩ := h.cells hpos
      injection e with e
      injection e2 with e3
      injection e3 with e3
      rw [← e, e3, Addr.add_lit]
      exact C0.cell (hc j u hu) (by simp))
    have hl := Lib.hid (show (cellsF E).length = E.length * 7 from cellsF_length E)
    clear h hnone
    go_enter Tryz.func113, Tryz.ntmps113
    go_wp2_with (refine wpList_append_src rfl (.tmp 5) (.tmp 6) 80 rfl w.heap.size 86 i0 (.agg #[.int .i64 0, .int .u32 0, .int .u8 0, .int .u8 0, .slice none 0 0, .int .i64 0, .bool false]) 7 56 Tryz.underlying80 hi hz0 hz1 hz2 rfl (by decide) _ 0 [] (by rfl) O0 (some ad) E.length c (cellsF E) (by rfl) hl.out (fun e => by cases e) S1.out (cellsF_one E) (by unfold maxLen; omega) (by omega) C0.size (fun v6 w6 O6 C6 _ => ?_); have D6 : Chg [] w w6 := C0.trans C6 (by simp) (by simp [Value.ownBlock]); rw [List.nil_append, Nat.zero_add] at O6; have H6 := Lib.hid O6; clear O6)
    go_ret
    exact ⟨_, rfl, D6, H6.out⟩
structure EffAt (base : Nat) (w : World) (rv : Value) (E E' : List EfD) (i : Nat) : Prop where
  row : w.ownsRow base 86 7 rv E.length (cellsF E')
  pl : E'.map EfD.pl = E.map EfD.pl
  old : ∀ j, i ≤ j → E'[j]? = E[j]?
  own : ∀ j y, j < i → E'[j]? = some y → ∀ g, rv.ownBlock = some g → OwnE base w g y
def EffPost (E : List EfD) (w : World) (e : Ending) (w' : World) : Prop :=
  ∃ rv E', e = .returned rv ∧ Chg [] w w' ∧ EffAt w.heap.size w' rv E E' E.length
theorem cellsF_get (E : List EfD) : ∀ (k : Nat) (y : EfD), E[k]? = some y → ∀ j, j < 7 → (cellsF E)[k * 7 + j]? = y.cells[j]? := by
  induction E with
  | nil => intro k y h; simp at h
  | cons x E ih =>
    intro k y hk j hj
    rw [cellsF_cons]
    have hl : x.cells.length = 7 := rfl
    cases k with
    | zero =>
      injection hk with hk
      subst hk
      rw [List.getElem?_append_left (by omega), Nat.zero_mul, Nat.zero_add]
    | succ k =>
      rw [List.getElem?_append_right (by omega), hl, show (k + 1) * 7 + j - 7 = k * 7 + j by omega]
      exact ih k y hk j hj
theorem cellsF_set (E : List EfD) : ∀ (k : Nat) (y : EfD) (ao : Option Addr) (cap : Nat), E[k]? = some y → cellsF (E.set k { y with ao := ao, cap := cap }) = (cellsF E).set (k * 7 + 4) (.slice ao y.zs.length cap) := by
  induction E with
  | nil => intro k y ao cap h; simp at h
  | cons x E ih =>
    intro k y ao cap hk
    cases k with
    | zero =>
      injection hk with hk
      subst hk
      rw [List.set_cons_zero, cellsF_cons, cellsF_cons]
      rfl
    | succ k =>
      have hl : x.cells.length = 7 := rfl
      rw [List.set_cons_succ, cellsF_cons, cellsF_cons, ih k y ao cap hk, List.set_append_right _ _ (by omega), hl, show (k + 1) * 7 + 4 - 7 = k * 7 + 4 by omega]
theorem eowns_keep {w w' : World} {base : Nat} {e : TypeId} {size : Nat} {v : Value} {n : Nat} {xs : List Value} {S : List Nat} (h : w.ownsRow base e size v n xs) (c : Chg S w w') (hS : ∀ k, v.ownBlock = some k → k ∉ S) : w'.ownsRow base e size v n xs := by
  refine ⟨h.1, h.2.imp id ?_⟩
  rintro ⟨g, cap, cur, rfl, hb, hg, h3⟩
  exact ⟨g, cap, cur, rfl, hb, c.heap hg (hS g rfl), h3⟩
theorem eowns_set {w : World} {base : Nat} {e : TypeId} {size g n c : Nat} {xs : List Value} (h : w.ownsRow base e size (.slice (some ⟨g, 0, none⟩) n c) n xs) (j : Nat) (hj : j < n * size) (u : Value) :
    (w.setCell ⟨g, j, none⟩ u).ownsRow base e size (.slice (some ⟨g, 0, none⟩) n c) n (xs.set j u) := by
  refine ⟨by rw [List.length_set]; exact h.1, ?_⟩
  rcases h.2 with ⟨e0, _⟩ | ⟨g', cap, cur, e0, hb, hg, h1, h2, h3, h4⟩
  · cases e0
  · injection e0 with e1 _ e3
    injection e1 with e1
    injection e1 with e1
    subst e1 e3
    refine .inr ⟨g, c, _, rfl, hb, setCell_heap u hg, h1, h2, by simpa using h3, ?_⟩
    rw [Array.toList_setIfInBounds, ← h4, List.take_set]
theorem EffAt.step {base : Nat} {w w1 : World} {g c : Nat} {E E' : List EfD} {i : Nat} {y : EfD} {ao : Option Addr} {cap : Nat} (h : EffAt base w (.slice (some ⟨g, 0, none⟩) E.length c) E E' i) (hy : E[i]? = some y) (hfew : y.zs.length ≤ 1000000)
    (c1 : Chg [] w w1) (hr : w1.ownsRow w.heap.size 5 1 (.slice ao y.zs.length cap) y.zs.length (valsOf .u8 y.zs)) (hb : base ≤ w.heap.size) :
    ∃ E'', EffAt base (w1.setCell ⟨g, i * 7 + 4, none⟩ (.slice ao y.zs.length cap)) (.slice (some ⟨g, 0, none⟩) E.length c) E E'' (i + 1) := by
  have hy' : E'[i]? = some y := by rw [h.old i (Nat.le_refl _)]; exact hy
  have hil : i < E.length := (List.getElem?_eq_some_iff.1 hy).1
  have hil' : i < E'.length := (List.getElem?_eq_some_iff.1 hy').1
  have hg : g < w.heap.size := (h.row.lt g rfl).2
  have cs : Chg [g] w1 (w1.setCell ⟨g, i * 7 + 4, none⟩ (.slice ao y.zs.length cap)) := (Chg.refl [g] w1).setCell (p := ⟨g, i * 7 + 4, none⟩) (Or.inl List.mem_cons_self) _
  have hnew : ∀ k, (ao.map (·.block)) = some k → w.heap.size ≤ k := fun k hk => by
    rcases hr.2 with ⟨e, _⟩ | ⟨g', _, _, e, hb', _⟩
    · injection e with e1; rw [e1] at hk; cases hk
    · injection e with e1; rw [e1] at hk; cases hk; exact hb'
  refine ⟨E'.set i { y with ao := ao, cap := cap }, ?_, ?_, fun j hj => ?_, fun j z hj hz g' hg' => ?_⟩
  · rw [cellsF_set E' i y ao cap hy']
    exact eowns_set (eowns_keep h.row c1 (by simp)) _ (by omega) _
  · rw [List.map_set]
    apply List.ext_getElem?
    intro j
    rw [List.getElem?_set, List.length_map]
    by_cases e : i = j
    · subst e
      rw [if_pos rfl, if_pos hil', List.getElem?_map, hy]
      rfl
    · rw [if_neg e, h.pl]
  · rw [List.getElem?_set, if_neg (by omega)]
    exact h.old j (by omega)
  · cases hg'
    rw [List.getElem?_set] at hz
    by_cases e : i = j
    · rw [if_pos e, if_pos (by omega)] at hz
      injection hz with hz
      subst hz
      refine ⟨owns_keep (owns_low hr hb) cs (fun k hk hm => ?_), hfew, fun k hk => by have h3 := hnew k hk; have e3 : k ≠ g := (by omega); exact e3⟩
      have h1 := (hr.lt k hk).1
      have h2 : k = g := List.mem_singleton.1 hm
      omega
    · rw [if_neg e] at hz
      have ho := h.own j z (by omega) hz g rfl
      exact (ho.chg c1 (by simp)).chg cs (fun k hk hm => ho.ne k hk (List.mem_singleton.1 hm))
set_option maxHeartbeats 4000000 in
theorem tEffects_any (w0 w : World) (τ : Tt) (h : TtIs w0 w τ) (hn : τ.E.length ≤ 1000000) :
    Calls Tryz.prog 89 #[.pointer (some ⟨τ.bT, 0, none⟩)] w (EffPost τ.E w) := by
  obtain ⟨t0, t1, t2, t3, t4⟩ := h.c3
  have hr := h.row
  have HD := Lib.hid h.dat
  obtain ⟨ao, c, e, l1, l2, hnone⟩ := hr.slice
  rw [e] at t4
  have HR := Lib.hid hr
  have HE := Lib.hid e
  generalize hE : τ.E = E at *
  clear h hr e hnone t0 t1 t2 t3
  unfold maxLen at l2
  go_enter Tryz.func89, Tryz.ntmps89
  go_wp2_with fail
  refine (eclone_any _ E w (by rw [← HE.out]; exact HR.out) hn).mono ?_
  rintro e w1 ⟨rv, rfl, C1, O1⟩
  have HO1 := Lib.hid O1
  have HC1 := Lib.hid C1
  rcases O1.2 with ⟨rfl, h0⟩ | ⟨g, cap, cur, rfl, hb, hg, k1, k2, k3, k4⟩
  · have hE0 : E = [] := List.eq_nil_of_length_eq_zero h0
    clear O1 C1 h0
    go_wp2_with fail
    go_loopw [14] (fun iv wr => iv = .int .i64 0 ∧ w1 = wr) (fun _ _ => 0)
    case atStart => exact ⟨rfl, rfl⟩
    case round =>
      obtain ⟨rfl, rfl⟩ := hrel
      go_wp2_with fail
      go_ret
      refine ⟨_, [], rfl, HC1.out, ?_, ?_, ?_, ?_⟩
      · rw [hE0]; exact World.ownsRow_nil _ _ _ _
      · rw [hE0]
      · intro j _; rw [hE0]
      · intro j y _ hy; simp at hy
  · unfold maxLen at k2
    have X1 : EffAt w.heap.size w1 (.slice (some ⟨g, 0, none⟩) E.length cap) E E 0 := ⟨HO1.out, rfl, fun _ _ => rfl, fun j y hj => by omega⟩
    have HX1 := Lib.hid X1
    clear O1 C1 X1 hb hg k3 k4
    go_wp2_with fail
    go_loopw [14] (fun iv wr => ∃ (i : Nat) (E' : List EfD), i ≤ E.length ∧ iv = .int .i64 i ∧ Chg [] w wr ∧ EffAt w.heap.size wr (.slice (some ⟨g, 0, none⟩) E.length cap) E E' i) (fun iv _ => E.length - (intOf iv).toNat)
    case atStart => exact ⟨0, E, Nat.zero_le _, rfl, HC1.out, HX1.out⟩
    case round =>
      obtain ⟨i, E', hi, rfl, hC, hX⟩ := hrel
      by_cases hlt : i < E.length
      · obtain ⟨y, hy⟩ : ∃ y, E[i]? = some y := ⟨E[i], List.getElem?_eq_getElem hlt⟩
        have hy' : E'[i]? = some y := by rw [hX.old i (Nat.le_refl _)]; exact hy
        have hcell : wr.cell? ⟨g, i * 7 + 4, none⟩ = some (.slice y.ao y.zs.length y.cap) := by
          have := hX.row.cells (g := g) rfl (i * 7 + 4) (.slice y.ao y.zs.length y.cap) (by rw [cellsF_get E' i y hy' 4 (by omega)]; rfl)
          rwa [Addr.add_lit, Nat.zero_add] at this
        have hd := HD.out y (List.mem_of_getElem? hy)
        have HS := Lib.hid (And.intro (hd.src.chg0 hC) hd.few)
        have HX := Lib.hid hX
        have HC := Lib.hid hC
        have HY := Lib.hid hy
        clear hX hC hy hy' hd
        go_wp2_with fail
        refine (bclone_any y.ao y.zs.length y.cap y.zs wr HS.out.1 HS.out.2).mono ?_
        rintro e w2 ⟨rv2, rfl, C2, O2⟩
        obtain ⟨a2, c2, rfl, _, _⟩ := owns_srcAt O2
        have hst := HX.out.step HY.out HS.out.2 C2 O2 HC.out.size
        have hg2 : w2.cell? ⟨g, i * 7 + 4, none⟩ = some (.slice y.ao y.zs.length y.cap) := C2.cell hcell (by simp)
        have hf2 : w2.frozen? ⟨g, i * 7 + 4, none⟩ = false := by
          rcases HX.out.row.2 with ⟨e, _⟩ | ⟨g', _, _, e, _, hh, _⟩
          · cases e
          · injection e with e1
            injection e1 with e1
            injection e1 with e1
            subst e1
            exact free_of_heap (C2.heap hh (by simp)) _
        have HST := Lib.hid hst
        have HC2 := Lib.hid ((HC.out.trans C2 (U := []) (by simp) (by simp)).setCell (p := ⟨g, i * 7 + 4, none⟩) (Or.inr (HO1.out.lt g rfl).1) (.slice a2 y.zs.length c2))
        clear hst C2 O2 hcell
        go_wp2_with fail
        go_roundw
        case rel =>
          obtain ⟨E2, hE2⟩ := HST.out
          exact ⟨i + 1, E2, by omega, by go_num, HC2.out, hE2⟩
        case measure => simp [intOf]; omega
      · obtain rfl : i = E.length := by omega
        have HX := Lib.hid hX
        have HC := Lib.hid hC
        clear hX hC
        go_wp2_with fail
        go_ret
        exact ⟨_, E', rfl, HC.out, HX.out⟩
end Go.Proofs.YtafmnkngjjnpiaaGreatDoor
