import Derived.Test.YtafmnkngjjnpiaaGreatDoorRegN
namespace Go.Proofs.YtafmnkngjjnpiaaGreatDoor.Ar
set_option maxRecDepth 100000
set_option linter.unusedVariables false
open Go.RowKit Go.WideShapes
theorem RegIs.slice {w : World} {bR bM : Nat} {nv : Value} {A : List Ent} (h : RegIs w bR bM nv A) : ∃ ao c, nv = .slice ao A.length c := by
  rcases h.row.2 with ⟨rfl, h0⟩ | ⟨g, cap, cur, rfl, _⟩
  · exact ⟨none, 0, by rw [h0]⟩
  · exact ⟨_, _, rfl⟩
theorem nodup_step {bR bM : Nat} {o : Option Nat} {L : List Nat} {g p q m : Nat} (h : (bR :: bM :: (o.toList ++ L)).Nodup) (hlt : ∀ x ∈ bR :: bM :: (o.toList ++ L), x < m)
    (hg : o = some g ∨ (m ≤ g ∧ g ≠ p ∧ g ≠ q)) (hp : m ≤ p) (hq : m ≤ q) (hpq : p ≠ q) : (bR :: bM :: ([g] ++ (L ++ [p, q]))).Nodup := by
  obtain ⟨n1, h1⟩ := List.nodup_cons.1 h
  obtain ⟨n2, h2⟩ := List.nodup_cons.1 h1
  obtain ⟨_, h3, h4⟩ := List.nodup_append.1 h2
  have lR := hlt bR List.mem_cons_self
  have lM := hlt bM (List.mem_cons_of_mem _ List.mem_cons_self)
  have lL : ∀ x ∈ L, x < m := fun x hx => hlt x (List.mem_cons_of_mem _ (List.mem_cons_of_mem _ (List.mem_append.2 (.inr hx))))
  have gR : bR ≠ g := by
    rcases hg with e | ⟨e, _⟩
    · subst e; intro e; subst e; exact n1 (by simp)
    · omega
  have gM : bM ≠ g := by
    rcases hg with e | ⟨e, _⟩
    · subst e; intro e; subst e; exact n2 (by simp)
    · omega
  have gL : g ∉ L := by
    rcases hg with e | ⟨e, _⟩
    · subst e; intro hm; exact h4 g (by simp) g hm rfl
    · intro hm; have := lL g hm; omega
  have gp : g ≠ p ∧ g ≠ q := by
    rcases hg with e | ⟨_, e⟩
    · subst e
      have := hlt g (by simp)
      omega
    · exact e
  have nRM : bR ≠ bM := fun e => n1 (by rw [e]; exact List.mem_cons_self)
  have nRL : bR ∉ L := fun hm => n1 (List.mem_cons_of_mem _ (List.mem_append.2 (.inr hm)))
  have nML : bM ∉ L := fun hm => n2 (List.mem_append.2 (.inr hm))
  have pL : p ∉ L := fun hm => by have := lL p hm; omega
  have qL : q ∉ L := fun hm => by have := lL q hm; omega
  refine List.nodup_cons.2 ⟨?_, List.nodup_cons.2 ⟨?_, ?_⟩⟩
  · simp only [List.mem_cons, List.mem_append, List.not_mem_nil, or_false, not_or]
    exact ⟨nRM, gR, nRL, by omega, by omega⟩
  · simp only [List.mem_cons, List.mem_append, List.not_mem_nil, or_false, not_or]
    exact ⟨gM, nML, by omega, by omega⟩
  · show (g :: (L ++ [p, q])).Nodup
    refine List.nodup_cons.2 ⟨?_, List.nodup_append.2 ⟨h3, by simp [hpq], ?_⟩⟩
    · simp only [List.mem_cons, List.mem_append, List.not_mem_nil, or_false, not_or]
      exact ⟨gL, gp.1, gp.2⟩
    · intro a ha b hb e
      subst e
      simp only [List.mem_cons, List.not_mem_nil, or_false] at hb
      rcases hb with rfl | rfl
      · exact pL ha
      · exact qL ha
theorem find_snoc (A : List Ent) (e : Ent) (h : findP A e.name = none) : findP (A ++ [e]) = fun t => if t = e.name then some e.bA else findP A t := by
  funext t
  unfold findP at h ⊢
  rw [List.find?_append]
  by_cases ht : t = e.name
  · subst ht
    rw [if_pos rfl]
    have h' : A.find? (fun x => decide (x.name = e.name)) = none := by simpa using h
    rw [h']
    simp
  · rw [if_neg ht]
    have : [e].find? (fun x => decide (x.name = t)) = none := by simp [Ne.symm ht]
    rw [this, Option.or_none]
theorem owns_pos {w : World} {base : Nat} {e : TypeId} {size : Nat} {v : Value} {n : Nat} {xs : List Value} (h : w.ownsRow base e size v (n + 1) xs) : ∃ g c, v = .slice (some ⟨g, 0, none⟩) (n + 1) c := by
  rcases h.2 with ⟨_, h0⟩ | ⟨g, cap, cur, e, _⟩
  · omega
  · exact ⟨g, cap, e⟩
theorem make_end {w0 w w1 w3 : World} {bR bM : Nat} {nv v3 : Value} {A : List Ent} {s : ByteArray} {n : Nat} {o : Obj} (h : OwnR w0 w bR bM nv A) (hs : s.size ≤ maxLen) (hf : findP A s = none) (hA : A.length < 16)
    (C1 : Chg [] w w1) (hz : w.heap.size + 1 < w1.heap.size) (A1 : ArenaIs w1 (w.heap.size + 1) w.heap.size n []) (C3 : Chg nv.ownBlock.toList (w1.alloc o) w3) (O3 : w3.ownsRow 0 9 1 v3 (A.length + 1) (namesV A ++ [.string s]))
    (B3 : ∀ k, v3.ownBlock = some k → nv.ownBlock = some k ∨ (w1.alloc o).heap.size ≤ k) :
    ∃ w5, (Instr.mapUpdate 172 (.map (some bM)) (.string s) (.pointer (some ⟨w.heap.size + 1, 0, none⟩))).run Tryz.prog (w3.setCell ⟨bR, 0, none⟩ v3) = .ok () w5 ∧ OwnR w0 w5 bR bM v3 (A ++ [⟨s, w.heap.size + 1, w.heap.size, n, []⟩]) ∧ Chg (bR :: bM :: nv.ownBlock.toList) w w5 ∧ ∀ x ∈ blks bR bM v3 (A ++ [⟨s, w.heap.size + 1, w.heap.size, n, []⟩]), x ∈ blks bR bM nv A ∨ w.heap.size ≤ x := by
  have hlt := h.r.lt
  have hnd := h.r.nodup
  obtain ⟨g, c, rfl⟩ := owns_pos O3
  have B3' := B3 g rfl
  have hsz : (w1.alloc o).heap.size = w1.heap.size + 1 := by simp
  rw [hsz] at B3'
  have lR := hlt bR (by simp [blks])
  have lM := hlt bM (by simp [blks])
  have hR1 := C1.heap h.r.hR (by simp)
  have hnR : bR ∉ nv.ownBlock.toList := by
    intro hm
    have := (List.nodup_cons.1 hnd).1
    exact this (List.mem_cons_of_mem _ (List.mem_append.2 (.inl hm)))
  have hnM : bM ∉ nv.ownBlock.toList := by
    intro hm
    have := (List.nodup_cons.1 (List.nodup_cons.1 hnd).2).1
    exact this (List.mem_append.2 (.inl hm))
  have hRM : bR ≠ bM := fun e => (List.nodup_cons.1 hnd).1 (by rw [e]; exact List.mem_cons_self)
  have hgR : g ≠ bR := by
    rcases B3' with e | e
    · intro h; subst h; exact hnR (by simp [e])
    · omega
  have hgM : g ≠ bM := by
    rcases B3' with e | e
    · intro h; subst h; exact hnM (by simp [e])
    · omega
  have D3 : Chg nv.ownBlock.toList w w3 := (C1.alloc o).trans C3 (by simp) (fun x hx _ => hx)
  have hR3 := D3.heap h.r.hR hnR
  have C4 : Chg [bR] w3 (w3.setCell ⟨bR, 0, none⟩ (.slice (some ⟨g, 0, none⟩) (A.length + 1) c)) := (Chg.refl _ _).setCell (Or.inl (by simp)) _
  have M4 : MapIs (w3.setCell ⟨bR, 0, none⟩ (.slice (some ⟨g, 0, none⟩) (A.length + 1) c)) bM A.length (findP A) := (h.r.map.chg D3 hnM).chg C4 (by simpa using Ne.symm hRM)
  obtain ⟨w5, hrun, M5, C5⟩ := M4.put (by unfold maxLen; omega) s hs (w.heap.size + 1)
  refine ⟨w5, hrun, ?_⟩
  have D5 : Chg (bR :: bM :: nv.ownBlock.toList) w w5 := (D3.trans C4 (U := bR :: bM :: nv.ownBlock.toList) (fun x hx => List.mem_cons_of_mem _ (List.mem_cons_of_mem _ hx)) (by simp)).trans C5 (fun x hx => hx) (by simp)
  have E5 : Chg (bR :: bM :: nv.ownBlock.toList) w1 w5 := ((((Chg.refl [] w1).alloc o).trans C3 (U := bR :: bM :: nv.ownBlock.toList) (by simp) (fun x hx _ => List.mem_cons_of_mem _ (List.mem_cons_of_mem _ hx))).trans C4 (U := bR :: bM :: nv.ownBlock.toList) (fun x hx => hx) (by simp)).trans C5 (fun x hx => hx) (by simp)
  have hnA : ∀ x ∈ A, x.bA ∉ bR :: bM :: nv.ownBlock.toList ∧ x.bC ∉ bR :: bM :: nv.ownBlock.toList := by
    have hap : ((bR :: bM :: nv.ownBlock.toList) ++ A.flatMap (fun x => [x.bA, x.bC])).Nodup := hnd
    have hd := (List.nodup_append.1 hap).2.2
    intro x hx
    constructor
    · intro hm; exact hd _ hm x.bA (List.mem_flatMap.2 ⟨x, hx, by simp⟩) rfl
    · intro hm; exact hd _ hm x.bC (List.mem_flatMap.2 ⟨x, hx, by simp⟩) rfl
  have hmem : ∀ x ∈ bR :: bM :: nv.ownBlock.toList, x < w.heap.size := fun x hx => hlt x (by
    have hap : x ∈ (bR :: bM :: nv.ownBlock.toList) ++ A.flatMap (fun x => [x.bA, x.bC]) := List.mem_append.2 (.inl hx)
    exact hap)
  have hflat : ∀ e : Ent, (A ++ [e]).flatMap (fun x => [x.bA, x.bC]) = A.flatMap (fun x => [x.bA, x.bC]) ++ [e.bA, e.bC] := fun e => by rw [List.flatMap_append]; simp
  refine ⟨⟨⟨?_, ?_, ?_, ?_, ?_, ?_, by simp; omega, ?_⟩, ?_, ?_⟩, D5, ?_⟩
  · rw [C5.heap (setCell_heap _ hR3) (by simpa using hRM)]; rfl
  · have O4 : (w3.setCell ⟨bR, 0, none⟩ (.slice (some ⟨g, 0, none⟩) (A.length + 1) c)).ownsRow 0 9 1 (.slice (some ⟨g, 0, none⟩) (A.length + 1) c) (A.length + 1) (namesV A ++ [.string s]) := owns_chg' O3 C4 (fun k hk => by injection hk with hk; rw [← hk]; simpa using hgR)
    have O5 := owns_chg' O4 C5 (fun k hk => by injection hk with hk; rw [← hk]; simpa using hgM)
    rw [List.length_append]
    simpa [namesV] using O5
  · rw [List.length_append, find_snoc A ⟨s, w.heap.size + 1, w.heap.size, n, []⟩ hf]
    exact M5
  · intro x hx
    rcases List.mem_append.1 hx with hx | hx
    · exact (h.r.ar x hx).chg D5 (hnA x hx).1 (hnA x hx).2
    · rw [List.mem_singleton.1 hx]
      exact A1.chg E5 (fun hm => by have := hmem _ hm; omega) (fun hm => by have := hmem _ hm; omega)
  · intro x hx
    rcases List.mem_append.1 hx with hx | hx
    · exact h.r.nm x hx
    · rw [List.mem_singleton.1 hx]; exact hs
  · intro x hx
    rw [find_snoc A ⟨s, w.heap.size + 1, w.heap.size, n, []⟩ hf]
    dsimp only
    rcases List.mem_append.1 hx with hx | hx
    · have hne : ¬ x.name = s := fun e => by
        have := h.r.self x hx
        rw [e, hf] at this
        cases this
      rw [if_neg hne]
      exact h.r.self x hx
    · rw [List.mem_singleton.1 hx, if_pos rfl]
  · unfold blks
    rw [hflat]
    exact nodup_step (m := w.heap.size) (g := g) (p := w.heap.size + 1) (q := w.heap.size) hnd hlt (B3'.imp id (fun e => ⟨by omega, by omega, by omega⟩)) (by omega) (by omega) (by omega)
  · exact h.c.trans D5 (fun x hx => hx) (fun x hx hl => by
      have := h.b x (by
        have hap : x ∈ (bR :: bM :: nv.ownBlock.toList) ++ A.flatMap (fun x => [x.bA, x.bC]) := List.mem_append.2 (.inl hx)
        exact hap)
      omega)
  · intro x hx
    have hcs := h.c.size
    unfold blks at hx
    rw [hflat] at hx
    rcases List.mem_cons.1 hx with rfl | hx
    · exact h.b _ (by simp [blks])
    rcases List.mem_cons.1 hx with rfl | hx
    · exact h.b _ (by simp [blks])
    rcases List.mem_append.1 hx with hx | hx
    · have : x = g := by simpa [Value.ownBlock] using hx
      subst this
      rcases B3' with e | e
      · exact h.b _ (mem_blks_row e)
      · omega
    · rcases List.mem_append.1 hx with hx | hx
      · exact h.b _ (by unfold blks; exact List.mem_cons_of_mem _ (List.mem_cons_of_mem _ (List.mem_append.2 (.inr hx))))
      · simp at hx; omega
  · intro x hx
    unfold blks at hx
    rw [hflat] at hx
    rcases List.mem_cons.1 hx with rfl | hx
    · exact .inl (by simp [blks])
    rcases List.mem_cons.1 hx with rfl | hx
    · exact .inl (by simp [blks])
    rcases List.mem_append.1 hx with hx | hx
    · have : x = g := by simpa [Value.ownBlock] using hx
      subst this
      rcases B3' with e | e
      · exact .inl (mem_blks_row e)
      · exact .inr (by omega)
    · rcases List.mem_append.1 hx with hx | hx
      · exact .inl (by unfold blks; exact List.mem_cons_of_mem _ (List.mem_cons_of_mem _ (List.mem_append.2 (.inr hx))))
      · exact .inr (by simp at hx; omega)
set_option maxHeartbeats 2000000 in
theorem rMake_ok (w0 : World) (bR bM : Nat) (nv : Value) (A : List Ent) (s : ByteArray) (n : Nat) (w : World) (h : OwnR w0 w bR bM nv A) (hs : s.size ≤ maxLen) (h0 : s.toList.isEmpty = false) (hf : findP A s = none) (hA : A.length < 16) (h1 : 1 ≤ n) (h2 : n ≤ 4096) :
    Calls Tryz.prog 134 #[.pointer (some ⟨bR, 0, none⟩), .string s, .int .i64 n] w fun e w' => e = .returned (.tuple #[.pointer (some ⟨w.heap.size + 1, 0, none⟩), .int .i64 0]) ∧ ∃ nv', OwnR w0 w' bR bM nv' (A ++ [⟨s, w.heap.size + 1, w.heap.size, n, []⟩]) ∧ Chg (bR :: bM :: nv.ownBlock.toList) w w' ∧ ∀ x ∈ blks bR bM nv' (A ++ [⟨s, w.heap.size + 1, w.heap.size, n, []⟩]), x ∈ blks bR bM nv A ∨ w.heap.size ≤ x := by
  obtain ⟨ao, c, rfl⟩ := h.r.slice
  have hc0 := h.r.cell0
  have hc1 := h.r.cell1
  have hl := h.r.map.look s hs
  rw [hf] at hl
  simp only [ptrV, Option.map_none] at hl
  have hA' : ¬ (16 : Int) ≤ (A.length : Int) := by omega
  have HF := Lib.hid hf
  have HH := Lib.hid h
  have HL := Lib.hid (show (namesV A).length = A.length * 1 by simp [namesV])
  obtain ⟨i0, hi, hz0, hz1, hz2⟩ := info_parts infoS
  clear h hf
  go_enter Tryz.func134, Tryz.ntmps134
  go_wp2_with fail
  refine (new_ok n _ h1 h2).mono ?_
  rintro e w1 ⟨rfl, C1, A1⟩
  have R1 := HH.out.r.chg C1 (by simp)
  have k0 := R1.cell0
  have k1 := R1.cell1
  have f0 := free_of_heap R1.hR 0
  have hlt := heap_lt R1.hR
  have hlt' : bR < (w1.alloc (.cells #[.string s] 9)).heap.size := by simp; omega
  have hz := A1.hA
  have hzz : w.heap.size + 1 < w1.heap.size := heap_lt hz
  have O1 : (w1.alloc (.cells #[.string s] 9)).ownsRow 0 9 1 (.slice ao A.length c) A.length (namesV A) := R1.row.alloc _
  have HR := Lib.hid R1
  have HC := Lib.hid C1
  have HA := Lib.hid A1
  have HK := Lib.hid (show ∀ w', Chg (Value.slice ao A.length c).ownBlock.toList (w1.alloc (.cells #[.string s] 9)) w' → w'.cell? ⟨bR, 0, none⟩ = some (.slice ao A.length c) ∧ w'.cell? ⟨bR, 1, none⟩ = some (.map (some bM)) ∧ w'.frozen? ⟨bR, 0, none⟩ = false from fun w' hc => by
    have hb := hc.heap (alloc_keeps (o := .cells #[.string s] 9) R1.hR) (fun hm => (List.nodup_cons.1 R1.nodup).1 (List.mem_cons_of_mem _ (List.mem_append.2 (.inl hm))))
    exact ⟨by rw [cell_of_heap hb]; rfl, by rw [cell_of_heap hb]; rfl, free_of_heap hb 0⟩)
  clear R1 hz C1 A1
  go_wp2_with (refine wpList_append_where rfl (.tmp 43) (.tmp 45) 92 rfl 0 9 i0 (.string ⟨#[]⟩) 1 16 Tryz.underlying92 hi hz0 hz1 hz2 rfl (by decide) _ A.length (namesV A) (by rfl) O1 ⟨w1.heap.size, 0, none⟩ 1 1 [.string s] (by rfl) rfl (cell_one_new _ _ _) (by simp [Value.oneCell']) (by unfold maxLen; omega) (by omega) (Nat.zero_le _) (fun v3 w3 O3 C3 B3 => ?_); obtain ⟨q0, q1, q2⟩ := HK.out _ C3; obtain ⟨w5, hrun, R5⟩ := make_end HH.out hs HF.out hA HC.out hzz HA.out C3 O3 B3; obtain ⟨g3, c3, rfl⟩ := owns_pos O3; have HR5 := Lib.hid R5; clear O3 C3 B3 R5 hc1 k1)
  go_ret2
  exact ⟨rfl, _, HR5.out⟩
end Go.Proofs.YtafmnkngjjnpiaaGreatDoor.Ar
