/-
  Layer 16's reference: New.
-/
import Derived.Test.YtmcbgpjphjacjaaRfP
import Derived.Deep.DrawnRows
import Derived.Deep.DeepCutAuto
namespace Go.Proofs.Ytmcbgpjphjacjaa
set_option linter.unusedVariables false
set_option linter.unusedSimpArgs false
set_option maxRecDepth 100000
open Go.RowKit
attribute [local go_sem] run_store_float'

theorem infoItem : (Try.prog.info? 55).map (fun i => (i.zero, i.size, i.bytes)) = some (some (.agg #[.float .f64 0, .int .i64 0, .int .i64 0, .slice none 0 0]), 4, 48) := by kernel_rfl

theorem step_append_off {P : Program} {w : World} {ops : Array Oper} {o : Oper} {a : Act} {K : Act → World → Prop} {Q : Exit → Act → World → Prop} {E : Prop} (hgd : o.guard = none) (s x : Operand) (t : TypeId)
    (ho : o.op = .call { callee := .builtin .append, args := #[s, x], argTypes := #[t, t] })
    (e : TypeId) (i : TypeInfo) (z : Value) (size bytes : Nat) (ht : P.underlying t = some (.slice e)) (hi : P.info? e = some i) (hz : i.zero = some z)
    (hsize : i.size = size) (hby : i.bytes = bytes) (hzs : z.cells.size = size) (hsz : 0 < size)
    (v : Value) (n : Nat) (xs : List Value) (hs : a.eval s = v) (hown : HasRow w e size v n xs)
    (ad : Addr) (m c : Nat) (news : List Value) (hx : a.eval x = .slice (some ad) m c) (hl : news.length = m * size)
    (hnews : ∀ j u, news[j]? = some u → w.cell? (ad.add j) = some u) (h1 : ∀ u ∈ news, u.oneCell' = true)
    (h63 : n + m ≤ maxLen) (hbytes : (n + m) * bytes ≤ 140737488355328)
    (h : ∀ v' w', HasRow w' e size v' (n + m) (xs ++ news) → Chg (v.ownBlock.toList) w w' → (∀ k, v'.ownBlock = some k → v.ownBlock = some k ∨ w.heap.size ≤ k) → K (a.put o.dst v') w') :
    if Region.wanted o (yielded ops a.tmps) = true then Oper.wp P o a w K Q else E := by
  have hw : Region.wanted o (yielded ops a.tmps) = true := by simp [Region.wanted, hgd]
  rw [if_pos hw]
  obtain ⟨v', w', hr, h2, h3, h4⟩ := run_append_off (P := P) (w := w) t o.type e i z size bytes ht hi hz hsize hby hzs hsz v n xs hown ad m c news hl hnews h1 h63 hbytes
  unfold Oper.wp execOp
  simp only [ho, resolve, invoke, builtin, Sem.run_bind, Sem.run_pure, Result.andThen_ok, List.map_toArray, List.map_cons, List.map_nil, hs, hx, hr]
  exact h v' w' h2 h3 h4

theorem insG_pairwise {α : Type} (o : α → Nat) (M : List α) (x : α) (hs : M.Pairwise (fun y z => o y < o z)) (hne : ∀ y ∈ M, o y ≠ o x) : (insG o M x).Pairwise (fun y z => o y < o z) := by
  unfold insG
  rw [List.pairwise_append, List.pairwise_cons]
  refine ⟨hs.sublist List.filter_sublist, ⟨fun b hb => ?_, hs.sublist List.filter_sublist⟩, fun y hy z hz => ?_⟩
  · obtain ⟨hb1, hb2⟩ := List.mem_filter.1 hb
    have := hne b hb1
    simp at hb2
    omega
  · obtain ⟨hy1, hy2⟩ := List.mem_filter.1 hy
    simp at hy2
    rcases List.mem_cons.1 hz with rfl | hz
    · exact hy2
    · obtain ⟨hz1, hz2⟩ := List.mem_filter.1 hz
      have := hne z hz1
      simp at hz2
      omega

theorem ordD_len (its : List ItD) (k : Nat) : (ordD its k).length ≤ k := by
  have h := congrArg List.length (ordD_P its k)
  rw [List.length_map] at h
  have := ordP_len its k
  omega

theorem oE_ne {x y : Ele} {n : Nat} (hn : n ≤ 1000000) (h0 : 0 ≤ y.2.2) (h1 : y.2.2 < (n : Int)) (hx : x.2.2 = (n : Int)) : oE y ≠ oE x := by
  unfold oE
  intro h
  have e1 : x.2.2.toNat = n := by rw [hx]; rfl
  have e2 : y.2.2.toNat < n := by omega
  omega

theorem ordD_ok (its : List ItD) : ∀ k, k ≤ 1000000 → (ordD its k).Pairwise (fun y z => oE y.1 < oE z.1) ∧ ∀ y ∈ ordD its k, y.1.1 = y.2.b ∧ 0 ≤ y.1.2.2 ∧ y.1.2.2 < ((ordD its k).length : Int) ∧ y.2 ∈ its ∧ comes y.2 = true := by
  intro k
  induction k with
  | zero => intro _; exact ⟨List.Pairwise.nil, fun y hy => by cases hy⟩
  | succ k ih =>
    intro hk
    obtain ⟨i1, i2⟩ := ih (by omega)
    have hlen := ordD_len its k
    cases hx : its[k]? with
    | none =>
      have e : ordD its (k + 1) = ordD its k := by
        show (match its[k]? with | some x => ordDStep (ordD its k) x k | none => ordD its k) = _
        rw [hx]
      rw [e]; exact ⟨i1, i2⟩
    | some x =>
      rw [ordD_succ hx]
      unfold ordDStep
      split
      · rename_i hc
        refine ⟨insG_pairwise _ _ _ i1 (fun y hy => oE_ne (n := (ordD its k).length) (by omega) (i2 y hy).2.1 (i2 y hy).2.2.1 rfl), fun y hy => ?_⟩
        have hp := insG_perm (fun y : Ele × ItD => oE y.1) (ordD its k) ((x.b, (k : Int), ((ordD its k).length : Int)), x)
        rw [hp.length_eq, List.length_cons]
        rcases List.mem_cons.1 (hp.mem_iff.1 hy) with rfl | hy
        · exact ⟨rfl, by show (0 : Int) ≤ ((ordD its k).length : Int); omega, by show ((ordD its k).length : Int) < _; omega, List.mem_of_getElem? hx, hc⟩
        · obtain ⟨a1, a2, a3, a4, a5⟩ := i2 y hy
          exact ⟨a1, a2, by omega, a4, a5⟩
      · exact ⟨i1, i2⟩

def ordL (its : List ItD) (k : Nat) : List ItD := (ordD its k).map Prod.snd

theorem ordL_len (its : List ItD) (k : Nat) : (ordL its k).length ≤ k := by unfold ordL; rw [List.length_map]; exact ordD_len its k

/-- Where the bubble stops. -/
theorem ordD_at {its : List ItD} {k i : Nat} {x : ItD} (hx : its[k]? = some x) (hk : k ≤ 1000000) (hc : comes x = true) (hi : i ≤ (ordD its k).length)
    (hhi : ∀ j (hj : j < (ordL its k).length), i ≤ j → keyF x.b < keyF (ordL its k)[j].b) (hlo : ∀ (h0 : 0 < i) (hm : i - 1 < (ordL its k).length), keyF (ordL its k)[i - 1].b ≤ keyF x.b) :
    ordL its (k + 1) = insA (ordL its k) x i := by
  obtain ⟨hs, hok⟩ := ordD_ok its k hk
  unfold ordL at hhi hlo ⊢
  have hlen := ordD_len its k
  rw [ordD_succ hx]
  unfold ordDStep
  rw [if_pos hc, insG_at _ _ _ i, insA_map]
  · intro j hj hji
    have h0 := hlo (by omega) (by rw [List.length_map]; omega)
    rw [List.getElem_map] at h0
    have hj1 : i - 1 < (ordD its k).length := by omega
    obtain ⟨a1, a2, a3, _⟩ := hok _ (List.getElem_mem hj)
    obtain ⟨b1, b2, b3, _⟩ := hok _ (List.getElem_mem hj1)
    have hle : oE (ordD its k)[j].1 ≤ oE (ordD its k)[i - 1].1 := by
      by_cases e : j = i - 1
      · subst e; exact Nat.le_refl _
      · exact Nat.le_of_lt (List.pairwise_iff_getElem.1 hs j (i - 1) hj hj1 (by omega))
    rw [← b1] at h0
    show oE (ordD its k)[j].1 < oE (x.b, (k : Int), ((ordD its k).length : Int))
    unfold oE at hle ⊢
    dsimp only at hle ⊢
    omega
  · intro j hj hij
    have h0 := hhi j (by rw [List.length_map]; exact hj) hij
    rw [List.getElem_map] at h0
    obtain ⟨a1, a2, a3, _⟩ := hok _ (List.getElem_mem hj)
    rw [← a1] at h0
    show ¬ oE (ordD its k)[j].1 < oE (x.b, (k : Int), ((ordD its k).length : Int))
    unfold oE
    dsimp only
    omega

theorem four_new (w : World) (t : TypeId) (x : ItD) : ∀ j u, (cellI x)[j]? = some u → (w.alloc (.cells #[.float .f64 x.b, .int .i64 x.kind, .int .i64 x.n, .slice x.ao x.m x.cap] t)).cell? ((⟨w.heap.size, 0, none⟩ : Addr).add j) = some u := by
  intro j u hu
  rw [Addr.add_lit, Nat.zero_add, cell_of_heap (alloc_heap w _)]
  unfold cellI at hu
  simpa using hu

theorem cellI_one (x : ItD) : ∀ u ∈ cellI x, u.oneCell' = true := by
  intro u hu
  unfold cellI at hu
  simp only [List.mem_cons, List.not_mem_nil, or_false] at hu
  rcases hu with rfl | rfl | rfl | rfl <;> rfl

/-- One more item behind the others. -/
def AppI (w : World) (bM bP : Nat) (o : Obj) (L : List ItD) (p : PlanD) (n : Nat) (W : World) : Prop :=
  ∃ g off cap, OwnRf w W bM (.slice (some ⟨g, off, none⟩) n cap) L p 0 0 0 ∧ W.heap[bP]? = some o ∧ g ≠ bP

theorem appI_end {w wr W8 w10 : World} {bM bP : Nat} {u v10 : Value} {L : List ItD} {x : ItD} {p : PlanD} {o : Obj} (H : OwnRf w wr bM u L p 0 0 0) (hP : wr.heap[bP]? = some o) (hu : u.ownBlock ≠ some bP) (hne : bP ≠ bM) (K : Chg [] wr W8)
    (R : HasRow w10 55 4 v10 (L.length + 1) (cellsI L ++ cellI x)) (C : Chg u.ownBlock.toList W8 w10) (B : ∀ j, v10.ownBlock = some j → u.ownBlock = some j ∨ W8.heap.size ≤ j) (hx : BRow w x.ao x.m x.cap x.zs ∧ Wd x.b) :
    AppI w bM bP o (L ++ [x]) p (L.length + 1) (w10.setCell ⟨bM, 7, none⟩ v10) := by
  obtain ⟨g, off, cap, rfl, _, _⟩ := R.cells (by omega)
  have s1 := H.c0.size
  have s2 := K.size
  have hb := heap_lt H.hM
  have hb2 := heap_lt hP
  have nM : bM ∉ u.ownBlock.toList := fun hm => H.ne (by simpa [Option.mem_toList] using hm)
  have nP : bP ∉ u.ownBlock.toList := fun hm => hu (by simpa [Option.mem_toList] using hm)
  have gM : g ≠ bM := fun e => by
    rcases B g rfl with h | h
    · exact H.ne (by rw [h, e])
    · omega
  have gP : g ≠ bP := fun e => by
    rcases B g rfl with h | h
    · exact hu (by rw [h, e])
    · omega
  have hM10 := C.heap (K.heap H.hM (by simp)) nM
  have kS : Chg [bM] w10 (w10.setCell ⟨bM, 7, none⟩ (.slice (some ⟨g, off, none⟩) (L.length + 1) cap)) := (Chg.refl [bM] w10).setCell (p := ⟨bM, 7, none⟩) (Or.inl List.mem_cons_self) _
  have e9 : cellsI (L ++ [x]) = cellsI L ++ cellI x := by rw [cellsI_append]; rfl
  have e8 : (L ++ [x]).length = L.length + 1 := by simp
  refine ⟨g, off, cap, ⟨by rw [setCell_heap _ hM10]; rfl, by rw [e9, e8]; exact R.chg kS (fun j hj hm => gM (by injection hj with hj; have := List.mem_singleton.1 hm; subst hj; exact this)), fun e => gM (by injection e), ?_, H.pl, fun y hy => ?_, H.b1, fun j hj => ?_⟩, ?_, gP⟩
  · exact ((H.c0.trans K (U := []) (by simp) (by simp)).trans C (U := []) (by simp) (fun y hy hl => by have := H.b2 y (by simpa [Option.mem_toList] using hy); omega)).trans kS (by simp) (fun y hy hl => by have := H.b1; rw [List.mem_singleton.1 hy] at hl; omega)
  · rcases List.mem_append.1 hy with hy | hy
    · exact H.dat y hy
    · rw [List.mem_singleton.1 hy]; exact hx
  · injection hj with hj
    have hj' : g = j := hj
    rw [← hj']
    rcases B g rfl with h | h
    · exact H.b2 g h
    · omega
  · exact kS.heap (C.heap (K.heap hP (by simp)) nP) (fun hm => hne (List.mem_singleton.1 hm))

theorem insA_mem {α : Type} {M : List α} {x y : α} {i : Nat} (h : y ∈ insA M x i) : y ∈ M ++ [x] := by
  unfold insA at h
  rcases List.mem_append.1 h with h | h
  · exact List.mem_append.2 (.inl (List.mem_of_mem_take h))
  · rcases List.mem_cons.1 h with rfl | h
    · simp
    · exact List.mem_append.2 (.inl (List.mem_of_mem_drop h))

/-- The round's state behind the bubble. -/
theorem bubble_end {w wc wr W : World} {bM bP g goff gcap k i : Nat} {its : List ItD} {x : ItD} {p : PlanD} {o : Obj} (HA : OwnRf w wc bM (.slice (some ⟨g, goff, none⟩) ((ordL its k).length + 1) gcap) (ordL its k ++ [x]) p 0 0 0) (hPA : wc.heap[bP]? = some o) (hgP : g ≠ bP)
    (hr : HasRow wr 55 4 (.slice (some ⟨g, goff, none⟩) ((ordL its k).length + 1) gcap) ((ordL its k).length + 1) (cellsI (insA (ordL its k) x i))) (hc : Chg [g] wc wr) (cW : Chg [] wr W) (hi : i ≤ (ordL its k).length) (heq : ordL its (k + 1) = insA (ordL its k) x i) :
    W.heap[bP]? = some o ∧ ∃ u, OwnRf w W bM u (ordL its (k + 1)) p 0 0 0 ∧ u.ownBlock ≠ some bP := by
  have gM : g ≠ bM := fun e => HA.ne (by rw [e]; rfl)
  have hg0 : w.heap.size ≤ g := HA.b2 g rfl
  have hl := insA_length (ordL its k) x i hi
  refine ⟨cW.heap (hc.heap hPA (fun hm => hgP (List.mem_singleton.1 hm).symm)) (by simp), _, ⟨?_, ?_, HA.ne, ?_, HA.pl, fun y hy => HA.dat y (insA_mem (i := i) (by rw [← heq]; exact hy)), HA.b1, HA.b2⟩, fun e => hgP (by injection e)⟩
  · exact cW.heap (hc.heap HA.hM (fun hm => gM (List.mem_singleton.1 hm).symm)) (by simp)
  · rw [heq, hl]; exact hr.chg cW (by simp)
  · exact (HA.c0.trans hc (U := []) (by simp) (fun y hy hl => by rw [List.mem_singleton.1 hy] at hl; omega)).trans cW (U := []) (by simp) (by simp)

theorem row_freeI {w : World} {t : TypeId} {size g off cap n : Nat} {xs : List Value} (h : HasRow w t size (.slice (some ⟨g, off, none⟩) n cap) n xs) : ∀ j, w.frozen? ⟨g, j, none⟩ = false := by
  rcases h.2 with ⟨e, _⟩ | ⟨g', off', cap', cur, e, hg, _⟩
  · cases e
  · injection e with e1
    injection e1 with e1
    injection e1 with e1 _ _
    subst e1
    exact fun j => free_of_heap hg j

theorem insA_cells (M : List ItD) (x : ItD) (i : Nat) (hi : i ≤ M.length) : (cellsI (insA M x i))[i * 4]? = some (.float .f64 x.b) ∧ (cellsI (insA M x i))[i * 4 + 1]? = some (.int .i64 x.kind) ∧ (cellsI (insA M x i))[i * 4 + 2]? = some (.int .i64 x.n) ∧ (cellsI (insA M x i))[i * 4 + 3]? = some (.slice x.ao x.m x.cap) := by
  have hl := insA_length M x i hi
  have b := cellsI_get (insA M x i) i (by omega)
  have e := (List.getElem?_eq_getElem (show i < (insA M x i).length by omega)).symm
  rw [insA_get M x i hi, if_neg (by omega), if_pos rfl] at e
  injection e with e
  rw [e] at b
  exact b

theorem insA_cells_lt (M : List ItD) (x : ItD) (i j : Nat) (hi : i ≤ M.length) (hj : j < i) (y : ItD) (hy : M[j]'(by omega) = y) : (cellsI (insA M x i))[j * 4]? = some (.float .f64 y.b) ∧ (cellsI (insA M x i))[j * 4 + 1]? = some (.int .i64 y.kind) ∧ (cellsI (insA M x i))[j * 4 + 2]? = some (.int .i64 y.n) ∧ (cellsI (insA M x i))[j * 4 + 3]? = some (.slice y.ao y.m y.cap) := by
  have hl := insA_length M x i hi
  have b := cellsI_get (insA M x i) j (by omega)
  have e := (List.getElem?_eq_getElem (show j < (insA M x i).length by omega)).symm
  rw [insA_get M x i hi, if_pos hj, List.getElem?_eq_getElem (show j < M.length by omega), hy] at e
  injection e with e
  rw [e] at b
  exact b

def RNewPost (p : PlanD) (w : World) (e : Ending) (w' : World) : Prop :=
  ∃ bM u, e = .returned (.pointer (some ⟨bM, 0, none⟩)) ∧ OwnRf w w' bM u (ordL p.its p.il) p 0 0 0

set_option maxHeartbeats 16000000 in
theorem rNew_any (p : PlanD) (w : World) (h : p.At w) (hil : p.il ≤ 4096) :
    Calls Try.prog 44 #[.agg p.cells] w (RNewPost p w) := by
  obtain ⟨j0, hj, hy0, hy1, hy2⟩ := info_parts infoItem
  have HP := Lib.hid h
  have hw0 : HasRow w 55 4 (.slice none 0 0) 0 (cellsI []) := HasRow.nil _ _ _
  have hcs : p.cells = #[.int .u32 p.fl, .int .u8 p.mn, .int .u8 p.tm, .slice p.ia p.il p.ic, .slice p.wa p.wl p.wc, .slice p.ga p.gl p.gc, .slice p.sa p.sl p.sc] := rfl
  rw [hcs]
  clear h hcs
  go_enter Try.func44, Try.ntmps44
  go_wp2_with fail
  have CM : Chg [] w ((w.alloc (.cells #[.int .u32 p.fl, .int .u8 p.mn, .int .u8 p.tm, .slice p.ia p.il p.ic, .slice p.wa p.wl p.wc, .slice p.ga p.gl p.gc, .slice p.sa p.sl p.sc] 28)).alloc (.cells (rfCells p (.slice none 0 0) 0 0 0) 126)) := ((Chg.refl _ _).alloc _).alloc _
  have hM0 : ((w.alloc (.cells #[.int .u32 p.fl, .int .u8 p.mn, .int .u8 p.tm, .slice p.ia p.il p.ic, .slice p.wa p.wl p.wc, .slice p.ga p.gl p.gc, .slice p.sa p.sl p.sc] 28)).alloc (.cells (rfCells p (.slice none 0 0) 0 0 0) 126)).heap[w.heap.size + 1]? = some (.cells (rfCells p (.slice none 0 0) 0 0 0) 126 (0, 0)) := alloc2_heap w _ _
  have hP0 : ((w.alloc (.cells #[.int .u32 p.fl, .int .u8 p.mn, .int .u8 p.tm, .slice p.ia p.il p.ic, .slice p.wa p.wl p.wc, .slice p.ga p.gl p.gc, .slice p.sa p.sl p.sc] 28)).alloc (.cells (rfCells p (.slice none 0 0) 0 0 0) 126)).heap[w.heap.size]? = some (.cells p.cells 28 (0, 0)) := alloc_keeps (alloc_heap w _)
  have O0 : OwnRf w _ (w.heap.size + 1) (.slice none 0 0) (ordL p.its 0) p 0 0 0 := ⟨hM0, HasRow.nil _ _ _, by simp [Value.ownBlock], CM, HP.out, fun y hy => (by cases hy), by omega, fun k hk => (by simp [Value.ownBlock] at hk)⟩
  go_loopw [4] (fun iv wr => ∃ k : Nat, k ≤ p.il ∧ iv = .int .i64 k ∧ wr.heap[w.heap.size]? = some (.cells p.cells 28 (0, 0)) ∧ ∃ u, OwnRf w wr (w.heap.size + 1) u (ordL p.its k) p 0 0 0 ∧ u.ownBlock ≠ some w.heap.size) (fun iv _ => p.il - (intOf iv).toNat)
  case atStart => exact ⟨0, by omega, rfl, hP0, _, O0, by simp [Value.ownBlock]⟩
  case round =>
    obtain ⟨k, hk, rfl, hP, u, hO, hu⟩ := hrel
    obtain ⟨ua, uc, rfl, _, _, _⟩ := hO.row.slice
    have q1 : wr.cell? ⟨w.heap.size, 3, none⟩ = some (.slice p.ia p.il p.ic) := by rw [cell_of_heap hP]; rfl
    by_cases hlt : k < p.il
    · obtain ⟨bl, off, x, hia, hx, hat⟩ := HP.out.its.get hlt
      have HRW := Lib.hid (And.intro hat.2.2.2.2.1 hat.2.2.2.2.2)
      obtain ⟨x0, x1, x2, x3, hr, hwd⟩ := hat.chg hO.c0
      rw [hia] at q1
      have HIA := Lib.hid hia
      clear hia
      have HO := Lib.hid hO
      have HX := Lib.hid hx
      have HR := Lib.hid hr
      have hmx : x.m ≤ maxLen := by have := hr.le; omega
      unfold maxLen at hmx
      by_cases hcm : comes x = true
      · have hkk : x.kind ≠ 0 ∨ (x.kind = 0 ∧ x.m ≠ 0) := by
          unfold comes at hcm
          simp at hcm
          omega
        have HCM := Lib.hid hcm
        have HKK := Lib.hid hkk
        have HQ1 := Lib.hid q1
        have HX1 := Lib.hid x1
        clear hO hr hx hcm hkk
        go_upto_region 5 with (fail)
        go_cut [33] (fun v wx => v = .bool false ∧ wr = wx)
        case first =>
          rcases HKK.out with h | ⟨h1, h2⟩
          · generalize x.kind = kd at *
            have h' : (kd == 0) = false := by rw [beq_eq_false_iff_ne]; exact h
            go_wp2_with fail
            go_meet
            exact ⟨rfl, rfl⟩
          · rw [h1] at x1
            have h2' : ((x.m : Int) == 0) = false := by rw [beq_eq_false_iff_ne]; omega
            go_wp2_with fail
            go_meet
            exact ⟨rfl, rfl⟩
        case rest =>
        obtain ⟨rfl, rfl⟩ := hcut
        have c7 := HO.out.cells.2.2.2.1
        have hfr := free_of_heap HO.out.hM 7
        have HFR := Lib.hid (And.intro c7 hfr)
        go_upto_region 6 with (fail)
        go_cut [] (fun wx => AppI w (w.heap.size + 1) w.heap.size (.cells p.cells 28 (0, 0)) (ordL p.its k ++ [x]) p ((ordL p.its k).length + 1) wx)
        case first =>
          have HROW := Lib.hid (show ∀ W, Chg [] wr W → HasRow W 55 4 (Value.slice ua (ordL p.its k).length uc) (ordL p.its k).length (cellsI (ordL p.its k)) from fun W c => HO.out.row.chg c (by simp))
          have HWB := Lib.hid (show ∀ W W', Chg [] wr W → Chg (Value.slice ua (ordL p.its k).length uc).ownBlock.toList W W' → W'.cell? ⟨w.heap.size + 1, 7, none⟩ = some (Value.slice ua (ordL p.its k).length uc) ∧ W'.frozen? ⟨w.heap.size + 1, 7, none⟩ = false from fun W W' c c' => by
            have h1 := c'.heap (c.heap HO.out.hM (by simp)) (fun hm => HO.out.ne (by simpa [Option.mem_toList] using hm))
            exact ⟨by rw [cell_of_heap h1]; rfl, free_of_heap h1 7⟩)
          have hln := ordL_len p.its k
          have k8 : Chg [] wr (wr.alloc (.cells #[.float .f64 x.b, .int .i64 x.kind, .int .i64 x.n, .slice x.ao x.m x.cap] 55)) := (Chg.refl _ _).alloc _
          have b7 := k8.cell c7 (by simp)
          have b3 := k8.cell q1 (by simp)
          clear k8
          go_region_law
            (refine step_append_off rfl _ _ 25 (by rfl) 55 j0 (.agg #[.float .f64 0, .int .i64 0, .int .i64 0, .slice none 0 0]) 4 48 Try.underlying25 hj hy0 hy1 hy2 rfl (by decide) (Value.slice ua (ordL p.its k).length uc) (ordL p.its k).length (cellsI (ordL p.its k)) (by rfl) (HROW.out _ (by first | exact ((Chg.refl _ _).drew).alloc _ | exact (Chg.refl _ _).alloc _)) ⟨wr.heap.size, 0, none⟩ 1 1 (cellI x) (by rfl) rfl (four_new _ _ _) (cellI_one _) (by unfold maxLen; omega) (by omega) ?_; intro v10 w10 R10 C10 B10; obtain ⟨g10, off10, cap10, rfl, _, _⟩ := R10.cells (by omega); obtain ⟨r0, r1⟩ := HWB.out _ _ (by first | exact ((Chg.refl _ _).drew).alloc _ | exact (Chg.refl _ _).alloc _) C10; have HC10 := Lib.hid (And.intro R10 (And.intro C10 B10)); clear R10 C10 B10)
          all_goals (
            go_wp2_with fail
            go_meet
            exact appI_end HO.out hP hu (by omega) (by first | exact ((Chg.refl _ _).drew).alloc _ | exact (Chg.refl _ _).alloc _) HC10.out.1 HC10.out.2.1 HC10.out.2.2 HRW.out)
        case rest =>
          obtain ⟨g, goff, gcap, HA, hPA, hgP⟩ := hcut
          have hln := ordL_len p.its k
          have hdat : ∀ y ∈ ordL p.its k, Wd y.b := fun y hy => (HO.out.dat y hy).2
          have HBE := Lib.hid (fun (i : Nat) (wr2 W : World) (hi : i ≤ (ordL p.its k).length) (hr : HasRow wr2 55 4 (.slice (some ⟨g, goff, none⟩) ((ordL p.its k).length + 1) gcap) ((ordL p.its k).length + 1) (cellsI (insA (ordL p.its k) x i))) (hc : Chg [g] wc wr2) (cW : Chg [] wr2 W) (hhi : ∀ j (hj : j < (ordL p.its k).length), i ≤ j → keyF x.b < keyF (ordL p.its k)[j].b) (hlo : ∀ (h0 : 0 < i) (hm : i - 1 < (ordL p.its k).length), keyF (ordL p.its k)[i - 1].b ≤ keyF x.b) =>
            bubble_end HA hPA hgP hr hc cW hi (ordD_at HX.out (by omega) HCM.out (by have h1 : (ordL p.its k).length = (ordD p.its k).length := (by unfold ordL; simp); omega) hhi hlo))
          have R2 := HA.row
          rw [show (ordL p.its k ++ [x]).length = (ordL p.its k).length + 1 by simp, ← insA_end] at R2
          have gM : g ≠ w.heap.size + 1 := fun e => HA.ne (by rw [e]; rfl)
          have HR2 := Lib.hid R2
          have HM2 := Lib.hid HA.hM
          have HDA := Lib.hid hdat
          have HXW := Lib.hid HRW.out.2
          have hc7 : wc.cell? ⟨w.heap.size + 1, 7, none⟩ = some (.slice (some ⟨g, goff, none⟩) ((ordL p.its k).length + 1) gcap) := by rw [cell_of_heap HM2.out]; rfl
          clear R2 HA hPA hdat x0 x1 x2 x3 c7 hfr q1
          go_wp2_with fail
          generalize ordL p.its k = M at *
          go_loopw [5] (fun iv wq => ∃ i : Nat, i ≤ M.length ∧ iv = .int .i64 i ∧ HasRow wq 55 4 (.slice (some ⟨g, goff, none⟩) (M.length + 1) gcap) (M.length + 1) (cellsI (insA M x i)) ∧ Chg [g] wc wq ∧ ∀ j (hj : j < M.length), i ≤ j → keyF x.b < keyF M[j].b) (fun iv _ => (intOf iv).toNat)
          case atStart => exact ⟨M.length, Nat.le_refl _, rfl, HR2.out, Chg.refl _ _, fun j hj h => by omega⟩
          case round =>
            obtain ⟨i, hil2, rfl, hr, hc, hhi⟩ := hrel
            have hM := hc.heap HM2.out (fun hm => gM (List.mem_singleton.1 hm).symm)
            have h0 : wr.cell? ⟨w.heap.size + 1, 7, none⟩ = some (.slice (some ⟨g, goff, none⟩) (M.length + 1) gcap) := by rw [cell_of_heap hM]; rfl
            have HHI := Lib.hid hhi
            have HRR := Lib.hid hr
            have HCC := Lib.hid hc
            clear hhi hr hM hc
            cases i with
            | zero =>
              go_wp2_with fail
              go_quiet (fail)
              go_wp2_with fail
              go_roundw
              case rel =>
                obtain ⟨e1, u2, e2, e3⟩ := HBE.out 0 wr _ hil2 HRR.out HCC.out ((Chg.refl _ _).drewN _) HHI.out (fun h => absurd h (by omega))
                exact ⟨k + 1, by omega, by go_num, e1, u2, e2, e3⟩
              case measure => simp [intOf]; omega
            | succ j =>
              have hjM : j < M.length := by omega
              obtain ⟨y, hy⟩ : ∃ y, M[j] = y := ⟨_, rfl⟩
              obtain ⟨g', off', cap', e, hcs, hfr⟩ := HRR.out.cells (by omega)
              injection e with e1 e2 e3
              injection e1 with e1
              injection e1 with e1 e4 _
              subst e1 e3 e4
              obtain ⟨p0, p1, p2, p3⟩ := insA_cells M x (j + 1) hil2
              obtain ⟨r0, r1, r2, r3⟩ := insA_cells_lt M x (j + 1) j hil2 (by omega) y hy
              have x0 := hcs _ _ p0
              have x1 := hcs _ _ p1
              have x2 := hcs _ _ p2
              have x3 := hcs _ _ p3
              have y0 := hcs _ _ r0
              have y1 := hcs _ _ r1
              have y2 := hcs _ _ r2
              have y3 := hcs _ _ r3
              rw [← Nat.add_assoc] at x1 x2 x3 y1 y2 y3
              have hyW : Wd y.b := HDA.out y (by rw [← hy]; exact List.getElem_mem hjM)
              have hxW := HXW.out
              have HY := Lib.hid hy
              have HJ := Lib.hid hjM
              have hj1 : (j : Int) + 1 < (M.length : Int) + 1 := by omega
              have hj2 : (j : Int) < (M.length : Int) + 1 := by omega
              clear p0 p1 p2 p3 r0 r1 r2 r3 hcs hy e2
              by_cases hlt2 : keyF x.b < keyF y.b
              · have hcmp : cmpF x.b y.b = -1 := by unfold cmpF cmpN; rw [if_pos hlt2]
                have HLT := Lib.hid hlt2
                clear hlt2
                go_wp2_with fail
                go_quiet ((go_at_call 64; exact quiet_same (refcompare_any _ _ _ hxW hyW)))
                generalize hwq : wr.drewN _ = wq
                have cq : Chg [] wr wq := by rw [← hwq]; exact (Chg.refl _ _).drewN _
                have k3 : Chg [] wq (wq.alloc (.cells #[.float .f64 x.b, .int .i64 x.kind, .int .i64 x.n, .slice x.ao x.m x.cap] 55)) := (Chg.refl _ _).alloc _
                have hfq : ∀ j, wq.frozen? ⟨g, j, none⟩ = false := fun j => by rw [← hwq]; exact hfr j
                have h0 := cq.cell h0 (by simp)
                have x0 := cq.cell x0 (by simp)
                have x1 := cq.cell x1 (by simp)
                have x2 := cq.cell x2 (by simp)
                have x3 := cq.cell x3 (by simp)
                have h3 := k3.cell h0 (by simp)
                have y0 := k3.cell (cq.cell y0 (by simp)) (by simp)
                have y1 := k3.cell (cq.cell y1 (by simp)) (by simp)
                have y2 := k3.cell (cq.cell y2 (by simp)) (by simp)
                have y3 := k3.cell (cq.cell y3 (by simp)) (by simp)
                have z0 := k3.cell x0 (by simp)
                have z1 := k3.cell x1 (by simp)
                have z2 := k3.cell x2 (by simp)
                have z3 := k3.cell x3 (by simp)
                have hR3 := (HRR.out.chg cq (by simp)).chg k3 (by simp)
                clear hwq hfr
                go_wp2_with fail
                have hf3 := row_freeI hR3
                have hq8 := alloc_heap wq (.cells #[.float .f64 x.b, .int .i64 x.kind, .int .i64 x.n, .slice x.ao x.m x.cap] 55)
                have t0 : (wq.alloc (.cells #[.float .f64 x.b, .int .i64 x.kind, .int .i64 x.n, .slice x.ao x.m x.cap] 55)).cell? ⟨wq.heap.size, 0, none⟩ = some (.float .f64 x.b) := by rw [cell_of_heap hq8]; rfl
                have t1 : (wq.alloc (.cells #[.float .f64 x.b, .int .i64 x.kind, .int .i64 x.n, .slice x.ao x.m x.cap] 55)).cell? ⟨wq.heap.size, 1, none⟩ = some (.int .i64 x.kind) := by rw [cell_of_heap hq8]; rfl
                have t2 : (wq.alloc (.cells #[.float .f64 x.b, .int .i64 x.kind, .int .i64 x.n, .slice x.ao x.m x.cap] 55)).cell? ⟨wq.heap.size, 2, none⟩ = some (.int .i64 x.n) := by rw [cell_of_heap hq8]; rfl
                have t3 : (wq.alloc (.cells #[.float .f64 x.b, .int .i64 x.kind, .int .i64 x.n, .slice x.ao x.m x.cap] 55)).cell? ⟨wq.heap.size, 3, none⟩ = some (.slice x.ao x.m x.cap) := by rw [cell_of_heap hq8]; rfl
                have hg8 : g < wq.heap.size := (HRR.out.chg cq (by simp)).lt g rfl
                have hn1 : ¬ wq.heap.size = g := by omega
                have hn2 : ¬ g = wq.heap.size := by omega
                have hn3 : ¬ w.heap.size + 1 = g := fun e => gM e.symm
                have HK3 := Lib.hid k3
                have HQ3 := Lib.hid cq
                clear hq8 hfq k3 cq
                generalize wq.heap.size = b8 at *
                generalize wq.alloc (.cells #[.float .f64 x.b, .int .i64 x.kind, .int .i64 x.n, .slice x.ao x.m x.cap] 55) = w3 at *
                have hR3' := Lib.hid hR3
                have d1 : ¬ goff + (j + 1) * 4 = goff + j * 4 := by omega
                have d2 : ¬ goff + (j + 1) * 4 + 1 = goff + j * 4 := by omega
                have d3 : ¬ goff + (j + 1) * 4 + 2 = goff + j * 4 := by omega
                have d4 : ¬ goff + (j + 1) * 4 + 3 = goff + j * 4 := by omega
                have d5 : ¬ goff + (j + 1) * 4 = goff + j * 4 + 1 := by omega
                have d6 : ¬ goff + (j + 1) * 4 + 1 = goff + j * 4 + 1 := by omega
                have d7 : ¬ goff + (j + 1) * 4 + 2 = goff + j * 4 + 1 := by omega
                have d8 : ¬ goff + (j + 1) * 4 + 3 = goff + j * 4 + 1 := by omega
                have d9 : ¬ goff + (j + 1) * 4 = goff + j * 4 + 2 := by omega
                have d10 : ¬ goff + (j + 1) * 4 + 1 = goff + j * 4 + 2 := by omega
                have d11 : ¬ goff + (j + 1) * 4 + 2 = goff + j * 4 + 2 := by omega
                have d12 : ¬ goff + (j + 1) * 4 + 3 = goff + j * 4 + 2 := by omega
                have d13 : ¬ goff + (j + 1) * 4 = goff + j * 4 + 3 := by omega
                have d14 : ¬ goff + (j + 1) * 4 + 1 = goff + j * 4 + 3 := by omega
                have d15 : ¬ goff + (j + 1) * 4 + 2 = goff + j * 4 + 3 := by omega
                have d16 : ¬ goff + (j + 1) * 4 + 3 = goff + j * 4 + 3 := by omega
                clear hR3 h0 x0 x1 x2 x3
                go_region
                all_goals go_wp2_with fail
                all_goals go_region
                all_goals go_wp2_with fail
                obtain ⟨cW, rW⟩ := step_rowI (x := x) hR3'.out HJ.out rfl HY.out rfl rfl
                go_roundw
                case rel =>
                  refine ⟨j, by omega, rfl, rW, ((HCC.out.trans HQ3.out (fun y hy => hy) (by simp)).trans HK3.out (fun y hy => hy) (by simp)).trans cW (fun y hy => hy) (fun y hy _ => hy), fun k hk h => ?_⟩
                  by_cases e : k = j
                  · subst e; rw [HY.out]; exact HLT.out
                  · exact HHI.out k hk (by omega)
                case measure => simp [intOf]
              · have hcmp : decide (cmpF x.b y.b < (0 : Int)) = false := by
                  unfold cmpF cmpN
                  rw [if_neg hlt2]
                  split <;> rfl
                have HLT := Lib.hid hlt2
                clear hlt2
                go_wp2_with fail
                go_quiet ((go_at_call 64; exact quiet_same (refcompare_any _ _ _ hxW hyW)))
                go_wp2_with fail
                go_roundw
                case rel =>
                  obtain ⟨e1, u2, e2, e3⟩ := HBE.out (j + 1) wr _ hil2 HRR.out HCC.out ((Chg.refl _ _).drewN _) HHI.out (fun _ hm => by simp only [Nat.add_sub_cancel] at hm ⊢; rw [HY.out]; have := HLT.out; omega)
                  exact ⟨k + 1, by omega, by go_num, e1, u2, e2, e3⟩
                case measure => simp [intOf]; omega
      · have hL : Hid (ordL p.its (k + 1) = ordL p.its k) := Lib.hid (by unfold ordL; rw [ordD_succ hx]; unfold ordDStep; rw [if_neg hcm])
        have hk0 : x.kind = 0 ∧ x.m = 0 := by unfold comes at hcm; simpa using hcm
        obtain ⟨hk1, hk2⟩ := hk0
        rw [hk1] at x1
        rw [hk2] at x3
        clear hO hr hx hcm
        go_wp2_with fail
        go_roundw
        case rel => exact ⟨k + 1, by omega, by go_num, hP, _, by rw [hL.out]; exact HO.out, hu⟩
        case measure => simp [intOf]; omega
    · obtain rfl : k = p.il := by omega
      have HO := Lib.hid hO
      clear hO
      go_wp2_with fail
      go_ret
      exact ⟨_, _, rfl, HO.out⟩
end Go.Proofs.Ytmcbgpjphjacjaa
