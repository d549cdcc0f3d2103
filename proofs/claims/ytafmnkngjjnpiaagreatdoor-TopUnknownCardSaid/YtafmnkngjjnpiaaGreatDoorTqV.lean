import Derived.Test.YtafmnkngjjnpiaaGreatDoorTqT
import Derived.Test.YtafmnkngjjnpiaaGreatDoorRegZ
import Derived.Test.YtafmnkngjjnpiaaGreatDoorTpO
import Derived.BigRegion
namespace Go.Proofs.YtafmnkngjjnpiaaGreatDoor
set_option linter.unusedVariables false
set_option linter.unusedSimpArgs false
set_option maxRecDepth 100000
open Go.RowKit
attribute [local go_sem] run_store_float'
theorem told_set {w : World} {b : Nat} (u0 u1 u2 u3 u4 u5 u6 u7 v0 v1 v2 v3 v4 v5 v6 v7 : Value) (h : w.heap[b]? = some (.cells #[u0, u1, u2, u3, u4, u5, u6, u7] 82 (0, 0))) :
    ((((((((w.setCell ⟨b, 0, none⟩ v0).setCell ⟨b, 1, none⟩ v1).setCell ⟨b, 2, none⟩ v2).setCell ⟨b, 3, none⟩ v3).setCell ⟨b, 4, none⟩ v4).setCell ⟨b, 5, none⟩ v5).setCell ⟨b, 6, none⟩ v6).setCell ⟨b, 7, none⟩ v7).heap[b]? = some (.cells #[v0, v1, v2, v3, v4, v5, v6, v7] 82 (0, 0)) ∧ Chg [b] w ((((((((w.setCell ⟨b, 0, none⟩ v0).setCell ⟨b, 1, none⟩ v1).setCell ⟨b, 2, none⟩ v2).setCell ⟨b, 3, none⟩ v3).setCell ⟨b, 4, none⟩ v4).setCell ⟨b, 5, none⟩ v5).setCell ⟨b, 6, none⟩ v6).setCell ⟨b, 7, none⟩ v7) := by
  have e0 : (w.setCell ⟨b, 0, none⟩ v0).heap[b]? = some (.cells #[v0, u1, u2, u3, u4, u5, u6, u7] 82 (0, 0)) := by rw [setCell_heap _ h]; rfl
  have e1 : ((w.setCell ⟨b, 0, none⟩ v0).setCell ⟨b, 1, none⟩ v1).heap[b]? = some (.cells #[v0, v1, u2, u3, u4, u5, u6, u7] 82 (0, 0)) := by rw [setCell_heap _ e0]; rfl
  have e2 : (((w.setCell ⟨b, 0, none⟩ v0).setCell ⟨b, 1, none⟩ v1).setCell ⟨b, 2, none⟩ v2).heap[b]? = some (.cells #[v0, v1, v2, u3, u4, u5, u6, u7] 82 (0, 0)) := by rw [setCell_heap _ e1]; rfl
  have e3 : ((((w.setCell ⟨b, 0, none⟩ v0).setCell ⟨b, 1, none⟩ v1).setCell ⟨b, 2, none⟩ v2).setCell ⟨b, 3, none⟩ v3).heap[b]? = some (.cells #[v0, v1, v2, v3, u4, u5, u6, u7] 82 (0, 0)) := by rw [setCell_heap _ e2]; rfl
  have e4 : (((((w.setCell ⟨b, 0, none⟩ v0).setCell ⟨b, 1, none⟩ v1).setCell ⟨b, 2, none⟩ v2).setCell ⟨b, 3, none⟩ v3).setCell ⟨b, 4, none⟩ v4).heap[b]? = some (.cells #[v0, v1, v2, v3, v4, u5, u6, u7] 82 (0, 0)) := by rw [setCell_heap _ e3]; rfl
  have e5 : ((((((w.setCell ⟨b, 0, none⟩ v0).setCell ⟨b, 1, none⟩ v1).setCell ⟨b, 2, none⟩ v2).setCell ⟨b, 3, none⟩ v3).setCell ⟨b, 4, none⟩ v4).setCell ⟨b, 5, none⟩ v5).heap[b]? = some (.cells #[v0, v1, v2, v3, v4, v5, u6, u7] 82 (0, 0)) := by rw [setCell_heap _ e4]; rfl
  have e6 : (((((((w.setCell ⟨b, 0, none⟩ v0).setCell ⟨b, 1, none⟩ v1).setCell ⟨b, 2, none⟩ v2).setCell ⟨b, 3, none⟩ v3).setCell ⟨b, 4, none⟩ v4).setCell ⟨b, 5, none⟩ v5).setCell ⟨b, 6, none⟩ v6).heap[b]? = some (.cells #[v0, v1, v2, v3, v4, v5, v6, u7] 82 (0, 0)) := by rw [setCell_heap _ e5]; rfl
  have e7 : ((((((((w.setCell ⟨b, 0, none⟩ v0).setCell ⟨b, 1, none⟩ v1).setCell ⟨b, 2, none⟩ v2).setCell ⟨b, 3, none⟩ v3).setCell ⟨b, 4, none⟩ v4).setCell ⟨b, 5, none⟩ v5).setCell ⟨b, 6, none⟩ v6).setCell ⟨b, 7, none⟩ v7).heap[b]? = some (.cells #[v0, v1, v2, v3, v4, v5, v6, v7] 82 (0, 0)) := by rw [setCell_heap _ e6]; rfl
  exact ⟨e7, (((((((((Chg.refl [b] w).setCell (p := ⟨b, 0, none⟩) (Or.inl List.mem_cons_self) _).setCell (p := ⟨b, 1, none⟩) (Or.inl List.mem_cons_self) _).setCell (p := ⟨b, 2, none⟩) (Or.inl List.mem_cons_self) _).setCell (p := ⟨b, 3, none⟩) (Or.inl List.mem_cons_self) _).setCell (p := ⟨b, 4, none⟩) (Or.inl List.mem_cons_self) _).setCell (p := ⟨b, 5, none⟩) (Or.inl List.mem_cons_self) _).setCell (p := ⟨b, 6, none⟩) (Or.inl List.mem_cons_self) _).setCell (p := ⟨b, 7, none⟩) (Or.inl List.mem_cons_self) _)⟩
theorem told_res {tmps : Array Value} {b : Nat} {v0 v1 v2 v3 v4 v5 v6 v7 : Value} {er : Int} {w : World} (hp : tmps.getD 2 undef = .pointer (some ⟨b, 0, none⟩)) (h3 : tmps.getD 3 undef = .int .i64 er) (h : w.heap[b]? = some (.cells #[v0, v1, v2, v3, v4, v5, v6, v7] 82 (0, 0))) :
    (results Tryz.f58 tmps).run Tryz.prog w = .ok (.tuple #[.agg #[v0, v1, v2, v3, v4, v5, v6, v7], .int .i64 er]) w := by
  have hp' : tmps[2]?.getD undef = .pointer (some ⟨b, 0, none⟩) := by simpa using hp
  have h3' : tmps[3]?.getD undef = .int .i64 er := by simpa using h3
  have c0 : w.cell? ⟨b, 0, none⟩ = some v0 := by rw [cell_of_heap h]; rfl
  have c1 : w.cell? ⟨b, 1, none⟩ = some v1 := by rw [cell_of_heap h]; rfl
  have c2 : w.cell? ⟨b, 2, none⟩ = some v2 := by rw [cell_of_heap h]; rfl
  have c3 : w.cell? ⟨b, 3, none⟩ = some v3 := by rw [cell_of_heap h]; rfl
  have c4 : w.cell? ⟨b, 4, none⟩ = some v4 := by rw [cell_of_heap h]; rfl
  have c5 : w.cell? ⟨b, 5, none⟩ = some v5 := by rw [cell_of_heap h]; rfl
  have c6 : w.cell? ⟨b, 6, none⟩ = some v6 := by rw [cell_of_heap h]; rfl
  have c7 : w.cell? ⟨b, 7, none⟩ = some v7 := by rw [cell_of_heap h]; rfl
  simp [results, Tryz.results58, hp', h3', c0, c1, c2, c3, c4, c5, c6, c7, go_sem]
theorem EffAt.on {base : Nat} {w w' : World} {ao : Option Addr} {ce n : Nat} {E E' : List EfD} {k : Nat} {L : List Nat} (h : EffAt base w (.slice ao n ce) E E' k) (c : Chg L w w') (hk : E'.length ≤ k) (hb : ∀ b ∈ L, b < base) : EffAt base w' (.slice ao n ce) E E' k := by
  have hnb : ∀ x, (Value.slice ao n ce).ownBlock = some x → x ∉ L := fun x hx hm => by have := owns_block h.row x hx; have := hb x hm; omega
  refine ⟨eowns_keep h.row c hnb, h.pl, h.old, fun j y hj hy g hg => (h.own j y hj hy g hg).chg c (fun x hx hm => ?_)⟩
  have ho := h.own j y hj hy g hg
  have := owns_block ho.row x (by rw [ho.blk_own]; exact hx)
  have := hb x hm
  omega
theorem ck {w : World} {b x i j : Nat} {u v : Value} (h : w.cell? ⟨x, j, none⟩ = some v) (hne : x ≠ b) : (w.setCell ⟨b, i, none⟩ u).cell? ⟨x, j, none⟩ = some v :=
  ((Chg.refl [b] w).setCell (p := ⟨b, i, none⟩) (Or.inl List.mem_cons_self) u).cell h (by simpa using hne)
theorem wiped_zero (A : List Ar.Ent) : Ar.allZero (Ar.wiped A) = true := by
  unfold Ar.allZero Ar.wiped
  rw [List.all_map, List.all_eq_true]
  intro x _
  rfl
theorem eff_dat {base : Nat} {w : World} {rv : Value} {E E' : List EfD} (h : EffAt base w rv E E' E.length) : ∀ y ∈ E', SrcAt w y.ao y.zs.length y.cap (valsOf .u8 y.zs) ∧ y.zs.length ≤ 1000000 ∧ y.zs.length ≤ y.cap := by
  have hl : E'.length = E.length := by have := congrArg List.length h.pl; simpa using this
  intro y hy
  obtain ⟨j, hj, rfl⟩ := List.mem_iff_getElem.1 hy
  rcases h.row.2 with ⟨_, h0⟩ | ⟨g, cap, cur, rfl, _⟩
  · omega
  · have ho := h.own j _ (by omega) (List.getElem?_eq_getElem hj) g rfl
    refine ⟨ho.src, ho.few, ?_⟩
    rcases ho.row.2 with ⟨e, hl0⟩ | ⟨_, _, _, e, _, _, hc, _⟩
    · omega
    · injection e with _ _ e2
      omega
theorem src_take {w : World} {g n c : Nat} {L : List Value} {t : TypeId} (h : w.heap[g]? = some (.cells L.toArray t (0, 0))) (hn : n ≤ L.length) : SrcAt w (some ⟨g, 0, none⟩) n c (L.take n) := by
  refine ⟨by rw [List.length_take]; omega, fun e => (by cases e), fun ad e j u hu => ?_⟩
  injection e with e
  subst e
  rw [List.getElem?_take] at hu
  split at hu
  · rw [Addr.add_lit, Nat.zero_add, cell_of_heap h, List.getElem?_toArray]
    exact hu
  · cases hu
theorem outG_len {n : Nat} {o : Int} {b : List Int} {cur : List Value} (h : n ≤ cur.length) : n ≤ (outG n o b cur).length := by
  unfold outG
  split
  · rename_i e
    rw [length_splice _ _ _ (by simp; omega)]
    exact h
  · exact h
def ptP (p : PlanD) : Pt := ⟨(ordP p.its p.il).map (·.2), p.cnt, ⟨p.fl, p.mn, p.tm⟩, []⟩
def startP (p : PlanD) : Ss := ⟨ptP p, ⟨[], 0⟩, ⟨[], false, false⟩, ⟨[], false⟩⟩
def StoPost (p : PlanD) (pr : ByteArray) (mode : Int) (n : Nat) (w : World) (e : Ending) (w' : World) : Prop :=
  ∃ o s' ao c ae ce E' cur, AllR ⟨bI pr, mode⟩ (startP p) o s' ∧ e = .returned (.tuple #[.agg #[.int .i64 (outR n o s'.b.l).1, .int .i64 (outR n o s'.b.l).2, .slice ao n c, .slice ae E'.length ce, .int .u32 s'.t.A.fl, .int .u8 s'.t.A.mn, .int .u8 s'.t.A.tm, .bool true], .int .i64 0]) ∧ Chg [] w w' ∧
    E'.map EfD.pl = s'.t.E ∧ (∀ y ∈ E', y.zs.length ≤ 1000000 ∧ y.zs.length ≤ y.cap) ∧ ∀ L : List Nat, (∀ x ∈ L, x < w.heap.size) → ∀ W, Chg L w' W →
      SrcAt W ao n c ((outG n o s'.b.l (valsOf .u8 (List.replicate n 46) ++ cur)).take n) ∧ HasRow W 86 7 (.slice ae E'.length ce) E'.length (cellsF E') ∧ ∀ y ∈ E', SrcAt W y.ao y.zs.length y.cap (valsOf .u8 y.zs)
theorem ordP_mem : ∀ (its : List ItD) (k : Nat) (x : Ele × It), x ∈ ordP its k → ∃ y ∈ its, x.2 = itOf y
  | its, 0, x, h => by cases h
  | its, k + 1, x, h => by
    unfold ordP at h
    split at h
    · rename_i y hy
      unfold ordStep at h
      split at h
      · rcases List.mem_cons.1 ((insP_perm _ _).mem_iff.1 h) with h | h
        · subst h
          exact ⟨y, List.mem_of_getElem? hy, rfl⟩
        · exact ordP_mem its k x h
      · exact ordP_mem its k x h
    · exact ordP_mem its k x h
theorem chkL_mem : ∀ (its : List ItD), chkL its = 0 → ∀ x ∈ its, chk1 x = 0
  | [], _, x, hx => by cases hx
  | y :: r, h, x, hx => by
    unfold chkL at h
    split at h
    · rename_i h0
      rcases List.mem_cons.1 hx with rfl | hx
      · exact h0
      · exact chkL_mem r h x hx
    · rename_i h0
      exact absurd h h0
set_option maxHeartbeats 16000000 in
theorem sto_bad (p : PlanD) (pr : ByteArray) (mode : Int) (n : Nat) (w : World) (h : p.At w) (hc : p.chk = 0) (hn : ∀ x ∈ p.its, i64R x.n) (hask : AskOk pr mode (n : Nat)) (hroom : n ≤ 4096) (hL : LibT w) (hlw : p.wl ≤ 1000000) (hlg : p.gl ≤ 1000000) (hls : p.sl ≤ 1000000) (hok : okP p = false) :
    Calls Tryz.prog 58 #[.agg (stoC p pr mode (n : Nat))] w fun e w' => e = .returned (.tuple #[.agg #[.int .i64 0, .int .i64 0, .slice none 0 0, .slice none 0 0, .int .u32 0, .int .u8 0, .int .u8 0, .bool false], .int .i64 3]) ∧ Chg [] w w' := by
  have C1 : Chg [] w ((w.alloc (.cells (stoC p pr mode (n : Nat)) 130)).alloc (.cells #[.int .i64 0, .int .i64 0, .slice none 0 0, .slice none 0 0, .int .u32 0, .int .u8 0, .int .u8 0, .bool false] 82)) := ((Chg.refl _ _).alloc _).alloc _
  have X2 : ((w.alloc (.cells (stoC p pr mode (n : Nat)) 130)).alloc (.cells #[.int .i64 0, .int .i64 0, .slice none 0 0, .slice none 0 0, .int .u32 0, .int .u8 0, .int .u8 0, .bool false] 82)).heap[w.heap.size + 1]? = some (.cells #[.int .i64 0, .int .i64 0, .slice none 0 0, .slice none 0 0, .int .u32 0, .int .u8 0, .int .u8 0, .bool false] 82 (0, 0)) := alloc2_heap w _ _
  have hck := sCheck_any p pr mode (n : Nat) _ (h.chg C1) hc hn hask (by omega) (hL.chg0 C1) hlw hlg hls
  rw [hok] at hck
  have HCK := Lib.hid hck
  have H1 := Lib.hid (And.intro C1 X2)
  clear h hc hn hask hL hlw hlg hls hok hck C1 X2
  obtain ⟨fl, mn, tm, ia, il, ic, its, wa, wl, wc, ws, ga, gl, gc, gs, sa, sl, sc, ss⟩ := p
  unfold stoC at HCK H1 ⊢
  dsimp only at HCK H1 ⊢
  go_enter Tryz.func58, Tryz.ntmps58
  go_wp2_with fail
  generalize World.alloc _ _ = w1 at *
  refine (HCK.out).mono ?_
  rintro e w2 ⟨rfl, C2⟩
  have X2 := C2.heap H1.out.2 (by simp)
  have HC2 := Lib.hid (And.intro C2 X2)
  have x0 : w2.cell? ⟨w.heap.size + 1, 0, none⟩ = some (.int .i64 0) := by rw [cell_of_heap X2]; rfl
  have f0 : w2.frozen? ⟨w.heap.size + 1, 0, none⟩ = false := free_of_heap X2 0
  have x1 : w2.cell? ⟨w.heap.size + 1, 1, none⟩ = some (.int .i64 0) := by rw [cell_of_heap X2]; rfl
  have f1 : w2.frozen? ⟨w.heap.size + 1, 1, none⟩ = false := free_of_heap X2 1
  have x2 : w2.cell? ⟨w.heap.size + 1, 2, none⟩ = some (.slice none 0 0) := by rw [cell_of_heap X2]; rfl
  have f2 : w2.frozen? ⟨w.heap.size + 1, 2, none⟩ = false := free_of_heap X2 2
  have x3 : w2.cell? ⟨w.heap.size + 1, 3, none⟩ = some (.slice none 0 0) := by rw [cell_of_heap X2]; rfl
  have f3 : w2.frozen? ⟨w.heap.size + 1, 3, none⟩ = false := free_of_heap X2 3
  have x4 : w2.cell? ⟨w.heap.size + 1, 4, none⟩ = some (.int .u32 0) := by rw [cell_of_heap X2]; rfl
  have f4 : w2.frozen? ⟨w.heap.size + 1, 4, none⟩ = false := free_of_heap X2 4
  have x5 : w2.cell? ⟨w.heap.size + 1, 5, none⟩ = some (.int .u8 0) := by rw [cell_of_heap X2]; rfl
  have f5 : w2.frozen? ⟨w.heap.size + 1, 5, none⟩ = false := free_of_heap X2 5
  have x6 : w2.cell? ⟨w.heap.size + 1, 6, none⟩ = some (.int .u8 0) := by rw [cell_of_heap X2]; rfl
  have f6 : w2.frozen? ⟨w.heap.size + 1, 6, none⟩ = false := free_of_heap X2 6
  have x7 : w2.cell? ⟨w.heap.size + 1, 7, none⟩ = some (.bool false) := by rw [cell_of_heap X2]; rfl
  have f7 : w2.frozen? ⟨w.heap.size + 1, 7, none⟩ = false := free_of_heap X2 7
  clear C2 X2
  go_wp2_with fail
  refine bodyPost_ret (told_res rfl rfl (told_set _ _ _ _ _ _ _ _ _ _ _ _ _ _ _ _ HC2.out.2).1) rfl ⟨rfl, ?_⟩
  exact (H1.out.1.trans HC2.out.1 (U := []) (by simp) (by simp)).trans (told_set _ _ _ _ _ _ _ _ _ _ _ _ _ _ _ _ HC2.out.2).2 (U := []) (by simp) (fun x hx hl => by have := List.mem_singleton.1 hx; omega)
set_option maxHeartbeats 32000000 in
theorem sto_ok (p : PlanD) (pr : ByteArray) (mode : Int) (n : Nat) (w : World) (h : p.At w) (hc : p.chk = 0) (hn : ∀ x ∈ p.its, i64R x.n) (hby : ∀ x ∈ p.its, ByR (x.zs.take x.m)) (hmx : ∀ x ∈ p.its, x.m ≤ 1000000) (hask : AskOk pr mode (n : Nat)) (hroom : n ≤ 4096) (hL : LibT w) (hlw : p.wl ≤ 1000000) (hlg : p.gl ≤ 1000000) (hls : p.sl ≤ 1000000)
    (hbud : p.wl + budI (ptP p).its ≤ 900000) (hok : okP p = true) :
    Calls Tryz.prog 58 #[.agg (stoC p pr mode (n : Nat))] w (StoPost p pr mode n w) := by
  have C1 : Chg [] w ((w.alloc (.cells (stoC p pr mode (n : Nat)) 130)).alloc (.cells #[.int .i64 0, .int .i64 0, .slice none 0 0, .slice none 0 0, .int .u32 0, .int .u8 0, .int .u8 0, .bool false] 82)) := ((Chg.refl _ _).alloc _).alloc _
  have X1 : ((w.alloc (.cells (stoC p pr mode (n : Nat)) 130)).alloc (.cells #[.int .i64 0, .int .i64 0, .slice none 0 0, .slice none 0 0, .int .u32 0, .int .u8 0, .int .u8 0, .bool false] 82)).heap[w.heap.size]? = some (.cells (stoC p pr mode (n : Nat)) 130 (0, 0)) := alloc_keeps (alloc_heap w _)
  have X2 : ((w.alloc (.cells (stoC p pr mode (n : Nat)) 130)).alloc (.cells #[.int .i64 0, .int .i64 0, .slice none 0 0, .slice none 0 0, .int .u32 0, .int .u8 0, .int .u8 0, .bool false] 82)).heap[w.heap.size + 1]? = some (.cells #[.int .i64 0, .int .i64 0, .slice none 0 0, .slice none 0 0, .int .u32 0, .int .u8 0, .int .u8 0, .bool false] 82 (0, 0)) := alloc2_heap w _ _
  have hck := sCheck_any p pr mode (n : Nat) _ (h.chg C1) hc hn hask (by omega) (hL.chg0 C1) hlw hlg hls
  rw [hok, if_pos rfl] at hck
  have HCK := Lib.hid hck
  have H1 := Lib.hid (And.intro C1 (And.intro X1 X2))
  have HTN := Lib.hid (fun W (c : Chg [] w W) => tNew_any p W (h.chg c) hc hlw hlg hls hmx)
  have HH := Lib.hid (And.intro hL (And.intro hask (And.intro hroom (And.intro hbud (And.intro hby hc)))))
  have HP : Hid (∃ q, q = p) := Lib.hid ⟨p, rfl⟩
  clear h hc hn hask hL hlw hlg hls hok hck C1 X1 X2 hby hmx hbud hroom
  obtain ⟨q, hq⟩ := HP.out
  have HQ := Lib.hid hq
  rw [← hq] at HH HTN
  rw [show StoPost p pr mode n w = StoPost q pr mode n w by rw [hq]]
  have HQC : Hid (p.cells = q.cells) := Lib.hid (by rw [hq])
  clear hq HP
  obtain ⟨fl, mn, tm, ia, il, ic, its, wa, wl, wc, ws, ga, gl, gc, gs, sa, sl, sc, ss⟩ := p
  unfold stoC at HCK H1 ⊢
  unfold PlanD.cells at HQC
  dsimp only at HCK H1 HQC ⊢
  go_enter Tryz.func58, Tryz.ntmps58
  go_wp2_with fail
  generalize World.alloc _ _ = w1 at *
  refine (HCK.out).mono ?_
  rintro e w2 ⟨rfl, C2⟩
  have X1 := C2.heap H1.out.2.1 (by simp)
  have C02 := H1.out.1.trans C2 (U := []) (by simp) (by simp)
  have x0 : w2.cell? ⟨w.heap.size, 0, none⟩ = some (.int .u32 fl) := by rw [cell_of_heap X1]; rfl
  have x1 : w2.cell? ⟨w.heap.size, 1, none⟩ = some (.int .u8 mn) := by rw [cell_of_heap X1]; rfl
  have x2 : w2.cell? ⟨w.heap.size, 2, none⟩ = some (.int .u8 tm) := by rw [cell_of_heap X1]; rfl
  have x3 : w2.cell? ⟨w.heap.size, 3, none⟩ = some (.slice ia il ic) := by rw [cell_of_heap X1]; rfl
  have x4 : w2.cell? ⟨w.heap.size, 4, none⟩ = some (.slice wa wl wc) := by rw [cell_of_heap X1]; rfl
  have x5 : w2.cell? ⟨w.heap.size, 5, none⟩ = some (.slice ga gl gc) := by rw [cell_of_heap X1]; rfl
  have x6 : w2.cell? ⟨w.heap.size, 6, none⟩ = some (.slice sa sl sc) := by rw [cell_of_heap X1]; rfl
  have HC2 := Lib.hid (And.intro C02 (And.intro X1 (C2.heap H1.out.2.2 (by simp))))
  have hck : (q.cells) = #[.int .u32 fl, .int .u8 mn, .int .u8 tm, .slice ia il ic, .slice wa wl wc, .slice ga gl gc, .slice sa sl sc] := HQC.out.symm
  have htn := HTN.out w2 C02
  rw [hck] at htn
  have HT2 := Lib.hid htn
  clear C2 C02 X1 htn hck HTN HCK
  go_wp2_with fail
  refine (HT2.out).mono ?_
  rintro e w3 ⟨τ, rfl, T3, hZ, hc3, hA3, hE3⟩
  have HT3 := Lib.hid (And.intro T3 (And.intro hZ (And.intro hc3 (And.intro hA3 hE3))))
  have HRN := Lib.hid (Ar.rNew_any w3 w3 (Chg.refl _ _))
  clear T3 hZ hc3 hA3 hE3 HT2 x0 x1 x2 x3 x4 x5 x6
  go_wp2_with fail
  refine (HRN.out).mono ?_
  rintro e w4 ⟨rfl, R4⟩
  have c34 := R4.c
  have c24 : Chg [] w2 w4 := HT3.out.1.W.c0.trans c34 (U := []) (by simp) (by simp)
  have R4w : Ar.OwnR w2 w4 (w3.heap.size + 1) w3.heap.size (.slice none 0 0) [] := ⟨R4.r, c24, fun x hx => Nat.le_trans HT3.out.1.W.c0.size (R4.b x hx)⟩
  have hsep : ∀ x ∈ Ar.blks (w3.heap.size + 1) w3.heap.size (.slice none 0 0) [], ¬ τ.own x := fun x hx ho => by have := R4.b x hx; have := (HT3.out.1.own_lt x ho).2; omega
  have X4 := c24.heap HC2.out.2.1 (by simp)
  have y9 : w4.cell? ⟨w.heap.size, 9, none⟩ = some (.int .i64 (n : Nat)) := by rw [cell_of_heap X4]; rfl
  have y9b : (w4.alloc (.cells #[.int .u8 46] 5)).cell? ⟨w.heap.size, 9, none⟩ = some (.int .i64 (n : Nat)) := by rw [cell_of_heap (alloc_keeps X4)]; rfl
  have C5 : Chg [] w4 (w4.alloc (.cells #[.int .u8 46] 5)) := (Chg.refl _ _).alloc _
  have HRP := Lib.hid (repeat_any n (by have := HH.out.2.2.1; omega) 46 w4.heap.size 1 (w4.alloc (.cells #[.int .u8 46] 5)) (by rw [cell_of_heap (alloc_heap w4 _)]; rfl) (Nat.le_refl _) (by simp))
  have HW4 := Lib.hid (And.intro c34 (And.intro c24 (And.intro R4w (And.intro hsep C5))))
  clear R4 c34 c24 R4w hsep X4 C5 HRN
  go_wp2_with fail
  generalize w4.alloc _ = w5 at *
  refine (HRP.out).mono ?_
  rintro e w6 ⟨g, c, cur, rfl, hg5, C6, G6, hc6⟩
  have hrl : (List.replicate n (46 : Int)).length = n := List.length_replicate
  rw [hrl] at hc6 ⊢
  have h4 := HW4.out
  have hh := HH.out
  have ht := HT3.out
  have c46 : Chg [] w4 w6 := h4.2.2.2.2.trans C6 (U := []) (by simp) (by simp)
  have c36 : Chg [] w3 w6 := h4.1.trans c46 (U := []) (by simp) (by simp)
  have c26 : Chg [] w2 w6 := h4.2.1.trans c46 (U := []) (by simp) (by simp)
  have hpt : ptOf τ = ptP q := by
    unfold ptOf ptP
    rw [ht.2.2.1, ht.2.2.2.1, ht.2.2.2.2, ← ht.2.1, List.map_map]
    rfl
  have hz : ∀ z ∈ τ.Z, ZOk z := by
    intro z hz
    have hm : z.pr ∈ ordP q.its q.il := by rw [← ht.2.1]; exact List.mem_map.2 ⟨z, hz, rfl⟩
    obtain ⟨y, hy, he⟩ := ordP_mem _ _ _ hm
    have he2 : z.it = itOf y := he
    have hk0 : chkL q.its = 0 := by
      have h0 := hh.2.2.2.2.2
      unfold PlanD.chk at h0
      split at h0
      · cases h0
      · exact h0
    have hk := chkL_mem _ hk0 y hy
    refine ⟨by rw [he2]; exact hh.2.2.2.2.1 y hy, by rw [he2]; exact (chk1_zero hk).1⟩
  have hcn : τ.c.wrote ≤ τ.E.length ∧ τ.c.got ≤ τ.E.length ∧ τ.c.set ≤ τ.E.length := by
    rw [ht.2.2.1]
    exact ⟨Nat.zero_le _, Nat.zero_le _, Nat.zero_le _⟩
  have hfee : fee τ + bud τ.Z ≤ 960000 := by
    have h1 : bud τ.Z = budI (ptP q).its := by rw [bud_its, ← hpt]; rfl
    have h2 : fee τ ≤ q.wl := by
      unfold fee
      rw [ht.2.2.1, ht.2.2.2.2]
      unfold PlanD.cnt
      simp [List.length_take]
      omega
    have := hh.2.2.2.1
    omega
  have hgn : g ∉ Ar.blks (w3.heap.size + 1) w3.heap.size (.slice none 0 0) [] ∧ ¬ τ.own g ∧ w2.heap.size ≤ g := by
    have q1 := h4.2.2.2.2.size
    have q2 := h4.1.size
    have q3 := h4.2.1.size
    refine ⟨fun hm => by have := h4.2.2.1.r.lt _ hm; omega, fun ho => by have := (ht.1.own_lt _ ho).2; omega, by omega⟩
  have HPR := Lib.hid (pRun_any w2 w6 τ (w3.heap.size + 1) w3.heap.size (.slice none 0 0) pr mode (n : Nat) n g c (valsOf .u8 (List.replicate n 46) ++ cur) (ht.1.chg0 c36) (h4.2.2.1.chg c46 (by simp) (by simp)) h4.2.2.2.1 (hh.1.chg0 HC2.out.1) hh.2.1 hcn hz G6 hgn (by rw [List.length_append, valsOf_length, hrl]; omega) hc6 hfee)
  have X6 := c26.heap HC2.out.2.1 (by simp)
  have z7 : w6.cell? ⟨w.heap.size, 7, none⟩ = some (.string pr) := by rw [cell_of_heap X6]; rfl
  have z8 : w6.cell? ⟨w.heap.size, 8, none⟩ = some (.int .i64 mode) := by rw [cell_of_heap X6]; rfl
  have z9 : w6.cell? ⟨w.heap.size, 9, none⟩ = some (.int .i64 (n : Nat)) := by rw [cell_of_heap X6]; rfl
  have HPT := Lib.hid (And.intro hpt hc6)
  have HGB : Hid (w2.heap.size ≤ g) := Lib.hid hgn.2.2
  unfold askV at HPR
  obtain ⟨cur0, hcu⟩ : ∃ cur0, cur0 = valsOf .u8 (List.replicate n 46) ++ cur := ⟨_, rfl⟩
  rw [← hcu] at HPR
  have HCU := Lib.hid hcu
  clear h4 hh ht c46 c36 c26 hpt hz hcn hfee hgn X6 hg5 C6 G6 hc6 hrl y9 y9b HRP hcu
  go_wp2_with fail
  refine (HPR.out).mono ?_
  rintro e w7 ⟨τ7, o, s7, nv7, A7, hAll, rfl, T7, hpt7, hbT7, R7, G7, hE7, hsp7⟩
  have X72 := T7.W.c0.heap HC2.out.2.2 (by simp)
  obtain ⟨r1, r2, hr12⟩ : ∃ r1 r2, outR n o s7.b.l = (r1, r2) := ⟨_, _, rfl⟩
  rw [hr12]
  dsimp only
  have HR7 := Lib.hid (And.intro hAll (And.intro T7 (And.intro hpt7 (And.intro R7 (And.intro G7 (And.intro hE7 (And.intro hr12 X72)))))))
  have HB7 := Lib.hid hbT7
  clear hAll T7 hpt7 R7 G7 hE7 hr12 X72 hbT7 hsp7 HPR z7 z8 z9
  go_upto_region 12 with (fail)
  have X8 := alloc_heap w7 (.cells #[.int .i64 r1, .int .i64 r2] 79)
  have C8 : Chg [] w7 (w7.alloc (.cells #[.int .i64 r1, .int .i64 r2] 79)) := (Chg.refl _ _).alloc _
  have h7 := HR7.out
  have T8 := h7.2.1.chg0 C8
  have R8 := h7.2.2.2.1.chg C8 (by simp)
  have hb2 : w.heap.size + 1 < w2.heap.size := heap_lt HC2.out.2.2
  have hw27 := h7.2.1.W.c0.size
  have hgb : g ≠ w.heap.size + 1 := by
    intro e
    have hg4 := HGB.out
    omega
  have HE7 := Lib.hid h7.2.2.2.2.2.1
  have H8 := Lib.hid (And.intro X8 (And.intro T8 (And.intro R8 (And.intro (C8.heap h7.2.2.2.2.1 (by simp)) (And.intro (C8.heap h7.2.2.2.2.2.2.2 (by simp)) (And.intro C8 (And.intro hb2 (And.intro hw27 hgb))))))))
  clear X8 C8 h7 T8 R8 hb2 hw27 hgb
  rw [← HB7.out]
  generalize w7.alloc _ = w8 at *
  generalize hxB : w7.heap.size = xB at *
  have x0 : w8.cell? ⟨xB, 0, none⟩ = some (.int .i64 r1) := by rw [cell_of_heap H8.out.1]; rfl
  have x1 : w8.cell? ⟨xB, 1, none⟩ = some (.int .i64 r2) := by rw [cell_of_heap H8.out.1]; rfl
  have HBX : Hid (w.heap.size + 1 < xB) := Lib.hid (by have h8 := H8.out; have := h8.2.2.2.2.2.2.1; have := h8.2.2.2.2.2.2.2.1; omega)
  have HBN : Hid (xB ≠ w.heap.size + 1) := Lib.hid (by have := HBX.out; omega)
  have HEF := Lib.hid (fun W (cW : Chg [] w8 W) => tEffects_any w2 W τ7 (H8.out.2.1.chg0 cW) HE7.out)
  have HAT := Lib.hid (fun W (cW : Chg [] w8 W) => tAttrs_any w2 W τ7 (H8.out.2.1.chg0 cW))
  have HZR := Lib.hid (fun W (cW : Chg [] w8 W) => Ar.rZero_any (w3.heap.size + 1) w3.heap.size nv7 (Ar.wiped A7) W (H8.out.2.2.1.chg cW (by simp)))
  rw [wiped_zero] at HZR
  unfold At3.val at HAT
  unfold EffPost at HEF
  go_region_held3 (fun w' => w'.cell? ⟨xB, 0, none⟩ = some (.int .i64 r1) ∧ w'.cell? ⟨xB, 1, none⟩ = some (.int .i64 r2))
    (first | (with_reducible exact ⟨ck (ck (ck (ck (ck (ck (ck (ck (C11.cell x0 (by simp)) HBN.out) HBN.out) HBN.out) HBN.out) HBN.out) HBN.out) HBN.out) HBN.out, ck (ck (ck (ck (ck (ck (ck (ck (C11.cell x1 (by simp)) HBN.out) HBN.out) HBN.out) HBN.out) HBN.out) HBN.out) HBN.out) HBN.out⟩) | (with_reducible exact ⟨C11.cell x0 (by simp), C11.cell x1 (by simp)⟩) | (with_reducible exact ⟨C10.cell x0 (by simp), C10.cell x1 (by simp)⟩) | (with_reducible exact ⟨C9.cell x0 (by simp), C9.cell x1 (by simp)⟩) | exact ⟨x0, x1⟩ | go_keep)
    (first
     | (go_at_call 89; refine (HEF.out _ (by first | exact Chg.refl [] w8 | exact (Chg.refl [] w8).drew | exact (Chg.refl [] w8).drewN _)).mono ?_; rintro e w9 ⟨rv, E', rfl, C9', hEf⟩; have C9 : Chg [] w8 w9 := (by first | exact C9' | exact C9'.of_drew | exact C9'.of_drewN); obtain ⟨ae, ce, rfl, _⟩ := (HasRow.of_owns hEf.row).slice)
     | (go_at_call 90; refine (HAT.out w9 C9).mono ?_; rintro e w10 ⟨rfl, C10'⟩; have C10 : Chg [] w8 w10 := C9.trans C10' (U := []) (by simp) (by simp))
     | (go_at_call 91; refine (HZR.out w10 C10).mono ?_; rintro e w11 ⟨rfl, C11'⟩; have C11 : Chg [] w8 w11 := C10.trans C11' (U := []) (by simp) (by simp); have X11 := C11.heap H8.out.2.2.2.2.1 (by simp); have y0 : w11.cell? ⟨w.heap.size + 1, 0, none⟩ = some (.int .i64 0) := (by rw [cell_of_heap X11]; rfl); have f0 : w11.frozen? ⟨w.heap.size + 1, 0, none⟩ = false := free_of_heap X11 0; have y1 : w11.cell? ⟨w.heap.size + 1, 1, none⟩ = some (.int .i64 0) := (by rw [cell_of_heap X11]; rfl); have f1 : w11.frozen? ⟨w.heap.size + 1, 1, none⟩ = false := free_of_heap X11 1; have y2 : w11.cell? ⟨w.heap.size + 1, 2, none⟩ = some (.slice none 0 0) := (by rw [cell_of_heap X11]; rfl); have f2 : w11.frozen? ⟨w.heap.size + 1, 2, none⟩ = false := free_of_heap X11 2; have y3 : w11.cell? ⟨w.heap.size + 1, 3, none⟩ = some (.slice none 0 0) := (by rw [cell_of_heap X11]; rfl); have f3 : w11.frozen? ⟨w.heap.size + 1, 3, none⟩ = false := free_of_heap X11 3; have y4 : w11.cell? ⟨w.heap.size + 1, 4, none⟩ = some (.int .u32 0) := (by rw [cell_of_heap X11]; rfl); have f4 : w11.frozen? ⟨w.heap.size + 1, 4, none⟩ = false := free_of_heap X11 4; have y5 : w11.cell? ⟨w.heap.size + 1, 5, none⟩ = some (.int .u8 0) := (by rw [cell_of_heap X11]; rfl); have f5 : w11.frozen? ⟨w.heap.size + 1, 5, none⟩ = false := free_of_heap X11 5; have y6 : w11.cell? ⟨w.heap.size + 1, 6, none⟩ = some (.int .u8 0) := (by rw [cell_of_heap X11]; rfl); have f6 : w11.frozen? ⟨w.heap.size + 1, 6, none⟩ = false := free_of_heap X11 6; have y7 : w11.cell? ⟨w.heap.size + 1, 7, none⟩ = some (.bool false) := (by rw [cell_of_heap X11]; rfl); have f7 : w11.frozen? ⟨w.heap.size + 1, 7, none⟩ = false := free_of_heap X11 7))
  have ts := told_set (.int .i64 0) (.int .i64 0) (.slice none 0 0) (.slice none 0 0) (.int .u32 0) (.int .u8 0) (.int .u8 0) (.bool false) (.int .i64 r1) (.int .i64 r2) (.slice (some ⟨g, 0, none⟩) n c) (.slice ae τ7.E.length ce) (.int .u32 τ7.A.fl) (.int .u8 τ7.A.mn) (.int .u8 τ7.A.tm) (.bool true) X11
  have hC := C11.trans ts.2 (U := [w.heap.size + 1]) (by simp) (fun x hx _ => hx)
  have h8 := H8.out
  have hEf2 := (hEf.on (C10'.trans C11' (U := []) (by simp) (by simp) |>.trans ts.2 (U := [w.heap.size + 1]) (by simp) (fun x hx _ => hx)) (by have := congrArg List.length hEf.pl; simp at this; omega) (fun b hb => by have := List.mem_singleton.1 hb; have h8 := H8.out; have q := HBX.out; have q2 := heap_lt h8.1; show b < w8.heap.size; omega))
  have g12 := hC.heap h8.2.2.2.1 (by simpa using h8.2.2.2.2.2.2.2.2)
  have HFIN := Lib.hid (And.intro ts.1 (And.intro hC (And.intro hEf2 g12)))
  clear ts hC h8 hEf2 g12 X11 C11 C11' C10 C10' C9 C9' hEf x0 x1 HEF HAT HZR y0 f0 y1 f1 y2 f2 y3 f3 y4 f4 y5 f5 y6 f6 y7 f7
  go_wp2_with fail
  have hf := HFIN.out
  have h7 := HR7.out
  have h8 := H8.out
  have hA : s7.t.A = τ7.A := by rw [← h7.2.2.1]; rfl
  have hEt : s7.t.E = τ7.E.map EfD.pl := by rw [← h7.2.2.1]; rfl
  have hl : E'.length = τ7.E.length := by have := congrArg List.length hf.2.2.1.pl; simpa using this
  have hst : startS τ = startP q := by unfold startS startP; rw [HPT.out.1]
  have hn8 : w.heap.size < w8.heap.size := by have q := HBX.out; have q2 := heap_lt h8.1; omega
  refine bodyPost_ret (told_res rfl rfl hf.1) rfl ⟨o, s7, some ⟨g, 0, none⟩, c, ae, ce, E', cur, by rw [← hst]; exact h7.1, ?_, ?_, ?_, fun y hy => (eff_dat hf.2.2.1 y hy).2, fun L hL W cW => ?_⟩
  · rw [h7.2.2.2.2.2.2.1, hA, hl]
  · exact (HC2.out.1.trans h8.2.1.W.c0 (U := []) (by simp) (by simp)).trans hf.2.1 (U := []) (by simp) (fun x hx hl => by have := List.mem_singleton.1 hx; omega)
  · rw [hEt]; exact hf.2.2.1.pl
  · have hEW := hf.2.2.1.on cW (by omega) (fun b hb => by have := hL b hb; show b < w8.heap.size; omega)
    refine ⟨?_, ?_, fun y hy => (eff_dat hEW y hy).1⟩
    · rw [← HCU.out]
      refine src_take (cW.heap hf.2.2.2 (fun hm => ?_)) (outG_len ?_)
      · have q1 := hL g hm
        have q2 := HGB.out
        have q3 := HC2.out.1.size
        omega
      · rw [HCU.out, List.length_append, valsOf_length, List.length_replicate]
        omega
    · rw [hl]
      have := HasRow.of_owns hEW.row
      exact this
end Go.Proofs.YtafmnkngjjnpiaaGreatDoor

namespace Go.Proofs.YtafmnkngjjnpiaaGreatDoor
set_option linter.unusedVariables false
set_option linter.unusedSimpArgs false
set_option maxRecDepth 100000
open Go.RowKit
attribute [local go_sem] run_store_float'
theorem tld_res {tmps : Array Value} {b : Nat} {v0 v1 v2 v3 v4 v5 v6 v7 : Value} {ok : Bool} {w : World} (hp : tmps.getD 6 undef = .pointer (some ⟨b, 0, none⟩)) (h3 : tmps.getD 7 undef = .bool ok) (h : w.heap[b]? = some (.cells #[v0, v1, v2, v3, v4, v5, v6, v7] 82 (0, 0))) :
    (results Tryz.f28 tmps).run Tryz.prog w = .ok (.tuple #[.agg #[v0, v1, v2, v3, v4, v5, v6, v7], .bool ok]) w := by
  have hp' : tmps[6]?.getD undef = .pointer (some ⟨b, 0, none⟩) := by simpa using hp
  have h3' : tmps[7]?.getD undef = .bool ok := by simpa using h3
  have c0 : w.cell? ⟨b, 0, none⟩ = some v0 := by rw [cell_of_heap h]; rfl
  have c1 : w.cell? ⟨b, 1, none⟩ = some v1 := by rw [cell_of_heap h]; rfl
  have c2 : w.cell? ⟨b, 2, none⟩ = some v2 := by rw [cell_of_heap h]; rfl
  have c3 : w.cell? ⟨b, 3, none⟩ = some v3 := by rw [cell_of_heap h]; rfl
  have c4 : w.cell? ⟨b, 4, none⟩ = some v4 := by rw [cell_of_heap h]; rfl
  have c5 : w.cell? ⟨b, 5, none⟩ = some v5 := by rw [cell_of_heap h]; rfl
  have c6 : w.cell? ⟨b, 6, none⟩ = some v6 := by rw [cell_of_heap h]; rfl
  have c7 : w.cell? ⟨b, 7, none⟩ = some v7 := by rw [cell_of_heap h]; rfl
  simp [results, Tryz.results28, hp', h3', c0, c1, c2, c3, c4, c5, c6, c7, go_sem]
theorem drew_heap {w : World} {b : Nat} {o : Obj} (h : w.heap[b]? = some o) : w.drew.heap[b]? = some o := h
theorem outR_le (n : Nat) (o : Int) (b : List Int) : ∃ k : Nat, (outR n o b).2 = (k : Nat) ∧ k ≤ n := by
  unfold outR
  by_cases h : o = 0
  · by_cases h2 : n < b.length
    · exact ⟨0, by rw [if_pos h, if_pos h2]; rfl, Nat.zero_le _⟩
    · exact ⟨b.length, by rw [if_pos h, if_neg h2], by omega⟩
  · exact ⟨0, by rw [if_neg h]; rfl, Nat.zero_le _⟩
def ToldPost (p : PlanD) (pr : ByteArray) (mode : Int) (n : Nat) (w : World) (e : Ending) (w' : World) : Prop :=
  ∃ o s' ao c ae ce E' cur, AllR ⟨bI pr, mode⟩ (startP p) o s' ∧ e = .returned (.tuple #[.agg #[.int .i64 (outR n o s'.b.l).1, .int .i64 (outR n o s'.b.l).2, .slice ao n c, .slice ae E'.length ce, .int .u32 s'.t.A.fl, .int .u8 s'.t.A.mn, .int .u8 s'.t.A.tm, .bool true], .bool true]) ∧ Chg [] w w' ∧
    E'.map EfD.pl = s'.t.E ∧ (∀ y ∈ E', y.zs.length ≤ 1000000 ∧ y.zs.length ≤ y.cap) ∧ ∀ L : List Nat, (∀ x ∈ L, x < w.heap.size) → ∀ W, Chg L w' W →
      SrcAt W ao n c ((outG n o s'.b.l (valsOf .u8 (List.replicate n 46) ++ cur)).take n) ∧ HasRow W 86 7 (.slice ae E'.length ce) E'.length (cellsF E') ∧ ∀ y ∈ E', SrcAt W y.ao y.zs.length y.cap (valsOf .u8 y.zs)
set_option maxHeartbeats 16000000 in
theorem told_ok (p : PlanD) (pr : ByteArray) (mode r0 : Int) (n : Nat) (w : World) (h : p.At w) (hc : p.chk = 0) (hn : ∀ x ∈ p.its, i64R x.n) (hby : ∀ x ∈ p.its, ByR (x.zs.take x.m)) (hmx : ∀ x ∈ p.its, x.m ≤ 1000000) (hask : AskOk pr mode (n : Nat)) (hroom : n ≤ 4096) (hL : LibT w) (hlw : p.wl ≤ 1000000) (hlg : p.gl ≤ 1000000) (hls : p.sl ≤ 1000000) (hbud : p.wl + budI (ptP p).its ≤ 900000) (hok : okP p = true) :
    Calls Tryz.prog 28 #[.agg p.cells, .agg #[.string pr, .int .i64 mode, .int .i64 r0], .int .i64 (n : Nat)] w (ToldPost p pr mode n w) := by
  have HST := Lib.hid (fun W (c : Chg [] w W) => sto_ok p pr mode n W (h.chg c) hc hn hby hmx hask hroom (hL.chg0 c) hlw hlg hls hbud hok)
  have C1 : Chg [] w (((w.alloc (.cells p.cells 74)).alloc (.cells #[.string pr, .int .i64 mode, .int .i64 (n : Nat)] 76)).alloc (.cells #[.int .i64 0, .int .i64 0, .slice none 0 0, .slice none 0 0, .int .u32 0, .int .u8 0, .int .u8 0, .bool false] 82)) := (((Chg.refl _ _).alloc _).alloc _).alloc _
  have X3 : (((w.alloc (.cells p.cells 74)).alloc (.cells #[.string pr, .int .i64 mode, .int .i64 (n : Nat)] 76)).alloc (.cells #[.int .i64 0, .int .i64 0, .slice none 0 0, .slice none 0 0, .int .u32 0, .int .u8 0, .int .u8 0, .bool false] 82)).heap[w.heap.size]? = some (.cells p.cells 74 (0, 0)) := alloc_keeps (alloc_keeps (alloc_heap w _))
  have X4 : (((w.alloc (.cells p.cells 74)).alloc (.cells #[.string pr, .int .i64 mode, .int .i64 (n : Nat)] 76)).alloc (.cells #[.int .i64 0, .int .i64 0, .slice none 0 0, .slice none 0 0, .int .u32 0, .int .u8 0, .int .u8 0, .bool false] 82)).heap[w.heap.size + 1]? = some (.cells #[.string pr, .int .i64 mode, .int .i64 (n : Nat)] 76 (0, 0)) := alloc_keeps (alloc2_heap w _ _)
  have X6 : (((w.alloc (.cells p.cells 74)).alloc (.cells #[.string pr, .int .i64 mode, .int .i64 (n : Nat)] 76)).alloc (.cells #[.int .i64 0, .int .i64 0, .slice none 0 0, .slice none 0 0, .int .u32 0, .int .u8 0, .int .u8 0, .bool false] 82)).heap[w.heap.size + 2]? = some (.cells #[.int .i64 0, .int .i64 0, .slice none 0 0, .slice none 0 0, .int .u32 0, .int .u8 0, .int .u8 0, .bool false] 82 (0, 0)) := by
    have e : ((w.alloc (.cells p.cells 74)).alloc (.cells #[.string pr, .int .i64 mode, .int .i64 (n : Nat)] 76)).heap.size = w.heap.size + 2 := (by show ((w.heap.push _).push _).size = _; simp)
    have := alloc_heap ((w.alloc (.cells p.cells 74)).alloc (.cells #[.string pr, .int .i64 mode, .int .i64 (n : Nat)] 76)) (.cells #[.int .i64 0, .int .i64 0, .slice none 0 0, .slice none 0 0, .int .u32 0, .int .u8 0, .int .u8 0, .bool false] 82)
    rw [e] at this
    exact this
  have H1 := Lib.hid (And.intro C1 (And.intro X3 (And.intro X4 X6)))
  have HQ : Hid (∃ q, q = p) := Lib.hid ⟨p, rfl⟩
  clear h hc hn hask hL hlw hlg hls hok C1 X3 X4 X6 hroom hby hmx hbud
  obtain ⟨q, hq⟩ := HQ.out
  have HP := Lib.hid hq
  rw [show ToldPost p pr mode n w = ToldPost q pr mode n w by rw [hq]]
  rw [← hq] at HST
  obtain ⟨C, hC⟩ : ∃ C, C = stoC q pr mode (n : Nat) := ⟨_, rfl⟩
  rw [← hC] at HST
  have HSC : Hid (stoC p pr mode (n : Nat) = C) := Lib.hid (by rw [hC, hq])
  clear hC
  clear hq HQ
  obtain ⟨fl, mn, tm, ia, il, ic, its, wa, wl, wc, ws, ga, gl, gc, gs, sa, sl, sc, ss⟩ := p
  unfold stoC at HSC
  unfold PlanD.cells at H1 ⊢
  dsimp only at H1 HSC ⊢
  go_enter Tryz.func28, Tryz.ntmps28
  go_wp2_with fail
  have h1 := H1.out
  have hst := HST.out _ h1.1
  rw [← HSC.out] at hst
  have HW := Lib.hid (And.intro h1.1 h1.2.2.2)
  have HS2 := Lib.hid hst
  clear h1 hst HST H1
  generalize World.alloc _ _ = w1 at *
  refine (HS2.out).mono ?_
  rintro e w2 ⟨o, s', ao, c, ae, ce, E', cur, hall, rfl, C2, hpl, hfew, hres⟩
  obtain ⟨k, hk, hkn⟩ := outR_le n o s'.b.l
  obtain ⟨r1, hr1⟩ : ∃ r1, r1 = (outR n o s'.b.l).1 := ⟨_, rfl⟩
  rw [hk, ← hr1]
  have HR := Lib.hid (And.intro hall (And.intro hk (And.intro hr1 (And.intro hpl (And.intro hfew hres)))))
  have hs1 := C2.size
  clear hall hk hr1 hpl hfew hres
  go_upto_region 3 with (fail)
  have X8 := alloc_heap w2 (.cells #[.int .i64 r1, .int .i64 (k : Nat), .slice ao n c, .slice ae E'.length ce, .int .u32 s'.t.A.fl, .int .u8 s'.t.A.mn, .int .u8 s'.t.A.tm, .bool true] 82)
  have C8 : Chg [] w2 (w2.alloc (.cells #[.int .i64 r1, .int .i64 (k : Nat), .slice ao n c, .slice ae E'.length ce, .int .u32 s'.t.A.fl, .int .u8 s'.t.A.mn, .int .u8 s'.t.A.tm, .bool true] 82)) := (Chg.refl _ _).alloc _
  have X6 := C8.heap (C2.heap HW.out.2 (by simp)) (by simp)
  generalize w2.alloc _ = w8 at *
  have hb8 : w.heap.size + 2 < w2.heap.size := heap_lt (C2.heap HW.out.2 (by simp))
  generalize hB : w2.heap.size = b8 at *
  have x0 : w8.cell? ⟨b8, 0, none⟩ = some (.int .i64 r1) := by rw [cell_of_heap X8]; rfl
  have x1 : w8.cell? ⟨b8, 1, none⟩ = some (.int .i64 (k : Nat)) := by rw [cell_of_heap X8]; rfl
  have x2 : w8.cell? ⟨b8, 2, none⟩ = some (.slice ao n c) := by rw [cell_of_heap X8]; rfl
  have x3 : w8.cell? ⟨b8, 3, none⟩ = some (.slice ae E'.length ce) := by rw [cell_of_heap X8]; rfl
  have x4 : w8.cell? ⟨b8, 4, none⟩ = some (.int .u32 s'.t.A.fl) := by rw [cell_of_heap X8]; rfl
  have x5 : w8.cell? ⟨b8, 5, none⟩ = some (.int .u8 s'.t.A.mn) := by rw [cell_of_heap X8]; rfl
  have x6 : w8.cell? ⟨b8, 6, none⟩ = some (.int .u8 s'.t.A.tm) := by rw [cell_of_heap X8]; rfl
  have x7 : w8.cell? ⟨b8, 7, none⟩ = some (.bool true) := by rw [cell_of_heap X8]; rfl
  have y0 : w8.cell? ⟨w.heap.size + 1 + 1, 0, none⟩ = some (.int .i64 0) := by rw [cell_of_heap X6]; rfl
  have f0 : w8.frozen? ⟨w.heap.size + 1 + 1, 0, none⟩ = false := free_of_heap X6 0
  have y1 : w8.cell? ⟨w.heap.size + 1 + 1, 1, none⟩ = some (.int .i64 0) := by rw [cell_of_heap X6]; rfl
  have f1 : w8.frozen? ⟨w.heap.size + 1 + 1, 1, none⟩ = false := free_of_heap X6 1
  have y2 : w8.cell? ⟨w.heap.size + 1 + 1, 2, none⟩ = some (.slice none 0 0) := by rw [cell_of_heap X6]; rfl
  have f2 : w8.frozen? ⟨w.heap.size + 1 + 1, 2, none⟩ = false := free_of_heap X6 2
  have y3 : w8.cell? ⟨w.heap.size + 1 + 1, 3, none⟩ = some (.slice none 0 0) := by rw [cell_of_heap X6]; rfl
  have f3 : w8.frozen? ⟨w.heap.size + 1 + 1, 3, none⟩ = false := free_of_heap X6 3
  have y4 : w8.cell? ⟨w.heap.size + 1 + 1, 4, none⟩ = some (.int .u32 0) := by rw [cell_of_heap X6]; rfl
  have f4 : w8.frozen? ⟨w.heap.size + 1 + 1, 4, none⟩ = false := free_of_heap X6 4
  have y5 : w8.cell? ⟨w.heap.size + 1 + 1, 5, none⟩ = some (.int .u8 0) := by rw [cell_of_heap X6]; rfl
  have f5 : w8.frozen? ⟨w.heap.size + 1 + 1, 5, none⟩ = false := free_of_heap X6 5
  have y6 : w8.cell? ⟨w.heap.size + 1 + 1, 6, none⟩ = some (.int .u8 0) := by rw [cell_of_heap X6]; rfl
  have f6 : w8.frozen? ⟨w.heap.size + 1 + 1, 6, none⟩ = false := free_of_heap X6 6
  have y7 : w8.cell? ⟨w.heap.size + 1 + 1, 7, none⟩ = some (.bool false) := by rw [cell_of_heap X6]; rfl
  have f7 : w8.frozen? ⟨w.heap.size + 1 + 1, 7, none⟩ = false := free_of_heap X6 7
  have X6b : w8.heap[w.heap.size + 1 + 1]? = some (.cells #[.int .i64 0, .int .i64 0, .slice none 0 0, .slice none 0 0, .int .u32 0, .int .u8 0, .int .u8 0, .bool false] 82 (0, 0)) := X6
  have ts := told_set (.int .i64 0) (.int .i64 0) (.slice none 0 0) (.slice none 0 0) (.int .u32 0) (.int .u8 0) (.int .u8 0) (.bool false) (.int .i64 r1) (.int .i64 (k : Nat)) (.slice ao n c) (.slice ae E'.length ce) (.int .u32 s'.t.A.fl) (.int .u8 s'.t.A.mn) (.int .u8 s'.t.A.tm) (.bool true) X6b
  have hfin := (HW.out.1.trans (C2.trans C8 (U := []) (by simp) (by simp)) (U := []) (by simp) (by simp)).trans ts.2 (U := []) (by simp) (fun x hx hl => by have := List.mem_singleton.1 hx; omega)
  have HF := Lib.hid (And.intro (drew_heap ts.1) (And.intro hfin.drew (And.intro hb8 (C8.trans ts.2.drew (U := [w.heap.size + 1 + 1]) (by simp) (fun x hx _ => hx)))))
  clear ts C8 C2 hb8 X6 X6b X8 hB hfin
  have HBN : Hid (b8 ≠ w.heap.size + 1 + 1) := Lib.hid (by have := HF.out.2.2.1; omega)
  have z1 : ((((((((w8.setCell ⟨w.heap.size + 1 + 1, 0, none⟩ (.int .i64 r1)).setCell ⟨w.heap.size + 1 + 1, 1, none⟩ (.int .i64 (k : Nat))).setCell ⟨w.heap.size + 1 + 1, 2, none⟩ (.slice ao n c)).setCell ⟨w.heap.size + 1 + 1, 3, none⟩ (.slice ae E'.length ce)).setCell ⟨w.heap.size + 1 + 1, 4, none⟩ (.int .u32 s'.t.A.fl)).setCell ⟨w.heap.size + 1 + 1, 5, none⟩ (.int .u8 s'.t.A.mn)).setCell ⟨w.heap.size + 1 + 1, 6, none⟩ (.int .u8 s'.t.A.tm)).setCell ⟨w.heap.size + 1 + 1, 7, none⟩ (.bool true)).cell? ⟨b8, 1, none⟩ = some (.int .i64 (k : Nat)) := ck (ck (ck (ck (ck (ck (ck (ck x1 HBN.out) HBN.out) HBN.out) HBN.out) HBN.out) HBN.out) HBN.out) HBN.out
  have z2 : ((((((((w8.setCell ⟨w.heap.size + 1 + 1, 0, none⟩ (.int .i64 r1)).setCell ⟨w.heap.size + 1 + 1, 1, none⟩ (.int .i64 (k : Nat))).setCell ⟨w.heap.size + 1 + 1, 2, none⟩ (.slice ao n c)).setCell ⟨w.heap.size + 1 + 1, 3, none⟩ (.slice ae E'.length ce)).setCell ⟨w.heap.size + 1 + 1, 4, none⟩ (.int .u32 s'.t.A.fl)).setCell ⟨w.heap.size + 1 + 1, 5, none⟩ (.int .u8 s'.t.A.mn)).setCell ⟨w.heap.size + 1 + 1, 6, none⟩ (.int .u8 s'.t.A.tm)).setCell ⟨w.heap.size + 1 + 1, 7, none⟩ (.bool true)).cell? ⟨b8, 2, none⟩ = some (.slice ao n c) := ck (ck (ck (ck (ck (ck (ck (ck x2 HBN.out) HBN.out) HBN.out) HBN.out) HBN.out) HBN.out) HBN.out) HBN.out
  go_region
  clear x0 y0 f0 x1 y1 f1 x2 y2 f2 x3 y3 f3 x4 y4 f4 x5 y5 f5 x6 y6 f6 x7 y7 f7 z1 z2
  go_wp2_with fail
  have hf := HF.out
  have hr := HR.out
  refine bodyPost_ret (tld_res rfl rfl hf.1) rfl ⟨o, s', ao, c, ae, ce, E', cur, hr.1, ?_, hf.2.1, hr.2.2.2.1, hr.2.2.2.2.1, fun L hL W cW => ?_⟩
  · rw [hr.2.1, ← hr.2.2.1]
  · refine hr.2.2.2.2.2 ((w.heap.size + 1 + 1) :: L) (fun x hx => ?_) W (hf.2.2.2.trans cW (U := (w.heap.size + 1 + 1) :: L) (fun x hx => by simp at hx; simp [hx]) (fun x hx _ => List.mem_cons_of_mem _ hx))
    rcases List.mem_cons.1 hx with rfl | hx
    · exact heap_lt HW.out.2
    · have := hL x hx
      have := HW.out.1.size
      omega
end Go.Proofs.YtafmnkngjjnpiaaGreatDoor
