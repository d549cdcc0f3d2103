import Derived.Test.YtafmnkngjjnpiaaGreatDoorTqI
namespace Go.Proofs.YtafmnkngjjnpiaaGreatDoor
set_option linter.unusedVariables false
set_option linter.unusedSimpArgs false
set_option maxRecDepth 100000
open Go.RowKit
theorem raw_any (a : At3) (w : World) : Calls Tryz.prog 138 #[a.val] w fun e w' => e = .returned ((rawA a).val) ∧ Chg [] w w' := by
  unfold At3.val
  go_enter Tryz.func138, Tryz.ntmps138
  go_wp2_with fail
  refine bodyPost_ret (v := .agg #[.int .u32 (bits .andNot .u32 a.fl 63), .int .u8 1, .int .u8 0]) ?_ rfl ⟨rfl, ((Chg.refl _ _).alloc _).alloc _⟩
  exact results_cell_row rfl _ _ (w.heap.size + 1) 71 #[.int .u32 (bits .andNot .u32 a.fl 63), .int .u8 1, .int .u8 0] (0, 0) _ rfl (alloc2_heap w _ _) Tryz.underlying71 rfl (by kernel_rfl)
theorem sGet_any (w0 w : World) (γ : Gm) (τ : Tt) (s : Ss) (rd : List Int) (h : SesIs w0 w γ τ s rd) (hf : fee τ ≤ 999999) :
    Calls Tryz.prog 135 #[.pointer (some ⟨τ.bT, 0, none⟩)] w fun e w' => e = .returned (.tuple #[if (getP s.t).1 = true then s.t.A.val else at0.val, .int .i64 (if (getP s.t).1 = true then 0 else 5)]) ∧
      ∃ τ', SGo w0 w γ τ τ' { s with t := (getP s.t).2 } rd w' ∧ fee τ' ≤ fee τ + 1 ∧ τ'.bT = τ.bT := by
  have hE : τ.E.length ≤ 1000000 := by unfold fee at hf; omega
  have hcn := h.cnt
  refine (tGet_any w0 w τ h.T (by omega) hE).mono ?_
  rintro e w' ⟨rfl, v', G⟩
  have hg := SGo.of_tt h G rfl (by simp only [List.length_append, List.length_cons, List.length_nil]; omega) h.by'
  have ht : ptOf { τ with v := v', c := { τ.c with got := τ.c.got + 1 }, E := τ.E ++ [GetE τ] } = (getP s.t).2 := by
    rw [h.t]
    unfold ptOf getP GetE
    simp only [List.map_append, List.map_cons, List.map_nil]
    split <;> simp_all [EfD.pl, ef0, plE]
  rw [ht] at hg
  refine ⟨?_, _, hg, ?_, rfl⟩
  · rw [h.t]
    unfold getP ptOf
    by_cases hm : ((τ.c.got : Nat) : Int) ∈ τ.c.gs <;> simp [hm]
  · unfold fee; simp only [List.length_append, List.length_cons, List.length_nil]; omega
theorem sSet_any (w0 w : World) (γ : Gm) (τ : Tt) (s : Ss) (rd : List Int) (B : At3) (h : SesIs w0 w γ τ s rd) (hf : fee τ ≤ 999999) :
    Calls Tryz.prog 137 #[.pointer (some ⟨τ.bT, 0, none⟩), B.val] w fun e w' => e = .returned (.int .i64 (if (setP s.t B).1 = true then 0 else 5)) ∧
      ∃ τ', SGo w0 w γ τ τ' { s with t := (setP s.t B).2 } rd w' ∧ fee τ' ≤ fee τ + 1 ∧ τ'.bT = τ.bT := by
  have hE : τ.E.length ≤ 1000000 := by unfold fee at hf; omega
  have hcn := h.cnt
  refine (tSet_any w0 w τ B h.T (by omega) hE).mono ?_
  rintro e w' ⟨rfl, v', G⟩
  have hg := SGo.of_tt h G rfl (by simp only [List.length_append, List.length_cons, List.length_nil]; omega) h.by'
  have ht : ptOf { τ with v := v', c := { τ.c with set := τ.c.set + 1 }, A := if SetOk τ = true then B else τ.A, E := τ.E ++ [ef0 1 B 0 (SetOk τ)] } = (setP s.t B).2 := by
    rw [h.t]
    unfold ptOf setP SetOk
    by_cases hm : ((τ.c.set : Nat) : Int) ∈ τ.c.ss <;> simp [hm, EfD.pl, ef0, plE]
  rw [ht] at hg
  refine ⟨?_, _, hg, ?_, rfl⟩
  · rw [h.t]
    unfold setP ptOf SetOk
    rfl
  · unfold fee; simp only [List.length_append, List.length_cons, List.length_nil]; omega
def attrC (A : At3) : Obj := .cells #[.int .u32 A.fl, .int .u8 A.mn, .int .u8 A.tm] 71 (0, 0)
def ptrC (b : Nat) : Obj := .cells #[.pointer (some ⟨b, 0, none⟩)] 178 (0, 0)
def intC (o : Int) : Obj := .cells #[.int .i64 o] 3 (0, 0)
def LastQ (w0 : World) (γ : Gm) (τ : Tt) (s : Ss) (rd : List Int) (b2 : Nat) (A : At3) (o : Int) (w w' : World) : Prop :=
  ∃ τ' w1, SGo w0 w γ τ τ' { s with t := (setP s.t A).2 } rd w1 ∧ Chg [b2] w1 w' ∧ w'.heap[b2]? = some (intC (if (setP s.t A).1 = true then o else 4)) ∧ ¬ Sown γ τ' b2 ∧ fee τ' ≤ fee τ + 1
set_option maxHeartbeats 8000000 in
theorem fin_any (w0 w : World) (γ : Gm) (τ : Tt) (s : Ss) (rd : List Int) (b1 b2 b3 : Nat) (A : At3) (o : Int) (h : SesIs w0 w γ τ s rd) (hf : fee τ ≤ 999990) (h1 : w.heap[b1]? = some (ptrC γ.bS) ∧ ¬ Sown γ τ b1) (h2 : w.heap[b2]? = some (intC o) ∧ ¬ Sown γ τ b2) (h3 : w.heap[b3]? = some (attrC A) ∧ ¬ Sown γ τ b3) :
    CallsD Tryz.prog 136 #[.pointer (some ⟨b1, 0, none⟩), .pointer (some ⟨b3, 0, none⟩), .pointer (some ⟨b2, 0, none⟩)] .returning w fun e u' w' => u' = .returning ∧ (∃ v, e = .returned v) ∧ LastQ w0 γ τ s rd b2 A o w w' := by
  have x0 : w.cell? ⟨b1, 0, none⟩ = some (.pointer (some ⟨γ.bS, 0, none⟩)) := by rw [cell_of_heap h1.1]; rfl
  have x1 : w.cell? ⟨γ.bS, 0, none⟩ = some (.pointer (some ⟨τ.bT, 0, none⟩)) := by rw [cell_of_heap h.S]; rfl
  have x2 : w.cell? ⟨b3, 0, none⟩ = some (.int .u32 A.fl) := by rw [cell_of_heap h3.1]; rfl
  have x3 : w.cell? ⟨b3, 1, none⟩ = some (.int .u8 A.mn) := by rw [cell_of_heap h3.1]; rfl
  have x4 : w.cell? ⟨b3, 2, none⟩ = some (.int .u8 A.tm) := by rw [cell_of_heap h3.1]; rfl
  have HSET := Lib.hid (fun W (cW : Chg [] w W) => sSet_any w0 W γ τ s rd A (h.chg0 cW) (by omega))
  have HH := Lib.hid (And.intro h (And.intro h1 (And.intro h2 h3)))
  unfold At3.val at HSET
  obtain ⟨ok, hok⟩ : ∃ ok, ok = (setP s.t A).1 := ⟨_, rfl⟩
  rw [← hok] at HSET
  have HOK := Lib.hid hok
  clear h hf h1 h2 h3 hok
  cases ok with
  | true =>
    refine calledM Tryz.func136 rfl ?_
    simp only [Tryz.ntmps136, List.size_toArray, List.length_cons, List.length_nil, Nat.reduceAdd, Nat.reduceSub, Array.replicate_succ, Array.replicate_zero, List.push_toArray, List.append_toArray, List.nil_append, List.cons_append]
    go_upto_region 0 with (fail)
    go_region_held3 (fun w' => w'.cell? ⟨b1, 0, none⟩ = some (.pointer (some ⟨γ.bS, 0, none⟩)) ∧ w'.cell? ⟨γ.bS, 0, none⟩ = some (.pointer (some ⟨τ.bT, 0, none⟩)) ∧ w'.cell? ⟨b3, 0, none⟩ = some (.int .u32 A.fl) ∧ w'.cell? ⟨b3, 1, none⟩ = some (.int .u8 A.mn) ∧ w'.cell? ⟨b3, 2, none⟩ = some (.int .u8 A.tm))
      (first | exact ⟨x0, x1, x2, x3, x4⟩ | exact ⟨(by rw [cell_of_heap (G4.box HH.out.2.1).1]; rfl), (by rw [← hbT, cell_of_heap G4.is.S]; rfl), (by rw [cell_of_heap (G4.box HH.out.2.2.2).1]; rfl), (by rw [cell_of_heap (G4.box HH.out.2.2.2).1]; rfl), (by rw [cell_of_heap (G4.box HH.out.2.2.2).1]; rfl)⟩ | go_keep)
      (first
       | (go_at_call 137; refine (HSET.out _ (by first | exact Chg.refl [] w | exact (Chg.refl [] w).drew | exact (Chg.refl [] w).drewN _)).mono ?_; rintro e w4 ⟨rfl, τ4, G4', f4, hbT⟩; have G4 := SGo.pre0 (by first | exact (Chg.refl [] w) | exact (Chg.refl [] w).drew | exact (Chg.refl [] w).drewN _) G4'))
    have HB2 := Lib.hid (G4.box HH.out.2.2.1)
    have HG := Lib.hid (And.intro G4 f4)
    clear x0 x1 x2 x3 x4 G4 G4' f4 hbT
    go_wp2_with fail
    go_end0
    refine ⟨⟨_, rfl⟩, τ4, w4, HG.out.1, Chg.refl _ _, ?_, HB2.out.2, HG.out.2⟩
    rw [← HOK.out, if_pos rfl]
    exact HB2.out.1
  | false =>
    refine calledM Tryz.func136 rfl ?_
    simp only [Tryz.ntmps136, List.size_toArray, List.length_cons, List.length_nil, Nat.reduceAdd, Nat.reduceSub, Array.replicate_succ, Array.replicate_zero, List.push_toArray, List.append_toArray, List.nil_append, List.cons_append]
    go_upto_region 0 with (fail)
    go_region_held3 (fun w' => w'.cell? ⟨b1, 0, none⟩ = some (.pointer (some ⟨γ.bS, 0, none⟩)) ∧ w'.cell? ⟨γ.bS, 0, none⟩ = some (.pointer (some ⟨τ.bT, 0, none⟩)) ∧ w'.cell? ⟨b3, 0, none⟩ = some (.int .u32 A.fl) ∧ w'.cell? ⟨b3, 1, none⟩ = some (.int .u8 A.mn) ∧ w'.cell? ⟨b3, 2, none⟩ = some (.int .u8 A.tm))
      (first | exact ⟨x0, x1, x2, x3, x4⟩ | exact ⟨(by rw [cell_of_heap (G4.box HH.out.2.1).1]; rfl), (by rw [← hbT, cell_of_heap G4.is.S]; rfl), (by rw [cell_of_heap (G4.box HH.out.2.2.2).1]; rfl), (by rw [cell_of_heap (G4.box HH.out.2.2.2).1]; rfl), (by rw [cell_of_heap (G4.box HH.out.2.2.2).1]; rfl)⟩ | go_keep)
      (first
       | (go_at_call 137; refine (HSET.out _ (by first | exact Chg.refl [] w | exact (Chg.refl [] w).drew | exact (Chg.refl [] w).drewN _)).mono ?_; rintro e w4 ⟨rfl, τ4, G4', f4, hbT⟩; have G4 := SGo.pre0 (by first | exact (Chg.refl [] w) | exact (Chg.refl [] w).drew | exact (Chg.refl [] w).drewN _) G4'))
    have HB2 := Lib.hid (G4.box HH.out.2.2.1)
    have HG := Lib.hid (And.intro G4 f4)
    clear x0 x1 x2 x3 x4 G4 G4' f4 hbT
    have y2 : w4.cell? ⟨b2, 0, none⟩ = some (.int .i64 o) := by rw [cell_of_heap HB2.out.1]; rfl
    have f2 : w4.frozen? ⟨b2, 0, none⟩ = false := free_of_heap HB2.out.1 0
    go_wp2_with fail
    go_end0
    refine ⟨⟨_, rfl⟩, τ4, w4, HG.out.1, (Chg.refl [b2] w4).setCell (p := ⟨b2, 0, none⟩) (Or.inl List.mem_cons_self) _, ?_, HB2.out.2, HG.out.2⟩
    rw [← HOK.out, if_neg (by decide)]
    rw [setCell_heap _ HB2.out.1]
    rfl
theorem as_end (g bx : Nat) (w : World) (hL : LibT w) (hx : w.heap[bx]? = some (.cells #[.pointer none] 222 (0, 0))) :
    Calls Tryz.prog 139 #[.iface 222 (.pointer (some ⟨g, 0, none⟩)), .iface 227 (.pointer (some ⟨bx, 0, none⟩))] w fun e w' => e = .returned (.bool true) ∧ Chg [bx] w w' ∧ w'.heap[bx]? = some (.cells #[.pointer (some ⟨g, 0, none⟩)] 222 (0, 0)) := by
  refine (as_hit ⟨g, 0, none⟩ ⟨bx, 0, none⟩ (.pointer none) w hL.e (by rw [cell_of_heap hx]; rfl) (free_of_heap hx 0)).mono ?_
  rintro e w' ⟨rfl, rfl⟩
  have c1 : Chg [bx] w ((((w.alloc (.cells #[.pointer (some ⟨bx, 0, none⟩)] 227)).alloc (.cells #[.pointer (some ⟨8, 227, none⟩), .pointer (some ⟨w.heap.size, 0, none⟩), .int .u64 150] 257)).alloc (.cells #[.pointer (some ⟨8, 227, none⟩), .pointer (some ⟨w.heap.size, 0, none⟩), .int .u64 150] 257)).alloc (.cells #[.pointer (some ⟨g, 0, none⟩)] 222)) := ((((Chg.refl _ _).alloc _).alloc _).alloc _).alloc _
  have h1 := alloc_keeps (o := .cells #[.pointer (some ⟨g, 0, none⟩)] 222) (alloc_keeps (o := .cells #[.pointer (some ⟨8, 227, none⟩), .pointer (some ⟨w.heap.size, 0, none⟩), .int .u64 150] 257) (alloc_keeps (o := .cells #[.pointer (some ⟨8, 227, none⟩), .pointer (some ⟨w.heap.size, 0, none⟩), .int .u64 150] 257) (alloc_keeps (o := .cells #[.pointer (some ⟨bx, 0, none⟩)] 227) hx)))
  refine ⟨rfl, c1.setCell (p := ⟨bx, 0, none⟩) (Or.inl List.mem_cons_self) _, ?_⟩
  rw [setCell_heap _ h1]
  rfl
theorem fin_runs (b1 b2 b3 : Nat) (w : World) : (invoke (.fn (Fn.func 136) #[.pointer (some ⟨b1, 0, none⟩), .pointer (some ⟨b3, 0, none⟩), .pointer (some ⟨b2, 0, none⟩)]) #[]).run Tryz.prog w = .ok (.enter 136 #[.pointer (some ⟨b1, 0, none⟩), .pointer (some ⟨b3, 0, none⟩), .pointer (some ⟨b2, 0, none⟩)]) w := by kernel_rfl
def AllPost (w0 : World) (γ : Gm) (τ : Tt) (s : Ss) (w : World) (e : Ending) (w' : World) : Prop :=
  ∃ τ' o s' rd', e = .returned (.int .i64 o) ∧ AllR γ.q s o s' ∧ SGo w0 w γ τ τ' s' rd' w' ∧ fee τ' ≤ fee τ + s.d.h.length + budI s.t.its + 20
theorem all_res {tmps : Array Value} {b2 : Nat} {o : Int} {w : World} (hp : tmps.getD 2 undef = .pointer (some ⟨b2, 0, none⟩)) (h2 : w.heap[b2]? = some (intC o)) : (results Tryz.f110 tmps).run Tryz.prog w = .ok (.int .i64 o) w := by
  have hp' : tmps[2]?.getD undef = .pointer (some ⟨b2, 0, none⟩) := by simpa using hp
  have x2 : w.cell? ⟨b2, 0, none⟩ = some (.int .i64 o) := by rw [cell_of_heap h2]; rfl
  simp [results, Tryz.results110, go_sem, hp', x2]
theorem all_leave {w0 w w' : World} {γ : Gm} {τ τ' : Tt} {s s' : Ss} {rd' : List Int} {b1 b2 b3 : Nat} {A : At3} {o : Int} {tmps : Array Value} (hp : tmps.getD 2 undef = .pointer (some ⟨b2, 0, none⟩)) (hA : AllR γ.q s (if (setP s'.t A).1 = true then o else 4) { s' with t := (setP s'.t A).2 }) (G : SGo w0 w γ τ τ' s' rd' w')
    (hw0 : w0.heap.size ≤ w.heap.size) (h1 : w'.heap[b1]? = some (ptrC γ.bS) ∧ ¬ Sown γ τ' b1) (h2 : w'.heap[b2]? = some (intC o) ∧ ¬ Sown γ τ' b2) (hb2 : w.heap.size ≤ b2) (h3 : w'.heap[b3]? = some (attrC A) ∧ ¬ Sown γ τ' b3)
    (hf : fee τ' ≤ fee τ + s.d.h.length + budI s.t.its + 19) (hf9 : fee τ' ≤ 999990) :
    LeavesM Tryz.prog Tryz.f110 tmps (AllPost w0 γ τ s w) [{ target := .fn (Fn.func 136) #[.pointer (some ⟨b1, 0, none⟩), .pointer (some ⟨b3, 0, none⟩), .pointer (some ⟨b2, 0, none⟩)], args := #[] }] w' := by
  refine LeavesM.fn (fin_runs b1 b2 b3 w') (fin_any w0 w' γ τ' s' rd' b1 b2 b3 A o G.is hf9 h1 h2 h3) (fun w2 hq => ?_)
  obtain ⟨τ2, w1, G2, c2, hc, hn, f2⟩ := hq
  refine LeavesM.none (all_res hp hc) ⟨τ2, _, _, rd', rfl, hA, (G.trans G2).mine c2 (fun x hx => ?_) hw0, by omega⟩
  rw [List.mem_singleton.1 hx]
  exact ⟨hb2, hn⟩
end Go.Proofs.YtafmnkngjjnpiaaGreatDoor

namespace Go.Proofs.YtafmnkngjjnpiaaGreatDoor
set_option linter.unusedVariables false
set_option linter.unusedSimpArgs false
set_option maxRecDepth 100000
open Go.RowKit
structure AllB (γ : Gm) (τ : Tt) (b1 b2 : Nat) (o : Int) (w : World) : Prop where
  h1 : w.heap[b1]? = some (ptrC γ.bS) ∧ ¬ Sown γ τ b1
  h2 : w.heap[b2]? = some (intC o) ∧ ¬ Sown γ τ b2
theorem AllB.go {w0 a b : World} {γ : Gm} {τ τ' : Tt} {s' : Ss} {rd' : List Int} {b1 b2 : Nat} {o : Int} (h : AllB γ τ b1 b2 o a) (G : SGo w0 a γ τ τ' s' rd' b) : AllB γ τ' b1 b2 o b := ⟨G.box h.h1, G.box h.h2⟩
set_option maxHeartbeats 16000000 in
theorem all_get (w0 w : World) (γ : Gm) (τ : Tt) (s : Ss) (rd : List Int) (h : SesIs w0 w γ τ s rd) (hf : fee τ ≤ 970000) (hok : (getP s.t).1 = false) :
    Calls Tryz.prog 110 #[.pointer (some ⟨γ.bS, 0, none⟩)] w (AllPost w0 γ τ s w) := by
  have C1 : Chg [] w ((w.alloc (.cells #[.pointer (some ⟨γ.bS, 0, none⟩)] 178)).alloc (.cells #[.int .i64 0] 3)) := ((Chg.refl _ _).alloc _).alloc _
  have hB : AllB γ τ w.heap.size (w.heap.size + 1) 0 ((w.alloc (.cells #[.pointer (some ⟨γ.bS, 0, none⟩)] 178)).alloc (.cells #[.int .i64 0] 3)) := ⟨⟨alloc_keeps (alloc_heap w _), h.new (Nat.le_refl _)⟩, ⟨alloc2_heap w _ _, h.new (by omega)⟩⟩
  have H1 := h.chg0 C1
  have x0 : ((w.alloc (.cells #[.pointer (some ⟨γ.bS, 0, none⟩)] 178)).alloc (.cells #[.int .i64 0] 3)).cell? ⟨w.heap.size, 0, none⟩ = some (.pointer (some ⟨γ.bS, 0, none⟩)) := by rw [cell_of_heap hB.h1.1]; rfl
  have x1 : ((w.alloc (.cells #[.pointer (some ⟨γ.bS, 0, none⟩)] 178)).alloc (.cells #[.int .i64 0] 3)).cell? ⟨γ.bS, 0, none⟩ = some (.pointer (some ⟨τ.bT, 0, none⟩)) := by rw [cell_of_heap H1.S]; rfl
  have hget := sGet_any w0 _ γ τ s rd H1 (by omega)
  rw [hok] at hget
  have HGET := Lib.hid hget
  have HH := Lib.hid (And.intro h (And.intro C1 (And.intro hB (And.intro hf hok))))
  clear h hf C1 hB H1 hget hok
  unfold At3.val at HGET
  refine calls_of_wp_m Tryz.func110 rfl ?_
  simp only [Tryz.ntmps110, List.size_toArray, List.length_cons, List.length_nil, Nat.reduceAdd, Nat.reduceSub, Array.replicate_succ, Array.replicate_zero, List.push_toArray, List.append_toArray, List.nil_append, List.cons_append]
  go_wp2_with fail
  refine (HGET.out).mono ?_
  rintro e w4 ⟨rfl, τ4, G4, f4, _⟩
  have hB4 := HH.out.2.2.1.go G4
  have HG4 := Lib.hid (And.intro (SGo.pre0 HH.out.2.1 G4) (And.intro f4 hB4))
  have h5 : (w4.alloc (.cells #[.int .u32 at0.fl, .int .u8 at0.mn, .int .u8 at0.tm] 71)).heap[w.heap.size + 1]? = some (intC 0) := alloc_keeps hB4.h2.1
  have C5 : Chg [] w4 (w4.alloc (.cells #[.int .u32 at0.fl, .int .u8 at0.mn, .int .u8 at0.tm] 71)) := (Chg.refl _ _).alloc _
  have y2 : (w4.alloc (.cells #[.int .u32 at0.fl, .int .u8 at0.mn, .int .u8 at0.tm] 71)).cell? ⟨w.heap.size + 1, 0, none⟩ = some (.int .i64 0) := by rw [cell_of_heap h5]; rfl
  have z2 : (w4.alloc (.cells #[.int .u32 at0.fl, .int .u8 at0.mn, .int .u8 at0.tm] 71)).frozen? ⟨w.heap.size + 1, 0, none⟩ = false := free_of_heap h5 0
  have H5 := Lib.hid (And.intro h5 C5)
  clear G4 f4 hB4 HGET h5 C5
  go_wp2_with fail
  generalize hw5 : w4.alloc _ = w5 at *
  have hh := HH.out
  have hg := HG4.out
  have hnb := hg.2.2.h2.2
  refine LeavesM.none (all_res (b2 := w.heap.size + 1) (o := 4) rfl (by rw [setCell_heap _ H5.out.1]; rfl)) ⟨τ4, 4, { s with t := (getP s.t).2 }, rd, rfl, .get hh.2.2.2.2, ?_, by omega⟩
  refine ((hg.1.chg0 H5.out.2).mine ((Chg.refl [w.heap.size + 1] w5).setCell (p := ⟨w.heap.size + 1, 0, none⟩) (Or.inl List.mem_cons_self) _) (fun x hx => ?_) hh.1.c0.size)
  rw [List.mem_singleton.1 hx]
  exact ⟨by omega, hnb⟩
set_option maxHeartbeats 16000000 in
theorem all_raw (w0 w : World) (γ : Gm) (τ : Tt) (s : Ss) (rd : List Int) (h : SesIs w0 w γ τ s rd) (hf : fee τ + s.d.h.length + budI s.t.its ≤ 970000) (hok : (getP s.t).1 = true) (hok2 : (setP (getP s.t).2 (rawA s.t.A)).1 = false) :
    Calls Tryz.prog 110 #[.pointer (some ⟨γ.bS, 0, none⟩)] w (AllPost w0 γ τ s w) := by
  have C1 : Chg [] w ((w.alloc (.cells #[.pointer (some ⟨γ.bS, 0, none⟩)] 178)).alloc (.cells #[.int .i64 0] 3)) := ((Chg.refl _ _).alloc _).alloc _
  have hB : AllB γ τ w.heap.size (w.heap.size + 1) 0 ((w.alloc (.cells #[.pointer (some ⟨γ.bS, 0, none⟩)] 178)).alloc (.cells #[.int .i64 0] 3)) := ⟨⟨alloc_keeps (alloc_heap w _), h.new (Nat.le_refl _)⟩, ⟨alloc2_heap w _ _, h.new (by omega)⟩⟩
  have H1 := h.chg0 C1
  have x0 : ((w.alloc (.cells #[.pointer (some ⟨γ.bS, 0, none⟩)] 178)).alloc (.cells #[.int .i64 0] 3)).cell? ⟨w.heap.size, 0, none⟩ = some (.pointer (some ⟨γ.bS, 0, none⟩)) := by rw [cell_of_heap hB.h1.1]; rfl
  have x1 : ((w.alloc (.cells #[.pointer (some ⟨γ.bS, 0, none⟩)] 178)).alloc (.cells #[.int .i64 0] 3)).cell? ⟨γ.bS, 0, none⟩ = some (.pointer (some ⟨τ.bT, 0, none⟩)) := by rw [cell_of_heap H1.S]; rfl
  have hget := sGet_any w0 _ γ τ s rd H1 (by omega)
  rw [hok] at hget
  have hits : (setP (getP s.t).2 (rawA s.t.A)).2.its = s.t.its := rfl
  obtain ⟨A, hA⟩ : ∃ A, A = s.t.A := ⟨_, rfl⟩
  rw [← hA] at hget hok2 hits
  have HA := Lib.hid (And.intro hA hits)
  have HGET := Lib.hid hget
  have HH := Lib.hid (And.intro h (And.intro C1 (And.intro hB (And.intro hf (And.intro hok hok2)))))
  clear h hf C1 hB H1 hget hok hok2 hA hits
  unfold At3.val at HGET
  refine calls_of_wp_m Tryz.func110 rfl ?_
  simp only [Tryz.ntmps110, List.size_toArray, List.length_cons, List.length_nil, Nat.reduceAdd, Nat.reduceSub, Array.replicate_succ, Array.replicate_zero, List.push_toArray, List.append_toArray, List.nil_append, List.cons_append]
  go_wp2_with fail
  refine (HGET.out).mono ?_
  rintro e w4 ⟨rfl, τ4, G4, f4, hb4⟩
  have hB4 := HH.out.2.2.1.go G4
  have G4w := SGo.pre0 HH.out.2.1 G4
  have h53 := alloc_heap w4 (.cells #[.int .u32 A.fl, .int .u8 A.mn, .int .u8 A.tm] 71)
  have C5 : Chg [] w4 (w4.alloc (.cells #[.int .u32 A.fl, .int .u8 A.mn, .int .u8 A.tm] 71)) := (Chg.refl _ _).alloc _
  have n53 : ¬ Sown γ τ4 w4.heap.size := G4w.is.new (Nat.le_refl _)
  have hB5 : AllB γ τ4 w.heap.size (w.heap.size + 1) 0 (w4.alloc (.cells #[.int .u32 A.fl, .int .u8 A.mn, .int .u8 A.tm] 71)) := ⟨⟨alloc_keeps hB4.h1.1, hB4.h1.2⟩, ⟨alloc_keeps hB4.h2.1, hB4.h2.2⟩⟩
  have G5w := G4w.chg0 C5
  have hlt : w.heap.size + 1 < w4.heap.size := heap_lt hB4.h2.1
  have HG5 := Lib.hid (And.intro G5w (And.intro f4 (And.intro hB5 (And.intro (And.intro h53 n53) hlt))))
  clear G4 f4 hB4 HGET C5 G4w hB5 G5w x0 x1 h53 n53 hlt
  go_upto_region 5 with (fail)
  generalize hw5 : w4.alloc _ = w5 at *
  generalize hb3 : w4.heap.size = b3 at *
  have hg := HG5.out
  have x0 : w5.cell? ⟨w.heap.size, 0, none⟩ = some (.pointer (some ⟨γ.bS, 0, none⟩)) := by rw [cell_of_heap hg.2.2.1.h1.1]; rfl
  have x1 : w5.cell? ⟨γ.bS, 0, none⟩ = some (.pointer (some ⟨τ.bT, 0, none⟩)) := by rw [← hb4, cell_of_heap hg.1.is.S]; rfl
  have x2 : w5.cell? ⟨b3, 0, none⟩ = some (.int .u32 A.fl) := by rw [cell_of_heap hg.2.2.2.1.1]; rfl
  have x3 : w5.cell? ⟨b3, 1, none⟩ = some (.int .u8 A.mn) := by rw [cell_of_heap hg.2.2.2.1.1]; rfl
  have x4 : w5.cell? ⟨b3, 2, none⟩ = some (.int .u8 A.tm) := by rw [cell_of_heap hg.2.2.2.1.1]; rfl
  have HSET := Lib.hid (fun W (cW : Chg [] w5 W) => sSet_any w0 W γ τ4 _ rd (rawA A) (hg.1.is.chg0 cW) (by have := HH.out.2.2.2.1; omega))
  have HRAW := Lib.hid (fun W => raw_any A W)
  dsimp only at HSET
  rw [HH.out.2.2.2.2.2, hb4] at HSET
  unfold At3.val at HSET HRAW
  have HW5 := Lib.hid (And.intro hw5 (And.intro hb3 hb4))
  clear hg hw5 hb3 hb4
  go_region_held3 (fun w' => w'.cell? ⟨w.heap.size, 0, none⟩ = some (.pointer (some ⟨γ.bS, 0, none⟩)) ∧ w'.cell? ⟨γ.bS, 0, none⟩ = some (.pointer (some ⟨τ.bT, 0, none⟩)) ∧ w'.cell? ⟨b3, 0, none⟩ = some (.int .u32 A.fl) ∧ w'.cell? ⟨b3, 1, none⟩ = some (.int .u8 A.mn) ∧ w'.cell? ⟨b3, 2, none⟩ = some (.int .u8 A.tm))
    (first | exact ⟨x0, x1, x2, x3, x4⟩ | exact ⟨C6.cell x0 (by simp), C6.cell x1 (by simp), C6.cell x2 (by simp), C6.cell x3 (by simp), C6.cell x4 (by simp)⟩ | exact ⟨(by rw [cell_of_heap (G7.box (HG5.out.2.2.1.h1)).1]; rfl), (by rw [← hb7, cell_of_heap G7.is.S]; rfl), (by rw [cell_of_heap (G7.box HG5.out.2.2.2.1).1]; rfl), (by rw [cell_of_heap (G7.box HG5.out.2.2.2.1).1]; rfl), (by rw [cell_of_heap (G7.box HG5.out.2.2.2.1).1]; rfl)⟩ | go_keep)
    (first
     | (go_at_call 138; refine (HRAW.out _).mono ?_; rintro e w6 ⟨rfl, C6'⟩; have C6 : Chg [] w5 w6 := (by first | exact C6' | exact C6'.of_drew | exact C6'.of_drewN))
     | (go_at_call 137; refine (HSET.out _ (by first | exact C6 | exact C6.drew | exact C6.drewN _)).mono ?_; rintro e w7 ⟨rfl, τ7, G7', f7, hb7⟩; have G7 := SGo.pre0 (by first | exact C6 | exact C6.drew | exact C6.drewN _) G7'))
  have hB7 := HG5.out.2.2.1.go G7
  have hB37 := G7.box HG5.out.2.2.2.1
  have G7w := HG5.out.1.trans G7
  have HG7 := Lib.hid (And.intro G7w (And.intro f7 (And.intro hB7 hB37)))
  clear x0 x1 x2 x3 x4 C6 C6' G7 G7' f7 hb7 HSET HRAW G7w hB37
  have y2 : w7.cell? ⟨w.heap.size + 1, 0, none⟩ = some (.int .i64 0) := by rw [cell_of_heap hB7.h2.1]; rfl
  have z2 : w7.frozen? ⟨w.heap.size + 1, 0, none⟩ = false := free_of_heap hB7.h2.1 0
  clear hB7
  go_wp2_with fail
  have hg := HG7.out
  have hh := HH.out
  have h5 := HG5.out
  have hlt := h5.2.2.2.2
  have hb3 := HW5.out.2.1
  have c8 := (Chg.refl [w.heap.size + 1] w7).setCell (p := ⟨w.heap.size + 1, 0, none⟩) (Or.inl List.mem_cons_self) (.int .i64 4)
  have G8 := hg.1.mine c8 (fun x hx => by rw [List.mem_singleton.1 hx]; exact ⟨by omega, hg.2.2.1.h2.2⟩) hh.1.c0.size
  refine all_leave (A := A) (o := 4) rfl ?_ G8 hh.1.c0.size ⟨c8.heap hg.2.2.1.h1.1 (by simp), hg.2.2.1.h1.2⟩ ⟨by rw [setCell_heap _ hg.2.2.1.h2.1]; rfl, hg.2.2.1.h2.2⟩ (by omega) ⟨c8.heap hg.2.2.2.1 (by simp; omega), hg.2.2.2.2⟩ ?_ ?_
  · rw [show (if (setP (setP (getP s.t).2 (rawA A)).2 A).1 = true then (4 : Int) else 4) = 4 by split <;> rfl, HA.out.1]
    exact .raw hh.2.2.2.2.1 (by rw [← HA.out.1]; exact hh.2.2.2.2.2)
  · have := hg.2.1; have := h5.2.1; omega
  · have := hg.2.1; have := h5.2.1; have := hh.2.2.2.1; omega
set_option maxHeartbeats 16000000 in
theorem all_talk (w0 w : World) (γ : Gm) (τ : Tt) (s : Ss) (rd : List Int) (h : SesIs w0 w γ τ s rd) (hf : fee τ + s.d.h.length + budI s.t.its ≤ 970000) (hok : (getP s.t).1 = true) (hok2 : (setP (getP s.t).2 (rawA s.t.A)).1 = true) :
    Calls Tryz.prog 110 #[.pointer (some ⟨γ.bS, 0, none⟩)] w (AllPost w0 γ τ s w) := by
  have C1 : Chg [] w ((w.alloc (.cells #[.pointer (some ⟨γ.bS, 0, none⟩)] 178)).alloc (.cells #[.int .i64 0] 3)) := ((Chg.refl _ _).alloc _).alloc _
  have hB : AllB γ τ w.heap.size (w.heap.size + 1) 0 ((w.alloc (.cells #[.pointer (some ⟨γ.bS, 0, none⟩)] 178)).alloc (.cells #[.int .i64 0] 3)) := ⟨⟨alloc_keeps (alloc_heap w _), h.new (Nat.le_refl _)⟩, ⟨alloc2_heap w _ _, h.new (by omega)⟩⟩
  have H1 := h.chg0 C1
  have x0 : ((w.alloc (.cells #[.pointer (some ⟨γ.bS, 0, none⟩)] 178)).alloc (.cells #[.int .i64 0] 3)).cell? ⟨w.heap.size, 0, none⟩ = some (.pointer (some ⟨γ.bS, 0, none⟩)) := by rw [cell_of_heap hB.h1.1]; rfl
  have x1 : ((w.alloc (.cells #[.pointer (some ⟨γ.bS, 0, none⟩)] 178)).alloc (.cells #[.int .i64 0] 3)).cell? ⟨γ.bS, 0, none⟩ = some (.pointer (some ⟨τ.bT, 0, none⟩)) := by rw [cell_of_heap H1.S]; rfl
  have hget := sGet_any w0 _ γ τ s rd H1 (by omega)
  rw [hok] at hget
  have hits : (setP (getP s.t).2 (rawA s.t.A)).2.its = s.t.its := rfl
  obtain ⟨A, hA⟩ : ∃ A, A = s.t.A := ⟨_, rfl⟩
  rw [← hA] at hget hok2 hits
  have HA := Lib.hid (And.intro hA hits)
  have HGET := Lib.hid hget
  have HH := Lib.hid (And.intro h (And.intro C1 (And.intro hB (And.intro hf (And.intro hok hok2)))))
  clear h hf C1 hB H1 hget hok hok2 hA hits
  unfold At3.val at HGET
  refine calls_of_wp_m Tryz.func110 rfl ?_
  simp only [Tryz.ntmps110, List.size_toArray, List.length_cons, List.length_nil, Nat.reduceAdd, Nat.reduceSub, Array.replicate_succ, Array.replicate_zero, List.push_toArray, List.append_toArray, List.nil_append, List.cons_append]
  go_wp2_with fail
  refine (HGET.out).mono ?_
  rintro e w4 ⟨rfl, τ4, G4, f4, hb4⟩
  have hB4 := HH.out.2.2.1.go G4
  have G4w := SGo.pre0 HH.out.2.1 G4
  have h53 := alloc_heap w4 (.cells #[.int .u32 A.fl, .int .u8 A.mn, .int .u8 A.tm] 71)
  have C5 : Chg [] w4 (w4.alloc (.cells #[.int .u32 A.fl, .int .u8 A.mn, .int .u8 A.tm] 71)) := (Chg.refl _ _).alloc _
  have n53 : ¬ Sown γ τ4 w4.heap.size := G4w.is.new (Nat.le_refl _)
  have hB5 : AllB γ τ4 w.heap.size (w.heap.size + 1) 0 (w4.alloc (.cells #[.int .u32 A.fl, .int .u8 A.mn, .int .u8 A.tm] 71)) := ⟨⟨alloc_keeps hB4.h1.1, hB4.h1.2⟩, ⟨alloc_keeps hB4.h2.1, hB4.h2.2⟩⟩
  have G5w := G4w.chg0 C5
  have hlt : w.heap.size + 1 < w4.heap.size := heap_lt hB4.h2.1
  have HG5 := Lib.hid (And.intro G5w (And.intro f4 (And.intro hB5 (And.intro (And.intro h53 n53) hlt))))
  clear G4 f4 hB4 HGET C5 G4w hB5 G5w x0 x1 h53 n53 hlt
  go_upto_region 5 with (fail)
  generalize hw5 : w4.alloc _ = w5 at *
  generalize hb3 : w4.heap.size = b3 at *
  have hg := HG5.out
  have x0 : w5.cell? ⟨w.heap.size, 0, none⟩ = some (.pointer (some ⟨γ.bS, 0, none⟩)) := by rw [cell_of_heap hg.2.2.1.h1.1]; rfl
  have x1 : w5.cell? ⟨γ.bS, 0, none⟩ = some (.pointer (some ⟨τ.bT, 0, none⟩)) := by rw [← hb4, cell_of_heap hg.1.is.S]; rfl
  have x2 : w5.cell? ⟨b3, 0, none⟩ = some (.int .u32 A.fl) := by rw [cell_of_heap hg.2.2.2.1.1]; rfl
  have x3 : w5.cell? ⟨b3, 1, none⟩ = some (.int .u8 A.mn) := by rw [cell_of_heap hg.2.2.2.1.1]; rfl
  have x4 : w5.cell? ⟨b3, 2, none⟩ = some (.int .u8 A.tm) := by rw [cell_of_heap hg.2.2.2.1.1]; rfl
  have HSET := Lib.hid (fun W (cW : Chg [] w5 W) => sSet_any w0 W γ τ4 _ rd (rawA A) (hg.1.is.chg0 cW) (by have := HH.out.2.2.2.1; omega))
  have HRAW := Lib.hid (fun W => raw_any A W)
  dsimp only at HSET
  rw [HH.out.2.2.2.2.2, hb4] at HSET
  unfold At3.val at HSET HRAW
  have HW5 := Lib.hid (And.intro hw5 (And.intro hb3 hb4))
  clear hg hw5 hb3 hb4
  go_region_held3 (fun w' => w'.cell? ⟨w.heap.size, 0, none⟩ = some (.pointer (some ⟨γ.bS, 0, none⟩)) ∧ w'.cell? ⟨γ.bS, 0, none⟩ = some (.pointer (some ⟨τ.bT, 0, none⟩)) ∧ w'.cell? ⟨b3, 0, none⟩ = some (.int .u32 A.fl) ∧ w'.cell? ⟨b3, 1, none⟩ = some (.int .u8 A.mn) ∧ w'.cell? ⟨b3, 2, none⟩ = some (.int .u8 A.tm))
    (first | exact ⟨x0, x1, x2, x3, x4⟩ | exact ⟨C6.cell x0 (by simp), C6.cell x1 (by simp), C6.cell x2 (by simp), C6.cell x3 (by simp), C6.cell x4 (by simp)⟩ | exact ⟨(by rw [cell_of_heap (G7.box (HG5.out.2.2.1.h1)).1]; rfl), (by rw [← hb7, cell_of_heap G7.is.S]; rfl), (by rw [cell_of_heap (G7.box HG5.out.2.2.2.1).1]; rfl), (by rw [cell_of_heap (G7.box HG5.out.2.2.2.1).1]; rfl), (by rw [cell_of_heap (G7.box HG5.out.2.2.2.1).1]; rfl)⟩ | go_keep)
    (first
     | (go_at_call 138; refine (HRAW.out _).mono ?_; rintro e w6 ⟨rfl, C6'⟩; have C6 : Chg [] w5 w6 := (by first | exact C6' | exact C6'.of_drew | exact C6'.of_drewN))
     | (go_at_call 137; refine (HSET.out _ (by first | exact C6 | exact C6.drew | exact C6.drewN _)).mono ?_; rintro e w7 ⟨rfl, τ7, G7', f7, hb7⟩; have G7 := SGo.pre0 (by first | exact C6 | exact C6.drew | exact C6.drewN _) G7'))
  have hB7 := HG5.out.2.2.1.go G7
  have hB37 := G7.box HG5.out.2.2.2.1
  have G7w := HG5.out.1.trans G7
  have HG7 := Lib.hid (And.intro G7w (And.intro f7 (And.intro hB7 hB37)))
  clear x0 x1 x2 x3 x4 C6 C6' G7 G7' f7 hb7 HSET HRAW G7w hB37
  clear hB7
  have X8 := alloc_heap w7 (.cells #[.pointer none] 222)
  have C8 : Chg [] w7 (w7.alloc (.cells #[.pointer none] 222)) := (Chg.refl _ _).alloc _
  have hg := HG7.out
  have H8 := hg.1.is.chg0 C8
  have x0 : (w7.alloc (.cells #[.pointer none] 222)).cell? ⟨w.heap.size, 0, none⟩ = some (.pointer (some ⟨γ.bS, 0, none⟩)) := by rw [cell_of_heap (alloc_keeps hg.2.2.1.h1.1)]; rfl
  have HTK := Lib.hid (talk_any w0 _ γ τ7 _ rd H8 (by dsimp only; rw [HA.out.2]; have := hg.2.1; have := HG5.out.2.1; have := HH.out.2.2.2.1; omega))
  have nx : ¬ Sown γ τ7 w7.heap.size := hg.1.is.new (Nat.le_refl _)
  have HX := Lib.hid (And.intro (And.intro X8 nx) C8)
  clear X8 C8 H8 hg nx
  try dsimp only at HTK
  go_upto_region 8 with (fail)
  generalize hw8 : w7.alloc _ = w8 at *
  generalize hbx : w7.heap.size = bx at *
  go_wp2_with fail
  refine (HTK.out).mono ?_
  rintro e w9 ⟨v, τ9, o9, s9, rd9, rfl, T9, E9, G9, f9⟩
  rcases E9 with ⟨hr, _⟩ | ⟨o, g, hr, rfl, hgo, hgs, hgn⟩
  · cases hr
  · injection hr with hr
    subst hr
    have hx9 := G9.box HX.out.1
    have HAS := Lib.hid (as_end g bx w9 G9.is.L hx9.1)
    have hb9 : AllB γ τ9 w.heap.size (w.heap.size + 1) 0 w9 := AllB.go (a := w8) ⟨⟨HX.out.2.heap HG7.out.2.2.1.h1.1 (by simp), HG7.out.2.2.1.h1.2⟩, ⟨HX.out.2.heap HG7.out.2.2.1.h2.1 (by simp), HG7.out.2.2.1.h2.2⟩⟩ G9
    have hb39 := G9.box ⟨HX.out.2.heap HG7.out.2.2.2.1 (by simp), HG7.out.2.2.2.2⟩
    have HG9 := Lib.hid (And.intro ((HG7.out.1.chg0 HX.out.2).trans G9) (And.intro T9 (And.intro f9 (And.intro hb9 (And.intro hb39 (And.intro hx9 (And.intro hgo hgs)))))))
    clear T9 G9 f9 hgo hgs hgn hx9 hb9 hb39 HTK x0
    go_wp2_with fail
    refine (HAS.out).mono ?_
    rintro e w10 ⟨rfl, C10, X10⟩
    have h9 := HG9.out
    have hbx7 : b3 < bx ∧ w.heap.size + 1 < bx ∧ bx < g := by
      have q1 := heap_lt HG7.out.2.2.2.1
      have q2 := heap_lt HG7.out.2.2.1.h2.1
      have q3 := h9.2.2.2.2.2.2.2
      have q4 := heap_lt HX.out.1.1
      omega
    have y5 : w10.cell? ⟨bx, 0, none⟩ = some (.pointer (some ⟨g, 0, none⟩)) := by rw [cell_of_heap X10]; rfl
    have yg : w10.cell? ⟨g, 0, none⟩ = some (.int .i64 o9) := by rw [cell_of_heap (C10.heap h9.2.2.2.2.2.2.1 (by simp; omega))]; rfl
    have y2h := C10.heap h9.2.2.2.1.h2.1 (by simp; omega)
    have y2 : w10.cell? ⟨w.heap.size + 1, 0, none⟩ = some (.int .i64 0) := by rw [cell_of_heap y2h]; rfl
    have z2 : w10.frozen? ⟨w.heap.size + 1, 0, none⟩ = false := free_of_heap y2h 0
    have H10 := Lib.hid (And.intro C10 (And.intro y2h hbx7))
    clear h9 C10 X10 y2h hbx7 HAS
    go_wp2_with fail
    have h9 := HG9.out
    have h10 := H10.out
    have hh := HH.out
    have c11 := (Chg.refl [w.heap.size + 1] w10).setCell (p := ⟨w.heap.size + 1, 0, none⟩) (Or.inl List.mem_cons_self) (.int .i64 o9)
    have hsz := HG7.out.1.c.size
    have G11 := (h9.1.mine h10.1 (fun x hx => by rw [List.mem_singleton.1 hx]; exact ⟨by omega, h9.2.2.2.2.2.1.2⟩) hh.1.c0.size).mine c11 (fun x hx => by rw [List.mem_singleton.1 hx]; exact ⟨by omega, h9.2.2.2.1.h2.2⟩) hh.1.c0.size
    refine all_leave (A := A) (o := o9) rfl ?_ G11 hh.1.c0.size ⟨c11.heap (h10.1.heap h9.2.2.2.1.h1.1 (by simp; omega)) (by simp), h9.2.2.2.1.h1.2⟩ ⟨by rw [setCell_heap _ h10.2.1]; rfl, h9.2.2.2.1.h2.2⟩ (by omega) ⟨c11.heap (h10.1.heap h9.2.2.2.2.1.1 (by simp; omega)) (by simp; have := HG5.out.2.2.2.2; have := HW5.out.2.1; omega), h9.2.2.2.2.1.2⟩ ?_ ?_
    · rw [HA.out.1]
      exact .talk hh.2.2.2.2.1 (by rw [← HA.out.1]; exact hh.2.2.2.2.2) (by rw [← HA.out.1]; exact h9.2.1)
    · have q1 := h9.2.2.1
      try dsimp only at q1
      rw [HA.out.2] at q1
      have := HG7.out.2.1; have := HG5.out.2.1; omega
    · have q1 := h9.2.2.1
      try dsimp only at q1
      rw [HA.out.2] at q1
      have := HG7.out.2.1; have := HG5.out.2.1; have := hh.2.2.2.1; omega
theorem all_any (w0 w : World) (γ : Gm) (τ : Tt) (s : Ss) (rd : List Int) (h : SesIs w0 w γ τ s rd) (hf : fee τ + s.d.h.length + budI s.t.its ≤ 970000) :
    Calls Tryz.prog 110 #[.pointer (some ⟨γ.bS, 0, none⟩)] w (AllPost w0 γ τ s w) := by
  cases h1 : (getP s.t).1 with
  | false => exact all_get w0 w γ τ s rd h (by omega) h1
  | true =>
    cases h2 : (setP (getP s.t).2 (rawA s.t.A)).1 with
    | false => exact all_raw w0 w γ τ s rd h hf h1 h2
    | true => exact all_talk w0 w γ τ s rd h hf h1 h2
end Go.Proofs.YtafmnkngjjnpiaaGreatDoor
