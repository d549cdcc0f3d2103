import Derived.Test.YtafmnkngjjnpiaaGreatDoorRegU
import Derived.Test.YtafmnkngjjnpiaaGreatDoorTqI
import Derived.Laws.EntriesVeiled
namespace Go.Proofs.YtafmnkngjjnpiaaGreatDoor
set_option linter.unusedVariables false
set_option linter.unusedSimpArgs false
set_option maxRecDepth 100000
open Go.RowKit
theorem raw_any (a : At3) (w : World) : Calls Tryz.prog 138 #[a.val] w fun e w' => e = .returned ((rawA a).val) ∧ Chg [] w w' := by
  unfold At3.val
  go_enter Tryz.func138, Tryz.ntmps138
  go_wp2_with fail
  refine bodyPost_ret (v := .agg #[.int .u32 (bits .andNot .u32 a.fl 63), .int .u8 1, .int .u8 0]) ?_ rfl ⟨rfl, ((Chg.refl _ _).alloc _).alloc _⟩
  exact results_cell_row rfl _ _ (w.heap.size + 1) 71 #[.int .u32 (bits .andNot .u32 a.fl 63), .int .u8 1, .int .u8 0] (0, 0) _ rfl (alloc2_heap w _ _) Tryz.underlying71 rfl (by kernel_rfl)
theorem sGet_any (w0 w : World) (γ : Gm) (τ : Tt) (s : Ss) (rd : List Int) (h : SesIs w0 w γ τ s rd) (hf : fee τ ≤ 999999) :
    Calls Tryz.prog 135 #[.pointer (some ⟨τ.bT, 0, none⟩)] w fun e w' => e = .returned (.tuple #[if (getP s.t).1 = true then s.t.A.val else at0.val, .int .i64 (if (getP s.t).1 = true then 0 else 5)]) ∧
      ∃ τ', SGo w0 w γ τ τ' { s with t := (getP s.t).2 } rd w' ∧ fee τ' ≤ fee τ + 1 ∧ τ'.bT = τ.bT := by
  have hE : τ.E.length ≤ 1000000 := by unfold fee at hf; omega
  have hcn := h.cnt
  refine (tGet_any w0 w τ h.T (by omega) hE).mono ?_
  rintro e w' ⟨rfl, v', G⟩
  have hg := SGo.of_tt h G rfl (by simp only [List.length_append, List.length_cons, List.length_nil]; omega) h.by'
  have ht : ptOf { τ with v := v', c := { τ.c with got := τ.c.got + 1 }, E := τ.E ++ [GetE τ] } = (getP s.t).2 := by
    rw [h.t]
    unfold ptOf getP GetE
    simp only [List.map_append, List.map_cons, List.map_nil]
    split <;> simp_all [EfD.pl, ef0, plE]
  rw [ht] at hg
  refine ⟨?_, _, hg, ?_, rfl⟩
  · rw [h.t]
    unfold getP ptOf
    by_cases hm : ((τ.c.got : Nat) : Int) ∈ τ.c.gs <;> simp [hm]
  · unfold fee; simp only [List.length_append, List.length_cons, List.length_nil]; omega
theorem sSet_any (w0 w : World) (γ : Gm) (τ : Tt) (s : Ss) (rd : List Int) (B : At3) (h : SesIs w0 w γ τ s rd) (hf : fee τ ≤ 999999) :
    Calls Tryz.prog 137 #[.pointer (some ⟨τ.bT, 0, none⟩), B.val] w fun e w' => e = .returned (.int .i64 (if (setP s.t B).1 = true then 0 else 5)) ∧
      ∃ τ', SGo w0 w γ τ τ' { s with t := (setP s.t B).2 } rd w' ∧ fee τ' ≤ fee τ + 1 ∧ τ'.bT = τ.bT := by
  have hE : τ.E.length ≤ 1000000 := by unfold fee at hf; omega
  have hcn := h.cnt
  refine (tSet_any w0 w τ B h.T (by omega) hE).mono ?_
  rintro e w' ⟨rfl, v', G⟩
  have hg := SGo.of_tt h G rfl (by simp only [List.length_append, List.length_cons, List.length_nil]; omega) h.by'
  have ht : ptOf { τ with v := v', c := { τ.c with set := τ.c.set + 1 }, A := if SetOk τ = true then B else τ.A, E := τ.E ++ [ef0 1 B 0 (SetOk τ)] } = (setP s.t B).2 := by
    rw [h.t]
    unfold ptOf setP SetOk
    by_cases hm : ((τ.c.set : Nat) : Int) ∈ τ.c.ss <;> simp [hm, EfD.pl, ef0, plE]
  rw [ht] at hg
  refine ⟨?_, _, hg, ?_, rfl⟩
  · rw [h.t]
    unfold setP ptOf SetOk
    rfl
  · unfold fee; simp only [List.length_append, List.length_cons, List.length_nil]; omega
def attrC (A : At3) : Obj := .cells #[.int .u32 A.fl, .int .u8 A.mn, .int .u8 A.tm] 71 (0, 0)
def ptrC (b : Nat) : Obj := .cells #[.pointer (some ⟨b, 0, none⟩)] 178 (0, 0)
def intC (o : Int) : Obj := .cells #[.int .i64 o] 3 (0, 0)
def LastQ (w0 : World) (γ : Gm) (τ : Tt) (s : Ss) (rd : List Int) (b2 : Nat) (A : At3) (o : Int) (w w' : World) : Prop :=
  ∃ τ' w1, SGo w0 w γ τ τ' { s with t := (setP s.t A).2 } rd w1 ∧ Chg [b2] w1 w' ∧ w'.heap[b2]? = some (intC (if (setP s.t A).1 = true then o else 4)) ∧ ¬ Sown γ τ' b2 ∧ fee τ' ≤ fee τ + 1
set_option maxHeartbeats 8000000 in
theorem fin_any (w0 w : World) (γ : Gm) (τ : Tt) (s : Ss) (rd : List Int) (b1 b2 b3 : Nat) (A : At3) (o : Int) (h : SesIs w0 w γ τ s rd) (hf : fee τ ≤ 999990) (h1 : w.heap[b1]? = some (ptrC γ.bS) ∧ ¬ Sown γ τ b1) (h2 : w.heap[b2]? = some (intC o) ∧ ¬ Sown γ τ b2) (h3 : w.heap[b3]? = some (attrC A) ∧ ¬ Sown γ τ b3) :
    CallsD Tryz.prog 136 #[.pointer (some ⟨b1, 0, none⟩), .pointer (some ⟨b3, 0, none⟩), .pointer (some ⟨b2, 0, none⟩)] .returning w fun e u' w' => u' = .returning ∧ (∃ v, e = .returned v) ∧ LastQ w0 γ τ s rd b2 A o w w' := by
  have x0 : w.cell? ⟨b1, 0, none⟩ = some (.pointer (some ⟨γ.bS, 0, none⟩)) := by rw [cell_of_heap h1.1]; rfl
  have x1 : w.cell? ⟨γ.bS, 0, none⟩ = some (.pointer (some ⟨τ.bT, 0, none⟩)) := by rw [cell_of_heap h.S]; rfl
  have x2 : w.cell? ⟨b3, 0, none⟩ = some (.int .u32 A.fl) := by rw [cell_of_heap h3.1]; rfl
  have x3 : w.cell? ⟨b3, 1, none⟩ = some (.int .u8 A.mn) := by rw [cell_of_heap h3.1]; rfl
  have x4 : w.cell? ⟨b3, 2, none⟩ = some (.int .u8 A.tm) := by rw [cell_of_heap h3.1]; rfl
  have HSET := Lib.hid (fun W (cW : Chg [] w W) => sSet_any w0 W γ τ s rd A (h.chg0 cW) (by omega))
  have HH := Lib.hid (And.intro h (And.intro h1 (And.intro h2 h3)))
  unfold At3.val at HSET
  obtain ⟨ok, hok⟩ : ∃ ok, ok = (setP s.t A).1 := ⟨_, rfl⟩
  rw [← hok] at HSET
  have HOK := Lib.hid hok
  clear h hf h1 h2 h3 hok
  cases ok with
  | true =>
    refine calledM Tryz.func136 rfl ?_
    simp only [Tryz.ntmps136, List.size_toArray, List.length_cons, List.length_nil, Nat.reduceAdd, Nat.reduceSub, Array.replicate_succ, Array.replicate_zero, List.push_toArray, List.append_toArray, List.nil_append, List.cons_append]
    go_upto_region 0 with (fail)
    go_region_held3 (fun w' => w'.cell? ⟨b1, 0, none⟩ = some (.pointer (some ⟨γ.bS, 0, none⟩)) ∧ w'.cell? ⟨γ.bS, 0, none⟩ = some (.pointer (some ⟨τ.bT, 0, none⟩)) ∧ w'.cell? ⟨b3, 0, none⟩ = some (.int .u32 A.fl) ∧ w'.cell? ⟨b3, 1, none⟩ = some (.int .u8 A.mn) ∧ w'.cell? ⟨b3, 2, none⟩ = some (.int .u8 A.tm))
      (first | exact ⟨x0, x1, x2, x3, x4⟩ | exact ⟨(by rw [cell_of_heap (G4.box HH.out.2.1).1]; rfl), (by rw [← hbT, cell_of_heap G4.is.S]; rfl), (by rw [cell_of_heap (G4.box HH.out.2.2.2).1]; rfl), (by rw [cell_of_heap (G4.box HH.out.2.2.2).1]; rfl), (by rw [cell_of_heap (G4.box HH.out.2.2.2).1]; rfl)⟩ | go_keep)
      (first
       | (go_at_call 137; refine (HSET.out _ (by first | exact Chg.refl [] w | exact (Chg.refl [] w).drew | exact (Chg.refl [] w).drewN _)).mono ?_; rintro e w4 ⟨rfl, τ4, G4', f4, hbT⟩; have G4 := SGo.pre0 (by first | exact (Chg.refl [] w) | exact (Chg.refl [] w).drew | exact (Chg.refl [] w).drewN _) G4'))
    have HB2 := Lib.hid (G4.box HH.out.2.2.1)
    have HG := Lib.hid (And.intro G4 f4)
    clear x0 x1 x2 x3 x4 G4 G4' f4 hbT
    go_wp2_with fail
    go_end0
    refine ⟨⟨_, rfl⟩, τ4, w4, HG.out.1, Chg.refl _ _, ?_, HB2.out.2, HG.out.2⟩
    rw [← HOK.out, if_pos rfl]
    exact HB2.out.1
  | false =>
    refine calledM Tryz.func136 rfl ?_
    simp only [Tryz.ntmps136, List.size_toArray, List.length_cons, List.length_nil, Nat.reduceAdd, Nat.reduceSub, Array.replicate_succ, Array.replicate_zero, List.push_toArray, List.append_toArray, List.nil_append, List.cons_append]
    go_upto_region 0 with (fail)
    go_region_held3 (fun w' => w'.cell? ⟨b1, 0, none⟩ = some (.pointer (some ⟨γ.bS, 0, none⟩)) ∧ w'.cell? ⟨γ.bS, 0, none⟩ = some (.pointer (some ⟨τ.bT, 0, none⟩)) ∧ w'.cell? ⟨b3, 0, none⟩ = some (.int .u32 A.fl) ∧ w'.cell? ⟨b3, 1, none⟩ = some (.int .u8 A.mn) ∧ w'.cell? ⟨b3, 2, none⟩ = some (.int .u8 A.tm))
      (first | exact ⟨x0, x1, x2, x3, x4⟩ | exact ⟨(by rw [cell_of_heap (G4.box HH.out.2.1).1]; rfl), (by rw [← hbT, cell_of_heap G4.is.S]; rfl), (by rw [cell_of_heap (G4.box HH.out.2.2.2).1]; rfl), (by rw [cell_of_heap (G4.box HH.out.2.2.2).1]; rfl), (by rw [cell_of_heap (G4.box HH.out.2.2.2).1]; rfl)⟩ | go_keep)
      (first
       | (go_at_call 137; refine (HSET.out _ (by first | exact Chg.refl [] w | exact (Chg.refl [] w).drew | exact (Chg.refl [] w).drewN _)).mono ?_; rintro e w4 ⟨rfl, τ4, G4', f4, hbT⟩; have G4 := SGo.pre0 (by first | exact (Chg.refl [] w) | exact (Chg.refl [] w).drew | exact (Chg.refl [] w).drewN _) G4'))
    have HB2 := Lib.hid (G4.box HH.out.2.2.1)
    have HG := Lib.hid (And.intro G4 f4)
    clear x0 x1 x2 x3 x4 G4 G4' f4 hbT
    have y2 : w4.cell? ⟨b2, 0, none⟩ = some (.int .i64 o) := by rw [cell_of_heap HB2.out.1]; rfl
    have f2 : w4.frozen? ⟨b2, 0, none⟩ = false := free_of_heap HB2.out.1 0
    go_wp2_with fail
    go_end0
    refine ⟨⟨_, rfl⟩, τ4, w4, HG.out.1, (Chg.refl [b2] w4).setCell (p := ⟨b2, 0, none⟩) (Or.inl List.mem_cons_self) _, ?_, HB2.out.2, HG.out.2⟩
    rw [← HOK.out, if_neg (by decide)]
    rw [setCell_heap _ HB2.out.1]
    rfl
theorem as_end (g bx : Nat) (w : World) (hL : LibT w) (hx : w.heap[bx]? = some (.cells #[.pointer none] 222 (0, 0))) :
    Calls Tryz.prog 139 #[.iface 222 (.pointer (some ⟨g, 0, none⟩)), .iface 227 (.pointer (some ⟨bx, 0, none⟩))] w fun e w' => e = .returned (.bool true) ∧ Chg [bx] w w' ∧ w'.heap[bx]? = some (.cells #[.pointer (some ⟨g, 0, none⟩)] 222 (0, 0)) := by
  refine (as_hit ⟨g, 0, none⟩ ⟨bx, 0, none⟩ (.pointer none) w hL.e (by rw [cell_of_heap hx]; rfl) (free_of_heap hx 0)).mono ?_
  rintro e w' ⟨rfl, rfl⟩
  have c1 : Chg [bx] w ((((w.alloc (.cells #[.pointer (some ⟨bx, 0, none⟩)] 227)).alloc (.cells #[.pointer (some ⟨8, 227, none⟩), .pointer (some ⟨w.heap.size, 0, none⟩), .int .u64 150] 257)).alloc (.cells #[.pointer (some ⟨8, 227, none⟩), .pointer (some ⟨w.heap.size, 0, none⟩), .int .u64 150] 257)).alloc (.cells #[.pointer (some ⟨g, 0, none⟩)] 222)) := ((((Chg.refl _ _).alloc _).alloc _).alloc _).alloc _
  have h1 := alloc_keeps (o := .cells #[.pointer (some ⟨g, 0, none⟩)] 222) (alloc_keeps (o := .cells #[.pointer (some ⟨8, 227, none⟩), .pointer (some ⟨w.heap.size, 0, none⟩), .int .u64 150] 257) (alloc_keeps (o := .cells #[.pointer (some ⟨8, 227, none⟩), .pointer (some ⟨w.heap.size, 0, none⟩), .int .u64 150] 257) (alloc_keeps (o := .cells #[.pointer (some ⟨bx, 0, none⟩)] 227) hx)))
  refine ⟨rfl, c1.setCell (p := ⟨bx, 0, none⟩) (Or.inl List.mem_cons_self) _, ?_⟩
  rw [setCell_heap _ h1]
  rfl
theorem fin_runs (b1 b2 b3 : Nat) (w : World) : (invoke (.fn (Fn.func 136) #[.pointer (some ⟨b1, 0, none⟩), .pointer (some ⟨b3, 0, none⟩), .pointer (some ⟨b2, 0, none⟩)]) #[]).run Tryz.prog w = .ok (.enter 136 #[.pointer (some ⟨b1, 0, none⟩), .pointer (some ⟨b3, 0, none⟩), .pointer (some ⟨b2, 0, none⟩)]) w := by kernel_rfl
def AllPost (w0 : World) (γ : Gm) (τ : Tt) (s : Ss) (w : World) (e : Ending) (w' : World) : Prop :=
  ∃ τ' o s' rd', e = .returned (.int .i64 o) ∧ AllR γ.q s o s' ∧ SGo w0 w γ τ τ' s' rd' w' ∧ fee τ' ≤ fee τ + s.d.h.length + budI s.t.its + 20
theorem all_res {tmps : Array Value} {b2 : Nat} {o : Int} {w : World} (hp : tmps.getD 2 undef = .pointer (some ⟨b2, 0, none⟩)) (h2 : w.heap[b2]? = some (intC o)) : (results Tryz.f110 tmps).run Tryz.prog w = .ok (.int .i64 o) w := by
  have hp' : tmps[2]?.getD undef = .pointer (some ⟨b2, 0, none⟩) := by simpa using hp
  have x2 : w.cell? ⟨b2, 0, none⟩ = some (.int .i64 o) := by rw [cell_of_heap h2]; rfl
  simp [results, Tryz.results110, go_sem, hp', x2]
theorem all_leave {w0 w w' : World} {γ : Gm} {τ τ' : Tt} {s s' : Ss} {rd' : List Int} {b1 b2 b3 : Nat} {A : At3} {o : Int} {tmps : Array Value} (hp : tmps.getD 2 undef = .pointer (some ⟨b2, 0, none⟩)) (hA : AllR γ.q s (if (setP s'.t A).1 = true then o else 4) { s' with t := (setP s'.t A).2 }) (G : SGo w0 w γ τ τ' s' rd' w')
    (hw0 : w0.heap.size ≤ w.heap.size) (h1 : w'.heap[b1]? = some (ptrC γ.bS) ∧ ¬ Sown γ τ' b1) (h2 : w'.heap[b2]? = some (intC o) ∧ ¬ Sown γ τ' b2) (hb2 : w.heap.size ≤ b2) (h3 : w'.heap[b3]? = some (attrC A) ∧ ¬ Sown γ τ' b3)
    (hf : fee τ' ≤ fee τ + s.d.h.length + budI s.t.its + 19) (hf9 : fee τ' ≤ 999990) :
    LeavesM Tryz.prog Tryz.f110 tmps (AllPost w0 γ τ s w) [{ target := .fn (Fn.func 136) #[.pointer (some ⟨b1, 0, none⟩), .pointer (some ⟨b3, 0, none⟩), .pointer (some ⟨b2, 0, none⟩)], args := #[] }] w' := by
  refine LeavesM.fn (fin_runs b1 b2 b3 w') (fin_any w0 w' γ τ' s' rd' b1 b2 b3 A o G.is hf9 h1 h2 h3) (fun w2 hq => ?_)
  obtain ⟨τ2, w1, G2, c2, hc, hn, f2⟩ := hq
  refine LeavesM.none (all_res hp hc) ⟨τ2, _, _, rd', rfl, hA, (G.trans G2).mine c2 (fun x hx => ?_) hw0, by omega⟩
  rw [List.mem_singleton.1 hx]
  exact ⟨hb2, hn⟩
end Go.Proofs.YtafmnkngjjnpiaaGreatDoor

namespace Go.Proofs.YtafmnkngjjnpiaaGreatDoor
set_option linter.unusedVariables false
set_option linter.unusedSimpArgs false
set_option maxRecDepth 100000
open Go.RowKit
structure AllB (γ : Gm) (τ : Tt) (b1 b2 : Nat) (o : Int) (w : World) : Prop where
  h1 : w.heap[b1]? = some (ptrC γ.bS) ∧ ¬ Sown γ τ b1
  h2 : w.heap[b2]? = some (intC o) ∧ ¬ Sown γ τ b2
theorem AllB.go {w0 a b : World} {γ : Gm} {τ τ' : Tt} {s' : Ss} {rd' : List Int} {b1 b2 : Nat} {o : Int} (h : AllB γ τ b1 b2 o a) (G : SGo w0 a γ τ τ' s' rd' b) : AllB γ τ' b1 b2 o b := ⟨G.box h.h1, G.box h.h2⟩
set_option maxHeartbeats 16000000 in
theorem all_get (w0 w : World) (γ : Gm) (τ : Tt) (s : Ss) (rd : List Int) (h : SesIs w0 w γ τ s rd) (hf : fee τ ≤ 970000) (hok : (getP s.t).1 = false) :
    Calls Tryz.prog 110 #[.pointer (some ⟨γ.bS, 0, none⟩)] w (AllPost w0 γ τ s w) := by
  have C1 : Chg [] w ((w.alloc (.cells #[.pointer (some ⟨γ.bS, 0, none⟩)] 178)).alloc (.cells #[.int .i64 0] 3)) := ((Chg.refl _ _).alloc _).alloc _
  have hB : AllB γ τ w.heap.size (w.heap.size + 1) 0 ((w.alloc (.cells #[.pointer (some ⟨γ.bS, 0, none⟩)] 178)).alloc (.cells #[.int .i64 0] 3)) := ⟨⟨alloc_keeps (alloc_heap w _), h.new (Nat.le_refl _)⟩, ⟨alloc2_heap w _ _, h.new (by omega)⟩⟩
  have H1 := h.chg0 C1
  have x0 : ((w.alloc (.cells #[.pointer (some ⟨γ.bS, 0, none⟩)] 178)).alloc (.cells #[.int .i64 0] 3)).cell? ⟨w.heap.size, 0, none⟩ = some (.pointer (some ⟨γ.bS, 0, none⟩)) := by rw [cell_of_heap hB.h1.1]; rfl
  have x1 : ((w.alloc (.cells #[.pointer (some ⟨γ.bS, 0, none⟩)] 178)).alloc (.cells #[.int .i64 0] 3)).cell? ⟨γ.bS, 0, none⟩ = some (.pointer (some ⟨τ.bT, 0, none⟩)) := by rw [cell_of_heap H1.S]; rfl
  have hget := sGet_any w0 _ γ τ s rd H1 (by omega)
  rw [hok] at hget
  have HGET := Lib.hid hget
  have HH := Lib.hid (And.intro h (And.intro C1 (And.intro hB (And.intro hf hok))))
  clear h hf C1 hB H1 hget hok
  unfold At3.val at HGET
  refine calls_of_wp_m Tryz.func110 rfl ?_
  simp only [Tryz.ntmps110, List.size_toArray, List.length_cons, List.length_nil, Nat.reduceAdd, Nat.reduceSub, Array.replicate_succ, Array.replicate_zero, List.push_toArray, List.append_toArray, List.nil_append, List.cons_append]
  go_wp2_with fail
  refine (HGET.out).mono ?_
  rintro e w4 ⟨rfl, τ4, G4, f4, _⟩
  have hB4 := HH.out.2.2.1.go G4
  have HG4 := Lib.hid (And.intro (SGo.pre0 HH.out.2.1 G4) (And.intro f4 hB4))
  have h5 : (w4.alloc (.cells #[.int .u32 at0.fl, .int .u8 at0.mn, .int .u8 at0.tm] 71)).heap[w.heap.size + 1]? = some (intC 0) := alloc_keeps hB4.h2.1
  have C5 : Chg [] w4 (w4.alloc (.cells #[.int .u32 at0.fl, .int .u8 at0.mn, .int .u8 at0.tm] 71)) := (Chg.refl _ _).alloc _
  have y2 : (w4.alloc (.cells #[.int .u32 at0.fl, .int .u8 at0.mn, .int .u8 at0.tm] 71)).cell? ⟨w.heap.size + 1, 0, none⟩ = some (.int .i64 0) := by rw [cell_of_heap h5]; rfl
  have z2 : (w4.alloc (.cells #[.int .u32 at0.fl, .int .u8 at0.mn, .int .u8 at0.tm] 71)).frozen? ⟨w.heap.size + 1, 0, none⟩ = false := free_of_heap h5 0
  have H5 := Lib.hid (And.intro h5 C5)
  clear G4 f4 hB4 HGET h5 C5
  go_wp2_with fail
  generalize hw5 : w4.alloc _ = w5 at *
  have hh := HH.out
  have hg := HG4.out
  have hnb := hg.2.2.h2.2
  refine LeavesM.none (all_res (b2 := w.heap.size + 1) (o := 4) rfl (by rw [setCell_heap _ H5.out.1]; rfl)) ⟨τ4, 4, { s with t := (getP s.t).2 }, rd, rfl, .get hh.2.2.2.2, ?_, by omega⟩
  refine ((hg.1.chg0 H5.out.2).mine ((Chg.refl [w.heap.size + 1] w5).setCell (p := ⟨w.heap.size + 1, 0, none⟩) (Or.inl List.mem_cons_self) _) (fun x hx => ?_) hh.1.c0.size)
  rw [List.mem_singleton.1 hx]
  exact ⟨by omega, hnb⟩
set_option maxHeartbeats 16000000 in
theorem all_raw (w0 w : World) (γ : Gm) (τ : Tt) (s : Ss) (rd : List Int) (h : SesIs w0 w γ τ s rd) (hf : fee τ + s.d.h.length + budI s.t.its ≤ 970000) (hok : (getP s.t).1 = true) (hok2 : (setP (getP s.t).2 (rawA s.t.A)).1 = false) :
    Calls Tryz.prog 110 #[.pointer (some ⟨γ.bS, 0, none⟩)] w (AllPost w0 γ τ s w) := by
  have C1 : Chg [] w ((w.alloc (.cells #[.pointer (some ⟨γ.bS, 0, none⟩)] 178)).alloc (.cells #[.int .i64 0] 3)) := ((Chg.refl _ _).alloc _).alloc _
  have hB : AllB γ τ w.heap.size (w.heap.size + 1) 0 ((w.alloc (.cells #[.pointer (some ⟨γ.bS, 0, none⟩)] 178)).alloc (.cells #[.int .i64 0] 3)) := ⟨⟨alloc_keeps (alloc_heap w _), h.new (Nat.le_refl _)⟩, ⟨alloc2_heap w _ _, h.new (by omega)⟩⟩
  have H1 := h.chg0 C1
  have x0 : ((w.alloc (.cells #[.pointer (some ⟨γ.bS, 0, none⟩)] 178)).alloc (.cells #[.int .i64 0] 3)).cell? ⟨w.heap.size, 0, none⟩ = some (.pointer (some ⟨γ.bS, 0, none⟩)) := by rw [cell_of_heap hB.h1.1]; rfl
  have x1 : ((w.alloc (.cells #[.pointer (some ⟨γ.bS, 0, none⟩)] 178)).alloc (.cells #[.int .i64 0] 3)).cell? ⟨γ.bS, 0, none⟩ = some (.pointer (some ⟨τ.bT, 0, none⟩)) := by rw [cell_of_heap H1.S]; rfl
  have hget := sGet_any w0 _ γ τ s rd H1 (by omega)
  rw [hok] at hget
  have hits : (setP (getP s.t).2 (rawA s.t.A)).2.its = s.t.its := rfl
  obtain ⟨A, hA⟩ : ∃ A, A = s.t.A := ⟨_, rfl⟩
  rw [← hA] at hget hok2 hits
  have HA := Lib.hid (And.intro hA hits)
  have HGET := Lib.hid hget
  have HH := Lib.hid (And.intro h (And.intro C1 (And.intro hB (And.intro hf (And.intro hok hok2)))))
  clear h hf C1 hB H1 hget hok hok2 hA hits
  unfold At3.val at HGET
  refine calls_of_wp_m Tryz.func110 rfl ?_
  simp only [Tryz.ntmps110, List.size_toArray, List.length_cons, List.length_nil, Nat.reduceAdd, Nat.reduceSub, Array.replicate_succ, Array.replicate_zero, List.push_toArray, List.append_toArray, List.nil_append, List.cons_append]
  go_wp2_with fail
  refine (HGET.out).mono ?_
  rintro e w4 ⟨rfl, τ4, G4, f4, hb4⟩
  have hB4 := HH.out.2.2.1.go G4
  have G4w := SGo.pre0 HH.out.2.1 G4
  have h53 := alloc_heap w4 (.cells #[.int .u32 A.fl, .int .u8 A.mn, .int .u8 A.tm] 71)
  have C5 : Chg [] w4 (w4.alloc (.cells #[.int .u32 A.fl, .int .u8 A.mn, .int .u8 A.tm] 71)) := (Chg.refl _ _).alloc _
  have n53 : ¬ Sown γ τ4 w4.heap.size := G4w.is.new (Nat.le_refl _)
  have hB5 : AllB γ τ4 w.heap.size (w.heap.size + 1) 0 (w4.alloc (.cells #[.int .u32 A.fl, .int .u8 A.mn, .int .u8 A.tm] 71)) := ⟨⟨alloc_keeps hB4.h1.1, hB4.h1.2⟩, ⟨alloc_keeps hB4.h2.1, hB4.h2.2⟩⟩
  have G5w := G4w.chg0 C5
  have hlt : w.heap.size + 1 < w4.heap.size := heap_lt hB4.h2.1
  have HG5 := Lib.hid (And.intro G5w (And.intro f4 (And.intro hB5 (And.intro (And.intro h53 n53) hlt))))
  clear G4 f4 hB4 HGET C5 G4w hB5 G5w x0 x1 h53 n53 hlt
  go_upto_region 5 with (fail)
  generalize hw5 : w4.alloc _ = w5 at *
  generalize hb3 : w4.heap.size = b3 at *
  have hg := HG5.out
  have x0 : w5.cell? ⟨w.heap.size, 0, none⟩ = some (.pointer (some ⟨γ.bS, 0, none⟩)) := by rw [cell_of_heap hg.2.2.1.h1.1]; rfl
  have x1 : w5.cell? ⟨γ.bS, 0, none⟩ = some (.pointer (some ⟨τ.bT, 0, none⟩)) := by rw [← hb4, cell_of_heap hg.1.is.S]; rfl
  have x2 : w5.cell? ⟨b3, 0, none⟩ = some (.int .u32 A.fl) := by rw [cell_of_heap hg.2.2.2.1.1]; rfl
  have x3 : w5.cell? ⟨b3, 1, none⟩ = some (.int .u8 A.mn) := by rw [cell_of_heap hg.2.2.2.1.1]; rfl
  have x4 : w5.cell? ⟨b3, 2, none⟩ = some (.int .u8 A.tm) := by rw [cell_of_heap hg.2.2.2.1.1]; rfl
  have HSET := Lib.hid (fun W (cW : Chg [] w5 W) => sSet_any w0 W γ τ4 _ rd (rawA A) (hg.1.is.chg0 cW) (by have := HH.out.2.2.2.1; omega))
  have HRAW := Lib.hid (fun W => raw_any A W)
  dsimp only at HSET
  rw [HH.out.2.2.2.2.2, hb4] at HSET
  unfold At3.val at HSET HRAW
  have HW5 := Lib.hid (And.intro hw5 (And.intro hb3 hb4))
  clear hg hw5 hb3 hb4
  go_region_held3 (fun w' => w'.cell? ⟨w.heap.size, 0, none⟩ = some (.pointer (some ⟨γ.bS, 0, none⟩)) ∧ w'.cell? ⟨γ.bS, 0, none⟩ = some (.pointer (some ⟨τ.bT, 0, none⟩)) ∧ w'.cell? ⟨b3, 0, none⟩ = some (.int .u32 A.fl) ∧ w'.cell? ⟨b3, 1, none⟩ = some (.int .u8 A.mn) ∧ w'.cell? ⟨b3, 2, none⟩ = some (.int .u8 A.tm))
    (first | exact ⟨x0, x1, x2, x3, x4⟩ | exact ⟨C6.cell x0 (by simp), C6.cell x1 (by simp), C6.cell x2 (by simp), C6.cell x3 (by simp), C6.cell x4 (by simp)⟩ | exact ⟨(by rw [cell_of_heap (G7.box (HG5.out.2.2.1.h1)).1]; rfl), (by rw [← hb7, cell_of_heap G7.is.S]; rfl), (by rw [cell_of_heap (G7.box HG5.out.2.2.2.1).1]; rfl), (by rw [cell_of_heap (G7.box HG5.out.2.2.2.1).1]; rfl), (by rw [cell_of_heap (G7.box HG5.out.2.2.2.1).1]; rfl)⟩ | go_keep)
    (first
     | (go_at_call 138; refine (HRAW.out _).mono ?_; rintro e w6 ⟨rfl, C6'⟩; have C6 : Chg [] w5 w6 := (by first | exact C6' | exact C6'.of_drew | exact C6'.of_drewN))
     | (go_at_call 137; refine (HSET.out _ (by first | exact C6 | exact C6.drew | exact C6.drewN _)).mono ?_; rintro e w7 ⟨rfl, τ7, G7', f7, hb7⟩; have G7 := SGo.pre0 (by first | exact C6 | exact C6.drew | exact C6.drewN _) G7'))
  have hB7 := HG5.out.2.2.1.go G7
  have hB37 := G7.box HG5.out.2.2.2.1
  have G7w := HG5.out.1.trans G7
  have HG7 := Lib.hid (And.intro G7w (And.intro f7 (And.intro hB7 hB37)))
  clear x0 x1 x2 x3 x4 C6 C6' G7 G7' f7 hb7 HSET HRAW G7w hB37
  have y2 : w7.cell? ⟨w.heap.size + 1, 0, none⟩ = some (.int .i64 0) := by rw [cell_of_heap hB7.h2.1]; rfl
  have z2 : w7.frozen? ⟨w.heap.size + 1, 0, none⟩ = false := free_of_heap hB7.h2.1 0
  clear hB7
  go_wp2_with fail
  have hg := HG7.out
  have hh := HH.out
  have h5 := HG5.out
  have hlt := h5.2.2.2.2
  have hb3 := HW5.out.2.1
  have c8 := (Chg.refl [w.heap.size + 1] w7).setCell (p := ⟨w.heap.size + 1, 0, none⟩) (Or.inl List.mem_cons_self) (.int .i64 4)
  have G8 := hg.1.mine c8 (fun x hx => by rw [List.mem_singleton.1 hx]; exact ⟨by omega, hg.2.2.1.h2.2⟩) hh.1.c0.size
  refine all_leave (A := A) (o := 4) rfl ?_ G8 hh.1.c0.size ⟨c8.heap hg.2.2.1.h1.1 (by simp), hg.2.2.1.h1.2⟩ ⟨by rw [setCell_heap _ hg.2.2.1.h2.1]; rfl, hg.2.2.1.h2.2⟩ (by omega) ⟨c8.heap hg.2.2.2.1 (by simp; omega), hg.2.2.2.2⟩ ?_ ?_
  · rw [show (if (setP (setP (getP s.t).2 (rawA A)).2 A).1 = true then (4 : Int) else 4) = 4 by split <;> rfl, HA.out.1]
    exact .raw hh.2.2.2.2.1 (by rw [← HA.out.1]; exact hh.2.2.2.2.2)
  · have := hg.2.1; have := h5.2.1; omega
  · have := hg.2.1; have := h5.2.1; have := hh.2.2.2.1; omega
set_option maxHeartbeats 16000000 in
theorem all_talk (w0 w : World) (γ : Gm) (τ : Tt) (s : Ss) (rd : List Int) (h : SesIs w0 w γ τ s rd) (hf : fee τ + s.d.h.length + budI s.t.its ≤ 970000) (hok : (getP s.t).1 = true) (hok2 : (setP (getP s.t).2 (rawA s.t.A)).1 = true) :
    Calls Tryz.prog 110 #[.pointer (some ⟨γ.bS, 0, none⟩)] w (AllPost w0 γ τ s w) := by
  have C1 : Chg [] w ((w.alloc (.cells #[.pointer (some ⟨γ.bS, 0, none⟩)] 178)).alloc (.cells #[.int .i64 0] 3)) := ((Chg.refl _ _).alloc _).alloc _
  have hB : AllB γ τ w.heap.size (w.heap.size + 1) 0 ((w.alloc (.cells #[.pointer (some ⟨γ.bS, 0, none⟩)] 178)).alloc (.cells #[.int .i64 0] 3)) := ⟨⟨alloc_keeps (alloc_heap w _), h.new (Nat.le_refl _)⟩, ⟨alloc2_heap w _ _, h.new (by omega)⟩⟩
  have H1 := h.chg0 C1
  have x0 : ((w.alloc (.cells #[.pointer (some ⟨γ.bS, 0, none⟩)] 178)).alloc (.cells #[.int .i64 0] 3)).cell? ⟨w.heap.size, 0, none⟩ = some (.pointer (some ⟨γ.bS, 0, none⟩)) := by rw [cell_of_heap hB.h1.1]; rfl
  have x1 : ((w.alloc (.cells #[.pointer (some ⟨γ.bS, 0, none⟩)] 178)).alloc (.cells #[.int .i64 0] 3)).cell? ⟨γ.bS, 0, none⟩ = some (.pointer (some ⟨τ.bT, 0, none⟩)) := by rw [cell_of_heap H1.S]; rfl
  have hget := sGet_any w0 _ γ τ s rd H1 (by omega)
  rw [hok] at hget
  have hits : (setP (getP s.t).2 (rawA s.t.A)).2.its = s.t.its := rfl
  obtain ⟨A, hA⟩ : ∃ A, A = s.t.A := ⟨_, rfl⟩
  rw [← hA] at hget hok2 hits
  have HA := Lib.hid (And.intro hA hits)
  have HGET := Lib.hid hget
  have HH := Lib.hid (And.intro h (And.intro C1 (And.intro hB (And.intro hf (And.intro hok hok2)))))
  clear h hf C1 hB H1 hget hok hok2 hA hits
  unfold At3.val at HGET
  refine calls_of_wp_m Tryz.func110 rfl ?_
  simp only [Tryz.ntmps110, List.size_toArray, List.length_cons, List.length_nil, Nat.reduceAdd, Nat.reduceSub, Array.replicate_succ, Array.replicate_zero, List.push_toArray, List.append_toArray, List.nil_append, List.cons_append]
  go_wp2_with fail
  refine (HGET.out).mono ?_
  rintro e w4 ⟨rfl, τ4, G4, f4, hb4⟩
  have hB4 := HH.out.2.2.1.go G4
  have G4w := SGo.pre0 HH.out.2.1 G4
  have h53 := alloc_heap w4 (.cells #[.int .u32 A.fl, .int .u8 A.mn, .int .u8 A.tm] 71)
  have C5 : Chg [] w4 (w4.alloc (.cells #[.int .u32 A.fl, .int .u8 A.mn, .int .u8 A.tm] 71)) := (Chg.refl _ _).alloc _
  have n53 : ¬ Sown γ τ4 w4.heap.size := G4w.is.new (Nat.le_refl _)
  have hB5 : AllB γ τ4 w.heap.size (w.heap.size + 1) 0 (w4.alloc (.cells #[.int .u32 A.fl, .int .u8 A.mn, .int .u8 A.tm] 71)) := ⟨⟨alloc_keeps hB4.h1.1, hB4.h1.2⟩, ⟨alloc_keeps hB4.h2.1, hB4.h2.2⟩⟩
  have G5w := G4w.chg0 C5
  have hlt : w.heap.size + 1 < w4.heap.size := heap_lt hB4.h2.1
  have HG5 := Lib.hid (And.intro G5w (And.intro f4 (And.intro hB5 (And.intro (And.intro h53 n53) hlt))))
  clear G4 f4 hB4 HGET C5 G4w hB5 G5w x0 x1 h53 n53 hlt
  go_upto_region 5 with (fail)
  generalize hw5 : w4.alloc _ = w5 at *
  generalize hb3 : w4.heap.size = b3 at *
  have hg := HG5.out
  have x0 : w5.cell? ⟨w.heap.size, 0, none⟩ = some (.pointer (some ⟨γ.bS, 0, none⟩)) := by rw [cell_of_heap hg.2.2.1.h1.1]; rfl
  have x1 : w5.cell? ⟨γ.bS, 0, none⟩ = some (.pointer (some ⟨τ.bT, 0, none⟩)) := by rw [← hb4, cell_of_heap hg.1.is.S]; rfl
  have x2 : w5.cell? ⟨b3, 0, none⟩ = some (.int .u32 A.fl) := by rw [cell_of_heap hg.2.2.2.1.1]; rfl
  have x3 : w5.cell? ⟨b3, 1, none⟩ = some (.int .u8 A.mn) := by rw [cell_of_heap hg.2.2.2.1.1]; rfl
  have x4 : w5.cell? ⟨b3, 2, none⟩ = some (.int .u8 A.tm) := by rw [cell_of_heap hg.2.2.2.1.1]; rfl
  have HSET := Lib.hid (fun W (cW : Chg [] w5 W) => sSet_any w0 W γ τ4 _ rd (rawA A) (hg.1.is.chg0 cW) (by have := HH.out.2.2.2.1; omega))
  have HRAW := Lib.hid (fun W => raw_any A W)
  dsimp only at HSET
  rw [HH.out.2.2.2.2.2, hb4] at HSET
  unfold At3.val at HSET HRAW
  have HW5 := Lib.hid (And.intro hw5 (And.intro hb3 hb4))
  clear hg hw5 hb3 hb4
  go_region_held3 (fun w' => w'.cell? ⟨w.heap.size, 0, none⟩ = some (.pointer (some ⟨γ.bS, 0, none⟩)) ∧ w'.cell? ⟨γ.bS, 0, none⟩ = some (.pointer (some ⟨τ.bT, 0, none⟩)) ∧ w'.cell? ⟨b3, 0, none⟩ = some (.int .u32 A.fl) ∧ w'.cell? ⟨b3, 1, none⟩ = some (.int .u8 A.mn) ∧ w'.cell? ⟨b3, 2, none⟩ = some (.int .u8 A.tm))
    (first | exact ⟨x0, x1, x2, x3, x4⟩ | exact ⟨C6.cell x0 (by simp), C6.cell x1 (by simp), C6.cell x2 (by simp), C6.cell x3 (by simp), C6.cell x4 (by simp)⟩ | exact ⟨(by rw [cell_of_heap (G7.box (HG5.out.2.2.1.h1)).1]; rfl), (by rw [← hb7, cell_of_heap G7.is.S]; rfl), (by rw [cell_of_heap (G7.box HG5.out.2.2.2.1).1]; rfl), (by rw [cell_of_heap (G7.box HG5.out.2.2.2.1).1]; rfl), (by rw [cell_of_heap (G7.box HG5.out.2.2.2.1).1]; rfl)⟩ | go_keep)
    (first
     | (go_at_call 138; refine (HRAW.out _).mono ?_; rintro e w6 ⟨rfl, C6'⟩; have C6 : Chg [] w5 w6 := (by first | exact C6' | exact C6'.of_drew | exact C6'.of_drewN))
     | (go_at_call 137; refine (HSET.out _ (by first | exact C6 | exact C6.drew | exact C6.drewN _)).mono ?_; rintro e w7 ⟨rfl, τ7, G7', f7, hb7⟩; have G7 := SGo.pre0 (by first | exact C6 | exact C6.drew | exact C6.drewN _) G7'))
  have hB7 := HG5.out.2.2.1.go G7
  have hB37 := G7.box HG5.out.2.2.2.1
  have G7w := HG5.out.1.trans G7
  have HG7 := Lib.hid (And.intro G7w (And.intro f7 (And.intro hB7 hB37)))
  clear x0 x1 x2 x3 x4 C6 C6' G7 G7' f7 hb7 HSET HRAW G7w hB37
  clear hB7
  have X8 := alloc_heap w7 (.cells #[.pointer none] 222)
  have C8 : Chg [] w7 (w7.alloc (.cells #[.pointer none] 222)) := (Chg.refl _ _).alloc _
  have hg := HG7.out
  have H8 := hg.1.is.chg0 C8
  have x0 : (w7.alloc (.cells #[.pointer none] 222)).cell? ⟨w.heap.size, 0, none⟩ = some (.pointer (some ⟨γ.bS, 0, none⟩)) := by rw [cell_of_heap (alloc_keeps hg.2.2.1.h1.1)]; rfl
  have HTK := Lib.hid (talk_any w0 _ γ τ7 _ rd H8 (by dsimp only; rw [HA.out.2]; have := hg.2.1; have := HG5.out.2.1; have := HH.out.2.2.2.1; omega))
  have nx : ¬ Sown γ τ7 w7.heap.size := hg.1.is.new (Nat.le_refl _)
  have HX := Lib.hid (And.intro (And.intro X8 nx) C8)
  clear X8 C8 H8 hg nx
  try dsimp only at HTK
  go_upto_region 8 with (fail)
  generalize hw8 : w7.alloc _ = w8 at *
  generalize hbx : w7.heap.size = bx at *
  go_wp2_with fail
  refine (HTK.out).mono ?_
  rintro e w9 ⟨v, τ9, o9, s9, rd9, rfl, T9, E9, G9, f9⟩
  rcases E9 with ⟨hr, _⟩ | ⟨o, g, hr, rfl, hgo, hgs, hgn⟩
  · cases hr
  · injection hr with hr
    subst hr
    have hx9 := G9.box HX.out.1
    have HAS := Lib.hid (as_end g bx w9 G9.is.L hx9.1)
    have hb9 : AllB γ τ9 w.heap.size (w.heap.size + 1) 0 w9 := AllB.go (a := w8) ⟨⟨HX.out.2.heap HG7.out.2.2.1.h1.1 (by simp), HG7.out.2.2.1.h1.2⟩, ⟨HX.out.2.heap HG7.out.2.2.1.h2.1 (by simp), HG7.out.2.2.1.h2.2⟩⟩ G9
    have hb39 := G9.box ⟨HX.out.2.heap HG7.out.2.2.2.1 (by simp), HG7.out.2.2.2.2⟩
    have HG9 := Lib.hid (And.intro ((HG7.out.1.chg0 HX.out.2).trans G9) (And.intro T9 (And.intro f9 (And.intro hb9 (And.intro hb39 (And.intro hx9 (And.intro hgo hgs)))))))
    clear T9 G9 f9 hgo hgs hgn hx9 hb9 hb39 HTK x0
    go_wp2_with fail
    refine (HAS.out).mono ?_
    rintro e w10 ⟨rfl, C10, X10⟩
    have h9 := HG9.out
    have hbx7 : b3 < bx ∧ w.heap.size + 1 < bx ∧ bx < g := by
      have q1 := heap_lt HG7.out.2.2.2.1
      have q2 := heap_lt HG7.out.2.2.1.h2.1
      have q3 := h9.2.2.2.2.2.2.2
      have q4 := heap_lt HX.out.1.1
      omega
    have y5 : w10.cell? ⟨bx, 0, none⟩ = some (.pointer (some ⟨g, 0, none⟩)) := by rw [cell_of_heap X10]; rfl
    have yg : w10.cell? ⟨g, 0, none⟩ = some (.int .i64 o9) := by rw [cell_of_heap (C10.heap h9.2.2.2.2.2.2.1 (by simp; omega))]; rfl
    have y2h := C10.heap h9.2.2.2.1.h2.1 (by simp; omega)
    have y2 : w10.cell? ⟨w.heap.size + 1, 0, none⟩ = some (.int .i64 0) := by rw [cell_of_heap y2h]; rfl
    have z2 : w10.frozen? ⟨w.heap.size + 1, 0, none⟩ = false := free_of_heap y2h 0
    have H10 := Lib.hid (And.intro C10 (And.intro y2h hbx7))
    clear h9 C10 X10 y2h hbx7 HAS
    go_wp2_with fail
    have h9 := HG9.out
    have h10 := H10.out
    have hh := HH.out
    have c11 := (Chg.refl [w.heap.size + 1] w10).setCell (p := ⟨w.heap.size + 1, 0, none⟩) (Or.inl List.mem_cons_self) (.int .i64 o9)
    have hsz := HG7.out.1.c.size
    have G11 := (h9.1.mine h10.1 (fun x hx => by rw [List.mem_singleton.1 hx]; exact ⟨by omega, h9.2.2.2.2.2.1.2⟩) hh.1.c0.size).mine c11 (fun x hx => by rw [List.mem_singleton.1 hx]; exact ⟨by omega, h9.2.2.2.1.h2.2⟩) hh.1.c0.size
    refine all_leave (A := A) (o := o9) rfl ?_ G11 hh.1.c0.size ⟨c11.heap (h10.1.heap h9.2.2.2.1.h1.1 (by simp; omega)) (by simp), h9.2.2.2.1.h1.2⟩ ⟨by rw [setCell_heap _ h10.2.1]; rfl, h9.2.2.2.1.h2.2⟩ (by omega) ⟨c11.heap (h10.1.heap h9.2.2.2.2.1.1 (by simp; omega)) (by simp; have := HG5.out.2.2.2.2; have := HW5.out.2.1; omega), h9.2.2.2.2.1.2⟩ ?_ ?_
    · rw [HA.out.1]
      exact .talk hh.2.2.2.2.1 (by rw [← HA.out.1]; exact hh.2.2.2.2.2) (by rw [← HA.out.1]; exact h9.2.1)
    · have q1 := h9.2.2.1
      try dsimp only at q1
      rw [HA.out.2] at q1
      have := HG7.out.2.1; have := HG5.out.2.1; omega
    · have q1 := h9.2.2.1
      try dsimp only at q1
      rw [HA.out.2] at q1
      have := HG7.out.2.1; have := HG5.out.2.1; have := hh.2.2.2.1; omega
theorem all_any (w0 w : World) (γ : Gm) (τ : Tt) (s : Ss) (rd : List Int) (h : SesIs w0 w γ τ s rd) (hf : fee τ + s.d.h.length + budI s.t.its ≤ 970000) :
    Calls Tryz.prog 110 #[.pointer (some ⟨γ.bS, 0, none⟩)] w (AllPost w0 γ τ s w) := by
  cases h1 : (getP s.t).1 with
  | false => exact all_get w0 w γ τ s rd h (by omega) h1
  | true =>
    cases h2 : (setP (getP s.t).2 (rawA s.t.A)).1 with
    | false => exact all_raw w0 w γ τ s rd h hf h1 h2
    | true => exact all_talk w0 w γ τ s rd h hf h1 h2
end Go.Proofs.YtafmnkngjjnpiaaGreatDoor

namespace Go.Proofs.YtafmnkngjjnpiaaGreatDoor
set_option linter.unusedVariables false
set_option linter.unusedSimpArgs false
set_option maxRecDepth 100000
open Go.RowKit
set_option maxHeartbeats 8000000 in
theorem beg1_any (bV bS bA bC : Nat) (v0 v1 v2 v3 v4 v5 v6 v7 : Value) (w : World) (ha : Ar.ArenaIs w bA bC 1024 []) (hV : w.heap[bV]? = some (ptrC bS)) (hS : w.heap[bS]? = some (.cells #[v0, v1, v2, v3, v4, v5, v6, v7] 186 (0, 0))) (n1 : bV ∉ [bA, bC]) (n2 : bS ∉ [bA, bC]) (n3 : bV ≠ bS) :
    Calls Tryz.prog 130 #[.pointer (some ⟨bA, 0, none⟩), .pointer (some ⟨bV, 0, none⟩)] w fun e w' => e = .returned (.int .i64 0) ∧ ∃ bE w1, w.heap.size ≤ bE ∧ Chg [bA, bC] w w1 ∧ BufIs w1 bE bA bC 1024 ⟨[], 0⟩ ∧ Chg [bS] w1 w' ∧ w'.heap[bS]? = some (.cells #[v0, v1, v2, v3, v4, (.pointer (some ⟨bE, 0, none⟩)), v6, v7] 186 (0, 0)) := by
  have x0 : w.cell? ⟨bV, 0, none⟩ = some (.pointer (some ⟨bS, 0, none⟩)) := by rw [cell_of_heap hV]; rfl
  have HNW := Lib.hid (fun W (c : Chg [] w W) => bufNew_any bA bC 1024 [] W (ha.chg c (by simp) (by simp)))
  have HH := Lib.hid (And.intro hS (And.intro n1 (And.intro n2 n3)))
  clear ha hV hS n1 n2 n3
  unfold BNewPost at HNW
  go_enter Tryz.func130, Tryz.ntmps130
  go_upto_region 1 with (fail)
  go_region_held3 (fun w' => w'.cell? ⟨bV, 0, none⟩ = some (.pointer (some ⟨bS, 0, none⟩)))
    (first | exact x0 | exact C3.cell x0 HH.out.2.1 | exact ((Chg.refl [bS] w3).setCell (p := ⟨bS, 5, none⟩) (Or.inl List.mem_cons_self) _).cell (C3.cell x0 HH.out.2.1) (by simpa using HH.out.2.2.2) | go_keep)
    (first
     | (go_at_call 9; refine (HNW.out _ (by first | exact Chg.refl [] w | exact (Chg.refl [] w).drew | exact (Chg.refl [] w).drewN _)).mono ?_; rintro e w3 ⟨bE, rfl, hbE, C3', B3⟩; have C3 : Chg [bA, bC] w w3 := (by first | exact C3' | exact C3'.of_drew | exact C3'.of_drewN); have hs3 := C3.heap HH.out.1 HH.out.2.2.1; have y5 : w3.cell? ⟨bS, 5, none⟩ = some v5 := (by rw [cell_of_heap hs3]; rfl); have z5 : w3.frozen? ⟨bS, 5, none⟩ = false := free_of_heap hs3 5))
  have HP := Lib.hid (And.intro hbE (And.intro C3 (And.intro B3 hs3)))
  clear hbE C3 C3' B3 hs3 x0 y5 z5
  go_wp2_with fail
  go_ret
  have hp := HP.out
  exact ⟨rfl, bE, w3, hp.1, hp.2.1, hp.2.2.1, (Chg.refl [bS] w3).setCell (p := ⟨bS, 5, none⟩) (Or.inl List.mem_cons_self) _, by rw [setCell_heap _ hp.2.2.2]; rfl⟩
set_option maxHeartbeats 8000000 in
theorem beg2_any (bV bS bA bC : Nat) (v0 v1 v2 v3 v4 v5 v6 v7 : Value) (w : World) (ha : Ar.ArenaIs w bA bC 1024 []) (hV : w.heap[bV]? = some (ptrC bS)) (hS : w.heap[bS]? = some (.cells #[v0, v1, v2, v3, v4, v5, v6, v7] 186 (0, 0))) (n1 : bV ∉ [bA, bC]) (n2 : bS ∉ [bA, bC]) (n3 : bV ≠ bS) :
    Calls Tryz.prog 131 #[.pointer (some ⟨bA, 0, none⟩), .pointer (some ⟨bV, 0, none⟩)] w fun e w' => e = .returned (.int .i64 0) ∧ ∃ bE w1, w.heap.size ≤ bE ∧ Chg [bA, bC] w w1 ∧ StgIs w1 bE bA bC 1024 ⟨[], false, false⟩ ∧ Chg [bS] w1 w' ∧ w'.heap[bS]? = some (.cells #[v0, v1, v2, v3, v4, v5, (.pointer (some ⟨bE, 0, none⟩)), v7] 186 (0, 0)) := by
  have x0 : w.cell? ⟨bV, 0, none⟩ = some (.pointer (some ⟨bS, 0, none⟩)) := by rw [cell_of_heap hV]; rfl
  have HNW := Lib.hid (fun W (c : Chg [] w W) => stgNew_any bA bC 1024 [] W (ha.chg c (by simp) (by simp)))
  have HH := Lib.hid (And.intro hS (And.intro n1 (And.intro n2 n3)))
  clear ha hV hS n1 n2 n3
  unfold SNewPost at HNW
  go_enter Tryz.func131, Tryz.ntmps131
  go_upto_region 1 with (fail)
  go_region_held3 (fun w' => w'.cell? ⟨bV, 0, none⟩ = some (.pointer (some ⟨bS, 0, none⟩)))
    (first | exact x0 | exact C3.cell x0 HH.out.2.1 | exact ((Chg.refl [bS] w3).setCell (p := ⟨bS, 6, none⟩) (Or.inl List.mem_cons_self) _).cell (C3.cell x0 HH.out.2.1) (by simpa using HH.out.2.2.2) | go_keep)
    (first
     | (go_at_call 11; refine (HNW.out _ (by first | exact Chg.refl [] w | exact (Chg.refl [] w).drew | exact (Chg.refl [] w).drewN _)).mono ?_; rintro e w3 ⟨bE, rfl, hbE, C3', B3⟩; have C3 : Chg [bA, bC] w w3 := (by first | exact C3' | exact C3'.of_drew | exact C3'.of_drewN); have hs3 := C3.heap HH.out.1 HH.out.2.2.1; have y5 : w3.cell? ⟨bS, 6, none⟩ = some v6 := (by rw [cell_of_heap hs3]; rfl); have z5 : w3.frozen? ⟨bS, 6, none⟩ = false := free_of_heap hs3 6))
  have HP := Lib.hid (And.intro hbE (And.intro C3 (And.intro B3 hs3)))
  clear hbE C3 C3' B3 hs3 x0 y5 z5
  go_wp2_with fail
  go_ret
  have hp := HP.out
  exact ⟨rfl, bE, w3, hp.1, hp.2.1, hp.2.2.1, (Chg.refl [bS] w3).setCell (p := ⟨bS, 6, none⟩) (Or.inl List.mem_cons_self) _, by rw [setCell_heap _ hp.2.2.2]; rfl⟩
set_option maxHeartbeats 8000000 in
theorem beg3_any (bV bS bA bC : Nat) (v0 v1 v2 v3 v4 v5 v6 v7 : Value) (w : World) (ha : Ar.ArenaIs w bA bC 36 []) (hV : w.heap[bV]? = some (ptrC bS)) (hS : w.heap[bS]? = some (.cells #[v0, v1, v2, v3, v4, v5, v6, v7] 186 (0, 0))) (n1 : bV ∉ [bA, bC]) (n2 : bS ∉ [bA, bC]) (n3 : bV ≠ bS) :
    Calls Tryz.prog 132 #[.pointer (some ⟨bA, 0, none⟩), .pointer (some ⟨bV, 0, none⟩)] w fun e w' => e = .returned (.int .i64 0) ∧ ∃ bE w1, w.heap.size ≤ bE ∧ Chg [bA, bC] w w1 ∧ DecIs w1 bE bA bC 36 ⟨[], false⟩ ∧ Chg [bS] w1 w' ∧ w'.heap[bS]? = some (.cells #[v0, v1, v2, v3, v4, v5, v6, (.pointer (some ⟨bE, 0, none⟩))] 186 (0, 0)) := by
  have x0 : w.cell? ⟨bV, 0, none⟩ = some (.pointer (some ⟨bS, 0, none⟩)) := by rw [cell_of_heap hV]; rfl
  have HNW := Lib.hid (fun W (c : Chg [] w W) => decNew_any bA bC 36 [] W (ha.chg c (by simp) (by simp)) (by decide))
  have HH := Lib.hid (And.intro hS (And.intro n1 (And.intro n2 n3)))
  clear ha hV hS n1 n2 n3
  unfold KNewPost at HNW
  go_enter Tryz.func132, Tryz.ntmps132
  go_upto_region 1 with (fail)
  go_region_held3 (fun w' => w'.cell? ⟨bV, 0, none⟩ = some (.pointer (some ⟨bS, 0, none⟩)))
    (first | exact x0 | exact C3.cell x0 HH.out.2.1 | exact ((Chg.refl [bS] w3).setCell (p := ⟨bS, 7, none⟩) (Or.inl List.mem_cons_self) _).cell (C3.cell x0 HH.out.2.1) (by simpa using HH.out.2.2.2) | go_keep)
    (first
     | (go_at_call 10; refine (HNW.out _ (by first | exact Chg.refl [] w | exact (Chg.refl [] w).drew | exact (Chg.refl [] w).drewN _)).mono ?_; rintro e w3 ⟨bE, rfl, hbE, C3', B3⟩; have C3 : Chg [bA, bC] w w3 := (by first | exact C3' | exact C3'.of_drew | exact C3'.of_drewN); have hs3 := C3.heap HH.out.1 HH.out.2.2.1; have y5 : w3.cell? ⟨bS, 7, none⟩ = some v7 := (by rw [cell_of_heap hs3]; rfl); have z5 : w3.frozen? ⟨bS, 7, none⟩ = false := free_of_heap hs3 7))
  have HP := Lib.hid (And.intro hbE (And.intro C3 (And.intro B3 hs3)))
  clear hbE C3 C3' B3 hs3 x0 y5 z5
  go_wp2_with fail
  go_ret
  have hp := HP.out
  exact ⟨rfl, bE, w3, hp.1, hp.2.1, hp.2.2.1, (Chg.refl [bS] w3).setCell (p := ⟨bS, 7, none⟩) (Or.inl List.mem_cons_self) _, by rw [setCell_heap _ hp.2.2.2]; rfl⟩
theorem beg4_any (bV bS bA : Nat) (v0 v1 v2 v3 v4 v5 v6 v7 : Value) (w : World) (hV : w.heap[bV]? = some (ptrC bS)) (hS : w.heap[bS]? = some (.cells #[v0, v1, v2, v3, v4, v5, v6, v7] 186 (0, 0))) :
    Calls Tryz.prog 133 #[.pointer (some ⟨bA, 0, none⟩), .pointer (some ⟨bV, 0, none⟩)] w fun e w' => e = .returned (.int .i64 0) ∧ Chg [bS] w w' ∧ w'.heap[bS]? = some (.cells #[v0, v1, v2, v3, .pointer (some ⟨bA, 0, none⟩), v5, v6, v7] 186 (0, 0)) := by
  have x0 : w.cell? ⟨bV, 0, none⟩ = some (.pointer (some ⟨bS, 0, none⟩)) := by rw [cell_of_heap hV]; rfl
  have y4 : w.cell? ⟨bS, 4, none⟩ = some v4 := by rw [cell_of_heap hS]; rfl
  have z4 : w.frozen? ⟨bS, 4, none⟩ = false := free_of_heap hS 4
  have HS := Lib.hid hS
  clear hV hS
  go_enter Tryz.func133, Tryz.ntmps133
  go_wp2_with fail
  go_ret
  exact ⟨rfl, (Chg.refl [bS] w).setCell (p := ⟨bS, 4, none⟩) (Or.inl List.mem_cons_self) _, by rw [setCell_heap _ HS.out]; rfl⟩
end Go.Proofs.YtafmnkngjjnpiaaGreatDoor

namespace Go.Proofs.YtafmnkngjjnpiaaGreatDoor
set_option linter.unusedVariables false
set_option linter.unusedSimpArgs false
set_option maxRecDepth 100000
open Go.RowKit
/-! ### telling blocks apart by their place in a list -/
def kap : List Nat → Nat → Nat
  | [], x => 0
  | a :: r, x => if x = a then 1 else if kap r x = 0 then 0 else kap r x + 1
theorem kap_mem : ∀ (l : List Nat) (x : Nat), kap l x ≠ 0 → x ∈ l
  | [], x, h => absurd rfl h
  | a :: r, x, h => by
    rw [kap] at h
    split at h
    · rename_i e; rw [e]; exact List.mem_cons_self
    · split at h
      · exact absurd rfl h
      · rename_i e; exact List.mem_cons_of_mem _ (kap_mem r x e)
theorem kap_at : ∀ (l : List Nat), l.Nodup → ∀ (i x : Nat), l[i]? = some x → kap l x = i + 1
  | [], _, i, x, h => by cases h
  | a :: r, hn, 0, x, h => by
    injection h with h
    rw [kap, if_pos h.symm]
  | a :: r, hn, i + 1, x, h => by
    have h' : r[i]? = some x := by simpa using h
    have hm : x ∈ r := List.mem_of_getElem? h'
    have hne : x ≠ a := fun e => (List.nodup_cons.1 hn).1 (e ▸ hm)
    have := kap_at r (List.nodup_cons.1 hn).2 i x h'
    rw [kap, if_neg hne, this, if_neg (by omega)]
def OutR (bR bM : Nat) (nv : Value) (A : List Ar.Ent) (W : World) (x : Nat) : Prop := x ∉ Ar.blks bR bM nv A ∧ x < W.heap.size
theorem OutR.make {bR bM : Nat} {nv nv' : Value} {A A' : List Ar.Ent} {W W' : World} {x : Nat} (h : OutR bR bM nv A W x) (hb : ∀ y ∈ Ar.blks bR bM nv' A', y ∈ Ar.blks bR bM nv A ∨ W.heap.size ≤ y) (hs : W.heap.size ≤ W'.heap.size) : OutR bR bM nv' A' W' x :=
  ⟨fun hm => (hb x hm).elim h.1 (fun hl => by have := h.2; omega), Nat.lt_of_lt_of_le h.2 hs⟩
theorem OutR.on {bR bM : Nat} {nv : Value} {A : List Ar.Ent} {W W' : World} {x : Nat} (h : OutR bR bM nv A W x) (hs : W.heap.size ≤ W'.heap.size) : OutR bR bM nv A W' x := ⟨h.1, Nat.lt_of_lt_of_le h.2 hs⟩
theorem core_out {bR bM : Nat} {nv : Value} {A : List Ar.Ent} {x : Nat} (h : x ∉ Ar.blks bR bM nv A) : x ∉ bR :: bM :: nv.ownBlock.toList := fun hm => h (by
  unfold Ar.blks
  rcases List.mem_cons.1 hm with rfl | hm
  · simp
  rcases List.mem_cons.1 hm with rfl | hm
  · simp
  exact List.mem_cons_of_mem _ (List.mem_cons_of_mem _ (List.mem_append_left _ hm)))
theorem core_ar {w : World} {bR bM : Nat} {nv : Value} {A : List Ar.Ent} (h : Ar.RegIs w bR bM nv A) {y : Ar.Ent} (hy : y ∈ A) : y.bA ∉ bR :: bM :: nv.ownBlock.toList ∧ y.bC ∉ bR :: bM :: nv.ownBlock.toList := by
  have hn := h.nodup
  unfold Ar.blks at hn
  rw [show bR :: bM :: (nv.ownBlock.toList ++ A.flatMap fun x => [x.bA, x.bC]) = (bR :: bM :: nv.ownBlock.toList) ++ A.flatMap fun x => [x.bA, x.bC] from rfl, List.nodup_append] at hn
  have hA : y.bA ∈ A.flatMap fun x => [x.bA, x.bC] := List.mem_flatMap.2 ⟨y, hy, by simp⟩
  have hC : y.bC ∈ A.flatMap fun x => [x.bA, x.bC] := List.mem_flatMap.2 ⟨y, hy, by simp⟩
  exact ⟨fun hm => hn.2.2 _ hm _ hA rfl, fun hm => hn.2.2 _ hm _ hC rfl⟩
structure BegI (w0 w : World) (τ : Tt) (bR bM : Nat) (nv0 nv : Value) (A : List Ar.Ent) (bS bV bL : Nat) (cs : Array Value) (row : Array Value) (W : World) : Prop where
  c : ChgO (fun x => x ∈ Ar.blks bR bM nv0 []) w W
  reg : Ar.OwnR w0 W bR bM nv A
  rg : ∀ x ∈ Ar.blks bR bM nv A, x ∈ Ar.blks bR bM nv0 [] ∨ w.heap.size ≤ x
  hS : W.heap[bS]? = some (.cells cs 186 (0, 0))
  hV : W.heap[bV]? = some (ptrC bS)
  hL : W.heap[bL]? = some (.cells row 215 (0, 0))
  oS : OutR bR bM nv A W bS
  oV : OutR bR bM nv A W bV
  oL : OutR bR bM nv A W bL
  nw : w.heap.size ≤ bS ∧ bS < bV ∧ bV < bL
  ws : w0.heap.size ≤ w.heap.size
structure MakeI (bR bM : Nat) (nv nv' : Value) (A A' : List Ar.Ent) (W W' : World) : Prop where
  c : Chg (bR :: bM :: nv.ownBlock.toList) W W'
  rg : ∀ x ∈ Ar.blks bR bM nv' A', x ∈ Ar.blks bR bM nv A ∨ W.heap.size ≤ x
theorem BegI.chg {w0 w : World} {τ : Tt} {bR bM : Nat} {nv0 nv : Value} {A : List Ar.Ent} {bS bV bL : Nat} {cs row : Array Value} {W W' : World} (h : BegI w0 w τ bR bM nv0 nv A bS bV bL cs row W) (c : Chg [] W W') : BegI w0 w τ bR bM nv0 nv A bS bV bL cs row W' :=
  ⟨h.c.trans (ChgO.of0 (O := fun x => x ∈ Ar.blks bR bM nv0 []) c) (fun x hx => .inl hx), h.reg.chg c (by simp) (by simp), h.rg, c.heap h.hS (by simp), c.heap h.hV (by simp), c.heap h.hL (by simp), h.oS.on c.size, h.oV.on c.size, h.oL.on c.size, h.nw, h.ws⟩
theorem BegI.make {w0 w : World} {τ : Tt} {bR bM : Nat} {nv0 nv nv' : Value} {A A' : List Ar.Ent} {bS bV bL : Nat} {cs row : Array Value} {W W' : World} (h : BegI w0 w τ bR bM nv0 nv A bS bV bL cs row W) (o : Ar.OwnR w0 W' bR bM nv' A') (m : MakeI bR bM nv nv' A A' W W') : BegI w0 w τ bR bM nv0 nv' A' bS bV bL cs row W' := by
  have hcs : ∀ x ∈ bR :: bM :: nv.ownBlock.toList, x ∈ Ar.blks bR bM nv A := fun x hx => by
    unfold Ar.blks
    rcases List.mem_cons.1 hx with rfl | hx
    · simp
    rcases List.mem_cons.1 hx with rfl | hx
    · simp
    exact List.mem_cons_of_mem _ (List.mem_cons_of_mem _ (List.mem_append_left _ hx))
  refine ⟨h.c.trans (U := fun x => x ∈ bR :: bM :: nv.ownBlock.toList) (ChgO.of m.c (fun x hx => hx)) (fun x hx => h.rg x (hcs x hx)), o, fun x hx => (m.rg x hx).elim (h.rg x) (fun hl => .inr (Nat.le_trans h.c.size hl)), m.c.heap h.hS (core_out h.oS.1), m.c.heap h.hV (core_out h.oV.1), m.c.heap h.hL (core_out h.oL.1), h.oS.make m.rg m.c.size, h.oV.make m.rg m.c.size, h.oL.make m.rg m.c.size, h.nw, h.ws⟩
theorem beg_make {w0 w : World} {τ : Tt} {bR bM : Nat} {nv0 nv : Value} {A : List Ar.Ent} {bS bV bL : Nat} {cs row : Array Value} {W : World} (h : BegI w0 w τ bR bM nv0 nv A bS bV bL cs row W) (s : ByteArray) (n : Nat) (hs : s.size ≤ maxLen) (h0 : s.toList.isEmpty = false) (hf : Ar.findP A s = none) (hA : A.length < 16) (h1 : 1 ≤ n) (h2 : n ≤ 4096) :
    Calls Tryz.prog 134 #[.pointer (some ⟨bR, 0, none⟩), .string s, .int .i64 n] W fun e W' => e = .returned (.tuple #[.pointer (some ⟨W.heap.size + 1, 0, none⟩), .int .i64 0]) ∧ ∃ nv', BegI w0 w τ bR bM nv0 nv' (A ++ [⟨s, W.heap.size + 1, W.heap.size, n, []⟩]) bS bV bL cs row W' ∧ MakeI bR bM nv nv' A (A ++ [⟨s, W.heap.size + 1, W.heap.size, n, []⟩]) W W' :=
  (Ar.rMake_ok w0 bR bM nv A s n W h.reg hs h0 hf hA h1 h2).mono fun e W' ⟨he, nv', o, c, hb⟩ => ⟨he, nv', h.make o ⟨c, hb⟩, ⟨c, hb⟩⟩
theorem ents_apart {bR bM : Nat} {nv : Value} {A : List Ar.Ent} (hn : (Ar.blks bR bM nv A).Nodup) {x y : Ar.Ent} (hx : x ∈ A) (hy : y ∈ A) (hne : x ≠ y) : x.bA ∉ [y.bA, y.bC] ∧ x.bC ∉ [y.bA, y.bC] := by
  obtain ⟨i, hi, rfl⟩ := List.mem_iff_getElem.1 hx
  obtain ⟨k, hk, rfl⟩ := List.mem_iff_getElem.1 hy
  unfold Ar.blks at hn
  rw [show bR :: bM :: (nv.ownBlock.toList ++ A.flatMap fun x => [x.bA, x.bC]) = (bR :: bM :: nv.ownBlock.toList) ++ A.flatMap fun x => [x.bA, x.bC] from rfl, List.nodup_append] at hn
  exact Ar.apart_ix hn.2.1 hk hi (fun e => hne (by subst e; rfl))
theorem BegI.clo {w0 w : World} {τ : Tt} {bR bM : Nat} {nv0 nv : Value} {A : List Ar.Ent} {bS bV bL : Nat} {cs cs' row : Array Value} {W W1 W' : World} {y : Ar.Ent} (h : BegI w0 w τ bR bM nv0 nv A bS bV bL cs row W) (hy : y ∈ A) (hl : w.heap.size ≤ y.bA ∧ w.heap.size ≤ y.bC) (c1 : Chg [y.bA, y.bC] W W1) (a1 : Ar.ArenaIs W1 y.bA y.bC y.N y.l) (c2 : Chg [bS] W1 W') (hS : W'.heap[bS]? = some (.cells cs' 186 (0, 0))) :
    BegI w0 w τ bR bM nv0 nv A bS bV bL cs' row W' := by
  have hmb := Ar.mem_blks_ar (bR := bR) (bM := bM) (nv := nv) hy
  have hsz : W.heap.size ≤ W'.heap.size := Nat.le_trans c1.size c2.size
  have hSV : bV ∉ [bS] := by have := h.nw; simp; omega
  have hSL : bL ∉ [bS] := by have := h.nw; simp; omega
  have n1 : ∀ x, OutR bR bM nv A W x → x ∉ [y.bA, y.bC] := fun x ho hm => by
    simp only [List.mem_cons, List.not_mem_nil, or_false] at hm
    rcases hm with e | e
    · exact ho.1 (e ▸ hmb.1)
    · exact ho.1 (e ▸ hmb.2)
  have hreg : Ar.RegIs W' bR bM nv A := by
    have r := h.reg.r
    have hcS : ∀ x ∈ Ar.blks bR bM nv A, x ∉ [bS] := fun x hx hm => h.oS.1 (by rw [← List.mem_singleton.1 hm]; exact hx)
    have hc1 : ∀ x ∈ bR :: bM :: nv.ownBlock.toList, x ∉ [y.bA, y.bC] := fun x hx hm => by
      have := core_ar r hy
      simp only [List.mem_cons, List.not_mem_nil, or_false] at hm
      rcases hm with e | e
      · exact this.1 (e ▸ hx)
      · exact this.2 (e ▸ hx)
    refine ⟨c2.heap (c1.heap r.hR (hc1 _ (by simp))) (hcS _ (by simp [Ar.blks])), Ar.owns_chg' (Ar.owns_chg' r.row c1 (fun k hk => hc1 k (by rw [hk]; simp))) c2 (fun k hk => hcS k (Ar.mem_blks_row hk)), (r.map.chg c1 (hc1 _ (by simp))).chg c2 (hcS _ (by simp [Ar.blks])), fun x hx => ?_, r.nm, r.self, r.most, r.nodup⟩
    have hxm := Ar.mem_blks_ar (bR := bR) (bM := bM) (nv := nv) hx
    by_cases hxy : x = y
    · subst hxy
      exact a1.chg c2 (hcS _ hxm.1) (hcS _ hxm.2)
    · have hd := ents_apart r.nodup hx hy hxy
      exact ((r.ar x hx).chg c1 hd.1 hd.2).chg c2 (hcS _ hxm.1) (hcS _ hxm.2)
  refine ⟨(h.c.trans (U := fun x => x ∈ [y.bA, y.bC]) (ChgO.of c1 (fun x hx => hx)) (fun x hx => ?_)).trans (U := fun x => x ∈ [bS]) (ChgO.of c2 (fun x hx => hx)) (fun x hx => .inr (by rw [List.mem_singleton.1 hx]; exact h.nw.1)), ⟨hreg, ?_, h.reg.b⟩, h.rg, hS, c2.heap (c1.heap h.hV (n1 _ h.oV)) hSV, c2.heap (c1.heap h.hL (n1 _ h.oL)) hSL, h.oS.on hsz, h.oV.on hsz, h.oL.on hsz, h.nw, h.ws⟩
  · simp only [List.mem_cons, List.not_mem_nil, or_false] at hx
    rcases hx with rfl | rfl
    · exact .inr hl.1
    · exact .inr hl.2
  · have hc0 := h.reg.c
    have hlo : ∀ x ∈ [y.bA, y.bC], w0.heap.size ≤ x := fun x hx => by
      simp only [List.mem_cons, List.not_mem_nil, or_false] at hx
      rcases hx with rfl | rfl
      · exact h.reg.b _ hmb.1
      · exact h.reg.b _ hmb.2
    have hws := h.ws
    exact (hc0.trans c1 (U := []) (by simp) (fun x hx hl' => by have := hlo x hx; omega)).trans c2 (U := []) (by simp) (fun x hx hl' => by have := h.nw.1; have := List.mem_singleton.1 hx; omega)
end Go.Proofs.YtafmnkngjjnpiaaGreatDoor

namespace Go.Proofs.YtafmnkngjjnpiaaGreatDoor
set_option linter.unusedVariables false
set_option linter.unusedSimpArgs false
set_option maxRecDepth 100000
open Go.RowKit
def rowB (bV : Nat) : Array Value :=
  #[.string ⟨#[101, 100, 105, 116]⟩, .int .i64 1024, .func (Fn.func 130) #[] #[.pointer (some ⟨bV, 0, none⟩)], .string ⟨#[112, 97, 115, 116, 101]⟩, .int .i64 1024, .func (Fn.func 131) #[] #[.pointer (some ⟨bV, 0, none⟩)],
    .string ⟨#[107, 101, 121, 115]⟩, .int .i64 36, .func (Fn.func 132) #[] #[.pointer (some ⟨bV, 0, none⟩)], .string ⟨#[114, 101, 97, 100]⟩, .int .i64 64, .func (Fn.func 133) #[] #[.pointer (some ⟨bV, 0, none⟩)]]
def sesC (bT : Nat) (pr : ByteArray) (mode room : Int) (a b c d : Value) : Array Value := #[.pointer (some ⟨bT, 0, none⟩), .string pr, .int .i64 mode, .int .i64 room, a, b, c, d]
def BeginPost (w0 : World) (τ : Tt) (bR bM : Nat) (nv0 : Value) (pr : ByteArray) (mode room : Int) (w : World) (e : Ending) (w' : World) : Prop :=
  ∃ γ, e = .returned (.tuple #[.pointer (some ⟨γ.bS, 0, none⟩), .int .i64 0]) ∧ (γ.pr = pr ∧ γ.mode = mode ∧ γ.room = room ∧ γ.bR = bR ∧ γ.bM = bM) ∧ SesIs w0 w' γ τ ⟨ptOf τ, ⟨[], 0⟩, ⟨[], false, false⟩, ⟨[], false⟩⟩ [] ∧ ChgO (fun x => x ∈ Ar.blks bR bM nv0 []) w w' ∧ (∀ x, γ.κ x ≠ 0 → x ∈ Ar.blks bR bM nv0 [] ∨ w.heap.size ≤ x)
def kapB (L : List Nat) (nv : Value) (x : Nat) : Nat := if kap L x ≠ 0 then kap L x else if nv.ownBlock = some x then 15 else 0
theorem kapB_at {L : List Nat} {nv : Value} (h : L.Nodup) {i x : Nat} (hx : L[i]? = some x) : kapB L nv x = i + 1 := by
  unfold kapB
  rw [kap_at L h i x hx, if_pos (by omega)]
theorem kapB_mem {L : List Nat} {nv : Value} {x : Nat} (h : kapB L nv x ≠ 0) : x ∈ L ∨ nv.ownBlock = some x := by
  unfold kapB at h
  split at h
  · rename_i e; exact .inl (kap_mem L x e)
  · split at h
    · rename_i e; exact .inr e
    · exact absurd rfl h
theorem beg_end {w0 w W : World} {τ : Tt} {bR bM bS bV bL bE bG bD eA eC pA pC kA kC rA rC h1 h2 h3 : Nat} {nv0 nv : Value} {pr : ByteArray} {mode room : Int} {row : Array Value} (hT : TtIs w0 w τ) (hR : Ar.OwnR w0 w bR bM nv0 []) (hsep : ∀ x ∈ Ar.blks bR bM nv0 [], ¬ τ.own x) (hL : LibT w0) (hask : AskOk pr mode room)
    (hcn : τ.c.wrote ≤ τ.E.length ∧ τ.c.got ≤ τ.E.length ∧ τ.c.set ≤ τ.E.length) (hz : ∀ z ∈ τ.Z, ZOk z)
    (I : BegI w0 w τ bR bM nv0 nv [⟨⟨#[101, 100, 105, 116]⟩, eA, eC, 1024, []⟩, ⟨⟨#[112, 97, 115, 116, 101]⟩, pA, pC, 1024, []⟩, ⟨⟨#[107, 101, 121, 115]⟩, kA, kC, 36, []⟩, ⟨⟨#[114, 101, 97, 100]⟩, rA, rC, 64, []⟩] bS bV bL (sesC τ.bT pr mode room (.pointer (some ⟨rA, 0, none⟩)) (.pointer (some ⟨bE, 0, none⟩)) (.pointer (some ⟨bG, 0, none⟩)) (.pointer (some ⟨bD, 0, none⟩))) row W)
    (X1 : BufIs W bE eA eC 1024 ⟨[], 0⟩ ∧ OutR bR bM nv [⟨⟨#[101, 100, 105, 116]⟩, eA, eC, 1024, []⟩, ⟨⟨#[112, 97, 115, 116, 101]⟩, pA, pC, 1024, []⟩, ⟨⟨#[107, 101, 121, 115]⟩, kA, kC, 36, []⟩, ⟨⟨#[114, 101, 97, 100]⟩, rA, rC, 64, []⟩] W bE ∧ bS < eC ∧ eA = eC + 1 ∧ eA < bE ∧ bE < h1)
    (X2 : StgIs W bG pA pC 1024 ⟨[], false, false⟩ ∧ OutR bR bM nv [⟨⟨#[101, 100, 105, 116]⟩, eA, eC, 1024, []⟩, ⟨⟨#[112, 97, 115, 116, 101]⟩, pA, pC, 1024, []⟩, ⟨⟨#[107, 101, 121, 115]⟩, kA, kC, 36, []⟩, ⟨⟨#[114, 101, 97, 100]⟩, rA, rC, 64, []⟩] W bG ∧ bS < pC ∧ pA = pC + 1 ∧ pA < bG ∧ bG < h2)
    (X3 : DecIs W bD kA kC 36 ⟨[], false⟩ ∧ OutR bR bM nv [⟨⟨#[101, 100, 105, 116]⟩, eA, eC, 1024, []⟩, ⟨⟨#[112, 97, 115, 116, 101]⟩, pA, pC, 1024, []⟩, ⟨⟨#[107, 101, 121, 115]⟩, kA, kC, 36, []⟩, ⟨⟨#[114, 101, 97, 100]⟩, rA, rC, 64, []⟩] W bD ∧ bS < kC ∧ kA = kC + 1 ∧ kA < bD ∧ bD < h3)
    (X4 : Ar.ArenaIs W rA rC 64 [] ∧ rA = rC + 1 ∧ rA < W.heap.size) (O1 : bE < pC) (O2 : bG < kC) (O3 : bD < rC) :
    BeginPost w0 τ bR bM nv0 pr mode room w (.returned (.tuple #[.pointer (some ⟨bS, 0, none⟩), .int .i64 0])) W := by
  have r := I.reg.r
  have hRb : bR < w.heap.size ∧ bM < w.heap.size := ⟨hR.r.lt bR (by simp [Ar.blks]), hR.r.lt bM (by simp [Ar.blks])⟩
  have hbm : bR ≠ bM := by
    have hn := hR.r.nodup
    intro e
    subst e
    simp [Ar.blks] at hn
  have hnw := I.nw
  have hnd : [bS, bE, bG, bD, eA, eC, pA, pC, kA, kC, rA, rC, bR, bM].Nodup := by
    simp only [List.nodup_cons, List.mem_cons, List.not_mem_nil, or_false, not_or, List.nodup_nil, and_true]
    refine ⟨?_, ?_, ?_, ?_, ?_, ?_, ?_, ?_, ?_, ?_, ?_, ?_, ?_, not_false⟩ <;> (try refine ⟨?_, ?_⟩) <;> omega
  have hnv : ∀ k, nv.ownBlock = some k → k ∉ [bS, bE, bG, bD, eA, eC, pA, pC, kA, kC, rA, rC, bR, bM] := by
    intro k hk hm
    have hb := Ar.mem_blks_row (bR := bR) (bM := bM) (A := [⟨⟨#[101, 100, 105, 116]⟩, eA, eC, 1024, []⟩, ⟨⟨#[112, 97, 115, 116, 101]⟩, pA, pC, 1024, []⟩, ⟨⟨#[107, 101, 121, 115]⟩, kA, kC, 36, []⟩, ⟨⟨#[114, 101, 97, 100]⟩, rA, rC, 64, []⟩]) hk
    have hc : k ∈ bR :: bM :: nv.ownBlock.toList := by rw [hk]; simp
    have e1 := core_ar r (y := ⟨⟨#[101, 100, 105, 116]⟩, eA, eC, 1024, []⟩) (by simp)
    have e2 := core_ar r (y := ⟨⟨#[112, 97, 115, 116, 101]⟩, pA, pC, 1024, []⟩) (by simp)
    have e3 := core_ar r (y := ⟨⟨#[107, 101, 121, 115]⟩, kA, kC, 36, []⟩) (by simp)
    have e4 := core_ar r (y := ⟨⟨#[114, 101, 97, 100]⟩, rA, rC, 64, []⟩) (by simp)
    have hn := r.nodup
    simp only [List.mem_cons, List.not_mem_nil, or_false] at hm
    rcases hm with e | e | e | e | e | e | e | e | e | e | e | e | e | e <;> subst e
    · exact I.oS.1 hb
    · exact X1.2.1.1 hb
    · exact X2.2.1.1 hb
    · exact X3.2.1.1 hb
    · exact e1.1 hc
    · exact e1.2 hc
    · exact e2.1 hc
    · exact e2.2 hc
    · exact e3.1 hc
    · exact e3.2 hc
    · exact e4.1 hc
    · exact e4.2 hc
    · simp [Ar.blks, hk] at hn
    · simp [Ar.blks, hk] at hn
  have hrg : ∀ x, kapB [bS, bE, bG, bD, eA, eC, pA, pC, kA, kC, rA, rC, bR, bM] nv x ≠ 0 → (x ∈ Ar.blks bR bM nv0 [] ∨ w.heap.size ≤ x) ∧ x < W.heap.size := by
    intro x hx
    rcases kapB_mem hx with hm | hm
    · simp only [List.mem_cons, List.not_mem_nil, or_false] at hm
      have hsz := I.c.size
      have o1 := I.oS.2
      have o2 := X1.2.1.2
      have o3 := X2.2.1.2
      have o4 := X3.2.1.2
      rcases hm with e | e | e | e | e | e | e | e | e | e | e | e | e | e <;> subst e
      · exact ⟨.inr (by omega), by omega⟩
      · exact ⟨.inr (by omega), by omega⟩
      · exact ⟨.inr (by omega), by omega⟩
      · exact ⟨.inr (by omega), by omega⟩
      · exact ⟨.inr (by omega), by omega⟩
      · exact ⟨.inr (by omega), by omega⟩
      · exact ⟨.inr (by omega), by omega⟩
      · exact ⟨.inr (by omega), by omega⟩
      · exact ⟨.inr (by omega), by omega⟩
      · exact ⟨.inr (by omega), by omega⟩
      · exact ⟨.inr (by omega), by omega⟩
      · exact ⟨.inr (by omega), by omega⟩
      · exact ⟨.inl (by simp [Ar.blks]), by omega⟩
      · exact ⟨.inl (by simp [Ar.blks]), by omega⟩
    · have hb := Ar.mem_blks_row (bR := bR) (bM := bM) (A := [⟨⟨#[101, 100, 105, 116]⟩, eA, eC, 1024, []⟩, ⟨⟨#[112, 97, 115, 116, 101]⟩, pA, pC, 1024, []⟩, ⟨⟨#[107, 101, 121, 115]⟩, kA, kC, 36, []⟩, ⟨⟨#[114, 101, 97, 100]⟩, rA, rC, 64, []⟩]) hm
      exact ⟨I.rg x hb, r.lt x hb⟩
  refine ⟨⟨bS, bE, bG, bD, eA, eC, pA, pC, kA, kC, rA, rC, bR, bM, nv, pr, mode, room, kapB [bS, bE, bG, bD, eA, eC, pA, pC, kA, kC, rA, rC, bR, bM] nv⟩, rfl, ⟨rfl, rfl, rfl, rfl, rfl⟩, ?_, I.c, fun x hx => (hrg x hx).1⟩
  refine ⟨hT.chgO I.c (fun x hx => ⟨hsep x hx, hR.b x hx⟩), rfl, ⟨kapB_at hnd (i := 0) rfl, kapB_at hnd (i := 1) rfl, kapB_at hnd (i := 2) rfl, kapB_at hnd (i := 3) rfl, kapB_at hnd (i := 4) rfl, kapB_at hnd (i := 5) rfl, kapB_at hnd (i := 6) rfl, kapB_at hnd (i := 7) rfl, kapB_at hnd (i := 8) rfl, kapB_at hnd (i := 9) rfl, kapB_at hnd (i := 10) rfl, kapB_at hnd (i := 11) rfl, kapB_at hnd (i := 12) rfl, kapB_at hnd (i := 13) rfl, fun k hk => ?_, hask⟩, I.hS, X1.1, X2.1, X3.1, X4.1, r.hR, r.row, r.map, fun x hx => ?_, fun x hx => (hrg x hx).2, fun x hx ho => ?_, hL, hcn, hz, fun x hx => by cases hx⟩
  · show kapB _ nv k = 15
    unfold kapB
    rw [if_neg (fun h0 => hnv k hk (kap_mem _ _ h0)), if_pos hk]
  · have := I.ws
    rcases (hrg x hx).1 with h | h
    · exact hR.b x h
    · omega
  · rcases (hrg x hx).1 with h | h
    · exact hsep x h ho
    · have := (hT.own_lt x ho).2; omega
set_option maxHeartbeats 16000000 in
theorem pbegin_any (w0 w : World) (τ : Tt) (bR bM : Nat) (nv0 : Value) (pr : ByteArray) (mode room : Int) (hT : TtIs w0 w τ) (hR : Ar.OwnR w0 w bR bM nv0 []) (hsep : ∀ x ∈ Ar.blks bR bM nv0 [], ¬ τ.own x) (hL : LibT w0) (hask : AskOk pr mode room)
    (hcn : τ.c.wrote ≤ τ.E.length ∧ τ.c.got ≤ τ.E.length ∧ τ.c.set ≤ τ.E.length) (hz : ∀ z ∈ τ.Z, ZOk z) :
    Calls Tryz.prog 108 #[.pointer (some ⟨τ.bT, 0, none⟩), .pointer (some ⟨bR, 0, none⟩), askV pr mode room] w (BeginPost w0 τ bR bM nv0 pr mode room w) := by
  have HH := Lib.hid (And.intro hT (And.intro hR (And.intro hsep (And.intro hL (And.intro hask (And.intro hcn hz))))))
  clear hT hR hsep hL hask hcn hz
  unfold askV
  go_enter Tryz.func108, Tryz.ntmps108
  go_upto_region 3 with (fail)
  generalize hW : World.alloc _ _ = Wa1 at *
  have hR := HH.out.2.1
  have hh1 := alloc_heap w (.cells #[.string pr, .int .i64 mode, .int .i64 room] 76)
  have hI : BegI w0 w τ bR bM nv0 nv0 [] (w.heap.size + 1) (w.heap.size + 1 + 1) (w.heap.size + 1 + 1 + 1) (sesC τ.bT pr mode room (.pointer none) (.pointer none) (.pointer none) (.pointer none)) (rowB (w.heap.size + 1 + 1)) Wa1 := by
    have c1 : Chg [] w Wa1 := by rw [← hW]; exact ((((Chg.refl _ _).alloc _).alloc _).alloc _).alloc _
    have hs4 : Wa1.heap.size = w.heap.size + 4 := by rw [← hW]; simp
    have ho : ∀ x, w.heap.size ≤ x → x < w.heap.size + 4 → OutR bR bM nv0 [] Wa1 x := fun x h1 h2 => ⟨fun hm => by have := hR.r.lt x hm; omega, by omega⟩
    refine ⟨ChgO.of0 c1, hR.chg c1 (by simp) (by simp), fun x hx => .inl hx, ?_, ?_, ?_, ho _ (by omega) (by omega), ho _ (by omega) (by omega), ho _ (by omega) (by omega), by omega, hR.c.size⟩
    · rw [← hW]; exact alloc_keeps (alloc_keeps (alloc2_heap w _ _))
    · rw [← hW]; exact alloc_keeps (by rw [show w.heap.size + 1 + 1 = (World.alloc (World.alloc w _) _).heap.size by simp]; exact alloc_heap _ _)
    · rw [← hW, show w.heap.size + 1 + 1 + 1 = (World.alloc (World.alloc (World.alloc w _) _) _).heap.size by simp]; exact alloc_heap _ _
  clear hW hh1 hR
  generalize w.heap.size + 1 + 1 + 1 = bL at hI ⊢
  generalize w.heap.size + 1 + 1 = bV at hI ⊢
  generalize w.heap.size + 1 = bS at hI ⊢
  have HI1 := Lib.hid hI
  clear hI
  refine wp_loop_rounds 5 ?_
  rw [rounds_succ]
  have y0 : Wa1.cell? ⟨bL, 0, none⟩ = some (.string ⟨#[101, 100, 105, 116]⟩) := by rw [cell_of_heap HI1.out.hL]; rfl
  have y1 : Wa1.cell? ⟨bL, 1, none⟩ = some (.int .i64 1024) := by rw [cell_of_heap HI1.out.hL]; rfl
  have y2 : Wa1.cell? ⟨bL, 2, none⟩ = some (.func (Fn.func 130) #[] #[.pointer (some ⟨bV, 0, none⟩)]) := by rw [cell_of_heap HI1.out.hL]; rfl
  have HB1 := Lib.hid (And.intro (alloc_heap Wa1 (.cells #[.string ⟨#[101, 100, 105, 116]⟩, .int .i64 1024, .func (Fn.func 130) #[] #[.pointer (some ⟨bV, 0, none⟩)]] 215)) (And.intro ((Chg.refl [] Wa1).alloc (.cells #[.string ⟨#[101, 100, 105, 116]⟩, .int .i64 1024, .func (Fn.func 130) #[] #[.pointer (some ⟨bV, 0, none⟩)]] 215)) (show (Wa1.alloc (.cells #[.string ⟨#[101, 100, 105, 116]⟩, .int .i64 1024, .func (Fn.func 130) #[] #[.pointer (some ⟨bV, 0, none⟩)]] 215)).heap.size = Wa1.heap.size + 1 by simp)))
  have HMK := Lib.hid (beg_make (HI1.out.chg HB1.out.2.1) ⟨#[101, 100, 105, 116]⟩ 1024 (by unfold maxLen; decide) (by kernel_rfl) (by rfl) (by simp) (by decide) (by decide))
  go_wp2_with fail
  generalize hWb : Wa1.alloc _ = Wb1 at *
  refine (HMK.out).mono ?_
  rintro e Wc1 ⟨rfl, nv1, I, M⟩
  have HM1 := Lib.hid (And.intro I M)
  have hx := M.c.heap HB1.out.1 (core_out (fun hm => by have := HI1.out.reg.r.lt _ hm; omega))
  have y3 : Wc1.cell? ⟨Wa1.heap.size, 2, none⟩ = some (.func (Fn.func 130) #[] #[.pointer (some ⟨bV, 0, none⟩)]) := by rw [cell_of_heap hx]; rfl
  clear y0 y1 y2 I M hx HMK hWb
  go_wp2_with fail
  have hA1 : Hid (Wb1.heap.size + 1 < Wc1.heap.size ∧ Wb1.heap.size = Wa1.heap.size + 1) := Lib.hid ⟨heap_lt (HM1.out.1.reg.r.ar ⟨⟨#[101, 100, 105, 116]⟩, Wb1.heap.size + 1, Wb1.heap.size, 1024, []⟩ (by simp)).hA, HB1.out.2.2⟩
  obtain ⟨eA, heA⟩ : ∃ b, b = Wb1.heap.size + 1 := ⟨_, rfl⟩
  obtain ⟨eC, heC⟩ : ∃ b, b = Wb1.heap.size := ⟨_, rfl⟩
  have HN1 : Hid (BegI w0 w τ bR bM nv0 nv1 [⟨⟨#[101, 100, 105, 116]⟩, eA, eC, 1024, []⟩] bS bV bL (sesC τ.bT pr mode room (.pointer none) (.pointer none) (.pointer none) (.pointer none)) (rowB bV) Wc1 ∧ MakeI bR bM nv0 nv1 [] [⟨⟨#[101, 100, 105, 116]⟩, eA, eC, 1024, []⟩] Wb1 Wc1 ∧ eC = Wa1.heap.size + 1 ∧ eA = eC + 1 ∧ eA < Wc1.heap.size) := by
    have h := HM1.out
    have h2 := hA1.out
    rw [← heA, ← heC] at h
    exact Lib.hid ⟨h.1, h.2, by omega, by omega, by omega⟩
  rw [← heA]
  clear heA heC HM1 hA1
  refine (beg1_any bV bS eA eC (.pointer (some ⟨τ.bT, 0, none⟩)) (.string pr) (.int .i64 mode) (.int .i64 room) (.pointer none) (.pointer none) (.pointer none) (.pointer none) Wc1 (HN1.out.1.reg.r.ar ⟨⟨#[101, 100, 105, 116]⟩, eA, eC, 1024, []⟩ (by simp)) HN1.out.1.hV HN1.out.1.hS (by have := HN1.out.1.nw; have := HI1.out.oV.2; have := HN1.out.2.2; simp; omega) (by have := HN1.out.1.nw; have := HI1.out.oS.2; have := HN1.out.2.2; simp; omega) (by have := HN1.out.1.nw; omega)).mono ?_
  rintro e Wa2 ⟨rfl, bE, W1, hbE, C7, B7, C8, S8⟩
  have HC1 := Lib.hid (And.intro hbE (And.intro C7 (And.intro B7 (And.intro C8 S8))))
  clear hbE C7 B7 C8 S8 y3
  have HI2 : Hid (BegI w0 w τ bR bM nv0 nv1 [⟨⟨#[101, 100, 105, 116]⟩, eA, eC, 1024, []⟩] bS bV bL (sesC τ.bT pr mode room (.pointer none) (.pointer (some ⟨bE, 0, none⟩)) (.pointer none) (.pointer none)) (rowB bV) Wa2) := Lib.hid (HN1.out.1.clo (y := ⟨⟨#[101, 100, 105, 116]⟩, eA, eC, 1024, []⟩) (by simp) (by have := HI1.out.c.size; have := HN1.out.2.2; dsimp only; omega) HC1.out.2.1 HC1.out.2.2.1.ar HC1.out.2.2.2.1 HC1.out.2.2.2.2)
  have HX1 : Hid (BufIs Wa2 bE eA eC 1024 ⟨[], 0⟩ ∧ OutR bR bM nv1 [⟨⟨#[101, 100, 105, 116]⟩, eA, eC, 1024, []⟩] Wa2 bE ∧ Wa1.heap.size ≤ eC ∧ eA = eC + 1 ∧ eA < bE ∧ bE < Wa2.heap.size) := by
    have hc := HC1.out
    have hn := HN1.out
    have hoS := HI1.out.oS.2
    have hE : bE < W1.heap.size := heap_lt hc.2.2.1.hE
    have hsz := hc.2.2.2.1.size
    refine Lib.hid ⟨hc.2.2.1.chg hc.2.2.2.1 (by simp; omega) (by simp; omega) (by simp; omega), ⟨fun hm => by have := hn.1.reg.r.lt _ hm; omega, by omega⟩, by omega, by omega, by omega, by omega⟩
  have hd1 := HN1.out.2.2
  clear HN1 HC1 HB1
  go_wp2_with fail
  rw [rounds_succ]
  have y0 : Wa2.cell? ⟨bL, 3, none⟩ = some (.string ⟨#[112, 97, 115, 116, 101]⟩) := by rw [cell_of_heap HI2.out.hL]; rfl
  have y1 : Wa2.cell? ⟨bL, 4, none⟩ = some (.int .i64 1024) := by rw [cell_of_heap HI2.out.hL]; rfl
  have y2 : Wa2.cell? ⟨bL, 5, none⟩ = some (.func (Fn.func 131) #[] #[.pointer (some ⟨bV, 0, none⟩)]) := by rw [cell_of_heap HI2.out.hL]; rfl
  have HB2 := Lib.hid (And.intro (alloc_heap Wa2 (.cells #[.string ⟨#[112, 97, 115, 116, 101]⟩, .int .i64 1024, .func (Fn.func 131) #[] #[.pointer (some ⟨bV, 0, none⟩)]] 215)) (And.intro ((Chg.refl [] Wa2).alloc (.cells #[.string ⟨#[112, 97, 115, 116, 101]⟩, .int .i64 1024, .func (Fn.func 131) #[] #[.pointer (some ⟨bV, 0, none⟩)]] 215)) (show (Wa2.alloc (.cells #[.string ⟨#[112, 97, 115, 116, 101]⟩, .int .i64 1024, .func (Fn.func 131) #[] #[.pointer (some ⟨bV, 0, none⟩)]] 215)).heap.size = Wa2.heap.size + 1 by simp)))
  have HMK := Lib.hid (beg_make (HI2.out.chg HB2.out.2.1) ⟨#[112, 97, 115, 116, 101]⟩ 1024 (by unfold maxLen; decide) (by kernel_rfl) (by rfl) (by simp) (by decide) (by decide))
  go_wp2_with fail
  generalize hWb : Wa2.alloc _ = Wb2 at *
  refine (HMK.out).mono ?_
  rintro e Wc2 ⟨rfl, nv2, I, M⟩
  have HM2 := Lib.hid (And.intro I M)
  have hx := M.c.heap HB2.out.1 (core_out (fun hm => by have := HI2.out.reg.r.lt _ hm; omega))
  have y3 : Wc2.cell? ⟨Wa2.heap.size, 2, none⟩ = some (.func (Fn.func 131) #[] #[.pointer (some ⟨bV, 0, none⟩)]) := by rw [cell_of_heap hx]; rfl
  clear y0 y1 y2 I M hx HMK hWb
  go_wp2_with fail
  have hA2 : Hid (Wb2.heap.size + 1 < Wc2.heap.size ∧ Wb2.heap.size = Wa2.heap.size + 1) := Lib.hid ⟨heap_lt (HM2.out.1.reg.r.ar ⟨⟨#[112, 97, 115, 116, 101]⟩, Wb2.heap.size + 1, Wb2.heap.size, 1024, []⟩ (by simp)).hA, HB2.out.2.2⟩
  obtain ⟨pA, hpA⟩ : ∃ b, b = Wb2.heap.size + 1 := ⟨_, rfl⟩
  obtain ⟨pC, hpC⟩ : ∃ b, b = Wb2.heap.size := ⟨_, rfl⟩
  have HN2 : Hid (BegI w0 w τ bR bM nv0 nv2 [⟨⟨#[101, 100, 105, 116]⟩, eA, eC, 1024, []⟩, ⟨⟨#[112, 97, 115, 116, 101]⟩, pA, pC, 1024, []⟩] bS bV bL (sesC τ.bT pr mode room (.pointer none) (.pointer (some ⟨bE, 0, none⟩)) (.pointer none) (.pointer none)) (rowB bV) Wc2 ∧ MakeI bR bM nv1 nv2 [⟨⟨#[101, 100, 105, 116]⟩, eA, eC, 1024, []⟩] [⟨⟨#[101, 100, 105, 116]⟩, eA, eC, 1024, []⟩, ⟨⟨#[112, 97, 115, 116, 101]⟩, pA, pC, 1024, []⟩] Wb2 Wc2 ∧ pC = Wa2.heap.size + 1 ∧ pA = pC + 1 ∧ pA < Wc2.heap.size) := by
    have h := HM2.out
    have h2 := hA2.out
    rw [← hpA, ← hpC] at h
    exact Lib.hid ⟨h.1, h.2, by omega, by omega, by omega⟩
  rw [← hpA]
  clear hpA hpC HM2 hA2
  refine (beg2_any bV bS pA pC (.pointer (some ⟨τ.bT, 0, none⟩)) (.string pr) (.int .i64 mode) (.int .i64 room) (.pointer none) (.pointer (some ⟨bE, 0, none⟩)) (.pointer none) (.pointer none) Wc2 (HN2.out.1.reg.r.ar ⟨⟨#[112, 97, 115, 116, 101]⟩, pA, pC, 1024, []⟩ (by simp)) HN2.out.1.hV HN2.out.1.hS (by have := HN2.out.1.nw; have := HI2.out.oV.2; have := HN2.out.2.2; simp; omega) (by have := HN2.out.1.nw; have := HI2.out.oS.2; have := HN2.out.2.2; simp; omega) (by have := HN2.out.1.nw; omega)).mono ?_
  rintro e Wa3 ⟨rfl, bG, W1, hbG, C7, B7, C8, S8⟩
  have HC2 := Lib.hid (And.intro hbG (And.intro C7 (And.intro B7 (And.intro C8 S8))))
  clear hbG C7 B7 C8 S8 y3
  have HI3 : Hid (BegI w0 w τ bR bM nv0 nv2 [⟨⟨#[101, 100, 105, 116]⟩, eA, eC, 1024, []⟩, ⟨⟨#[112, 97, 115, 116, 101]⟩, pA, pC, 1024, []⟩] bS bV bL (sesC τ.bT pr mode room (.pointer none) (.pointer (some ⟨bE, 0, none⟩)) (.pointer (some ⟨bG, 0, none⟩)) (.pointer none)) (rowB bV) Wa3) := Lib.hid (HN2.out.1.clo (y := ⟨⟨#[112, 97, 115, 116, 101]⟩, pA, pC, 1024, []⟩) (by simp) (by have := HI2.out.c.size; have := HN2.out.2.2; dsimp only; omega) HC2.out.2.1 HC2.out.2.2.1.ar HC2.out.2.2.2.1 HC2.out.2.2.2.2)
  have HX2 : Hid (StgIs Wa3 bG pA pC 1024 ⟨[], false, false⟩ ∧ OutR bR bM nv2 [⟨⟨#[101, 100, 105, 116]⟩, eA, eC, 1024, []⟩, ⟨⟨#[112, 97, 115, 116, 101]⟩, pA, pC, 1024, []⟩] Wa3 bG ∧ Wa2.heap.size ≤ pC ∧ pA = pC + 1 ∧ pA < bG ∧ bG < Wa3.heap.size) := by
    have hc := HC2.out
    have hn := HN2.out
    have hoS := HI2.out.oS.2
    have hE : bG < W1.heap.size := heap_lt hc.2.2.1.hS
    have hsz := hc.2.2.2.1.size
    refine Lib.hid ⟨hc.2.2.1.chg hc.2.2.2.1 (by simp; omega) (by simp; omega) (by simp; omega), ⟨fun hm => by have := hn.1.reg.r.lt _ hm; omega, by omega⟩, by omega, by omega, by omega, by omega⟩
  replace HX1 : Hid (BufIs Wa3 bE eA eC 1024 ⟨[], 0⟩ ∧ OutR bR bM nv2 [⟨⟨#[101, 100, 105, 116]⟩, eA, eC, 1024, []⟩, ⟨⟨#[112, 97, 115, 116, 101]⟩, pA, pC, 1024, []⟩] Wa3 bE ∧ bS < eC ∧ eA = eC + 1 ∧ eA < bE ∧ bE < pC) := by
    have hx := HX1.out
    have hn := HN2.out
    have hoS := HI2.out.oS.2
    have hreg := (HI2.out.chg HB2.out.2.1).reg.r
    have hob : OutR bR bM nv1 [⟨⟨#[101, 100, 105, 116]⟩, eA, eC, 1024, []⟩] Wb2 bE := hx.2.1.on HB2.out.2.1.size
    have hsz : Wc2.heap.size ≤ Wa3.heap.size := by have q1 := HC2.out.2.1.size; have q2 := HC2.out.2.2.2.1.size; omega
    have hord : bS < eC ∧ bE < pC := by have q5 := HI1.out.oS.2; have q6 := hob.2; have q7 := HB2.out.2.2; omega
    refine Lib.hid ⟨(((hx.1.chg HB2.out.2.1 (by simp) (by simp) (by simp)).chg hn.2.1.c (core_out hob.1) (core_ar hreg (y := ⟨⟨#[101, 100, 105, 116]⟩, eA, eC, 1024, []⟩) (by simp)).1 (core_ar hreg (y := ⟨⟨#[101, 100, 105, 116]⟩, eA, eC, 1024, []⟩) (by simp)).2).chg HC2.out.2.1 (by simp; omega) (by simp; omega) (by simp; omega)).chg HC2.out.2.2.2.1 (by simp; omega) (by simp; omega) (by simp; omega), (hob.make hn.2.1.rg hn.2.1.c.size).on hsz, hord.1, by omega, by omega, hord.2⟩
  have HO12 : Hid (bE < pC) := Lib.hid HX1.out.2.2.2.2.2
  have hd2 := HN2.out.2.2
  clear HN2 HC2 HB2
  go_wp2_with fail
  rw [rounds_succ]
  have y0 : Wa3.cell? ⟨bL, 6, none⟩ = some (.string ⟨#[107, 101, 121, 115]⟩) := by rw [cell_of_heap HI3.out.hL]; rfl
  have y1 : Wa3.cell? ⟨bL, 7, none⟩ = some (.int .i64 36) := by rw [cell_of_heap HI3.out.hL]; rfl
  have y2 : Wa3.cell? ⟨bL, 8, none⟩ = some (.func (Fn.func 132) #[] #[.pointer (some ⟨bV, 0, none⟩)]) := by rw [cell_of_heap HI3.out.hL]; rfl
  have HB3 := Lib.hid (And.intro (alloc_heap Wa3 (.cells #[.string ⟨#[107, 101, 121, 115]⟩, .int .i64 36, .func (Fn.func 132) #[] #[.pointer (some ⟨bV, 0, none⟩)]] 215)) (And.intro ((Chg.refl [] Wa3).alloc (.cells #[.string ⟨#[107, 101, 121, 115]⟩, .int .i64 36, .func (Fn.func 132) #[] #[.pointer (some ⟨bV, 0, none⟩)]] 215)) (show (Wa3.alloc (.cells #[.string ⟨#[107, 101, 121, 115]⟩, .int .i64 36, .func (Fn.func 132) #[] #[.pointer (some ⟨bV, 0, none⟩)]] 215)).heap.size = Wa3.heap.size + 1 by simp)))
  have HMK := Lib.hid (beg_make (HI3.out.chg HB3.out.2.1) ⟨#[107, 101, 121, 115]⟩ 36 (by unfold maxLen; decide) (by kernel_rfl) (by rfl) (by simp) (by decide) (by decide))
  go_wp2_with fail
  generalize hWb : Wa3.alloc _ = Wb3 at *
  refine (HMK.out).mono ?_
  rintro e Wc3 ⟨rfl, nv3, I, M⟩
  have HM3 := Lib.hid (And.intro I M)
  have hx := M.c.heap HB3.out.1 (core_out (fun hm => by have := HI3.out.reg.r.lt _ hm; omega))
  have y3 : Wc3.cell? ⟨Wa3.heap.size, 2, none⟩ = some (.func (Fn.func 132) #[] #[.pointer (some ⟨bV, 0, none⟩)]) := by rw [cell_of_heap hx]; rfl
  clear y0 y1 y2 I M hx HMK hWb
  go_wp2_with fail
  have hA3 : Hid (Wb3.heap.size + 1 < Wc3.heap.size ∧ Wb3.heap.size = Wa3.heap.size + 1) := Lib.hid ⟨heap_lt (HM3.out.1.reg.r.ar ⟨⟨#[107, 101, 121, 115]⟩, Wb3.heap.size + 1, Wb3.heap.size, 36, []⟩ (by simp)).hA, HB3.out.2.2⟩
  obtain ⟨kA, hkA⟩ : ∃ b, b = Wb3.heap.size + 1 := ⟨_, rfl⟩
  obtain ⟨kC, hkC⟩ : ∃ b, b = Wb3.heap.size := ⟨_, rfl⟩
  have HN3 : Hid (BegI w0 w τ bR bM nv0 nv3 [⟨⟨#[101, 100, 105, 116]⟩, eA, eC, 1024, []⟩, ⟨⟨#[112, 97, 115, 116, 101]⟩, pA, pC, 1024, []⟩, ⟨⟨#[107, 101, 121, 115]⟩, kA, kC, 36, []⟩] bS bV bL (sesC τ.bT pr mode room (.pointer none) (.pointer (some ⟨bE, 0, none⟩)) (.pointer (some ⟨bG, 0, none⟩)) (.pointer none)) (rowB bV) Wc3 ∧ MakeI bR bM nv2 nv3 [⟨⟨#[101, 100, 105, 116]⟩, eA, eC, 1024, []⟩, ⟨⟨#[112, 97, 115, 116, 101]⟩, pA, pC, 1024, []⟩] [⟨⟨#[101, 100, 105, 116]⟩, eA, eC, 1024, []⟩, ⟨⟨#[112, 97, 115, 116, 101]⟩, pA, pC, 1024, []⟩, ⟨⟨#[107, 101, 121, 115]⟩, kA, kC, 36, []⟩] Wb3 Wc3 ∧ kC = Wa3.heap.size + 1 ∧ kA = kC + 1 ∧ kA < Wc3.heap.size) := by
    have h := HM3.out
    have h2 := hA3.out
    rw [← hkA, ← hkC] at h
    exact Lib.hid ⟨h.1, h.2, by omega, by omega, by omega⟩
  rw [← hkA]
  clear hkA hkC HM3 hA3
  refine (beg3_any bV bS kA kC (.pointer (some ⟨τ.bT, 0, none⟩)) (.string pr) (.int .i64 mode) (.int .i64 room) (.pointer none) (.pointer (some ⟨bE, 0, none⟩)) (.pointer (some ⟨bG, 0, none⟩)) (.pointer none) Wc3 (HN3.out.1.reg.r.ar ⟨⟨#[107, 101, 121, 115]⟩, kA, kC, 36, []⟩ (by simp)) HN3.out.1.hV HN3.out.1.hS (by have := HN3.out.1.nw; have := HI3.out.oV.2; have := HN3.out.2.2; simp; omega) (by have := HN3.out.1.nw; have := HI3.out.oS.2; have := HN3.out.2.2; simp; omega) (by have := HN3.out.1.nw; omega)).mono ?_
  rintro e Wa4 ⟨rfl, bD, W1, hbD, C7, B7, C8, S8⟩
  have HC3 := Lib.hid (And.intro hbD (And.intro C7 (And.intro B7 (And.intro C8 S8))))
  clear hbD C7 B7 C8 S8 y3
  have HI4 : Hid (BegI w0 w τ bR bM nv0 nv3 [⟨⟨#[101, 100, 105, 116]⟩, eA, eC, 1024, []⟩, ⟨⟨#[112, 97, 115, 116, 101]⟩, pA, pC, 1024, []⟩, ⟨⟨#[107, 101, 121, 115]⟩, kA, kC, 36, []⟩] bS bV bL (sesC τ.bT pr mode room (.pointer none) (.pointer (some ⟨bE, 0, none⟩)) (.pointer (some ⟨bG, 0, none⟩)) (.pointer (some ⟨bD, 0, none⟩))) (rowB bV) Wa4) := Lib.hid (HN3.out.1.clo (y := ⟨⟨#[107, 101, 121, 115]⟩, kA, kC, 36, []⟩) (by simp) (by have := HI3.out.c.size; have := HN3.out.2.2; dsimp only; omega) HC3.out.2.1 HC3.out.2.2.1.ar HC3.out.2.2.2.1 HC3.out.2.2.2.2)
  have HX3 : Hid (DecIs Wa4 bD kA kC 36 ⟨[], false⟩ ∧ OutR bR bM nv3 [⟨⟨#[101, 100, 105, 116]⟩, eA, eC, 1024, []⟩, ⟨⟨#[112, 97, 115, 116, 101]⟩, pA, pC, 1024, []⟩, ⟨⟨#[107, 101, 121, 115]⟩, kA, kC, 36, []⟩] Wa4 bD ∧ Wa3.heap.size ≤ kC ∧ kA = kC + 1 ∧ kA < bD ∧ bD < Wa4.heap.size) := by
    have hc := HC3.out
    have hn := HN3.out
    have hoS := HI3.out.oS.2
    have hE : bD < W1.heap.size := heap_lt hc.2.2.1.hD
    have hsz := hc.2.2.2.1.size
    refine Lib.hid ⟨hc.2.2.1.chg hc.2.2.2.1 (by simp; omega) (by simp; omega) (by simp; omega), ⟨fun hm => by have := hn.1.reg.r.lt _ hm; omega, by omega⟩, by omega, by omega, by omega, by omega⟩
  replace HX1 : Hid (BufIs Wa4 bE eA eC 1024 ⟨[], 0⟩ ∧ OutR bR bM nv3 [⟨⟨#[101, 100, 105, 116]⟩, eA, eC, 1024, []⟩, ⟨⟨#[112, 97, 115, 116, 101]⟩, pA, pC, 1024, []⟩, ⟨⟨#[107, 101, 121, 115]⟩, kA, kC, 36, []⟩] Wa4 bE ∧ bS < eC ∧ eA = eC + 1 ∧ eA < bE ∧ bE < kC) := by
    have hx := HX1.out
    have hn := HN3.out
    have hoS := HI3.out.oS.2
    have hreg := (HI3.out.chg HB3.out.2.1).reg.r
    have hob : OutR bR bM nv2 [⟨⟨#[101, 100, 105, 116]⟩, eA, eC, 1024, []⟩, ⟨⟨#[112, 97, 115, 116, 101]⟩, pA, pC, 1024, []⟩] Wb3 bE := hx.2.1.on HB3.out.2.1.size
    have hsz : Wc3.heap.size ≤ Wa4.heap.size := by have q1 := HC3.out.2.1.size; have q2 := HC3.out.2.2.2.1.size; omega
    have hord : bS < eC ∧ bE < kC := by have q5 := HI1.out.oS.2; have q6 := hob.2; have q7 := HB3.out.2.2; omega
    refine Lib.hid ⟨(((hx.1.chg HB3.out.2.1 (by simp) (by simp) (by simp)).chg hn.2.1.c (core_out hob.1) (core_ar hreg (y := ⟨⟨#[101, 100, 105, 116]⟩, eA, eC, 1024, []⟩) (by simp)).1 (core_ar hreg (y := ⟨⟨#[101, 100, 105, 116]⟩, eA, eC, 1024, []⟩) (by simp)).2).chg HC3.out.2.1 (by simp; omega) (by simp; omega) (by simp; omega)).chg HC3.out.2.2.2.1 (by simp; omega) (by simp; omega) (by simp; omega), (hob.make hn.2.1.rg hn.2.1.c.size).on hsz, hord.1, by omega, by omega, hord.2⟩
  replace HX2 : Hid (StgIs Wa4 bG pA pC 1024 ⟨[], false, false⟩ ∧ OutR bR bM nv3 [⟨⟨#[101, 100, 105, 116]⟩, eA, eC, 1024, []⟩, ⟨⟨#[112, 97, 115, 116, 101]⟩, pA, pC, 1024, []⟩, ⟨⟨#[107, 101, 121, 115]⟩, kA, kC, 36, []⟩] Wa4 bG ∧ bS < pC ∧ pA = pC + 1 ∧ pA < bG ∧ bG < kC) := by
    have hx := HX2.out
    have hn := HN3.out
    have hoS := HI3.out.oS.2
    have hreg := (HI3.out.chg HB3.out.2.1).reg.r
    have hob : OutR bR bM nv2 [⟨⟨#[101, 100, 105, 116]⟩, eA, eC, 1024, []⟩, ⟨⟨#[112, 97, 115, 116, 101]⟩, pA, pC, 1024, []⟩] Wb3 bG := hx.2.1.on HB3.out.2.1.size
    have hsz : Wc3.heap.size ≤ Wa4.heap.size := by have q1 := HC3.out.2.1.size; have q2 := HC3.out.2.2.2.1.size; omega
    have hord : bS < pC ∧ bG < kC := by have q5 := HI2.out.oS.2; have q6 := hob.2; have q7 := HB3.out.2.2; omega
    refine Lib.hid ⟨(((hx.1.chg HB3.out.2.1 (by simp) (by simp) (by simp)).chg hn.2.1.c (core_out hob.1) (core_ar hreg (y := ⟨⟨#[112, 97, 115, 116, 101]⟩, pA, pC, 1024, []⟩) (by simp)).1 (core_ar hreg (y := ⟨⟨#[112, 97, 115, 116, 101]⟩, pA, pC, 1024, []⟩) (by simp)).2).chg HC3.out.2.1 (by simp; omega) (by simp; omega) (by simp; omega)).chg HC3.out.2.2.2.1 (by simp; omega) (by simp; omega) (by simp; omega), (hob.make hn.2.1.rg hn.2.1.c.size).on hsz, hord.1, by omega, by omega, hord.2⟩
  have HO23 : Hid (bG < kC) := Lib.hid HX2.out.2.2.2.2.2
  have hd3 := HN3.out.2.2
  clear HN3 HC3 HB3
  go_wp2_with fail
  rw [rounds_succ]
  have y0 : Wa4.cell? ⟨bL, 9, none⟩ = some (.string ⟨#[114, 101, 97, 100]⟩) := by rw [cell_of_heap HI4.out.hL]; rfl
  have y1 : Wa4.cell? ⟨bL, 10, none⟩ = some (.int .i64 64) := by rw [cell_of_heap HI4.out.hL]; rfl
  have y2 : Wa4.cell? ⟨bL, 11, none⟩ = some (.func (Fn.func 133) #[] #[.pointer (some ⟨bV, 0, none⟩)]) := by rw [cell_of_heap HI4.out.hL]; rfl
  have HB4 := Lib.hid (And.intro (alloc_heap Wa4 (.cells #[.string ⟨#[114, 101, 97, 100]⟩, .int .i64 64, .func (Fn.func 133) #[] #[.pointer (some ⟨bV, 0, none⟩)]] 215)) (And.intro ((Chg.refl [] Wa4).alloc (.cells #[.string ⟨#[114, 101, 97, 100]⟩, .int .i64 64, .func (Fn.func 133) #[] #[.pointer (some ⟨bV, 0, none⟩)]] 215)) (show (Wa4.alloc (.cells #[.string ⟨#[114, 101, 97, 100]⟩, .int .i64 64, .func (Fn.func 133) #[] #[.pointer (some ⟨bV, 0, none⟩)]] 215)).heap.size = Wa4.heap.size + 1 by simp)))
  have HMK := Lib.hid (beg_make (HI4.out.chg HB4.out.2.1) ⟨#[114, 101, 97, 100]⟩ 64 (by unfold maxLen; decide) (by kernel_rfl) (by rfl) (by simp) (by decide) (by decide))
  go_wp2_with fail
  generalize hWb : Wa4.alloc _ = Wb4 at *
  refine (HMK.out).mono ?_
  rintro e Wc4 ⟨rfl, nv4, I, M⟩
  have HM4 := Lib.hid (And.intro I M)
  have hx := M.c.heap HB4.out.1 (core_out (fun hm => by have := HI4.out.reg.r.lt _ hm; omega))
  have y3 : Wc4.cell? ⟨Wa4.heap.size, 2, none⟩ = some (.func (Fn.func 133) #[] #[.pointer (some ⟨bV, 0, none⟩)]) := by rw [cell_of_heap hx]; rfl
  clear y0 y1 y2 I M hx HMK hWb
  go_wp2_with fail
  have hA4 : Hid (Wb4.heap.size + 1 < Wc4.heap.size ∧ Wb4.heap.size = Wa4.heap.size + 1) := Lib.hid ⟨heap_lt (HM4.out.1.reg.r.ar ⟨⟨#[114, 101, 97, 100]⟩, Wb4.heap.size + 1, Wb4.heap.size, 64, []⟩ (by simp)).hA, HB4.out.2.2⟩
  obtain ⟨rA, hrA⟩ : ∃ b, b = Wb4.heap.size + 1 := ⟨_, rfl⟩
  obtain ⟨rC, hrC⟩ : ∃ b, b = Wb4.heap.size := ⟨_, rfl⟩
  have HN4 : Hid (BegI w0 w τ bR bM nv0 nv4 [⟨⟨#[101, 100, 105, 116]⟩, eA, eC, 1024, []⟩, ⟨⟨#[112, 97, 115, 116, 101]⟩, pA, pC, 1024, []⟩, ⟨⟨#[107, 101, 121, 115]⟩, kA, kC, 36, []⟩, ⟨⟨#[114, 101, 97, 100]⟩, rA, rC, 64, []⟩] bS bV bL (sesC τ.bT pr mode room (.pointer none) (.pointer (some ⟨bE, 0, none⟩)) (.pointer (some ⟨bG, 0, none⟩)) (.pointer (some ⟨bD, 0, none⟩))) (rowB bV) Wc4 ∧ MakeI bR bM nv3 nv4 [⟨⟨#[101, 100, 105, 116]⟩, eA, eC, 1024, []⟩, ⟨⟨#[112, 97, 115, 116, 101]⟩, pA, pC, 1024, []⟩, ⟨⟨#[107, 101, 121, 115]⟩, kA, kC, 36, []⟩] [⟨⟨#[101, 100, 105, 116]⟩, eA, eC, 1024, []⟩, ⟨⟨#[112, 97, 115, 116, 101]⟩, pA, pC, 1024, []⟩, ⟨⟨#[107, 101, 121, 115]⟩, kA, kC, 36, []⟩, ⟨⟨#[114, 101, 97, 100]⟩, rA, rC, 64, []⟩] Wb4 Wc4 ∧ rC = Wa4.heap.size + 1 ∧ rA = rC + 1 ∧ rA < Wc4.heap.size) := by
    have h := HM4.out
    have h2 := hA4.out
    rw [← hrA, ← hrC] at h
    exact Lib.hid ⟨h.1, h.2, by omega, by omega, by omega⟩
  rw [← hrA]
  clear hrA hrC HM4 hA4
  refine (beg4_any bV bS rA (.pointer (some ⟨τ.bT, 0, none⟩)) (.string pr) (.int .i64 mode) (.int .i64 room) (.pointer none) (.pointer (some ⟨bE, 0, none⟩)) (.pointer (some ⟨bG, 0, none⟩)) (.pointer (some ⟨bD, 0, none⟩)) Wc4 HN4.out.1.hV HN4.out.1.hS).mono ?_
  rintro e Wa5 ⟨rfl, C8, S8⟩
  have HC4 := Lib.hid (And.intro C8 S8)
  clear C8 S8 y3
  have HI5 : Hid (BegI w0 w τ bR bM nv0 nv4 [⟨⟨#[101, 100, 105, 116]⟩, eA, eC, 1024, []⟩, ⟨⟨#[112, 97, 115, 116, 101]⟩, pA, pC, 1024, []⟩, ⟨⟨#[107, 101, 121, 115]⟩, kA, kC, 36, []⟩, ⟨⟨#[114, 101, 97, 100]⟩, rA, rC, 64, []⟩] bS bV bL (sesC τ.bT pr mode room (.pointer (some ⟨rA, 0, none⟩)) (.pointer (some ⟨bE, 0, none⟩)) (.pointer (some ⟨bG, 0, none⟩)) (.pointer (some ⟨bD, 0, none⟩))) (rowB bV) Wa5) := Lib.hid (HN4.out.1.clo (y := ⟨⟨#[114, 101, 97, 100]⟩, rA, rC, 64, []⟩) (by simp) (by have := HI4.out.c.size; have := HN4.out.2.2; dsimp only; omega) (Chg.refl _ _) (HN4.out.1.reg.r.ar ⟨⟨#[114, 101, 97, 100]⟩, rA, rC, 64, []⟩ (by simp)) HC4.out.1 HC4.out.2)
  have HX4 : Hid (Ar.ArenaIs Wa5 rA rC 64 [] ∧ Wa4.heap.size ≤ rC ∧ rA = rC + 1 ∧ rA < Wa5.heap.size) := by
    have hn := HN4.out
    have hsz := HC4.out.1.size
    exact Lib.hid ⟨HI5.out.reg.r.ar ⟨⟨#[114, 101, 97, 100]⟩, rA, rC, 64, []⟩ (by simp), by omega, by omega, by omega⟩
  replace HX1 : Hid (BufIs Wa5 bE eA eC 1024 ⟨[], 0⟩ ∧ OutR bR bM nv4 [⟨⟨#[101, 100, 105, 116]⟩, eA, eC, 1024, []⟩, ⟨⟨#[112, 97, 115, 116, 101]⟩, pA, pC, 1024, []⟩, ⟨⟨#[107, 101, 121, 115]⟩, kA, kC, 36, []⟩, ⟨⟨#[114, 101, 97, 100]⟩, rA, rC, 64, []⟩] Wa5 bE ∧ bS < eC ∧ eA = eC + 1 ∧ eA < bE ∧ bE < rC) := by
    have hx := HX1.out
    have hn := HN4.out
    have hoS := HI4.out.oS.2
    have hreg := (HI4.out.chg HB4.out.2.1).reg.r
    have hob : OutR bR bM nv3 [⟨⟨#[101, 100, 105, 116]⟩, eA, eC, 1024, []⟩, ⟨⟨#[112, 97, 115, 116, 101]⟩, pA, pC, 1024, []⟩, ⟨⟨#[107, 101, 121, 115]⟩, kA, kC, 36, []⟩] Wb4 bE := hx.2.1.on HB4.out.2.1.size
    have hsz : Wc4.heap.size ≤ Wa5.heap.size := by exact HC4.out.1.size
    have hord : bS < eC ∧ bE < rC := by have q5 := HI1.out.oS.2; have q6 := hob.2; have q7 := HB4.out.2.2; omega
    refine Lib.hid ⟨((hx.1.chg HB4.out.2.1 (by simp) (by simp) (by simp)).chg hn.2.1.c (core_out hob.1) (core_ar hreg (y := ⟨⟨#[101, 100, 105, 116]⟩, eA, eC, 1024, []⟩) (by simp)).1 (core_ar hreg (y := ⟨⟨#[101, 100, 105, 116]⟩, eA, eC, 1024, []⟩) (by simp)).2).chg HC4.out.1 (by simp; omega) (by simp; omega) (by simp; omega), (hob.make hn.2.1.rg hn.2.1.c.size).on hsz, hord.1, by omega, by omega, hord.2⟩
  replace HX2 : Hid (StgIs Wa5 bG pA pC 1024 ⟨[], false, false⟩ ∧ OutR bR bM nv4 [⟨⟨#[101, 100, 105, 116]⟩, eA, eC, 1024, []⟩, ⟨⟨#[112, 97, 115, 116, 101]⟩, pA, pC, 1024, []⟩, ⟨⟨#[107, 101, 121, 115]⟩, kA, kC, 36, []⟩, ⟨⟨#[114, 101, 97, 100]⟩, rA, rC, 64, []⟩] Wa5 bG ∧ bS < pC ∧ pA = pC + 1 ∧ pA < bG ∧ bG < rC) := by
    have hx := HX2.out
    have hn := HN4.out
    have hoS := HI4.out.oS.2
    have hreg := (HI4.out.chg HB4.out.2.1).reg.r
    have hob : OutR bR bM nv3 [⟨⟨#[101, 100, 105, 116]⟩, eA, eC, 1024, []⟩, ⟨⟨#[112, 97, 115, 116, 101]⟩, pA, pC, 1024, []⟩, ⟨⟨#[107, 101, 121, 115]⟩, kA, kC, 36, []⟩] Wb4 bG := hx.2.1.on HB4.out.2.1.size
    have hsz : Wc4.heap.size ≤ Wa5.heap.size := by exact HC4.out.1.size
    have hord : bS < pC ∧ bG < rC := by have q5 := HI2.out.oS.2; have q6 := hob.2; have q7 := HB4.out.2.2; omega
    refine Lib.hid ⟨((hx.1.chg HB4.out.2.1 (by simp) (by simp) (by simp)).chg hn.2.1.c (core_out hob.1) (core_ar hreg (y := ⟨⟨#[112, 97, 115, 116, 101]⟩, pA, pC, 1024, []⟩) (by simp)).1 (core_ar hreg (y := ⟨⟨#[112, 97, 115, 116, 101]⟩, pA, pC, 1024, []⟩) (by simp)).2).chg HC4.out.1 (by simp; omega) (by simp; omega) (by simp; omega), (hob.make hn.2.1.rg hn.2.1.c.size).on hsz, hord.1, by omega, by omega, hord.2⟩
  replace HX3 : Hid (DecIs Wa5 bD kA kC 36 ⟨[], false⟩ ∧ OutR bR bM nv4 [⟨⟨#[101, 100, 105, 116]⟩, eA, eC, 1024, []⟩, ⟨⟨#[112, 97, 115, 116, 101]⟩, pA, pC, 1024, []⟩, ⟨⟨#[107, 101, 121, 115]⟩, kA, kC, 36, []⟩, ⟨⟨#[114, 101, 97, 100]⟩, rA, rC, 64, []⟩] Wa5 bD ∧ bS < kC ∧ kA = kC + 1 ∧ kA < bD ∧ bD < rC) := by
    have hx := HX3.out
    have hn := HN4.out
    have hoS := HI4.out.oS.2
    have hreg := (HI4.out.chg HB4.out.2.1).reg.r
    have hob : OutR bR bM nv3 [⟨⟨#[101, 100, 105, 116]⟩, eA, eC, 1024, []⟩, ⟨⟨#[112, 97, 115, 116, 101]⟩, pA, pC, 1024, []⟩, ⟨⟨#[107, 101, 121, 115]⟩, kA, kC, 36, []⟩] Wb4 bD := hx.2.1.on HB4.out.2.1.size
    have hsz : Wc4.heap.size ≤ Wa5.heap.size := by exact HC4.out.1.size
    have hord : bS < kC ∧ bD < rC := by have q5 := HI3.out.oS.2; have q6 := hob.2; have q7 := HB4.out.2.2; omega
    refine Lib.hid ⟨((hx.1.chg HB4.out.2.1 (by simp) (by simp) (by simp)).chg hn.2.1.c (core_out hob.1) (core_ar hreg (y := ⟨⟨#[107, 101, 121, 115]⟩, kA, kC, 36, []⟩) (by simp)).1 (core_ar hreg (y := ⟨⟨#[107, 101, 121, 115]⟩, kA, kC, 36, []⟩) (by simp)).2).chg HC4.out.1 (by simp; omega) (by simp; omega) (by simp; omega), (hob.make hn.2.1.rg hn.2.1.c.size).on hsz, hord.1, by omega, by omega, hord.2⟩
  have HO34 : Hid (bD < rC) := Lib.hid HX3.out.2.2.2.2.2
  have hd4 := HN4.out.2.2
  clear HN4 HC4 HB4
  go_wp2_with fail
  rw [rounds_succ]
  have y8 : Wa5.cell? ⟨bV, 0, none⟩ = some (.pointer (some ⟨bS, 0, none⟩)) := by rw [cell_of_heap HI5.out.hV]; rfl
  go_wp2_with fail
  go_ret2
  have hh := HH.out
  exact beg_end hh.1 hh.2.1 hh.2.2.1 hh.2.2.2.1 hh.2.2.2.2.1 hh.2.2.2.2.2.1 hh.2.2.2.2.2.2 HI5.out HX1.out HX2.out HX3.out ⟨HX4.out.1, HX4.out.2.2⟩ HO12.out HO23.out HO34.out
end Go.Proofs.YtafmnkngjjnpiaaGreatDoor
