import Derived.Test.YtafmnkngjjnpiaaGreatDoorTqN
import Derived.Test.YtafmnkngjjnpiaaGreatDoorRegW
namespace Go.Proofs.YtafmnkngjjnpiaaGreatDoor.Ar
set_option linter.unusedVariables false
set_option linter.unusedSimpArgs false
set_option maxRecDepth 100000
open Go.RowKit Go.Shelf Go.WideShapes
attribute [local go_sem] Oper.semAt_some
def MarksK (P : Program) (fn : Func) (tmps : Array Value) (R : Ending → World → Prop) : List Deferred → World → Prop
  | [], w => ∃ v, (results fn tmps).run P w = .ok v w ∧ R (.returned v) w
  | d :: ds, w => ∃ r w', d.target = .collected r ∧ (Instr.takeDeferred r).run P w = .ok [] w' ∧ MarksK P fn tmps R ds w'
def bodyPostK (P : Program) (fn : Func) (R : Ending → World → Prop) : Exit → Act → World → Prop
  | .normal, a, w | .ret, a, w => MarksK P fn a.tmps R a.defers w
  | .outgrown, _, w => R .outgrown w
  | _, _, _ => False
theorem marks_steps {P : Program} {fn : Func} {tmps : Array Value} {R : Ending → World → Prop} : ∀ (ds : List Deferred) (w : World) (fr : Frame) (cs : List Frame), fr.mode = .returning → fr.defers = ds → fr.tmps = tmps → P.funcs[fr.fn]? = some fn → MarksK P fn tmps R ds w →
    ∃ v w' fr', R (.returned v) w' ∧ Steps P (lone fr cs w) (lone fr' cs w') ∧ fr'.kind = fr.kind ∧ fr'.going P w' (.returned v) := by
  intro ds
  induction ds with
  | nil =>
    intro w fr cs hm hd ht hf h
    obtain ⟨v, hr, hR⟩ := h
    exact ⟨v, w, fr, hR, Steps.refl P _, rfl, hm, hd, fn, hf, ht ▸ hr⟩
  | cons d ds ih =>
    intro w fr cs hm hd ht hf h
    obtain ⟨r, w', htar, htake, hrest⟩ := h
    have h1 := step_collected (P := P) (cs := cs) (by rw [hm]; intro e; cases e) hd htar htake
    obtain ⟨v, w2, fr2, hR, hs, hk, hg⟩ := ih w' { fr with defers := [] ++ ds } cs hm rfl ht hf hrest
    exact ⟨v, w2, fr2, hR, .head h1 hs, hk, hg⟩
theorem callsD_marks {P : Program} {n : Nat} {f : FuncId} {fn : Func} {c : Code} {args : Array Value} {w : World} {R : Ending → World → Prop} (hf : P.funcs[f]? = some fn) (hb : fn.body = some c)
    (h : c.wpIn Fence.wide n P (bodyPostK P fn R) { tmps := args ++ Array.replicate (fn.ntmps - args.size) undef, defers := [] } w) :
    CallsD P f args .returning w fun e u' w' => u' = .returning ∧ R e w' := by
  intro c₀ cs hu
  let b : Frame := { (default : Frame) with fn := f, kind := .deferred, roundOf := none }
  have henter : Frame.enter P f args .deferred = b.atR { tmps := args ++ Array.replicate (fn.ntmps - args.size) undef, defers := [] } [.code c] := by
    simp [Frame.enter, Frame.atR, hf, hb, b]
  have hc : ({ c₀ with mode := .returning } : Frame) = c₀ := by rw [← hu]
  obtain ⟨e, a', w', hq, harr⟩ := h b [] (c₀ :: cs) rfl trivial (room_wide _)
  rw [← henter] at harr
  cases e with
  | normal =>
    obtain ⟨v, w2, fr2, hR, hs, hk, hg⟩ := marks_steps a'.defers w' { b.atR a' [] with mode := .returning } (c₀ :: cs) rfl rfl rfl hf hq
    exact ⟨.returned v, .returning, w2, fr2, ⟨rfl, hR⟩, (by rw [hc]; exact Steps.trans (stepsIn_wide.1 harr) (.head (stepR_end rfl) hs)), hk, hg⟩
  | ret =>
    obtain ⟨todo, hs₀⟩ := harr.1 rfl
    obtain ⟨v, w2, fr2, hR, hs, hk, hg⟩ := marks_steps a'.defers w' { b.atR a' todo with mode := .returning } (c₀ :: cs) rfl rfl rfl hf hq
    exact ⟨.returned v, .returning, w2, fr2, ⟨rfl, hR⟩, (by rw [hc]; exact Steps.trans (stepsIn_wide.1 hs₀) hs), hk, hg⟩
  | panic chain => exact hq.elim
  | exit id => exact hq.elim
  | goto l => exact hq.elim
  | outgrown => exact ⟨.outgrown, .returning, w', b, ⟨rfl, hq⟩, comesIn_wide.1 (harr.resolve_left (by simp [b])), rfl, trivial⟩
set_option maxHeartbeats 4000000 in
theorem rWipe_def (bR bM : Nat) (nv : Value) (A : List Ent) (w : World) (h : RegIs w bR bM nv A) :
    CallsD Tryz.prog 109 #[.pointer (some ⟨bR, 0, none⟩)] .returning w fun e u' w' => u' = .returning ∧ (∃ v, e = .returned v) ∧ Chg (arB A) w w' ∧ RegIs w' bR bM nv (wiped A) := by
  refine callsD_marks (n := 6) (R := fun e w' => (∃ v, e = .returned v) ∧ Chg (arB A) w w' ∧ RegIs w' bR bM nv (wiped A)) Tryz.func109 rfl ?_
  simp only [Tryz.ntmps109, List.size_toArray, List.length_cons, List.length_nil, Nat.reduceAdd, Nat.reduceSub, Array.replicate_succ, Array.replicate_zero, List.push_toArray, List.append_toArray, List.nil_append, List.cons_append]
  gi_wp2_with (refine ⟨trivial, ?_⟩; gi_at_call 115; refine (all_in Fence.wide _ trivial rfl _ _).mono ?_; rintro e w' ⟨rfl, rfl⟩)
  obtain ⟨w1, hw1⟩ : ∃ w1, w1 = w.alloc (.cells #[.pointer (some ⟨bR, 0, none⟩)] 149) := ⟨_, rfl⟩
  have C1 : Chg [] w w1 := by rw [hw1]; exact (Chg.refl _ _).alloc _
  have R1 := h.chg C1 (by simp)
  have hB : w1.heap[w.heap.size]? = some (.cells #[.pointer (some ⟨bR, 0, none⟩)] 149 (0, 0)) := by rw [hw1]; exact alloc_heap w _
  have hz : w1.heap.size = w.heap.size + 1 := by rw [hw1]; simp
  have hlt := h.lt
  rw [← hw1]
  obtain ⟨nd1, nd2⟩ := nodup_arB h.nodup
  have hltA : ∀ x ∈ arB A, x < w.heap.size := fun x hx => hlt x (by unfold blks; exact List.mem_cons_of_mem _ (List.mem_cons_of_mem _ (List.mem_append.2 (.inr hx))))
  have hKs : ∀ k ∈ itBlks w.heap.size bR bM nv, k < w1.heap.size ∧ k ∉ arB A := fun k hk => by
    refine ⟨by rcases itBlks_lt hlt k hk with e | e <;> omega, fun hm => ?_⟩
    unfold itBlks at hk
    rcases List.mem_cons.1 hk with rfl | hk
    · have := hltA _ hm; omega
    · exact nd2 k hk hm
  refine wpIn_rangeFunc_ownF rfl (by omega) (gf := 143) (lb := #[.pointer (some ⟨w.heap.size, 0, none⟩)]) rfl trivial (enters_of Tryz.func143 (by kernel_rfl) rfl)
    (all_stops Fence.wide 5 trivial rfl (by omega) w.heap.size bR bM nv A w1 hB R1) KeepB.trans (keepB_b (fun k hk => (hKs k hk).1)) (Below.refl _ _) (fun _ => rfl)
    (fun pre W => Chg (arB A) w1 W ∧ ∀ x : EntOf A, (x ∈ pre → ArenaIs W x.1.bA x.1.bC x.1.N []) ∧ (x ∉ pre → ArenaIs W x.1.bA x.1.bC x.1.N x.1.l))
    (fun _ _ _ => False)
    (OwnFrom.and (ownFrom_chg (Nat.le_refl _)) (fun s W W' row hs hg hr x => ⟨fun hx => arena_grown ((hs x).1 hx) hg (fun r e => (hr r e).1) (by have := hltA _ (mem_arB x.2).1; omega) (by have := hltA _ (mem_arB x.2).2; omega), fun hx => arena_grown ((hs x).2 hx) hg (fun r e => (hr r e).1) (by have := hltA _ (mem_arB x.2).1; omega) (by have := hltA _ (mem_arB x.2).2; omega)⟩))
    (fun _ _ _ _ _ hs _ _ => hs)
    ⟨Chg.refl _ _, fun x => ⟨fun hx => (by cases hx), fun _ => R1.ar x.1 x.2⟩⟩
    (fun x => { tmps := #[.pointer (some ⟨bR, 0, none⟩), undef, .pointer (some ⟨x.1.bA, 0, none⟩), .pointer (some ⟨bR, 0, none⟩), .func (.func 143) #[] #[.pointer (some ⟨w.heap.size, 0, none⟩)], .pointer (some ⟨x.1.bA, 0, none⟩), undef, undef], defers := [] }) ?assign ?body ?done ?stop
  case assign =>
    intro l x W K hK
    gi_wp2
    exact hK
  case body =>
    rintro l pre x W ⟨hC, hH⟩ hlen
    obtain ⟨lx, hA⟩ : ∃ lx, ArenaIs W x.1.bA x.1.bC x.1.N lx := by
      by_cases hx : x ∈ pre
      · exact ⟨_, (hH x).1 hx⟩
      · exact ⟨_, (hH x).2 hx⟩
    have hcall := wipe_any x.1.bA x.1.bC x.1.N lx W hA
    have hxa := mem_arB x.2
    gi_wp2_with (refine ⟨trivial, ?_⟩; gi_at_call 39; refine (CallsIn.inRound l (callsIn_wide.2 hcall)).mono ?_; rintro e w' ⟨rfl, C2, A2⟩)
    have C3 : Chg (arB A) W w' := C2.mono (fun y hy => by
      rcases List.mem_cons.1 hy with rfl | hy
      · exact hxa.1
      · rw [List.mem_singleton.1 hy]; exact hxa.2)
    refine ⟨keepsOthers_chg C2 (fun k hk o ho => ?_), KeepB.of_chg C3 (fun k hk => ⟨by have := (hKs k hk).1; have := hC.size; omega, (hKs k hk).2⟩), hC.trans C3 (fun y hy => hy) (fun y hy _ => hy), fun y => ?_⟩
    · rcases List.mem_cons.1 hk with rfl | hk
      · rw [hA.hA] at ho; injection ho with ho; rw [← ho]; rfl
      · rw [List.mem_singleton.1 hk, hA.hC] at ho; injection ho with ho; rw [← ho]; rfl
    · by_cases hxy : y = x
      · subst hxy
        exact ⟨fun _ => A2, fun hn => absurd (List.mem_append.2 (.inr (by simp))) hn⟩
      · have hne : x.1 ≠ y.1 := fun e => hxy (Subtype.ext e.symm)
        obtain ⟨⟨n1, n2⟩, n3, n4⟩ := nodup_flat nd1 x.1 x.2 y.1 y.2 hne
        have hk : ∀ l', ArenaIs W y.1.bA y.1.bC y.1.N l' → ArenaIs w' y.1.bA y.1.bC y.1.N l' := fun l' ha => ha.chg C2 (by simp; exact ⟨n1.symm, n3.symm⟩) (by simp; exact ⟨n2.symm, n4.symm⟩)
        refine ⟨fun hy => ?_, fun hy => hk _ ((hH y).2 (fun hp => hy (List.mem_append.2 (.inl hp))))⟩
        rcases List.mem_append.1 hy with hy | hy
        · exact hk _ ((hH y).1 hy)
        · exact absurd (List.mem_singleton.1 hy) hxy
  case done =>
    rintro D ys W hD rfl ⟨hC, hH⟩ hK
    gi_wp2
    refine ⟨_, _, rfl, run_takeDeferred hK, ?_⟩
    have CD := chg_putObj W D (.deferred none) (Nat.zero_le _)
    have hnD : ∀ x ∈ arB A, x ≠ D := fun x hx => by have := hltA x hx; omega
    have E : Chg (arB A) w (W.putObj D (.deferred none)) := C1.trans (hC.trans CD (U := arB A ++ [D]) (fun y hy => List.mem_append.2 (.inl hy)) (fun y hy _ => List.mem_append.2 (.inr hy))) (by simp) (fun y hy hl => by
      rcases List.mem_append.1 hy with hy | hy
      · exact hy
      · rw [List.mem_singleton.1 hy] at hl; omega)
    refine ⟨_, results_none rfl _ _ _, ⟨_, rfl⟩, E, h.wipe E (fun x hx => ?_)⟩
    exact ((hH ⟨x, hx⟩).1 (List.mem_attach _ _)).chg CD (by simp; exact hnD _ (mem_arB hx).1) (by simp; exact hnD _ (mem_arB hx).2)
  case stop =>
    rintro D c pre W _ _ h _
    exact h.elim
end Go.Proofs.YtafmnkngjjnpiaaGreatDoor.Ar

namespace Go.Proofs.YtafmnkngjjnpiaaGreatDoor
set_option linter.unusedVariables false
set_option linter.unusedSimpArgs false
set_option maxRecDepth 100000
open Go.RowKit
def sinkC (g n : Nat) (k : Int) (b : Bool) : Obj := .cells #[.slice (some ⟨g, 0, none⟩) n n, .int .i64 k, .bool b] 231 (0, 0)
theorem sinkNew_any (g n c : Nat) (hc : n ≤ c) (w : World) :
    Calls Tryz.prog 111 #[.slice (some ⟨g, 0, none⟩) n c] w fun e w' => e = .returned (.pointer (some ⟨w.heap.size, 0, none⟩)) ∧ Chg [] w w' ∧ w'.heap[w.heap.size]? = some (sinkC g n 0 false) := by
  go_enter Tryz.func111, Tryz.ntmps111
  go_wp2_with fail
  go_ret
  exact ⟨rfl, (Chg.refl _ _).alloc _, alloc_heap w _⟩
set_option maxHeartbeats 8000000 in
theorem deliver_small (bK g n bE eA eC : Nat) (b : Bf) (w : World) (hK : w.heap[bK]? = some (sinkC g n 0 false)) (hB : BufIs w bE eA eC 1024 b) (hn : n < b.l.length) :
    Calls Tryz.prog 112 #[.pointer (some ⟨bK, 0, none⟩), .pointer (some ⟨bE, 0, none⟩)] w fun e w' => e = .returned (.tuple #[.int .i64 0, .int .i64 12]) ∧ Chg [] w w' := by
  have x0 : w.cell? ⟨bK, 0, none⟩ = some (.slice (some ⟨g, 0, none⟩) n n) := by rw [cell_of_heap hK]; rfl
  have x2 : w.cell? ⟨bK, 2, none⟩ = some (.bool false) := by rw [cell_of_heap hK]; rfl
  have HLN := Lib.hid (fun W (c : Chg [] w W) => len_buf bE eA eC 1024 b W (hB.chg0 c))
  have t1 : decide ((n : Int) < ((b.l.length : Nat) : Int)) = true := decide_eq_true (by omega)
  clear hK hB t1
  go_enter Tryz.func112, Tryz.ntmps112
  go_upto_region 5 with (fail)
  go_region_held3 (fun w' => w'.cell? ⟨bK, 0, none⟩ = some (.slice (some ⟨g, 0, none⟩) n n))
    (first | exact x0 | go_keep)
    (first
     | (go_at_call 141; refine (HLN.out _ (by first | exact Chg.refl [] w | exact (Chg.refl [] w).drew | exact (Chg.refl [] w).drewN _)).mono ?_; rintro e w2 ⟨rfl, rfl⟩))
  go_wp2_with fail
  go_ret2
  exact ⟨rfl, by first | exact Chg.refl [] w | exact (Chg.refl [] w).drew | exact (Chg.refl [] w).drewN _⟩
set_option maxHeartbeats 8000000 in
theorem deliver_ok (bK g n bE eA eC : Nat) (b : Bf) (cur : List Value) (t : TypeId) (w : World) (hK : w.heap[bK]? = some (sinkC g n 0 false)) (hB : BufIs w bE eA eC 1024 b) (hg : w.heap[g]? = some (.cells cur.toArray t (0, 0))) (hn : b.l.length ≤ n) (hc : n ≤ cur.length) (hne : bK ≠ g) :
    Calls Tryz.prog 112 #[.pointer (some ⟨bK, 0, none⟩), .pointer (some ⟨bE, 0, none⟩)] w fun e w' => e = .returned (.tuple #[.int .i64 (b.l.length : Nat), .int .i64 0]) ∧ Chg [g, bK] w w' ∧ w'.heap[g]? = some (.cells (splice cur 0 (b.l.map (Value.int .u8))).toArray t (0, 0)) := by
  have x0 : w.cell? ⟨bK, 0, none⟩ = some (.slice (some ⟨g, 0, none⟩) n n) := by rw [cell_of_heap hK]; rfl
  have x2 : w.cell? ⟨bK, 2, none⟩ = some (.bool false) := by rw [cell_of_heap hK]; rfl
  have HLN := Lib.hid (fun W (c : Chg [] w W) => len_buf bE eA eC 1024 b W (hB.chg0 c))
  have hcp := fun W (c : Chg [] w W) => copy_buf bE eA eC 1024 b g n n cur t W (hB.chg0 c) (c.heap hg (by simp)) hc
  rw [show min b.l.length n = b.l.length by omega, List.take_of_length_le hn] at hcp
  have HCP := Lib.hid hcp
  have hn2 : ¬ n < b.l.length := by omega
  have HK := Lib.hid (And.intro hK hne)
  clear hK hB hn hcp hg hc hne
  go_enter Tryz.func112, Tryz.ntmps112
  go_upto_region 5 with (fail)
  go_region_held3 (fun w' => w'.cell? ⟨bK, 0, none⟩ = some (.slice (some ⟨g, 0, none⟩) n n))
    (first | exact x0 | go_keep)
    (first
     | (go_at_call 141; refine (HLN.out _ (by first | exact Chg.refl [] w | exact (Chg.refl [] w).drew | exact (Chg.refl [] w).drewN _)).mono ?_; rintro e w2 ⟨rfl, rfl⟩))
  have y0 : w.drew.cell? ⟨bK, 0, none⟩ = some (.slice (some ⟨g, 0, none⟩) n n) := x0
  have HY := Lib.hid (show w.drew.heap[bK]? = some (sinkC g n 0 false) from HK.out.1)
  go_wp2_with fail
  refine (HCP.out _ (by first | exact Chg.refl [] w | exact (Chg.refl [] w).drew | exact (Chg.refl [] w).drewN _)).mono ?_
  rintro e w3 ⟨rfl, C3', G3⟩
  have C3 : Chg [g] w w3 := by first | exact C3' | exact C3'.of_drew | exact C3'.of_drewN
  have hk3 := C3.heap HK.out.1 (by simpa using HK.out.2)
  have z1 : w3.cell? ⟨bK, 1, none⟩ = some (.int .i64 0) := by rw [cell_of_heap hk3]; rfl
  have z2 : w3.cell? ⟨bK, 2, none⟩ = some (.bool false) := by rw [cell_of_heap hk3]; rfl
  have f1 : w3.frozen? ⟨bK, 1, none⟩ = false := free_of_heap hk3 1
  have f2 : w3.frozen? ⟨bK, 2, none⟩ = false := free_of_heap hk3 2
  have HP := Lib.hid (And.intro C3 (And.intro G3 hk3))
  clear C3 C3' G3 hk3 hn2 x0 x2 y0
  go_wp2_with fail
  go_ret2
  have hp := HP.out
  have c4 : Chg [bK] w3 ((w3.setCell ⟨bK, 1, none⟩ (.int .i64 (b.l.length : Nat))).setCell ⟨bK, 2, none⟩ (.bool true)) := ((Chg.refl [bK] w3).setCell (p := ⟨bK, 1, none⟩) (Or.inl List.mem_cons_self) _).setCell (p := ⟨bK, 2, none⟩) (Or.inl List.mem_cons_self) _
  exact ⟨rfl, hp.1.trans c4 (U := [g, bK]) (by simp) (by simp), c4.heap hp.2.1 (by simpa using Ne.symm HK.out.2)⟩
end Go.Proofs.YtafmnkngjjnpiaaGreatDoor

namespace Go.Proofs.YtafmnkngjjnpiaaGreatDoor
set_option linter.unusedVariables false
set_option linter.unusedSimpArgs false
set_option maxRecDepth 100000
open Go.RowKit
theorem nodup_by {f : Nat → Nat} : ∀ {l : List Nat}, (l.map f).Nodup → l.Nodup
  | [], _ => List.nodup_nil
  | a :: r, h => by
    rw [List.map_cons, List.nodup_cons] at h
    exact List.nodup_cons.2 ⟨fun hm => h.1 (List.mem_map.2 ⟨a, hm, rfl⟩), nodup_by h.2⟩
theorem findP_ents (γ : Gm) (e p k r : List Int) : Ar.findP (γ.ents e p k r) = Ar.findP (γ.ents [] [] [] []) := by
  funext s
  unfold Ar.findP Gm.ents
  by_cases h1 : (⟨#[101, 100, 105, 116]⟩ : ByteArray) = s
  · simp [List.find?, h1]
  by_cases h2 : (⟨#[112, 97, 115, 116, 101]⟩ : ByteArray) = s
  · simp [List.find?, h1, h2]
  by_cases h3 : (⟨#[107, 101, 121, 115]⟩ : ByteArray) = s
  · simp [List.find?, h1, h2, h3]
  by_cases h4 : (⟨#[114, 101, 97, 100]⟩ : ByteArray) = s
  · simp [List.find?, h1, h2, h3, h4]
  · simp [List.find?, h1, h2, h3, h4]
theorem SesIs.reg {w0 w : World} {γ : Gm} {τ : Tt} {s : Ss} {rd : List Int} (h : SesIs w0 w γ τ s rd) : Ar.RegIs w γ.bR γ.bM γ.nv (γ.ents s.b.l s.g.l s.d.h rd) := by
  have K := h.K
  refine ⟨h.hR, h.row, by rw [findP_ents]; exact h.map, fun x hx => ?_, fun x hx => ?_, fun x hx => ?_, (show (4 : Nat) ≤ 16 by decide), ?_⟩
  · unfold Gm.ents at hx
    simp only [List.mem_cons, List.not_mem_nil, or_false] at hx
    rcases hx with rfl | rfl | rfl | rfl
    · exact h.B.ar
    · exact h.G.ar
    · exact h.D.ar
    · exact h.A
  · unfold Gm.ents at hx
    simp only [List.mem_cons, List.not_mem_nil, or_false] at hx
    rcases hx with rfl | rfl | rfl | rfl <;> simp [maxLen, ByteArray.size]
  · unfold Gm.ents at hx ⊢
    simp only [List.mem_cons, List.not_mem_nil, or_false] at hx
    rcases hx with rfl | rfl | rfl | rfl <;> rfl
  · refine nodup_by (f := γ.κ) ?_
    unfold Ar.blks Gm.ents
    cases hb : γ.nv.ownBlock with
    | none => simp [K.k13, K.k14, K.k5, K.k6, K.k7, K.k8, K.k9, K.k10, K.k11, K.k12]
    | some k => simp [K.k13, K.k14, K.k5, K.k6, K.k7, K.k8, K.k9, K.k10, K.k11, K.k12, K.k15 k hb]
theorem wipe_runs (b : Nat) (w : World) : (invoke (.fn (Fn.func 109) #[]) #[.pointer (some ⟨b, 0, none⟩)]).run Tryz.prog w = .ok (.enter 109 #[.pointer (some ⟨b, 0, none⟩)]) w := by kernel_rfl
def resC (o n : Int) : Obj := .cells #[.int .i64 o, .int .i64 n] 79 (0, 0)
theorem run_res {tmps : Array Value} {b : Nat} {o n : Int} {w : World} (hp : tmps.getD 8 undef = .pointer (some ⟨b, 0, none⟩)) (h9 : tmps.getD 9 undef = .int .i64 0) (h : w.heap[b]? = some (resC o n)) :
    (results Tryz.f88 tmps).run Tryz.prog w = .ok (.tuple #[.agg #[.int .i64 o, .int .i64 n], .int .i64 0]) w := by
  have hp' : tmps[8]?.getD undef = .pointer (some ⟨b, 0, none⟩) := by simpa using hp
  have h9' : tmps[9]?.getD undef = .int .i64 0 := by simpa using h9
  have c0 : w.cell? ⟨b, 0, none⟩ = some (.int .i64 o) := by rw [cell_of_heap h]; rfl
  have c1 : w.cell? ⟨b, 1, none⟩ = some (.int .i64 n) := by rw [cell_of_heap h]; rfl
  simp [results, Tryz.results88, hp', h9', c0, c1, go_sem]
def startS (τ : Tt) : Ss := ⟨ptOf τ, ⟨[], 0⟩, ⟨[], false, false⟩, ⟨[], false⟩⟩
def outR (n : Nat) (o : Int) (b : List Int) : Int × Int := if o = 0 then (if n < b.length then (5, 0) else (0, (b.length : Nat))) else (o, 0)
def outG (n : Nat) (o : Int) (b : List Int) (cur : List Value) : List Value := if o = 0 ∧ ¬ n < b.length then splice cur 0 (b.map (Value.int .u8)) else cur
def RunPost (w0 : World) (τ : Tt) (bR bM : Nat) (q : Aq) (n g : Nat) (cur : List Value) (w : World) (e : Ending) (w' : World) : Prop :=
  ∃ τ' o s' nv' A', AllR q (startS τ) o s' ∧ e = .returned (.tuple #[.agg #[.int .i64 (outR n o s'.b.l).1, .int .i64 (outR n o s'.b.l).2], .int .i64 0]) ∧ TtIs w0 w' τ' ∧ ptOf τ' = s'.t ∧ τ'.bT = τ.bT ∧ Ar.RegIs w' bR bM nv' (Ar.wiped A') ∧
    w'.heap[g]? = some (.cells (outG n o s'.b.l cur).toArray 5 (0, 0)) ∧ τ'.E.length ≤ 1000000 ∧ (∀ x ∈ Ar.blks bR bM nv' (Ar.wiped A'), ¬ τ'.own x)
theorem run_leave {w0 w w' : World} {γ : Gm} {τ τ' : Tt} {s' : Ss} {rd' : List Int} {b8 n g : Nat} {o : Int} {cur : List Value} {tmps : Array Value} (hp : tmps.getD 8 undef = .pointer (some ⟨b8, 0, none⟩)) (h9 : tmps.getD 9 undef = .int .i64 0) (hA : AllR γ.q (startS τ) o s') (h : SesIs w0 w' γ τ' s' rd') (hb : τ'.bT = τ.bT)
    (h8 : w'.heap[b8]? = some (resC (outR n o s'.b.l).1 (outR n o s'.b.l).2) ∧ ¬ Sown γ τ' b8) (hg : w'.heap[g]? = some (.cells (outG n o s'.b.l cur).toArray 5 (0, 0)) ∧ ¬ Sown γ τ' g) (hf : fee τ' ≤ 1000000) :
    LeavesM Tryz.prog Tryz.f88 tmps (RunPost w0 τ γ.bR γ.bM γ.q n g cur w) [{ target := .fn (Fn.func 109) #[], args := #[.pointer (some ⟨γ.bR, 0, none⟩)] }] w' := by
  have K := h.K
  refine LeavesM.fn (wipe_runs γ.bR w') (Ar.rWipe_def γ.bR γ.bM γ.nv _ w' h.reg) (fun w2 ⟨C2, R2⟩ => ?_)
  have hk : ∀ x ∈ Ar.arB (γ.ents s'.b.l s'.g.l s'.d.h rd'), γ.κ x ≠ 0 := by
    unfold Ar.arB Gm.ents
    simp [K.k5, K.k6, K.k7, K.k8, K.k9, K.k10, K.k11, K.k12]
  have hn : ∀ x, ¬ Sown γ τ' x → x ∉ Ar.arB (γ.ents s'.b.l s'.g.l s'.d.h rd') := fun x hx hm => hx (.inl (hk x hm))
  refine LeavesM.none (run_res hp h9 (C2.heap h8.1 (hn _ h8.2))) ⟨τ', o, s', γ.nv, _, hA, rfl, h.tk C2 hk, h.t.symm, hb, R2, C2.heap hg.1 (hn _ hg.2), ?_, fun x hx => h.sep x ?_⟩
  · unfold fee at hf; omega
  · unfold Ar.blks at hx
    rcases List.mem_cons.1 hx with rfl | hx
    · rw [K.k13]; decide
    rcases List.mem_cons.1 hx with rfl | hx
    · rw [K.k14]; decide
    rcases List.mem_append.1 hx with hx | hx
    · rw [K.k15 x (by simpa [Option.mem_toList] using hx)]; decide
    · exact hk x (by
        unfold Ar.arB
        unfold Ar.wiped at hx
        simpa [Gm.ents] using hx)
end Go.Proofs.YtafmnkngjjnpiaaGreatDoor

namespace Go.Proofs.YtafmnkngjjnpiaaGreatDoor
set_option linter.unusedVariables false
set_option linter.unusedSimpArgs false
set_option maxRecDepth 100000
open Go.RowKit
theorem budI_start (τ : Tt) : budI (startS τ).t.its = bud τ.Z := by rw [bud_its]; rfl
set_option maxHeartbeats 16000000 in
theorem pRun_any (w0 w : World) (τ : Tt) (bR bM : Nat) (nv0 : Value) (pr : ByteArray) (mode room : Int) (n g c : Nat) (cur : List Value) (hT : TtIs w0 w τ) (hR : Ar.OwnR w0 w bR bM nv0 []) (hsep : ∀ x ∈ Ar.blks bR bM nv0 [], ¬ τ.own x) (hL : LibT w0) (hask : AskOk pr mode room)
    (hcn : τ.c.wrote ≤ τ.E.length ∧ τ.c.got ≤ τ.E.length ∧ τ.c.set ≤ τ.E.length) (hz : ∀ z ∈ τ.Z, ZOk z) (hg : w.heap[g]? = some (.cells cur.toArray 5 (0, 0))) (hgn : g ∉ Ar.blks bR bM nv0 [] ∧ ¬ τ.own g ∧ w0.heap.size ≤ g) (hn : n ≤ cur.length) (hc : n ≤ c) (hf : fee τ + bud τ.Z ≤ 960000) :
    Calls Tryz.prog 88 #[.pointer (some ⟨τ.bT, 0, none⟩), .pointer (some ⟨bR, 0, none⟩), askV pr mode room, .slice (some ⟨g, 0, none⟩) n c] w (RunPost w0 τ bR bM ⟨bI pr, mode⟩ n g cur w) := by
  have HH := Lib.hid (And.intro hT (And.intro hR (And.intro hsep (And.intro hL (And.intro hask (And.intro hcn (And.intro hz (And.intro hg (And.intro hgn (And.intro hn (And.intro hc hf)))))))))))
  have C1 : Chg [] w ((w.alloc (.cells #[.string pr, .int .i64 mode, .int .i64 room] 76)).alloc (.cells #[.int .i64 0, .int .i64 0] 79)) := ((Chg.refl _ _).alloc _).alloc _
  have X1 : ((w.alloc (.cells #[.string pr, .int .i64 mode, .int .i64 room] 76)).alloc (.cells #[.int .i64 0, .int .i64 0] 79)).heap[w.heap.size]? = some (.cells #[.string pr, .int .i64 mode, .int .i64 room] 76 (0, 0)) := alloc_keeps (alloc_heap w _)
  have X2 : ((w.alloc (.cells #[.string pr, .int .i64 mode, .int .i64 room] 76)).alloc (.cells #[.int .i64 0, .int .i64 0] 79)).heap[w.heap.size + 1]? = some (resC 0 0) := alloc2_heap w _ _
  have HX := Lib.hid (And.intro C1 (And.intro X1 X2))
  clear hT hR hsep hL hask hcn hz hg hgn hn hc hf C1 X1 X2
  unfold askV
  refine calls_of_wp_m Tryz.func88 rfl ?_
  simp only [Tryz.ntmps88, List.size_toArray, List.length_cons, List.length_nil, Nat.reduceAdd, Nat.reduceSub, Array.replicate_succ, Array.replicate_zero, List.push_toArray, List.append_toArray, List.nil_append, List.cons_append]
  go_wp2_with fail
  generalize World.alloc _ _ = W1 at *
  have hh := HH.out
  have hx := HX.out
  refine (vCheck_ok pr mode room W1 hh.2.2.2.2.1 ((hh.2.2.2.1.chg0 (hh.1.W.c0.trans hx.1 (U := []) (by simp) (by simp)))).u).mono ?_
  rintro e W2 ⟨rfl, C2⟩
  have C02 := hx.1.trans C2 (U := []) (by simp) (by simp)
  have x0 : W2.cell? ⟨w.heap.size, 0, none⟩ = some (.string pr) := by rw [cell_of_heap (C2.heap hx.2.1 (by simp))]; rfl
  have x1 : W2.cell? ⟨w.heap.size, 1, none⟩ = some (.int .i64 mode) := by rw [cell_of_heap (C2.heap hx.2.1 (by simp))]; rfl
  have x2 : W2.cell? ⟨w.heap.size, 2, none⟩ = some (.int .i64 room) := by rw [cell_of_heap (C2.heap hx.2.1 (by simp))]; rfl
  have HBG := Lib.hid (pbegin_any w0 W2 τ bR bM nv0 pr mode room (hh.1.chg0 C02) (hh.2.1.chg C02 (by simp) (by simp)) hh.2.2.1 hh.2.2.2.1 hh.2.2.2.2.1 hh.2.2.2.2.2.1 hh.2.2.2.2.2.2.1)
  have h82 := C2.heap hx.2.2 (by simp)
  have hg2 := C02.heap hh.2.2.2.2.2.2.2.1 (by simp)
  have HW2 := Lib.hid (And.intro C02 (And.intro h82 hg2))
  unfold askV at HBG
  clear hh hx C2 C02 h82 hg2
  go_wp2_with fail
  refine (HBG.out).mono ?_
  rintro e w3 ⟨γ, rfl, ⟨q1, q2, q3, q4, q5⟩, hS, hC, hκ⟩
  subst q1 q2 q3 q4 q5
  have hh := HH.out
  have hw2 := HW2.out
  have hb8 : w3.heap[w.heap.size + 1]? = some (resC 0 0) ∧ ¬ Sown γ τ (w.heap.size + 1) := by
    have hlt : w.heap.size + 1 < W2.heap.size := heap_lt hw2.2.1
    have hnb : w.heap.size + 1 ∉ Ar.blks γ.bR γ.bM nv0 [] := fun hm => by have := hh.2.1.r.lt _ hm; omega
    refine ⟨hC.heap hw2.2.1 hnb, fun ho => ho.elim (fun e => (hκ _ e).elim hnb (fun hl => by omega)) (fun e => by have := (hh.1.own_lt _ e).2; omega)⟩
  have hg3 : w3.heap[g]? = some (.cells cur.toArray 5 (0, 0)) ∧ ¬ Sown γ τ g := by
    have hlt : g < W2.heap.size := heap_lt hw2.2.2
    have hgn := hh.2.2.2.2.2.2.2.2.1
    refine ⟨hC.heap hw2.2.2 hgn.1, fun ho => ho.elim (fun e => (hκ _ e).elim hgn.1 (fun hl => by omega)) hgn.2.1⟩
  have HAL := Lib.hid (all_any w0 w3 γ τ (startS τ) [] hS (by rw [budI_start]; have := hh.2.2.2.2.2.2.2.2.2.2.2; show fee τ + 0 + _ ≤ _; omega))
  have HW3 := Lib.hid (And.intro hS (And.intro hb8 hg3))
  clear hh hw2 hS hC hκ hb8 hg3 x0 x1 x2 HBG
  go_wp2_with fail
  refine (HAL.out).mono ?_
  rintro e w4 ⟨τ4, o, s4, rd4, rfl, hA, G4, f4⟩
  have h84 := G4.box HW3.out.2.1
  have hg4 := G4.box HW3.out.2.2
  rw [budI_start] at f4
  have HW4 := Lib.hid (And.intro hA (And.intro G4 (And.intro f4 (And.intro h84 hg4))))
  clear hA G4 f4 h84 hg4 HAL
  by_cases ho : o = 0
  · subst ho
    go_upto_region 12 with (fail)
    have hh := HH.out
    have h4 := HW4.out
    have C5 : Chg [] w4 (w4.alloc (.cells #[.int .i64 0, .int .i64 0] 79)) := (Chg.refl _ _).alloc _
    have X5 : (w4.alloc (.cells #[.int .i64 0, .int .i64 0] 79)).heap[w4.heap.size]? = some (resC 0 0) := alloc_heap w4 _
    have is5 := h4.2.1.is.chg0 C5
    have nx : ¬ Sown γ τ4 w4.heap.size := h4.2.1.is.new (Nat.le_refl _)
    have h85 : (w4.alloc (.cells #[.int .i64 0, .int .i64 0] 79)).heap[w.heap.size + 1]? = some (resC 0 0) := alloc_keeps h4.2.2.2.1.1
    have g5 : (w4.alloc (.cells #[.int .i64 0, .int .i64 0] 79)).heap[g]? = some (.cells cur.toArray 5 (0, 0)) := alloc_keeps h4.2.2.2.2.1
    have hx4 : w4.heap.size < (w4.alloc (.cells #[.int .i64 0, .int .i64 0] 79)).heap.size := heap_lt X5
    have h8lt : w.heap.size + 1 < w4.heap.size := heap_lt h4.2.2.2.1.1
    have hglt : g < w.heap.size := heap_lt hh.2.2.2.2.2.2.2.1
    generalize hw5 : w4.alloc _ = w5 at *
    generalize hxB : w4.heap.size = xB at *
    have s5 : w5.cell? ⟨γ.bS, 5, none⟩ = some (.pointer (some ⟨γ.bE, 0, none⟩)) := by rw [cell_of_heap is5.S]; rfl
    have HSN := Lib.hid (fun W => sinkNew_any g n c hh.2.2.2.2.2.2.2.2.2.2.1 W)
    have hbS : γ.bS < w5.heap.size := heap_lt is5.S
    have hbE : γ.bE < w5.heap.size ∧ γ.eA < w5.heap.size ∧ γ.eC < w5.heap.size := ⟨heap_lt is5.B.hE, heap_lt is5.B.ar.hA, heap_lt is5.B.ar.hC⟩
    have hgS : g ≠ γ.bS := fun e => h4.2.2.2.2.2 (.inl (by rw [e, is5.K.k1]; decide))
    have H5 := Lib.hid (And.intro is5 (And.intro X5 (And.intro nx (And.intro h85 (And.intro g5 (And.intro (And.intro hx4 (And.intro h8lt hglt)) (And.intro (And.intro hbS hbE) hgS)))))))
    clear hh h4 C5 X5 is5 nx h85 g5 hx4 h8lt hglt hw5 hbS hbE hgS hxB
    by_cases hs : n < s4.b.l.length
    · have HDV := Lib.hid (fun W (cW : Chg [] w5 W) bK (hK : W.heap[bK]? = some (sinkC g n 0 false)) => deliver_small bK g n γ.bE γ.eA γ.eC s4.b W hK (H5.out.1.B.chg0 cW) hs)
      have HS := Lib.hid hs
      clear hs
      go_region_held3 (fun w' => w'.cell? ⟨γ.bS, 5, none⟩ = some (.pointer (some ⟨γ.bE, 0, none⟩)))
        (first | exact s5 | exact C7.cell s5 (by simp) | exact C6.cell s5 (by simp) | exact ((Chg.refl [xB] w7).setCell (p := ⟨xB, 1, none⟩) (Or.inl List.mem_cons_self) _).cell (C7.cell s5 (by simp)) (by have := H5.out.2.2.1; simp; intro e; exact this (.inl (by rw [← e, H5.out.1.K.k1]; decide))) | go_keep)
        (first
         | (go_at_call 111; refine (HSN.out _).mono ?_; rintro e w6 ⟨rfl, C6', K6⟩; have C6 : Chg [] w5 w6 := (by first | exact C6' | exact C6'.of_drew | exact C6'.of_drewN))
         | (go_at_call 112; refine (HDV.out w6 C6 _ (by exact K6)).mono ?_; rintro e w7 ⟨rfl, C7'⟩; have C7 : Chg [] w5 w7 := C6.trans C7' (U := []) (by simp) (by simp); have X7 := C7.heap H5.out.2.1 (by simp); have y7 : w7.cell? ⟨xB, 1, none⟩ = some (.int .i64 0) := (by rw [cell_of_heap X7]; rfl); have z7 : w7.frozen? ⟨xB, 1, none⟩ = false := free_of_heap X7 1))
      have x8 : (w7.setCell ⟨xB, 1, none⟩ (.int .i64 0)).heap[xB]? = some (resC 0 0) := by rw [setCell_heap _ X7]; rfl
      have c8 := (Chg.refl [xB] w7).setCell (p := ⟨xB, 1, none⟩) (Or.inl List.mem_cons_self) (.int .i64 0)
      have h5 := H5.out
      have h87 := C7.heap h5.2.2.2.1 (by simp)
      have h88 := c8.heap h87 (by have := h5.2.2.2.2.2.1; simp; omega)
      have g8 := c8.heap (C7.heap h5.2.2.2.2.1 (by simp)) (by have := h5.2.2.2.2.2.1; simp; omega)
      have C58 : Chg [xB] w5 (w7.setCell ⟨xB, 1, none⟩ (.int .i64 0)) := C7.trans c8 (by simp) (by simp)
      clear X7 y7 z7 C7 C7' C6 C6' K6 c8 h87 h5 s5
      generalize w7.setCell _ _ = w8 at *
      have x9 : (w8.setCell ⟨xB, 0, none⟩ (.int .i64 5)).heap[xB]? = some (resC 5 0) := by rw [setCell_heap _ x8]; rfl
      have c9 := (Chg.refl [xB] w8).setCell (p := ⟨xB, 0, none⟩) (Or.inl List.mem_cons_self) (.int .i64 5)
      have h89 := c9.heap h88 (by have := H5.out.2.2.2.2.2.1; simp; omega)
      have g9 := c9.heap g8 (by have := H5.out.2.2.2.2.2.1; simp; omega)
      have C59 : Chg [xB] w5 (w8.setCell ⟨xB, 0, none⟩ (.int .i64 5)) := C58.trans c9 (by simp) (by simp)
      have p0 : w8.cell? ⟨xB, 0, none⟩ = some (.int .i64 0) := by rw [cell_of_heap x8]; rfl
      have pf : w8.frozen? ⟨xB, 0, none⟩ = false := free_of_heap x8 0
      have p1 : w8.cell? ⟨xB, 1, none⟩ = some (.int .i64 0) := by rw [cell_of_heap x8]; rfl
      have r0 : (w8.setCell ⟨xB, 0, none⟩ (.int .i64 5)).cell? ⟨w.heap.size + 1, 0, none⟩ = some (.int .i64 0) := by rw [cell_of_heap h89]; rfl
      have r1 : (w8.setCell ⟨xB, 0, none⟩ (.int .i64 5)).cell? ⟨w.heap.size + 1, 1, none⟩ = some (.int .i64 0) := by rw [cell_of_heap h89]; rfl
      have f0 : (w8.setCell ⟨xB, 0, none⟩ (.int .i64 5)).frozen? ⟨w.heap.size + 1, 0, none⟩ = false := free_of_heap h89 0
      have f1 : (w8.setCell ⟨xB, 0, none⟩ (.int .i64 5)).frozen? ⟨w.heap.size + 1, 1, none⟩ = false := free_of_heap h89 1
      have q1 : (w8.setCell ⟨xB, 0, none⟩ (.int .i64 5)).cell? ⟨xB, 1, none⟩ = some (.int .i64 0) := by rw [cell_of_heap x9]; rfl
      have HR := Lib.hid (And.intro h89 (And.intro g9 C59))
      clear x8 x9 c9 h88 h89 g8 g9 C58 C59
      go_wp2_with fail
      generalize w8.setCell _ _ = w9 at *
      have hh := HH.out
      have h4 := HW4.out
      have h5 := H5.out
      have hr := HR.out
      have hw0 := hh.1.W.c0.size
      have e1 : (w9.setCell ⟨w.heap.size + 1, 0, none⟩ (.int .i64 5)).heap[w.heap.size + 1]? = some (resC 5 0) := by rw [setCell_heap _ hr.1]; rfl
      have e2 : ((w9.setCell ⟨w.heap.size + 1, 0, none⟩ (.int .i64 5)).setCell ⟨w.heap.size + 1, 1, none⟩ (.int .i64 0)).heap[w.heap.size + 1]? = some (resC 5 0) := by rw [setCell_heap _ e1]; rfl
      have c10 : Chg [w.heap.size + 1] w9 ((w9.setCell ⟨w.heap.size + 1, 0, none⟩ (.int .i64 5)).setCell ⟨w.heap.size + 1, 1, none⟩ (.int .i64 0)) := ((Chg.refl [w.heap.size + 1] w9).setCell (p := ⟨w.heap.size + 1, 0, none⟩) (Or.inl List.mem_cons_self) _).setCell (p := ⟨w.heap.size + 1, 1, none⟩) (Or.inl List.mem_cons_self) _
      have hO : outR n 0 s4.b.l = (5, 0) := by unfold outR; rw [if_pos rfl, if_pos HS.out]
      have hG : outG n 0 s4.b.l cur = cur := by unfold outG; rw [if_neg (fun h => h.2 HS.out)]
      refine run_leave (w' := (w9.setCell ⟨w.heap.size + 1, 0, none⟩ (.int .i64 5)).setCell ⟨w.heap.size + 1, 1, none⟩ (.int .i64 0)) rfl rfl h4.1 ((h5.1.chg hr.2.2 (fun x hx => by rw [List.mem_singleton.1 hx]; exact ⟨h5.2.2.1, by omega⟩)).chg c10 (fun x hx => by rw [List.mem_singleton.1 hx]; exact ⟨h4.2.2.2.1.2, by omega⟩)) h4.2.1.bT ⟨by rw [hO]; exact e2, h4.2.2.2.1.2⟩ ⟨by rw [hG]; exact c10.heap hr.2.1 (by simp; omega), h4.2.2.2.2.2⟩ ?_
      have q1 := h4.2.2.1
      have q2 := hh.2.2.2.2.2.2.2.2.2.2.2
      have q3 : (startS τ).d.h.length = 0 := rfl
      omega
    · have HDV := Lib.hid (fun W (cW : Chg [] w5 W) bK (hK : W.heap[bK]? = some (sinkC g n 0 false)) (hne : bK ≠ g) => deliver_ok bK g n γ.bE γ.eA γ.eC s4.b cur 5 W hK (H5.out.1.B.chg0 cW) (cW.heap H5.out.2.2.2.2.1 (by simp)) (Nat.not_lt.1 hs) HH.out.2.2.2.2.2.2.2.2.2.1 hne)
      have HS := Lib.hid hs
      clear hs
      generalize hLn : s4.b.l.length = ln at HDV
      have HLN := Lib.hid hLn
      clear hLn
      go_region_held3 (fun w' => w'.cell? ⟨γ.bS, 5, none⟩ = some (.pointer (some ⟨γ.bE, 0, none⟩)))
        (first | exact s5 | exact C7.cell s5 HB7.out.1 | exact C6.cell s5 (by simp) | exact ((Chg.refl [xB] w7).setCell (p := ⟨xB, 1, none⟩) (Or.inl List.mem_cons_self) _).cell (C7.cell s5 HB7.out.1) (by have := H5.out.2.2.1; simp; intro e; exact this (.inl (by rw [← e, H5.out.1.K.k1]; decide))) | go_keep)
        (first
         | (go_at_call 111; refine (HSN.out _).mono ?_; rintro e w6 ⟨rfl, C6', K6⟩; have C6 : Chg [] w5 w6 := (by first | exact C6' | exact C6'.of_drew | exact C6'.of_drewN); have HB6 := Lib.hid (show γ.bS < w5.drew.heap.size ∧ xB < w5.drew.heap.size ∧ g < w5.drew.heap.size ∧ w.heap.size + 1 < w5.drew.heap.size from (by have h5 := H5.out; have q := h5.2.2.2.2.2.1; have q2 := h5.2.2.2.2.2.2.1.1; show γ.bS < w5.heap.size ∧ xB < w5.heap.size ∧ g < w5.heap.size ∧ w.heap.size + 1 < w5.heap.size; omega)))
         | (go_at_call 112; refine (HDV.out w6 C6 w5.drew.heap.size K6 (by have := HB6.out; omega)).mono ?_; rintro e w7 ⟨rfl, C7', G7⟩; have C7 : Chg [g, w5.drew.heap.size] w5 w7 := C6.trans C7' (U := [g, w5.drew.heap.size]) (by simp) (fun x hx _ => hx); have HB7 := Lib.hid (show γ.bS ∉ [g, w5.drew.heap.size] ∧ xB ∉ [g, w5.drew.heap.size] ∧ w.heap.size + 1 ∉ [g, w5.drew.heap.size] from (by have h5 := H5.out; have q := h5.2.2.2.2.2.1; have q2 := HB6.out; have q3 := h5.2.2.2.2.2.2.2; simp only [List.mem_cons, List.not_mem_nil, or_false, not_or]; omega)); have X7 := C7.heap H5.out.2.1 HB7.out.2.1; have y7 : w7.cell? ⟨xB, 1, none⟩ = some (.int .i64 0) := (by rw [cell_of_heap X7]; rfl); have z7 : w7.frozen? ⟨xB, 1, none⟩ = false := free_of_heap X7 1))
      have x8 : (w7.setCell ⟨xB, 1, none⟩ (.int .i64 (ln : Nat))).heap[xB]? = some (resC 0 (ln : Nat)) := by rw [setCell_heap _ X7]; rfl
      have c8 := (Chg.refl [xB] w7).setCell (p := ⟨xB, 1, none⟩) (Or.inl List.mem_cons_self) (.int .i64 (ln : Nat))
      have h5 := H5.out
      have h87 := C7.heap h5.2.2.2.1 (HB7.out.2.2)
      have h88 := c8.heap h87 (by have := h5.2.2.2.2.2.1; simp; omega)
      have g8 := c8.heap G7 (by have := h5.2.2.2.2.2.1; simp; omega)
      have C58 : Chg [g, w5.drew.heap.size, xB] w5 (w7.setCell ⟨xB, 1, none⟩ (.int .i64 (ln : Nat))) := C7.trans c8 (by simp) (by simp)
      clear X7 y7 z7 C7 C7' C6 C6' K6 c8 h87 h5 s5 G7
      generalize w7.setCell _ _ = w8 at *
      have p0 : w8.cell? ⟨xB, 0, none⟩ = some (.int .i64 0) := by rw [cell_of_heap x8]; rfl
      have p1 : w8.cell? ⟨xB, 1, none⟩ = some (.int .i64 (ln : Nat)) := by rw [cell_of_heap x8]; rfl
      have r0 : w8.cell? ⟨w.heap.size + 1, 0, none⟩ = some (.int .i64 0) := by rw [cell_of_heap h88]; rfl
      have r1 : w8.cell? ⟨w.heap.size + 1, 1, none⟩ = some (.int .i64 0) := by rw [cell_of_heap h88]; rfl
      have f0 : w8.frozen? ⟨w.heap.size + 1, 0, none⟩ = false := free_of_heap h88 0
      have f1 : w8.frozen? ⟨w.heap.size + 1, 1, none⟩ = false := free_of_heap h88 1
      have HR := Lib.hid (And.intro h88 (And.intro g8 C58))
      clear x8 h88 g8 C58
      go_wp2_with fail
      have hh := HH.out
      have h4 := HW4.out
      have h5 := H5.out
      have hr := HR.out
      have hw0 := hh.1.W.c0.size
      have e1 : (w8.setCell ⟨w.heap.size + 1, 0, none⟩ (.int .i64 0)).heap[w.heap.size + 1]? = some (resC 0 0) := by rw [setCell_heap _ hr.1]; rfl
      have e2 : ((w8.setCell ⟨w.heap.size + 1, 0, none⟩ (.int .i64 0)).setCell ⟨w.heap.size + 1, 1, none⟩ (.int .i64 (ln : Nat))).heap[w.heap.size + 1]? = some (resC 0 (ln : Nat)) := by rw [setCell_heap _ e1]; rfl
      have c10 : Chg [w.heap.size + 1] w8 ((w8.setCell ⟨w.heap.size + 1, 0, none⟩ (.int .i64 0)).setCell ⟨w.heap.size + 1, 1, none⟩ (.int .i64 (ln : Nat))) := ((Chg.refl [w.heap.size + 1] w8).setCell (p := ⟨w.heap.size + 1, 0, none⟩) (Or.inl List.mem_cons_self) _).setCell (p := ⟨w.heap.size + 1, 1, none⟩) (Or.inl List.mem_cons_self) _
      have hO : outR n 0 s4.b.l = ((0 : Int), ((ln : Nat) : Int)) := by unfold outR; rw [if_pos rfl, if_neg HS.out, HLN.out]
      have hG : outG n 0 s4.b.l cur = splice cur 0 (s4.b.l.map (Value.int .u8)) := by unfold outG; rw [if_pos ⟨rfl, HS.out⟩]
      have hgn := hh.2.2.2.2.2.2.2.2.1
      refine run_leave (w' := (w8.setCell ⟨w.heap.size + 1, 0, none⟩ (.int .i64 0)).setCell ⟨w.heap.size + 1, 1, none⟩ (.int .i64 (ln : Nat))) rfl rfl h4.1 ((h5.1.chg hr.2.2 (fun x hx => ?_)).chg c10 (fun x hx => by rw [List.mem_singleton.1 hx]; exact ⟨h4.2.2.2.1.2, by omega⟩)) h4.2.1.bT ⟨by rw [hO]; exact e2, h4.2.2.2.1.2⟩ ⟨by rw [hG]; exact c10.heap hr.2.1 (by simp; omega), h4.2.2.2.2.2⟩ ?_
      · simp only [List.mem_cons, List.not_mem_nil, or_false] at hx
        rcases hx with e | e | e
        · rw [e]; exact ⟨h4.2.2.2.2.2, hgn.2.2⟩
        · rw [e]; exact ⟨h5.1.new (Nat.le_refl _), by have := h5.1.c0.size; exact this⟩
        · rw [e]; exact ⟨h5.2.2.1, by omega⟩
      · have q1 := h4.2.2.1
        have q2 := hh.2.2.2.2.2.2.2.2.2.2.2
        have q3 : (startS τ).d.h.length = 0 := rfl
        omega
  · have t0 : (o == 0) = false := by rw [beq_eq_false_iff_ne]; exact ho
    have HO := Lib.hid ho
    clear ho
    have C5 : Chg [] w4 (w4.alloc (.cells #[.int .i64 o, .int .i64 0] 79)) := (Chg.refl _ _).alloc _
    have h85 : (w4.alloc (.cells #[.int .i64 o, .int .i64 0] 79)).heap[w.heap.size + 1]? = some (resC 0 0) := alloc_keeps HW4.out.2.2.2.1.1
    have y0 : (w4.alloc (.cells #[.int .i64 o, .int .i64 0] 79)).cell? ⟨w.heap.size + 1, 0, none⟩ = some (.int .i64 0) := by rw [cell_of_heap h85]; rfl
    have y1 : (w4.alloc (.cells #[.int .i64 o, .int .i64 0] 79)).cell? ⟨w.heap.size + 1, 1, none⟩ = some (.int .i64 0) := by rw [cell_of_heap h85]; rfl
    have z0 : (w4.alloc (.cells #[.int .i64 o, .int .i64 0] 79)).frozen? ⟨w.heap.size + 1, 0, none⟩ = false := free_of_heap h85 0
    have z1 : (w4.alloc (.cells #[.int .i64 o, .int .i64 0] 79)).frozen? ⟨w.heap.size + 1, 1, none⟩ = false := free_of_heap h85 1
    have H5 := Lib.hid (And.intro C5 h85)
    clear C5 h85
    go_wp2_with fail
    generalize hw5 : w4.alloc _ = w5 at *
    have hh := HH.out
    have h4 := HW4.out
    have hlt : g < w.heap.size := heap_lt hh.2.2.2.2.2.2.2.1
    have hw0 := hh.1.W.c0.size
    have e1 : (w5.setCell ⟨w.heap.size + 1, 0, none⟩ (.int .i64 o)).heap[w.heap.size + 1]? = some (resC o 0) := by rw [setCell_heap _ H5.out.2]; rfl
    have e2 : ((w5.setCell ⟨w.heap.size + 1, 0, none⟩ (.int .i64 o)).setCell ⟨w.heap.size + 1, 1, none⟩ (.int .i64 0)).heap[w.heap.size + 1]? = some (resC o 0) := by rw [setCell_heap _ e1]; rfl
    have c6 : Chg [w.heap.size + 1] w5 ((w5.setCell ⟨w.heap.size + 1, 0, none⟩ (.int .i64 o)).setCell ⟨w.heap.size + 1, 1, none⟩ (.int .i64 0)) := ((Chg.refl [w.heap.size + 1] w5).setCell (p := ⟨w.heap.size + 1, 0, none⟩) (Or.inl List.mem_cons_self) _).setCell (p := ⟨w.heap.size + 1, 1, none⟩) (Or.inl List.mem_cons_self) _
    have hO : outR n o s4.b.l = (o, 0) := by unfold outR; rw [if_neg HO.out]
    have hG : outG n o s4.b.l cur = cur := by unfold outG; rw [if_neg (fun h => HO.out h.1)]
    refine run_leave (w' := (w5.setCell ⟨w.heap.size + 1, 0, none⟩ (.int .i64 o)).setCell ⟨w.heap.size + 1, 1, none⟩ (.int .i64 0)) rfl rfl h4.1 ((h4.2.1.is.chg0 H5.out.1).chg c6 (fun x hx => by rw [List.mem_singleton.1 hx]; exact ⟨h4.2.2.2.1.2, by omega⟩)) h4.2.1.bT ⟨by rw [hO]; exact e2, h4.2.2.2.1.2⟩ ⟨by rw [hG]; exact c6.heap (H5.out.1.heap h4.2.2.2.2.1 (by simp)) (by simp; omega), h4.2.2.2.2.2⟩ ?_
    have q1 := h4.2.2.1
    have q2 := hh.2.2.2.2.2.2.2.2.2.2.2
    have q3 : (startS τ).d.h.length = 0 := rfl
    omega
end Go.Proofs.YtafmnkngjjnpiaaGreatDoor

namespace Go.Proofs.YtafmnkngjjnpiaaGreatDoor
set_option linter.unusedVariables false
set_option linter.unusedSimpArgs false
set_option maxRecDepth 100000
open Go.RowKit
theorem chg_grow (w : World) (k : Nat) (os : Array Obj) : Chg [] w (Go.«Sort».grow (w.drewN k) os) :=
  ⟨rfl, rfl, rfl, by unfold Go.«Sort».grow; simp [World.drewN], fun i hi _ => by unfold Go.«Sort».grow; simp only [World.drewN]; rw [Array.getElem?_append_left hi]⟩
def small1 (n : Int) : Bool := decide ((Lib.trimPrefix (Lib.itoa n) [45]).length ≤ 18)
def smallB (l : List Int) : Bool := l.all small1
def i64R (n : Int) : Prop := -9223372036854775808 ≤ n ∧ n ≤ 9223372036854775807
set_option maxHeartbeats 8000000 in
theorem small_any (ao : Option Addr) (n c : Nat) (l : List Int) (w : World) (h : SrcAt w ao n c (valsOf .i64 l)) (hr : ∀ x ∈ l, i64R x) (hn : n ≤ 1000000) (hT : LibT w) :
    Calls Tryz.prog 104 #[.slice ao n c] w fun e w' => e = .returned (.bool (smallB l)) ∧ Chg [] w w' := by
  have hl : l.length = n := by have := h.1; rwa [valsOf_length] at this
  have HH := Lib.hid (And.intro h (And.intro hr (And.intro hT hl)))
  clear h hr hT hl
  go_enter Tryz.func104, Tryz.ntmps104
  go_upto_region 2 with (fail)
  go_loopw [7] (fun i wr => ∃ k : Nat, i = .int .i64 (k : Nat) ∧ k ≤ n ∧ smallB (l.take k) = true ∧ Chg [] w wr) (fun i _ => n - (intOf i).toNat)
  case atStart => exact ⟨0, rfl, Nat.zero_le _, rfl, Chg.refl _ _⟩
  case round =>
    obtain ⟨k, rfl, hk, hs, hC⟩ := hrel
    have hh := HH.out
    rcases Nat.lt_or_ge k n with hlt | hge
    · obtain ⟨g, off, rfl, hc⟩ := (hh.1.chg0 hC).int hlt
      have hx : l[k]? = some (l.getD k 0) := by
        rw [List.getD_eq_getElem?_getD, List.getElem?_eq_getElem (by omega)]; rfl
      have hrg := hh.2.1 _ (List.mem_of_getElem? hx)
      have htk : l.take (k + 1) = l.take k ++ [l.getD k 0] := by
        rw [List.take_add_one, hx]; rfl
      have hs2 : smallB (l.take (k + 1)) = small1 (l.getD k 0) := by
        unfold smallB at hs ⊢
        rw [htk, List.all_append, hs]
        simp
      have hno : small1 (l.getD k 0) = false → smallB l = false := by
        intro he
        unfold smallB
        rw [List.all_eq_false]
        exact ⟨l.getD k 0, List.mem_of_getElem? hx, by rw [he]; decide⟩
      generalize l.getD k 0 = x at *
      have HIT := Lib.hid ((Tryz.strconv_Itoa x hrg.1 hrg.2 wr ((hh.2.2.1.chg0 hC).p.here)).mono (R' := fun e w' => e = .returned (.string ⟨(Lib.itoa x).toArray⟩) ∧ Chg [] wr w') (fun e w' ⟨he, kk, os, hw⟩ => ⟨he, by rw [hw]; exact chg_grow _ _ _⟩))
      have HTP := Lib.hid (fun W => Tryz.strings_TrimPrefix ⟨(Lib.itoa x).toArray⟩ ⟨#[45]⟩ W)
      have HC := Lib.hid (And.intro hC (And.intro hs2 (And.intro hno hlt)))
      have hs1 : small1 x = decide ((Lib.trimPrefix (Lib.itoa x) [45]).length ≤ 18) := rfl
      generalize Lib.trimPrefix (Lib.itoa x) [45] = tp at HTP hs1
      have hsz : (⟨tp.toArray⟩ : ByteArray).size = tp.length := by simp [ByteArray.size]
      clear hh hC hs hs2 hno hrg htk hx hk
      rcases Nat.lt_or_ge 18 tp.length with hb | hb
      · have hsf : small1 x = false := by rw [hs1]; exact decide_eq_false (by omega)
        have HSF := Lib.hid hsf
        have hb2 : (18 : Int) < (tp.length : Nat) := by omega
        clear hs1 hsf
        go_wp2_with fail
        refine (HIT.out).mono ?_
        rintro e w2 ⟨rfl, C2⟩
        have HC2 := Lib.hid C2
        clear C2
        go_wp2_with fail
        refine (HTP.out _).mono ?_
        rintro e w3 ⟨rfl, rfl⟩
        go_wp2_with fail
        go_ret
        exact ⟨by rw [HC.out.2.2.1 HSF.out]; rfl, HC.out.1.trans HC2.out (by simp) (by simp)⟩
      · have hsf : small1 x = true := by rw [hs1]; exact decide_eq_true hb
        have HSF := Lib.hid hsf
        have hb1 : ¬ 18 < tp.length := by omega
        have hb2 : ¬ (18 : Int) < (tp.length : Nat) := by omega
        clear hs1 hsf hb
        go_wp2_with fail
        refine (HIT.out).mono ?_
        rintro e w2 ⟨rfl, C2⟩
        have HC2 := Lib.hid C2
        clear C2
        go_wp2_with fail
        refine (HTP.out _).mono ?_
        rintro e w3 ⟨rfl, rfl⟩
        go_wp2_with fail
        have hc := HC.out
        exact ⟨⟨k + 1, by go_num, by omega, by rw [hc.2.1]; exact HSF.out, hc.1.trans HC2.out (by simp) (by simp)⟩, by simp [intOf]; omega⟩
    · obtain rfl : k = n := by omega
      rw [List.take_of_length_le (by rw [hh.2.2.2]; exact Nat.le_refl _)] at hs
      have HC := Lib.hid (And.intro hC hs)
      clear hh hC hs hk hge
      go_wp2_with fail
      go_ret
      exact ⟨by rw [HC.out.2]; rfl, HC.out.1⟩
end Go.Proofs.YtafmnkngjjnpiaaGreatDoor

namespace Go.Proofs.YtafmnkngjjnpiaaGreatDoor
set_option linter.unusedVariables false
set_option linter.unusedSimpArgs false
set_option maxRecDepth 100000
open Go.RowKit
attribute [local go_sem] run_store_float'
def stoC (p : PlanD) (pr : ByteArray) (mode room : Int) : Array Value := #[.int .u32 p.fl, .int .u8 p.mn, .int .u8 p.tm, .slice p.ia p.il p.ic, .slice p.wa p.wl p.wc, .slice p.ga p.gl p.gc, .slice p.sa p.sl p.sc, .string pr, .int .i64 mode, .int .i64 room]
def okP (p : PlanD) : Bool := smallB (p.ws.take p.wl) && smallB (p.gs.take p.gl) && smallB (p.ss.take p.sl) && smallB (p.its.map (·.n))
theorem wf_i64 {n : Int} (h : (Lit.int .i64 n).wf = true) : i64R n := by
  unfold i64R
  unfold Lit.wf at h
  simp only [Bool.and_eq_true, decide_eq_true_eq] at h
  have h1 : IntKind.i64.min = -9223372036854775808 := by decide
  have h2 : IntKind.i64.max = 9223372036854775807 := by decide
  omega
theorem row_range {w : World} {a : Option Addr} {len cap : Nat} {zs : List Int} (h : IsRow .i64 w a len cap zs) : ∀ x ∈ zs.take len, i64R x := by
  intro x hx
  rcases h with ⟨_, rfl, _, rfl⟩ | ⟨_, _, _, _, _, _, h⟩
  · simp at hx
  · exact wf_i64 (h x (List.mem_of_mem_take hx))
theorem src_row64 {w : World} {g : Nat} {x : Int} {t : TypeId} (h : w.heap[g]? = some (.cells #[.int .i64 x] t (0, 0))) : SrcAt w (some ⟨g, 0, none⟩) 1 1 (valsOf .i64 [x]) := by
  refine ⟨rfl, fun e => (by cases e), fun ad e j u hu => ?_⟩
  injection e with e
  subst e
  cases j with
  | zero =>
    injection hu with hu
    subst hu
    rw [Addr.add_lit, Nat.add_zero, cell_of_heap h]
    rfl
  | succ j => cases hu
set_option maxHeartbeats 16000000 in
theorem sCheck_any (p : PlanD) (pr : ByteArray) (mode room : Int) (w : World) (h : p.At w) (hc : p.chk = 0) (hn : ∀ x ∈ p.its, i64R x.n) (hask : AskOk pr mode room) (hroom : room ≤ 4096) (hL : LibT w) (hlw : p.wl ≤ 1000000) (hlg : p.gl ≤ 1000000) (hls : p.sl ≤ 1000000) :
    Calls Tryz.prog 84 #[.agg (stoC p pr mode room)] w fun e w' => e = .returned (.int .i64 (if okP p = true then 0 else 3)) ∧ Chg [] w w' := by
  have B1 := alloc_heap w (.cells (stoC p pr mode room) 130)
  have C1 : Chg [] w (w.alloc (.cells (stoC p pr mode room) 130)) := (Chg.refl _ _).alloc _
  have HB1 := Lib.hid (And.intro B1 C1)
  have HWC := Lib.hid (fun W (c : Chg [] w W) => wCheck_any p W (h.chg c))
  rw [hc] at HWC
  have HVC := Lib.hid (fun W (c : Chg [] w W) => vCheck_ok pr mode room W hask (hL.chg0 c).u)
  have hS1 := fun W (c : Chg [] (w.alloc (.cells (stoC p pr mode room) 130)) W) => small_any p.wa p.wl p.wc (p.ws.take p.wl) W (h.ws.src.chg0 (C1.trans c (U := []) (by simp) (by simp))) (row_range h.ws) hlw (hL.chg0 (C1.trans c (U := []) (by simp) (by simp)))
  have hS2 := fun W (c : Chg [] (w.alloc (.cells (stoC p pr mode room) 130)) W) => small_any p.ga p.gl p.gc (p.gs.take p.gl) W (h.gs.src.chg0 (C1.trans c (U := []) (by simp) (by simp))) (row_range h.gs) hlg (hL.chg0 (C1.trans c (U := []) (by simp) (by simp)))
  have hS3 := fun W (c : Chg [] (w.alloc (.cells (stoC p pr mode room) 130)) W) => small_any p.sa p.sl p.sc (p.ss.take p.sl) W (h.ss.src.chg0 (C1.trans c (U := []) (by simp) (by simp))) (row_range h.ss) hls (hL.chg0 (C1.trans c (U := []) (by simp) (by simp)))
  have hok : okP p = (smallB (p.ws.take p.wl) && smallB (p.gs.take p.gl) && smallB (p.ss.take p.sl) && smallB (p.its.map (·.n))) := rfl
  obtain ⟨R, hR⟩ : ∃ R : Int, R = if okP p = true then 0 else 3 := ⟨_, rfl⟩
  rw [← hR]
  rw [hok] at hR
  generalize smallB (p.ws.take p.wl) = bw at *
  generalize smallB (p.gs.take p.gl) = bg at *
  generalize smallB (p.ss.take p.sl) = bs at *
  have hI := h.its
  have hilm := h.ilm
  obtain ⟨fl, mn, tm, ia, il, ic, its, wa, wl, wc, ws, ga, gl, gc, gs, sa, sl, sc, ss⟩ := p
  clear hok
  dsimp only at hI hR hS1 hS2 hS3 hn hilm
  unfold maxLen at hilm
  unfold PlanD.cells at HWC
  unfold stoC at HB1 hS1 hS2 hS3 ⊢
  dsimp only at HWC HB1 hS1 hS2 hS3 ⊢
  have HS1 := Lib.hid hS1
  have HS2 := Lib.hid hS2
  have HS3 := Lib.hid hS3
  have HH := Lib.hid (And.intro hR (And.intro hI (And.intro hilm (And.intro hroom (And.intro hn (And.intro hL hroom))))))
  have hr2 : decide (room ≤ 4096) = true := decide_eq_true hroom
  clear B1 C1 h hc hn hask hL hS1 hS2 hS3 hR hI hlw hlg hls
  go_enter Tryz.func84, Tryz.ntmps84
  go_wp2_with fail
  generalize World.alloc _ _ = w1 at *
  refine (HWC.out w1 HB1.out.2).mono ?_
  rintro e w2 ⟨rfl, C2⟩
  have X2 := C2.heap HB1.out.1 (by simp)
  have x7 : w2.cell? ⟨w.heap.size, 7, none⟩ = some (.string pr) := by rw [cell_of_heap X2]; rfl
  have x8 : w2.cell? ⟨w.heap.size, 8, none⟩ = some (.int .i64 mode) := by rw [cell_of_heap X2]; rfl
  have x9 : w2.cell? ⟨w.heap.size, 9, none⟩ = some (.int .i64 room) := by rw [cell_of_heap X2]; rfl
  have HCW2 := Lib.hid C2
  clear C2 X2
  have HV2 := Lib.hid (HVC.out w2 (HB1.out.2.trans HCW2.out (by simp) (by simp)))
  unfold askV at HV2
  go_wp2_with fail
  refine (HV2.out).mono ?_
  rintro e w3 ⟨rfl, C3⟩
  have HCw3 := Lib.hid (HCW2.out.trans C3 (U := []) (by simp) (by simp))
  have X3 := HCw3.out.heap HB1.out.1 (by simp)
  have y9 : w3.cell? ⟨w.heap.size, 9, none⟩ = some (.int .i64 room) := by rw [cell_of_heap X3]; rfl
  have y4 : w3.cell? ⟨w.heap.size, 4, none⟩ = some (.slice wa wl wc) := by rw [cell_of_heap X3]; rfl
  clear C3 X3 x7 x8 x9 HV2 HVC HWC
  cases bw with
  | false =>
      go_wp2_with fail
      refine (HS1.out w3 HCw3.out).mono ?_
      rintro e w4 ⟨rfl, Cw4⟩
      have HCw4 := Lib.hid (HCw3.out.trans Cw4 (U := []) (by simp) (by simp))
      have HXw4 := Lib.hid (HCw4.out.heap HB1.out.1 (by simp))
      have v3w4 : w4.cell? ⟨w.heap.size, 3, none⟩ = some (.slice ia il ic) := by rw [cell_of_heap HXw4.out]; rfl
      have v5w4 : w4.cell? ⟨w.heap.size, 5, none⟩ = some (.slice ga gl gc) := by rw [cell_of_heap HXw4.out]; rfl
      have v6w4 : w4.cell? ⟨w.heap.size, 6, none⟩ = some (.slice sa sl sc) := by rw [cell_of_heap HXw4.out]; rfl
      clear Cw4
      go_upto_region 9 with (fail)
      obtain ⟨wB, hwB⟩ : ∃ wB : World, wB = w4 := ⟨_, rfl⟩
      go_loopw [5, 46] (fun v i wr => ∃ k : Nat, i = .int .i64 (k : Nat) ∧ k ≤ il ∧ v = .bool (false && smallB ((its.map (·.n)).take k)) ∧ Chg [] w1 wr) (fun _ i _ => il - (intOf i).toNat)
      case atStart => exact ⟨0, rfl, Nat.zero_le _, rfl, HCw4.out⟩
      case round =>
        obtain ⟨k, rfl, hk, rfl, hC⟩ := hrel
        have hh := HH.out
        rcases Nat.lt_or_ge k il with hlt | hge
        · obtain ⟨bl, off, x, rfl, hx, h0, h1, h2, h3, hr, hw⟩ := ((hh.2.1.chg HB1.out.2).chg hC).get hlt
          have hxn : (its.map (·.n))[k]? = some x.n := by rw [List.getElem?_map, hx]; rfl
          have htk : (its.map (·.n)).take (k + 1) = (its.map (·.n)).take k ++ [x.n] := by rw [List.take_add_one, hxn]; rfl
          have hrg := hh.2.2.2.2.1 x (List.mem_of_getElem? hx)
          have hs2 : smallB ((its.map (·.n)).take (k + 1)) = (smallB ((its.map (·.n)).take k) && smallB [x.n]) := by unfold smallB; rw [htk, List.all_append]
          have hLT := (hh.2.2.2.2.2.1.chg0 HB1.out.2).chg0 hC
          generalize hbk : smallB ((its.map (·.n)).take k) = bk at *
          have HX := Lib.hid (And.intro hs2 (And.intro hC (And.intro hlt (And.intro hrg hLT))))
          obtain ⟨xb, kind, xn, xao, xm, xcap, zs⟩ := x
          dsimp only at h0 h1 h2 h3 HX hrg
          clear hr hx hxn htk hs2 hC hrg hLT hh hw hk
          cases bk with
          | false =>
            go_wp2_with fail
            have hx := HX.out
            exact ⟨⟨k + 1, by go_num, by omega, by rw [hx.1]; simp, hx.2.1.trans ((Chg.refl [] _).alloc _) (U := []) (by simp) (by simp)⟩, by simp [intOf]; omega⟩
          | true =>
            go_wp2_with fail
            have hx := HX.out
            exact ⟨⟨k + 1, by go_num, by omega, by rw [hx.1]; simp, hx.2.1.trans ((Chg.refl [] _).alloc _) (U := []) (by simp) (by simp)⟩, by simp [intOf]; omega⟩
        · obtain rfl : k = il := by omega
          have hall : (its.map (·.n)).take k = its.map (·.n) := List.take_of_length_le (by rw [List.length_map, hh.2.1.1]; exact Nat.le_refl _)
          rw [hall]
          have HF := Lib.hid (And.intro hC hh.1)
          clear hC hk hge hall hh
          generalize hbk : smallB (its.map (·.n)) = bk at *
          have HBK := Lib.hid hbk
          clear hbk
          cases bk with
          | false =>
            go_wp2_with fail
            go_ret
            exact ⟨by rw [HF.out.2]; rfl, HB1.out.2.trans HF.out.1 (by simp) (by simp)⟩
          | true =>
            go_wp2_with fail
            go_ret
            exact ⟨by rw [HF.out.2]; rfl, HB1.out.2.trans HF.out.1 (by simp) (by simp)⟩
  | true =>
    cases bg with
    | false =>
        go_wp2_with fail
        refine (HS1.out w3 HCw3.out).mono ?_
        rintro e w4 ⟨rfl, Cw4⟩
        have HCw4 := Lib.hid (HCw3.out.trans Cw4 (U := []) (by simp) (by simp))
        have HXw4 := Lib.hid (HCw4.out.heap HB1.out.1 (by simp))
        have v3w4 : w4.cell? ⟨w.heap.size, 3, none⟩ = some (.slice ia il ic) := by rw [cell_of_heap HXw4.out]; rfl
        have v5w4 : w4.cell? ⟨w.heap.size, 5, none⟩ = some (.slice ga gl gc) := by rw [cell_of_heap HXw4.out]; rfl
        have v6w4 : w4.cell? ⟨w.heap.size, 6, none⟩ = some (.slice sa sl sc) := by rw [cell_of_heap HXw4.out]; rfl
        clear Cw4
        go_wp2_with fail
        refine (HS2.out w4 HCw4.out).mono ?_
        rintro e w5 ⟨rfl, Cw5⟩
        have HCw5 := Lib.hid (HCw4.out.trans Cw5 (U := []) (by simp) (by simp))
        have HXw5 := Lib.hid (HCw5.out.heap HB1.out.1 (by simp))
        have v3w5 : w5.cell? ⟨w.heap.size, 3, none⟩ = some (.slice ia il ic) := by rw [cell_of_heap HXw5.out]; rfl
        have v5w5 : w5.cell? ⟨w.heap.size, 5, none⟩ = some (.slice ga gl gc) := by rw [cell_of_heap HXw5.out]; rfl
        have v6w5 : w5.cell? ⟨w.heap.size, 6, none⟩ = some (.slice sa sl sc) := by rw [cell_of_heap HXw5.out]; rfl
        clear Cw5
        go_upto_region 9 with (fail)
        obtain ⟨wB, hwB⟩ : ∃ wB : World, wB = w5 := ⟨_, rfl⟩
        go_loopw [5, 46] (fun v i wr => ∃ k : Nat, i = .int .i64 (k : Nat) ∧ k ≤ il ∧ v = .bool (false && smallB ((its.map (·.n)).take k)) ∧ Chg [] w1 wr) (fun _ i _ => il - (intOf i).toNat)
        case atStart => exact ⟨0, rfl, Nat.zero_le _, rfl, HCw5.out⟩
        case round =>
          obtain ⟨k, rfl, hk, rfl, hC⟩ := hrel
          have hh := HH.out
          rcases Nat.lt_or_ge k il with hlt | hge
          · obtain ⟨bl, off, x, rfl, hx, h0, h1, h2, h3, hr, hw⟩ := ((hh.2.1.chg HB1.out.2).chg hC).get hlt
            have hxn : (its.map (·.n))[k]? = some x.n := by rw [List.getElem?_map, hx]; rfl
            have htk : (its.map (·.n)).take (k + 1) = (its.map (·.n)).take k ++ [x.n] := by rw [List.take_add_one, hxn]; rfl
            have hrg := hh.2.2.2.2.1 x (List.mem_of_getElem? hx)
            have hs2 : smallB ((its.map (·.n)).take (k + 1)) = (smallB ((its.map (·.n)).take k) && smallB [x.n]) := by unfold smallB; rw [htk, List.all_append]
            have hLT := (hh.2.2.2.2.2.1.chg0 HB1.out.2).chg0 hC
            generalize hbk : smallB ((its.map (·.n)).take k) = bk at *
            have HX := Lib.hid (And.intro hs2 (And.intro hC (And.intro hlt (And.intro hrg hLT))))
            obtain ⟨xb, kind, xn, xao, xm, xcap, zs⟩ := x
            dsimp only at h0 h1 h2 h3 HX hrg
            clear hr hx hxn htk hs2 hC hrg hLT hh hw hk
            cases bk with
            | false =>
              go_wp2_with fail
              have hx := HX.out
              exact ⟨⟨k + 1, by go_num, by omega, by rw [hx.1]; simp, hx.2.1.trans ((Chg.refl [] _).alloc _) (U := []) (by simp) (by simp)⟩, by simp [intOf]; omega⟩
            | true =>
              go_wp2_with fail
              have hx := HX.out
              exact ⟨⟨k + 1, by go_num, by omega, by rw [hx.1]; simp, hx.2.1.trans ((Chg.refl [] _).alloc _) (U := []) (by simp) (by simp)⟩, by simp [intOf]; omega⟩
          · obtain rfl : k = il := by omega
            have hall : (its.map (·.n)).take k = its.map (·.n) := List.take_of_length_le (by rw [List.length_map, hh.2.1.1]; exact Nat.le_refl _)
            rw [hall]
            have HF := Lib.hid (And.intro hC hh.1)
            clear hC hk hge hall hh
            generalize hbk : smallB (its.map (·.n)) = bk at *
            have HBK := Lib.hid hbk
            clear hbk
            cases bk with
            | false =>
              go_wp2_with fail
              go_ret
              exact ⟨by rw [HF.out.2]; rfl, HB1.out.2.trans HF.out.1 (by simp) (by simp)⟩
            | true =>
              go_wp2_with fail
              go_ret
              exact ⟨by rw [HF.out.2]; rfl, HB1.out.2.trans HF.out.1 (by simp) (by simp)⟩
    | true =>
      cases bs with
      | false =>
          go_wp2_with fail
          refine (HS1.out w3 HCw3.out).mono ?_
          rintro e w4 ⟨rfl, Cw4⟩
          have HCw4 := Lib.hid (HCw3.out.trans Cw4 (U := []) (by simp) (by simp))
          have HXw4 := Lib.hid (HCw4.out.heap HB1.out.1 (by simp))
          have v3w4 : w4.cell? ⟨w.heap.size, 3, none⟩ = some (.slice ia il ic) := by rw [cell_of_heap HXw4.out]; rfl
          have v5w4 : w4.cell? ⟨w.heap.size, 5, none⟩ = some (.slice ga gl gc) := by rw [cell_of_heap HXw4.out]; rfl
          have v6w4 : w4.cell? ⟨w.heap.size, 6, none⟩ = some (.slice sa sl sc) := by rw [cell_of_heap HXw4.out]; rfl
          clear Cw4
          go_wp2_with fail
          refine (HS2.out w4 HCw4.out).mono ?_
          rintro e w5 ⟨rfl, Cw5⟩
          have HCw5 := Lib.hid (HCw4.out.trans Cw5 (U := []) (by simp) (by simp))
          have HXw5 := Lib.hid (HCw5.out.heap HB1.out.1 (by simp))
          have v3w5 : w5.cell? ⟨w.heap.size, 3, none⟩ = some (.slice ia il ic) := by rw [cell_of_heap HXw5.out]; rfl
          have v5w5 : w5.cell? ⟨w.heap.size, 5, none⟩ = some (.slice ga gl gc) := by rw [cell_of_heap HXw5.out]; rfl
          have v6w5 : w5.cell? ⟨w.heap.size, 6, none⟩ = some (.slice sa sl sc) := by rw [cell_of_heap HXw5.out]; rfl
          clear Cw5
          go_wp2_with fail
          refine (HS3.out w5 HCw5.out).mono ?_
          rintro e w6 ⟨rfl, Cw6⟩
          have HCw6 := Lib.hid (HCw5.out.trans Cw6 (U := []) (by simp) (by simp))
          have HXw6 := Lib.hid (HCw6.out.heap HB1.out.1 (by simp))
          have v3w6 : w6.cell? ⟨w.heap.size, 3, none⟩ = some (.slice ia il ic) := by rw [cell_of_heap HXw6.out]; rfl
          have v5w6 : w6.cell? ⟨w.heap.size, 5, none⟩ = some (.slice ga gl gc) := by rw [cell_of_heap HXw6.out]; rfl
          have v6w6 : w6.cell? ⟨w.heap.size, 6, none⟩ = some (.slice sa sl sc) := by rw [cell_of_heap HXw6.out]; rfl
          clear Cw6
          go_upto_region 9 with (fail)
          obtain ⟨wB, hwB⟩ : ∃ wB : World, wB = w6 := ⟨_, rfl⟩
          go_loopw [5, 46] (fun v i wr => ∃ k : Nat, i = .int .i64 (k : Nat) ∧ k ≤ il ∧ v = .bool (false && smallB ((its.map (·.n)).take k)) ∧ Chg [] w1 wr) (fun _ i _ => il - (intOf i).toNat)
          case atStart => exact ⟨0, rfl, Nat.zero_le _, rfl, HCw6.out⟩
          case round =>
            obtain ⟨k, rfl, hk, rfl, hC⟩ := hrel
            have hh := HH.out
            rcases Nat.lt_or_ge k il with hlt | hge
            · obtain ⟨bl, off, x, rfl, hx, h0, h1, h2, h3, hr, hw⟩ := ((hh.2.1.chg HB1.out.2).chg hC).get hlt
              have hxn : (its.map (·.n))[k]? = some x.n := by rw [List.getElem?_map, hx]; rfl
              have htk : (its.map (·.n)).take (k + 1) = (its.map (·.n)).take k ++ [x.n] := by rw [List.take_add_one, hxn]; rfl
              have hrg := hh.2.2.2.2.1 x (List.mem_of_getElem? hx)
              have hs2 : smallB ((its.map (·.n)).take (k + 1)) = (smallB ((its.map (·.n)).take k) && smallB [x.n]) := by unfold smallB; rw [htk, List.all_append]
              have hLT := (hh.2.2.2.2.2.1.chg0 HB1.out.2).chg0 hC
              generalize hbk : smallB ((its.map (·.n)).take k) = bk at *
              have HX := Lib.hid (And.intro hs2 (And.intro hC (And.intro hlt (And.intro hrg hLT))))
              obtain ⟨xb, kind, xn, xao, xm, xcap, zs⟩ := x
              dsimp only at h0 h1 h2 h3 HX hrg
              clear hr hx hxn htk hs2 hC hrg hLT hh hw hk
              cases bk with
              | false =>
                go_wp2_with fail
                have hx := HX.out
                exact ⟨⟨k + 1, by go_num, by omega, by rw [hx.1]; simp, hx.2.1.trans ((Chg.refl [] _).alloc _) (U := []) (by simp) (by simp)⟩, by simp [intOf]; omega⟩
              | true =>
                go_wp2_with fail
                have hx := HX.out
                exact ⟨⟨k + 1, by go_num, by omega, by rw [hx.1]; simp, hx.2.1.trans ((Chg.refl [] _).alloc _) (U := []) (by simp) (by simp)⟩, by simp [intOf]; omega⟩
            · obtain rfl : k = il := by omega
              have hall : (its.map (·.n)).take k = its.map (·.n) := List.take_of_length_le (by rw [List.length_map, hh.2.1.1]; exact Nat.le_refl _)
              rw [hall]
              have HF := Lib.hid (And.intro hC hh.1)
              clear hC hk hge hall hh
              generalize hbk : smallB (its.map (·.n)) = bk at *
              have HBK := Lib.hid hbk
              clear hbk
              cases bk with
              | false =>
                go_wp2_with fail
                go_ret
                exact ⟨by rw [HF.out.2]; rfl, HB1.out.2.trans HF.out.1 (by simp) (by simp)⟩
              | true =>
                go_wp2_with fail
                go_ret
                exact ⟨by rw [HF.out.2]; rfl, HB1.out.2.trans HF.out.1 (by simp) (by simp)⟩
      | true =>
          go_wp2_with fail
          refine (HS1.out w3 HCw3.out).mono ?_
          rintro e w4 ⟨rfl, Cw4⟩
          have HCw4 := Lib.hid (HCw3.out.trans Cw4 (U := []) (by simp) (by simp))
          have HXw4 := Lib.hid (HCw4.out.heap HB1.out.1 (by simp))
          have v3w4 : w4.cell? ⟨w.heap.size, 3, none⟩ = some (.slice ia il ic) := by rw [cell_of_heap HXw4.out]; rfl
          have v5w4 : w4.cell? ⟨w.heap.size, 5, none⟩ = some (.slice ga gl gc) := by rw [cell_of_heap HXw4.out]; rfl
          have v6w4 : w4.cell? ⟨w.heap.size, 6, none⟩ = some (.slice sa sl sc) := by rw [cell_of_heap HXw4.out]; rfl
          clear Cw4
          go_wp2_with fail
          refine (HS2.out w4 HCw4.out).mono ?_
          rintro e w5 ⟨rfl, Cw5⟩
          have HCw5 := Lib.hid (HCw4.out.trans Cw5 (U := []) (by simp) (by simp))
          have HXw5 := Lib.hid (HCw5.out.heap HB1.out.1 (by simp))
          have v3w5 : w5.cell? ⟨w.heap.size, 3, none⟩ = some (.slice ia il ic) := by rw [cell_of_heap HXw5.out]; rfl
          have v5w5 : w5.cell? ⟨w.heap.size, 5, none⟩ = some (.slice ga gl gc) := by rw [cell_of_heap HXw5.out]; rfl
          have v6w5 : w5.cell? ⟨w.heap.size, 6, none⟩ = some (.slice sa sl sc) := by rw [cell_of_heap HXw5.out]; rfl
          clear Cw5
          go_wp2_with fail
          refine (HS3.out w5 HCw5.out).mono ?_
          rintro e w6 ⟨rfl, Cw6⟩
          have HCw6 := Lib.hid (HCw5.out.trans Cw6 (U := []) (by simp) (by simp))
          have HXw6 := Lib.hid (HCw6.out.heap HB1.out.1 (by simp))
          have v3w6 : w6.cell? ⟨w.heap.size, 3, none⟩ = some (.slice ia il ic) := by rw [cell_of_heap HXw6.out]; rfl
          have v5w6 : w6.cell? ⟨w.heap.size, 5, none⟩ = some (.slice ga gl gc) := by rw [cell_of_heap HXw6.out]; rfl
          have v6w6 : w6.cell? ⟨w.heap.size, 6, none⟩ = some (.slice sa sl sc) := by rw [cell_of_heap HXw6.out]; rfl
          clear Cw6
          go_upto_region 9 with (fail)
          obtain ⟨wB, hwB⟩ : ∃ wB : World, wB = w6 := ⟨_, rfl⟩
          go_loopw [5, 46] (fun v i wr => ∃ k : Nat, i = .int .i64 (k : Nat) ∧ k ≤ il ∧ v = .bool (true && smallB ((its.map (·.n)).take k)) ∧ Chg [] w1 wr) (fun _ i _ => il - (intOf i).toNat)
          case atStart => exact ⟨0, rfl, Nat.zero_le _, rfl, HCw6.out⟩
          case round =>
            obtain ⟨k, rfl, hk, rfl, hC⟩ := hrel
            have hh := HH.out
            rcases Nat.lt_or_ge k il with hlt | hge
            · obtain ⟨bl, off, x, rfl, hx, h0, h1, h2, h3, hr, hw⟩ := ((hh.2.1.chg HB1.out.2).chg hC).get hlt
              have hxn : (its.map (·.n))[k]? = some x.n := by rw [List.getElem?_map, hx]; rfl
              have htk : (its.map (·.n)).take (k + 1) = (its.map (·.n)).take k ++ [x.n] := by rw [List.take_add_one, hxn]; rfl
              have hrg := hh.2.2.2.2.1 x (List.mem_of_getElem? hx)
              have hs2 : smallB ((its.map (·.n)).take (k + 1)) = (smallB ((its.map (·.n)).take k) && smallB [x.n]) := by unfold smallB; rw [htk, List.all_append]
              have hLT := (hh.2.2.2.2.2.1.chg0 HB1.out.2).chg0 hC
              generalize hbk : smallB ((its.map (·.n)).take k) = bk at *
              have HX := Lib.hid (And.intro hs2 (And.intro hC (And.intro hlt (And.intro hrg hLT))))
              obtain ⟨xb, kind, xn, xao, xm, xcap, zs⟩ := x
              dsimp only at h0 h1 h2 h3 HX hrg
              clear hr hx hxn htk hs2 hC hrg hLT hh hw hk
              cases bk with
              | false =>
                go_wp2_with fail
                have hx := HX.out
                exact ⟨⟨k + 1, by go_num, by omega, by rw [hx.1]; simp, hx.2.1.trans ((Chg.refl [] _).alloc _) (U := []) (by simp) (by simp)⟩, by simp [intOf]; omega⟩
              | true =>
                have HSM := Lib.hid (fun W (cW : Chg [] wr W) (g : Nat) (hg : W.heap[g]? = some (.cells #[.int .i64 xn] 3 (0, 0))) => small_any (some ⟨g, 0, none⟩) 1 1 [xn] W (src_row64 hg) (fun x hx => by rw [List.mem_singleton.1 hx]; exact HX.out.2.2.2.1) (by omega) (HX.out.2.2.2.2.chg0 cW))
                generalize hb1 : smallB [xn] = b1 at *
                clear hb1
                have HX2 := Lib.hid HX.out.1
                cases b1 with
                | false =>
                  go_wp2_with fail
                  refine (HSM.out _ (((Chg.refl [] wr).alloc _).alloc _) _ (alloc2_heap wr _ _)).mono ?_
                  rintro e w9 ⟨rfl, C9⟩
                  have HC9 := Lib.hid ((((Chg.refl [] wr).alloc _).alloc _).trans C9 (U := []) (by simp) (by simp))
                  clear C9
                  go_wp2_with fail
                  have hx := HX.out
                  exact ⟨⟨k + 1, by go_num, by omega, by rw [hx.1]; simp, hx.2.1.trans HC9.out (U := []) (by simp) (by simp)⟩, by simp [intOf]; omega⟩
                | true =>
                  go_wp2_with fail
                  refine (HSM.out _ (((Chg.refl [] wr).alloc _).alloc _) _ (alloc2_heap wr _ _)).mono ?_
                  rintro e w9 ⟨rfl, C9⟩
                  have HC9 := Lib.hid ((((Chg.refl [] wr).alloc _).alloc _).trans C9 (U := []) (by simp) (by simp))
                  clear C9
                  go_wp2_with fail
                  have hx := HX.out
                  exact ⟨⟨k + 1, by go_num, by omega, by rw [hx.1]; simp, hx.2.1.trans HC9.out (U := []) (by simp) (by simp)⟩, by simp [intOf]; omega⟩
            · obtain rfl : k = il := by omega
              have hall : (its.map (·.n)).take k = its.map (·.n) := List.take_of_length_le (by rw [List.length_map, hh.2.1.1]; exact Nat.le_refl _)
              rw [hall]
              have HF := Lib.hid (And.intro hC hh.1)
              clear hC hk hge hall hh
              generalize hbk : smallB (its.map (·.n)) = bk at *
              have HBK := Lib.hid hbk
              clear hbk
              cases bk with
              | false =>
                go_wp2_with fail
                go_ret
                exact ⟨by rw [HF.out.2]; rfl, HB1.out.2.trans HF.out.1 (by simp) (by simp)⟩
              | true =>
                go_wp2_with fail
                go_ret
                exact ⟨by rw [HF.out.2]; rfl, HB1.out.2.trans HF.out.1 (by simp) (by simp)⟩
end Go.Proofs.YtafmnkngjjnpiaaGreatDoor
