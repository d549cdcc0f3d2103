/-
  Layer 17: the table of kinds: the map that it makes, and what is found in it.
-/
import Derived.Test.YtmcbgpjphjacjaaTtyC
import Derived.Test.YtmcbgpjphjacjaaArn
import Derived.Test.YtmcbgpjphjacjaaChg
import Derived.MapKept
import Derived.Defers
namespace Go.Proofs.Ytmcbgpjphjacjaa
set_option linter.unusedVariables false
open Go.RowKit

/-- The deferred builtins are called, the last one laid first; then the results are read. -/
def LeavesB (P : Program) (fn : Func) (tmps : Array Value) (R : Ending → World → Prop) : List Deferred → World → Prop
  | [], w => ∃ v, (results fn tmps).run P w = .ok v w ∧ R (.returned v) w
  | d :: ds, w => ∃ v w', (∃ b t u c, d.target = .builtin b t u c) ∧ (invoke d.target d.args).run P w = .ok (.value v) w' ∧ LeavesB P fn tmps R ds w'

def bodyPostB (P : Program) (fn : Func) (R : Ending → World → Prop) : Exit → Act → World → Prop
  | .normal, a, w | .ret, a, w => LeavesB P fn a.tmps R a.defers w
  | .outgrown, _, w => R .outgrown w
  | _, _, _ => False

section
variable {P : Program}

theorem step_defer_val {fr : Frame} {cs : List Frame} {w w' : World} {d : Deferred} {ds : List Deferred} {v : Value} (hm : fr.mode = .returning) (hd : fr.defers = d :: ds) (hn : ∃ b t u c, d.target = .builtin b t u c)
    (hi : (invoke d.target d.args).run P w = .ok (.value v) w') :
    step P (lone fr cs w) = .next (lone { fr with defers := ds } cs w') := by
  obtain ⟨b, t, u, c, ht⟩ := hn
  obtain ⟨target, args⟩ := d
  dsimp only at ht
  subst ht
  refine step_lone_go ?_
  simp [stepG, unwind, callDeferred, hm, hd, hi]

theorem leavesB_steps {fn : Func} {tmps : Array Value} {R : Ending → World → Prop} : ∀ (ds : List Deferred) (w : World) (fr : Frame)
    (cs : List Frame), fr.mode = .returning → fr.defers = ds → fr.tmps = tmps → P.funcs[fr.fn]? = some fn → fr.kind = .normal → LeavesB P fn tmps R ds w →
    ∃ e w' fr', R e w' ∧ Comes P (lone fr cs w) (lone fr' cs w') e ∧ fr'.fn = fr.fn ∧ fr'.leaving P w' e := by
  intro ds
  induction ds with
  | nil =>
    intro w fr cs hu hd ht hf hk h
    obtain ⟨v, hr, hR⟩ := h
    exact ⟨.returned v, w, fr, hR, Steps.refl P _, rfl, hu, hd, hk, fn, hf, ht ▸ hr⟩
  | cons d ds ih =>
    intro w fr cs hu hd ht hf hk h
    obtain ⟨v, w1, hn, hi, hl⟩ := h
    have h1 := step_defer_val (cs := cs) hu hd hn hi
    obtain ⟨e', w'', fr', hR', hs', hfn', hl'⟩ := ih w1 { fr with defers := ds } cs hu rfl ht hf hk hl
    exact ⟨e', w'', fr', hR', Comes.of_steps (.one h1) hs', hfn', hl'⟩

theorem calls_of_wp_b {f : FuncId} {fn : Func} {c : Code} {args : Array Value} {w : World} {R : Ending → World → Prop} (hf : P.funcs[f]? = some fn) (hb : fn.body = some c)
    (h : c.wp P (bodyPostB P fn R) { tmps := args ++ Array.replicate (fn.ntmps - args.size) undef, defers := [] } w) : Calls P f args w R := by
  intro cs
  let b : Frame := { (default : Frame) with fn := f, kind := .normal }
  have henter : Frame.enter P f args .normal = b.at { tmps := args ++ Array.replicate (fn.ntmps - args.size) undef, defers := [] } [.code c] := by
    simp [Frame.enter, Frame.at, hf, hb, b]
  obtain ⟨e, a', w', hq, harr⟩ := h b [] cs
  rw [← henter] at harr
  cases e with
  | normal =>
    obtain ⟨e', w'', fr', hR, hs, hfn, hl⟩ := leavesB_steps a'.defers w' { b.at a' [] with mode := .returning } cs rfl rfl rfl hf rfl hq
    exact ⟨e', w'', fr', hR, Comes.of_steps (Steps.trans harr (.one step_end)) hs, hfn, hl⟩
  | ret =>
    obtain ⟨todo, hs₀⟩ := harr
    obtain ⟨e', w'', fr', hR, hs, hfn, hl⟩ := leavesB_steps a'.defers w' { b.at a' todo with mode := .returning } cs rfl rfl rfl hf rfl hq
    exact ⟨e', w'', fr', hR, Comes.of_steps hs₀ hs, hfn, hl⟩
  | panic chain => exact hq.elim
  | exit id => exact hq.elim
  | goto l => exact hq.elim
  | outgrown => exact ⟨.outgrown, w', b, hq, harr.resolve_left (by simp [b]), rfl, trivial⟩
end
end Go.Proofs.Ytmcbgpjphjacjaa

namespace Go.Proofs.Ytmcbgpjphjacjaa
set_option linter.unusedVariables false
set_option linter.unusedSimpArgs false
set_option maxRecDepth 100000
open Go.RowKit

/-- One entry more, under a key that is new. -/
theorem map_put {w : World} {b : Nat} {es : Array MapEntry} {c : Nat} (h : w.heap[b]? = some (.map es c)) (k : Int) (v : Value) (hn : Instr.findNow (.int .i64) (.int .i64 k) es.toList 0 = some none) :
    ∃ w', (Instr.mapUpdate 96 (.map (some b)) (.int .i64 k) v).run Try.prog w = .ok () w' ∧ w'.heap[b]? = some (.map (es.push ⟨.int .i64 k, v, c⟩) (c + 1)) ∧ Chg [b] w w' ∧ w'.heap.size = w.heap.size := by
  have hk : MapKept.IsKey (.int .i64) (.int .i64 k) := rfl
  refine ⟨{ w with heap := w.heap.setIfInBounds b (.map (es.push ⟨.int .i64 k, v, c⟩) (c + 1)) }, ?_, (MapKept.heap_set h).1, ⟨rfl, rfl, rfl, by simp, fun j hj hS => (MapKept.heap_set h).2 j (by simpa using hS)⟩, by simp⟩
  simp [Instr.mapUpdate, run_underlying Try.underlying96, MapKept.run_getObj_map h, MapKept.run_checkKey Try.underlying3 hk, MapKept.run_findKey Try.underlying3 hn, MapKept.run_setObj_map _ h, Result.andThen]

def kindFn (bx : Nat) (k : Nat) : Value := .func (match k with | 0 => Fn.func 61 | 1 => Fn.func 62 | _ => Fn.func 63) #[] #[.pointer (some ⟨bx, 0, none⟩)]

def kindMap (bx : Nat) : Array MapEntry := #[⟨.int .i64 0, kindFn bx 0, 0⟩, ⟨.int .i64 1, kindFn bx 1, 1⟩, ⟨.int .i64 2, kindFn bx 2, 2⟩]

def KindsPost (bT : Nat) (w : World) (e : Ending) (w' : World) : Prop :=
  ∃ b bx, e = .returned (.map (some b)) ∧ Chg [] w w' ∧ w'.heap[b]? = some (.map (kindMap bx) 3) ∧ w'.heap[bx]? = some (.cells #[.pointer (some ⟨bT, 0, none⟩)] 32 (0, 0)) ∧ w.heap.size ≤ b ∧ w.heap.size ≤ bx

set_option maxHeartbeats 4000000 in
theorem kinds_any (bT : Nat) (w : World) :
    Calls Try.prog 43 #[.pointer (some ⟨bT, 0, none⟩)] w (KindsPost bT w) := by
  have hmm := @run_makeMap Try.prog
  have h0 : ((w.alloc (.cells #[.pointer (some ⟨bT, 0, none⟩)] 32)).alloc (.map #[] 0)).heap[w.heap.size + 1]? = some (.map #[] 0) := alloc2_heap w _ _
  have hx0 : ((w.alloc (.cells #[.pointer (some ⟨bT, 0, none⟩)] 32)).alloc (.map #[] 0)).heap[w.heap.size]? = some (.cells #[.pointer (some ⟨bT, 0, none⟩)] 32 (0, 0)) := alloc_keeps (alloc_heap w _)
  have hne : w.heap.size ∉ [w.heap.size + 1] := by simp
  obtain ⟨w1, r1, h1, c1, _⟩ := map_put h0 0 (kindFn w.heap.size 0) rfl
  obtain ⟨w2, r2, h2, c2, _⟩ := map_put h1 1 (kindFn w.heap.size 1) rfl
  obtain ⟨w3, r3, h3, c3, _⟩ := map_put h2 2 (kindFn w.heap.size 2) rfl
  have HE : Hid (KindsPost bT w (.returned (.map (some (w.heap.size + 1)))) w3) := Lib.hid
    ⟨_, w.heap.size, rfl, (((((Chg.refl [] w).alloc _).alloc _).trans c1 (U := []) (by simp) (fun y hy hl => by have := List.mem_singleton.1 hy; omega)).trans c2 (U := []) (by simp) (fun y hy hl => by have := List.mem_singleton.1 hy; omega)).trans c3 (U := []) (by simp) (fun y hy hl => by have := List.mem_singleton.1 hy; omega),
      h3, c3.heap (c2.heap (c1.heap hx0 hne) hne) hne, by omega, Nat.le_refl _⟩
  unfold kindFn at r1 r2 r3
  clear h0 hx0 hne h1 h2 h3 c1 c2 c3
  go_enter Try.func43, Try.ntmps43
  go_wp2_with fail
  go_ret
  exact HE.out

theorem kind_get {w : World} {b bx : Nat} (h : w.heap[b]? = some (.map (kindMap bx) 3)) (k : Nat) (hk : k < 3) :
    (Instr.lookup 96 (.map (some b)) (.int .i64 (k : Int)) false).run Try.prog w = .ok (kindFn bx k) w := by
  have hkey : MapKept.IsKey (.int .i64) (.int .i64 (k : Int)) := rfl
  have hf : Instr.findNow (.int .i64) (.int .i64 (k : Int)) (kindMap bx).toList 0 = some (some (k, kindFn bx k)) := by
    rcases (by omega : k = 0 ∨ k = 1 ∨ k = 2) with rfl | rfl | rfl <;> rfl
  simp [Instr.lookup, run_underlying Try.underlying96, MapKept.run_getObj_map h, MapKept.run_checkKey Try.underlying3 hkey, MapKept.run_findKey Try.underlying3 hf, Result.andThen]

/-- The call of note, where the row's place is told as a number. -/
theorem note_at (w0 ws w : World) (τ0 τ : Tt) (y : EfD) (g : Nat) (hg : w.heap.size = g) (h0 : TtGo w0 ws τ0 τ w) (hy : DatE w0 w τ y) (hyb : ∀ k, y.blk = some k → ws.heap.size ≤ k) (hn : τ.E.length ≤ 1000000) :
    Calls Try.prog 35 #[.pointer (some ⟨τ.bT, 0, none⟩), .slice (some ⟨g, 0, none⟩) 1 1] (w.alloc (.cells y.cells.toArray 49)) fun e w' => e = .returned (.tuple #[]) ∧ ∃ v', TtGo w0 ws τ0 { τ with v := v', E := τ.E ++ [y] } w' := by
  subst hg
  exact note_go w0 ws w τ0 τ y h0 hy hyb hn
end Go.Proofs.Ytmcbgpjphjacjaa
