import Derived.Test.YtafmnkngjjnpiaaGreatDoorDef
namespace Go.Proofs.YtafmnkngjjnpiaaGreatDoor
set_option maxRecDepth 100000
set_option linter.unusedVariables false
open Go.RowKit
def LeavesM (P : Program) (fn : Func) (tmps : Array Value) (R : Ending → World → Prop) : List Deferred → World → Prop
  | [], w => ∃ v, (results fn tmps).run P w = .ok v w ∧ R (.returned v) w
  | d :: ds, w => (∃ v w', (∃ b t u c, d.target = .builtin b t u c) ∧ (invoke d.target d.args).run P w = .ok (.value v) w' ∧ LeavesM P fn tmps R ds w') ∨
    (∃ fv cap f args, d.target = .fn fv cap ∧ (invoke d.target d.args).run P w = .ok (.enter f args) w ∧ CallsD P f args .returning w fun e u' w' => u' = .returning ∧ match e with
      | .returned _ => LeavesM P fn tmps R ds w'
      | .panicked _ => False
      | .outgrown => R .outgrown w')
def bodyPostM (P : Program) (fn : Func) (R : Ending → World → Prop) : Exit → Act → World → Prop
  | .normal, a, w | .ret, a, w => LeavesM P fn a.tmps R a.defers w
  | .outgrown, _, w => R .outgrown w
  | _, _, _ => False
section
variable {P : Program}
theorem leavesM_steps {fn : Func} {tmps : Array Value} {R : Ending → World → Prop} : ∀ (ds : List Deferred) (w : World) (fr : Frame)
    (cs : List Frame), fr.mode = .returning → fr.defers = ds → fr.tmps = tmps → P.funcs[fr.fn]? = some fn → fr.kind = .normal → LeavesM P fn tmps R ds w →
    ∃ e w' fr', R e w' ∧ Comes P (lone fr cs w) (lone fr' cs w') e ∧ fr'.fn = fr.fn ∧ fr'.leaving P w' e := by
  intro ds
  induction ds with
  | nil =>
    intro w fr cs hu hd ht hf hk h
    obtain ⟨v, hr, hR⟩ := h
    exact ⟨.returned v, w, fr, hR, Steps.refl P _, rfl, hu, hd, hk, fn, hf, ht ▸ hr⟩
  | cons d ds ih =>
    intro w fr cs hu hd ht hf hk h
    rcases h with ⟨v, w1, hn, hi, hl⟩ | ⟨fv, cap, f, args, htar, hinv, hcall⟩
    · have h1 := step_defer_val (cs := cs) hu hd hn hi
      obtain ⟨e', w'', fr', hR', hs', hfn', hl'⟩ := ih w1 { fr with defers := ds } cs hu rfl ht hf hk hl
      exact ⟨e', w'', fr', hR', Comes.of_steps (.one h1) hs', hfn', hl'⟩
    · have h1 := step_defer (cs := cs) (by rw [hu]; intro e; cases e) hd htar hinv
      obtain ⟨e, u', w', frX, ⟨hu', hR⟩, hsteps, hkX, hgo⟩ := hcall { fr with defers := ds } cs hu
      subst hu'
      cases e with
      | returned v =>
        have h2 := step_going_returned (c := { { fr with defers := ds } with mode := .returning }) (cs := cs) hkX hgo
        obtain ⟨e', w'', fr', hR', hs', hfn', hl'⟩ := ih w' { { { fr with defers := ds } with mode := .returning } with mode := settle .returning } cs rfl rfl ht hf hk hR
        exact ⟨e', w'', fr', hR', Comes.of_steps (.head h1 (Steps.trans hsteps (.one h2))) hs', hfn', hl'⟩
      | panicked chain => exact hR.elim
      | outgrown => exact ⟨.outgrown, w', fr, hR, Outgrown.of_steps (.one h1) hsteps, rfl, trivial⟩
theorem calls_of_wp_m {f : FuncId} {fn : Func} {c : Code} {args : Array Value} {w : World} {R : Ending → World → Prop} (hf : P.funcs[f]? = some fn) (hb : fn.body = some c)
    (h : c.wp P (bodyPostM P fn R) { tmps := args ++ Array.replicate (fn.ntmps - args.size) undef, defers := [] } w) : Calls P f args w R := by
  intro cs
  let b : Frame := { (default : Frame) with fn := f, kind := .normal }
  have henter : Frame.enter P f args .normal = b.at { tmps := args ++ Array.replicate (fn.ntmps - args.size) undef, defers := [] } [.code c] := by
    simp [Frame.enter, Frame.at, hf, hb, b]
  obtain ⟨e, a', w', hq, harr⟩ := h b [] cs
  rw [← henter] at harr
  cases e with
  | normal =>
    obtain ⟨e', w'', fr', hR, hs, hfn, hl⟩ := leavesM_steps a'.defers w' { b.at a' [] with mode := .returning } cs rfl rfl rfl hf rfl hq
    exact ⟨e', w'', fr', hR, Comes.of_steps (Steps.trans harr (.one step_end)) hs, hfn, hl⟩
  | ret =>
    obtain ⟨todo, hs₀⟩ := harr
    obtain ⟨e', w'', fr', hR, hs, hfn, hl⟩ := leavesM_steps a'.defers w' { b.at a' todo with mode := .returning } cs rfl rfl rfl hf rfl hq
    exact ⟨e', w'', fr', hR, Comes.of_steps hs₀ hs, hfn, hl⟩
  | panic chain => exact hq.elim
  | exit id => exact hq.elim
  | goto l => exact hq.elim
  | outgrown => exact ⟨.outgrown, w', b, hq, harr.resolve_left (by simp [b]), rfl, trivial⟩
theorem calledM {f : FuncId} {fn : Func} {c : Code} {args : Array Value} {w : World} {Q : World → Prop} (hf : P.funcs[f]? = some fn) (hb : fn.body = some c)
    (h : c.wp P (bodyPost P fn fun e w' => (∃ v, e = .returned v) ∧ Q w') { tmps := args ++ Array.replicate (fn.ntmps - args.size) undef, defers := [] } w) :
    CallsD P f args .returning w fun e u' w' => u' = .returning ∧ (∃ v, e = .returned v) ∧ Q w' := callsD_of_wp hf hb h
theorem LeavesM.fn {fn : Func} {tmps : Array Value} {R : Ending → World → Prop} {fv : Fn} {cap dargs : Array Value} {ds : List Deferred} {w : World} {f : FuncId} {args : Array Value} {Q : World → Prop}
    (hi : (invoke (.fn fv cap) dargs).run P w = .ok (.enter f args) w) (h : CallsD P f args .returning w fun e u' w' => u' = .returning ∧ (∃ v, e = .returned v) ∧ Q w') (hl : ∀ w', Q w' → LeavesM P fn tmps R ds w') :
    LeavesM P fn tmps R ({ target := .fn fv cap, args := dargs } :: ds) w :=
  .inr ⟨fv, cap, f, args, rfl, hi, h.mono fun e u' w' ⟨hu, ⟨v, hv⟩, hq⟩ => ⟨hu, by subst hv; exact hl w' hq⟩⟩
theorem LeavesM.built {fn : Func} {tmps : Array Value} {R : Ending → World → Prop} {d : Deferred} {ds : List Deferred} {w w' : World} {v : Value}
    (hn : ∃ b t u c, d.target = .builtin b t u c) (hi : (invoke d.target d.args).run P w = .ok (.value v) w') (hl : LeavesM P fn tmps R ds w') : LeavesM P fn tmps R (d :: ds) w := .inl ⟨v, w', hn, hi, hl⟩
theorem LeavesM.none {fn : Func} {tmps : Array Value} {R : Ending → World → Prop} {v : Value} {w : World} (h : (results fn tmps).run P w = .ok v w) (hR : R (.returned v) w) : LeavesM P fn tmps R [] w := ⟨v, h, hR⟩
end
end Go.Proofs.YtafmnkngjjnpiaaGreatDoor
