/-
  TopUnknown: for every input the law returns true, and each argument reads behind the call as it read before, where the listed variables hold what the program's text lays: the tied card.
-/
import Derived.Test.YtafmnkngjjnpiaaGreatDoorRows
import Derived.Test.YtafmnkngjjnpiaaGreatDoorCards
import Derived.Test.YtafmnkngjjnpiaaGreatDoorTie
import Derived.Test.YtafmnkngjjnpiaaGreatDoorTrW
import Derived.Test.YtafmnkngjjnpiaaGreatDoorTqT
import Derived.Test.YtafmnkngjjnpiaaGreatDoorWldC
import Derived.Test.YtafmnkngjjnpiaaGreatDoorTvD
import Derived.Below
import Derived.OpenShut
import Derived.ShutString
import Derived.Deep.Slices
import Derived.ProofKit
import Derived.SizedLaws
import Derived.ChangeOld
import Derived.SevenTiedAt
import Derived.Lib.LaidU8
import Derived.LaidHandle
import Derived.Lay
import Derived.LaidLaws
namespace Go.Proofs.YtafmnkngjjnpiaaGreatDoor
set_option linter.unusedVariables false
set_option linter.unusedSimpArgs false
set_option maxRecDepth 100000
open Go.Lib
def tabsL : List (String × DataW Unit) := [("math/bits.deBruijn32tab", Rows.laid_math_bits_deBruijn32tab), ("math/bits.deBruijn64tab", Rows.laid_math_bits_deBruijn64tab), ("internal/strconv.uint64pow10", Rows.laid_internal_strconv_uint64pow10), ("unicode/utf8.acceptRanges", Rows.laid_unicode_utf8_acceptRanges), ("unicode/utf8.first", Rows.laid_unicode_utf8_first)]
def handL : List (String × DataW Unit) := [("errors.errorType", Rows.laid_errors_errorType)]
def laidL : List (String × DataW Unit) := [("math/bits.deBruijn32tab", Rows.laid_math_bits_deBruijn32tab), ("math/bits.deBruijn64tab", Rows.laid_math_bits_deBruijn64tab), ("internal/strconv.uint64pow10", Rows.laid_internal_strconv_uint64pow10), ("unicode/utf8.acceptRanges", Rows.laid_unicode_utf8_acceptRanges), ("errors.errorType", Rows.laid_errors_errorType), ("unicode/utf8.first", Rows.laid_unicode_utf8_first)]
theorem lg1 : Tryz.prog.globalNamed "unicode/utf8.first" = some 1 := by kernel_rfl
theorem lg2 : Tryz.prog.globalNamed "unicode/utf8.acceptRanges" = some 2 := by kernel_rfl
theorem lg3 : Tryz.prog.globalNamed "errors.errorType" = some 3 := by kernel_rfl
theorem lg4 : Tryz.prog.globalNamed "internal/strconv.uint64pow10" = some 4 := by kernel_rfl
theorem ly1 : (Tryz.prog.globals[1]?).map (·.type) = some 233 := by kernel_rfl
theorem ly2 : (Tryz.prog.globals[2]?).map (·.type) = some 236 := by kernel_rfl
theorem ly4 : (Tryz.prog.globals[4]?).map (·.type) = some 311 := by kernel_rfl
theorem ld1 : Rows.laid_unicode_utf8_first = tabData .u8 firstTab := by kernel_rfl
theorem ld2 : (Rows.laid_unicode_utf8_acceptRanges : DataW Unit) = acceptData := by kernel_rfl
theorem ld4 : (Rows.laid_internal_strconv_uint64pow10 : DataW Unit) = tabData .u64 pow10Tab := by kernel_rfl
theorem lc5 : Tryz.prog.cellsOf 5 = 1 := by kernel_rfl
theorem lc64 : Tryz.prog.cellsOf 211 = 1 := by kernel_rfl
theorem lc256 : Tryz.prog.cellsOf 233 = 256 := by kernel_rfl
theorem lc20 : Tryz.prog.cellsOf 311 = 20 := by kernel_rfl
theorem lc2 : Tryz.prog.cellsOf 235 = 2 := by kernel_rfl
theorem lrt : (Tryz.prog.cutTypes.find? (·.1 == "internal/reflectlite.rtype")).map (·.2) = some 275 := by kernel_rfl
theorem lone : ((List.range Tryz.prog.types.size).filter fun t => Tryz.prog.rowNamed t [101, 114, 114, 111, 114]) = [225] := by kernel_rfl
theorem utf8_laid {W : World} (h : laidMet Tryz.prog tabsL W) : Lib.Utf8Tabs 1 2 W := by
  have h3 : VarReads Tryz.prog W "unicode/utf8.first" Rows.laid_unicode_utf8_first := laidMet.reads h (by simp [tabsL])
  have h4 : VarReads Tryz.prog W "unicode/utf8.acceptRanges" Rows.laid_unicode_utf8_acceptRanges := laidMet.reads h (by simp [tabsL])
  refine ⟨fun c hc => ?_, fun i hi => ?_⟩
  · obtain ⟨g, t, cs, fuel, p, hg, hty, hvar, hd⟩ := h3
    obtain rfl := Option.some.inj (lg1.symm.trans hg)
    obtain rfl := Option.some.inj (ly1.symm.trans hty)
    rw [ld1] at hd
    have hcs := cells_of_tab Tryz.underlying233 Tryz.underlying5 lc5 lc256 hd
    have := World.var?_cell hg hvar c
    rw [this, ← Array.getElem?_toList, hcs]
    simp [firstTab, hc]
  · obtain ⟨g, t, cs, fuel, p, hg, hty, hvar, hd⟩ := h4
    obtain rfl := Option.some.inj (lg2.symm.trans hg)
    obtain rfl := Option.some.inj (ly2.symm.trans hty)
    rw [ld2] at hd
    obtain ⟨f2, d, q, hdi, he⟩ := array_elem Tryz.underlying236 hd i hi
    simp only [List.getElem?_map, List.getElem?_range hi, Option.map_some, Option.some.injEq] at hdi
    subst hdi
    rw [lc2] at he
    have hcs := ints_of_struct Tryz.underlying235 (fun j f hj => by
      match j, hj with
      | 0, hj => simp at hj; subst hj; exact ⟨Tryz.underlying5, rfl, lc5⟩
      | 1, hj => simp at hj; subst hj; exact ⟨Tryz.underlying5, rfl, lc5⟩
      | j + 2, hj => simp at hj) (by rw [lc2]; rfl) he
    have e0 := congrArg (·[0]?) hcs
    have e1 := congrArg (·[1]?) hcs
    simp only [List.getElem?_take, List.getElem?_drop] at e0 e1
    constructor
    · rw [World.var?_cell hg hvar (2 * i), ← Array.getElem?_toList]
      simpa [Nat.mul_comm] using e0
    · rw [World.var?_cell hg hvar (2 * i + 1), ← Array.getElem?_toList]
      simpa [Nat.mul_comm] using e1
theorem pow_laid {W : World} (h : laidMet Tryz.prog tabsL W) : TabBelow Tryz.prog 8 W "internal/strconv.uint64pow10" .u64 pow10Tab := by
  obtain ⟨g, t, cs, fuel, p, hg, hty, hvar, hd⟩ : VarReads Tryz.prog W "internal/strconv.uint64pow10" Rows.laid_internal_strconv_uint64pow10 := laidMet.reads h (by simp [tabsL])
  obtain rfl := Option.some.inj (lg4.symm.trans hg)
  obtain rfl := Option.some.inj (ly4.symm.trans hty)
  rw [ld4] at hd
  have hcs := cells_of_tab Tryz.underlying311 Tryz.underlying211 lc64 lc20 hd
  have hT : TabIs Tryz.prog W "internal/strconv.uint64pow10" .u64 pow10Tab := by
    unfold TabIs
    rw [hvar, ← hcs]
  intro w' hb
  unfold TabIs World.var? at hT ⊢
  rw [lg4] at hT ⊢
  simp only [Option.bind_some] at hT ⊢
  rw [hb.block 4 (by decide)]
  exact hT
theorem err_laid {W : World} (h : handlesMet Tryz.prog handL W) : W.cell? ⟨3, 0, none⟩ = some (.iface 275 (.agg #[.pointer (some ⟨8, 225, none⟩)])) := by
  obtain ⟨name, u, ty, e1, e2, e3, e4, e5⟩ := h _ (List.mem_singleton.2 rfl)
  have en : name = [101, 114, 114, 111, 114] := (Option.some.inj e1).symm
  subst en
  obtain rfl := Option.some.inj (lrt.symm.trans e2)
  have hm : ty ∈ (List.range Tryz.prog.types.size).filter fun t => Tryz.prog.rowNamed t [101, 114, 114, 111, 114] := List.mem_filter.2 ⟨List.mem_range.2 e3, e4⟩
  rw [lone] at hm
  obtain rfl := List.mem_singleton.1 hm
  have hh : typeHandle Tryz.prog 225 = .pointer (some ⟨8, 225, none⟩) := by kernel_rfl
  rw [hh] at e5
  simpa using World.var?_cell lg3 e5 0
theorem libT_laid {W : World} (h : laidMetH Tryz.prog laidL W) (h8 : 8 ≤ W.heap.size) : LibT W := by
  have h' : laidMet Tryz.prog tabsL W ∧ handlesMet Tryz.prog handL W := h
  exact ⟨utf8_laid h'.1, pow_laid h'.1, h8, err_laid h'.2⟩
noncomputable def handW (os : Os) : World :=
  let w0 := World.holding Tryz.prog os ⟨#[], #[], []⟩
  { w0 with heap := w0.heap.modify 3 fun
      | .cells _ t frozen => .cells #[.iface 275 (.agg #[.pointer (some ⟨8, 225, none⟩)])] t frozen
      | o => o }
noncomputable def laidW (os : Os) : World := (handW os).layVars Tryz.prog tabsL
theorem laidW_os (os : Os) : (laidW os).os = os := World.layVars_os _ _ _
theorem laidW_met (os : Os) (args : Array Value) : laidMetH Tryz.prog laidL ((laidW os).forCall (fun _ _ => 0) ⟨#[], args, []⟩).memory := by
  have e1 : (tabsL.filter fun x => (tabsL.map (·.1)).contains x.1) = tabsL := List.filter_eq_self.2 fun x hx => List.contains_iff_mem.2 (List.mem_map.2 ⟨x, hx, rfl⟩)
  have e2 : (tabsL.filter fun x => !(tabsL.map (·.1)).contains x.1) = [] := List.filter_eq_nil_iff.2 fun x hx => by rw [List.contains_iff_mem.2 (List.mem_map.2 ⟨x, hx, rfl⟩)]; simp
  have hd : laidMet Tryz.prog tabsL (laidW os) := laidMet_layVars (w0 := handW os) (tabsL.map (·.1)) [] (by rw [e1]; rfl) (by rw [e1]; kernel_rfl) (by rw [e1]; kernel_rfl) (by rw [e2]; exact LaidIn.none)
  exact laidMetH_of_parts (hd.of_heap (by simp [World.memory, World.forCall, Input.heap])) (by kernel_rfl)
end Go.Proofs.YtafmnkngjjnpiaaGreatDoor

namespace Go.Proofs.YtafmnkngjjnpiaaGreatDoor
set_option linter.unusedVariables false
set_option maxRecDepth 100000
theorem ownTop : ownKnob Tryz.prog.godebug = none := by kernel_rfl
theorem laidOutTop : laidOutB Tryz.prog = true := by kernel_rfl
theorem rowSeven : ((begin Tryz.prog (fun _ _ => 0) default).world.heap[7]?.bind Obj.row?).isSome = true := by kernel_rfl
theorem eightTop : Tryz.prog.globals.size = 8 := by kernel_rfl
theorem shape_eight {W : World} (h : W.ShapedOpen Tryz.prog) : 8 ≤ W.heap.size := by
  obtain ⟨⟨z, t⟩, hz⟩ := Option.isSome_iff_exists.1 rowSeven
  obtain ⟨cs, hc, _⟩ := h.1 7 z t (by rw [eightTop]; decide) hz
  have := (Array.getElem?_eq_some_iff.1 hc).1
  omega
theorem returns_laid {H : Type} {enc : TypeId × Value → H} {os : Os} {f : FuncId} {fn : Func} {s : ChangeSpec} (started : os.Started) (noInit : Tryz.prog.inits.idxOf? f = none) (hfn : Tryz.prog.funcs[f]? = some fn) (wargs : Array Value)
    (hok : Input.okWideB Tryz.prog ((laidW os).forCall (fun _ _ => 0) ⟨#[], wargs, []⟩) f ⟨#[], wargs, []⟩ = true)
    (hpre : s.preB enc Tryz.prog fn [] false ((laidW os).forCall (fun _ _ => 0) ⟨#[], wargs, []⟩).memory wargs 8 = true)
    (hsz : s.sizedB enc Tryz.prog fn false ((laidW os).forCall (fun _ _ => 0) ⟨#[], wargs, []⟩).memory wargs 8 = true)
    (hsh : ((laidW os).forCall (fun _ _ => 0) ⟨#[], wargs, []⟩).Shaped Tryz.prog)
    (contract : ∀ (W : World) (base : Nat) (args : Array Value) (ds gs : List (DataW H)) (before : List MemPlace),
      (∀ (j : Nat) t v, fn.params[j]? = some t → args[j]? = some v → Value.okWide Tryz.prog W .any base t v) →
      DataW.Whole enc Tryz.prog fn.params.toList s.vars false W args.toList ds gs before →
      (DataW.weightsEach Tryz.prog (fn.params.toList ++ s.plain.varTypes Tryz.prog) (ds ++ gs)).all (· ≤ reachBytes) = true → LibT W →
      Calls Tryz.prog f args W fun e W' => ∃ v, e = .returned v ∧ s.post enc Tryz.prog fn false true false false W args v W') :
    ReturnsInHanded {} Tryz.checked os f .any (fun w args => (s.pre enc Tryz.prog fn [] false w args ∧ laidMetH Tryz.prog laidL w) ∧ sizedMet enc Tryz.prog fn (OpenSpec.ofChange s) false w args) (s.post enc Tryz.prog fn false true false false) := by
  refine returnsInHanded_of_calls (C := Tryz.checked) ownTop started noInit
    (ChangeSpec.witness_shaped (enc := enc) (C := Tryz.checked) (os := os) (X := fun w _ => laidMetH Tryz.prog laidL w) false (laidW os) wargs 8 (laidW_os os) hsh hok hpre hsz (laidW_met os _)) ?_
  intro w tape i _ hso _ hin hpr hholds
  obtain ⟨_, _, _, fn', hfn', _, _, _, _, hval⟩ := hin
  have e : fn' = fn := Option.some.inj (hfn'.symm.trans hfn)
  subst e
  obtain ⟨⟨⟨ds, gs, before, hw, hc⟩, hx⟩, hz⟩ := hpr
  have hL : LibT (w.forCall tape i) := libT_laid (W := w.forCall tape i) (hx.of_heap (by rfl)) (shape_eight hso)
  refine (contract (w.forCall tape i) w.heap.size i.args ds gs before hval (DataW.Whole.of_heap (w' := w.forCall tape i) (by rfl) hw) (hz.weights hw) hL).mono fun e W' ⟨v, he, hp⟩ => ?_
  subst he
  exact ChangeSpec.post_blind hp
end Go.Proofs.YtafmnkngjjnpiaaGreatDoor

namespace Go.Proofs.YtafmnkngjjnpiaaGreatDoor
set_option maxRecDepth 100000
set_option linter.unusedVariables false
set_option linter.unusedSimpArgs false
open Go.ChangeShapes Go.WideShapes Go.ChangeAt Go.RowKit
theorem intCellsI : Tryz.prog.cellsOf 3 = 1 := by kernel_rfl
instance : Inhabited ItD := ⟨⟨0, 0, 0, none, 0, 0, []⟩⟩
theorem intsCellsI : Tryz.prog.cellsOf 38 = 1 := by kernel_rfl
end Go.Proofs.YtafmnkngjjnpiaaGreatDoor

namespace Go.Proofs.YtafmnkngjjnpiaaGreatDoor
set_option maxRecDepth 100000
set_option linter.unusedVariables false
set_option linter.unusedSimpArgs false
open Go.ChangeShapes Go.WideShapes Go.ChangeAt Go.RowKit
open Go.ChangeMaps (open_string shut_string)
theorem wf_u8 {n : Int} (h : (Lit.int .u8 n).wf = true) : 0 ≤ n ∧ n < 256 := by
  unfold Lit.wf at h
  rw [Bool.and_eq_true] at h
  have h1 := of_decide_eq_true h.1
  have h2 := of_decide_eq_true h.2
  have e1 : IntKind.u8.min = 0 := by decide
  have e2 : IntKind.u8.max = 255 := by decide
  omega
theorem row_bytes {w : World} {a : Option Addr} {len cap : Nat} {zs : List Int} (h : IsRow .u8 w a len cap zs) : ByR (zs.take len) := by
  intro x hx
  rcases h with ⟨_, _, _, rfl⟩ | ⟨_, _, _, _, _, _, hz⟩
  · simp at hx
  · exact wf_u8 (hz x (List.mem_of_mem_take hx))
end Go.Proofs.YtafmnkngjjnpiaaGreatDoor

namespace Go.Proofs.YtafmnkngjjnpiaaGreatDoor
set_option maxRecDepth 100000
set_option linter.unusedVariables false
set_option linter.unusedSimpArgs false
open Go.ChangeShapes Go.WideShapes Go.ChangeAt Go.RowKit
theorem pairCells : Tryz.prog.cellsOf 88 = 2 := by kernel_rfl
set_option maxRecDepth 100000 in
theorem open_pairW {H : Type} {enc : TypeId × Value → H} {w : World} {r : Reach} {b0 : Nat} {held : Bool} {v : Value} {d : DataW H} {p : List MemPlace}
    (hval : Value.okWide Tryz.prog w r b0 88 v) (h : DataW.Trod enc Tryz.prog w 0 (fun _ => true) held 88 v d p) :
    ∃ a0 n0 c0 z0 a1 n1 c1 z1, v = .agg #[.slice a0 n0 c0, .slice a1 n1 c1] ∧ IsRow .i64 w a0 n0 c0 z0 ∧ IsRow .i64 w a1 n1 c1 z1 := by
  simp only [Value.okWide, Tryz.underlying88] at hval
  obtain ⟨cs, rfl, hsz, _⟩ := hval
  obtain ⟨fuel, hf⟩ := h
  obtain ⟨ys, m, _, _, _, hyl, hys⟩ := DataW.trod_array Tryz.underlying88 hf
  rw [pairCells] at hsz
  have key : ∀ i (hi : i < cs.size), ∃ ao n c zs, cs[i] = .slice ao n c ∧ IsRow .i64 w ao n c zs := by
    intro i hi
    have h1 := hys i (by omega)
    rw [intsCellsI, Nat.mul_one] at h1
    have h2 : (((Value.agg cs).cells.toList.drop i).take 1) = [cs[i]] := by
      show (cs.toList.drop i).take 1 = _
      rw [List.drop_eq_getElem_cons (by simpa using hi)]
      simp
    rw [h2, List.getElem?_eq_getElem (by omega)] at h1
    rcases open_ints Tryz.underlying38 Tryz.underlying3 intCellsI h1 with ⟨e1, _⟩ | ⟨a, len, cap, zs, e1, _, hl, hm, hz, hx, hcell, hwz⟩
    · simp only [List.cons.injEq, and_true] at e1
      exact ⟨none, 0, 0, [], e1, .inl ⟨rfl, rfl, rfl, rfl⟩⟩
    · simp only [List.cons.injEq, and_true] at e1
      exact ⟨_, _, _, zs, e1, .inr ⟨_, rfl, hl, hm, by simpa using hz, hcell, hwz⟩⟩
  obtain ⟨a0, n0, c0, z0, e0, h0⟩ := key 0 (by omega)
  obtain ⟨a1, n1, c1, z1, e1, h1⟩ := key 1 (by omega)
  refine ⟨a0, n0, c0, z0, a1, n1, c1, z1, ?_, h0, h1⟩
  have e : cs = #[.slice a0 n0 c0, .slice a1 n1 c1] := by
    apply Array.ext
    · simpa using hsz
    · intro i h1' h2'
      have : i < 2 := by simpa using h2'
      rcases (by omega : i = 0 ∨ i = 1) with rfl | rfl
      · simpa using e0
      · simpa using e1
  rw [e]
end Go.Proofs.YtafmnkngjjnpiaaGreatDoor

namespace Go.Proofs.YtafmnkngjjnpiaaGreatDoor
set_option maxRecDepth 100000
set_option linter.unusedVariables false
open Go.RowKit
theorem unknown_walk (a0 : Option Addr) (n0 c0 : Nat) (z0 : List Int) (a1 : Option Addr) (n1 c1 : Nat) (z1 : List Int) (ap : Option Addr) (np cp : Nat) (zp : List Int) (e : Int) (w : World)
    (h0 : IsRow .i64 w a0 n0 c0 z0) (h1 : IsRow .i64 w a1 n1 c1 z1) (hp : IsRow .u8 w ap np cp zp) (he : (Lit.int .u8 e).wf = true) (hL : LibT w) :
    Calls Tryz.prog 5 #[.agg #[.slice a0 n0 c0, .slice a1 n1 c1], .slice ap np cp, .int .u8 e] w fun e w' => e = .returned (.bool true) ∧ Below w.heap.size w w' := by
  have l0 := h0.le
  have l1 := h1.le
  have lp := hp.le
  let i : UnkIn w := ⟨a0, n0, c0, z0.take n0, a1, n1, c1, z1.take n1, ap, np, cp, zp.take np, e, h0.src, h1.src, hp.src, row_bytes hp, wf_u8 he, by omega, by omega, by omega, hL⟩
  have hB : ∀ {e : Ending} {w' : World}, e = .returned (.bool true) ∧ Chg [] w w' → e = .returned (.bool true) ∧ Below w.heap.size w w' := fun h => ⟨h.1, Chg.below (Below.refl _ _) h.2 (by simp) (Nat.le_refl _)⟩
  by_cases hs : n0 ≤ 60 ∧ n1 ≤ 60 ∧ np ≤ 20
  · exact (unk_few w i hs).mono fun e w' h => hB h
  · exact (unk_big w i (by show 60 < n0 ∨ 60 < n1 ∨ 20 < np; omega)).mono fun e w' h => hB h
end Go.Proofs.YtafmnkngjjnpiaaGreatDoor

namespace Go.Proofs.YtafmnkngjjnpiaaGreatDoor
set_option maxRecDepth 100000
open Go.ChangeShapes Go.WideShapes Go.ChangeAt Go.RowKit
open Go.ChangeMaps (open_string shut_string)
set_option linter.unusedVariables false

set_option maxRecDepth 100000 in
theorem liftedTopUnknown (os : Os) (started : os.Started) (H : Type) (enc : TypeId × Value → H) :
    ReturnsInHanded {} Tryz.checked os 5 .any (fun w args => (Rows.topUnknownSpec.pre enc Tryz.prog Tryz.f5 [] false w args ∧ laidMetH Tryz.prog laidL w) ∧ sizedMet enc Tryz.prog Tryz.f5 (OpenSpec.ofChange Rows.topUnknownSpec) false w args) (Rows.topUnknownSpec.post enc Tryz.prog Tryz.f5 false true false false) := by
  refine returns_laid started (by kernel_rfl) Tryz.func5 #[.agg #[.slice none 0 0, .slice none 0 0], .slice none 0 0, .int .u8 0] (by kernel_rfl) (by kernel_rfl) (by kernel_rfl) (World.shaped_of_ZipB (by kernel_rfl) (by kernel_rfl)) ?_
  intro W base args ds gs before hval0 hW hwt hL
  have hval : ∀ (j : Nat) t v, Tryz.f5.params[j]? = some t → args[j]? = some v → Value.okWide Tryz.prog W .any base t v := hval0
  have hW' := hW
  obtain ⟨p, q, hA0, hV, rfl, hfz, hnd⟩ := hW
  have hA : DataW.TrodAll enc Tryz.prog W 0 (fun _ => true) true Tryz.f5.params.toList args.toList ds p := hA0
  rw [Tryz.params5] at hA hval
  obtain ⟨v0, vs0, d0, ds0, p0, q0, hargs, rfl, rfl, h0, r0⟩ := trodAll_cons hA
  obtain ⟨v1, vs1, d1, ds1, p1, q1, rfl, rfl, rfl, h1, r1⟩ := trodAll_cons r0
  obtain ⟨v2, vs2, d2, ds2, p2, q2, rfl, rfl, rfl, h2, r2⟩ := trodAll_cons r1
  obtain ⟨rfl, rfl, rfl⟩ := trodAll_nil r2
  obtain rfl : args = #[v0, v1, v2] := by cases args; simp_all
  obtain ⟨rfl, rfl⟩ := trodVars_none hV
  have k0 := h0
  have lt0 : ∀ x ∈ p0, x.block < W.heap.size := by obtain ⟨m, hm⟩ := k0; exact DataW.trod_lt m _ _ _ hm
  obtain ⟨a0, n0, c0, z0, b0, l0, g0, y0, rfl, w0, x0⟩ := open_pairW (hval 0 88 v0 rfl rfl) h0
  obtain ⟨a1, len1, cap1, rfl⟩ := okWide_slice Tryz.underlying22 (hval 1 22 v1 rfl rfl)
  have k1 := h1
  have lt1 : ∀ x ∈ p1, x.block < W.heap.size := by obtain ⟨m, hm⟩ := k1; exact DataW.trod_lt m _ _ _ hm
  obtain ⟨z1, w1⟩ : ∃ zs, IsRow .u8 W a1 len1 cap1 zs := by
    obtain ⟨fuel, hf⟩ := h1
    rcases open_ints Tryz.underlying22 Tryz.underlying5 (by kernel_rfl) hf with ⟨hcs, _⟩ | ⟨x, l, c, zs, hcs, _, hl, hm, hz, _, hcell, hwz⟩
    · simp [Value.cells] at hcs
      obtain ⟨rfl, rfl, rfl⟩ := hcs
      exact ⟨[], .inl ⟨rfl, rfl, rfl, rfl⟩⟩
    · simp [Value.cells] at hcs
      obtain ⟨rfl, rfl, rfl⟩ := hcs
      exact ⟨zs, .inr ⟨_, rfl, hl, hm, by simpa using hz, hcell, hwz⟩⟩
  obtain ⟨a2, rfl, rfl, rfl, w2⟩ := open_int Tryz.underlying5 (hval 2 5 v2 rfl rfl) h2
  clear hA0 hval0
  refine (unknown_walk a0 n0 c0 z0 b0 l0 g0 y0 a1 len1 cap1 z1 a2 W w0 x0 w1 w2 hL).mono fun e W' ⟨he, bel⟩ => ?_
  subst he
  exact ⟨_, rfl, _, _, _, [], _, [], hW', trodAll_mk1 (shut_bool Tryz.underlying4 _), (trodAll_cons_mk (Below.trod laidOutTop (by kernel_rfl) (of_decide_eq_true (by kernel_rfl)) k0 bel lt0) (trodAll_cons_mk (Below.trod laidOutTop (by kernel_rfl) (of_decide_eq_true (by kernel_rfl)) k1 bel lt1) (trodAll_cons_mk (shut_int Tryz.underlying5 w2) trodAll_mk0))), rfl, bel.frame _, fun h => by cases h⟩

theorem topUnknown_said : Rows.TopUnknownSaid :=
  OpenClaim.holds_of_wide 5 Tryz.f5 rfl rfl rfl rfl rfl rfl rfl ⟨rfl, rfl, rfl, rfl, rfl⟩ rfl rfl rfl rfl rfl (by kernel_rfl) Tryz.func5 (by kernel_rfl)
    (of_decide_eq_true (by kernel_rfl)) (by unfold Func.isWrapper; first | (rw [if_pos (by decide +kernel)]; kernel_rfl) | (rw [if_neg (by decide +kernel)]; exact ⟨rfl, rfl⟩))
    (fun os started H enc _ => liftedTopUnknown os started H enc)

theorem topUnknown_holds : Rows.TopUnknownCardSaid :=
  Claim7.holds_tied_plain_at .later [] [.data, .data, .data, .data, .handle, .pinned] true (true, "744e2b15491edefd714e0d1c5bc317004408576da473cd53720dd03cfc504c08") true
    topUnknown_said (fun _ h => by cases h) (by kernel_rfl) (fun _ h => by cases h) topUnknown_row_tie rfl ⟨rfl, rfl⟩ (by kernel_rfl) rfl
    (fun f fn hf hfn => by
      obtain rfl : f = 5 := Option.some.inj ((show Tryz.prog.funcNamed "whisperer/whisperertop.TopUnknown" = some 5 by kernel_rfl).symm.trans hf) |>.symm
      obtain rfl : fn = Tryz.f5 := (Option.some.inj (Tryz.func5.symm.trans hfn)).symm
      have w0 : Tryz.prog.wantsStandIn 88 = false := by kernel_rfl
      have w1 : Tryz.prog.wantsStandIn 22 = false := by kernel_rfl
      have w2 : Tryz.prog.wantsStandIn 5 = false := by kernel_rfl
      exact ⟨by kernel_rfl, fun j t ht => by
        rw [Tryz.params5] at ht
        match j with
        | 0 => simp at ht; subst ht; exact w0
        | 1 => simp at ht; subst ht; exact w1
        | 2 => simp at ht; subst ht; exact w2
        | j + 3 => simp at ht⟩)
    (by kernel_rfl)
#print axioms topUnknown_holds
end Go.Proofs.YtafmnkngjjnpiaaGreatDoor
