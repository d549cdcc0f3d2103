/-
  How the methods of a *row are found behind an interface.
-/
import Derived.Test.YtmcbgpjphjacjaaMomD
import Derived.ChangeKeysEq
namespace Go.Proofs.Ytmcbgpjphjacjaa
set_option linter.unusedVariables false
set_option maxRecDepth 100000
open Go.RowKit

theorem isAgg_row (w : World) : (isAgg 131).run Try.prog w = .ok false w := by kernel_rfl

theorem load_row (p : Addr) (v : Value) (w : World) (h : w.cell? p = some v) : (loadVar 131 p).run Try.prog w = .ok v w := by
  unfold loadVar
  simp only [Sem.run_bind, isAgg_row, Result.andThen]
  simp [h]

theorem run_wrapchk (P : Program) (t : TypeId) (p : Addr) (a b : String) (w : World) : (Builtin.ssaWrapNilChk_ #[t] t #[.pointer (some p), strVal a, strVal b]).run P w = .ok (.pointer (some p)) w := rfl

theorem method_value (nm : String) (f : FuncId) (I : TypeInfo) (m : Method) (hI : Try.prog.info? 137 = some I) (hm : I.methods.find? (fun m => m.name == nm) = some m) (hp : m.path = #[]) (hf : m.func = some (f, false))
    (p : Addr) (v : Value) (w : World) (h : w.cell? p = some v) : (method 271 137 (.pointer (some p)) nm).run Try.prog w = .ok (f, v) w := by
  rw [show (271 : Nat) = 270 + 1 from rfl]
  unfold method
  have hu := Try.underlying137
  rw [Sem.run_bind, run_typeInfo (w := w) hI]
  simp only [Result.andThen, hm, hp, hf, follow, Sem.run_bind, Sem.run_pure]
  unfold receiverAt
  simp only [Sem.run_bind, run_underlying hu, Result.andThen, Place.get, Sem.run_pure]
  simp [run_wrapchk, asAddr, load_row p v w h, Result.andThen]
theorem method_Len (p : Addr) (v : Value) (w : World) (h : w.cell? p = some v) : (method 271 137 (.pointer (some p)) "Len").run Try.prog w = .ok (92, v) w := by
  obtain ⟨I, hI, hm⟩ : ∃ I, Try.prog.info? 137 = some I ∧ (I.methods.find? (fun m => m.name == "Len")).map (fun m => (m.path, m.func)) = some (#[], some (92, false)) := ⟨_, rfl, by kernel_rfl⟩
  obtain ⟨m, hm1, hm2⟩ := Option.map_eq_some_iff.1 hm
  exact method_value "Len" _ I m hI hm1 (congrArg Prod.fst hm2) (congrArg Prod.snd hm2) p v w h

theorem method_Less (p : Addr) (v : Value) (w : World) (h : w.cell? p = some v) : (method 271 137 (.pointer (some p)) "Less").run Try.prog w = .ok (93, v) w := by
  obtain ⟨I, hI, hm⟩ : ∃ I, Try.prog.info? 137 = some I ∧ (I.methods.find? (fun m => m.name == "Less")).map (fun m => (m.path, m.func)) = some (#[], some (93, false)) := ⟨_, rfl, by kernel_rfl⟩
  obtain ⟨m, hm1, hm2⟩ := Option.map_eq_some_iff.1 hm
  exact method_value "Less" _ I m hI hm1 (congrArg Prod.fst hm2) (congrArg Prod.snd hm2) p v w h

theorem method_Swap (p : Addr) (v : Value) (w : World) (h : w.cell? p = some v) : (method 271 137 (.pointer (some p)) "Swap").run Try.prog w = .ok (94, v) w := by
  obtain ⟨I, hI, hm⟩ : ∃ I, Try.prog.info? 137 = some I ∧ (I.methods.find? (fun m => m.name == "Swap")).map (fun m => (m.path, m.func)) = some (#[], some (94, false)) := ⟨_, rfl, by kernel_rfl⟩
  obtain ⟨m, hm1, hm2⟩ := Option.map_eq_some_iff.1 hm
  exact method_value "Swap" _ I m hI hm1 (congrArg Prod.fst hm2) (congrArg Prod.snd hm2) p v w h

theorem method_Push (p : Addr) (w : World) : (method 271 137 (.pointer (some p)) "Push").run Try.prog w = .ok (102, .pointer (some p)) w := by kernel_rfl

theorem method_Pop (p : Addr) (w : World) : (method 271 137 (.pointer (some p)) "Pop").run Try.prog w = .ok (101, .pointer (some p)) w := by kernel_rfl

end Go.Proofs.Ytmcbgpjphjacjaa
