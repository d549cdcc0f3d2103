/-
  The registry: the contracts of Names and Make.
-/
import Derived.Test.YtojabenkhjgafaaRegM
import Derived.Test.YtojabenkhjgafaaApp
namespace Go.Proofs.Ytojabenkhjgafaa
set_option linter.unusedVariables false
open Go.RowKit Go.WideShapes

theorem infoS : (Try.prog.info? 9).map (fun i => (i.zero, i.size, i.bytes)) = some (some (.string ⟨#[]⟩), 1, 16) := by kernel_rfl

def namesV (A : List Ent) : List Value := A.map fun x => .string x.name

theorem oneCell_names (A : List Ent) : ∀ u ∈ namesV A, u.oneCell' = true := by
  intro u hu
  obtain ⟨x, _, rfl⟩ := List.mem_map.1 hu
  rfl

theorem owns_srcS {w : World} {base : Nat} {e : TypeId} {v : Value} {n : Nat} {xs : List Value} (h : w.ownsRow base e 1 v n xs) :
    (v = .slice none 0 0 ∧ n = 0) ∨ ∃ g c, v = .slice (some ⟨g, 0, none⟩) n c ∧ n ≤ c ∧ c ≤ maxLen ∧ ∀ j u, xs[j]? = some u → w.cell? ((⟨g, 0, none⟩ : Addr).add j) = some u := by
  have h' := h
  rcases h.2 with ⟨rfl, rfl⟩ | ⟨g, cap, cur, rfl, _, _, k1, k2, _⟩
  · exact .inl ⟨rfl, rfl⟩
  · exact .inr ⟨_, _, rfl, k1, k2, h'.cells (g := g) rfl⟩

def CloneRes (w : World) (A : List Ent) (e : Ending) (w' : World) : Prop :=
  ∃ rv, e = .returned rv ∧ Chg [] w w' ∧ w'.ownsRow w.heap.size 9 1 rv A.length (namesV A)

set_option maxHeartbeats 1000000 in
theorem clone_any (nv : Value) (A : List Ent) (w : World) (h : w.ownsRow 0 9 1 nv A.length (namesV A)) (hn : A.length ≤ 16) :
    Calls Try.prog 27 #[nv] w (CloneRes w A) := by
  obtain ⟨i0, hi, hz0, hz1, hz2⟩ := info_parts infoS
  have hnil := fun (w : World) (a : Option Addr) (n c : Nat) => Lib.run_eql_slice_nil (P := Try.prog) w 39 9 a n c 0 0 Try.underlying39
  rcases owns_srcS h with ⟨rfl, h0⟩ | ⟨g, c, rfl, k1, k2, hc⟩
  · have hA : A = [] := List.eq_nil_of_length_eq_zero h0
    subst hA
    clear h0 h
    go_enter Try.func27, Try.ntmps27
    go_wp2_with fail
    go_ret
    exact ⟨_, rfl, Chg.refl _ _, World.ownsRow_nil _ _ _ _⟩
  · unfold maxLen at k2
    have O0 : (w.alloc (.cells #[] 9)).ownsRow w.heap.size 9 1 (.slice (some ⟨w.heap.size, 0, none⟩) 0 0) 0 [] := owns_empty w w.heap.size 9 (Nat.le_refl _)
    have C0 : Chg [] w (w.alloc (.cells #[] 9)) := (Chg.refl _ _).alloc _
    have S1 := Lib.hid (show ∀ ad, (some ⟨g, 0, none⟩ : Option Addr) = some ad → ∀ j u, (namesV A)[j]? = some u → (w.alloc (.cells #[] 9)).cell? (ad.add j) = some u from fun ad e j u hu => by
      injection e with e
      rw [← e]
      exact C0.cell (hc j u hu) (by simp))
    have hl := Lib.hid (show (namesV A).length = A.length * 1 by simp [namesV])
    clear h hc
    go_enter Try.func27, Try.ntmps27
    go_wp2_with (refine wpList_append_src rfl (.tmp 5) (.tmp 6) 39 rfl w.heap.size 9 i0 (.string ⟨#[]⟩) 1 16 Try.underlying39 hi hz0 hz1 hz2 rfl (by decide) _ 0 [] (by rfl) O0 (some ⟨g, 0, none⟩) A.length c (namesV A) (by rfl) hl.out (fun e => by cases e) S1.out (oneCell_names A) (by unfold maxLen; omega) (by omega) C0.size (fun v6 w6 O6 C6 _ => ?_); have D6 : Chg [] w w6 := C0.trans C6 (by simp) (by simp [Value.ownBlock]); rw [List.nil_append, Nat.zero_add] at O6; have H6 := Lib.hid O6; clear O6)
    go_ret
    exact ⟨_, rfl, D6, H6.out⟩

set_option maxHeartbeats 1000000 in
theorem rNames_any (bR bM : Nat) (nv : Value) (A : List Ent) (w : World) (h : RegIs w bR bM nv A) :
    Calls Try.prog 15 #[.pointer (some ⟨bR, 0, none⟩)] w (CloneRes w A) := by
  have h0 := h.cell0
  have hrow := h.row
  have hm := h.most
  clear h
  go_enter Try.func15, Try.ntmps15
  go_wp2_with fail
  refine (clone_any nv A _ hrow hm).mono ?_
  rintro e w1 ⟨rv, rfl, C1, O1⟩
  go_wp2_with fail
  go_ret
  exact ⟨_, rfl, C1, O1⟩
end Go.Proofs.Ytojabenkhjgafaa
