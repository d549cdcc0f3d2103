/-
  The reference of the registry: the contracts of Make, Has, Cells.
-/
import Derived.Test.YtojabenkhjgafaaRegU
namespace Go.Proofs.Ytojabenkhjgafaa
set_option linter.unusedVariables false
open Go.RowKit Go.WideShapes

def onesV (A : List Ent) : List Value := A.flatMap fun x => [.string x.name, .int .i64 (x.N : Int)]

theorem onesV_length (A : List Ent) : (onesV A).length = A.length * 2 := by
  induction A with
  | nil => rfl
  | cons x A ih => unfold onesV at ih ⊢; rw [List.flatMap_cons, List.length_append, ih]; simp; omega

theorem onesV_append (A B : List Ent) : onesV (A ++ B) = onesV A ++ onesV B := by unfold onesV; rw [List.flatMap_append]

theorem onesV_get (A : List Ent) : ∀ (k : Nat) (h : k < A.length), (onesV A)[k * 2]? = some (.string A[k].name) ∧ (onesV A)[k * 2 + 1]? = some (.int .i64 (A[k].N : Int)) := by
  induction A with
  | nil => intro k h; simp at h
  | cons x A ih =>
    intro k hk
    have e : onesV (x :: A) = [.string x.name, .int .i64 (x.N : Int)] ++ onesV A := by unfold onesV; rw [List.flatMap_cons]
    rw [e]
    cases k with
    | zero => exact ⟨rfl, rfl⟩
    | succ k =>
      rw [List.getElem?_append_right (by simp; omega), List.getElem?_append_right (by simp; omega)]
      simp only [List.length_cons, List.length_nil, List.getElem_cons_succ]
      rw [show (k + 1) * 2 - (0 + 1 + 1) = k * 2 by omega, show (k + 1) * 2 + 1 - (0 + 1 + 1) = k * 2 + 1 by omega]
      exact ih k (by simpa using hk)

/-- The reference's list. -/
def OnesAt (w : World) (mv : Value) (A : List Ent) : Prop := w.ownsRow 0 43 2 mv A.length (onesV A)

theorem OnesAt.cell {w : World} {mv : Value} {A : List Ent} (h : OnesAt w mv A) {k : Nat} (hk : k < A.length) :
    ∃ g c, mv = .slice (some ⟨g, 0, none⟩) A.length c ∧ w.cell? ⟨g, k * 2, none⟩ = some (.string A[k].name) ∧ w.cell? ⟨g, k * 2 + 1, none⟩ = some (.int .i64 (A[k].N : Int)) := by
  rcases h.2 with ⟨_, h0⟩ | ⟨g, c, cur, rfl, _⟩
  · omega
  · obtain ⟨k1, k2⟩ := onesV_get A k hk
    have c1 := World.ownsRow.cells h (g := g) rfl _ _ k1
    have c2 := World.ownsRow.cells h (g := g) rfl _ _ k2
    rw [Addr.add_lit, Nat.zero_add] at c1 c2
    exact ⟨g, c, rfl, c1, c2⟩

theorem OnesAt.slice {w : World} {mv : Value} {A : List Ent} (h : OnesAt w mv A) : ∃ ao c, mv = .slice ao A.length c := by
  rcases h.2 with ⟨rfl, h0⟩ | ⟨g, cap, cur, rfl, _⟩
  · exact ⟨none, 0, by rw [h0]⟩
  · exact ⟨_, _, rfl⟩

theorem sumE_take' (A : List Ent) (j : Nat) (h : j < A.length) : sumE (A.take (j + 1)) = sumE (A.take j) + (A[j].N : Int) := by
  unfold sumE
  rw [List.take_succ_eq_append_getElem h, List.map_append, List.sum_append]
  simp

theorem sumE_bound' {A : List Ent} (h : ∀ x ∈ A, x.N ≤ 4096) : 0 ≤ sumE A ∧ sumE A ≤ 4096 * (A.length : Int) := by
  rw [← sumN_attach]
  have := sumN_le h A.attach
  simpa using this

/-- How many cells the arena of a name has. -/
def hasN (A : List Ent) (s : ByteArray) : Int := ((A.find? (fun x => decide (x.name = s))).map (fun x => (x.N : Int))).getD 0
def hasB (A : List Ent) (s : ByteArray) : Bool := (findP A s).isSome

theorem find_at {A : List Ent} {s : ByteArray} {k : Nat} (hk : k < A.length) (h : ∀ j (hj : j < A.length), j < k → A[j].name ≠ s) (hs : A[k].name = s) : A.find? (fun x => decide (x.name = s)) = some A[k] := by
  rw [List.find?_eq_some_iff_getElem]
  exact ⟨by simp [hs], k, hk, rfl, fun j hj => by simp [h j (by omega) hj]⟩

theorem find_not {A : List Ent} {s : ByteArray} (h : ∀ j (hj : j < A.length), A[j].name ≠ s) : A.find? (fun x => decide (x.name = s)) = none := by
  rw [List.find?_eq_none]
  intro x hx
  obtain ⟨j, hj, rfl⟩ := List.getElem_of_mem hx
  simp [h j hj]

theorem bytes_beq (a b : ByteArray) : (a.toList == b.toList) = decide (a = b) := by
  by_cases h : a = b
  · subst h; simp
  · rw [decide_eq_false h, beq_eq_false_iff_ne]
    intro e
    rw [ByteArray.toList_eq, ByteArray.toList_eq] at e
    exact h (lit_inj (by rw [e]))

/-- Two new cells. -/
theorem two_new (w : World) (t : TypeId) (x y : Value) : ∀ j u, [x, y][j]? = some u → (w.alloc (.cells #[x, y] t)).cell? ((⟨w.heap.size, 0, none⟩ : Addr).add j) = some u := by
  intro j u hu
  rw [Addr.add_lit, Nat.zero_add, cell_of_heap (alloc_heap w _)]
  simpa using hu

theorem ret_nb {a b : Int} {c d : Bool} (h1 : a = b) (h2 : c = d) : Ending.returned (.tuple #[.int .i64 a, .bool c]) = .returned (.tuple #[.int .i64 b, .bool d]) := by rw [h1, h2]

set_option maxHeartbeats 1000000 in
theorem refCells_any (mv : Value) (A : List Ent) (w : World) (h : OnesAt w mv A) (hN : ∀ x ∈ A, x.N ≤ 4096) (hl : A.length ≤ 16) :
    Calls Try.prog 17 #[mv] w fun e w' => e = .returned (.int .i64 (sumE A)) ∧ w = w' := by
  obtain ⟨ao, c, rfl⟩ := h.slice
  have HH := Lib.hid h
  have hbt : ∀ j, 0 ≤ sumE (A.take j) ∧ sumE (A.take j) ≤ 65536 := fun j => by
    have := sumE_bound' (A := A.take j) (fun x hx => hN x (List.mem_of_mem_take hx))
    have hl : (A.take j).length ≤ A.length := by simp; omega
    omega
  have HBT := Lib.hid hbt
  clear h hbt
  go_enter Try.func17, Try.ntmps17
  go_wp2_with fail
  go_loop [3, 4] (fun sv i => ∃ j : Nat, j ≤ A.length ∧ i = .int .i64 j ∧ sv = .int .i64 (sumE (A.take j))) (fun _ i => A.length - (intOf i).toNat)
  case atStart => exact ⟨0, by omega, rfl, rfl⟩
  case round =>
    obtain ⟨j, hj, rfl, rfl⟩ := hrel
    by_cases hlt : j < A.length
    · have hst := sumE_take' A j hlt
      have hb1 := HBT.out j
      have hb2 := HBT.out (j + 1)
      obtain ⟨g, c', e, c1, c2⟩ := HH.out.cell hlt
      injection e with e1 e2 e3
      subst e1 e3
      have HST := Lib.hid hst
      rw [hst] at hb2
      generalize sumE (A.take j) = S at *
      generalize A[j].N = N at *
      clear hst c1 e2
      go_wp2_with fail
      go_round
      case rel => exact ⟨j + 1, by omega, by go_num, by rw [HST.out]⟩
      case measure => simp [intOf]; omega
    · obtain rfl : j = A.length := by omega
      rw [List.take_of_length_le (Nat.le_refl _)]
      go_wp2_with fail
      go_ret
      exact ⟨rfl, rfl⟩

set_option maxHeartbeats 1000000 in
theorem refHas_any (mv : Value) (A : List Ent) (s : ByteArray) (w : World) (h : OnesAt w mv A) (hl : A.length ≤ 16) :
    Calls Try.prog 14 #[mv, .string s] w fun e w' => e = .returned (.tuple #[.int .i64 (hasN A s), .bool (hasB A s)]) ∧ w = w' := by
  obtain ⟨ao, c, rfl⟩ := h.slice
  have HH := Lib.hid h
  clear h
  go_enter Try.func14, Try.ntmps14
  go_wp2_with fail
  go_loop [6] (fun i => ∃ k : Nat, k ≤ A.length ∧ i = .int .i64 k ∧ ∀ j (hj : j < A.length), j < k → A[j].name ≠ s) (fun i => A.length - (intOf i).toNat)
  case atStart => exact ⟨0, Nat.zero_le _, rfl, fun j _ h => by omega⟩
  case round =>
    obtain ⟨k, hk, rfl, hn⟩ := hrel
    have HN := Lib.hid hn
    clear hn
    by_cases hlt : k < A.length
    · obtain ⟨g, c', e, c1, c2⟩ := HH.out.cell hlt
      injection e with e1 e2 e3
      subst e1 e3
      have hbe := bytes_beq A[k].name s
      by_cases hs : A[k].name = s
      · have HF := Lib.hid (find_at hlt HN.out hs)
        rw [decide_eq_true hs] at hbe
        have HL := Lib.hid hlt
        clear hs e2
        go_wp2_with fail
        go_ret2
        exact ⟨ret_nb (by unfold hasN; rw [HF.out]; rfl) (by unfold hasB findP; rw [HF.out]; rfl), rfl⟩
      · rw [decide_eq_false hs] at hbe
        have HS := Lib.hid hs
        clear hs e2
        go_wp2_with fail
        go_round
        case rel =>
          refine ⟨k + 1, by omega, by go_num, fun j hj hjk => ?_⟩
          by_cases hjk2 : j = k
          · subst hjk2; exact HS.out
          · exact HN.out j hj (by omega)
        case measure => simp [intOf]; omega
    · have HF := Lib.hid (find_not (A := A) (s := s) (fun j hj => HN.out j hj (by omega)))
      go_wp2_with fail
      go_ret2
      exact ⟨ret_nb (by unfold hasN; rw [HF.out]; rfl) (by unfold hasB findP; rw [HF.out]; rfl), rfl⟩
end Go.Proofs.Ytojabenkhjgafaa
