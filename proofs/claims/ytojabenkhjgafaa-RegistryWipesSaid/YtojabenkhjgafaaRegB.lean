/-
  A list of byte slices that came in, opened; the names that RegistryWipes gives.
-/
import Derived.Test.YtojabenkhjgafaaRegR
import Derived.Deep.Matrix
import Derived.ProofKit
namespace Go.Proofs.Ytojabenkhjgafaa
set_option linter.unusedVariables false
open Go.ChangeShapes Go.WideShapes Go.ChangeAt Go.RowKit

def BytesAt (w : World) (a : Option Addr) (len : Nat) (zs : Nat → List Int) : Prop :=
  ∀ k, k < len → ∃ bl off x l c, a = some ⟨bl, off, none⟩ ∧ w.cell? ⟨bl, off + k, none⟩ = some (.slice x l c) ∧ IsRow .u8 w x l c (zs k)

theorem open_bytess {H : Type} {enc : TypeId × Value → H} {w : World} {held : Bool} {a : Option Addr} {len cap : Nat} {d : DataW H} {p : List MemPlace}
    (h : DataW.Trod enc Try.prog w 0 (fun _ => true) held 52 (.slice a len cap) d p) : len ≤ maxLen ∧ ∃ zs, BytesAt w a len zs := by
  obtain ⟨fuel, hf⟩ := h
  rcases Go.Deep.open_int_rows Try.underlying52 Try.underlying45 Try.underlying5 (by kernel_rfl) (by kernel_rfl) hf with ⟨h1, _⟩ | ⟨ad, len', cap', X, L, C, Z, h1, _, hl, hm, _, hx⟩
  · simp [Value.cells] at h1
    obtain ⟨rfl, rfl, rfl⟩ := h1
    exact ⟨Nat.zero_le _, fun _ => [], fun k hk => by omega⟩
  · simp [Value.cells] at h1
    obtain ⟨rfl, rfl, rfl⟩ := h1
    refine ⟨by omega, Z, fun k hk => ?_⟩
    obtain ⟨c1, c2, c3, c4, c5, c6, c7⟩ := hx k (by omega)
    obtain ⟨bl, off, spot⟩ := ad
    have hsp := World.cell?_spot (hx 0 (by omega)).1
    have : spot = none := by simpa [Addr.add] using hsp
    subst this
    rw [Addr.add_lit] at c1
    refine ⟨bl, off, X k, L k, C k, rfl, c1, ?_⟩
    rcases hX : X k with _ | x
    · have h0 := c6 hX
      exact .inl ⟨rfl, by omega, h0, List.eq_nil_of_length_eq_zero (by omega)⟩
    · exact .inr ⟨x, rfl, c2, c3, c4, fun i hi => (c7 x hX).2 i (by omega), c5⟩

/-- The k-th name. -/
def nmW (k : Nat) : ByteArray := ⟨#[110]⟩ ++ strOfNums [97 + (k : Int)]

theorem nmW_toList (k : Nat) : (nmW k).data.toList = [110, UInt8.ofNat (97 + k)] := by
  unfold nmW strOfNums
  have e1 : (97 + (k : Int)).toNat = 97 + k := by omega
  simp [ByteArray.data_append, e1]

theorem nmW_size (k : Nat) : (nmW k).size = 2 := by
  have := congrArg List.length (nmW_toList k)
  simpa using this

theorem nmW_inj {j k : Nat} (hj : j < 100) (hk : k < 100) (h : nmW j = nmW k) : j = k := by
  have h1 := congrArg (fun s : ByteArray => s.data.toList) h
  simp only [nmW_toList] at h1
  injection h1 with _ h2
  injection h2 with h3 h4
  have e3 := congrArg UInt8.toNat h3
  simp at e3
  omega

/-- The arenas that the law made. -/
def WIs (A : List Ent) : Prop := ∀ j (hj : j < A.length), A[j].name = nmW j ∧ A[j].N = 100

theorem WIs.fresh {A : List Ent} (h : WIs A) (hl : A.length ≤ 16) : findP A (nmW A.length) = none := by
  unfold findP
  rw [find_not (fun j hj e => by
    rw [(h j hj).1] at e
    have := nmW_inj (by omega) (by omega) e
    omega)]
  rfl

theorem WIs.find {A : List Ent} (h : WIs A) (hl : A.length ≤ 16) {k : Nat} (hk : k < A.length) : findP A (nmW k) = some A[k].bA := by
  unfold findP
  rw [find_at hk (fun j hj hjk e => by
    rw [(h j hj).1] at e
    have := nmW_inj (by omega) (by omega) e
    omega) (h k hk).1]
  rfl

theorem WIs.append {A : List Ent} (h : WIs A) (x : Ent) (h1 : x.name = nmW A.length) (h2 : x.N = 100) : WIs (A ++ [x]) := by
  intro j hj
  by_cases hl : j < A.length
  · rw [List.getElem_append_left hl]; exact h j hl
  · have : j = A.length := by simp at hj; omega
    subst this
    simp [h1, h2]

theorem WIs.wiped {A : List Ent} (h : WIs A) : WIs (wiped A) := by
  intro j hj
  have hj' : j < A.length := by simpa [Go.Proofs.Ytojabenkhjgafaa.wiped] using hj
  simp only [Go.Proofs.Ytojabenkhjgafaa.wiped, List.getElem_map]
  exact h j hj'

theorem setL_last (A : List Ent) (x : Ent) (l : List Int) : setL (A ++ [x]) A.length l = A ++ [withL x l] := by
  induction A with
  | nil => rfl
  | cons a A ih => unfold setL at ih ⊢; rw [List.cons_append, List.length_cons, List.modify_succ_cons, ih]; rfl

theorem OwnR.setLast {w0 w w' : World} {bR bM : Nat} {nv : Value} {A : List Ent} {s : ByteArray} {pA pC N : Nat} {l0 : List Int} (h : OwnR w0 w bR bM nv (A ++ [⟨s, pA, pC, N, l0⟩])) (l : List Int) (c : Chg [pA, pC] w w') (ha : ArenaIs w' pA pC N l) : OwnR w0 w' bR bM nv (A ++ [⟨s, pA, pC, N, l⟩]) := by
  have hg : (A ++ [(⟨s, pA, pC, N, l0⟩ : Ent)])[A.length]'(by simp) = ⟨s, pA, pC, N, l0⟩ := by simp
  have := h.set A.length (by simp) l (by rw [hg]; exact c) (by rw [hg]; exact ha)
  rwa [setL_last] at this

theorem zeroB_take {l : List Int} {q : Nat} (h : q < l.length) : zeroB (l.take (q + 1)) = (zeroB (l.take q) && l[q] == 0) := by
  unfold zeroB
  rw [List.take_succ_eq_append_getElem h, List.all_append]
  simp

theorem allZero_append (A : List Ent) (x : Ent) : allZero (A ++ [x]) = (allZero A && zeroB x.l) := by
  unfold allZero
  rw [List.all_append]
  simp

theorem allZero_wiped (A : List Ent) : allZero (wiped A) = true := by
  unfold allZero wiped
  rw [List.all_map, List.all_eq_true]
  intro x _
  rfl

theorem OwnR.wiped {w0 w w' : World} {bR bM : Nat} {nv : Value} {A : List Ent} (h : OwnR w0 w bR bM nv A) (c : Chg (arB A) w w') (r : RegIs w' bR bM nv (wiped A)) : OwnR w0 w' bR bM nv (Go.Proofs.Ytojabenkhjgafaa.wiped A) :=
  ⟨r, h.c.trans c (fun x hx => hx) (fun x hx hl => by
    obtain ⟨y, hy, hm⟩ := List.mem_flatMap.1 hx
    have := h.b _ (mem_blks_ar hy).1
    have := h.b _ (mem_blks_ar hy).2
    simp at hm
    rcases hm with rfl | rfl <;> omega), by rw [blks_wiped]; exact h.b⟩
end Go.Proofs.Ytojabenkhjgafaa
