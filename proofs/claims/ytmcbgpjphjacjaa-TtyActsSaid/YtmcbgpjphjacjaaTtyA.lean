/-
  Layer 17: what a terminal is in memory; the contract of note.
-/
import Derived.Test.YtmcbgpjphjacjaaWldO
import Derived.Test.YtmcbgpjphjacjaaRowO
namespace Go.Proofs.Ytmcbgpjphjacjaa
set_option linter.unusedVariables false
set_option linter.unusedSimpArgs false
set_option maxRecDepth 100000
open Go.RowKit

/-- Attributes. -/
structure At3 where
  fl : Int
  mn : Int
  tm : Int
  deriving Inhabited

def At3.val (a : At3) : Value := .agg #[.int .u32 a.fl, .int .u8 a.mn, .int .u8 a.tm]

/-- An effect: its kind, attributes, where its bytes lie and which they are, its number, how it went. -/
structure EfD where
  kind : Int
  a : At3
  ao : Option Addr
  cap : Nat
  zs : List Int
  n : Int
  ok : Bool

def EfD.cells (y : EfD) : List Value := [.int .i64 y.kind, .int .u32 y.a.fl, .int .u8 y.a.mn, .int .u8 y.a.tm, .slice y.ao y.zs.length y.cap, .int .i64 y.n, .bool y.ok]
def cellsF (E : List EfD) : List Value := E.flatMap EfD.cells

/-- An effect without bytes. -/
def ef0 (kind : Int) (a : At3) (n : Int) (ok : Bool) : EfD := ⟨kind, a, none, 0, [], n, ok⟩
def at0 : At3 := ⟨0, 0, 0⟩

theorem cellsF_cons (y : EfD) (E : List EfD) : cellsF (y :: E) = y.cells ++ cellsF E := by unfold cellsF; rw [List.flatMap_cons]
theorem cellsF_append (A B : List EfD) : cellsF (A ++ B) = cellsF A ++ cellsF B := by unfold cellsF; rw [List.flatMap_append]
theorem cellsF_length (E : List EfD) : (cellsF E).length = E.length * 7 := by
  induction E with
  | nil => rfl
  | cons x E ih => rw [cellsF_cons, List.length_append, ih]; simp [EfD.cells]; omega

theorem infoEff : (Try.prog.info? 49).map (fun i => (i.zero, i.size, i.bytes)) = some (some (.agg #[.int .i64 0, .int .u32 0, .int .u8 0, .int .u8 0, .slice none 0 0, .int .i64 0, .bool false]), 7, 56) := by kernel_rfl

theorem ef_one (y : EfD) : ∀ u ∈ y.cells, u.oneCell' = true := by
  intro u hu
  unfold EfD.cells at hu
  simp only [List.mem_cons, List.not_mem_nil, or_false] at hu
  rcases hu with rfl | rfl | rfl | rfl | rfl | rfl | rfl <;> rfl

def NotePost (bT : Nat) (a : At3) (wp v : Value) (n : Nat) (xs : List Value) (y : EfD) (w : World) (e : Ending) (w' : World) : Prop :=
  e = .returned (.tuple #[]) ∧ ∃ v', w'.heap[bT]? = some (.cells #[.int .u32 a.fl, .int .u8 a.mn, .int .u8 a.tm, wp, v'] 87 (0, 0)) ∧ HasRow w' 49 7 v' (n + 1) (xs ++ y.cells) ∧ Chg (bT :: v.ownBlock.toList) w w' ∧ v'.ownBlock ≠ some bT ∧ ∀ k, v'.ownBlock = some k → v.ownBlock = some k ∨ w.heap.size ≤ k

theorem note_end {w w2 : World} {bT : Nat} {a : At3} {wp v v' : Value} {n : Nat} {xs : List Value} {y : EfD} (hT : w.heap[bT]? = some (.cells #[.int .u32 a.fl, .int .u8 a.mn, .int .u8 a.tm, wp, v] 87 (0, 0))) (hv : v.ownBlock ≠ some bT)
    (hr : HasRow w2 49 7 v' (n + 1) (xs ++ y.cells)) (c : Chg v.ownBlock.toList w w2) (hb : ∀ k, v'.ownBlock = some k → v.ownBlock = some k ∨ w.heap.size ≤ k) :
    NotePost bT a wp v n xs y w (.returned (.tuple #[])) (w2.setCell ⟨bT, 4, none⟩ v') := by
  have hlt := heap_lt hT
  have hne : v'.ownBlock ≠ some bT := fun e => (hb _ e).elim hv (fun h => by omega)
  have c2 : Chg [bT] w2 (w2.setCell ⟨bT, 4, none⟩ v') := (Chg.refl [bT] w2).setCell (p := ⟨bT, 4, none⟩) (Or.inl List.mem_cons_self) _
  have h2 := c.heap hT (fun hm => hv (by simpa [Option.mem_toList] using hm))
  refine ⟨rfl, v', by rw [setCell_heap _ h2]; rfl, hr.chg c2 (fun k hk hm => hne (by rw [hk, List.mem_singleton.1 hm])), ?_, hne, hb⟩
  exact c.trans c2 (fun x hx => List.mem_cons_of_mem _ hx) (fun x hx _ => by rw [List.mem_singleton.1 hx]; exact List.mem_cons_self)

set_option maxHeartbeats 4000000 in
theorem note_any (bT g : Nat) (a : At3) (wp v : Value) (n : Nat) (xs : List Value) (y : EfD) (w : World) (hT : w.heap[bT]? = some (.cells #[.int .u32 a.fl, .int .u8 a.mn, .int .u8 a.tm, wp, v] 87 (0, 0)))
    (hr : HasRow w 49 7 v n xs) (hv : v.ownBlock ≠ some bT) (hg : w.heap[g]? = some (.cells y.cells.toArray 49 (0, 0))) (hn : n ≤ 1000000) :
    Calls Try.prog 35 #[.pointer (some ⟨bT, 0, none⟩), .slice (some ⟨g, 0, none⟩) 1 1] w (NotePost bT a wp v n xs y w) := by
  obtain ⟨i0, hi, hz0, hz1, hz2⟩ := info_parts infoEff
  have hl : xs.length = n * 7 := hr.1
  have x4 : w.cell? ⟨bT, 4, none⟩ = some v := by rw [cell_of_heap hT]; rfl
  have f4 := free_of_heap hT 4
  obtain ⟨ao, c, rfl, _, _, _⟩ := hr.slice
  have HH := Lib.hid (And.intro hT (And.intro hr (And.intro hv hg)))
  clear hT hr hv hg
  go_enter Try.func35, Try.ntmps35
  go_wp2_with ((at_builtin; refine wpList_append_off rfl (.tmp 8) (.tmp 9) 46 rfl 49 i0 (.agg #[.int .i64 0, .int .u32 0, .int .u8 0, .int .u8 0, .slice none 0 0, .int .i64 0, .bool false]) 7 56 Try.underlying46 hi hz0 hz1 hz2 rfl (by decide) _ n xs (by rfl) HH.out.2.1 ⟨g, 0, none⟩ 1 1 y.cells (by rfl) rfl (fun j u hu => by rw [Addr.add_lit, cell_of_heap HH.out.2.2.2, Nat.zero_add]; simpa using hu) (ef_one y) (by unfold maxLen; omega) (by omega) (fun v' w2 R2 C2 B2 => ?_); obtain ⟨ao2, c2, rfl, _, _, _⟩ := R2.slice; have HE := Lib.hid (note_end HH.out.1 HH.out.2.2.1 R2 C2 B2); have y4 : w2.frozen? ⟨bT, 4, none⟩ = false := free_of_heap (C2.heap HH.out.1 (fun hm => HH.out.2.2.1 (by simpa [Option.mem_toList] using hm))) 4; have z4 : w2.cell? ⟨bT, 4, none⟩ = some (.slice ao n c) := C2.cell x4 (fun hm => HH.out.2.2.1 (by simpa [Option.mem_toList] using hm)); clear R2 C2 B2))
  go_end0
  exact HE.out
end Go.Proofs.Ytmcbgpjphjacjaa
