/-
  Layer 17's reference: the contract of note.
-/
import Derived.Test.YtmcbgpjphjacjaaTtyD
import Derived.Test.YtmcbgpjphjacjaaRfQ
namespace Go.Proofs.Ytmcbgpjphjacjaa
set_option linter.unusedVariables false
set_option linter.unusedSimpArgs false
set_option maxRecDepth 100000
open Go.RowKit

def RNotePost (bR : Nat) (a : At3) (wp v : Value) (n : Nat) (xs : List Value) (y : EfD) (w : World) (e : Ending) (w' : World) : Prop :=
  e = .returned (.tuple #[]) ∧ ∃ v', w'.heap[bR]? = some (.cells #[.int .u32 a.fl, .int .u8 a.mn, .int .u8 a.tm, wp, v'] 78 (0, 0)) ∧ HasRow w' 49 7 v' (n + 1) (xs ++ y.cells) ∧ Chg (bR :: v.ownBlock.toList) w w' ∧ v'.ownBlock ≠ some bR ∧ ∀ k, v'.ownBlock = some k → v.ownBlock = some k ∨ w.heap.size ≤ k

theorem rnote_end {w W8 w2 : World} {bR : Nat} {a : At3} {wp v v' : Value} {n : Nat} {xs : List Value} {y : EfD} (hT : w.heap[bR]? = some (.cells #[.int .u32 a.fl, .int .u8 a.mn, .int .u8 a.tm, wp, v] 78 (0, 0))) (hv : v.ownBlock ≠ some bR)
    (K : Chg [] w W8) (hr : HasRow w2 49 7 v' (n + 1) (xs ++ y.cells)) (c : Chg v.ownBlock.toList W8 w2) (hb : ∀ k, v'.ownBlock = some k → v.ownBlock = some k ∨ W8.heap.size ≤ k) :
    RNotePost bR a wp v n xs y w (.returned (.tuple #[])) (w2.setCell ⟨bR, 4, none⟩ v') := by
  have hlt := heap_lt hT
  have hsz := K.size
  have hb' : ∀ k, v'.ownBlock = some k → v.ownBlock = some k ∨ w.heap.size ≤ k := fun k hk => (hb k hk).imp id (fun h => by omega)
  have hne : v'.ownBlock ≠ some bR := fun e => (hb' _ e).elim hv (fun h => by omega)
  have c2 : Chg [bR] w2 (w2.setCell ⟨bR, 4, none⟩ v') := (Chg.refl [bR] w2).setCell (p := ⟨bR, 4, none⟩) (Or.inl List.mem_cons_self) _
  have h2 := c.heap (K.heap hT (by simp)) (fun hm => hv (by simpa [Option.mem_toList] using hm))
  refine ⟨rfl, v', by rw [setCell_heap _ h2]; rfl, hr.chg c2 (fun k hk hm => hne (by rw [hk, List.mem_singleton.1 hm])), ?_, hne, hb'⟩
  exact (K.trans c (U := bR :: v.ownBlock.toList) (by simp) (fun x hx _ => List.mem_cons_of_mem _ hx)).trans c2 (fun x hx => hx) (fun x hx _ => by rw [List.mem_singleton.1 hx]; exact List.mem_cons_self)

theorem seven_new (w : World) (t : TypeId) (y : EfD) : ∀ j u, y.cells[j]? = some u → (w.alloc (.cells y.cells.toArray t)).cell? ((⟨w.heap.size, 0, none⟩ : Addr).add j) = some u := by
  intro j u hu
  rw [Addr.add_lit, Nat.zero_add, cell_of_heap (alloc_heap w _)]
  simpa using hu

set_option maxHeartbeats 8000000 in
theorem rnote_any (bR : Nat) (a : At3) (wp v : Value) (n : Nat) (xs : List Value) (y : EfD) (w : World) (hT : w.heap[bR]? = some (.cells #[.int .u32 a.fl, .int .u8 a.mn, .int .u8 a.tm, wp, v] 78 (0, 0)))
    (hr : HasRow w 49 7 v n xs) (hv : v.ownBlock ≠ some bR) (hn : n ≤ 1000000) :
    Calls Try.prog 46 #[.pointer (some ⟨bR, 0, none⟩), .agg y.cells.toArray] w (RNotePost bR a wp v n xs y w) := by
  obtain ⟨i0, hi, hz0, hz1, hz2⟩ := info_parts infoEff
  have hl : xs.length = n * 7 := hr.1
  obtain ⟨ao, c, rfl, _, _, _⟩ := hr.slice
  obtain ⟨kind, ⟨fl, mn, tm⟩, ya, ycap, zs, yn, ok⟩ := y
  have CB : Chg [] w (w.alloc (.cells #[.int .i64 kind, .int .u32 fl, .int .u8 mn, .int .u8 tm, .slice ya zs.length ycap, .int .i64 yn, .bool ok] 49)) := (Chg.refl _ _).alloc _
  have hB := alloc_heap w (.cells #[.int .i64 kind, .int .u32 fl, .int .u8 mn, .int .u8 tm, .slice ya zs.length ycap, .int .i64 yn, .bool ok] 49)
  have HH := Lib.hid (And.intro hT (And.intro hr hv))
  have HCB := Lib.hid CB
  have hy : EfD.cells ⟨kind, ⟨fl, mn, tm⟩, ya, ycap, zs, yn, ok⟩ = [.int .i64 kind, .int .u32 fl, .int .u8 mn, .int .u8 tm, .slice ya zs.length ycap, .int .i64 yn, .bool ok] := rfl
  have HY := Lib.hid hy
  rw [hy]
  clear hT hr hv CB hy
  go_enter Try.func46, Try.ntmps46
  go_upto_region 1 with (fail)
  generalize w.alloc _ = w1 at *
  generalize w.heap.size = b1 at *
  have hT1 := HCB.out.heap HH.out.1 (by simp)
  have hR1 := HH.out.2.1.chg HCB.out (by simp)
  have x4 : w1.cell? ⟨bR, 4, none⟩ = some (.slice ao n c) := by rw [cell_of_heap hT1]; rfl
  have z0 : w1.cell? ⟨b1, 0, none⟩ = some (.int .i64 kind) := by rw [cell_of_heap hB]; rfl
  have z1 : w1.cell? ⟨b1, 1, none⟩ = some (.int .u32 fl) := by rw [cell_of_heap hB]; rfl
  have z2 : w1.cell? ⟨b1, 2, none⟩ = some (.int .u8 mn) := by rw [cell_of_heap hB]; rfl
  have z3 : w1.cell? ⟨b1, 3, none⟩ = some (.int .u8 tm) := by rw [cell_of_heap hB]; rfl
  have z4 : w1.cell? ⟨b1, 4, none⟩ = some (.slice ya zs.length ycap) := by rw [cell_of_heap hB]; rfl
  have z5 : w1.cell? ⟨b1, 5, none⟩ = some (.int .i64 yn) := by rw [cell_of_heap hB]; rfl
  have z6 : w1.cell? ⟨b1, 6, none⟩ = some (.bool ok) := by rw [cell_of_heap hB]; rfl
  have k8 : Chg [] w1 (w1.alloc (.cells #[.int .i64 kind, .int .u32 fl, .int .u8 mn, .int .u8 tm, .slice ya zs.length ycap, .int .i64 yn, .bool ok] 49)) := (Chg.refl _ _).alloc _
  have y4 := k8.cell x4 (by simp)
  have HROW := Lib.hid (show ∀ W, Chg [] w1 W → HasRow W 49 7 (.slice ao n c) n xs from fun W c => hR1.chg c (by simp))
  have HWB := Lib.hid (show ∀ W W', Chg [] w1 W → Chg (Value.slice ao n c).ownBlock.toList W W' → W'.cell? ⟨bR, 4, none⟩ = some (.slice ao n c) ∧ W'.frozen? ⟨bR, 4, none⟩ = false from fun W W' c c' => by
    have h1 := c'.heap (c.heap hT1 (by simp)) (fun hm => HH.out.2.2 (by simpa [Option.mem_toList] using hm))
    exact ⟨by rw [cell_of_heap h1]; rfl, free_of_heap h1 4⟩)
  have HT1 := Lib.hid hT1
  clear k8 hB hT1 hR1
  go_region_law
    (refine step_append_off rfl _ _ 46 (by rfl) 49 i0 (.agg #[.int .i64 0, .int .u32 0, .int .u8 0, .int .u8 0, .slice none 0 0, .int .i64 0, .bool false]) 7 56 Try.underlying46 hi hz0 hz1 hz2 rfl (by decide) (Value.slice ao n c) n xs (by rfl) (HROW.out _ (by first | exact ((Chg.refl _ _).drew).alloc _ | exact (Chg.refl _ _).alloc _)) ⟨w1.heap.size, 0, none⟩ 1 1 (EfD.cells ⟨kind, ⟨fl, mn, tm⟩, ya, ycap, zs, yn, ok⟩) (by rfl) rfl (seven_new _ _ _) (ef_one _) (by unfold maxLen; omega) (by omega) ?_; intro v10 w10 R10 C10 B10; obtain ⟨g10, off10, cap10, rfl, _, _⟩ := R10.cells (by omega); obtain ⟨r0, r1⟩ := HWB.out _ _ (by first | exact ((Chg.refl _ _).drew).alloc _ | exact (Chg.refl _ _).alloc _) C10; have HC10 := Lib.hid (And.intro R10 (And.intro C10 B10)); clear R10 C10 B10)
  all_goals (
    go_wp2_with fail
    go_end0
    exact rnote_end HH.out.1 HH.out.2.2 (HCB.out.trans (by first | exact ((Chg.refl [] w1).drew).alloc _ | exact (Chg.refl [] w1).alloc _) (U := []) (by simp) (by simp)) HC10.out.1 HC10.out.2.1 HC10.out.2.2)
end Go.Proofs.Ytmcbgpjphjacjaa
