import Derived.Test.YtafmnkngjjnpiaaGreatDoorTpV
import Derived.MapKept
namespace Go.Proofs.YtafmnkngjjnpiaaGreatDoor
set_option linter.unusedVariables false
set_option linter.unusedSimpArgs false
set_option maxRecDepth 100000
open Go.RowKit Go.MapKept
theorem findNow_snoc {d : TypeDesc} {k : Value} (hk : IsKey d k) {e : MapEntry} (he : IsKey d e.key) : ∀ (l : List MapEntry) (i : Nat), (∀ x ∈ l, IsKey d x.key) →
    ((Instr.findNow d k l i = some none ∧ e.key = k) → ∃ j, Instr.findNow d k (l ++ [e]) i = some (some (j, e.val))) ∧
    ((Instr.findNow d k l i = some none ∧ e.key ≠ k) → Instr.findNow d k (l ++ [e]) i = some none) ∧
    (∀ r, Instr.findNow d k l i = some (some r) → Instr.findNow d k (l ++ [e]) i = some (some r))
  | [], i, _ => by
    obtain ⟨r, hr, hiff⟩ := sameNow_of_keys hk he
    refine ⟨fun h => ⟨i, ?_⟩, fun h => ?_, fun r h => by simp [Instr.findNow] at h⟩
    · have : r = true := hiff.2 h.2.symm
      subst this
      simp [Instr.findNow, hr]
    · have : r = false := by
        cases r with
        | true => exact absurd (hiff.1 rfl).symm h.2
        | false => rfl
      subst this
      simp [Instr.findNow, hr]
  | x :: l, i, h => by
    obtain ⟨r, hr, hiff⟩ := sameNow_of_keys hk (h x (.head _))
    obtain ⟨i1, i2, i3⟩ := findNow_snoc hk he l (i + 1) (fun y hy => h y (.tail _ hy))
    cases r with
    | true => simp [Instr.findNow, hr]
    | false =>
      simp only [List.cons_append, Instr.findNow, hr]
      exact ⟨i1, i2, i3⟩
structure MapV {α : Type} (κ : α → Value) (d : TypeDesc) (es : Array MapEntry) (f : α → Option Value) : Prop where
  key : ∀ x ∈ es.toList, IsKey d x.key
  found : ∀ a, ∃ r, Instr.findNow d (κ a) es.toList 0 = some r ∧ r.map (·.2) = f a
theorem MapV.nil {α : Type} (κ : α → Value) (d : TypeDesc) : MapV κ d #[] (fun _ => none) := ⟨by simp, fun a => ⟨none, rfl, rfl⟩⟩
theorem MapV.push {α : Type} [DecidableEq α] {κ : α → Value} {d : TypeDesc} {es : Array MapEntry} {f : α → Option Value} (h : MapV κ d es f) (hκ : ∀ a, IsKey d (κ a)) (hi : ∀ a b, κ a = κ b → a = b) (a0 : α) (h0 : f a0 = none) (v : Value) (c : Nat) :
    MapV κ d (es.push ⟨κ a0, v, c⟩) (fun a => if a = a0 then some v else f a) := by
  refine ⟨fun x hx => ?_, fun a => ?_⟩
  · rw [Array.toList_push] at hx
    rcases List.mem_append.1 hx with hx | hx
    · exact h.key x hx
    · rw [List.mem_singleton.1 hx]; exact hκ a0
  · rw [Array.toList_push]
    obtain ⟨r, hr, hf⟩ := h.found a
    obtain ⟨i1, i2, i3⟩ := findNow_snoc (k := κ a) (e := ⟨κ a0, v, c⟩) (hκ a) (hκ a0) es.toList 0 h.key
    cases r with
    | none =>
      by_cases ha : a = a0
      · obtain ⟨j, hj⟩ := i1 ⟨hr, by rw [ha]⟩
        exact ⟨_, hj, by simp [ha]⟩
      · refine ⟨none, i2 ⟨hr, fun e => ha (hi _ _ e).symm⟩, ?_⟩
        rw [if_neg ha, ← hf]
    | some q =>
      refine ⟨some q, i3 q hr, ?_⟩
      rw [if_neg (fun e => by rw [e, h0] at hf; cases hf), ← hf]
theorem MapV.put {α : Type} [DecidableEq α] {κ : α → Value} {d : TypeDesc} {mt kt et : TypeId} {es : Array MapEntry} {f : α → Option Value} {w : World} {b c : Nat} (hm : Tryz.prog.underlying mt = some (.map kt et)) (hd : Tryz.prog.underlying kt = some d)
    (h : MapV κ d es f) (hκ : ∀ a, IsKey d (κ a)) (hi : ∀ a b, κ a = κ b → a = b) (hb : w.heap[b]? = some (.map es c)) (a0 : α) (h0 : f a0 = none) (v : Value) :
    ∃ w' es', (Instr.mapUpdate mt (.map (some b)) (κ a0) v).run Tryz.prog w = .ok () w' ∧ w'.heap[b]? = some (.map es' (c + 1)) ∧ MapV κ d es' (fun a => if a = a0 then some v else f a) ∧ Chg [b] w w' ∧ w'.heap.size = w.heap.size := by
  obtain ⟨r, hr, hf⟩ := h.found a0
  have hn : Instr.findNow d (κ a0) es.toList 0 = some none := by
    cases r with
    | none => exact hr
    | some q => rw [h0] at hf; cases hf
  refine ⟨{ w with heap := w.heap.setIfInBounds b (.map (es.push ⟨κ a0, v, c⟩) (c + 1)) }, es.push ⟨κ a0, v, c⟩, ?_, (MapKept.heap_set hb).1, h.push hκ hi a0 h0 v c, ⟨rfl, rfl, rfl, by simp, fun j hj hS => (MapKept.heap_set hb).2 j (by simpa using hS)⟩, by simp⟩
  simp [Instr.mapUpdate, run_underlying hm, MapKept.run_getObj_map hb, MapKept.run_checkKey hd (hκ a0), MapKept.run_findKey hd hn, MapKept.run_setObj_map _ hb, Result.andThen]
theorem MapV.look {α : Type} {κ : α → Value} {d : TypeDesc} {mt kt et : TypeId} {es : Array MapEntry} {f : α → Option Value} {w : World} {b c : Nat} {z : Value} (hm : Tryz.prog.underlying mt = some (.map kt et)) (hd : Tryz.prog.underlying kt = some d)
    (h : MapV κ d es f) (hκ : ∀ a, IsKey d (κ a)) (hb : w.heap[b]? = some (.map es c)) (hz : (zeroValue et).run Tryz.prog w = .ok z w) (a : α) :
    (Instr.lookup mt (.map (some b)) (κ a) true).run Tryz.prog w = .ok (.tuple #[(f a).getD z, .bool (f a).isSome]) w := by
  obtain ⟨r, hr, hf⟩ := h.found a
  cases r with
  | none =>
    rw [← hf]
    simp [Instr.lookup, run_underlying hm, MapKept.run_getObj_map hb, MapKept.run_checkKey hd (hκ a), MapKept.run_findKey hd hr, hz, Result.andThen]
  | some q =>
    rw [← hf]
    simp [Instr.lookup, run_underlying hm, MapKept.run_getObj_map hb, MapKept.run_checkKey hd (hκ a), MapKept.run_findKey hd hr, Result.andThen]
theorem keyI (a : Int) : IsKey (.int .i64) (.int .i64 a) := rfl
theorem keyI_inj (a b : Int) (h : Value.int .i64 a = Value.int .i64 b) : a = b := by injection h
theorem keySt (a : ByteArray) : IsKey .string (.string a) := trivial
theorem keySt_inj (a b : ByteArray) (h : Value.string a = Value.string b) : a = b := by injection h
/-! ### the table of sequences -/
def knownB (s : ByteArray) : Option Value :=
  (if s = (⟨#[27, 91, 50, 48, 49, 126]⟩ : ByteArray) then some (Value.int .i64 14) else (if s = (⟨#[27, 91, 50, 48, 48, 126]⟩ : ByteArray) then some (Value.int .i64 13) else (if s = (⟨#[27, 91, 51, 126]⟩ : ByteArray) then some (Value.int .i64 3) else (if s = (⟨#[27, 91, 56, 126]⟩ : ByteArray) then some (Value.int .i64 7) else (if s = (⟨#[27, 91, 52, 126]⟩ : ByteArray) then some (Value.int .i64 7) else (if s = (⟨#[27, 79, 70]⟩ : ByteArray) then some (Value.int .i64 7) else (if s = (⟨#[27, 91, 70]⟩ : ByteArray) then some (Value.int .i64 7) else (if s = (⟨#[27, 91, 55, 126]⟩ : ByteArray) then some (Value.int .i64 6) else (if s = (⟨#[27, 91, 49, 126]⟩ : ByteArray) then some (Value.int .i64 6) else (if s = (⟨#[27, 79, 72]⟩ : ByteArray) then some (Value.int .i64 6) else (if s = (⟨#[27, 91, 72]⟩ : ByteArray) then some (Value.int .i64 6) else (if s = (⟨#[27, 79, 68]⟩ : ByteArray) then some (Value.int .i64 4) else (if s = (⟨#[27, 91, 68]⟩ : ByteArray) then some (Value.int .i64 4) else (if s = (⟨#[27, 79, 67]⟩ : ByteArray) then some (Value.int .i64 5) else (if s = (⟨#[27, 91, 67]⟩ : ByteArray) then some (Value.int .i64 5) else none)))))))))))))))
def KnownPost (w : World) (e : Ending) (w' : World) : Prop := ∃ b es, e = .returned (.map (some b)) ∧ Chg [] w w' ∧ w'.heap[b]? = some (.map es 15) ∧ MapV Value.string .string es knownB ∧ w.heap.size ≤ b
set_option maxHeartbeats 8000000 in
theorem known_any (w : World) : Calls Tryz.prog 94 #[] w (KnownPost w) := by
  have hmm := @run_makeMap Tryz.prog
  have h0 : (w.alloc (.map #[] 0)).heap[w.heap.size]? = some (.map #[] 0) := alloc_heap w _
  have m0 : MapV Value.string .string #[] (fun _ => none) := MapV.nil _ _
  obtain ⟨w1, es1, r1, h1, m1, c1, _⟩ := MapV.put (mt := 158) Tryz.underlying158 Tryz.underlying9 m0 keySt keySt_inj h0 (⟨#[27, 91, 67]⟩ : ByteArray) (by decide) (.int .i64 5)
  obtain ⟨w2, es2, r2, h2, m2, c2, _⟩ := MapV.put (mt := 158) Tryz.underlying158 Tryz.underlying9 m1 keySt keySt_inj h1 (⟨#[27, 79, 67]⟩ : ByteArray) (by decide) (.int .i64 5)
  obtain ⟨w3, es3, r3, h3, m3, c3, _⟩ := MapV.put (mt := 158) Tryz.underlying158 Tryz.underlying9 m2 keySt keySt_inj h2 (⟨#[27, 91, 68]⟩ : ByteArray) (by decide) (.int .i64 4)
  obtain ⟨w4, es4, r4, h4, m4, c4, _⟩ := MapV.put (mt := 158) Tryz.underlying158 Tryz.underlying9 m3 keySt keySt_inj h3 (⟨#[27, 79, 68]⟩ : ByteArray) (by decide) (.int .i64 4)
  obtain ⟨w5, es5, r5, h5, m5, c5, _⟩ := MapV.put (mt := 158) Tryz.underlying158 Tryz.underlying9 m4 keySt keySt_inj h4 (⟨#[27, 91, 72]⟩ : ByteArray) (by decide) (.int .i64 6)
  obtain ⟨w6, es6, r6, h6, m6, c6, _⟩ := MapV.put (mt := 158) Tryz.underlying158 Tryz.underlying9 m5 keySt keySt_inj h5 (⟨#[27, 79, 72]⟩ : ByteArray) (by decide) (.int .i64 6)
  obtain ⟨w7, es7, r7, h7, m7, c7, _⟩ := MapV.put (mt := 158) Tryz.underlying158 Tryz.underlying9 m6 keySt keySt_inj h6 (⟨#[27, 91, 49, 126]⟩ : ByteArray) (by decide) (.int .i64 6)
  obtain ⟨w8, es8, r8, h8, m8, c8, _⟩ := MapV.put (mt := 158) Tryz.underlying158 Tryz.underlying9 m7 keySt keySt_inj h7 (⟨#[27, 91, 55, 126]⟩ : ByteArray) (by decide) (.int .i64 6)
  obtain ⟨w9, es9, r9, h9, m9, c9, _⟩ := MapV.put (mt := 158) Tryz.underlying158 Tryz.underlying9 m8 keySt keySt_inj h8 (⟨#[27, 91, 70]⟩ : ByteArray) (by decide) (.int .i64 7)
  obtain ⟨w10, es10, r10, h10, m10, c10, _⟩ := MapV.put (mt := 158) Tryz.underlying158 Tryz.underlying9 m9 keySt keySt_inj h9 (⟨#[27, 79, 70]⟩ : ByteArray) (by decide) (.int .i64 7)
  obtain ⟨w11, es11, r11, h11, m11, c11, _⟩ := MapV.put (mt := 158) Tryz.underlying158 Tryz.underlying9 m10 keySt keySt_inj h10 (⟨#[27, 91, 52, 126]⟩ : ByteArray) (by decide) (.int .i64 7)
  obtain ⟨w12, es12, r12, h12, m12, c12, _⟩ := MapV.put (mt := 158) Tryz.underlying158 Tryz.underlying9 m11 keySt keySt_inj h11 (⟨#[27, 91, 56, 126]⟩ : ByteArray) (by decide) (.int .i64 7)
  obtain ⟨w13, es13, r13, h13, m13, c13, _⟩ := MapV.put (mt := 158) Tryz.underlying158 Tryz.underlying9 m12 keySt keySt_inj h12 (⟨#[27, 91, 51, 126]⟩ : ByteArray) (by decide) (.int .i64 3)
  obtain ⟨w14, es14, r14, h14, m14, c14, _⟩ := MapV.put (mt := 158) Tryz.underlying158 Tryz.underlying9 m13 keySt keySt_inj h13 (⟨#[27, 91, 50, 48, 48, 126]⟩ : ByteArray) (by decide) (.int .i64 13)
  obtain ⟨w15, es15, r15, h15, m15, c15, _⟩ := MapV.put (mt := 158) Tryz.underlying158 Tryz.underlying9 m14 keySt keySt_inj h14 (⟨#[27, 91, 50, 48, 49, 126]⟩ : ByteArray) (by decide) (.int .i64 14)
  have HE : Hid (KnownPost w (.returned (.map (some w.heap.size))) w15) := Lib.hid ⟨_, _, rfl, (((((((((((((((((Chg.refl [] w).alloc _).trans c1 (U := []) (by simp) (fun y hy hl => by have := List.mem_singleton.1 hy; omega)).trans c2 (U := []) (by simp) (fun y hy hl => by have := List.mem_singleton.1 hy; omega)).trans c3 (U := []) (by simp) (fun y hy hl => by have := List.mem_singleton.1 hy; omega)).trans c4 (U := []) (by simp) (fun y hy hl => by have := List.mem_singleton.1 hy; omega)).trans c5 (U := []) (by simp) (fun y hy hl => by have := List.mem_singleton.1 hy; omega)).trans c6 (U := []) (by simp) (fun y hy hl => by have := List.mem_singleton.1 hy; omega)).trans c7 (U := []) (by simp) (fun y hy hl => by have := List.mem_singleton.1 hy; omega)).trans c8 (U := []) (by simp) (fun y hy hl => by have := List.mem_singleton.1 hy; omega)).trans c9 (U := []) (by simp) (fun y hy hl => by have := List.mem_singleton.1 hy; omega)).trans c10 (U := []) (by simp) (fun y hy hl => by have := List.mem_singleton.1 hy; omega)).trans c11 (U := []) (by simp) (fun y hy hl => by have := List.mem_singleton.1 hy; omega)).trans c12 (U := []) (by simp) (fun y hy hl => by have := List.mem_singleton.1 hy; omega)).trans c13 (U := []) (by simp) (fun y hy hl => by have := List.mem_singleton.1 hy; omega)).trans c14 (U := []) (by simp) (fun y hy hl => by have := List.mem_singleton.1 hy; omega)).trans c15 (U := []) (by simp) (fun y hy hl => by have := List.mem_singleton.1 hy; omega)), h15, m15, Nat.le_refl _⟩
  clear h0 m0 h1 m1 h2 m2 h3 m3 h4 m4 h5 m5 h6 m6 h7 m7 h8 m8 h9 m9 h10 m10 h11 m11 h12 m12 h13 m13 h14 m14 h15 m15 c1 c2 c3 c4 c5 c6 c7 c8 c9 c10 c11 c12 c13 c14 c15
  go_enter Tryz.func94, Tryz.ntmps94
  go_wp2_with fail
  go_ret
  exact HE.out
end Go.Proofs.YtafmnkngjjnpiaaGreatDoor
