import Derived.Test.YtafmnkngjjnpiaaGreatDoorApp
import Derived.Test.YtafmnkngjjnpiaaGreatDoorAreD
import Derived.Test.YtafmnkngjjnpiaaGreatDoorQueA
import Derived.Maps.OwnSet
import Derived.Maps.Views
import Derived.StringKeys
namespace Go.Proofs.YtafmnkngjjnpiaaGreatDoor.Ar
set_option maxRecDepth 100000
set_option linter.unusedVariables false
open Go.RowKit Go.WideShapes
structure Ent where
  name : ByteArray
  bA : Nat
  bC : Nat
  N : Nat
  l : List Int
def encP (o : Option Nat) : DataW Unit := .lit (.int .i64 (match o with | none => 0 | some b => (b : Int) + 1))
def ptrV (o : Option Nat) : Value := .pointer (o.map fun b => ⟨b, 0, none⟩)
def ptrElem : Value → Option (DataW Unit × List MemPlace)
  | .pointer none => some (encP none, [])
  | .pointer (some ⟨b, 0, none⟩) => some (encP (some b), [])
  | _ => none
theorem encP_inj {a b : Option Nat} (h : encP a = encP b) : a = b := by
  unfold encP at h
  injection h with h1
  injection h1 with h2 h3
  cases a <;> cases b <;> simp at h3 ⊢ <;> omega
theorem ptrElem_mk (o : Option Nat) : ptrElem (ptrV o) = some (encP o, []) := by cases o <;> rfl
theorem ptrElem_inv {v : Value} {o : Option Nat} {ps : List MemPlace} (h : ptrElem v = some (encP o, ps)) : v = ptrV o := by
  unfold ptrElem at h
  split at h
  · injection h with h; injection h with h1 _; rw [← encP_inj h1]; rfl
  · injection h with h; injection h with h1 _; rw [← encP_inj h1]; rfl
  · cases h
def MapIs (w : World) (b n : Nat) (f : ByteArray → Option Nat) : Prop :=
  ∃ D : DataW Unit, w.ownsMap Tryz.prog 9 ptrElem b n D ∧ Maps.IsMap D ∧ ∀ s : ByteArray, D.atKey (.string s.data.toList) (encP none) = encP (f s) ∧ Maps.has D (.string s.data.toList) = (f s).isSome
theorem keyS : Maps.Keyed Tryz.prog 9 := Maps.string_keyed Tryz.underlying9
theorem zeroPtr (w : World) : (zeroValue 23).run Tryz.prog w = .ok (ptrV none) w := by kernel_rfl
theorem MapIs.look {w : World} {b n : Nat} {f : ByteArray → Option Nat} (h : MapIs w b n f) (s : ByteArray) (hs : s.size ≤ maxLen) :
    (Instr.lookup 172 (.map (some b)) (.string s) false).run Tryz.prog w = .ok (ptrV (f s)) w := by
  obtain ⟨D, ho, hm, hf⟩ := h
  obtain ⟨v, ps, hrun, hv⟩ := ho.lookup keyS Tryz.underlying172 (zeroPtr w) (ptrElem_mk none) (WideMaps.keyOf_string_mk Tryz.underlying9 hs)
  rw [(hf s).1] at hv
  rw [hrun, ptrElem_inv hv]
theorem MapIs.of_heap {w w' : World} {b n : Nat} {f : ByteArray → Option Nat} (h : MapIs w b n f) (he : w'.heap[b]? = w.heap[b]?) : MapIs w' b n f := by
  obtain ⟨D, ⟨es, c, h1, h2, h3, h4⟩, hm, hf⟩ := h
  exact ⟨D, ⟨es, c, by rw [he]; exact h1, h2, h3, h4⟩, hm, hf⟩
theorem MapIs.lt {w : World} {b n : Nat} {f : ByteArray → Option Nat} (h : MapIs w b n f) : b < w.heap.size := by
  obtain ⟨D, ho, _⟩ := h
  exact ho.lt
theorem MapIs.chg {w w' : World} {b n : Nat} {f : ByteArray → Option Nat} {S : List Nat} (h : MapIs w b n f) (c : Chg S w w') (hb : b ∉ S) : MapIs w' b n f := h.of_heap (c.block b h.lt hb)
theorem lit_inj {s t : ByteArray} (h : Lit.string s.data.toList = Lit.string t.data.toList) : s = t := by
  injection h with h
  have := Array.toList_inj.1 h
  cases s; cases t; simp_all
theorem MapIs.put {w : World} {b n : Nat} {f : ByteArray → Option Nat} (h : MapIs w b n f) (hn : n < maxLen) (s : ByteArray) (hs : s.size ≤ maxLen) (p : Nat) :
    ∃ w', (Instr.mapUpdate 172 (.map (some b)) (.string s) (ptrV (some p))).run Tryz.prog w = .ok () w' ∧ MapIs w' b (n + 1) (fun t => if t = s then some p else f t) ∧ Chg [b] w w' := by
  obtain ⟨D, ho, hm, hf⟩ := h
  obtain ⟨w', hrun, ho', hg⟩ := ho.update keyS Tryz.underlying172 hn (WideMaps.keyOf_string_mk Tryz.underlying9 hs) (ptrElem_mk (some p))
  refine ⟨w', hrun, ⟨_, ho', hm.put _ _, fun t => ?_⟩, ⟨hg.os, hg.tape, hg.output, hg.size, fun k hk hS => hg.block k hk (fun e => hS (by injection e with e; rw [e]; simp))⟩⟩
  by_cases ht : t = s
  · subst ht
    dsimp only
    rw [if_pos rfl]
    have hk : WideAt.IsKeyLit (.string t.data.toList) := by simp [WideAt.IsKeyLit]
    exact ⟨Maps.atKey_put_same hm hk _ _, Maps.has_put_same hm hk _⟩
  · dsimp only
    rw [if_neg ht, Maps.atKey_put_other (fun e => ht (lit_inj e)), Maps.has_put_other (fun e => ht (lit_inj e))]
    exact hf t
def findP (A : List Ent) (s : ByteArray) : Option Nat := (A.find? (fun x => decide (x.name = s))).map (·.bA)
def blks (bR bM : Nat) (nv : Value) (A : List Ent) : List Nat := bR :: bM :: (nv.ownBlock.toList ++ A.flatMap (fun x => [x.bA, x.bC]))
structure RegIs (w : World) (bR bM : Nat) (nv : Value) (A : List Ent) : Prop where
  hR : w.heap[bR]? = some (.cells #[nv, .map (some bM)] 174 (0, 0))
  row : w.ownsRow 0 9 1 nv A.length (A.map fun x => .string x.name)
  map : MapIs w bM A.length (findP A)
  ar : ∀ x ∈ A, ArenaIs w x.bA x.bC x.N x.l
  nm : ∀ x ∈ A, x.name.size ≤ maxLen
  self : ∀ x ∈ A, findP A x.name = some x.bA
  most : A.length ≤ 16
  nodup : (blks bR bM nv A).Nodup
theorem mem_blks_ar {bR bM : Nat} {nv : Value} {A : List Ent} {x : Ent} (hx : x ∈ A) : x.bA ∈ blks bR bM nv A ∧ x.bC ∈ blks bR bM nv A := by
  unfold blks
  constructor <;> refine List.mem_cons_of_mem _ (List.mem_cons_of_mem _ (List.mem_append.2 (.inr (List.mem_flatMap.2 ⟨x, hx, ?_⟩)))) <;> simp
theorem mem_blks_row {bR bM : Nat} {nv : Value} {A : List Ent} {k : Nat} (h : nv.ownBlock = some k) : k ∈ blks bR bM nv A := by
  unfold blks
  exact List.mem_cons_of_mem _ (List.mem_cons_of_mem _ (List.mem_append.2 (.inl (by simpa [Option.mem_toList] using h))))
theorem owns_chg' {w w' : World} {base : Nat} {e : TypeId} {size : Nat} {v : Value} {n : Nat} {xs : List Value} {S : List Nat} (h : w.ownsRow base e size v n xs) (c : Chg S w w') (hS : ∀ k, v.ownBlock = some k → k ∉ S) : w'.ownsRow base e size v n xs := by
  refine ⟨h.1, h.2.imp id ?_⟩
  rintro ⟨g, cap, cur, rfl, h1, h2, h3⟩
  exact ⟨g, cap, cur, rfl, h1, c.heap h2 (hS g rfl), h3⟩
theorem RegIs.chg {w w' : World} {bR bM : Nat} {nv : Value} {A : List Ent} {S : List Nat} (h : RegIs w bR bM nv A) (c : Chg S w w') (hS : ∀ x ∈ blks bR bM nv A, x ∉ S) : RegIs w' bR bM nv A :=
  ⟨c.heap h.hR (hS _ (by simp [blks])), owns_chg' h.row c (fun k hk => hS k (mem_blks_row hk)), h.map.chg c (hS _ (by simp [blks])), fun x hx => (h.ar x hx).chg c (hS _ (mem_blks_ar hx).1) (hS _ (mem_blks_ar hx).2), h.nm, h.self, h.most, h.nodup⟩
theorem RegIs.lt {w : World} {bR bM : Nat} {nv : Value} {A : List Ent} (h : RegIs w bR bM nv A) : ∀ x ∈ blks bR bM nv A, x < w.heap.size := by
  intro x hx
  unfold blks at hx
  rcases List.mem_cons.1 hx with rfl | hx
  · exact heap_lt h.hR
  rcases List.mem_cons.1 hx with rfl | hx
  · exact h.map.lt
  rcases List.mem_append.1 hx with hx | hx
  · exact (h.row.lt x (by simpa [Option.mem_toList] using hx)).2
  · obtain ⟨y, hy, hx⟩ := List.mem_flatMap.1 hx
    have := h.ar y hy
    rcases List.mem_cons.1 hx with rfl | hx
    · exact heap_lt this.hA
    · rw [List.mem_singleton.1 hx]; exact heap_lt this.hC
structure OwnR (w0 w : World) (bR bM : Nat) (nv : Value) (A : List Ent) : Prop where
  r : RegIs w bR bM nv A
  c : Chg [] w0 w
  b : ∀ x ∈ blks bR bM nv A, w0.heap.size ≤ x
theorem OwnR.chg {w0 w w' : World} {bR bM : Nat} {nv : Value} {A : List Ent} {S : List Nat} (h : OwnR w0 w bR bM nv A) (c : Chg S w w') (h1 : ∀ x ∈ S, w0.heap.size ≤ x) (hS : ∀ x ∈ blks bR bM nv A, x ∉ S) : OwnR w0 w' bR bM nv A :=
  ⟨h.r.chg c hS, h.c.trans c (fun x hx => hx) (fun x hx hl => by have := h1 x hx; omega), h.b⟩
theorem RegIs.cell0 {w : World} {bR bM : Nat} {nv : Value} {A : List Ent} (h : RegIs w bR bM nv A) : w.cell? ⟨bR, 0, none⟩ = some nv := by rw [cell_of_heap h.hR]; rfl
theorem RegIs.cell1 {w : World} {bR bM : Nat} {nv : Value} {A : List Ent} (h : RegIs w bR bM nv A) : w.cell? ⟨bR, 1, none⟩ = some (.map (some bM)) := by rw [cell_of_heap h.hR]; rfl
set_option maxHeartbeats 1000000 in
theorem rNew_any (w0 w : World) (c : Chg [] w0 w) :
    Calls Tryz.prog 86 #[] w fun e w' => e = .returned (.pointer (some ⟨w.heap.size + 1, 0, none⟩)) ∧ OwnR w0 w' (w.heap.size + 1) w.heap.size (.slice none 0 0) [] := by
  have hmm := @run_makeMap Tryz.prog
  have hsz := c.size
  go_enter Tryz.func86, Tryz.ntmps86
  go_wp2_with fail
  go_ret
  refine ⟨rfl, ⟨alloc2_heap w _ _, World.ownsRow_nil _ _ _ _, ?_, by simp, by simp, by simp, by simp, ?_⟩, ?_, ?_⟩
  · refine MapIs.of_heap (w := w.alloc (.map #[] 0)) ⟨.map [], World.ownsMap_made w _ _ _, Maps.isMap_empty, fun s => ⟨rfl, rfl⟩⟩ ?_
    exact alloc_heap_lt (by simp)
  · simp [blks, Value.ownBlock]
  · exact (c.alloc _).alloc _
  · intro x hx
    simp [blks, Value.ownBlock] at hx
    omega
end Go.Proofs.YtafmnkngjjnpiaaGreatDoor.Ar

namespace Go.Proofs.YtafmnkngjjnpiaaGreatDoor.Ar
set_option maxRecDepth 100000
set_option linter.unusedVariables false
open Go.RowKit Go.WideShapes
theorem infoS : (Tryz.prog.info? 9).map (fun i => (i.zero, i.size, i.bytes)) = some (some (.string ⟨#[]⟩), 1, 16) := by kernel_rfl
def namesV (A : List Ent) : List Value := A.map fun x => .string x.name
end Go.Proofs.YtafmnkngjjnpiaaGreatDoor.Ar
