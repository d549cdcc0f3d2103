/-
  Layer 16: a world of the call's own; its contracts told of it; the order of a plan's items.
-/
import Derived.Test.YtmcbgpjphjacjaaWldC
import Derived.Test.YtmcbgpjphjacjaaWldD
namespace Go.Proofs.Ytmcbgpjphjacjaa
set_option linter.unusedVariables false
set_option maxRecDepth 100000
open Go.RowKit

/-- Where a world lies. -/
structure Wm where
  f : Nat → Nat
  bW : Nat
  bQ : Nat
  v : Value
  iv : Value
  wv : Value
  gv : Value
  sv : Value
  ivs : List Value
  p : Nat

/-- A world that was made since w0; nothing that was there then has turned. -/
structure OwnWd (w0 w : World) (μ : Wm) (Z : List Zt) (c : Wc) : Prop where
  is : WldIs w μ.f μ.bW μ.bQ μ.v μ.iv μ.wv μ.gv μ.sv μ.ivs Z μ.p c
  c0 : Chg [] w0 w
  lo : ∀ k, k < w0.heap.size → μ.f k = 0
  hi : ∀ k, w.heap.size ≤ k → μ.f k = 0

theorem ChgF.own {f : Nat → Nat} {w0 w w' : World} (c0 : Chg [] w0 w) (lo : ∀ k, k < w0.heap.size → f k = 0) (k : ChgF f w w') : Chg [] w0 w' := by
  obtain ⟨S, k1, k2⟩ := k
  exact c0.trans k1 (by simp) (fun x hx hl => absurd (lo x hl) (k2 x hx))

theorem OwnWd.step {w0 w w' : World} {μ : Wm} {Z Z' : List Zt} {c c' : Wc} {v' : Value} (h : OwnWd w0 w μ Z c) (k : ChgF μ.f w w') (i : WldIs w' μ.f μ.bW μ.bQ v' μ.iv μ.wv μ.gv μ.sv μ.ivs Z' μ.p c') : OwnWd w0 w' { μ with v := v' } Z' c' :=
  ⟨i, k.own h.c0 h.lo, h.lo, fun j hj => h.hi j (Nat.le_trans k.size hj)⟩

theorem OwnWd.chg {w0 w w' : World} {μ : Wm} {Z : List Zt} {c : Wc} {S : List Nat} (h : OwnWd w0 w μ Z c) (k : Chg S w w') (hS : ∀ x ∈ S, μ.f x = 0 ∧ w0.heap.size ≤ x) : OwnWd w0 w' μ Z c :=
  ⟨h.is.chg k (fun x hx => (hS x hx).1), h.c0.trans k (by simp) (fun x hx hl => absurd (hS x hx).2 (by omega)), h.lo, fun j hj => h.hi j (Nat.le_trans k.size hj)⟩

theorem OwnWd.chg0 {w0 w w' : World} {μ : Wm} {Z : List Zt} {c : Wc} (h : OwnWd w0 w μ Z c) (k : Chg [] w w') : OwnWd w0 w' μ Z c := h.chg k (by simp)

/-- A world by a function that names its blocks alike. -/
theorem WldIs.ext {w : World} {f f' : Nat → Nat} {bW bQ : Nat} {v iv wv gv sv : Value} {ivs : List Value} {Z : List Zt} {p : Nat} {c : Wc} (h : WldIs w f bW bQ v iv wv gv sv ivs Z p c) (e : ∀ k, k < w.heap.size → f' k = f k) : WldIs w f' bW bQ v iv wv gv sv ivs Z p c := by
  refine ⟨h.hW, h.q, h.row, h.rw_, h.rg, h.rs, h.few, fun z hz => ?_, h.ap, by rw [e _ (heap_lt h.hW)]; exact h.f1, by rw [e _ h.q.lt]; exact h.f2, fun k hk => by rw [e _ (h.q.lt2 k hk)]; exact h.f3 k hk, fun k hk => by rw [e _ (h.row.lt k hk).2]; exact h.f4 k hk,
    fun k hk => by rw [e _ (h.rw_.lt k hk).2]; exact h.f5 k hk, fun k hk => by rw [e _ (h.rg.lt k hk).2]; exact h.f6 k hk, fun k hk => by rw [e _ (h.rs.lt k hk).2]; exact h.f7 k hk⟩
  have hz' := h.zs z hz
  refine ⟨hz'.wd, hz'.eb, hz'.ei, hz'.iv, hz'.kd.imp id (fun h => h.imp id (fun ⟨k1, k2, k3⟩ => ⟨k1, k2, ?_⟩))⟩
  have hg : z.g < w.heap.size := by obtain ⟨cur, r1, _⟩ := k3.row; exact heap_lt r1
  exact ⟨k3.val, k3.pb, k3.row, k3.pos, k3.le, k3.cm, k3.few, by rw [e _ (heap_lt k3.pb)]; exact k3.fp, by rw [e _ hg]; exact k3.fg⟩

/-! ### The contracts -/

theorem oWrite_any (w0 w : World) (μ : Wm) (Z : List Zt) (c : Wc) (n : Int) (h : OwnWd w0 w μ Z c) (hc : c.wrote ≤ 1000000) :
    Calls Try.prog 37 #[.pointer (some ⟨μ.bW, 0, none⟩), .int .i64 n] w fun e w' => e = .returned (.tuple #[.int .i64 (wrN c.ws c.wrote n), .bool (wrB c.ws c.wrote)]) ∧ ChgF μ.f w w' ∧ OwnWd w0 w' μ Z { c with wrote := c.wrote + 1 } :=
  (wWrite_any _ _ _ _ _ _ _ _ _ _ _ _ n w h.is hc).mono fun e w' ⟨he, k, i⟩ => by
    have kf : ChgF μ.f w w' := ChgF.of k (fun x hx => by rw [List.mem_singleton.1 hx, h.is.f1]; omega)
    exact ⟨he, kf, h.step kf i⟩

theorem oGet_any (w0 w : World) (μ : Wm) (Z : List Zt) (c : Wc) (h : OwnWd w0 w μ Z c) (hc : c.got ≤ 1000000) :
    Calls Try.prog 36 #[.pointer (some ⟨μ.bW, 0, none⟩)] w fun e w' => e = .returned (.bool (!decide ((c.got : Int) ∈ c.gs))) ∧ ChgF μ.f w w' ∧ OwnWd w0 w' μ Z { c with got := c.got + 1 } :=
  (wGet_any _ _ _ _ _ _ _ _ _ _ _ _ w h.is hc).mono fun e w' ⟨he, k, i⟩ => by
    have kf : ChgF μ.f w w' := ChgF.of k (fun x hx => by rw [List.mem_singleton.1 hx, h.is.f1]; omega)
    exact ⟨he, kf, h.step kf i⟩

theorem oSet_any (w0 w : World) (μ : Wm) (Z : List Zt) (c : Wc) (h : OwnWd w0 w μ Z c) (hc : c.set ≤ 1000000) :
    Calls Try.prog 34 #[.pointer (some ⟨μ.bW, 0, none⟩)] w fun e w' => e = .returned (.bool (!decide ((c.set : Int) ∈ c.ss))) ∧ ChgF μ.f w w' ∧ OwnWd w0 w' μ Z { c with set := c.set + 1 } :=
  (wSet_any _ _ _ _ _ _ _ _ _ _ _ _ w h.is hc).mono fun e w' ⟨he, k, i⟩ => by
    have kf : ChgF μ.f w w' := ChgF.of k (fun x hx => by rw [List.mem_singleton.1 hx, h.is.f1]; omega)
    exact ⟨he, kf, h.step kf i⟩

theorem oNext_bad (w0 w : World) (μ : Wm) (Z : List Zt) (c : Wc) (most : Int) (h : OwnWd w0 w μ Z c) (hm : most < 1) :
    Calls Try.prog 42 #[.pointer (some ⟨μ.bW, 0, none⟩), .int .i64 most] w fun e w' => e = .returned (.tuple #[.int .i64 0, .int .i64 0, .slice none 0 0, .int .i64 3]) ∧ w = w' :=
  wNext_bad _ _ _ _ _ _ _ _ _ _ _ _ most w h.is hm

theorem oNext_none (w0 w : World) (μ : Wm) (c : Wc) (most : Int) (h : OwnWd w0 w μ [] c) (hm : 1 ≤ most) :
    Calls Try.prog 42 #[.pointer (some ⟨μ.bW, 0, none⟩), .int .i64 most] w fun e w' => e = .returned (.tuple #[.int .i64 0, .int .i64 0, .slice none 0 0, .int .i64 6]) ∧ w = w' :=
  wNext_none _ _ _ _ _ _ _ _ _ _ _ most w h.is hm

def OxFar (w0 : World) (μ : Wm) (z : Zt) (Z : List Zt) (c : Wc) (w : World) (e : Ending) (w' : World) : Prop :=
  e = .returned (.tuple #[.int .i64 z.it.kind, .int .i64 z.it.n, .slice none 0 0, .int .i64 0]) ∧ ChgF μ.f w w' ∧ ∃ v', OwnWd w0 w' { μ with v := v' } Z c

theorem oNext_far (w0 w : World) (μ : Wm) (z : Zt) (Z : List Zt) (c : Wc) (most : Int) (h : OwnWd w0 w μ (z :: Z) c) (hm : 1 ≤ most) (hz : z.it.kind ≠ 0) :
    Calls Try.prog 42 #[.pointer (some ⟨μ.bW, 0, none⟩), .int .i64 most] w (OxFar w0 μ z Z c w) :=
  (wNext_far _ _ _ _ _ _ _ _ _ z Z _ _ most w h.is hm hz).mono fun e w' ⟨v', he, k, i⟩ => ⟨he, k, v', h.step k i⟩

def OxDat (w0 : World) (μ : Wm) (z : Zt) (Z : List Zt) (c : Wc) (k : Nat) (w : World) (e : Ending) (w' : World) : Prop :=
  ∃ rv, e = .returned (.tuple #[.int .i64 0, .int .i64 0, rv, .int .i64 0]) ∧ ChgF μ.f w w' ∧ w'.ownsRow w.heap.size 5 1 rv k (valsOf .u8 (z.it.bs.take k)) ∧ (∀ j, rv.ownBlock = some j → μ.f j = 0) ∧
    ∃ v', OwnWd w0 w' { μ with v := v' } (if k = z.it.bs.length then Z else z.cut k :: Z) c

theorem oNext_dat (w0 w : World) (μ : Wm) (z : Zt) (Z : List Zt) (c : Wc) (most : Int) (k : Nat) (h : OwnWd w0 w μ (z :: Z) c) (hm : 1 ≤ most) (hz : z.it.kind = 0) (hk : (most = (k : Int) ∧ k ≤ z.it.bs.length) ∨ (k = z.it.bs.length ∧ (z.it.bs.length : Int) < most)) :
    Calls Try.prog 42 #[.pointer (some ⟨μ.bW, 0, none⟩), .int .i64 most] w (OxDat w0 μ z Z c k w) :=
  (wNext_dat _ _ _ _ _ _ _ _ _ z Z _ _ most k w h.is hm hz hk h.hi).mono fun e w' ⟨v', rv, he, k1, o, o2, i⟩ => ⟨rv, he, k1, o, o2, v', h.step k1 i⟩

theorem OwnWd.kind {w0 w : World} {μ : Wm} {z : Zt} {Z : List Zt} {c : Wc} (h : OwnWd w0 w μ (z :: Z) c) : (z.it.kind = 1 ∧ z.it.bs = []) ∨ (z.it.kind = 2 ∧ z.it.n = 0 ∧ z.it.bs = []) ∨ (z.it.kind = 0 ∧ z.it.n = 0 ∧ 0 < z.it.bs.length ∧ z.it.bs.length ≤ 1000000) := by
  rcases (h.is.zs z List.mem_cons_self).kd with ⟨k1, k2, _⟩ | ⟨k1, k2, k3, _⟩ | ⟨k1, k2, k3⟩
  · exact .inl ⟨k1, k2⟩
  · exact .inr (.inl ⟨k1, k2, k3⟩)
  · exact .inr (.inr ⟨k1, k2, k3.pos, k3.few⟩)

/-! ### The order -/

/-- One more at its place. -/
def insG {α : Type} (o : α → Nat) (M : List α) (x : α) : List α := M.filter (fun y => decide (o y < o x)) ++ x :: M.filter (fun y => !decide (o y < o x))

theorem insG_perm {α : Type} (o : α → Nat) (M : List α) (x : α) : (insG o M x).Perm (x :: M) := by
  unfold insG
  exact (List.perm_middle).trans (List.Perm.cons x (List.filter_append_perm (fun y => decide (o y < o x)) M))

theorem insG_map {α β : Type} (f : α → β) (o : β → Nat) (M : List α) (x : α) : (insG (fun y => o (f y)) M x).map f = insG o (M.map f) (f x) := by
  unfold insG
  simp only [List.map_append, List.map_cons, List.filter_map, Function.comp_def]

theorem insQ_insG (o : Ele → Nat) (M : List Ele) (x : Ele) : insQ o M x = insG o M x := rfl

def insZ (Z : List Zt) (z : Zt) : List Zt := insG (fun y => oE y.e) Z z

def insP (M : List (Ele × It)) (x : Ele × It) : List (Ele × It) := insG (fun y => oE y.1) M x

def Zt.pr (z : Zt) : Ele × It := (z.e, z.it)

theorem insZ_e (Z : List Zt) (z : Zt) : (insZ Z z).map (·.e) = insQ oE (Z.map (·.e)) z.e := (insG_map (fun z : Zt => z.e) oE Z z).trans (insQ_insG _ _ _).symm

theorem insZ_pr (Z : List Zt) (z : Zt) : (insZ Z z).map Zt.pr = insP (Z.map Zt.pr) z.pr := insG_map Zt.pr (fun y => oE y.1) Z z

theorem insZ_perm (Z : List Zt) (z : Zt) : (insZ Z z).Perm (z :: Z) := insG_perm _ Z z

theorem insP_perm (M : List (Ele × It)) (x : Ele × It) : (insP M x).Perm (x :: M) := insG_perm _ M x

theorem insP_fst (M : List (Ele × It)) (x : Ele × It) : (insP M x).map (·.1) = insQ oE (M.map (·.1)) x.1 := (insG_map (fun z : Ele × It => z.1) oE M x).trans (insQ_insG _ _ _).symm

/-- What an item is. -/
def itOf (x : ItD) : It := ⟨x.b, x.kind, x.n, x.zs.take x.m⟩

/-- Does it come? -/
def comes (x : ItD) : Bool := !(decide (x.kind = 0) && decide (x.m = 0))

def ordStep (M : List (Ele × It)) (x : ItD) (k : Nat) : List (Ele × It) := if comes x = true then insP M ((x.b, (k : Int), (M.length : Int)), itOf x) else M

/-- The first k items that come, in order. -/
def ordP (its : List ItD) : Nat → List (Ele × It)
  | 0 => []
  | k + 1 => match its[k]? with
    | some x => ordStep (ordP its k) x k
    | none => ordP its k

theorem ordP_succ {its : List ItD} {k : Nat} {x : ItD} (h : its[k]? = some x) : ordP its (k + 1) = ordStep (ordP its k) x k := by
  show (match its[k]? with | some x => ordStep (ordP its k) x k | none => ordP its k) = _
  rw [h]

theorem ordP_len (its : List ItD) (k : Nat) : (ordP its k).length ≤ k := by
  induction k with
  | zero => exact Nat.le_refl _
  | succ k ih =>
    show (match its[k]? with | some x => ordStep (ordP its k) x k | none => ordP its k).length ≤ _
    cases its[k]? with
    | none => dsimp only; omega
    | some x =>
      dsimp only
      unfold ordStep
      split
      · rw [(insP_perm _ _).length_eq]; simp; omega
      · omega
end Go.Proofs.Ytmcbgpjphjacjaa
