/-
  QueueMixed: the map of what is left, tied to the queue; a list of acts that came in, opened.
-/
import Derived.Test.YtaddnhdfdpaieaaQueO
import Derived.Test.YtaddnhdfdpaieaaOrd
import Derived.Maps.RangeWalk
import Derived.Deep.Slices
import Derived.ProofKit
namespace Go.Proofs.Ytaddnhdfdpaieaa
set_option linter.unusedVariables false
open Go.ChangeShapes Go.WideShapes Go.ChangeAt Go.RowKit
open Go.Maps (Keyed)

abbrev DU := DataW Unit

/-- How a float reads: by its word. -/
def floatR (v : Value) : Option (DU × List MemPlace) :=
  match v with
  | .float .f64 b => some (.lit (.int .u64 (b : Int)), [])
  | _ => none

theorem floatR_inv {v : Value} {y : DU × List MemPlace} (h : floatR v = some y) : ∃ b : Nat, v = .float .f64 b ∧ y = (.lit (.int .u64 (b : Int)), []) := by
  unfold floatR at h
  split at h
  · cases h; exact ⟨_, rfl, rfl⟩
  · cases h

theorem kInt : Keyed Try.prog 3 := Maps.int_keyed Try.underlying3

theorem keyI (n : Int) (h : 0 ≤ n ∧ n < 1000000) : keyOf Try.prog 3 (.int .i64 n) = some (.int .i64 n) := by
  simp [keyOf, Try.underlying3, mapKey, Lit.wf, IntKind.min, IntKind.max, IntKind.bits, IntKind.signed]
  omega

theorem keyLitI (n : Int) : WideAt.IsKeyLit (.int .i64 n) := trivial

def Sep (x y : Ele) : Prop := x.2.1 ≠ y.2.1 ∧ (x.2.2 < y.2.2 → x.2.1 < y.2.1) ∧ (y.2.2 < x.2.2 → y.2.1 < x.2.1) ∧ x.2.2 ≠ y.2.2

theorem Sep.symm {x y : Ele} (h : Sep x y) : Sep y x := ⟨h.1.symm, h.2.2.1, h.2.1, h.2.2.2.symm⟩

/-- The map holds just what is in the queue. -/
structure Tied (D : DU) (M : List Ele) (k : Nat) : Prop where
  tidy : Maps.Tidy D
  sz : Maps.size D = M.length
  at_ : ∀ x ∈ M, Maps.has D (.int .i64 x.2.1) = true ∧ ∀ z, D.atKey (.int .i64 x.2.1) z = .lit (.int .u64 (x.1 : Int))
  back : ∀ n : Int, Maps.has D (.int .i64 n) = true → ∃ x ∈ M, x.2.1 = n
  apart : M.Pairwise Sep
  lt : ∀ x ∈ M, 0 ≤ x.2.1 ∧ x.2.1 < (k : Int)

theorem Tied.start : Tied (.map []) [] 0 := ⟨Maps.tidy_empty, rfl, by simp, fun n h => by simp [Maps.has] at h, List.Pairwise.nil, by simp⟩

theorem Tied.skip {D : DU} {M : List Ele} {k : Nat} (h : Tied D M k) : Tied D M (k + 1) :=
  ⟨h.tidy, h.sz, h.at_, h.back, h.apart, fun x hx => by have := h.lt x hx; omega⟩

theorem Tied.push {D : DU} {M : List Ele} {k p : Nat} {b : Nat} (h : Tied D M k) (hp : ∀ x ∈ M, x.2.2 < (p : Int)) : Tied (D.put (.int .i64 (k : Int)) (.lit (.int .u64 (b : Int)))) (insQ oE M (b, (k : Int), (p : Int))) (k + 1) := by
  have hperm := insQ_perm oE M (b, (k : Int), (p : Int))
  have hmem : ∀ x, x ∈ insQ oE M (b, (k : Int), (p : Int)) ↔ x ∈ M ∨ x = (b, (k : Int), (p : Int)) := fun x => by rw [hperm.mem_iff]; simp
  have hno : Maps.has D (.int .i64 (k : Int)) = false := by
    cases h0 : Maps.has D (.int .i64 (k : Int))
    · rfl
    · obtain ⟨x, hx, e⟩ := h.back _ h0
      have := h.lt x hx
      omega
  refine ⟨h.tidy.put (keyLitI _) _, ?_, ?_, ?_, ?_, ?_⟩
  · rw [Maps.size_put h.tidy, hno, hperm.length_eq, h.sz]; simp
  · intro x hx
    rcases (hmem x).1 hx with hx | rfl
    · have hl := h.lt x hx
      have hne : Lit.int .i64 x.2.1 ≠ .int .i64 (k : Int) := by
        intro e
        injection e with _ e
        omega
      exact ⟨by rw [Maps.has_put_other hne]; exact (h.at_ x hx).1, fun z => by rw [Maps.atKey_put_other hne]; exact (h.at_ x hx).2 z⟩
    · exact ⟨Maps.has_put_same h.tidy.isMap (keyLitI _) _, fun z => Maps.atKey_put_same h.tidy.isMap (keyLitI _) _ _⟩
  · intro n hn
    by_cases e : n = (k : Int)
    · exact ⟨_, (hmem _).2 (.inr rfl), e.symm⟩
    · rw [Maps.has_put_other (by intro e2; injection e2 with _ e2; exact e e2)] at hn
      obtain ⟨x, hx, e3⟩ := h.back n hn
      exact ⟨x, (hmem x).2 (.inl hx), e3⟩
  · rw [hperm.pairwise_iff (fun {_ _} h => Sep.symm h), List.pairwise_append]
    refine ⟨h.apart, List.pairwise_singleton _ _, fun x hx y hy => ?_⟩
    rw [List.mem_singleton.1 hy]
    have h1 := h.lt x hx
    have h2 := hp x hx
    exact ⟨by show x.2.1 ≠ (k : Int); omega, fun _ => h1.2, fun h3 => by have h4 : (p : Int) < x.2.2 := h3; omega, by show x.2.2 ≠ (p : Int); omega⟩
  · intro x hx
    rcases (hmem x).1 hx with hx | rfl
    · have := h.lt x hx; omega
    · exact ⟨by show (0 : Int) ≤ (k : Int); omega, by show (k : Int) < ((k + 1 : Nat) : Int); omega⟩

theorem Tied.pop {D : DU} {M : List Ele} {x : Ele} {k : Nat} (h : Tied D (x :: M) k) : Tied (D.del (.int .i64 x.2.1)) M k := by
  obtain ⟨p1, p2⟩ := List.pairwise_cons.1 h.apart
  have hne : ∀ y ∈ M, Lit.int .i64 y.2.1 ≠ .int .i64 x.2.1 := fun y hy e => by
    injection e with _ e
    exact (p1 y hy).1 e.symm
  refine ⟨h.tidy.del _, ?_, ?_, ?_, p2, fun y hy => h.lt y (List.mem_cons_of_mem _ hy)⟩
  · have := Maps.size_del (k := .int .i64 x.2.1) h.tidy
    rw [(h.at_ x (List.mem_cons_self)).1, h.sz] at this
    simp at this
    exact this
  · intro y hy
    have := h.at_ y (List.mem_cons_of_mem _ hy)
    exact ⟨by rw [Maps.has_del_other (hne y hy)]; exact this.1, fun z => by rw [Maps.atKey_del_other (hne y hy)]; exact this.2 z⟩
  · intro n hn
    by_cases e : n = x.2.1
    · rw [e, Maps.has_del_same] at hn; cases hn
    · rw [Maps.has_del_other (by intro e2; injection e2 with _ e2; exact e e2)] at hn
      obtain ⟨y, hy, e3⟩ := h.back n hn
      rcases List.mem_cons.1 hy with rfl | hy
      · exact absurd e3.symm e
      · exact ⟨y, hy, e3⟩

/-- What was popped is ahead of all that are left. -/
theorem Tied.ahead {D : DU} {M : List Ele} {x : Ele} {k p : Nat} (h : Tied D (x :: M) k) (hs : (x :: M).Pairwise (fun x y => oE x < oE y)) (hok : ∀ y ∈ x :: M, 0 ≤ y.2.2 ∧ y.2.2 < 1000000)
    {n : Int} {c : Nat} (hn : Maps.has (D.del (.int .i64 x.2.1)) (.int .i64 n) = true) (hc : ∀ z, (D.del (.int .i64 x.2.1)).atKey (.int .i64 n) z = .lit (.int .u64 (c : Int))) :
    ∃ y ∈ M, y.2.1 = n ∧ y.1 = c ∧ (cmpF x.1 c = -1 ∨ (cmpF x.1 c = 0 ∧ ¬ n < x.2.1)) := by
  have hT := h.pop
  obtain ⟨y, hy, rfl⟩ := hT.back n hn
  have e := (hc .nil).symm.trans ((hT.at_ y hy).2 .nil)
  have e1 : (c : Int) = (y.1 : Int) := by injection e with e; injection e with _ e
  have e2 : c = y.1 := by omega
  subst e2
  refine ⟨y, hy, rfl, rfl, ?_⟩
  have ho := (List.pairwise_cons.1 hs).1 y hy
  have hx := hok x (List.mem_cons_self)
  have hy' := hok y (List.mem_cons_of_mem _ hy)
  have hsep := (List.pairwise_cons.1 h.apart).1 y hy
  unfold oE at ho
  rcases cmpF_tri x.1 y.1 with ⟨h1, h2⟩ | ⟨h1, h2⟩ | ⟨h1, h2⟩
  · exact .inl h2
  · right
    refine ⟨h2, ?_⟩
    rw [h1] at ho
    have : x.2.2 < y.2.2 := by omega
    have := hsep.2.1 this
    omega
  · exfalso
    omega

theorem owns_chgM {w w' : World} {b n : Nat} {D : DU} {S : List Nat} (h : w.ownsMap Try.prog 3 floatR b n D) (c : Chg S w w') (hb : b ∉ S) : w'.ownsMap Try.prog 3 floatR b n D := by
  obtain ⟨es, clock, h1, r⟩ := h
  exact ⟨es, clock, c.heap h1 hb, r⟩

theorem chg_of_grown {w w' : World} {b : Nat} (h : w.grownBy w' (some b)) : Chg [b] w w' :=
  ⟨h.os, h.tape, h.output, h.size, fun k hk hS => h.block k hk (fun e => hS (by injection e with e; simp [e]))⟩

theorem chg_of_grown0 {w w' : World} (h : w.grownBy w' none) : Chg [] w w' :=
  ⟨h.os, h.tape, h.output, h.size, fun k hk hS => h.block k hk (by simp)⟩

theorem wpList_next_if {P : Program} (w : World) {ops : Array Oper} {rest : List Oper} {o : Oper} {a : Go.Act} {Q : Exit → Go.Act → World → Prop} (hg : o.guard = none) (it : Operand) (hop : o.op = Op.next it false) (k : TypeId) (K : Keyed P k) (hk : P.underlying k = some (.int .i64))
    (b r n : Nat) (D : DU) (left : Lit → Bool) (cnt : Nat) (hit : a.eval it = .pointer (some ⟨r, 0, none⟩)) (h : w.ranges P k floatR b r n D left cnt)
    (hDone : wpList P ops Q rest (a.put o.dst (.tuple #[.bool false])) w)
    (hMore : ∀ (x : Int) (c : Nat) (w' : World) (cnt' : Nat), Maps.has D (.int .i64 x) = true → (∀ zd, D.atKey (.int .i64 x) zd = .lit (.int .u64 (c : Int))) → w'.ranges P k floatR b r n D (fun z => left z && !z.sameKey (.int .i64 x)) cnt' → cnt' < cnt →
      Chg [r] w w' → (Instr.entry (.pointer (some ⟨r, 0, none⟩))).run P w' = .ok (.tuple #[.int .i64 x, .float .f64 c]) w' → wpList P ops Q rest (a.put o.dst (.tuple #[.bool true, .int .i64 x, .float .f64 c])) w') :
    wpList P ops Q (o :: rest) a w :=
  wpList_next_ranges w hg it hop k K floatR (Value.int .i64) (fun c : Nat => Value.float .f64 c) (fun key kl hkey => by obtain ⟨x, rfl, _⟩ := Maps.keyOf_int_inv hk hkey; exact ⟨x, rfl⟩) (fun v y hv => by obtain ⟨c, rfl, _⟩ := floatR_inv hv; exact ⟨c, rfl⟩)
    b r n D left cnt hit h (fun _ _ => hDone) (fun x c kl y w' cnt' hkey hlk hv hat hrg hlt hgr hsz hen => by
      obtain ⟨x', ex, rfl, hwx⟩ := Maps.keyOf_int_inv hk hkey
      cases ex
      obtain ⟨c', ec, rfl⟩ := floatR_inv hv
      cases ec
      exact hMore x c w' cnt' (Maps.has_true_of_atKey hat) hat hrg hlt (chg_of_grown hgr) hen)

theorem wpList_lookup_f {P : Program} (w : World) {ops : Array Oper} {rest : List Oper} {o : Oper} {a : Go.Act} {Q : Exit → Go.Act → World → Prop} (hg : o.guard = none) (m x : Operand) (t : TypeId) (hop : o.op = Op.lookup t m x true)
    (k e : TypeId) (K : Keyed P k) (ht : P.underlying t = some (.map k e)) (hz : (zeroValue e).run P w = .ok (.float .f64 0) w) (b n : Nat) (D : DU)
    (hm : a.eval m = .map (some b)) (hown : w.ownsMap P k floatR b n D) (key : Value) (kl : Lit) (hx : a.eval x = key) (hkey : keyOf P k key = some kl) (c : Nat) (h1 : Maps.has D kl = true) (h2 : ∀ z, D.atKey kl z = .lit (.int .u64 (c : Int)))
    (hK : wpList P ops Q rest (a.put o.dst (.tuple #[.float .f64 c, .bool true])) w) :
    wpList P ops Q (o :: rest) a w :=
  wpList_lookup_own_ok w hg m x t hop k e K ht floatR hz (.lit (.int .u64 0)) [] rfl b n D hm hown key kl hx hkey (fun v ps hv => by
    obtain ⟨c', rfl, hc⟩ := floatR_inv hv
    have e := (congrArg Prod.fst hc).symm.trans (h2 _)
    have e1 : (c' : Int) = (c : Int) := by injection e with e; injection e with _ e
    have e2 : c' = c := by omega
    subst e2
    rw [h1]
    exact hK)

structure ActQ where
  kind : Int
  n : Int
  b : Nat
  deriving Inhabited

def ActQ.at (w : World) (bl off : Nat) (x : ActQ) : Prop :=
  w.cell? ⟨bl, off, none⟩ = some (.int .i64 x.kind) ∧ w.cell? ⟨bl, off + 1, none⟩ = some (.int .i64 x.n) ∧ w.cell? ⟨bl, off + 2, none⟩ = some (.int .u64 (x.b : Int)) ∧ Wd x.b

def ActsQ (w : World) (a : Option Addr) (len : Nat) (acts : List ActQ) : Prop :=
  acts.length = len ∧ (0 < len → ∃ bl off, a = some ⟨bl, off, none⟩ ∧ ∀ (k : Nat) (x : ActQ), acts[k]? = some x → x.at w bl (off + k * 3))

theorem actCells : Try.prog.cellsOf 37 = 3 := by kernel_rfl
theorem intCells : Try.prog.cellsOf 3 = 1 := by kernel_rfl
theorem u64Cells : Try.prog.cellsOf 22 = 1 := by kernel_rfl

theorem three {α : Type} {xs : List α} (h : xs.length = 3) : ∃ a b c, xs = [a, b, c] := by
  match xs, h with
  | [a, b, c], _ => exact ⟨a, b, c, rfl⟩

theorem open_actq {H : Type} {enc : TypeId × Value → H} {w : World} {base : Nat} {held : Bool} {fuel : Nat} {a : Addr} {cs : List Value} {x : DataW H × List MemPlace}
    (hc : w.cells? base a 3 = some cs) (h : DataW.trod enc Try.prog w base (fun _ => true) held fuel 37 cs = some x) : a.spot = none ∧ ∃ y : ActQ, y.at w a.block a.off := by
  obtain ⟨_, hlen, hcell⟩ := World.cells?_some hc
  obtain ⟨c0, c1, c2, rfl⟩ := three hlen
  obtain ⟨xs, n, _, _, _, hxl, hf⟩ := DataW.trod_struct Try.underlying37 h
  have hxl' : xs.length = 3 := hxl
  obtain ⟨y0, y1, y2, rfl⟩ := three hxl'
  have f0 : DataW.trod enc Try.prog w base (fun _ => true) held n 3 (([c0, c1, c2].drop 0).take (Try.prog.cellsOf 3)) = some y0 := hf 0 _ rfl
  have f1 : DataW.trod enc Try.prog w base (fun _ => true) held n 3 (([c0, c1, c2].drop 1).take (Try.prog.cellsOf 3)) = some y1 := hf 1 _ rfl
  have f2 : DataW.trod enc Try.prog w base (fun _ => true) held n 22 (([c0, c1, c2].drop 2).take (Try.prog.cellsOf 22)) = some y2 := hf 2 _ rfl
  rw [intCells] at f0 f1
  rw [u64Cells] at f2
  obtain ⟨x0, e0, _, _⟩ := DataW.trod_int Try.underlying3 f0
  obtain ⟨x1, e1, _, _⟩ := DataW.trod_int Try.underlying3 f1
  obtain ⟨x2, e2, _, hs2⟩ := DataW.trod_int Try.underlying22 f2
  simp at e0 e1 e2
  subst e0 e1 e2
  obtain ⟨b, rfl, hb⟩ := word_of hs2
  have g0 := hcell 0 (by omega)
  have hsp := World.cell?_spot g0
  obtain ⟨bl, off, spot⟩ := a
  have hs : spot = none := by simpa [Addr.add] using hsp
  subst hs
  have g : ∀ i, i < 3 → w.cell? ⟨bl, off + i, none⟩ = [Value.int .i64 x0, .int .i64 x1, .int .u64 (b : Int)][i]? := fun i hi => by
    have := hcell i hi; rwa [Addr.add_lit] at this
  exact ⟨rfl, ⟨x0, x1, b⟩, g 0 (by omega), g 1 (by omega), g 2 (by omega), hb⟩

theorem open_actsq {H : Type} {enc : TypeId × Value → H} {w : World} {held : Bool} {a : Option Addr} {len cap : Nat} {d : DataW H} {p : List MemPlace}
    (h : DataW.Trod enc Try.prog w 0 (fun _ => true) held 34 (.slice a len cap) d p) : len ≤ maxLen ∧ ∃ acts, ActsQ w a len acts := by
  obtain ⟨fuel, hf⟩ := h
  rcases Go.Deep.open_slice Try.underlying34 hf with ⟨h1, _⟩ | ⟨ad, len', cap', m, n, D, Pl, h1, _, hl, hm, hmm, _, hx⟩
  · simp [Value.cells] at h1
    obtain ⟨rfl, rfl, rfl⟩ := h1
    exact ⟨Nat.zero_le _, [], rfl, fun h => absurd h (by omega)⟩
  · simp [Value.cells] at h1
    obtain ⟨rfl, rfl, rfl⟩ := h1
    have hmm' : m = cap := by simpa using hmm
    refine ⟨by omega, ?_⟩
    rw [actCells] at hx
    have each : ∀ i, i < len → (ad.add (i * 3)).spot = none ∧ ∃ y : ActQ, y.at w (ad.add (i * 3)).block (ad.add (i * 3)).off := fun i hi => by
      obtain ⟨cs', h1, h2⟩ := hx i (by omega)
      exact open_actq h1 h2
    by_cases h0 : len = 0
    · exact ⟨[], by simp [h0], fun h => absurd h (by omega)⟩
    · obtain ⟨bl, off, spot⟩ := ad
      have hs : spot = none := by have := (each 0 (by omega)).1; simpa [Addr.add] using this
      subst hs
      obtain ⟨f, hf⟩ := Go.Deep.choose_lt (α := ActQ) (p := fun i y => y.at w bl (off + i * 3)) (n := len) (fun i hi => by
        have := (each i hi).2; rwa [Addr.add_lit] at this)
      refine ⟨(List.range len).map f, by simp, fun _ => ⟨bl, off, rfl, fun k x hk => ?_⟩⟩
      simp only [List.getElem?_map, Option.map_eq_some_iff] at hk
      obtain ⟨j, hj, rfl⟩ := hk
      obtain ⟨hlt, rfl⟩ := List.getElem?_eq_some_iff.1 hj
      simp at hlt
      rw [List.getElem_range]
      exact hf k hlt
end Go.Proofs.Ytaddnhdfdpaieaa
