/-
  The registry: the contract of Wipe.
-/
import Derived.Test.YtojabenkhjgafaaRegL
namespace Go.Proofs.Ytojabenkhjgafaa
set_option linter.unusedVariables false
open Go.RowKit Go.Shelf Go.WideShapes
attribute [local go_sem] Oper.semAt_some

theorem nodup_flat {A : List Ent} (h : (A.flatMap (fun x => [x.bA, x.bC])).Nodup) : ∀ x ∈ A, ∀ y ∈ A, x ≠ y → (x.bA ≠ y.bA ∧ x.bA ≠ y.bC) ∧ (x.bC ≠ y.bA ∧ x.bC ≠ y.bC) := by
  induction A with
  | nil => intro x hx; cases hx
  | cons a A ih =>
    rw [List.flatMap_cons] at h
    obtain ⟨h1, h2, h3⟩ := List.nodup_append.1 h
    have hd : ∀ y ∈ A, (a.bA ≠ y.bA ∧ a.bA ≠ y.bC) ∧ (a.bC ≠ y.bA ∧ a.bC ≠ y.bC) := fun y hy =>
      ⟨⟨h3 _ (by simp) _ (List.mem_flatMap.2 ⟨y, hy, by simp⟩), h3 _ (by simp) _ (List.mem_flatMap.2 ⟨y, hy, by simp⟩)⟩, ⟨h3 _ (by simp) _ (List.mem_flatMap.2 ⟨y, hy, by simp⟩), h3 _ (by simp) _ (List.mem_flatMap.2 ⟨y, hy, by simp⟩)⟩⟩
    intro x hx y hy hne
    rcases List.mem_cons.1 hx with ex | hx'
    · rcases List.mem_cons.1 hy with ey | hy'
      · exact absurd (ex.trans ey.symm) hne
      · rw [ex]; exact hd y hy'
    · rcases List.mem_cons.1 hy with ey | hy'
      · obtain ⟨⟨k1, k2⟩, k3, k4⟩ := hd x hx'
        rw [ey]
        exact ⟨⟨k1.symm, k3.symm⟩, k2.symm, k4.symm⟩
      · exact ih h2 x hx' y hy' hne

/-- The blocks of the arenas. -/
def arB (A : List Ent) : List Nat := A.flatMap (fun x => [x.bA, x.bC])

theorem mem_arB {A : List Ent} {x : Ent} (hx : x ∈ A) : x.bA ∈ arB A ∧ x.bC ∈ arB A := ⟨List.mem_flatMap.2 ⟨x, hx, by simp⟩, List.mem_flatMap.2 ⟨x, hx, by simp⟩⟩

theorem nodup_arB {bR bM : Nat} {nv : Value} {A : List Ent} (h : (blks bR bM nv A).Nodup) : (arB A).Nodup ∧ ∀ k ∈ bR :: bM :: nv.ownBlock.toList, k ∉ arB A := by
  have hap : ((bR :: bM :: nv.ownBlock.toList) ++ arB A).Nodup := h
  obtain ⟨_, h2, h3⟩ := List.nodup_append.1 hap
  exact ⟨h2, fun k hk hm => h3 k hk k hm rfl⟩

def wiped (A : List Ent) : List Ent := A.map (fun x => { x with l := [] })

theorem blks_wiped (bR bM : Nat) (nv : Value) (A : List Ent) : blks bR bM nv (wiped A) = blks bR bM nv A := by
  unfold blks wiped
  rw [List.flatMap_map]

theorem find_wiped (A : List Ent) (s : ByteArray) : findP (wiped A) s = findP A s := by
  unfold findP wiped
  rw [List.find?_map, Option.map_map]
  rfl

theorem RegIs.wipe {w w' : World} {bR bM : Nat} {nv : Value} {A : List Ent} (h : RegIs w bR bM nv A) (c : Chg (arB A) w w') (ha : ∀ x ∈ A, ArenaIs w' x.bA x.bC x.N []) : RegIs w' bR bM nv (wiped A) := by
  obtain ⟨_, hd⟩ := nodup_arB h.nodup
  have hl : (wiped A).length = A.length := by simp [wiped]
  refine ⟨c.heap h.hR (hd _ (by simp)), ?_, ?_, ?_, ?_, ?_, by rw [hl]; exact h.most, by rw [blks_wiped]; exact h.nodup⟩
  · rw [hl]
    have : (wiped A).map (fun x => Value.string x.name) = A.map (fun x => Value.string x.name) := by simp [wiped, Function.comp_def]
    rw [this]
    exact owns_chg' h.row c (fun k hk => hd k (by simp [hk]))
  · rw [hl]
    have : findP (wiped A) = findP A := funext (find_wiped A)
    rw [this]
    exact h.map.chg c (hd _ (by simp))
  · intro x hx
    obtain ⟨y, hy, rfl⟩ := List.mem_map.1 hx
    exact ha y hy
  · intro x hx
    obtain ⟨y, hy, rfl⟩ := List.mem_map.1 hx
    exact h.nm y hy
  · intro x hx
    obtain ⟨y, hy, rfl⟩ := List.mem_map.1 hx
    rw [find_wiped]
    exact h.self y hy

/-- An arena abides the law's turns. -/
theorem arena_grown {W W' : World} {B : Nat} {row : Option Nat} {bA bC N : Nat} {l : List Int} (h : ArenaIs W bA bC N l) (hg : W.grownBy W' row) (hr : ∀ r, row = some r → B ≤ r) (hA : bA < B) (hC : bC < B) : ArenaIs W' bA bC N l := by
  have c : Chg row.toList W W' := ⟨hg.os, hg.tape, hg.output, hg.size, fun k hk hS => hg.block k hk (fun e => hS (by rw [← e]; simp))⟩
  refine h.chg c ?_ ?_
  · intro hm
    have := hr bA (by simpa [Option.mem_toList] using hm)
    omega
  · intro hm
    have := hr bC (by simpa [Option.mem_toList] using hm)
    omega

set_option maxRecDepth 100000 in
set_option maxHeartbeats 4000000 in
theorem rWipe_any (bR bM : Nat) (nv : Value) (A : List Ent) (w : World) (h : RegIs w bR bM nv A) :
    Calls Try.prog 23 #[.pointer (some ⟨bR, 0, none⟩)] w fun e w' => e = .returned (.tuple #[]) ∧ Chg (arB A) w w' ∧ RegIs w' bR bM nv (wiped A) := by
  refine (callsIn_wide (n := 6)).1 ?_
  refine callsIn_of_wp_marks Try.func23 rfl trivial ?_ rfl
  simp only [Try.ntmps23, List.size_toArray, List.length_cons, List.length_nil, Nat.reduceAdd, Nat.reduceSub, Array.replicate_succ, Array.replicate_zero, List.push_toArray, List.append_toArray, List.nil_append, List.cons_append]
  gi_wp2_with (refine ⟨trivial, ?_⟩; gi_at_call 28; refine (all_in Fence.wide _ trivial rfl _ _).mono ?_; rintro e w' ⟨rfl, rfl⟩)
  obtain ⟨w1, hw1⟩ : ∃ w1, w1 = w.alloc (.cells #[.pointer (some ⟨bR, 0, none⟩)] 23) := ⟨_, rfl⟩
  have C1 : Chg [] w w1 := by rw [hw1]; exact (Chg.refl _ _).alloc _
  have R1 := h.chg C1 (by simp)
  have hB : w1.heap[w.heap.size]? = some (.cells #[.pointer (some ⟨bR, 0, none⟩)] 23 (0, 0)) := by rw [hw1]; exact alloc_heap w _
  have hz : w1.heap.size = w.heap.size + 1 := by rw [hw1]; simp
  have hlt := h.lt
  rw [← hw1]
  obtain ⟨nd1, nd2⟩ := nodup_arB h.nodup
  have hltA : ∀ x ∈ arB A, x < w.heap.size := fun x hx => hlt x (by unfold blks; exact List.mem_cons_of_mem _ (List.mem_cons_of_mem _ (List.mem_append.2 (.inr hx))))
  have hKs : ∀ k ∈ itBlks w.heap.size bR bM nv, k < w1.heap.size ∧ k ∉ arB A := fun k hk => by
    refine ⟨by rcases itBlks_lt hlt k hk with e | e <;> omega, fun hm => ?_⟩
    unfold itBlks at hk
    rcases List.mem_cons.1 hk with rfl | hk
    · have := hltA _ hm; omega
    · exact nd2 k hk hm
  refine wpIn_rangeFunc_ownF rfl (by omega) (gf := 32) (lb := #[.pointer (some ⟨w.heap.size, 0, none⟩)]) rfl trivial (enters_of Try.func32 (by kernel_rfl) rfl)
    (all_stops Fence.wide 5 trivial rfl (by omega) w.heap.size bR bM nv A w1 hB R1) KeepB.trans (keepB_b (fun k hk => (hKs k hk).1)) (Below.refl _ _) (fun _ => rfl)
    (fun pre W => Chg (arB A) w1 W ∧ ∀ x : EntOf A, (x ∈ pre → ArenaIs W x.1.bA x.1.bC x.1.N []) ∧ (x ∉ pre → ArenaIs W x.1.bA x.1.bC x.1.N x.1.l))
    (fun _ _ _ => False)
    (OwnFrom.and (ownFrom_chg (Nat.le_refl _)) (fun s W W' row hs hg hr x => ⟨fun hx => arena_grown ((hs x).1 hx) hg (fun r e => (hr r e).1) (by have := hltA _ (mem_arB x.2).1; omega) (by have := hltA _ (mem_arB x.2).2; omega), fun hx => arena_grown ((hs x).2 hx) hg (fun r e => (hr r e).1) (by have := hltA _ (mem_arB x.2).1; omega) (by have := hltA _ (mem_arB x.2).2; omega)⟩))
    (fun _ _ _ _ _ hs _ _ => hs)
    ⟨Chg.refl _ _, fun x => ⟨fun hx => (by cases hx), fun _ => R1.ar x.1 x.2⟩⟩
    (fun x => { tmps := #[.pointer (some ⟨bR, 0, none⟩), undef, .pointer (some ⟨x.1.bA, 0, none⟩), .pointer (some ⟨bR, 0, none⟩), .func (.func 32) #[] #[.pointer (some ⟨w.heap.size, 0, none⟩)], .pointer (some ⟨x.1.bA, 0, none⟩), undef, undef], defers := [] }) ?assign ?body ?done ?stop
  case assign =>
    intro l x W K hK
    gi_wp2
    exact hK
  case body =>
    rintro l pre x W ⟨hC, hH⟩ hlen
    obtain ⟨lx, hA⟩ : ∃ lx, ArenaIs W x.1.bA x.1.bC x.1.N lx := by
      by_cases hx : x ∈ pre
      · exact ⟨_, (hH x).1 hx⟩
      · exact ⟨_, (hH x).2 hx⟩
    have hcall := wipe_any x.1.bA x.1.bC x.1.N lx W hA
    have hxa := mem_arB x.2
    gi_wp2_with (refine ⟨trivial, ?_⟩; gi_at_call 30; refine (CallsIn.inRound l (callsIn_wide.2 hcall)).mono ?_; rintro e w' ⟨rfl, C2, A2⟩)
    have C3 : Chg (arB A) W w' := C2.mono (fun y hy => by
      rcases List.mem_cons.1 hy with rfl | hy
      · exact hxa.1
      · rw [List.mem_singleton.1 hy]; exact hxa.2)
    refine ⟨keepsOthers_chg C2 (fun k hk o ho => ?_), KeepB.of_chg C3 (fun k hk => ⟨by have := (hKs k hk).1; have := hC.size; omega, (hKs k hk).2⟩), hC.trans C3 (fun y hy => hy) (fun y hy _ => hy), fun y => ?_⟩
    · rcases List.mem_cons.1 hk with rfl | hk
      · rw [hA.hA] at ho; injection ho with ho; rw [← ho]; rfl
      · rw [List.mem_singleton.1 hk, hA.hC] at ho; injection ho with ho; rw [← ho]; rfl
    · by_cases hxy : y = x
      · subst hxy
        exact ⟨fun _ => A2, fun hn => absurd (List.mem_append.2 (.inr (by simp))) hn⟩
      · have hne : x.1 ≠ y.1 := fun e => hxy (Subtype.ext e.symm)
        obtain ⟨⟨n1, n2⟩, n3, n4⟩ := nodup_flat nd1 x.1 x.2 y.1 y.2 hne
        have hk : ∀ l', ArenaIs W y.1.bA y.1.bC y.1.N l' → ArenaIs w' y.1.bA y.1.bC y.1.N l' := fun l' ha => ha.chg C2 (by simp; exact ⟨n1.symm, n3.symm⟩) (by simp; exact ⟨n2.symm, n4.symm⟩)
        refine ⟨fun hy => ?_, fun hy => hk _ ((hH y).2 (fun hp => hy (List.mem_append.2 (.inl hp))))⟩
        rcases List.mem_append.1 hy with hy | hy
        · exact hk _ ((hH y).1 hy)
        · exact absurd (List.mem_singleton.1 hy) hxy
  case done =>
    rintro D ys W hD rfl ⟨hC, hH⟩ hK
    gi_wp2
    refine ⟨by simp, .inl ⟨_, _, rfl, run_takeDeferred hK, ?_⟩⟩
    have CD := chg_putObj W D (.deferred none) (Nat.zero_le _)
    have hnD : ∀ x ∈ arB A, x ≠ D := fun x hx => by have := hltA x hx; omega
    have E : Chg (arB A) w (W.putObj D (.deferred none)) := C1.trans (hC.trans CD (U := arB A ++ [D]) (fun y hy => List.mem_append.2 (.inl hy)) (fun y hy _ => List.mem_append.2 (.inr hy))) (by simp) (fun y hy hl => by
      rcases List.mem_append.1 hy with hy | hy
      · exact hy
      · rw [List.mem_singleton.1 hy] at hl; omega)
    refine ⟨_, results_none rfl _ _ _, rfl, E, h.wipe E (fun x hx => ?_)⟩
    exact ((hH ⟨x, hx⟩).1 (List.mem_attach _ _)).chg CD (by simp; exact hnD _ (mem_arB hx).1) (by simp; exact hnD _ (mem_arB hx).2)
  case stop =>
    rintro D c pre W _ _ h _
    exact h.elim
end Go.Proofs.Ytojabenkhjgafaa
