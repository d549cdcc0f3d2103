/-
  A queue of the call's own; the laws' example.
-/
import Derived.Test.YtaddnhdfdpaieaaQueB
namespace Go.Proofs.Ytaddnhdfdpaieaa
set_option linter.unusedVariables false
open Go.RowKit

/-- A queue that was made since w0; nothing that was there then has turned. -/
structure OwnQ (w0 w : World) (bQ : Nat) (v : Value) (M : List Ele) (p : Nat) : Prop where
  q : QueIs w bQ v M p
  c : Chg [] w0 w
  b1 : w0.heap.size ≤ bQ
  b2 : ∀ k, v.ownBlock = some k → w0.heap.size ≤ k

theorem OwnQ.none {w0 w : World} {bQ : Nat} {v : Value} {M : List Ele} {p : Nat} (h : OwnQ w0 w bQ v M p) {x : Nat} (hx : x ∈ bQ :: v.ownBlock.toList) (hl : x < w0.heap.size) : x ∈ ([] : List Nat) := by
  rcases List.mem_cons.1 hx with h1 | h1
  · have := h.b1; omega
  · have := h.b2 x (by simpa [Option.mem_toList] using h1); omega

theorem OwnQ.chg {w0 w w' : World} {bQ : Nat} {v : Value} {M : List Ele} {p : Nat} {S : List Nat} (h : OwnQ w0 w bQ v M p) (c : Chg S w w') (hS : ∀ x ∈ S, w0.heap.size ≤ x) (hb : bQ ∉ S) (hv : ∀ k, v.ownBlock = some k → k ∉ S) : OwnQ w0 w' bQ v M p :=
  ⟨h.q.chg c hb hv, h.c.trans c (fun x hx => hx) (fun x hx hl => by have := hS x hx; omega), h.b1, h.b2⟩

theorem OwnQ.chg0 {w0 w w' : World} {bQ : Nat} {v : Value} {M : List Ele} {p : Nat} (h : OwnQ w0 w bQ v M p) (c : Chg [] w w') : OwnQ w0 w' bQ v M p := h.chg c (by simp) (by simp) (by simp)

theorem oNew_any (w0 w : World) (c : Chg [] w0 w) :
    Calls Try.prog 10 #[] w fun e w' => e = .returned (.pointer (some ⟨w.heap.size, 0, none⟩)) ∧ OwnQ w0 w' w.heap.size (.slice none 0 0) [] 0 :=
  (qNew_any w).mono fun e w' ⟨he, hc, hq⟩ => ⟨he, hq, c.trans hc (by simp) (by simp), c.size, by simp [Value.ownBlock]⟩

theorem oPush_any (w0 : World) (bQ : Nat) (v : Value) (M : List Ele) (p : Nat) (b : Nat) (n : Int) (w : World) (h : OwnQ w0 w bQ v M p) (hf : M.length < 4096) (hb : Wd b) (hp : p < 1000000) :
    Calls Try.prog 12 #[.pointer (some ⟨bQ, 0, none⟩), .float .f64 b, .int .i64 n] w fun e w' => e = .returned (.int .i64 0) ∧ ∃ v', OwnQ w0 w' bQ v' (insQ oE M (b, n, (p : Int))) (p + 1) := by
  refine (qPush_any bQ v M p b n w h.q hf hb hp).mono ?_
  rintro e w' ⟨rfl, c, v', hq, hv⟩
  exact ⟨rfl, v', hq, h.c.trans c (fun x hx => hx) (fun x hx hl => h.none hx hl), h.b1, fun k hk => (hv k hk).elim (h.b2 k) (fun h1 => Nat.le_trans h.c.size h1)⟩

theorem oPop_any (w0 : World) (bQ : Nat) (v : Value) (x : Ele) (M : List Ele) (p : Nat) (w : World) (h : OwnQ w0 w bQ v (x :: M) p) :
    Calls Try.prog 15 #[.pointer (some ⟨bQ, 0, none⟩)] w fun e w' => e = .returned (.tuple #[.float .f64 x.1, .int .i64 x.2.1, .int .i64 0]) ∧ ∃ v', OwnQ w0 w' bQ v' M p := by
  refine (qPop_any bQ v x M p w h.q).mono ?_
  rintro e w' ⟨rfl, c, v', hq, hv⟩
  exact ⟨rfl, v', hq, h.c.trans c (fun x hx => hx) (fun x hx hl => h.none hx hl), h.b1, by rw [hv]; exact h.b2⟩

theorem oPeek_any (w0 : World) (bQ : Nat) (v : Value) (x : Ele) (M : List Ele) (p : Nat) (w : World) (h : OwnQ w0 w bQ v (x :: M) p) :
    Calls Try.prog 18 #[.pointer (some ⟨bQ, 0, none⟩)] w fun e w' => e = .returned (.tuple #[.float .f64 x.1, .int .i64 x.2.1, .int .i64 0]) ∧ OwnQ w0 w' bQ v (x :: M) p := by
  refine (qPeek_any bQ v x M p w h.q).mono ?_
  rintro e w' ⟨rfl, c⟩
  exact ⟨rfl, h.chg0 c⟩

/-- The words of the laws' example: NaN, 2, -1. -/
def w2 : Nat := 4611686018427387904
def wm1 : Nat := 13830554455654793216
theorem Wd_w2 : Wd w2 := Wd_lit _ (by decide +kernel)
theorem Wd_wm1 : Wd wm1 := Wd_lit _ (by decide +kernel)

def exL : List Ele := [(wm1, 9, 2), (w2, 8, 1), (w2, 10, 3), (aN, 7, 0)]

theorem exL_eq : insQ oE (insQ oE (insQ oE (insQ oE [] (aN, 7, ((0 : Nat) : Int))) (w2, 8, ((0 + 1 : Nat) : Int))) (wm1, 9, ((0 + 1 + 1 : Nat) : Int))) (w2, 10, ((0 + 1 + 1 + 1 : Nat) : Int)) = exL := by decide +kernel

def exN (k : Nat) : Int := ([9, 8, 10, 7] : List Int).getD k 0

theorem exL_at (k : Nat) (h : k < 4) : ∃ x, exL.drop k = x :: exL.drop (k + 1) ∧ x.2.1 = exN k := by
  rcases (by omega : k = 0 ∨ k = 1 ∨ k = 2 ∨ k = 3) with h | h | h | h <;> subst h
  · exact ⟨(wm1, 9, 2), rfl, rfl⟩
  · exact ⟨(w2, 8, 1), rfl, rfl⟩
  · exact ⟨(w2, 10, 3), rfl, rfl⟩
  · exact ⟨(aN, 7, 0), rfl, rfl⟩

theorem exN_cell (k : Nat) (h : k < 4) : (#[Value.int .i64 9, .int .i64 8, .int .i64 10, .int .i64 7] : Array Value)[k]? = some (.int .i64 (exN k)) := by
  rcases (by omega : k = 0 ∨ k = 1 ∨ k = 2 ∨ k = 3) with h | h | h | h <;> subst h <;> rfl

set_option maxHeartbeats 4000000 in
theorem alive_any (w : World) : Calls Try.prog 11 #[] w fun e w' => e = .returned (.bool true) ∧ Chg [] w w' := by
  go_enter Try.func11, Try.ntmps11
  go_wp2_with fail
  refine (oNew_any w _ (Chg.refl _ _)).mono ?_
  rintro e w1 ⟨rfl, Q1⟩
  obtain ⟨bQ, hbQ⟩ : ∃ bQ, bQ = w.heap.size := ⟨_, rfl⟩
  rw [← hbQ] at Q1 ⊢
  clear hbQ
  go_wp2_with (go_at_call 24; refine (nan_any _).mono ?_; rintro e w' ⟨rfl, rfl⟩)
  refine (oPush_any w bQ _ _ 0 aN 7 _ Q1 (by simp) Wd_aN (by omega)).mono ?_
  rintro e w2' ⟨rfl, v2, Q2⟩
  go_wp2_with fail
  refine (oPush_any w bQ _ _ (0 + 1) w2 8 _ Q2 (by rw [(insQ_perm _ _ _).length_eq]; simp) Wd_w2 (by omega)).mono ?_
  rintro e w3 ⟨rfl, v3, Q3⟩
  go_wp2_with fail
  refine (oPush_any w bQ _ _ (0 + 1 + 1) wm1 9 _ Q3 (by rw [(insQ_perm _ _ _).length_eq, List.length_append, (insQ_perm _ _ _).length_eq]; simp) Wd_wm1 (by omega)).mono ?_
  rintro e w4 ⟨rfl, v4, Q4⟩
  go_wp2_with fail
  refine (oPush_any w bQ _ _ (0 + 1 + 1 + 1) w2 10 _ Q4 (by rw [(insQ_perm _ _ _).length_eq, List.length_append, (insQ_perm _ _ _).length_eq, List.length_append, (insQ_perm _ _ _).length_eq]; simp) Wd_w2 (by omega)).mono ?_
  rintro e w5 ⟨rfl, v5, Q5⟩
  rw [exL_eq] at Q5
  clear Q1 Q2 Q3 Q4
  obtain ⟨a5, c5, e5⟩ := Q5.q.slice
  clear e5
  go_wp2_with fail
  go_loopw [21] (fun i wr => ∃ (k : Nat) (v : Value), k ≤ 4 ∧ i = .int .i64 k ∧ OwnQ w wr bQ v (exL.drop k) 4 ∧ Hid (wr.heap[w5.heap.size]? = some (.cells #[.int .i64 9, .int .i64 8, .int .i64 10, .int .i64 7] 3 (0, 0))) ∧ bQ ≠ w5.heap.size ∧ v.ownBlock ≠ some w5.heap.size) (fun i _ => 4 - (intOf i).toNat)
  case atStart =>
    refine ⟨0, v5, by omega, rfl, Q5.chg0 ((Chg.refl _ _).alloc _), Lib.hid (alloc_heap _ _), ?_, ?_⟩
    · have := Q5.q.lt; omega
    · intro h; have := Q5.q.lt2 _ h; omega
  case round =>
    obtain ⟨k, v, hk, rfl, hq, hh, hn1, hn2⟩ := hrel
    by_cases hlt : k < 4
    · obtain ⟨x, hx, hx2⟩ := exL_at k hlt
      have hcell : wr.cell? ⟨w5.heap.size, k, none⟩ = some (.int .i64 (exN k)) := by rw [cell_of_heap hh.out]; exact exN_cell k hlt
      rw [hx] at hq
      go_wp2_with fail
      refine (qPop_any bQ v x _ _ _ hq.q).mono ?_
      rintro e w6 ⟨rfl, C6, v6, hq6, hv6⟩
      rw [hx2]
      have hh6 := Lib.hid (C6.heap hh.out (by
        intro hm
        rcases List.mem_cons.1 hm with h | h
        · exact hn1 h.symm
        · exact hn2 (by simpa [Option.mem_toList] using h)))
      have Q6 : OwnQ w w6 bQ v6 (exL.drop (k + 1)) 4 := ⟨hq6, hq.c.trans C6 (fun x hx => hx) (fun x hx hl => hq.none hx hl), hq.b1, by rw [hv6]; exact hq.b2⟩
      have HV := Lib.hid hv6
      clear hx hx2 hv6
      go_wp2_with fail
      go_roundw
      case rel => exact ⟨k + 1, v6, by omega, by go_num, Q6, hh6, hn1, by rw [HV.out]; exact hn2⟩
      case measure => simp [intOf]; omega
    · obtain rfl : k = 4 := by omega
      have hq' : QueIs wr bQ v [] 4 := hq.q
      go_wp2_with (go_at_call 14; refine (qLen_any _ _ _ _ _ hq').mono ?_; rintro e w' ⟨rfl, rfl⟩)
      go_ret
      exact ⟨rfl, hq.c⟩
end Go.Proofs.Ytaddnhdfdpaieaa
