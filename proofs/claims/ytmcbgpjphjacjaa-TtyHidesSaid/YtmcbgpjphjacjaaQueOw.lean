/-
  A queue of the call's own.
-/
import Derived.Test.YtmcbgpjphjacjaaQueV
namespace Go.Proofs.Ytmcbgpjphjacjaa
set_option linter.unusedVariables false
set_option maxRecDepth 100000
open Go.RowKit

/-- A queue that was made since w0; nothing that was there then has turned. -/
structure OwnQ (w0 w : World) (bQ : Nat) (v : Value) (M : List Ele) (p : Nat) : Prop where
  q : QueIs w bQ v M p
  c : Chg [] w0 w
  b1 : w0.heap.size ≤ bQ
  b2 : ∀ k, v.ownBlock = some k → w0.heap.size ≤ k

theorem OwnQ.none {w0 w : World} {bQ : Nat} {v : Value} {M : List Ele} {p : Nat} (h : OwnQ w0 w bQ v M p) {x : Nat} (hx : x ∈ bQ :: v.ownBlock.toList) (hl : x < w0.heap.size) : x ∈ ([] : List Nat) := by
  rcases List.mem_cons.1 hx with h1 | h1
  · have := h.b1; omega
  · have := h.b2 x (by simpa [Option.mem_toList] using h1); omega

theorem OwnQ.chg {w0 w w' : World} {bQ : Nat} {v : Value} {M : List Ele} {p : Nat} {S : List Nat} (h : OwnQ w0 w bQ v M p) (c : Chg S w w') (hS : ∀ x ∈ S, w0.heap.size ≤ x) (hb : bQ ∉ S) (hv : ∀ k, v.ownBlock = some k → k ∉ S) : OwnQ w0 w' bQ v M p :=
  ⟨h.q.chg c hb hv, h.c.trans c (fun x hx => hx) (fun x hx hl => by have := hS x hx; omega), h.b1, h.b2⟩

theorem OwnQ.chg0 {w0 w w' : World} {bQ : Nat} {v : Value} {M : List Ele} {p : Nat} (h : OwnQ w0 w bQ v M p) (c : Chg [] w w') : OwnQ w0 w' bQ v M p := h.chg c (by simp) (by simp) (by simp)

theorem oNew_any (w0 w : World) (c : Chg [] w0 w) :
    Calls Try.prog 54 #[] w fun e w' => e = .returned (.pointer (some ⟨w.heap.size, 0, none⟩)) ∧ OwnQ w0 w' w.heap.size (.slice none 0 0) [] 0 :=
  (qNew_any w).mono fun e w' ⟨he, hc, hq⟩ => ⟨he, hq, c.trans hc (by simp) (by simp), c.size, by simp [Value.ownBlock]⟩

theorem oPush_any (w0 : World) (bQ : Nat) (v : Value) (M : List Ele) (p : Nat) (b : Nat) (n : Int) (w : World) (h : OwnQ w0 w bQ v M p) (hf : M.length < 4096) (hb : Wd b) (hp : p < 1000000) :
    Calls Try.prog 57 #[.pointer (some ⟨bQ, 0, none⟩), .float .f64 b, .int .i64 n] w fun e w' => e = .returned (.int .i64 0) ∧ ∃ v', OwnQ w0 w' bQ v' (insQ oE M (b, n, (p : Int))) (p + 1) := by
  refine (qPush_any bQ v M p b n w h.q hf hb hp).mono ?_
  rintro e w' ⟨rfl, c, v', hq, hv⟩
  exact ⟨rfl, v', hq, h.c.trans c (fun x hx => hx) (fun x hx hl => h.none hx hl), h.b1, fun k hk => (hv k hk).elim (h.b2 k) (fun h1 => Nat.le_trans h.c.size h1)⟩

theorem oPop_any (w0 : World) (bQ : Nat) (v : Value) (x : Ele) (M : List Ele) (p : Nat) (w : World) (h : OwnQ w0 w bQ v (x :: M) p) :
    Calls Try.prog 60 #[.pointer (some ⟨bQ, 0, none⟩)] w fun e w' => e = .returned (.tuple #[.float .f64 x.1, .int .i64 x.2.1, .int .i64 0]) ∧ ∃ v', OwnQ w0 w' bQ v' M p := by
  refine (qPop_any bQ v x M p w h.q).mono ?_
  rintro e w' ⟨rfl, c, v', hq, hv⟩
  exact ⟨rfl, v', hq, h.c.trans c (fun x hx => hx) (fun x hx hl => h.none hx hl), h.b1, by rw [hv]; exact h.b2⟩

theorem oPeek_any (w0 : World) (bQ : Nat) (v : Value) (x : Ele) (M : List Ele) (p : Nat) (w : World) (h : OwnQ w0 w bQ v (x :: M) p) :
    Calls Try.prog 59 #[.pointer (some ⟨bQ, 0, none⟩)] w fun e w' => e = .returned (.tuple #[.float .f64 x.1, .int .i64 x.2.1, .int .i64 0]) ∧ OwnQ w0 w' bQ v (x :: M) p := by
  refine (qPeek_any bQ v x M p w h.q).mono ?_
  rintro e w' ⟨rfl, c⟩
  exact ⟨rfl, h.chg0 c⟩

end Go.Proofs.Ytmcbgpjphjacjaa
