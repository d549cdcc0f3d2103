/-
  The queue: the contracts of Peek and Pop.
-/
import Derived.Test.YtmcbgpjphjacjaaQueQ
namespace Go.Proofs.Ytmcbgpjphjacjaa
set_option linter.unusedVariables false
set_option maxRecDepth 100000
open Go.RowKit
attribute [local go_sem] run_store_float'

theorem QueIs.top {w : World} {bQ : Nat} {v : Value} {x : Ele} {M : List Ele} {p : Nat} (h : QueIs w bQ v (x :: M) p) :
    ∃ g c H cur, v = .slice (some ⟨g, 0, none⟩) (M.length + 1) c ∧ RowAt w g H cur ∧ H.length = M.length + 1 ∧ M.length + 1 ≤ c ∧ c ≤ maxLen ∧ cur.size = c * 3 ∧ Stands oE H (x :: M) ∧ H.getD 0 default = x ∧ bQ ≠ g := by
  obtain ⟨H, ho, hs⟩ := h.row
  have hl : H.length = M.length + 1 := by rw [← hs.len]; rfl
  obtain ⟨_, h0⟩ | ⟨g, c, cur, rfl, R, k1, k2, k3⟩ := owns_row ho
  · rw [h0] at hl; simp at hl
  · exact ⟨g, c, H, cur, by rw [hl], R, hl, by omega, k2, k3, hs, hs.top, fun e => h.ne (by rw [e]; rfl)⟩

set_option maxHeartbeats 1000000 in
theorem qPeek_none (bQ : Nat) (v : Value) (p : Nat) (w : World) (h : QueIs w bQ v [] p) :
    Calls Try.prog 59 #[.pointer (some ⟨bQ, 0, none⟩)] w fun e w' => e = .returned (.tuple #[.float .f64 0, .int .i64 0, .int .i64 6]) ∧ w = w' := by
  obtain ⟨ao, c, rfl⟩ := h.slice
  have h0 := h.cell0
  clear h
  go_enter Try.func59, Try.ntmps59
  go_wp2_with fail
  go_ret3
  exact ⟨rfl, rfl⟩

set_option maxHeartbeats 1000000 in
theorem qPeek_any (bQ : Nat) (v : Value) (x : Ele) (M : List Ele) (p : Nat) (w : World) (h : QueIs w bQ v (x :: M) p) :
    Calls Try.prog 59 #[.pointer (some ⟨bQ, 0, none⟩)] w fun e w' => e = .returned (.tuple #[.float .f64 x.1, .int .i64 x.2.1, .int .i64 0]) ∧ Chg [] w w' := by
  obtain ⟨g, c, H, cur, rfl, R, hl, k1, k2, k3, hs, ht, hne⟩ := h.top
  have h0 := h.cell0
  obtain ⟨a0, a1, a2⟩ := R.eles 0 (by omega)
  rw [ht] at a0 a1 a2
  rw [Nat.zero_mul] at a0 a1 a2
  rw [Nat.zero_add] at a1 a2
  have hM : ¬ ((M.length : Int) + 1 = 0) := by omega
  have hM2 : (0 : Int) < (M.length : Int) + 1 := by omega
  clear h R hl k1 k2 k3 hs ht
  go_enter Try.func59, Try.ntmps59
  go_wp2_with fail
  go_quiet (fail)
  go_wp2_with fail
  go_ret3
  exact ⟨rfl, (Chg.refl _ _).drewN _⟩

set_option maxHeartbeats 1000000 in
theorem qPop_none (bQ : Nat) (v : Value) (p : Nat) (w : World) (h : QueIs w bQ v [] p) :
    Calls Try.prog 60 #[.pointer (some ⟨bQ, 0, none⟩)] w fun e w' => e = .returned (.tuple #[.float .f64 0, .int .i64 0, .int .i64 6]) ∧ w = w' := by
  go_enter Try.func60, Try.ntmps60
  go_wp2_with fail
  refine (qPeek_none bQ v p _ h).mono ?_
  rintro e w' ⟨rfl, rfl⟩
  go_wp2_with fail
  go_ret3
  exact ⟨rfl, rfl⟩

def QPopPost (bQ : Nat) (v : Value) (x : Ele) (M : List Ele) (p : Nat) (w : World) (e : Ending) (w' : World) : Prop :=
  e = .returned (.tuple #[.float .f64 x.1, .int .i64 x.2.1, .int .i64 0]) ∧ Chg (bQ :: v.ownBlock.toList) w w' ∧ ∃ v', QueIs w' bQ v' M p ∧ v'.ownBlock = v.ownBlock

set_option maxHeartbeats 2000000 in
theorem qPop_any (bQ : Nat) (v : Value) (x : Ele) (M : List Ele) (p : Nat) (w : World) (h : QueIs w bQ v (x :: M) p) :
    Calls Try.prog 60 #[.pointer (some ⟨bQ, 0, none⟩)] w (QPopPost bQ v x M p w) := by
  go_enter Try.func60, Try.ntmps60
  go_wp2_with fail
  refine (qPeek_any bQ v x M p _ h).mono ?_
  rintro e w1 ⟨rfl, C1⟩
  have h1 := h.chg C1 (by simp) (by simp)
  obtain ⟨g, c, H, cur, rfl, R, hl, k1, k2, k3, hs, ht, hne⟩ := h1.top
  have hm := h.most
  have HH := Lib.hid h1
  have HL := Lib.hid hl
  have HS := Lib.hid hs
  have HT := Lib.hid ht
  have H3 := Lib.hid k3
  have hok : ∀ y ∈ H, EleOk y := fun y hy => by
    obtain ⟨k1, k2, k3⟩ := h1.ok y (hs.perm.mem_iff.2 hy)
    have := h1.pb
    exact ⟨k1, k2, by omega⟩
  clear h h1 hl hs ht k3
  go_wp2_with fail
  refine (heapPop_any bQ g M.length c H cur _ _ HH.out.hQ hne R H3.out HL.out k1 k2 HS.out.heap hok (by simp at hm; omega)).mono ?_
  rintro e w2 ⟨rfl, C2, hb2, H2, cur2, R2, s2, l2, P2, I2⟩
  rw [HT.out] at P2
  have HT' := HT.out
  have hlt := heap_lt hb2
  have HB := Lib.hid hb2
  have HS2 := Lib.hid s2
  have HL2 := Lib.hid l2
  clear hb2 s2 l2 HT'
  rw [HT.out]
  have hta : ∀ (v : Value) (w : World), (Instr.typeAssert (.iface 139 v) 20 139 false).run Try.prog w = .ok v w := fun v w => by kernel_rfl
  go_wp2_with fail
  go_quiet (fail)
  go_wp2_with fail
  have Q2 : QueIs w2 bQ (.slice (some ⟨g, 0, none⟩) M.length c) M p := by
    refine ⟨HB.out, ⟨H2, ?_, HS.out.pop P2 (by rw [HL2.out]; exact I2)⟩, fun e => hne (by cases e; rfl), fun y hy => HH.out.ok y (List.mem_cons_of_mem _ hy), by simp at hm; omega, HH.out.pb⟩
    have := R2.owns (c := c) (by rw [HL2.out]; omega) k2 HS2.out
    rwa [HL2.out] at this ⊢
  go_ret3
  have C3 : ∀ o n, Chg [] w2 ((w2.alloc o).drewN n) := fun o n => ((Chg.refl [] w2).alloc o).drewN n
  exact ⟨rfl, (C1.trans C2 (by simp) (fun x hx _ => by simpa [Value.ownBlock] using hx)).trans (C3 _ _) (fun x hx => hx) (by simp), _, Q2.chg (C3 _ _) (by simp) (by simp), rfl⟩
end Go.Proofs.Ytmcbgpjphjacjaa
