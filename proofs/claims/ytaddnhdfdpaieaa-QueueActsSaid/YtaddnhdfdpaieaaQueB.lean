/-
  The queue: the contract of Before.
-/
import Derived.Test.YtaddnhdfdpaieaaQueV
namespace Go.Proofs.Ytaddnhdfdpaieaa
set_option linter.unusedVariables false
open Go.RowKit

/-- Does one come ahead of a moment, or at it? -/
def befB (b : Nat) (x : Ele) : Bool := !decide (keyF b < keyF x.1)

theorem befB_cmp (b : Nat) (x : Ele) : decide ((0 : Int) < cmpF x.1 b) = !befB b x := by
  unfold befB
  rw [Bool.not_not]
  rcases cmpF_tri x.1 b with ⟨h1, h2⟩ | ⟨h1, h2⟩ | ⟨h1, h2⟩ <;> rw [h2]
  · rw [decide_eq_false (by omega), decide_eq_false (by omega)]
  · rw [decide_eq_false (by omega), decide_eq_false (by omega)]
  · rw [decide_eq_true (by omega), decide_eq_true (by omega)]

def intsE (M : List Ele) : List Value := M.map (fun x => Value.int .i64 x.2.1)

theorem infoInt : (Try.prog.info? 3).map (fun i => (i.zero, i.size, i.bytes)) = some (some (.int .i64 0), 1, 8) := by kernel_rfl

def QBefPost (bQ : Nat) (v : Value) (M : List Ele) (p : Nat) (b : Nat) (w : World) (e : Ending) (w' : World) : Prop :=
  ∃ lv v', e = .returned lv ∧ Chg (bQ :: v.ownBlock.toList) w w' ∧ QueIs w' bQ v' (M.dropWhile (befB b)) p ∧ v'.ownBlock = v.ownBlock ∧ w'.ownsRow w.heap.size 3 1 lv (M.takeWhile (befB b)).length (intsE (M.takeWhile (befB b)))

theorem owns_chg {w w' : World} {base : Nat} {e : TypeId} {size : Nat} {v : Value} {n : Nat} {xs : List Value} {S : List Nat} (h : w.ownsRow base e size v n xs) (c : Chg S w w') (hS : ∀ k, v.ownBlock = some k → k ∉ S) : w'.ownsRow base e size v n xs := by
  refine ⟨h.1, h.2.imp id ?_⟩
  rintro ⟨g, cap, cur, rfl, h1, h2, h3⟩
  exact ⟨g, cap, cur, rfl, h1, c.heap h2 (hS g rfl), h3⟩

theorem chg_grown {w w' : World} {row : Option Nat} (h : w.grownBy w' row) : Chg row.toList w w' :=
  ⟨h.os, h.tape, h.output, h.size, fun k hk hS => h.block k hk (fun e => hS (by rw [← e]; simp))⟩

theorem bef_split (b : Nat) (T : List Ele) (x : Ele) (M : List Ele) (h : ∀ y ∈ T, befB b y = true) : (T ++ M).takeWhile (befB b) = T ++ M.takeWhile (befB b) ∧ (T ++ M).dropWhile (befB b) = M.dropWhile (befB b) := by
  induction T with
  | nil => exact ⟨rfl, rfl⟩
  | cons y T ih =>
    have hy := h y List.mem_cons_self
    obtain ⟨i1, i2⟩ := ih (fun z hz => h z (List.mem_cons_of_mem _ hz))
    simp only [List.cons_append, List.takeWhile_cons, List.dropWhile_cons, hy, if_true, i1, i2]
    exact ⟨trivial, trivial⟩

set_option maxHeartbeats 2000000 in
theorem qBefore_any (bQ : Nat) (v : Value) (M : List Ele) (p : Nat) (b : Nat) (w : World) (h : QueIs w bQ v M p) (hb : Wd b) :
    Calls Try.prog 22 #[.pointer (some ⟨bQ, 0, none⟩), .float .f64 b] w (QBefPost bQ v M p b w) := by
  obtain ⟨i0, hi, hz0, hz1, hz2⟩ := info_parts infoInt
  have hlt := h.lt
  have hlt2 := Lib.hid h.lt2
  have hmost := h.most
  go_enter Try.func22, Try.ntmps22
  go_wp2_with fail
  go_loopw [5] (fun lv wr => ∃ (T M1 : List Ele) (v1 : Value), M = T ++ M1 ∧ (∀ y ∈ T, befB b y = true) ∧ QueIs wr bQ v1 M1 p ∧ v1.ownBlock = v.ownBlock ∧ wr.ownsRow w.heap.size 3 1 lv T.length (intsE T) ∧ Chg (bQ :: v.ownBlock.toList) w wr) (fun lv _ => 4096 - (match lv with | .slice _ n _ => n | _ => 0))
  case atStart => exact ⟨[], M, v, rfl, by simp, h, rfl, World.ownsRow_nil _ _ _ _, Chg.refl _ _⟩
  case round =>
    obtain ⟨T, M1, v1, hM, hT, hq, hv, ho, hc⟩ := hrel
    have HM := Lib.hid hM
    have HT := Lib.hid hT
    have HV := Lib.hid hv
    have hsz := hc.size
    have hlen : M.length = T.length + M1.length := by rw [hM]; simp
    clear hM hT hv h
    cases M1 with
    | nil =>
      go_wp2_with fail
      refine (qPeek_none bQ v1 p _ hq).mono ?_
      rintro e w' ⟨rfl, rfl⟩
      go_wp2_with fail
      go_ret
      obtain ⟨e1, e2⟩ := bef_split b T default [] HT.out
      refine ⟨_, v1, rfl, hc, ?_, HV.out, ?_⟩
      · rw [HM.out, e2]; exact hq
      · rw [HM.out, e1]; simpa using ho
    | cons x M2 =>
      have hcmp := befB_cmp b x
      obtain ⟨x1, _⟩ := hq.ok x List.mem_cons_self
      cases hx : befB b x with
      | false =>
        rw [hx] at hcmp
        go_wp2_with fail
        refine (qPeek_any bQ v1 x M2 p _ hq).mono ?_
        rintro e w1 ⟨rfl, C1⟩
        go_wp2_with fail
        refine (compare_any _ _ _ x1 hb).mono ?_
        rintro e w1' ⟨rfl, rfl⟩
        go_wp2_with fail
        go_ret
        obtain ⟨e1, e2⟩ := bef_split b T default (x :: M2) HT.out
        refine ⟨_, v1, rfl, hc.trans C1 (fun y hy => hy) (by simp), ?_, HV.out, ?_⟩
        · rw [HM.out, e2]; simpa [List.dropWhile_cons, hx] using hq.chg C1 (by simp) (by simp)
        · rw [HM.out, e1]; simpa [List.takeWhile_cons, hx] using owns_chg ho C1 (by simp)
      | true =>
        rw [hx] at hcmp
        have HX := Lib.hid hx
        simp only [List.length_cons] at hlen
        go_wp2_with fail
        refine (qPeek_any bQ v1 x M2 p _ hq).mono ?_
        rintro e w1 ⟨rfl, C1⟩
        go_wp2_with fail
        refine (compare_any _ _ _ x1 hb).mono ?_
        rintro e w1' ⟨rfl, rfl⟩
        have hq1 := hq.chg C1 (by simp) (by simp)
        have ho1 := owns_chg ho C1 (by simp)
        go_wp2_with fail
        refine (qPop_any bQ v1 x M2 p _ hq1).mono ?_
        rintro e w2 ⟨rfl, C2, v2, Q2, V2⟩
        have hS : ∀ k, u5.ownBlock = some k → k ∉ bQ :: v1.ownBlock.toList := fun k hk hm => by
          have h1 := (ho1.lt k hk).1
          rcases List.mem_cons.1 hm with h2 | h2
          · omega
          · rw [HV.out] at h2
            have := hlt2.out k (by simpa [Option.mem_toList] using h2)
            omega
        have ho2 := owns_chg ho1 C2 hS
        have HS := Lib.hid hS
        have HV2 := Lib.hid V2
        have s1 := C1.size
        have s2 := C2.size
        clear hS ho1 V2 ho hq hq1
        go_wp2_with (at_builtin; refine wpList_append_own _ rfl _ _ 54 rfl w.heap.size 3 i0 (.int .i64 0) 1 8 Try.underlying54 hi hz0 hz1 hz2 rfl (by decide) _ _ _ rfl (ho2.alloc _) ⟨w2.heap.size, 0, none⟩ 1 1 [.int .i64 x.2.1] rfl rfl (cell_one_new _ _ _) (by simp [Value.oneCell']) (by unfold maxLen; omega) (by omega) (by simp; omega) (fun v' w3 hown3 hg3 _ => ?_))
        have hg : (w2.alloc (Obj.cells #[Value.int .i64 x.2.1] 3)).grownBy w3 u5.ownBlock := hg3
        have C3 : Chg u5.ownBlock.toList w2 w3 := ((Chg.refl [] w2).alloc _).trans (chg_grown hg) (by simp) (fun y hy _ => hy)
        have B5 := fun k hk => (ho2.lt k hk).1
        have hn1 : ∀ k, v2.ownBlock = some k → k < w.heap.size := fun k hk => hlt2.out k (by rw [← HV.out, ← HV2.out]; exact hk)
        obtain ⟨ao5, c5, e5⟩ := owns_slice ho2
        obtain ⟨ao6, c6, e6⟩ := owns_slice hown3
        go_roundw
        case rel =>
          refine ⟨T ++ [x], M2, v2, by rw [HM.out]; simp, ?_, Q2.chg C3 ?_ ?_, by rw [HV2.out, HV.out], ?_, ?_⟩
          · intro y hy
            rcases List.mem_append.1 hy with hy | hy
            · exact HT.out y hy
            · rw [List.mem_singleton.1 hy]; exact HX.out
          · intro hm
            have := B5 bQ (by simpa [Option.mem_toList] using hm)
            omega
          · intro k hk hm
            have h1 := B5 k (by simpa [Option.mem_toList] using hm)
            have h2 := hn1 k hk
            omega
          · have : intsE (T ++ [x]) = intsE T ++ [Value.int .i64 x.2.1] := by simp [intsE]
            rw [this, List.length_append]
            exact hown3
          · refine ((hc.trans C1 (fun y hy => hy) (by simp)).trans C2 (fun y hy => hy) (fun y hy _ => by rwa [HV.out] at hy)).trans C3 (fun y hy => hy) (fun y hy hl => ?_)
            have := B5 y (by simpa [Option.mem_toList] using hy)
            omega
        case measure => rw [e5, e6]; show 4096 - (T.length + 1) < 4096 - T.length; omega
end Go.Proofs.Ytaddnhdfdpaieaa
