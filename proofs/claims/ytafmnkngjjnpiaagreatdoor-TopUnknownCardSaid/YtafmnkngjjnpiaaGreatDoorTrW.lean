import Derived.Test.YtafmnkngjjnpiaaGreatDoorTrS
import Derived.Test.YtafmnkngjjnpiaaGreatDoorTqZ
import Derived.Test.YtafmnkngjjnpiaaGreatDoorTrP
import Derived.Test.YtafmnkngjjnpiaaGreatDoorTqF
import Derived.Test.YtafmnkngjjnpiaaGreatDoorTqC
import Derived.Laws.StructEq
import Derived.ArgAppend
namespace Go.Proofs.YtafmnkngjjnpiaaGreatDoor
set_option maxRecDepth 100000
set_option linter.unusedVariables false
set_option linter.unusedSimpArgs false
theorem line_few (pr : ByteArray) (mode : Int) (count at' : Nat) (hp : pr.size ≤ 256) (hc : count ≤ 1024) : (lineV (bI pr) mode count at' decT).length ≤ 1310 := by
  have h1 := starsV_le mode count hc
  have h2 : (decT (starsV mode count - placeV mode count at')).length ≤ 21 := by
    unfold decT
    rw [List.length_map]
    exact Lib.itoa_length_le _ (by omega) (by omega)
  have h3 := bI_length pr
  unfold lineV
  split
  · simp only [List.length_append, List.length_cons, List.length_nil, List.length_replicate]
    omega
  · simp only [List.length_append, List.length_cons, List.length_nil, List.length_replicate]
    omega
structure Bnd (s : Ss) : Prop where
  b : s.b.l.length ≤ 1024
  w : s.t.c.ws = [] ∧ s.t.c.ss = []
def oL (s : Ss) : Nat := (outP s.t.E).length
theorem wrS_out {s : Ss} (h : Bnd s) (b : List Int) : Bnd (wrS s b).2 ∧ oL (wrS s b).2 = oL s + b.length ∧ (wrS s b).2.d = s.d := by
  have x := writeP_whole s.t h.w b
  unfold wrS oL
  dsimp only
  refine ⟨⟨h.b, x.2.2.1⟩, by rw [x.2.1, List.length_append], rfl⟩
theorem showS_out {pr : ByteArray} {mode : Int} (hp : pr.size ≤ 256) {s : Ss} (h : Bnd s) : Bnd (showS ⟨bI pr, mode⟩ s).2 ∧ oL (showS ⟨bI pr, mode⟩ s).2 ≤ oL s + 1310 ∧ (showS ⟨bI pr, mode⟩ s).2.d = s.d := by
  unfold showS
  dsimp only
  have x := wrS_out h (lineV (bI pr) mode (charsB s.b.l s.b.l.length) (charsB s.b.l s.b.at') decT)
  have l := line_few pr mode (charsB s.b.l s.b.l.length) (charsB s.b.l s.b.at') hp (Nat.le_trans (charsB_le _ _) h.b)
  exact ⟨x.1, by omega, x.2.2⟩
theorem ansS_out {pr : ByteArray} {mode : Int} (hp : pr.size ≤ 256) {s : Ss} (h : Bnd s) (c : Bool) (e : Int) : Bnd (ansS ⟨bI pr, mode⟩ s c e).2 ∧ oL (ansS ⟨bI pr, mode⟩ s c e).2 ≤ oL s + 1310 ∧ (ansS ⟨bI pr, mode⟩ s c e).2.d = s.d := by
  unfold ansS
  split
  · have x := wrS_out h [7]
    exact ⟨x.1, by have : ([7] : List Int).length = 1 := rfl; omega, x.2.2⟩
  · split
    · exact showS_out hp h
    · exact ⟨h, by show oL s ≤ oL s + 1310; omega, rfl⟩
theorem layB_len {b : Bf} {t : List Int} (h : b.l.length ≤ 1024) : (layB 1024 b t).2.l.length ≤ 1024 := by
  unfold layB
  split
  · exact h
  · rename_i hn
    simp only [List.length_append, List.length_take, List.length_drop]
    omega
theorem takeB_len {b : Bf} (h : b.l.length ≤ 1024) {i j : Nat} (hij : i ≤ j) : (takeB b i j).l.length ≤ 1024 := by
  unfold takeB
  simp only [List.length_append, List.length_take, List.length_drop]
  omega
theorem downB_le (l : List Int) : ∀ i, downB l i ≤ i
  | 0 => Nat.le_refl _
  | i + 1 => by
    unfold downB
    split
    · exact Nat.le_refl _
    · exact Nat.le_succ_of_le (downB_le l i)
theorem upB_ge (l : List Int) : ∀ f i, i ≤ upB l f i
  | 0, i => Nat.le_refl _
  | f + 1, i => by
    unfold upB
    split
    · exact Nat.le_refl _
    · exact Nat.le_trans (Nat.le_succ i) (upB_ge l f (i + 1))
theorem moveB_len {b b' : Bf} {k : Int} (h : b.l.length ≤ 1024) (hm : moveB b k = some b') : b'.l.length ≤ 1024 := by
  unfold moveB at hm
  split at hm
  · injection hm with hm; subst hm
    unfold takeB aheadB
    have := downB_le b.l (b.at' - 1)
    simp only [List.length_append, List.length_take, List.length_drop]
    omega
  split at hm
  · injection hm with hm; subst hm
    have := upB_ge b.l b.l.length (min b.l.length (b.at' + 1))
    unfold takeB behindB
    simp only [List.length_append, List.length_take, List.length_drop]
    omega
  split at hm
  · injection hm with hm; subst hm; exact h
  split at hm
  · injection hm with hm; subst hm; exact h
  split at hm
  · injection hm with hm; subst hm; exact h
  split at hm
  · injection hm with hm; subst hm; exact h
  split at hm
  · injection hm with hm; subst hm; exact takeB_len h (Nat.zero_le _)
  split at hm
  · injection hm with hm; subst hm
    unfold takeB
    simp only [List.length_append, List.length_take, List.length_drop]
    omega
  · cases hm
theorem doB_len {b : Bf} (k : Ky) (h : b.l.length ≤ 1024) : (doB 1024 b k).2.2.l.length ≤ 1024 := by
  unfold doB
  split
  · unfold putB
    split
    · exact layB_len h
    · exact h
  · cases hm : moveB b k.kind with
    | none => exact h
    | some b' => exact moveB_len h hm
theorem endS_len {b : Bf} (g : Stg) (h : b.l.length ≤ 1024) : (endS 1024 g b).2.2.l.length ≤ 1024 := by
  unfold endS
  split
  · exact h
  · split
    · exact h
    · unfold insertB
      split
      · exact layB_len h
      · exact h
theorem keyS_out {pr : ByteArray} {mode : Int} (hp : pr.size ≤ 256) {s : Ss} (h : Bnd s) (k : Ky) : Bnd (keyS ⟨bI pr, mode⟩ s k).2 ∧ oL (keyS ⟨bI pr, mode⟩ s k).2 ≤ oL s + 1310 ∧ (keyS ⟨bI pr, mode⟩ s k).2.d = s.d := by
  have r : Bnd s ∧ oL s ≤ oL s + 1310 ∧ s.d = s.d := ⟨h, by omega, rfl⟩
  unfold keyS
  split
  · exact ⟨⟨h.b, h.w⟩, r.2.1, rfl⟩
  split
  · exact ansS_out hp (s := { s with g := (endS 1024 s.g s.b).2.1, b := (endS 1024 s.g s.b).2.2 }) ⟨endS_len s.g h.b, h.w⟩ _ _
  split
  · exact ⟨⟨h.b, h.w⟩, r.2.1, rfl⟩
  split
  · exact r
  split
  · exact r
  split
  · exact r
  split
  · exact showS_out hp h
  · exact ansS_out hp (s := { s with b := (doB 1024 s.b k).2.2 }) ⟨doB_len k h.b, h.w⟩ _ _
theorem keysS_out {pr : ByteArray} {mode : Int} (hp : pr.size ≤ 256) : ∀ (l : List Ky) {s : Ss}, Bnd s → Bnd (keysS ⟨bI pr, mode⟩ s l).2 ∧ oL (keysS ⟨bI pr, mode⟩ s l).2 ≤ oL s + 1310 * l.length
  | [], s, h => ⟨h, by show oL s ≤ _; omega⟩
  | k :: r, s, h => by
    have x := keyS_out (mode := mode) hp h k
    unfold keysS
    rw [List.length_cons]
    split
    · exact ⟨x.1, by dsimp only; omega⟩
    · have y := keysS_out (mode := mode) hp r x.1
      exact ⟨y.1, by omega⟩
theorem byteS_out {pr : ByteArray} {mode : Int} (hp : pr.size ≤ 256) {s : Ss} (h : Bnd s) (c : Int) : Bnd (byteS ⟨bI pr, mode⟩ s c).2 ∧ oL (byteS ⟨bI pr, mode⟩ s c).2 + 1310 * (byteS ⟨bI pr, mode⟩ s c).2.d.h.length ≤ oL s + 1310 * s.d.h.length + 1310 := by
  have f := feedD_len s.d c
  have x := keysS_out (mode := mode) hp (feedD 36 s.d c).1 (s := { s with d := (feedD 36 s.d c).2 }) ⟨h.b, h.w⟩
  have d := keysS_d ⟨bI pr, mode⟩ (feedD 36 s.d c).1 { s with d := (feedD 36 s.d c).2 }
  unfold byteS
  refine ⟨x.1, ?_⟩
  rw [d]
  have e : oL { s with d := (feedD 36 s.d c).2 } = oL s := rfl
  rw [e] at x
  dsimp only
  omega
theorem bytesS_out' {pr : ByteArray} {mode : Int} (hp : pr.size ≤ 256) : ∀ (l : List Int) {s : Ss}, Bnd s → Bnd (bytesS ⟨bI pr, mode⟩ s l).2 ∧ oL (bytesS ⟨bI pr, mode⟩ s l).2 + 1310 * (bytesS ⟨bI pr, mode⟩ s l).2.d.h.length ≤ oL s + 1310 * s.d.h.length + 1310 * l.length
  | [], s, h => ⟨h, Nat.le_refl _⟩
  | c :: r, s, h => by
    have x := byteS_out (mode := mode) hp h c
    rw [bytesS_cons, List.length_cons]
    split
    · exact ⟨x.1, by dsimp only; omega⟩
    · have y := bytesS_out' (mode := mode) hp r x.1
      exact ⟨y.1, by omega⟩
theorem finS_out {pr : ByteArray} {mode : Int} (hp : pr.size ≤ 256) (l : List Int) {s : Ss} (h : Bnd s) (hd : s.d.h = []) : Bnd (finS ⟨bI pr, mode⟩ (bytesS ⟨bI pr, mode⟩ s l)).2 ∧ oL (finS ⟨bI pr, mode⟩ (bytesS ⟨bI pr, mode⟩ s l)).2 ≤ oL s + 1310 * (l.length + 1) := by
  have x := bytesS_out' (mode := mode) hp l h
  rw [hd] at x
  unfold finS
  split
  · exact ⟨x.1, by have : ([] : List Int).length = 0 := rfl; dsimp only; omega⟩
  · have y := keysS_out (mode := mode) hp (lastD (bytesS ⟨bI pr, mode⟩ s l).2.d) (s := { (bytesS ⟨bI pr, mode⟩ s l).2 with d := ⟨[], (bytesS ⟨bI pr, mode⟩ s l).2.d.p⟩ }) ⟨x.1.b, x.1.w⟩
    have hl : (lastD (bytesS ⟨bI pr, mode⟩ s l).2.d).length ≤ 1 := by
      unfold lastD
      split
      · exact Nat.zero_le _
      · split <;> exact Nat.le_refl _
    have h0 : ([] : List Int).length = 0 := rfl
    exact ⟨y.1, Nat.le_trans y.2 (by show oL (bytesS ⟨bI pr, mode⟩ s l).2 + 1310 * (lastD (bytesS ⟨bI pr, mode⟩ s l).2.d).length ≤ _; omega)⟩
theorem sim_out {s1 s2 : Ss} (h : Sim s1 s2) : oL s1 = oL s2 := by unfold oL; rw [h.o]
theorem all_few {pr : ByteArray} {mode : Int} (hp : pr.size ≤ 256) {s s' : Ss} {o : Int} (h : AllR ⟨bI pr, mode⟩ s o s') (k1 : ∀ x ∈ s.t.its, x.kind = 0) (g1 : s.t.c.gs = []) (w1 : s.t.c.ws = [] ∧ s.t.c.ss = [])
    (hE : s.t.E = []) (hb : s.b.l = []) (hd : s.d.h = []) : (outP s'.t.E).length ≤ 1310 * ((flatI s.t.its).length + 3) := by
  have hs : Sim s s := ⟨rfl, rfl, rfl, rfl, w1, w1⟩
  cases h with
  | get h => rw [getP_nil g1] at h; cases h
  | raw h h' => rw [setP_nil (t := (getP s.t).2) _ w1.2] at h'; cases h'
  | talk h h' t1 =>
    rename_i o1 s1
    have b0 := begin_sim hs g1 g1
    have z0 : oL { s with t := (setP (getP s.t).2 (rawA s.t.A)).2 } = 0 := by
      unfold oL
      dsimp only
      rw [(set_shape _ _).1, outP_no _ (show (1 : Int) ≠ 2 by decide), (get_ok (getP_nil g1)).1, outP_no _ (show (0 : Int) ≠ 2 by decide), hE]
      rfl
    have n0 : Bnd { s with t := (setP (getP s.t).2 (rawA s.t.A)).2 } := ⟨by dsimp only; rw [hb]; exact Nat.zero_le _, b0.w1⟩
    have a := wrS_sim b0 startV
    have a2 := wrS_out n0 startV
    have b := showS_sims ⟨bI pr, mode⟩ a.2.2.1
    have b2 := showS_out (mode := mode) hp a2.1
    have w2 := wrS_sim a.2.2.1 (lineV (bI pr) mode (charsB (wrS { s with t := (setP (getP s.t).2 (rawA s.t.A)).2 } startV).2.b.l (wrS { s with t := (setP (getP s.t).2 (rawA s.t.A)).2 } startV).2.b.l.length) (charsB (wrS { s with t := (setP (getP s.t).2 (rawA s.t.A)).2 } startV).2.b.l (wrS { s with t := (setP (getP s.t).2 (rawA s.t.A)).2 } startV).2.b.at') decT)
    have n1 : (showS ⟨bI pr, mode⟩ (wrS { s with t := (setP (getP s.t).2 (rawA s.t.A)).2 } startV).2).1 = none := w2.1
    have fin : oL s1 ≤ 1310 * ((flatI s.t.its).length + 3) := by
      cases t1 with
      | start h => rw [a.1] at h; cases h
      | «show» h h' => rw [n1] at h'; cases h'
      | loop h h' l1 =>
        have i1 : (showS ⟨bI pr, mode⟩ (wrS { s with t := (setP (getP s.t).2 (rawA s.t.A)).2 } startV).2).2.t.its = s.t.its := b.i1.trans a.2.2.2.1
        have r1 := loop_flat l1 (by rw [i1]; exact k1) _ b.s
        rw [i1] at r1
        have f := finS_out (mode := mode) hp (flatI s.t.its) b2.1 (by rw [b2.2.2, a2.2.2]; exact hd)
        have e := sim_out r1.2
        have hby := byeS_sim r1.2
        have y1 := wrS_out f.1 stopV
        have y2 := wrS_out y1.1 closeV
        have e2 := sim_out hby
        have l8 : startV.length = 8 := rfl
        have l8b : stopV.length = 8 := rfl
        have l2 : closeV.length = 2 := rfl
        have e3 : oL (byeS (finS ⟨bI pr, mode⟩ (bytesS ⟨bI pr, mode⟩ (showS ⟨bI pr, mode⟩ (wrS { s with t := (setP (getP s.t).2 (rawA s.t.A)).2 } startV).2).2 (flatI s.t.its))).2) = oL (finS ⟨bI pr, mode⟩ (bytesS ⟨bI pr, mode⟩ (showS ⟨bI pr, mode⟩ (wrS { s with t := (setP (getP s.t).2 (rawA s.t.A)).2 } startV).2).2 (flatI s.t.its))).2 + 8 + 2 := by
          unfold byeS
          rw [y2.2.1, y1.2.1, l8b, l2]
        have h1 := a2.2.1
        have h2 := b2.2.1
        have h3 := f.2
        rw [l8, z0] at h1
        rw [e2, e3]
        omega
    show (outP (setP s1.t s.t.A).2.E).length ≤ _
    rw [(set_shape _ _).1, outP_no _ (show (1 : Int) ≠ 2 by decide)]
    exact fin
end Go.Proofs.YtafmnkngjjnpiaaGreatDoor

namespace Go.Proofs.YtafmnkngjjnpiaaGreatDoor
set_option linter.unusedVariables false
set_option linter.unusedSimpArgs false
set_option maxRecDepth 100000
open Go.RowKit
def toG (n : Nat) (o : Int) (b : List Int) : List Int := if o = 0 ∧ ¬ n < b.length then b ++ List.replicate (n - b.length) 46 else List.replicate n 46
theorem outG_take (n : Nat) (o : Int) (b : List Int) (cur : List Value) : (outG n o b (valsOf .u8 (List.replicate n 46) ++ cur)).take n = valsOf .u8 (toG n o b) := by
  unfold outG toG
  split
  · rename_i h
    have hb : b.length ≤ n := by omega
    have e : splice (valsOf .u8 (List.replicate n 46) ++ cur) 0 (b.map (Value.int .u8)) = valsOf .u8 b ++ (valsOf .u8 (List.replicate n 46) ++ cur).drop b.length := by
      unfold splice
      simp [valsOf]
    rw [e]
    have e2 : (valsOf .u8 (List.replicate n 46) ++ cur).drop b.length = valsOf .u8 (List.replicate (n - b.length) 46) ++ cur := by
      rw [List.drop_append_of_le_length (by rw [valsOf_length, List.length_replicate]; exact hb)]
      unfold valsOf
      rw [← List.map_drop, List.drop_replicate]
    rw [e2, ← List.append_assoc, show valsOf .u8 b ++ valsOf .u8 (List.replicate (n - b.length) 46) = valsOf .u8 (b ++ List.replicate (n - b.length) 46) by simp [valsOf]]
    exact List.take_left' (by rw [valsOf_length, List.length_append, List.length_replicate]; omega)
  · exact List.take_left' (by rw [valsOf_length, List.length_replicate])
def TClean (q : Aq) (st : Ss) (n : Nat) (w : World) (e : Ending) (w' : World) : Prop :=
  ∃ o s' ao c ae ce E, AllR q st o s' ∧ e = .returned (.tuple #[.agg #[.int .i64 (outR n o s'.b.l).1, .int .i64 (outR n o s'.b.l).2, .slice ao n c, .slice ae (List.length E) ce, .int .u32 s'.t.A.fl, .int .u8 s'.t.A.mn, .int .u8 s'.t.A.tm, .bool true], .bool true]) ∧ Chg [] w w' ∧
    E.map EfD.pl = s'.t.E ∧ E.length ≤ maxLen ∧ (∀ y ∈ E, y.zs.length ≤ y.cap) ∧ ∀ W, Chg [] w' W → SrcAt W ao n c (valsOf .u8 (toG n o s'.b.l)) ∧ EffR W ae E.length E
theorem ToldPost.clean {p : PlanD} {pr : ByteArray} {mode : Int} {n : Nat} {w w' : World} {e : Ending} (h : ToldPost p pr mode n w e w') : TClean ⟨bI pr, mode⟩ (startP p) n w e w' := by
  obtain ⟨o, s', ao, c, ae, ce, E, cur, hA, he, hC, hpl, hf, hW⟩ := h
  refine ⟨o, s', ao, c, ae, ce, E, hA, he, hC, hpl, row_few (hW [] (by simp) w' (Chg.refl _ _)).2.1, fun y hy => (hf y hy).2, fun W cW => ?_⟩
  obtain ⟨h1, h2, h3⟩ := hW [] (by simp) W cW
  rw [outG_take] at h1
  exact ⟨h1, effR_of h2 h3⟩
theorem told_one (g : Nat) (ao : Option Addr) (n c : Nat) (zs : List Int) (s : ByteArray) (mode r0 : Int) (room : Nat) (w : World) (h : (planD g ao n c zs).At w) (hn : n = zs.length) (h0 : 0 < n) (h1 : n ≤ 100000) (hby : ByR zs) (ha : AskOk s mode (room : Nat)) (hr : room ≤ 4096) (hL : LibT w) :
    Calls Tryz.prog 28 #[.agg (planD g ao n c zs).cells, .agg #[.string s, .int .i64 mode, .int .i64 r0], .int .i64 (room : Nat)] w (TClean ⟨bI s, mode⟩ (plan1 zs) room w) := by
  have hT := told_ok (planD g ao n c zs) s mode r0 room w h (by
    unfold PlanD.chk planD
    rw [if_neg (by show ¬ 4096 < 1; omega)]
    unfold chkL chk1
    simp
    rfl) ?_ ?_ ?_ ha hr hL (Nat.zero_le _) (Nat.zero_le _) (Nat.zero_le _) ?_ (show (smallB [] && smallB [] && smallB [] && smallB [0]) = true from by kernel_rfl)
  · refine hT.mono fun e w' hp => ?_
    have := hp.clean
    rw [start_plan g ao n c zs hn h0] at this
    exact this
  · intro x hx
    have := List.mem_singleton.1 hx
    subst this
    show i64R 0
    unfold i64R
    omega
  · intro x hx
    have := List.mem_singleton.1 hx
    subst this
    exact hby.take n
  · intro x hx
    have := List.mem_singleton.1 hx
    subst this
    show n ≤ _
    omega
  · show 0 + budI (startP (planD g ao n c zs)).t.its ≤ 900000
    rw [start_plan g ao n c zs hn h0]
    show 0 + ((1 + 2 * zs.length) + 0) ≤ 900000
    omega
end Go.Proofs.YtafmnkngjjnpiaaGreatDoor

namespace Go.Proofs.YtafmnkngjjnpiaaGreatDoor
set_option linter.unusedVariables false
set_option linter.unusedSimpArgs false
set_option maxRecDepth 100000
open Go.RowKit
def SqB (w1 w : World) (v : Value) (l : List Int) : Prop :=
  LnB w1 w v l ∨ ∃ ad n, v = .slice (some ad) n n ∧ SrcAt w (some ad) n n (valsOf .u8 l) ∧ Chg [] w1 w
theorem SqB.on {w1 w w' : World} {v : Value} {l : List Int} (h : SqB w1 w v l) (c : Chg [] w w') : SqB w1 w' v l := by
  rcases h with h | ⟨ad, n, e, hs, hc⟩
  · exact Or.inl (h.on c)
  · exact Or.inr ⟨ad, n, e, hs.chg0 c, hc.trans c (by simp) (by simp)⟩
theorem SqB.chg {w1 w : World} {v : Value} {l : List Int} (h : SqB w1 w v l) : Chg [] w1 w := by
  rcases h with h | ⟨ad, n, e, hs, hc⟩
  · exact h.2
  · exact hc
theorem SqB.src {w1 w : World} {v : Value} {l : List Int} (h : SqB w1 w v l) : ∃ ao c, v = .slice ao l.length c ∧ SrcAt w ao l.length c (valsOf .u8 l) := by
  rcases h with h | ⟨ad, n, e, hs, hc⟩
  · obtain ⟨ao, c, e, hS, _⟩ := owns_srcAt h.1
    exact ⟨ao, c, e, hS⟩
  · have hl := hs.len
    subst hl
    exact ⟨some ad, l.length, e, hs⟩
theorem wp_sq_src {ops : Array Oper} {rest : List Oper} {o : Oper} {a : Act} {Q : Exit → Act → World → Prop} {w1 w : World} (hgd : o.guard = none) (s x : Operand)
    (ho : o.op = .call { callee := .builtin .append, args := #[s, x], argTypes := #[22, 22] }) (v : Value) (l : List Int) (hs : a.eval s = v) (hl : SqB w1 w v l) (ad : Addr) (m c : Nat) (t : List Int)
    (hx : a.eval x = .slice (some ad) m c) (hS : SrcAt w (some ad) m c (valsOf .u8 t)) (hm : 0 < m) (hn : l.length + m ≤ 1000000)
    (h : ∀ v' w', LnB w1 w' v' (l ++ t) → Chg v.ownBlock.toList w w' → wpList Tryz.prog ops Q rest (a.put o.dst v') w') : wpList Tryz.prog ops Q (o :: rest) a w := by
  rcases hl with hl | ⟨ad2, n, e, hs2, hc⟩
  · exact wp_ln_src hgd s x ho v l hs hl (some ad) m c t hx hS hn h
  · obtain ⟨i0, hi, hz0, hz1, hz2⟩ := info_parts infoB
    have ht : t.length = m := by have := hS.1; rwa [valsOf_length] at this
    have hln := hs2.len
    subst ht hln
    refine wpList_append_grows w hgd s x 22 ho 5 i0 (.int .u8 0) 1 1 Tryz.underlying22 hi hz0 hz1 hz2 rfl (by decide) (some ad2) l.length l.length (valsOf .u8 l) (by rw [hs, e]) (fun h => by cases h) (by rw [valsOf_length]; omega) (fun b hb => hs2.2.2 b hb) ad t.length c (valsOf .u8 t) hx (by rw [valsOf_length]; omega) (hS.2.2 ad rfl) (oneCell_vals _ t) (by omega) (by unfold maxLen; omega) (by omega) (fun v' w' o' g' => ?_)
    have cg : Chg [] w w' := Chg.of_grown g'
    refine h v' w' ⟨?_, hc.trans cg (by simp) (by simp)⟩ (cg.trans (Chg.refl _ _) (U := v.ownBlock.toList) (by simp) (fun x hx _ => hx))
    rw [List.length_append, show valsOf .u8 (l ++ t) = valsOf .u8 l ++ valsOf .u8 t by simp [valsOf]]
    exact owns_low o' hc.size
theorem ln_empty (w1 w : World) (h : Chg [] w1 w) : LnB w1 (w.alloc (.cells #[] 5)) (.slice (some ⟨w.heap.size, 0, none⟩) 0 0) [] :=
  ⟨owns_empty w _ _ h.size, h.alloc _⟩
theorem ln_brow {w1 w : World} {v : Value} {l : List Int} (h : LnB w1 w v l) : ∃ ao c, v = .slice ao l.length c ∧ BRow w ao l.length c l := by
  have h' := h
  obtain ⟨ao, c, e, hS⟩ := (show SqB w1 w v l from Or.inl h).src
  refine ⟨ao, c, e, ?_⟩
  subst e
  have hc : l.length ≤ c ∧ c ≤ maxLen := by
    rcases h'.1.2 with ⟨e, h0⟩ | ⟨g, cap, cur, e, _, _, h1, h2, _⟩
    · injection e with _ e2 e3
      rw [e2, e3]
      exact ⟨Nat.le_refl _, Nat.zero_le _⟩
    · injection e with _ _ e3
      rw [e3]
      exact ⟨h1, h2⟩
  exact ⟨hc.1, hc.2, Nat.le_refl _, by rw [List.take_length]; exact hS⟩
theorem ask0 (n : Nat) : AskOk ⟨#[]⟩ 1 (n : Nat) := ⟨by kernel_rfl, by decide, by decide, by decide, by omega⟩
theorem flat_plan1 (zs : List Int) : flatI (plan1 zs).t.its = zs := by
  show [(⟨0, 0, 0, zs⟩ : It)].flatMap (·.bs) = zs
  rw [List.flatMap_cons, List.flatMap_nil, List.append_nil]
theorem same_runs {q : Aq} {z1 z2 : List Int} {o1 o2 : Int} {s1 s2 : Ss} (h1 : AllR q (plan1 z1) o1 s1) (h2 : AllR q (plan1 z2) o2 s2) (ha : Alike q z1 z2) : o1 = o2 ∧ s1.b = s2.b ∧ outP s1.t.E = outP s2.t.E :=
  all_sim h1 h2 ⟨rfl, rfl, rfl, rfl, ⟨rfl, rfl⟩, ⟨rfl, rfl⟩⟩ (fun x hx => by rw [List.mem_singleton.1 hx]) (fun x hx => by rw [List.mem_singleton.1 hx]) rfl rfl rfl rfl (by rw [flat_plan1, flat_plan1]; exact ha)
theorem run_few {pr : ByteArray} {mode : Int} (hp : pr.size ≤ 256) {zs : List Int} {o : Int} {s : Ss} (h : AllR ⟨bI pr, mode⟩ (plan1 zs) o s) (hz : zs.length ≤ 700) : (outP s.t.E).length ≤ 1000000 := by
  have := all_few hp h (fun x hx => by rw [List.mem_singleton.1 hx]) rfl ⟨rfl, rfl⟩ rfl rfl rfl
  rw [flat_plan1] at this
  omega
theorem wpAny_cast {P : Program} {md : Region.Mode} {ops : Array Oper} {Q : Exit → Act → World → Prop} {fuel : Nat} {L L' : Array Bool} {a : Act} {w : World} (h : L = L') (H : wpAny P md ops Q fuel L' a w) : wpAny P md ops Q fuel L a w := h ▸ H
def parU (zs : List Int) : List Int := zs.map fun x => 48 + x % 16
theorem parU_par (zs : List Int) : Par (parU zs) := by
  intro x hx
  unfold parU at hx
  obtain ⟨y, _, rfl⟩ := List.mem_map.1 hx
  omega
theorem parU_take {zs : List Int} {k : Nat} {x : Int} (h : zs[k]? = some x) : parU (zs.take (k + 1)) = parU (zs.take k) ++ [48 + x % 16] := by
  obtain ⟨hk, rfl⟩ := List.getElem?_eq_some_iff.1 h
  unfold parU
  rw [List.take_succ_eq_append_getElem hk, List.map_append]
  rfl
theorem parU_len (zs : List Int) : (parU zs).length = zs.length := by unfold parU; rw [List.length_map]
end Go.Proofs.YtafmnkngjjnpiaaGreatDoor

namespace Go.Proofs.YtafmnkngjjnpiaaGreatDoor
set_option linter.unusedVariables false
set_option linter.unusedSimpArgs false
set_option maxRecDepth 100000
open Go.RowKit
attribute [local go_sem] run_store_float'
structure UnkIn (w : World) where
  a0 : Option Addr
  n0 : Nat
  c0 : Nat
  z0 : List Int
  a1 : Option Addr
  n1 : Nat
  c1 : Nat
  z1 : List Int
  ap : Option Addr
  np : Nat
  cp : Nat
  zp : List Int
  e : Int
  h0 : SrcAt w a0 n0 c0 (valsOf .i64 z0)
  h1 : SrcAt w a1 n1 c1 (valsOf .i64 z1)
  hp : SrcAt w ap np cp (valsOf .u8 zp)
  by' : ByR zp
  he : 0 ≤ e ∧ e < 256
  l0 : n0 ≤ maxLen
  l1 : n1 ≤ maxLen
  lp : np ≤ maxLen
  t : LibT w
set_option maxHeartbeats 32000000 in
theorem unk_big (w : World) (i : UnkIn w) (hi : 60 < i.n0 ∨ 60 < i.n1 ∨ 20 < i.np) :
    Calls Tryz.prog 5 #[.agg #[.slice i.a0 i.n0 i.c0, .slice i.a1 i.n1 i.c1], .slice i.ap i.np i.cp, .int .u8 i.e] w fun e w' => e = .returned (.bool true) ∧ Chg [] w w' := by
  obtain ⟨a0, n0, c0, z0, a1, n1, c1, z1, ap, np, cp, zp, ev, h0, h1, hp, hby, he, l0, l1, lp, hL⟩ := i
  dsimp only at hi ⊢
  have l0' := l0
  have l1' := l1
  have lp' := lp
  unfold maxLen at l0 l1 lp
  have HA := Lib.hid (fun W (c : Chg [] w W) => aliveW_at W (hL.chg0 c))
  have HI := Lib.hid (And.intro h0 (And.intro h1 (And.intro hp (And.intro hby (And.intro he hL)))))
  clear h0 h1 hp hby he hL
  have C1 : Chg [] w (w.alloc (.cells #[.slice a0 n0 c0, .slice a1 n1 c1] 88)) := (Chg.refl _ _).alloc _
  have B1 := alloc_heap w (.cells #[.slice a0 n0 c0, .slice a1 n1 c1] 88)
  have x0 : (w.alloc (.cells #[.slice a0 n0 c0, .slice a1 n1 c1] 88)).cell? ⟨w.heap.size, 0, none⟩ = some (.slice a0 n0 c0) := by rw [cell_of_heap B1]; rfl
  have x1 : (w.alloc (.cells #[.slice a0 n0 c0, .slice a1 n1 c1] 88)).cell? ⟨w.heap.size, 1, none⟩ = some (.slice a1 n1 c1) := by rw [cell_of_heap B1]; rfl
  have HC1 := Lib.hid C1
  clear B1 C1
  have hcase : decide ((60 : Int) < (n0 : Int)) = true ∨ (decide ((60 : Int) < (n0 : Int)) = false ∧ decide ((60 : Int) < (n1 : Int)) = true) ∨ (decide ((60 : Int) < (n0 : Int)) = false ∧ decide ((60 : Int) < (n1 : Int)) = false ∧ decide ((20 : Int) < (np : Int)) = true) := by
    simp only [decide_eq_true_eq, decide_eq_false_iff_not]
    omega
  clear hi
  go_enter Tryz.func5, Tryz.ntmps5
  go_upto_region 1 with (fail)
  generalize World.alloc _ _ = w1 at *
  go_region
  clear x0 x1
  go_wp2_with fail
  refine (HA.out _ HC1.out.drew).mono ?_
  rintro e w2 ⟨rfl, C2⟩
  have D2 := Lib.hid (HC1.out.drew.trans C2 (U := []) (by simp) (by simp))
  clear C2 HC1
  rcases hcase with h | ⟨h, h'⟩ | ⟨h, h', h''⟩
  all_goals (
    go_wp2_with fail
    refine (HA.out _ D2.out).mono ?_
    rintro e w3 ⟨rfl, C3⟩
    go_wp2_with fail
    go_ret
    exact ⟨rfl, D2.out.trans C3 (U := []) (by simp) (by simp)⟩)
set_option maxHeartbeats 32000000 in
theorem unk_few (w : World) (i : UnkIn w) (hi : i.n0 ≤ 60 ∧ i.n1 ≤ 60 ∧ i.np ≤ 20) :
    Calls Tryz.prog 5 #[.agg #[.slice i.a0 i.n0 i.c0, .slice i.a1 i.n1 i.c1], .slice i.ap i.np i.cp, .int .u8 i.e] w fun e w' => e = .returned (.bool true) ∧ Chg [] w w' := by
  obtain ⟨a0, n0, c0, z0, a1, n1, c1, z1, ap, np, cp, zp, ev, h0, h1, hp, hby, he, l0, l1, lp, hL⟩ := i
  dsimp only at hi ⊢
  have l0' := l0
  have l1' := l1
  have lp' := lp
  unfold maxLen at l0 l1 lp
  have HA := Lib.hid (fun W (c : Chg [] w W) => aliveW_at W (hL.chg0 c))
  have HI := Lib.hid (And.intro h0 (And.intro h1 (And.intro hp (And.intro hby (And.intro he hL)))))
  clear h0 h1 hp hby he hL
  have C1 : Chg [] w (w.alloc (.cells #[.slice a0 n0 c0, .slice a1 n1 c1] 88)) := (Chg.refl _ _).alloc _
  have B1 := alloc_heap w (.cells #[.slice a0 n0 c0, .slice a1 n1 c1] 88)
  have x0 : (w.alloc (.cells #[.slice a0 n0 c0, .slice a1 n1 c1] 88)).cell? ⟨w.heap.size, 0, none⟩ = some (.slice a0 n0 c0) := by rw [cell_of_heap B1]; rfl
  have x1 : (w.alloc (.cells #[.slice a0 n0 c0, .slice a1 n1 c1] 88)).cell? ⟨w.heap.size, 1, none⟩ = some (.slice a1 n1 c1) := by rw [cell_of_heap B1]; rfl
  have HC1 := Lib.hid C1
  clear B1 C1
  have d0 : decide ((60 : Int) < (n0 : Int)) = false := by rw [decide_eq_false_iff_not]; omega
  have d1 : decide ((60 : Int) < (n1 : Int)) = false := by rw [decide_eq_false_iff_not]; omega
  have d2 : decide ((20 : Int) < (np : Int)) = false := by rw [decide_eq_false_iff_not]; omega
  have HF := Lib.hid hi
  clear hi l0 l1 l0' l1' lp'
  go_enter Tryz.func5, Tryz.ntmps5
  go_upto_region 1 with (fail)
  generalize World.alloc _ _ = w1 at *
  go_region
  clear x0 x1
  go_wp2_with fail
  refine (HA.out _ HC1.out.drew).mono ?_
  rintro e w2 ⟨rfl, C2⟩
  have D2 := Lib.hid (HC1.out.drew.trans C2 (U := []) (by simp) (by simp))
  clear C2 HC1 HA
  have hc : (convert 22 22 (.slice (some ⟨w2.heap.size, 0, none⟩) 2 2)).run Tryz.prog (w2.alloc (.cells #[Value.int IntKind.u8 27, Value.int IntKind.u8 91] 5)) = .ok (.slice (some ⟨w2.heap.size, 0, none⟩) 2 2) (w2.alloc (.cells #[Value.int IntKind.u8 27, Value.int IntKind.u8 91] 5 (2, 2 + 1))) := Lib.run_convert_bytes_const (P := Tryz.prog) w2 22 5 #[Value.int IntKind.u8 27, Value.int IntKind.u8 91] 2 2 Tryz.underlying22 Tryz.underlying5
  obtain ⟨ao, c, e0, S1, _, C3, _⟩ := out_new [27, 91] w2 5
  injection e0 with e0
  injection e0 with e1 e2 e3
  subst e1 e3
  have HS0 := Lib.hid (And.intro S1 C3)
  unfold valsOf at HS0
  dsimp only [List.map, List.length_cons, List.length_nil] at HS0
  clear S1 C3 e2
  rename_i lf rt
  clear lf rt
  go_upto_region 7 with (fail)
  have HQ0 : Hid (SqB w2 (w2.alloc (.cells #[Value.int IntKind.u8 27, Value.int IntKind.u8 91] 5 (2, 2 + 1))) (.slice (some ⟨w2.heap.size, 0, none⟩) 2 2) [27, 91]) := Lib.hid (Or.inr ⟨_, 2, rfl, HS0.out.1, HS0.out.2⟩)
  clear hc HS0
  generalize World.alloc _ _ = w3 at *
  go_loopw [10, 47] (fun v i wr => ∃ k : Nat, k ≤ np ∧ i = .int .i64 k ∧ SqB w2 wr v ([27, 91] ++ parU (zp.take k))) (fun _ i _ => np - (intOf i).toNat)
  case atStart => exact ⟨0, Nat.zero_le _, rfl, HQ0.out⟩
  case round =>
    obtain ⟨k, hk, rfl, hsq⟩ := hrel
    have C0 := D2.out.trans hsq.chg (U := []) (by simp) (by simp)
    have hzl := HI.out.2.2.1.len
    by_cases hlt : k < np
    · obtain ⟨g, off, rfl, x0⟩ := (HI.out.2.2.1.chg0 C0).int hlt
      have hz : zp[k]? = some (zp.getD k 0) := by rw [List.getD_eq_getElem?_getD, List.getElem?_eq_getElem (by omega)]; rfl
      have hb := HI.out.2.2.2.1 _ (List.mem_of_getElem? hz)
      have htk := parU_take hz
      obtain ⟨x, hx⟩ : ∃ x, zp.getD k 0 = x := ⟨_, rfl⟩
      rw [hx] at x0 htk hb
      obtain ⟨r, hr⟩ : ∃ r, x % 16 = r := ⟨_, rfl⟩
      rw [hr] at htk
      have hr0 : 0 ≤ r ∧ r < 16 := by omega
      have hmod : x.tmod 16 = r := by rw [Int.tmod_eq_emod_of_nonneg hb.1]; exact hr
      obtain ⟨l, hl⟩ : ∃ l, [27, 91] ++ parU (zp.take k) = l := ⟨_, rfl⟩
      have hll : l.length ≤ 100 := by
        rw [← hl]
        have := HF.out.2.2
        simp only [List.length_append, List.length_cons, List.length_nil, parU_len, List.length_take]
        omega
      rw [hl] at hsq
      have HQ := Lib.hid hsq
      have HT := Lib.hid (And.intro htk (And.intro hl hll))
      clear hz hx hr hl htk hll hb hsq C0 hzl
      have S1 : SqB wr (wr.alloc (.cells #[.int .u8 (48 + r)] 5)) (.slice (some ⟨wr.heap.size, 0, none⟩) 1 1) [48 + r] := Or.inl (ln_new wr wr (48 + r) (Chg.refl _ _))
      obtain ⟨ao5, c5, e5, S5⟩ := S1.src
      injection e5 with e6 e7 e8
      subst e6 e8
      have HS1 := Lib.hid (And.intro S5 ((Chg.refl [] wr).alloc (.cells #[.int .u8 (48 + r)] 5)))
      clear S1 S5 e7
      go_upto_region 9 with (fail)
      go_wp2_with (at_builtin; refine wp_sq_src rfl (.tmp 51) (.tmp 55) rfl _ l rfl (HQ.out.on HS1.out.2) ⟨wr.heap.size, 0, none⟩ 1 1 [48 + r] rfl HS1.out.1 (by decide) (by have := HT.out.2.2; omega) (fun v' w' hln' hc' => ?_))
      have ht := HT.out
      refine ⟨⟨k + 1, hlt, by rw [Int.natCast_add]; rfl, ?_⟩, ?_⟩
      · rw [ht.1, ← List.append_assoc, ht.2.1]
        exact Or.inl hln'
      · show np - (k + 1) < np - k
        omega
    · have hkn : k = np := by omega
      subst hkn
      rw [List.take_of_length_le (by omega)] at hsq
      obtain ⟨l, hl⟩ : ∃ l, [27, 91] ++ parU zp = l := ⟨_, rfl⟩
      have hll : l.length ≤ 100 := by
        rw [← hl]
        have := HF.out.2.2
        simp only [List.length_append, List.length_cons, List.length_nil, parU_len]
        omega
      obtain ⟨r, hr⟩ : ∃ r, ev % 63 = r := ⟨_, rfl⟩
      have hr0 : 0 ≤ r ∧ r < 63 := by omega
      have hmod : ev.tmod 63 = r := by rw [Int.tmod_eq_emod_of_nonneg HI.out.2.2.2.2.1.1]; exact hr
      rw [hl] at hsq
      have HQ := Lib.hid hsq
      have HT := Lib.hid (And.intro hl (And.intro hll (And.intro hr hr0)))
      have S1 : SqB wr (wr.alloc (.cells #[.int .u8 (64 + r)] 5)) (.slice (some ⟨wr.heap.size, 0, none⟩) 1 1) [64 + r] := Or.inl (ln_new wr wr (64 + r) (Chg.refl _ _))
      obtain ⟨ao5, c5, e5, S5⟩ := S1.src
      injection e5 with e6 e7 e8
      subst e6 e8
      have HS1 := Lib.hid (And.intro S5 ((Chg.refl [] wr).alloc (.cells #[.int .u8 (64 + r)] 5)))
      have HC0 := Lib.hid C0
      clear S1 S5 e7 hl hll hr hsq hzl C0 HQ0
      go_wp2_with (at_builtin; refine wp_sq_src rfl (.tmp 58) (.tmp 62) rfl _ l rfl (HQ.out.on HS1.out.2) ⟨wr.heap.size, 0, none⟩ 1 1 [64 + r] rfl HS1.out.1 (by decide) (by have := HT.out.2.1; omega) (fun v4 w4 hln4 hc4 => ?_))
      have HLN := Lib.hid hln4
      clear hln4 hc4 HQ HS1 hmod hk hlt
      obtain ⟨sq, hsq⟩ : ∃ sq, l ++ [64 + r] = sq := ⟨_, rfl⟩
      have HSQ : Hid (sq = seqU (parU zp) (64 + r) ∧ 64 ≤ 64 + r ∧ 64 + r ≤ 126 ∧ sq.length ≤ 101) := Lib.hid (by
        have ht := HT.out
        refine ⟨?_, by omega, by omega, ?_⟩
        · rw [← hsq, ← ht.1]
          rfl
        · rw [← hsq, List.length_append]
          have : [64 + r].length = 1 := rfl
          omega)
      rw [hsq] at HLN
      clear hsq HT hr0
      have C04 : Chg [] w w4 := D2.out.trans HLN.out.2 (U := []) (by simp) (by simp)
      obtain ⟨a4, c4, e4, S4⟩ := (show SqB w2 w4 v4 sq from Or.inl HLN.out).src
      subst e4
      refine (known_keys w4).mono ?_
      rintro e w5 ⟨g5, rfl, H5, C5, _⟩
      have D5 := Lib.hid (C04.trans C5 (U := []) (by simp) (by simp))
      have HS5 := Lib.hid (S4.chg0 C5)
      have HK5 := Lib.hid H5
      clear C04 S4 H5 C5 HLN HC0 D2
      obtain ⟨n4, hn4⟩ : ∃ n, n = sq.length := ⟨_, rfl⟩
      rw [← hn4] at HS5 ⊢
      have HN4 := Lib.hid hn4
      clear hn4
      go_upto_region 13 with (fail)
      obtain ⟨w0r, hw0r⟩ : ∃ wo : World, wo = wr := ⟨_, rfl⟩
      subst hw0r
      go_loopw [66] (fun i wr => ∃ j : Nat, j ≤ 15 ∧ i = .int .i64 j ∧ Hid (∀ m, m < j → strOfNums (knownL.getD m []) ≠ strOfNums sq) ∧ Chg [] w5 wr) (fun i _ => 15 - (intOf i).toNat)
      case atStart => exact ⟨0, Nat.zero_le _, rfl, Lib.hid (fun m h => by omega), Chg.refl _ _⟩
      case round =>
        obtain ⟨j, hj, rfl, hd, hC⟩ := hrel
        by_cases hlt : j < 15
        · have x0 : wr.cell? ⟨g5, j, none⟩ = some (.string (strOfNums (knownL.getD j []))) := by
            rw [cell_of_heap (hC.heap HK5.out (by simp)), List.getElem?_toArray, List.getElem?_map, List.getD_eq_getElem?_getD, List.getElem?_eq_getElem (show j < knownL.length from hlt)]
            rfl
          have hcv := tconv_at (HS5.out.chg0 hC)
          have HC := Lib.hid hC
          have HD := Lib.hid hd.out
          obtain ⟨kj, hkj⟩ : ∃ kj, knownL.getD j [] = kj := ⟨_, rfl⟩
          rw [hkj] at x0
          have HKJ := Lib.hid hkj
          clear hC hd hkj
          by_cases hs : strOfNums kj = strOfNums sq
          · have s1 : ((strOfNums kj).toList == (strOfNums sq).toList) = true := by rw [hs]; exact beq_self_eq_true _
            clear hs
            go_wp2_with fail
            go_ret
            exact ⟨rfl, D5.out.trans HC.out (U := []) (by simp) (by simp)⟩
          · have s1 : ((strOfNums kj).toList == (strOfNums sq).toList) = false := beq_eq_false_iff_ne.2 (fun h => hs (str_of_list h))
            have HNE := Lib.hid hs
            clear hs
            go_wp2_with fail
            refine ⟨⟨j + 1, hlt, by rw [Int.natCast_add]; rfl, Lib.hid (fun m hm => ?_), HC.out⟩, ?_⟩
            · rcases Nat.lt_or_ge m j with h | h
              · exact HD.out m h
              · rw [show m = j by omega, HKJ.out]
                exact HNE.out
            · show 15 - (j + 1) < 15 - j
              omega
        · obtain rfl : j = 15 := by omega
          have HKN : Hid (knownK sq = 15) := Lib.hid (known_no (fun k hk => by
            obtain ⟨m, hm, rfl⟩ := List.mem_iff_getElem.1 hk
            have := hd.out m hm
            rw [List.getD_eq_getElem?_getD, List.getElem?_eq_getElem hm] at this
            exact this))
          have D6 := Lib.hid (D5.out.trans hC (U := []) (by simp) (by simp))
          have HS6 := Lib.hid (HS5.out.chg0 hC)
          clear hC hd hj hlt D5 HS5 HK5
          go_wp2_with fail
          refine (textT_any a0 n0 c0 z0 wr (HI.out.1.chg0 D6.out) (by have := HF.out; omega)).mono ?_
          rintro e w6 ⟨v6, rfl, L6⟩
          have hz0 : (textU z0).length ≤ 240 := by
            have h1 := textU_len z0
            have h2 := HI.out.1.1
            rw [valsOf_length] at h2
            have h3 := HF.out
            omega
          have hz1 : (textU z1).length ≤ 240 := by
            have h1 := textU_len z1
            have h2 := HI.out.2.1.1
            rw [valsOf_length] at h2
            have h3 := HF.out
            omega
          have D7 := Lib.hid (D6.out.trans L6.2 (U := []) (by simp) (by simp))
          have HT1 := Lib.hid (textT_any a1 n1 c1 z1 w6 (HI.out.2.1.chg0 D7.out) (by have := HF.out; omega))
          have HBY := Lib.hid (And.intro (textU_by z0) (textU_by z1))
          obtain ⟨t0, ht0⟩ : ∃ t, textU z0 = t := ⟨_, rfl⟩
          obtain ⟨t1, ht1⟩ : ∃ t, textU z1 = t := ⟨_, rfl⟩
          rw [ht0] at L6 hz0 HBY
          rw [ht1] at hz1 HT1 HBY
          have HTT := Lib.hid (And.intro ht0 (And.intro ht1 (And.intro hz0 hz1)))
          clear ht0 ht1 hz0 hz1
          obtain ⟨a6, c6, e6, S6⟩ := (show SqB wr w6 v6 t0 from Or.inl L6).src
          subst e6
          have HS6b := Lib.hid (And.intro S6 (HS6.out.chg0 L6.2))
          clear S6 L6 HS6
          obtain ⟨n6, hn6⟩ : ∃ n, t0.length = n := ⟨_, rfl⟩
          rw [hn6] at HS6b ⊢
          have HN6 := Lib.hid hn6
          clear hn6
          go_wp2_with fail
          refine (HT1.out).mono ?_
          rintro e w7 ⟨v7, rfl, L7⟩
          have HL7 := Lib.hid L7
          have HS7 := Lib.hid (And.intro (HS6b.out.1.chg0 L7.2) (HS6b.out.2.chg0 L7.2))
          clear HT1 L7
          have S13 : SqB w7 (w7.alloc (.cells #[.int .u8 13] 5)) (.slice (some ⟨w7.heap.size, 0, none⟩) 1 1) [13] := Or.inl (ln_new w7 w7 13 (Chg.refl _ _))
          obtain ⟨ao5, c5, e5, S5⟩ := S13.src
          injection e5 with e6 e7 e8
          subst e6 e8
          have HS13 := Lib.hid (And.intro S5 ((Chg.refl [] w7).alloc (.cells #[.int .u8 13] 5)))
          clear S13 S5 e7
          go_upto_region 19 with (at_builtin; refine wp_ln_src rfl (.tmp 80) (.tmp 81) rfl _ t1 rfl (HL7.out.on HS13.out.2) (some ⟨w7.heap.size, 0, none⟩) 1 1 [13] rfl HS13.out.1 (by have := HTT.out.2.2.2; omega) (fun v8 w8 L8' c8' => ?_); obtain ⟨t2, ht2⟩ : ∃ t, t1 ++ [13] = t := ⟨_, rfl⟩; rw [ht2] at L8'; obtain ⟨a8, c8, e8, S8'⟩ := (show SqB w6 w8 v8 t2 from Or.inl L8').src; obtain ⟨n8, hn8⟩ : ∃ n, t2.length = n := ⟨_, rfl⟩; rw [hn8] at S8' e8; subst e8; have L8H := Lib.hid (And.intro L8'.2 (And.intro S8' (And.intro hn8 ht2))); clear c8' L8' S8' hn8 ht2)
          have L8 := L8H.out.1
          have S8 := L8H.out.2.1
          have hn8 := L8H.out.2.2.1
          have ht2 := L8H.out.2.2.2
          have D8 := Lib.hid (D7.out.trans L8 (U := []) (by simp) (by simp))
          have HSS := Lib.hid (And.intro (HS6b.out.1.chg0 L8) (And.intro (HS6b.out.2.chg0 L8) S8))
          have HLE : Hid (t0.length = n6 ∧ n6 ≤ 240 ∧ sq.length = n4 ∧ n4 ≤ 101 ∧ t2.length = n8 ∧ n8 ≤ 241 ∧ 0 < n8) := Lib.hid (by
            have h1 := HN6.out
            have h2 := HTT.out.2.2
            have h3 := HN4.out
            have h4 := HSQ.out.2.2.2
            have h5 : t2.length = t1.length + 1 := by rw [← ht2, List.length_append]; rfl
            omega)
          have HBB : Hid (ByR t0 ∧ ByR sq ∧ ByR t2) := Lib.hid (by
            have hb := HBY.out
            refine ⟨hb.1, ?_, ?_⟩
            · rw [HSQ.out.1]
              intro x hx
              unfold seqU at hx
              simp only [List.mem_cons, List.mem_append, List.not_mem_nil, or_false] at hx
              have hp := parU_par zp
              have he := HSQ.out.2
              rcases hx with h | h | h | h
              · omega
              · omega
              · have := hp x h; omega
              · omega
            · rw [← ht2]
              intro x hx
              rcases List.mem_append.1 hx with h | h
              · exact hb.2 x h
              · rw [List.mem_singleton.1 h]; decide)
          clear S8 hn8 ht2 HL7 HS7 HS13 HS6b HN6 L8
          have E1 : LnB w8 (w8.alloc (.cells #[] 5)) (.slice (some ⟨w8.heap.size, 0, none⟩) 0 0) [] := ln_empty w8 w8 (Chg.refl _ _)
          have HE1 := Lib.hid (And.intro E1 (And.intro (HSS.out.1.chg0 E1.2) (And.intro (HSS.out.2.1.chg0 E1.2) (HSS.out.2.2.chg0 E1.2))))
          clear E1
          go_wp2_with (first
            | (at_builtin; refine wp_ln_src rfl (.tmp 84) (.tmp 85) rfl _ [] (by rfl) HE1.out.1 a6 n6 c6 t0 (by rfl) HE1.out.2.1 (by have := HLE.out; simp only [List.length_append, List.length_nil]; omega) (fun v10 w10 L10' c10' => ?_); have H10 := Lib.hid (And.intro L10' (And.intro (HSS.out.1.chg0 L10'.2) (And.intro (HSS.out.2.1.chg0 L10'.2) (HSS.out.2.2.chg0 L10'.2)))); clear c10' L10')
            | (at_builtin; refine wp_ln_src rfl (.tmp 86) (.tmp 87) rfl _ ([] ++ t0) (by rfl) H10.out.1 a4 n4 c4 sq (by rfl) H10.out.2.2.1 (by have := HLE.out; simp only [List.length_append, List.length_nil]; omega) (fun v11 w11 L11' c11' => ?_); have H11 := Lib.hid (And.intro L11' (And.intro (HSS.out.1.chg0 L11'.2) (And.intro (HSS.out.2.1.chg0 L11'.2) (HSS.out.2.2.chg0 L11'.2)))); clear c11' L11')
            | (at_builtin; refine wp_ln_src rfl (.tmp 88) (.tmp 89) rfl _ (([] ++ t0) ++ sq) (by rfl) H11.out.1 a8 n8 c8 t2 (by rfl) H11.out.2.2.2 (by have := HLE.out; simp only [List.length_append, List.length_nil]; omega) (fun v12 w12 L12' c12' => ?_); have H12 := Lib.hid (And.intro L12' (And.intro (HSS.out.1.chg0 L12'.2) (And.intro (HSS.out.2.1.chg0 L12'.2) (HSS.out.2.2.chg0 L12'.2)))); obtain ⟨zs1, hzs1⟩ : ∃ z, ((([] ++ t0) ++ sq) ++ t2) = z := ⟨_, rfl⟩; rw [hzs1] at L12'; obtain ⟨aa1, cc1, ee1, BB1⟩ := ln_brow L12'; obtain ⟨nn1, hnn1⟩ : ∃ n, n = zs1.length := ⟨_, rfl⟩; rw [← hnn1] at BB1 ee1; subst ee1; have HB1 := Lib.hid (And.intro BB1 (And.intro hzs1 (And.intro hnn1 L12'.2))); clear BB1 c12' L12' hzs1 hnn1))
          have HLN1 : Hid (0 < (((([] ++ t0) ++ sq) ++ t2)).length ∧ (((([] ++ t0) ++ sq) ++ t2)).length ≤ 700 ∧ ByR (((([] ++ t0) ++ sq) ++ t2))) := Lib.hid (by
            have h1 := HLE.out
            have h2 := HBB.out
            refine ⟨?_, ?_, ?_⟩
            · simp only [List.length_append, List.length_nil]; omega
            · simp only [List.length_append, List.length_nil]; omega
            · intro x hx
              simp only [List.mem_append, List.not_mem_nil, false_or] at hx
              rcases hx with (hx | hx) | hx
              · exact h2.1 x hx
              · exact h2.2.1 x hx
              · exact h2.2.2 x hx)
          rw [HB1.out.2.1] at HLN1
          have HZ1 := Lib.hid HB1.out.2.1
          rw [← HB1.out.2.2.1] at HLN1
          have HN1 := Lib.hid HB1.out.2.2.1
          have D1a := Lib.hid (D8.out.trans HB1.out.2.2.2 (U := []) (by simp) (by simp))
          refine (plan_any aa1 nn1 cc1 zs1 _ HB1.out.1).mono ?_
          rintro e w1p ⟨g1, rfl, P1, C1p⟩
          have D1p := Lib.hid (D1a.out.trans C1p (U := []) (by simp) (by simp))
          have HT1 := Lib.hid (told_one g1 aa1 nn1 cc1 zs1 ⟨#[]⟩ 1 0 1024 _ P1 HN1.out HLN1.out.1 (by have := HLN1.out.2.1; omega) HLN1.out.2.2 (ask0 1024) (by decide) (HI.out.2.2.2.2.2.chg0 D1p.out))
          have HP1 := Lib.hid (And.intro (H12.out.2.1.chg0 C1p) (And.intro (H12.out.2.2.1.chg0 C1p) (H12.out.2.2.2.chg0 C1p)))
          clear P1 C1p HB1 H10 H11 H12 HE1 D1a HSS
          unfold PlanD.cells planD at HT1 ⊢
          dsimp only at HT1 ⊢
          go_wp2_with fail
          refine (HT1.out).mono ?_
          rintro e w1t ⟨o1, s1, ao1, cp1, ae1, ce1, F1, hA1, rfl, CT1, hm1, hx1, hy1, hW1⟩
          have D1t := Lib.hid (D1p.out.trans CT1 (U := []) (by simp) (by simp))
          have HSS := Lib.hid (And.intro (HP1.out.1.chg0 CT1) (And.intro (HP1.out.2.1.chg0 CT1) (HP1.out.2.2.chg0 CT1)))
          obtain ⟨r1, hr1⟩ : ∃ r, (outR 1024 o1 s1.b.l).1 = r := ⟨_, rfl⟩
          obtain ⟨q1, hq1⟩ : ∃ r, (outR 1024 o1 s1.b.l).2 = r := ⟨_, rfl⟩
          rw [hr1, hq1]
          obtain ⟨f1, hf1⟩ : ∃ f, s1.t.A.fl = f := ⟨_, rfl⟩
          obtain ⟨i1, hi1⟩ : ∃ f, s1.t.A.mn = f := ⟨_, rfl⟩
          obtain ⟨u1, hu1⟩ : ∃ f, s1.t.A.tm = f := ⟨_, rfl⟩
          rw [hf1, hi1, hu1]
          obtain ⟨m1, hmm1⟩ : ∃ n, F1.length = n := ⟨_, rfl⟩
          rw [hmm1] at hx1 hW1 ⊢
          have HO1 := Lib.hid (And.intro hA1 (And.intro hm1 (And.intro hx1 (And.intro hy1 (And.intro hW1 (And.intro hr1 hq1))))))
          clear hA1 hm1 hx1 hy1 hW1 hr1 hq1 hf1 hi1 hu1 hmm1 CT1 HP1 HT1 D1p
          go_upto_region 20 with (fail)
          have CX1 : Chg [] w1t (w1t.alloc (.cells #[.int .i64 r1, .int .i64 q1, .slice ao1 1024 cp1, .slice ae1 m1 ce1, .int .u32 f1, .int .u8 i1, .int .u8 u1, .bool true] 82)) := (Chg.refl _ _).alloc _
          have BX1 := Lib.hid (And.intro (alloc_heap w1t (.cells #[.int .i64 r1, .int .i64 q1, .slice ao1 1024 cp1, .slice ae1 m1 ce1, .int .u32 f1, .int .u8 i1, .int .u8 u1, .bool true] 82)) CX1)
          have D1b := Lib.hid (D1t.out.trans CX1 (U := []) (by simp) (by simp))
          have HSSo := HSS.out
          clear HSS
          have HSS := Lib.hid (And.intro (HSSo.1.chg0 CX1) (And.intro (HSSo.2.1.chg0 CX1) (HSSo.2.2.chg0 CX1)))
          clear HSSo CX1
          generalize w1t.alloc _ = w1b at *
          generalize w1t.heap.size = b1 at *
          have DB := Lib.hid (Chg.refl [] w1b)
          have E2 : LnB w1b (w1b.alloc (.cells #[] 5)) (.slice (some ⟨w1b.heap.size, 0, none⟩) 0 0) [] := ln_empty w1b w1b (Chg.refl _ _)
          have HE2 := Lib.hid (And.intro E2 (And.intro (HSS.out.1.chg0 E2.2) (And.intro (HSS.out.2.1.chg0 E2.2) (HSS.out.2.2.chg0 E2.2))))
          clear E2
          go_wp2_with (first
            | (at_builtin; refine wp_ln_src rfl (.tmp 97) (.tmp 98) rfl _ [] (by rfl) HE2.out.1 a6 n6 c6 t0 (by rfl) HE2.out.2.1 (by have := HLE.out; simp only [List.length_append, List.length_nil]; omega) (fun v20 w20 L20' c20' => ?_); have H20 := Lib.hid (And.intro L20' (And.intro (HSS.out.1.chg0 L20'.2) (And.intro (HSS.out.2.1.chg0 L20'.2) (HSS.out.2.2.chg0 L20'.2)))); clear c20' L20')
            | (at_builtin; refine wp_ln_src rfl (.tmp 99) (.tmp 100) rfl _ ([] ++ t0) (by rfl) H20.out.1 a8 n8 c8 t2 (by rfl) H20.out.2.2.2 (by have := HLE.out; simp only [List.length_append, List.length_nil]; omega) (fun v22 w22 L22' c22' => ?_); have H22 := Lib.hid (And.intro L22' (And.intro (HSS.out.1.chg0 L22'.2) (And.intro (HSS.out.2.1.chg0 L22'.2) (HSS.out.2.2.chg0 L22'.2)))); obtain ⟨zs2, hzs2⟩ : ∃ z, (([] ++ t0) ++ t2) = z := ⟨_, rfl⟩; rw [hzs2] at L22'; obtain ⟨aa2, cc2, ee2, BB2⟩ := ln_brow L22'; obtain ⟨nn2, hnn2⟩ : ∃ n, n = zs2.length := ⟨_, rfl⟩; rw [← hnn2] at BB2 ee2; subst ee2; have HB2 := Lib.hid (And.intro BB2 (And.intro hzs2 (And.intro hnn2 L22'.2))); clear BB2 c22' L22' hzs2 hnn2))
          have HLN2 : Hid (0 < (([] ++ t0) ++ t2).length ∧ (([] ++ t0) ++ t2).length ≤ 700 ∧ ByR (([] ++ t0) ++ t2)) := Lib.hid (by
            have h1 := HLE.out
            have h2 := HBB.out
            refine ⟨?_, ?_, ?_⟩
            · simp only [List.length_append, List.length_nil]; omega
            · simp only [List.length_append, List.length_nil]; omega
            · intro x hx
              simp only [List.mem_append, List.not_mem_nil, false_or] at hx
              rcases hx with hx | hx
              · exact h2.1 x hx
              · exact h2.2.2 x hx)
          rw [HB2.out.2.1] at HLN2
          have HZ2 := Lib.hid HB2.out.2.1
          rw [← HB2.out.2.2.1] at HLN2
          have HN2 := Lib.hid HB2.out.2.2.1
          have D2a := Lib.hid (DB.out.trans HB2.out.2.2.2 (U := []) (by simp) (by simp))
          refine (plan_any aa2 nn2 cc2 zs2 _ HB2.out.1).mono ?_
          rintro e w2p ⟨g2, rfl, P2, C2p⟩
          have D2p := Lib.hid (D2a.out.trans C2p (U := []) (by simp) (by simp))
          have HT2 := Lib.hid (told_one g2 aa2 nn2 cc2 zs2 ⟨#[]⟩ 1 0 1024 _ P2 HN2.out HLN2.out.1 (by have := HLN2.out.2.1; omega) HLN2.out.2.2 (ask0 1024) (by decide) (HI.out.2.2.2.2.2.chg0 (D1b.out.trans D2p.out (U := []) (by simp) (by simp))))
          have HP2 := Lib.hid (And.intro (H22.out.2.1.chg0 C2p) (And.intro (H22.out.2.2.1.chg0 C2p) (H22.out.2.2.2.chg0 C2p)))
          clear P2 C2p HB2 H20 H22 HE2 D2a HSS
          unfold PlanD.cells planD at HT2 ⊢
          dsimp only at HT2 ⊢
          go_wp2_with fail
          refine (HT2.out).mono ?_
          rintro e w2t ⟨o2, s2, ao2, cp2, ae2, ce2, F2, hA2, rfl, CT2, hm2, hx2, hy2, hW2⟩
          have D2t := Lib.hid (D2p.out.trans CT2 (U := []) (by simp) (by simp))
          have HSS := Lib.hid (And.intro (HP2.out.1.chg0 CT2) (And.intro (HP2.out.2.1.chg0 CT2) (HP2.out.2.2.chg0 CT2)))
          obtain ⟨r2, hr2⟩ : ∃ r, (outR 1024 o2 s2.b.l).1 = r := ⟨_, rfl⟩
          obtain ⟨q2, hq2⟩ : ∃ r, (outR 1024 o2 s2.b.l).2 = r := ⟨_, rfl⟩
          rw [hr2, hq2]
          obtain ⟨f2, hf2⟩ : ∃ f, s2.t.A.fl = f := ⟨_, rfl⟩
          obtain ⟨i2, hi2⟩ : ∃ f, s2.t.A.mn = f := ⟨_, rfl⟩
          obtain ⟨u2, hu2⟩ : ∃ f, s2.t.A.tm = f := ⟨_, rfl⟩
          rw [hf2, hi2, hu2]
          obtain ⟨m2, hmm2⟩ : ∃ n, F2.length = n := ⟨_, rfl⟩
          rw [hmm2] at hx2 hW2 ⊢
          have HO2 := Lib.hid (And.intro hA2 (And.intro hm2 (And.intro hx2 (And.intro hy2 (And.intro hW2 (And.intro hr2 hq2))))))
          clear hA2 hm2 hx2 hy2 hW2 hr2 hq2 hf2 hi2 hu2 hmm2 CT2 HP2 HT2 D2p
          go_upto_region 21 with (fail)
          have CX2 : Chg [] w2t (w2t.alloc (.cells #[.int .i64 r2, .int .i64 q2, .slice ao2 1024 cp2, .slice ae2 m2 ce2, .int .u32 f2, .int .u8 i2, .int .u8 u2, .bool true] 82)) := (Chg.refl _ _).alloc _
          have BX2 := alloc_heap w2t (.cells #[.int .i64 r2, .int .i64 q2, .slice ao2 1024 cp2, .slice ae2 m2 ce2, .int .u32 f2, .int .u8 i2, .int .u8 u2, .bool true] 82)
          have CT : Chg [] w1b (w2t.alloc (.cells #[.int .i64 r2, .int .i64 q2, .slice ao2 1024 cp2, .slice ae2 m2 ce2, .int .u32 f2, .int .u8 i2, .int .u8 u2, .bool true] 82)) := D2t.out.trans CX2 (U := []) (by simp) (by simp)
          have X1 := CT.heap BX1.out.1 (by simp)
          have DF := Lib.hid (D1b.out.trans CT (U := []) (by simp) (by simp))
          have K1 := Lib.hid (BX1.out.2.trans CT (U := []) (by simp) (by simp))
          have K2 := Lib.hid CX2
          clear CX2 CT HSS DB D1b D2t BX1 D1t
          generalize w2t.alloc _ = wF at *
          generalize w2t.heap.size = b2 at *
          have hal : Alike ⟨bI ⟨#[]⟩, 1⟩ zs1 zs2 := by
            have h := alike_seq ⟨bI ⟨#[]⟩, 1⟩ z0 (parU_par zp) (by have h1 := parU_len zp; have h2 := HI.out.2.2.1.len; have h3 := HF.out; omega) ⟨HSQ.out.2.1, HSQ.out.2.2.1⟩ (by rw [← HSQ.out.1]; exact HKN.out) t2
            rw [HTT.out.1, ← HSQ.out.1] at h
            rw [← HZ1.out, ← HZ2.out, List.nil_append, List.append_assoc]
            exact h
          obtain ⟨ho, hb, hout⟩ := same_runs HO1.out.1 HO2.out.1 hal
          have er : r1 = r2 := by rw [← HO1.out.2.2.2.2.2.1, ← HO2.out.2.2.2.2.2.1, ho, hb]
          have eq : q1 = q2 := by rw [← HO1.out.2.2.2.2.2.2, ← HO2.out.2.2.2.2.2.2, ho, hb]
          subst er eq
          have S1 := (HO1.out.2.2.2.2.1 _ K1.out.drew).1
          have S2 := (HO2.out.2.2.2.2.1 _ K2.out.drew).1
          rw [← ho, ← hb] at S2
          obtain ⟨tg, htg⟩ : ∃ t, toG 1024 o1 s1.b.l = t := ⟨_, rfl⟩
          rw [htg] at S1 S2
          have k1 := tconv_at S1
          have k2 := tconv_at S2
          obtain ⟨ou, hou1⟩ : ∃ u, outP s1.t.E = u := ⟨_, rfl⟩
          have hou2 : outP s2.t.E = ou := hout.symm.trans hou1
          obtain ⟨lo, hlo⟩ : ∃ n, ou.length = n := ⟨_, rfl⟩
          have b1c0 : wF.drew.cell? ⟨b1, 0, none⟩ = some (.int .i64 r1) := by rw [cell_of_heap (drew_heap X1)]; rfl
          have b1c1 : wF.drew.cell? ⟨b1, 1, none⟩ = some (.int .i64 q1) := by rw [cell_of_heap (drew_heap X1)]; rfl
          have b1c2 : wF.drew.cell? ⟨b1, 2, none⟩ = some (.slice ao1 1024 cp1) := by rw [cell_of_heap (drew_heap X1)]; rfl
          have b1c3 : wF.drew.cell? ⟨b1, 3, none⟩ = some (.slice ae1 m1 ce1) := by rw [cell_of_heap (drew_heap X1)]; rfl
          have b2c0 : wF.drew.cell? ⟨b2, 0, none⟩ = some (.int .i64 r1) := by rw [cell_of_heap (drew_heap BX2)]; rfl
          have b2c1 : wF.drew.cell? ⟨b2, 1, none⟩ = some (.int .i64 q1) := by rw [cell_of_heap (drew_heap BX2)]; rfl
          have b2c2 : wF.drew.cell? ⟨b2, 2, none⟩ = some (.slice ao2 1024 cp2) := by rw [cell_of_heap (drew_heap BX2)]; rfl
          have b2c3 : wF.drew.cell? ⟨b2, 3, none⟩ = some (.slice ae2 m2 ce2) := by rw [cell_of_heap (drew_heap BX2)]; rfl
          have HR1 : Hid (∀ W, Chg [] wF.drew W → Calls Tryz.prog 37 #[.slice ae1 m1 ce1] W fun e w' => ∃ a c, e = .returned (.slice a lo c) ∧ SrcAt w' a lo c (valsOf .u8 ou) ∧ Chg [] W w') := Lib.hid (fun W cW => by
            have hz := run_few (pr := ⟨#[]⟩) (by decide) HO1.out.1 (by rw [← HN1.out]; exact HLN1.out.2.1)
            rw [← HO1.out.2.1] at hz
            have := written_any ae1 m1 ce1 F1 W (HO1.out.2.2.2.2.1 W (K1.out.drew.trans cW (U := []) (by simp) (by simp))).2 HO1.out.2.2.1 HO1.out.2.2.2.1 hz
            unfold WritPost at this
            rw [HO1.out.2.1, hou1, hlo] at this
            exact this)
          have HL1 : Hid (∀ W, Chg [] wF.drew W → W.cell? ⟨b1, 3, none⟩ = some (.slice ae1 m1 ce1)) := Lib.hid (fun W cW => cW.cell b1c3 (by simp))
          have HR2 : Hid (∀ W, Chg [] wF.drew W → Calls Tryz.prog 37 #[.slice ae2 m2 ce2] W fun e w' => ∃ a c, e = .returned (.slice a lo c) ∧ SrcAt w' a lo c (valsOf .u8 ou) ∧ Chg [] W w') := Lib.hid (fun W cW => by
            have hz := run_few (pr := ⟨#[]⟩) (by decide) HO2.out.1 (by rw [← HN2.out]; exact HLN2.out.2.1)
            rw [← HO2.out.2.1] at hz
            have := written_any ae2 m2 ce2 F2 W (HO2.out.2.2.2.2.1 W (K2.out.drew.trans cW (U := []) (by simp) (by simp))).2 HO2.out.2.2.1 HO2.out.2.2.2.1 hz
            unfold WritPost at this
            rw [HO2.out.2.1, hou2, hlo] at this
            exact this)
          have HL2 : Hid (∀ W, Chg [] wF.drew W → W.cell? ⟨b2, 3, none⟩ = some (.slice ae2 m2 ce2)) := Lib.hid (fun W cW => cW.cell b2c3 (by simp))
          have DG := Lib.hid DF.out.drew
          have HC0g := Lib.hid (Chg.refl [] wF.drew)
          clear S1 S2 htg hou1 hou2 hlo ho hb hout hal X1 BX2 HO1 HO2 HLN1 HLN2 HN1 HN2 HZ1 HZ2 K1 K2 DF HLE HBB HTT HSQ HKN HN4 HBY L8H D8 D6 D7
          refine wp_region_any (by kernel_rfl) ?_
          try (change wpAny _ _ _ _ _ _ _ (World.drew _))
          generalize World.drew _ = wG at *
          refine wpAny_take (i := 0) (v := ?_) rfl (by kernel_rfl) (by kernel_rfl) (by kernel_rfl) (fun _ _ _ h => h) (Or.inl ⟨by kernel_rfl, ?_⟩) ?_
          rotate_left
          focus ((intro w; go_simp); try with_reducible rfl)
          refine wpAny_take (i := 1) (v := ?_) rfl (by kernel_rfl) (by kernel_rfl) (by kernel_rfl) (fun _ _ _ h => h) (Or.inl ⟨by kernel_rfl, ?_⟩) ?_
          rotate_left
          focus ((intro w; go_simp); try with_reducible rfl)
          refine wpAny_take (i := 2) (v := ?_) rfl (by kernel_rfl) (by kernel_rfl) (by kernel_rfl) (fun _ _ _ h => h) (Or.inl ⟨by kernel_rfl, ?_⟩) ?_
          rotate_left
          focus ((intro w; go_simp); try with_reducible rfl)
          refine wpAny_take (i := 3) (v := ?_) rfl (by kernel_rfl) (by kernel_rfl) (by kernel_rfl) (fun _ _ _ h => h) (Or.inl ⟨by kernel_rfl, ?_⟩) ?_
          rotate_left
          focus ((intro w; go_simp); try with_reducible rfl)
          refine wpAny_take (i := 4) (v := ?_) rfl (by kernel_rfl) (by kernel_rfl) (by kernel_rfl) (fun _ _ _ h => h) (Or.inl ⟨by kernel_rfl, ?_⟩) ?_
          rotate_left
          focus ((intro w; go_simp); try with_reducible rfl)
          refine wpAny_take (i := 5) (v := ?_) rfl (by kernel_rfl) (by kernel_rfl) (by kernel_rfl) (fun _ _ _ h => h) (Or.inl ⟨by kernel_rfl, ?_⟩) ?_
          rotate_left
          focus ((intro w; go_simp); try with_reducible rfl)
          refine wpAny_take (i := 7) (v := ?_) rfl (by kernel_rfl) (by kernel_rfl) (by kernel_rfl) (fun _ _ _ h => h) (Or.inl ⟨by kernel_rfl, ?_⟩) ?_
          rotate_left
          focus ((intro w; go_simp); try with_reducible rfl)
          refine wpAny_ready (rs := [6, 8]) (by kernel_rfl) (by simp) ?_
          refine AllReady.cons rfl (fun K hK => ?_) (AllReady.cons rfl (fun K hK => ?_) AllReady.nil)
          go_simp
          refine hK _ _ ?_
          clear hK K
          refine wpAny_ready (rs := [8]) (by kernel_rfl) (by simp) ?_
          refine AllReady.cons rfl (fun K hK => ?_) AllReady.nil
          go_simp
          refine hK _ _ ?_
          clear hK K
          refine wpAny_cast (L' := #[true, true, true, true, true, true, true, true, true, false, false, false, false, false, false, false, false, false, false, false, false, false, false, false, false, false, false, false, false, false, false, false]) (by kernel_rfl) ?_
          refine ?finA
          rotate_left
          go_simp
          refine hK _ _ ?_
          clear hK K
          refine wpAny_ready (rs := [6]) (by kernel_rfl) (by simp) ?_
          refine AllReady.cons rfl (fun K hK => ?_) AllReady.nil
          go_simp
          refine hK _ _ ?_
          clear hK K
          refine wpAny_cast (L' := #[true, true, true, true, true, true, true, true, true, false, false, false, false, false, false, false, false, false, false, false, false, false, false, false, false, false, false, false, false, false, false, false]) (by kernel_rfl) ?_
          exact ?finA
          refine wpAny_take (i := 9) (v := ?_) rfl (by kernel_rfl) (by kernel_rfl) (by kernel_rfl) (fun _ _ _ h => h) (Or.inl ⟨by kernel_rfl, ?_⟩) ?_
          rotate_left
          focus ((intro w; go_simp); try with_reducible rfl)
          refine wpAny_take (i := 10) (v := ?_) rfl (by kernel_rfl) (by kernel_rfl) (by kernel_rfl) (fun _ _ _ h => h) (Or.inl ⟨by kernel_rfl, ?_⟩) ?_
          rotate_left
          focus ((intro w; go_simp); try with_reducible rfl)
          refine wpAny_take (i := 11) (v := ?_) rfl (by kernel_rfl) (by kernel_rfl) (by kernel_rfl) (fun _ _ _ h => h) (Or.inl ⟨by kernel_rfl, ?_⟩) ?_
          rotate_left
          focus ((intro w; go_simp); try with_reducible rfl)
          refine wpAny_take (i := 12) (v := ?_) rfl (by kernel_rfl) (by kernel_rfl) (by kernel_rfl) (fun _ _ _ h => h) (Or.inl ⟨by kernel_rfl, ?_⟩) ?_
          rotate_left
          focus ((intro w; go_simp); try with_reducible rfl)
          refine wpAny_take (i := 15) (v := ?_) rfl (by kernel_rfl) (by kernel_rfl) (by kernel_rfl) (fun _ _ _ h => h) (Or.inl ⟨by kernel_rfl, ?_⟩) ?_
          rotate_left
          focus ((intro w; go_simp); try with_reducible rfl)
          refine wpAny_ready (rs := [13, 16]) (by kernel_rfl) (by simp) ?_
          refine AllReady.cons rfl (fun K hK => ?_) (AllReady.cons rfl (fun K hK => ?_) AllReady.nil)
          go_simp
          refine hK _ _ ?_
          clear hK K
          refine wpAny_ready (rs := [14, 16]) (by kernel_rfl) (by simp) ?_
          refine AllReady.cons rfl (fun K hK => ?_) (AllReady.cons rfl (fun K hK => ?_) AllReady.nil)
          go_simp
          refine hK _ _ ?_
          clear hK K
          refine wpAny_ready (rs := [16]) (by kernel_rfl) (by simp) ?_
          refine AllReady.cons rfl (fun K hK => ?_) AllReady.nil
          go_simp
          refine hK _ _ ?_
          clear hK K
          refine wpAny_ready (rs := [17]) (by kernel_rfl) (by simp) ?_
          refine AllReady.cons rfl (fun K hK => ?_) AllReady.nil
          go_simp
          refine hK _ _ ?_
          clear hK K
          refine wpAny_cast (L' := #[true, true, true, true, true, true, true, true, true, true, true, true, true, true, true, true, true, true, false, false, false, false, false, false, false, false, false, false, false, false, false, false]) (by kernel_rfl) ?_
          refine ?finB
          rotate_left
          go_simp
          refine hK _ _ ?_
          clear hK K
          refine wpAny_ready (rs := [14, 17]) (by kernel_rfl) (by simp) ?_
          refine AllReady.cons rfl (fun K hK => ?_) (AllReady.cons rfl (fun K hK => ?_) AllReady.nil)
          go_simp
          refine hK _ _ ?_
          clear hK K
          refine wpAny_ready (rs := [17]) (by kernel_rfl) (by simp) ?_
          refine AllReady.cons rfl (fun K hK => ?_) AllReady.nil
          go_simp
          refine hK _ _ ?_
          clear hK K
          refine wpAny_cast (L' := #[true, true, true, true, true, true, true, true, true, true, true, true, true, true, true, true, true, true, false, false, false, false, false, false, false, false, false, false, false, false, false, false]) (by kernel_rfl) ?_
          exact ?finB
          go_simp
          refine hK _ _ ?_
          clear hK K
          refine wpAny_ready (rs := [14]) (by kernel_rfl) (by simp) ?_
          refine AllReady.cons rfl (fun K hK => ?_) AllReady.nil
          go_simp
          refine hK _ _ ?_
          clear hK K
          refine wpAny_cast (L' := #[true, true, true, true, true, true, true, true, true, true, true, true, true, true, true, true, true, true, false, false, false, false, false, false, false, false, false, false, false, false, false, false]) (by kernel_rfl) ?_
          exact ?finB
          go_simp
          refine hK _ _ ?_
          clear hK K
          refine wpAny_ready (rs := [13, 17]) (by kernel_rfl) (by simp) ?_
          refine AllReady.cons rfl (fun K hK => ?_) (AllReady.cons rfl (fun K hK => ?_) AllReady.nil)
          go_simp
          refine hK _ _ ?_
          clear hK K
          refine wpAny_ready (rs := [14, 17]) (by kernel_rfl) (by simp) ?_
          refine AllReady.cons rfl (fun K hK => ?_) (AllReady.cons rfl (fun K hK => ?_) AllReady.nil)
          go_simp
          refine hK _ _ ?_
          clear hK K
          refine wpAny_ready (rs := [17]) (by kernel_rfl) (by simp) ?_
          refine AllReady.cons rfl (fun K hK => ?_) AllReady.nil
          go_simp
          refine hK _ _ ?_
          clear hK K
          refine wpAny_cast (L' := #[true, true, true, true, true, true, true, true, true, true, true, true, true, true, true, true, true, true, false, false, false, false, false, false, false, false, false, false, false, false, false, false]) (by kernel_rfl) ?_
          exact ?finB
          go_simp
          refine hK _ _ ?_
          clear hK K
          refine wpAny_ready (rs := [14]) (by kernel_rfl) (by simp) ?_
          refine AllReady.cons rfl (fun K hK => ?_) AllReady.nil
          go_simp
          refine hK _ _ ?_
          clear hK K
          refine wpAny_cast (L' := #[true, true, true, true, true, true, true, true, true, true, true, true, true, true, true, true, true, true, false, false, false, false, false, false, false, false, false, false, false, false, false, false]) (by kernel_rfl) ?_
          exact ?finB
          go_simp
          refine hK _ _ ?_
          clear hK K
          refine wpAny_ready (rs := [13]) (by kernel_rfl) (by simp) ?_
          refine AllReady.cons rfl (fun K hK => ?_) AllReady.nil
          go_simp
          refine hK _ _ ?_
          clear hK K
          refine wpAny_ready (rs := [14]) (by kernel_rfl) (by simp) ?_
          refine AllReady.cons rfl (fun K hK => ?_) AllReady.nil
          go_simp
          refine hK _ _ ?_
          clear hK K
          refine wpAny_cast (L' := #[true, true, true, true, true, true, true, true, true, true, true, true, true, true, true, true, true, true, false, false, false, false, false, false, false, false, false, false, false, false, false, false]) (by kernel_rfl) ?_
          exact ?finB
          refine wpAny_take (i := 18) (v := ?_) rfl (by kernel_rfl) (by kernel_rfl) (by kernel_rfl) (fun _ _ _ h => h) (Or.inl ⟨by kernel_rfl, ?_⟩) ?_
          rotate_left
          focus ((intro w; go_simp); try with_reducible rfl)
          refine wpAny_take (i := 19) (v := ?_) rfl (by kernel_rfl) (by kernel_rfl) (by kernel_rfl) (fun _ _ _ h => h) (Or.inl ⟨by kernel_rfl, ?_⟩) ?_
          rotate_left
          focus ((intro w; go_simp); try with_reducible rfl)
          refine wpAny_take (i := 20) (v := ?_) rfl (by kernel_rfl) (by kernel_rfl) (by kernel_rfl) (fun _ _ _ h => h) (Or.inl ⟨by kernel_rfl, ?_⟩) ?_
          rotate_left
          focus ((intro w; go_simp); try with_reducible rfl)
          refine wpAny_take (i := 21) (v := ?_) rfl (by kernel_rfl) (by kernel_rfl) (by kernel_rfl) (fun _ _ _ h => h) (Or.inl ⟨by kernel_rfl, ?_⟩) ?_
          rotate_left
          focus ((intro w; go_simp); try with_reducible rfl)
          refine wpAny_take (i := 25) (v := ?_) rfl (by kernel_rfl) (by kernel_rfl) (by kernel_rfl) (fun _ _ _ h => h) (Or.inl ⟨by kernel_rfl, ?_⟩) ?_
          rotate_left
          focus ((intro w; go_simp); try with_reducible rfl)
          refine wpAny_ready (rs := [22, 26]) (by kernel_rfl) (by simp) ?_
          refine AllReady.cons rfl (fun K hK => ?_) (AllReady.cons rfl (fun K hK => ?_) AllReady.nil)
          · go_simp
            refine hK _ _ ?_
            clear hK K
            refine wpAny_ready (rs := [23, 26]) (by kernel_rfl) (by simp) ?_
            refine AllReady.cons rfl (fun K hK => ?_) (AllReady.cons rfl (fun K hK => ?_) AllReady.nil)
            · go_simp
              go_wp2_with (go_at_call 37; refine (HR1.out _ HC0g.out).mono ?_; rintro e x1 ⟨y1, z1, rfl, S1, CC1⟩; have HC1g := Lib.hid (HC0g.out.trans CC1 (U := []) (by simp) (by simp)); have HS1g := Lib.hid S1; have v1 := tconv_at S1; have u1 := HL2.out _ HC1g.out; clear CC1 S1)
              try (refine hK _ _ ?_; clear hK K)
              refine wpAny_ready (rs := [24, 26]) (by kernel_rfl) (by simp) ?_
              refine AllReady.cons rfl (fun K hK => ?_) (AllReady.cons rfl (fun K hK => ?_) AllReady.nil)
              · go_simp
                refine hK _ _ ?_
                clear hK K
                refine wpAny_ready (rs := [26]) (by kernel_rfl) (by simp) ?_
                refine AllReady.cons rfl (fun K hK => ?_) AllReady.nil
                go_simp
                refine hK _ _ ?_
                clear hK K
                refine wpAny_ready (rs := [27]) (by kernel_rfl) (by simp) ?_
                refine AllReady.cons rfl (fun K hK => ?_) AllReady.nil
                go_simp
                go_wp2_with (go_at_call 37; refine (HR2.out _ HC1g.out).mono ?_; rintro e x2 ⟨y2, z2, rfl, S2, CC2⟩; have HC2g := Lib.hid (HC1g.out.trans CC2 (U := []) (by simp) (by simp)); have HS2g := Lib.hid S2; have v2 := tconv_at S2; clear CC2 S2)
                try (refine hK _ _ ?_; clear hK K)
                refine wpAny_ready (rs := [28]) (by kernel_rfl) (by simp) ?_
                refine AllReady.cons rfl (fun K hK => ?_) AllReady.nil
                go_simp
                refine hK _ _ ?_
                clear hK K
                refine wpAny_take (i := 29) (v := ?_) rfl (by kernel_rfl) (by kernel_rfl) (by kernel_rfl) (fun _ _ _ h => h) (Or.inl ⟨by kernel_rfl, ?_⟩) ?_
                rotate_left
                focus ((intro w; go_simp); try with_reducible rfl)
                refine wpAny_take (i := 30) (v := ?_) rfl (by kernel_rfl) (by kernel_rfl) (by kernel_rfl) (fun _ _ _ h => h) (Or.inl ⟨by kernel_rfl, ?_⟩) ?_
                rotate_left
                focus ((intro w; go_simp); try with_reducible rfl)
                refine wpAny_take (i := 31) (v := ?_) rfl (by kernel_rfl) (by kernel_rfl) (by kernel_rfl) (fun _ _ _ h => h) (Or.inl ⟨by kernel_rfl, ?_⟩) ?_
                rotate_left
                focus ((intro w; go_simp); try with_reducible rfl)
                refine wpAny_done (by kernel_rfl) ?_ _
                go_wp2_with fail
                go_ret
                exact ⟨rfl, DG.out.trans HC2g.out (U := []) (by simp) (by simp)⟩
              · go_simp
                refine hK _ _ ?_
                clear hK K
                refine wpAny_ready (rs := [24, 27]) (by kernel_rfl) (by simp) ?_
                refine AllReady.cons rfl (fun K hK => ?_) (AllReady.cons rfl (fun K hK => ?_) AllReady.nil)
                · go_simp
                  refine hK _ _ ?_
                  clear hK K
                  refine wpAny_ready (rs := [27]) (by kernel_rfl) (by simp) ?_
                  refine AllReady.cons rfl (fun K hK => ?_) AllReady.nil
                  go_simp
                  go_wp2_with (go_at_call 37; refine (HR2.out _ HC1g.out).mono ?_; rintro e x3 ⟨y3, z3, rfl, S3, CC3⟩; have HC3g := Lib.hid (HC1g.out.trans CC3 (U := []) (by simp) (by simp)); have HS3g := Lib.hid S3; have v3 := tconv_at S3; clear CC3 S3)
                  try (refine hK _ _ ?_; clear hK K)
                  refine wpAny_ready (rs := [28]) (by kernel_rfl) (by simp) ?_
                  refine AllReady.cons rfl (fun K hK => ?_) AllReady.nil
                  go_simp
                  refine hK _ _ ?_
                  clear hK K
                  refine wpAny_take (i := 29) (v := ?_) rfl (by kernel_rfl) (by kernel_rfl) (by kernel_rfl) (fun _ _ _ h => h) (Or.inl ⟨by kernel_rfl, ?_⟩) ?_
                  rotate_left
                  focus ((intro w; go_simp); try with_reducible rfl)
                  refine wpAny_take (i := 30) (v := ?_) rfl (by kernel_rfl) (by kernel_rfl) (by kernel_rfl) (fun _ _ _ h => h) (Or.inl ⟨by kernel_rfl, ?_⟩) ?_
                  rotate_left
                  focus ((intro w; go_simp); try with_reducible rfl)
                  refine wpAny_take (i := 31) (v := ?_) rfl (by kernel_rfl) (by kernel_rfl) (by kernel_rfl) (fun _ _ _ h => h) (Or.inl ⟨by kernel_rfl, ?_⟩) ?_
                  rotate_left
                  focus ((intro w; go_simp); try with_reducible rfl)
                  refine wpAny_done (by kernel_rfl) ?_ _
                  go_wp2_with fail
                  go_ret
                  exact ⟨rfl, DG.out.trans HC3g.out (U := []) (by simp) (by simp)⟩
                · go_simp
                  go_wp2_with (go_at_call 37; refine (HR2.out _ HC1g.out).mono ?_; rintro e x4 ⟨y4, z4, rfl, S4, CC4⟩; have HC4g := Lib.hid (HC1g.out.trans CC4 (U := []) (by simp) (by simp)); have HS4g := Lib.hid S4; have v4 := tconv_at S4; have t4 := tconv_at (HS1g.out.chg0 CC4); clear CC4 S4)
                  try (refine hK _ _ ?_; clear hK K)
                  refine wpAny_ready (rs := [24, 28]) (by kernel_rfl) (by simp) ?_
                  refine AllReady.cons rfl (fun K hK => ?_) (AllReady.cons rfl (fun K hK => ?_) AllReady.nil)
                  · go_simp
                    refine hK _ _ ?_
                    clear hK K
                    refine wpAny_ready (rs := [28]) (by kernel_rfl) (by simp) ?_
                    refine AllReady.cons rfl (fun K hK => ?_) AllReady.nil
                    go_simp
                    refine hK _ _ ?_
                    clear hK K
                    refine wpAny_take (i := 29) (v := ?_) rfl (by kernel_rfl) (by kernel_rfl) (by kernel_rfl) (fun _ _ _ h => h) (Or.inl ⟨by kernel_rfl, ?_⟩) ?_
                    rotate_left
                    focus ((intro w; go_simp); try with_reducible rfl)
                    refine wpAny_take (i := 30) (v := ?_) rfl (by kernel_rfl) (by kernel_rfl) (by kernel_rfl) (fun _ _ _ h => h) (Or.inl ⟨by kernel_rfl, ?_⟩) ?_
                    rotate_left
                    focus ((intro w; go_simp); try with_reducible rfl)
                    refine wpAny_take (i := 31) (v := ?_) rfl (by kernel_rfl) (by kernel_rfl) (by kernel_rfl) (fun _ _ _ h => h) (Or.inl ⟨by kernel_rfl, ?_⟩) ?_
                    rotate_left
                    focus ((intro w; go_simp); try with_reducible rfl)
                    refine wpAny_done (by kernel_rfl) ?_ _
                    go_wp2_with fail
                    go_ret
                    exact ⟨rfl, DG.out.trans HC4g.out (U := []) (by simp) (by simp)⟩
                  · go_simp
                    refine hK _ _ ?_
                    clear hK K
                    refine wpAny_ready (rs := [24]) (by kernel_rfl) (by simp) ?_
                    refine AllReady.cons rfl (fun K hK => ?_) AllReady.nil
                    go_simp
                    refine hK _ _ ?_
                    clear hK K
                    refine wpAny_take (i := 29) (v := ?_) rfl (by kernel_rfl) (by kernel_rfl) (by kernel_rfl) (fun _ _ _ h => h) (Or.inl ⟨by kernel_rfl, ?_⟩) ?_
                    rotate_left
                    focus ((intro w; go_simp); try with_reducible rfl)
                    refine wpAny_take (i := 30) (v := ?_) rfl (by kernel_rfl) (by kernel_rfl) (by kernel_rfl) (fun _ _ _ h => h) (Or.inl ⟨by kernel_rfl, ?_⟩) ?_
                    rotate_left
                    focus ((intro w; go_simp); try with_reducible rfl)
                    refine wpAny_take (i := 31) (v := ?_) rfl (by kernel_rfl) (by kernel_rfl) (by kernel_rfl) (fun _ _ _ h => h) (Or.inl ⟨by kernel_rfl, ?_⟩) ?_
                    rotate_left
                    focus ((intro w; go_simp); try with_reducible rfl)
                    refine wpAny_done (by kernel_rfl) ?_ _
                    go_wp2_with fail
                    go_ret
                    exact ⟨rfl, DG.out.trans HC4g.out (U := []) (by simp) (by simp)⟩
            · go_simp
              refine hK _ _ ?_
              clear hK K
              refine wpAny_ready (rs := [23]) (by kernel_rfl) (by simp) ?_
              refine AllReady.cons rfl (fun K hK => ?_) AllReady.nil
              go_simp
              go_wp2_with (go_at_call 37; refine (HR1.out _ HC0g.out).mono ?_; rintro e x5 ⟨y5, z5, rfl, S5, CC5⟩; have HC5g := Lib.hid (HC0g.out.trans CC5 (U := []) (by simp) (by simp)); have HS5g := Lib.hid S5; have v5 := tconv_at S5; clear CC5 S5)
              try (refine hK _ _ ?_; clear hK K)
              refine wpAny_ready (rs := [24, 27]) (by kernel_rfl) (by simp) ?_
              refine AllReady.cons rfl (fun K hK => ?_) (AllReady.cons rfl (fun K hK => ?_) AllReady.nil)
              · go_simp
                refine hK _ _ ?_
                clear hK K
                refine wpAny_ready (rs := [27]) (by kernel_rfl) (by simp) ?_
                refine AllReady.cons rfl (fun K hK => ?_) AllReady.nil
                go_simp
                go_wp2_with (go_at_call 37; refine (HR2.out _ HC5g.out).mono ?_; rintro e x6 ⟨y6, z6, rfl, S6, CC6⟩; have HC6g := Lib.hid (HC5g.out.trans CC6 (U := []) (by simp) (by simp)); have HS6g := Lib.hid S6; have v6 := tconv_at S6; clear CC6 S6)
                try (refine hK _ _ ?_; clear hK K)
                refine wpAny_ready (rs := [28]) (by kernel_rfl) (by simp) ?_
                refine AllReady.cons rfl (fun K hK => ?_) AllReady.nil
                go_simp
                refine hK _ _ ?_
                clear hK K
                refine wpAny_take (i := 29) (v := ?_) rfl (by kernel_rfl) (by kernel_rfl) (by kernel_rfl) (fun _ _ _ h => h) (Or.inl ⟨by kernel_rfl, ?_⟩) ?_
                rotate_left
                focus ((intro w; go_simp); try with_reducible rfl)
                refine wpAny_take (i := 30) (v := ?_) rfl (by kernel_rfl) (by kernel_rfl) (by kernel_rfl) (fun _ _ _ h => h) (Or.inl ⟨by kernel_rfl, ?_⟩) ?_
                rotate_left
                focus ((intro w; go_simp); try with_reducible rfl)
                refine wpAny_take (i := 31) (v := ?_) rfl (by kernel_rfl) (by kernel_rfl) (by kernel_rfl) (fun _ _ _ h => h) (Or.inl ⟨by kernel_rfl, ?_⟩) ?_
                rotate_left
                focus ((intro w; go_simp); try with_reducible rfl)
                refine wpAny_done (by kernel_rfl) ?_ _
                go_wp2_with fail
                go_ret
                exact ⟨rfl, DG.out.trans HC6g.out (U := []) (by simp) (by simp)⟩
              · go_simp
                go_wp2_with (go_at_call 37; refine (HR2.out _ HC5g.out).mono ?_; rintro e x7 ⟨y7, z7, rfl, S7, CC7⟩; have HC7g := Lib.hid (HC5g.out.trans CC7 (U := []) (by simp) (by simp)); have HS7g := Lib.hid S7; have v7 := tconv_at S7; have t7 := tconv_at (HS5g.out.chg0 CC7); clear CC7 S7)
                try (refine hK _ _ ?_; clear hK K)
                refine wpAny_ready (rs := [24, 28]) (by kernel_rfl) (by simp) ?_
                refine AllReady.cons rfl (fun K hK => ?_) (AllReady.cons rfl (fun K hK => ?_) AllReady.nil)
                · go_simp
                  refine hK _ _ ?_
                  clear hK K
                  refine wpAny_ready (rs := [28]) (by kernel_rfl) (by simp) ?_
                  refine AllReady.cons rfl (fun K hK => ?_) AllReady.nil
                  go_simp
                  refine hK _ _ ?_
                  clear hK K
                  refine wpAny_take (i := 29) (v := ?_) rfl (by kernel_rfl) (by kernel_rfl) (by kernel_rfl) (fun _ _ _ h => h) (Or.inl ⟨by kernel_rfl, ?_⟩) ?_
                  rotate_left
                  focus ((intro w; go_simp); try with_reducible rfl)
                  refine wpAny_take (i := 30) (v := ?_) rfl (by kernel_rfl) (by kernel_rfl) (by kernel_rfl) (fun _ _ _ h => h) (Or.inl ⟨by kernel_rfl, ?_⟩) ?_
                  rotate_left
                  focus ((intro w; go_simp); try with_reducible rfl)
                  refine wpAny_take (i := 31) (v := ?_) rfl (by kernel_rfl) (by kernel_rfl) (by kernel_rfl) (fun _ _ _ h => h) (Or.inl ⟨by kernel_rfl, ?_⟩) ?_
                  rotate_left
                  focus ((intro w; go_simp); try with_reducible rfl)
                  refine wpAny_done (by kernel_rfl) ?_ _
                  go_wp2_with fail
                  go_ret
                  exact ⟨rfl, DG.out.trans HC7g.out (U := []) (by simp) (by simp)⟩
                · go_simp
                  refine hK _ _ ?_
                  clear hK K
                  refine wpAny_ready (rs := [24]) (by kernel_rfl) (by simp) ?_
                  refine AllReady.cons rfl (fun K hK => ?_) AllReady.nil
                  go_simp
                  refine hK _ _ ?_
                  clear hK K
                  refine wpAny_take (i := 29) (v := ?_) rfl (by kernel_rfl) (by kernel_rfl) (by kernel_rfl) (fun _ _ _ h => h) (Or.inl ⟨by kernel_rfl, ?_⟩) ?_
                  rotate_left
                  focus ((intro w; go_simp); try with_reducible rfl)
                  refine wpAny_take (i := 30) (v := ?_) rfl (by kernel_rfl) (by kernel_rfl) (by kernel_rfl) (fun _ _ _ h => h) (Or.inl ⟨by kernel_rfl, ?_⟩) ?_
                  rotate_left
                  focus ((intro w; go_simp); try with_reducible rfl)
                  refine wpAny_take (i := 31) (v := ?_) rfl (by kernel_rfl) (by kernel_rfl) (by kernel_rfl) (fun _ _ _ h => h) (Or.inl ⟨by kernel_rfl, ?_⟩) ?_
                  rotate_left
                  focus ((intro w; go_simp); try with_reducible rfl)
                  refine wpAny_done (by kernel_rfl) ?_ _
                  go_wp2_with fail
                  go_ret
                  exact ⟨rfl, DG.out.trans HC7g.out (U := []) (by simp) (by simp)⟩
          · go_simp
            refine hK _ _ ?_
            clear hK K
            refine wpAny_ready (rs := [22]) (by kernel_rfl) (by simp) ?_
            refine AllReady.cons rfl (fun K hK => ?_) AllReady.nil
            go_simp
            refine hK _ _ ?_
            clear hK K
            refine wpAny_ready (rs := [23]) (by kernel_rfl) (by simp) ?_
            refine AllReady.cons rfl (fun K hK => ?_) AllReady.nil
            go_simp
            go_wp2_with (go_at_call 37; refine (HR1.out _ HC0g.out).mono ?_; rintro e x8 ⟨y8, z8, rfl, S8, CC8⟩; have HC8g := Lib.hid (HC0g.out.trans CC8 (U := []) (by simp) (by simp)); have HS8g := Lib.hid S8; have v8 := tconv_at S8; clear CC8 S8)
            try (refine hK _ _ ?_; clear hK K)
            refine wpAny_ready (rs := [24, 27]) (by kernel_rfl) (by simp) ?_
            refine AllReady.cons rfl (fun K hK => ?_) (AllReady.cons rfl (fun K hK => ?_) AllReady.nil)
            · go_simp
              refine hK _ _ ?_
              clear hK K
              refine wpAny_ready (rs := [27]) (by kernel_rfl) (by simp) ?_
              refine AllReady.cons rfl (fun K hK => ?_) AllReady.nil
              go_simp
              go_wp2_with (go_at_call 37; refine (HR2.out _ HC8g.out).mono ?_; rintro e x9 ⟨y9, z9, rfl, S9, CC9⟩; have HC9g := Lib.hid (HC8g.out.trans CC9 (U := []) (by simp) (by simp)); have HS9g := Lib.hid S9; have v9 := tconv_at S9; clear CC9 S9)
              try (refine hK _ _ ?_; clear hK K)
              refine wpAny_ready (rs := [28]) (by kernel_rfl) (by simp) ?_
              refine AllReady.cons rfl (fun K hK => ?_) AllReady.nil
              go_simp
              refine hK _ _ ?_
              clear hK K
              refine wpAny_take (i := 29) (v := ?_) rfl (by kernel_rfl) (by kernel_rfl) (by kernel_rfl) (fun _ _ _ h => h) (Or.inl ⟨by kernel_rfl, ?_⟩) ?_
              rotate_left
              focus ((intro w; go_simp); try with_reducible rfl)
              refine wpAny_take (i := 30) (v := ?_) rfl (by kernel_rfl) (by kernel_rfl) (by kernel_rfl) (fun _ _ _ h => h) (Or.inl ⟨by kernel_rfl, ?_⟩) ?_
              rotate_left
              focus ((intro w; go_simp); try with_reducible rfl)
              refine wpAny_take (i := 31) (v := ?_) rfl (by kernel_rfl) (by kernel_rfl) (by kernel_rfl) (fun _ _ _ h => h) (Or.inl ⟨by kernel_rfl, ?_⟩) ?_
              rotate_left
              focus ((intro w; go_simp); try with_reducible rfl)
              refine wpAny_done (by kernel_rfl) ?_ _
              go_wp2_with fail
              go_ret
              exact ⟨rfl, DG.out.trans HC9g.out (U := []) (by simp) (by simp)⟩
            · go_simp
              go_wp2_with (go_at_call 37; refine (HR2.out _ HC8g.out).mono ?_; rintro e x10 ⟨y10, z10, rfl, S10, CC10⟩; have HC10g := Lib.hid (HC8g.out.trans CC10 (U := []) (by simp) (by simp)); have HS10g := Lib.hid S10; have v10 := tconv_at S10; have t10 := tconv_at (HS8g.out.chg0 CC10); clear CC10 S10)
              try (refine hK _ _ ?_; clear hK K)
              refine wpAny_ready (rs := [24, 28]) (by kernel_rfl) (by simp) ?_
              refine AllReady.cons rfl (fun K hK => ?_) (AllReady.cons rfl (fun K hK => ?_) AllReady.nil)
              · go_simp
                refine hK _ _ ?_
                clear hK K
                refine wpAny_ready (rs := [28]) (by kernel_rfl) (by simp) ?_
                refine AllReady.cons rfl (fun K hK => ?_) AllReady.nil
                go_simp
                refine hK _ _ ?_
                clear hK K
                refine wpAny_take (i := 29) (v := ?_) rfl (by kernel_rfl) (by kernel_rfl) (by kernel_rfl) (fun _ _ _ h => h) (Or.inl ⟨by kernel_rfl, ?_⟩) ?_
                rotate_left
                focus ((intro w; go_simp); try with_reducible rfl)
                refine wpAny_take (i := 30) (v := ?_) rfl (by kernel_rfl) (by kernel_rfl) (by kernel_rfl) (fun _ _ _ h => h) (Or.inl ⟨by kernel_rfl, ?_⟩) ?_
                rotate_left
                focus ((intro w; go_simp); try with_reducible rfl)
                refine wpAny_take (i := 31) (v := ?_) rfl (by kernel_rfl) (by kernel_rfl) (by kernel_rfl) (fun _ _ _ h => h) (Or.inl ⟨by kernel_rfl, ?_⟩) ?_
                rotate_left
                focus ((intro w; go_simp); try with_reducible rfl)
                refine wpAny_done (by kernel_rfl) ?_ _
                go_wp2_with fail
                go_ret
                exact ⟨rfl, DG.out.trans HC10g.out (U := []) (by simp) (by simp)⟩
              · go_simp
                refine hK _ _ ?_
                clear hK K
                refine wpAny_ready (rs := [24]) (by kernel_rfl) (by simp) ?_
                refine AllReady.cons rfl (fun K hK => ?_) AllReady.nil
                go_simp
                refine hK _ _ ?_
                clear hK K
                refine wpAny_take (i := 29) (v := ?_) rfl (by kernel_rfl) (by kernel_rfl) (by kernel_rfl) (fun _ _ _ h => h) (Or.inl ⟨by kernel_rfl, ?_⟩) ?_
                rotate_left
                focus ((intro w; go_simp); try with_reducible rfl)
                refine wpAny_take (i := 30) (v := ?_) rfl (by kernel_rfl) (by kernel_rfl) (by kernel_rfl) (fun _ _ _ h => h) (Or.inl ⟨by kernel_rfl, ?_⟩) ?_
                rotate_left
                focus ((intro w; go_simp); try with_reducible rfl)
                refine wpAny_take (i := 31) (v := ?_) rfl (by kernel_rfl) (by kernel_rfl) (by kernel_rfl) (fun _ _ _ h => h) (Or.inl ⟨by kernel_rfl, ?_⟩) ?_
                rotate_left
                focus ((intro w; go_simp); try with_reducible rfl)
                refine wpAny_done (by kernel_rfl) ?_ _
                go_wp2_with fail
                go_ret
                exact ⟨rfl, DG.out.trans HC10g.out (U := []) (by simp) (by simp)⟩
end Go.Proofs.YtafmnkngjjnpiaaGreatDoor
