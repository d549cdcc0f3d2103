import Derived.Test.YtafmnkngjjnpiaaGreatDoorTpA
import Derived.Test.YtafmnkngjjnpiaaGreatDoorTtyD
import Derived.Test.YtafmnkngjjnpiaaGreatDoorTbF
import Derived.Test.YtafmnkngjjnpiaaGreatDoorTsC
import Derived.Lib.ConvBytes
import Derived.Deep.RegionHeld3
import Derived.Lib.SlBytesConst
import Derived.Lib.ItoaNum
import Derived.Laws.EntriesVeiled
namespace Go.Proofs.YtafmnkngjjnpiaaGreatDoor
set_option linter.unusedVariables false
set_option linter.unusedSimpArgs false
set_option maxRecDepth 100000
open Go.RowKit
def modesC (g : Nat) : Array Value :=
  #[.func (Fn.func 148) #[] #[], .func (Fn.func 149) #[] #[], .func (Fn.func 150) #[] #[], .func (Fn.func 151) #[] #[],
    .func (Fn.func 147) #[] #[], .func (Fn.func 152) #[] #[.pointer (some ⟨g, 0, none⟩)]]
def ModesPost (w : World) (e : Ending) (w' : World) : Prop :=
  ∃ g, e = .returned (.agg (modesC g)) ∧ Chg [] w w' ∧ w'.heap[g]? = some (.cells #[.func (Fn.func 147) #[] #[]] 59 (0, 0))
theorem modes_any (w : World) : Calls Tryz.prog 121 #[] w (ModesPost w) := by
  go_enter Tryz.func121, Tryz.ntmps121
  have f1 : ((w.alloc (.cells #[.nilFunc, .nilFunc, .nilFunc, .nilFunc, .nilFunc, .nilFunc] 197)).alloc (.cells #[.nilFunc] 59)).frozen? ⟨w.heap.size + 1, 0, none⟩ = false := free_of_heap (alloc2_heap w _ _) 0
  have g0 : ((w.alloc (.cells #[.nilFunc, .nilFunc, .nilFunc, .nilFunc, .nilFunc, .nilFunc] 197)).alloc (.cells #[.nilFunc] 59)).cell? ⟨w.heap.size + 1, 0, none⟩ = some .nilFunc := by rw [cell_of_heap (alloc2_heap w _ _)]; rfl
  go_wp2_with fail
  refine bodyPost_ret (v := .agg (modesC (w.heap.size + 1))) ?_ rfl ⟨w.heap.size + 1, rfl, ((Chg.refl _ _).alloc _).alloc _, alloc2_heap w _ _⟩
  exact results_cell_row rfl _ _ w.heap.size 197 (modesC (w.heap.size + 1)) (0, 0) _ rfl (alloc_keeps (alloc_heap w _)) Tryz.underlying197 rfl (by kernel_rfl)
def eightF (count : Nat) : Nat := min count 1 * 8
theorem eight_any (count : Nat) (w : World) : Calls Tryz.prog 147 #[.int .i64 (count : Nat)] w fun e w' => e = .returned (.int .i64 (eightF count : Nat)) ∧ w = w' := by
  unfold eightF
  rcases Nat.eq_zero_or_pos count with rfl | h
  · go_enter Tryz.func147, Tryz.ntmps147
    go_wp2_with fail
    go_ret
    exact ⟨rfl, rfl⟩
  · rw [show min count 1 = 1 by omega]
    have h0 : (0 : Int) < (count : Nat) := by omega
    have h1 : min ((count : Nat) : Int) 1 = 1 := by omega
    clear h
    go_enter Tryz.func147, Tryz.ntmps147
    go_wp2_with fail
    go_ret
    exact ⟨rfl, rfl⟩
theorem zero1_any (count : Int) (w : World) : Calls Tryz.prog 148 #[.int .i64 count] w fun e w' => e = .returned (.int .i64 0) ∧ w = w' := by
  go_enter Tryz.func148, Tryz.ntmps148
  go_wp2_with fail
  go_ret
  exact ⟨rfl, rfl⟩
theorem zero2_any (count at' : Int) (w : World) : Calls Tryz.prog 149 #[.int .i64 count, .int .i64 at'] w fun e w' => e = .returned (.int .i64 0) ∧ w = w' := by
  go_enter Tryz.func149, Tryz.ntmps149
  go_wp2_with fail
  go_ret
  exact ⟨rfl, rfl⟩
theorem self1_any (count : Int) (w : World) : Calls Tryz.prog 150 #[.int .i64 count] w fun e w' => e = .returned (.int .i64 count) ∧ w = w' := by
  go_enter Tryz.func150, Tryz.ntmps150
  go_wp2_with fail
  go_ret
  exact ⟨rfl, rfl⟩
theorem self2_any (count at' : Int) (w : World) : Calls Tryz.prog 151 #[.int .i64 count, .int .i64 at'] w fun e w' => e = .returned (.int .i64 at') ∧ w = w' := by
  go_enter Tryz.func151, Tryz.ntmps151
  go_wp2_with fail
  go_ret
  exact ⟨rfl, rfl⟩
theorem eight2_any (count : Nat) (at' : Int) (g : Nat) (w : World) (h : w.heap[g]? = some (.cells #[.func (Fn.func 147) #[] #[]] 59 (0, 0))) :
    Calls Tryz.prog 152 #[.int .i64 (count : Nat), .int .i64 at', .pointer (some ⟨g, 0, none⟩)] w fun e w' => e = .returned (.int .i64 (eightF count : Nat)) ∧ w = w' := by
  have x0 : w.cell? ⟨g, 0, none⟩ = some (.func (Fn.func 147) #[] #[]) := by rw [cell_of_heap h]; rfl
  clear h
  go_enter Tryz.func152, Tryz.ntmps152
  go_wp2_with fail
  refine (eight_any count w).mono ?_
  rintro e w2 ⟨rfl, rfl⟩
  go_wp2_with fail
  go_ret
  exact ⟨rfl, rfl⟩
theorem vright_any (mode : Int) (count at' : Nat) (w : World) (h0 : 0 ≤ mode) (h1 : mode < 3) (h2 : at' ≤ count) (h3 : count ≤ 1024) :
    Calls Tryz.prog 189 #[.int .i64 mode, .int .i64 (count : Nat), .int .i64 (at' : Nat)] w fun e w' => e = .returned (.bool true) ∧ Chg [] w w' := by
  have a3 : decide (((at' : Nat) : Int) ≤ (count : Nat)) = true := by rw [decide_eq_true_eq]; omega
  have a4 : decide (((count : Nat) : Int) ≤ 1024) = true := by rw [decide_eq_true_eq]; omega
  have a5 : decide ((0 : Int) ≤ ((at' : Nat) : Int)) = true := by rw [decide_eq_true_eq]; omega
  clear a3 a5 h3
  go_enter Tryz.func189, Tryz.ntmps189
  go_wp2_with fail
  refine (modes_any w).mono ?_
  rintro e w2 ⟨g, rfl, C2, H2⟩
  have HC := Lib.hid C2
  clear C2 H2
  go_wp2_with fail
  go_ret
  exact ⟨rfl, HC.out⟩
theorem mode_at (g : Nat) (w : World) :
    (Instr.index 197 (.agg (modesC g)) (.int .i64 0)).run Tryz.prog w = .ok (.agg #[.func (Fn.func 148) #[] #[], .func (Fn.func 149) #[] #[]]) w ∧
    (Instr.index 197 (.agg (modesC g)) (.int .i64 1)).run Tryz.prog w = .ok (.agg #[.func (Fn.func 150) #[] #[], .func (Fn.func 151) #[] #[]]) w ∧
    (Instr.index 197 (.agg (modesC g)) (.int .i64 2)).run Tryz.prog w = .ok (.agg #[.func (Fn.func 147) #[] #[], .func (Fn.func 152) #[] #[.pointer (some ⟨g, 0, none⟩)]]) w := ⟨by kernel_rfl, by kernel_rfl, by kernel_rfl⟩
theorem row_at (a b : Value) (w : World) : (Instr.field 196 (.agg #[a, b]) 0).run Tryz.prog w = .ok a w ∧ (Instr.field 196 (.agg #[a, b]) 1).run Tryz.prog w = .ok b w := ⟨by kernel_rfl, by kernel_rfl⟩
theorem stars_any (mode : Int) (count : Nat) (w : World) (h0 : 0 ≤ mode) (h1 : mode < 3) (h3 : count ≤ 1024) :
    Calls Tryz.prog 190 #[.int .i64 mode, .int .i64 (count : Nat)] w fun e w' => e = .returned (.int .i64 (starsV mode count : Nat)) ∧ Chg [] w w' := by
  have HR := Lib.hid (vright_any mode count 0 w h0 h1 (Nat.zero_le _) h3)
  rcases (by omega : mode = 0 ∨ mode = 1 ∨ mode = 2) with rfl | rfl | rfl
  · clear h0 h1 h3
    go_enter Tryz.func190, Tryz.ntmps190
    go_wp2_with fail
    refine (HR.out).mono ?_
    rintro e w2 ⟨rfl, C2⟩
    have HC := Lib.hid C2
    clear C2
    go_wp2_with fail
    refine (modes_any w2).mono ?_
    rintro e w3 ⟨g, rfl, C3, H3⟩
    have HC3 := Lib.hid (And.intro C3 H3)
    have m0 := (mode_at g w3).1
    have r0 := fun a b => (row_at a b w3).1
    have r1 := fun a b => (row_at a b w3).2
    clear C3 H3
    go_wp2_with fail
    refine (zero1_any _ w3).mono ?_
    rintro e w4 ⟨rfl, rfl⟩
    go_wp2_with fail
    go_ret
    exact ⟨rfl, HC.out.trans HC3.out.1 (U := []) (by simp) (by simp)⟩
  · clear h0 h1 h3
    go_enter Tryz.func190, Tryz.ntmps190
    go_wp2_with fail
    refine (HR.out).mono ?_
    rintro e w2 ⟨rfl, C2⟩
    have HC := Lib.hid C2
    clear C2
    go_wp2_with fail
    refine (modes_any w2).mono ?_
    rintro e w3 ⟨g, rfl, C3, H3⟩
    have HC3 := Lib.hid (And.intro C3 H3)
    have m0 := (mode_at g w3).2.1
    have r0 := fun a b => (row_at a b w3).1
    have r1 := fun a b => (row_at a b w3).2
    clear C3 H3
    go_wp2_with fail
    refine (self1_any _ w3).mono ?_
    rintro e w4 ⟨rfl, rfl⟩
    go_wp2_with fail
    go_ret
    exact ⟨rfl, HC.out.trans HC3.out.1 (U := []) (by simp) (by simp)⟩
  · clear h0 h1 h3
    go_enter Tryz.func190, Tryz.ntmps190
    go_wp2_with fail
    refine (HR.out).mono ?_
    rintro e w2 ⟨rfl, C2⟩
    have HC := Lib.hid C2
    clear C2
    go_wp2_with fail
    refine (modes_any w2).mono ?_
    rintro e w3 ⟨g, rfl, C3, H3⟩
    have HC3 := Lib.hid (And.intro C3 H3)
    have m0 := (mode_at g w3).2.2
    have r0 := fun a b => (row_at a b w3).1
    have r1 := fun a b => (row_at a b w3).2
    clear C3 H3
    go_wp2_with fail
    refine (eight_any count w3).mono ?_
    rintro e w4 ⟨rfl, rfl⟩
    go_wp2_with fail
    go_ret
    exact ⟨rfl, HC.out.trans HC3.out.1 (U := []) (by simp) (by simp)⟩
theorem place_any (mode : Int) (count at' : Nat) (w : World) (h0 : 0 ≤ mode) (h1 : mode < 3) (h2 : at' ≤ count) (h3 : count ≤ 1024) :
    Calls Tryz.prog 191 #[.int .i64 mode, .int .i64 (count : Nat), .int .i64 (at' : Nat)] w fun e w' => e = .returned (.int .i64 (placeV mode count at' : Nat)) ∧ Chg [] w w' := by
  have HR := Lib.hid (vright_any mode count at' w h0 h1 h2 h3)
  rcases (by omega : mode = 0 ∨ mode = 1 ∨ mode = 2) with rfl | rfl | rfl
  · clear h0 h1 h2 h3
    go_enter Tryz.func191, Tryz.ntmps191
    go_wp2_with fail
    refine (HR.out).mono ?_
    rintro e w2 ⟨rfl, C2⟩
    have HC := Lib.hid C2
    clear C2
    go_wp2_with fail
    refine (modes_any w2).mono ?_
    rintro e w3 ⟨g, rfl, C3, H3⟩
    have HC3 := Lib.hid (And.intro C3 H3)
    have m0 := (mode_at g w3).1
    have r0 := fun a b => (row_at a b w3).1
    have r1 := fun a b => (row_at a b w3).2
    clear C3 H3
    go_wp2_with fail
    refine (zero2_any _ _ w3).mono ?_
    rintro e w4 ⟨rfl, rfl⟩
    go_wp2_with fail
    go_ret
    exact ⟨rfl, HC.out.trans HC3.out.1 (U := []) (by simp) (by simp)⟩
  · clear h0 h1 h2 h3
    go_enter Tryz.func191, Tryz.ntmps191
    go_wp2_with fail
    refine (HR.out).mono ?_
    rintro e w2 ⟨rfl, C2⟩
    have HC := Lib.hid C2
    clear C2
    go_wp2_with fail
    refine (modes_any w2).mono ?_
    rintro e w3 ⟨g, rfl, C3, H3⟩
    have HC3 := Lib.hid (And.intro C3 H3)
    have m0 := (mode_at g w3).2.1
    have r0 := fun a b => (row_at a b w3).1
    have r1 := fun a b => (row_at a b w3).2
    clear C3 H3
    go_wp2_with fail
    refine (self2_any _ _ w3).mono ?_
    rintro e w4 ⟨rfl, rfl⟩
    go_wp2_with fail
    go_ret
    exact ⟨rfl, HC.out.trans HC3.out.1 (U := []) (by simp) (by simp)⟩
  · clear h0 h1 h2 h3
    go_enter Tryz.func191, Tryz.ntmps191
    go_wp2_with fail
    refine (HR.out).mono ?_
    rintro e w2 ⟨rfl, C2⟩
    have HC := Lib.hid C2
    clear C2
    go_wp2_with fail
    refine (modes_any w2).mono ?_
    rintro e w3 ⟨g, rfl, C3, H3⟩
    have HC3 := Lib.hid (And.intro C3 H3)
    have m0 := (mode_at g w3).2.2
    have r0 := fun a b => (row_at a b w3).1
    have r1 := fun a b => (row_at a b w3).2
    clear C3 H3
    go_wp2_with fail
    refine (eight2_any count _ g w3 HC3.out.2).mono ?_
    rintro e w4 ⟨rfl, rfl⟩
    go_wp2_with fail
    go_ret
    exact ⟨rfl, HC.out.trans HC3.out.1 (U := []) (by simp) (by simp)⟩
end Go.Proofs.YtafmnkngjjnpiaaGreatDoor

namespace Go.Proofs.YtafmnkngjjnpiaaGreatDoor
set_option maxRecDepth 100000
set_option linter.unusedVariables false
abbrev Pl := Int × Int × Int × Int × List Int × Int × Bool
structure Pt where
  its : List It
  c : Wc
  A : At3
  E : List Pl
def plE (kind : Int) (a : At3) (zs : List Int) (n : Int) (ok : Bool) : Pl := (kind, a.fl, a.mn, a.tm, zs, n, ok)
def getP (t : Pt) : Bool × Pt := (!decide (((t.c.got : Nat) : Int) ∈ t.c.gs), { t with c := { t.c with got := t.c.got + 1 }, E := t.E ++ [if ((t.c.got : Nat) : Int) ∈ t.c.gs then plE 0 at0 [] 0 false else plE 0 t.A [] 0 true] })
def setP (t : Pt) (B : At3) : Bool × Pt :=
  (!decide (((t.c.set : Nat) : Int) ∈ t.c.ss), { t with c := { t.c with set := t.c.set + 1 }, A := if ((t.c.set : Nat) : Int) ∈ t.c.ss then t.A else B, E := t.E ++ [plE 1 B [] 0 (!decide (((t.c.set : Nat) : Int) ∈ t.c.ss))] })
def wrOne (t : Pt) (b : List Int) : Pt := { t with c := { t.c with wrote := t.c.wrote + 1 }, E := t.E ++ [plE 2 at0 b (wrN t.c.ws t.c.wrote b.length) (wrB t.c.ws t.c.wrote)] }
def writeP : Nat → Pt → List Int → Bool × Pt
  | 0, t, b => (true, t)
  | f + 1, t, b =>
    if b.length = 0 then (true, t)
    else if wrB t.c.ws t.c.wrote = false ∨ wrN t.c.ws t.c.wrote b.length = 0 then (false, wrOne t b)
    else writeP f (wrOne t b) (b.drop (wrN t.c.ws t.c.wrote b.length).toNat)
def readP (t : Pt) : Int × Int × List Int × Pt :=
  match t.its with
  | [] => (0, 6, [], { t with E := t.E ++ [plE 5 at0 [] 0 false] })
  | x :: r =>
    if x.kind = 1 then (1, 0, [], { t with its := r, E := t.E ++ [plE 4 at0 [] x.n false] })
    else if x.kind = 2 then (2, 5, [], { t with its := r, E := t.E ++ [plE 3 at0 [] 0 false] })
    else (0, 0, x.bs.take (min 64 x.bs.length), { t with its := if min 64 x.bs.length = x.bs.length then r else { x with bs := x.bs.drop (min 64 x.bs.length) } :: r, E := t.E ++ [plE 3 at0 [] ((min 64 x.bs.length : Nat) : Int) true] })
structure Aq where
  pr : List Int
  mode : Int
structure Ss where
  t : Pt
  b : Bf
  g : Stg
  d : Dc
def decT (n : Nat) : List Int := (Lib.itoa (n : Nat)).map fun b => (b.toNat : Int)
def wrS (s : Ss) (b : List Int) : Option Int × Ss := (if (writeP b.length s.t b).1 = true then none else some 4, { s with t := (writeP b.length s.t b).2 })
def showS (q : Aq) (s : Ss) : Option Int × Ss := wrS s (lineV q.pr q.mode (charsB s.b.l s.b.l.length) (charsB s.b.l s.b.at') decT)
def ansS (q : Aq) (s : Ss) (changed : Bool) (e : Int) : Option Int × Ss :=
  if e = 4 then wrS s [7] else if changed = true then showS q s else (none, s)
def keyS (q : Aq) (s : Ss) (k : Ky) : Option Int × Ss :=
  if k.kind = 13 then (none, { s with g := { s.g with begun := true } })
  else if k.kind = 14 then ansS q { s with g := (endS 1024 s.g s.b).2.1, b := (endS 1024 s.g s.b).2.2 } true (endS 1024 s.g s.b).1
  else if s.g.begun = true then (none, { s with g := if k.kind = 0 then (addS 1024 s.g k.c).2 else s.g })
  else if k.kind = 1 then (some 0, s)
  else if k.kind = 11 then (some 1, s)
  else if k.kind = 12 then (if charsB s.b.l s.b.l.length = 0 then some 2 else none, s)
  else if k.kind = 10 then showS q s
  else ansS q { s with b := (doB 1024 s.b k).2.2 } (doB 1024 s.b k).1 (doB 1024 s.b k).2.1
def keysS (q : Aq) (s : Ss) : List Ky → Option Int × Ss
  | [] => (none, s)
  | k :: r => match (keyS q s k).1 with
    | some o => (some o, (keyS q s k).2)
    | none => keysS q (keyS q s k).2 r
def byteS (q : Aq) (s : Ss) (c : Int) : Option Int × Ss := keysS q { s with d := (feedD 36 s.d c).2 } (feedD 36 s.d c).1
def bytesS (q : Aq) (s : Ss) : List Int → Option Int × Ss
  | [] => (none, s)
  | c :: r => match (byteS q s c).1 with
    | some o => (some o, (byteS q s c).2)
    | none => bytesS q (byteS q s c).2 r
def roundS (q : Aq) (s : Ss) : Option Int × Ss :=
  if (readP s.t).2.1 = 6 then
    ((keysS q { s with t := (readP s.t).2.2.2, d := ⟨[], s.d.p⟩ } (lastD s.d)).1.orElse (fun _ => some 2), (keysS q { s with t := (readP s.t).2.2.2, d := ⟨[], s.d.p⟩ } (lastD s.d)).2)
  else if (readP s.t).2.1 ≠ 0 then (some 4, { s with t := (readP s.t).2.2.2 })
  else if (readP s.t).1 = 1 then (some 3, { s with t := (readP s.t).2.2.2 })
  else bytesS q { s with t := (readP s.t).2.2.2 } (readP s.t).2.2.1
inductive LoopR (q : Aq) : Ss → Int → Ss → Prop
  | done {s : Ss} {o : Int} {s' : Ss} (h : roundS q s = (some o, s')) : LoopR q s o s'
  | more {s s1 s' : Ss} {o : Int} (h : roundS q s = (none, s1)) (k : LoopR q s1 o s') : LoopR q s o s'
def loopF (q : Aq) : Nat → Ss → Option (Int × Ss)
  | 0, s => none
  | f + 1, s => match (roundS q s).1 with
    | some o => some (o, (roundS q s).2)
    | none => loopF q f (roundS q s).2
theorem LoopR.eq {q : Aq} {s s' : Ss} {o : Int} (h : LoopR q s o s') : ∀ (f : Nat) (x : Int × Ss), loopF q f s = some x → x = (o, s') := by
  induction h with
  | done h =>
    intro f x hx
    cases f with
    | zero => cases hx
    | succ f =>
      unfold loopF at hx
      rw [h] at hx
      injection hx with hx
      exact hx.symm
  | more h _ ih =>
    intro f x hx
    cases f with
    | zero => cases hx
    | succ f =>
      unfold loopF at hx
      rw [h] at hx
      exact ih f x hx
def startV : List Int := [27, 91, 63, 50, 48, 48, 52, 104]
def stopV : List Int := [27, 91, 63, 50, 48, 48, 52, 108]
def closeV : List Int := [13, 10]
def byeS (s : Ss) : Ss := (wrS (wrS s stopV).2 closeV).2
inductive TalkR (q : Aq) (s : Ss) : Int → Ss → Prop
  | start (h : (wrS s startV).1 = some 4) : TalkR q s 4 (byeS (wrS s startV).2)
  | show (h : (wrS s startV).1 = none) (h2 : (showS q (wrS s startV).2).1 = some 4) : TalkR q s 4 (byeS (showS q (wrS s startV).2).2)
  | loop {o : Int} {s' : Ss} (h : (wrS s startV).1 = none) (h2 : (showS q (wrS s startV).2).1 = none) (k : LoopR q (showS q (wrS s startV).2).2 o s') : TalkR q s o (byeS s')
def rawA (a : At3) : At3 := ⟨bits .andNot .u32 a.fl 63, 1, 0⟩
inductive AllR (q : Aq) (s : Ss) : Int → Ss → Prop
  | get (h : (getP s.t).1 = false) : AllR q s 4 { s with t := (getP s.t).2 }
  | raw (h : (getP s.t).1 = true) (h2 : (setP (getP s.t).2 (rawA s.t.A)).1 = false) : AllR q s 4 { s with t := (setP (setP (getP s.t).2 (rawA s.t.A)).2 s.t.A).2 }
  | talk {o : Int} {s' : Ss} (h : (getP s.t).1 = true) (h2 : (setP (getP s.t).2 (rawA s.t.A)).1 = true) (k : TalkR q { s with t := (setP (getP s.t).2 (rawA s.t.A)).2 } o s') :
      AllR q s (if (setP s'.t s.t.A).1 = true then o else 4) { s' with t := (setP s'.t s.t.A).2 }
end Go.Proofs.YtafmnkngjjnpiaaGreatDoor

namespace Go.Proofs.YtafmnkngjjnpiaaGreatDoor
set_option linter.unusedVariables false
set_option linter.unusedSimpArgs false
set_option maxRecDepth 100000
open Go.RowKit
def OutB (l : List Int) (w : World) (e : Ending) (w' : World) : Prop :=
  ∃ ao c, e = .returned (.slice ao l.length c) ∧ SrcAt w' ao l.length c (valsOf .u8 l) ∧ (∀ ad, ao = some ad → w.heap.size ≤ ad.block) ∧ Chg [] w w' ∧ l.length ≤ c
theorem out_new (l : List Int) (w : World) (t : TypeId) : OutB l w (.returned (.slice (some ⟨w.heap.size, 0, none⟩) l.length l.length)) (w.alloc (.cells (valsOf .u8 l).toArray t ((valsOf .u8 l).toArray.size, (valsOf .u8 l).toArray.size + 1))) := by
  refine ⟨_, _, rfl, ⟨by rw [valsOf_length], fun e => (by cases e), fun ad e j u hu => ?_⟩, fun ad e => ?_, (Chg.refl _ _).alloc _, Nat.le_refl _⟩
  · injection e with e
    subst e
    rw [Addr.add_lit, Nat.zero_add, World.cell?_alloc_mark w]
    simpa using hu
  · injection e with e
    subst e
    exact Nat.le_refl _
theorem vBell_any (w : World) : Calls Tryz.prog 213 #[] w (OutB [7] w) := by
  have hc : (convert 22 22 (.slice (some ⟨w.heap.size, 0, none⟩) 1 1)).run Tryz.prog (w.alloc (.cells #[Value.int IntKind.u8 7] 5)) = .ok (.slice (some ⟨w.heap.size, 0, none⟩) 1 1) (w.alloc (.cells #[Value.int IntKind.u8 7] 5 (1, 1 + 1))) := Lib.run_convert_bytes_const (P := Tryz.prog) w 22 5 #[Value.int IntKind.u8 7] 1 1 Tryz.underlying22 Tryz.underlying5
  have HO := Lib.hid (out_new [7] w 5)
  go_enter Tryz.func213, Tryz.ntmps213
  go_wp2_with fail
  go_ret
  exact HO.out
theorem vStart_any (w : World) : Calls Tryz.prog 30 #[] w (OutB startV w) := by
  have hc : (convert 22 22 (.slice (some ⟨w.heap.size, 0, none⟩) 8 8)).run Tryz.prog (w.alloc (.cells #[Value.int IntKind.u8 27, Value.int IntKind.u8 91, Value.int IntKind.u8 63, Value.int IntKind.u8 50, Value.int IntKind.u8 48, Value.int IntKind.u8 48, Value.int IntKind.u8 52, Value.int IntKind.u8 104] 5)) = .ok (.slice (some ⟨w.heap.size, 0, none⟩) 8 8) (w.alloc (.cells #[Value.int IntKind.u8 27, Value.int IntKind.u8 91, Value.int IntKind.u8 63, Value.int IntKind.u8 50, Value.int IntKind.u8 48, Value.int IntKind.u8 48, Value.int IntKind.u8 52, Value.int IntKind.u8 104] 5 (8, 8 + 1))) := Lib.run_convert_bytes_const (P := Tryz.prog) w 22 5 #[Value.int IntKind.u8 27, Value.int IntKind.u8 91, Value.int IntKind.u8 63, Value.int IntKind.u8 50, Value.int IntKind.u8 48, Value.int IntKind.u8 48, Value.int IntKind.u8 52, Value.int IntKind.u8 104] 8 8 Tryz.underlying22 Tryz.underlying5
  have HO := Lib.hid (out_new startV w 5)
  go_enter Tryz.func30, Tryz.ntmps30
  go_wp2_with fail
  go_ret
  exact HO.out
theorem vStop_any (w : World) : Calls Tryz.prog 31 #[] w (OutB stopV w) := by
  have hc : (convert 22 22 (.slice (some ⟨w.heap.size, 0, none⟩) 8 8)).run Tryz.prog (w.alloc (.cells #[Value.int IntKind.u8 27, Value.int IntKind.u8 91, Value.int IntKind.u8 63, Value.int IntKind.u8 50, Value.int IntKind.u8 48, Value.int IntKind.u8 48, Value.int IntKind.u8 52, Value.int IntKind.u8 108] 5)) = .ok (.slice (some ⟨w.heap.size, 0, none⟩) 8 8) (w.alloc (.cells #[Value.int IntKind.u8 27, Value.int IntKind.u8 91, Value.int IntKind.u8 63, Value.int IntKind.u8 50, Value.int IntKind.u8 48, Value.int IntKind.u8 48, Value.int IntKind.u8 52, Value.int IntKind.u8 108] 5 (8, 8 + 1))) := Lib.run_convert_bytes_const (P := Tryz.prog) w 22 5 #[Value.int IntKind.u8 27, Value.int IntKind.u8 91, Value.int IntKind.u8 63, Value.int IntKind.u8 50, Value.int IntKind.u8 48, Value.int IntKind.u8 48, Value.int IntKind.u8 52, Value.int IntKind.u8 108] 8 8 Tryz.underlying22 Tryz.underlying5
  have HO := Lib.hid (out_new stopV w 5)
  go_enter Tryz.func31, Tryz.ntmps31
  go_wp2_with fail
  go_ret
  exact HO.out
theorem vClose_any (w : World) : Calls Tryz.prog 165 #[] w (OutB closeV w) := by
  have hc : (convert 22 22 (.slice (some ⟨w.heap.size, 0, none⟩) 2 2)).run Tryz.prog (w.alloc (.cells #[Value.int IntKind.u8 13, Value.int IntKind.u8 10] 5)) = .ok (.slice (some ⟨w.heap.size, 0, none⟩) 2 2) (w.alloc (.cells #[Value.int IntKind.u8 13, Value.int IntKind.u8 10] 5 (2, 2 + 1))) := Lib.run_convert_bytes_const (P := Tryz.prog) w 22 5 #[Value.int IntKind.u8 13, Value.int IntKind.u8 10] 2 2 Tryz.underlying22 Tryz.underlying5
  have HO := Lib.hid (out_new closeV w 5)
  go_enter Tryz.func165, Tryz.ntmps165
  go_wp2_with fail
  go_ret
  exact HO.out
end Go.Proofs.YtafmnkngjjnpiaaGreatDoor

namespace Go.Proofs.YtafmnkngjjnpiaaGreatDoor
set_option linter.unusedVariables false
set_option linter.unusedSimpArgs false
set_option maxRecDepth 100000
open Go.RowKit
def bI (s : ByteArray) : List Int := s.data.toList.map fun b => (b.toNat : Int)
theorem bI_length (s : ByteArray) : (bI s).length = s.size := by unfold bI; rw [List.length_map]; simp
theorem bI_by (s : ByteArray) : ByR (bI s) := by
  intro x hx
  unfold bI at hx
  rw [List.mem_map] at hx
  obtain ⟨b, _, rfl⟩ := hx
  have := b.toNat_lt
  omega
theorem bytesWorld_chg (w : World) (e : TypeId) (s : ByteArray) : Chg [] w (Lib.bytesWorld w e s) := by
  exact ⟨rfl, rfl, rfl, by rw [Lib.bytesWorld_size]; omega, fun k hk _ => Lib.bytesWorld_at_old w e s k hk⟩
theorem src_bytes (w : World) (e : TypeId) (s : ByteArray) (g : Nat) (hg : g = w.heap.size) : SrcAt (Lib.bytesWorld w e s) (some ⟨g, 0, none⟩) s.size (grownCap w s.size 0 e) (valsOf .u8 (bI s)) := by
  subst hg
  refine ⟨by rw [valsOf_length, bI_length], fun e => (by cases e), fun ad ea j u hu => ?_⟩
  injection ea with ea
  subst ea
  have hj : j < s.size := by
    have := (List.getElem?_eq_some_iff.1 hu).1
    rwa [valsOf_length, bI_length] at this
  rw [Addr.add_lit, Nat.zero_add, Lib.bytesWorld_cell w e s j hj]
  unfold valsOf bI at hu
  rw [← hu]
  have he : s.data[j]? = some s.data[j] := Array.getElem?_eq_getElem (by exact hj)
  simp [List.getD, he]
structure AskOk (s : ByteArray) (mode room : Int) : Prop where
  fine : fineU (bI s).length (bI s) = true
  len : s.size ≤ 256
  m0 : 0 ≤ mode
  m3 : mode < 3
  r0 : 0 ≤ room
def askV (s : ByteArray) (mode room : Int) : Value := .agg #[.string s, .int .i64 mode, .int .i64 room]
theorem grown_le (w : World) (n : Nat) (e : TypeId) : n ≤ grownCap w n 0 e := by
  exact grownCap_ge w n 0 e
set_option maxHeartbeats 8000000 in
theorem vCheck_ok (s : ByteArray) (mode room : Int) (w : World) (h : AskOk s mode room) (hT : Lib.Utf8Tabs 1 2 w) :
    Calls Tryz.prog 103 #[askV s mode room] w fun e w' => e = .returned (.int .i64 0) ∧ Chg [] w w' := by
  have h0 := h.m0
  have h3 := h.m3
  have hr := h.r0
  have hl := h.len
  have HH := Lib.hid h
  have HT := Lib.hid hT
  have B1 := alloc_heap w (.cells #[.string s, .int .i64 mode, .int .i64 room] 76)
  have C1 : Chg [] w (w.alloc (.cells #[.string s, .int .i64 mode, .int .i64 room] 76)) := (Chg.refl _ _).alloc _
  have x0 : (w.alloc (.cells #[.string s, .int .i64 mode, .int .i64 room] 76)).cell? ⟨w.heap.size, 0, none⟩ = some (.string s) := by rw [cell_of_heap B1]; rfl
  have hcv := fun W => Lib.run_convert_string_bytes (P := Tryz.prog) W 9 22 5 s Tryz.underlying9 Tryz.underlying22 Tryz.underlying5
  have HE := Lib.hid (And.intro B1 C1)
  clear h hT B1 C1
  unfold askV
  go_enter Tryz.func103, Tryz.ntmps103
  go_upto_region 2 with (fail)
  have HW := Lib.hid (And.intro (bytesWorld_chg (w.alloc (.cells #[.string s, .int .i64 mode, .int .i64 room] 76)) 5 s) (And.intro (src_bytes (w.alloc (.cells #[.string s, .int .i64 mode, .int .i64 room] 76)) 5 s (w.heap.size + 1) (by simp)) (grown_le (w.alloc (.cells #[.string s, .int .i64 mode, .int .i64 room] 76)) s.size 5)))
  generalize hw3 : Lib.bytesWorld _ _ _ = w3 at *
  generalize grownCap _ _ _ _ = cc at *
  have HX := Lib.hid (And.intro (HE.out.2.trans HW.out.1 (U := []) (by simp) (by simp)) (HW.out.1.heap HE.out.1 (by simp)))
  have hcc := HW.out.2.2
  have HS := Lib.hid HW.out.2.1
  have HF := Lib.hid HH.out.fine
  clear hw3 HE HW x0 hcv
  go_loopw [3] (fun v wr => ∃ (t' : List Int) (f : Nat) (ao : Option Addr) (n c : Nat), v = .slice ao n c ∧ SrcAt wr ao n c (valsOf .u8 t') ∧ ByR t' ∧ n ≤ 1000000 ∧ n ≤ c ∧ fineU f t' = true ∧ t'.length ≤ f ∧ Chg [] w3 wr) (fun v _ => sliceLen v)
  case atStart => exact ⟨bI s, _, _, _, _, rfl, HS.out, bI_by s, by omega, hcc, HF.out, Nat.le_refl _, Chg.refl _ _⟩
  case round =>
    obtain ⟨t', f, ao', n', c', rfl, hs, hb, hn', hc', hf, hlf, hC⟩ := hrel
    have hsl := hs.len
    have HS2 := Lib.hid hs
    have HF := Lib.hid hf
    have HC := Lib.hid hC
    have HL := Lib.hid hsl
    have HB2 := Lib.hid hb
    clear hs hf hb HS hC hcc
    rcases Nat.eq_zero_or_pos n' with rfl | hp
    · have E := HC.out.heap HX.out.2 (by simp)
      have x0 : wr.cell? ⟨w.heap.size, 0, none⟩ = some (.string s) := by rw [cell_of_heap E]; rfl
      have x1 : wr.cell? ⟨w.heap.size, 1, none⟩ = some (.int .i64 mode) := by rw [cell_of_heap E]; rfl
      have x2 : wr.cell? ⟨w.heap.size, 2, none⟩ = some (.int .i64 room) := by rw [cell_of_heap E]; rfl
      have a0 : decide ((256 : Int) < (s.size : Nat)) = false := by rw [decide_eq_false_iff_not]; omega
      have a1 : decide (mode < 0) = false := by rw [decide_eq_false_iff_not]; omega
      have a2 : decide ((3 : Int) ≤ mode) = false := by rw [decide_eq_false_iff_not]; omega
      have a3 : decide (room < 0) = false := by rw [decide_eq_false_iff_not]; omega
      have HE2 := Lib.hid E
      clear hsl E h0 h3 hr hl
      go_wp2_with fail
      go_region_held3 (fun w' => w'.cell? ⟨w.heap.size, 1, none⟩ = some (.int .i64 mode)) (first | exact C4.cell x1 (by simp) | go_keep)
        (first
         | (go_at_call 121; refine (modes_any _).mono ?_; rintro e w4 ⟨g, rfl, C4', H4⟩; have C4 : Chg [] wr w4 := (by first | exact C4' | exact C4'.of_drew | exact C4'.of_drewN)))
      have HC4 := Lib.hid C4
      have y2 := C4.cell x2 (by simp)
      clear C4 C4' H4 x0 x1 x2
      go_wp2_with fail
      go_ret
      exact ⟨rfl, (HX.out.1.trans HC.out (U := []) (by simp) (by simp)).trans HC4.out (U := []) (by simp) (by simp)⟩
    · obtain ⟨f', rfl⟩ : ∃ f', f = f' + 1 := ⟨f - 1, by omega⟩
      have hf2 := HF.out
      rw [fineU, if_neg (by omega)] at hf2
      have hN := next_any _ (Utf8Tabs.chg0 HT.out (HX.out.1.trans HC.out (U := []) (by simp) (by simp))) ao' n' c' t' HS2.out HB2.out hn' hc'
      unfold NextPost at hN
      have hle := nextU_le t'
      have hpos := @nextU_pos t' (by omega)
      obtain ⟨uc, un, ue, hU⟩ : ∃ uc un ue, nextU t' = (uc, un, ue) := ⟨_, _, _, rfl⟩
      rw [hU] at hN hf2 hle hpos
      dsimp only at hN hf2 hle hpos
      have hgo : ue = 0 ∧ shownU uc = true := by
        refine Classical.byContradiction fun hc => ?_
        rw [if_neg hc] at hf2
        cases hf2
      rw [if_pos hgo] at hf2
      obtain ⟨hue, hsh⟩ := hgo
      have HN := Lib.hid hN
      have HF3 := Lib.hid hf2
      have HP := Lib.hid (fun W => printable_any uc W)
      rw [hsh] at HP
      have hun : un ≤ n' := by rw [← HL.out]; exact hle
      have hun1 : 1 ≤ un := hpos (by rw [hue]; decide)
      have t0 : decide ((0 : Int) < (n' : Int)) = true := decide_eq_true (by omega)
      have t1 : (ue != 0) = false := by rw [hue]; rfl
      clear hN hf2 hle hpos hU hsl hsh hue h0 h3 hr hl
      obtain ⟨g, off, rfl, _⟩ := HS2.out.int hp
      have hFr := HS2.out.from hun hc'
      have HFR := Lib.hid hFr
      clear hFr
      by_cases hck : c' = un
      · have hnu : n' = un := by omega
        have HCK := Lib.hid hck
        have HNU := Lib.hid hnu
        subst hck
        obtain rfl : n' = c' := by omega
        clear hnu
        go_wp2_with fail
        refine (HN.out).mono ?_
        rintro e w2 ⟨rfl, C2⟩
        have HC2 := Lib.hid C2
        clear C2
        go_wp2_with fail
        refine (HP.out _).mono ?_
        rintro e w3 ⟨rfl, C3⟩
        have HC3 := Lib.hid (HC2.out.trans C3 (U := []) (by simp) (by simp))
        clear C3
        go_wp2_with fail
        have hfr := HFR.out
        rw [fromA, if_pos rfl] at hfr
        rw [Nat.sub_self] at hfr
        exact ⟨⟨_, f', _, _, _, rfl, hfr.chg0 HC3.out, HB2.out.drop _, by omega, by omega, HF3.out, by rw [List.length_drop]; have := HL.out; omega, HC.out.trans HC3.out (by simp) (by simp)⟩, by simp [sliceLen]; omega⟩
      · have hck2 : un < c' := by omega
        go_wp2_with fail
        refine (HN.out).mono ?_
        rintro e w2 ⟨rfl, C2⟩
        have HC2 := Lib.hid C2
        clear C2
        go_wp2_with fail
        refine (HP.out _).mono ?_
        rintro e w3 ⟨rfl, C3⟩
        have HC3 := Lib.hid (HC2.out.trans C3 (U := []) (by simp) (by simp))
        clear C3
        go_wp2_with fail
        have hfr := HFR.out
        rw [fromA, if_neg hck] at hfr
        try simp only [Option.map_some, Addr.add_lit] at hfr
        exact ⟨⟨t'.drop un, f', _, _, _, rfl, hfr.chg0 HC3.out, HB2.out.drop un, by omega, by omega, HF3.out, by rw [List.length_drop]; have := HL.out; omega, HC.out.trans HC3.out (by simp) (by simp)⟩, by simp [sliceLen]; omega⟩
end Go.Proofs.YtafmnkngjjnpiaaGreatDoor
