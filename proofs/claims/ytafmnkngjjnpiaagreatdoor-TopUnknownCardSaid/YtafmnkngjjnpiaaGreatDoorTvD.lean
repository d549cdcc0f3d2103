import Derived.Test.YtafmnkngjjnpiaaGreatDoorTpS
import Derived.Test.YtafmnkngjjnpiaaGreatDoorWldB
import Derived.Test.YtafmnkngjjnpiaaGreatDoorAre
import Derived.Test.YtafmnkngjjnpiaaGreatDoorTpA
import Derived.Test.YtafmnkngjjnpiaaGreatDoorTtyD
import Derived.Test.YtafmnkngjjnpiaaGreatDoorTbF
import Derived.Test.YtafmnkngjjnpiaaGreatDoorTsC
import Derived.Lib.AppendStr
import Derived.Lib.ItoaLen
import Derived.Room.MakeNoZero
import Derived.Laws.CopyOwn
import Derived.Deep.DeepCutAuto
import Derived.Deep.RegionLaw
import Derived.Lib.ConvBytes
import Derived.Deep.RegionHeld3
import Derived.Lib.SlBytesConst
import Derived.Lib.ItoaNum
import Derived.Laws.EntriesVeiled
namespace Go.Proofs.YtafmnkngjjnpiaaGreatDoor
set_option linter.unusedVariables false
set_option linter.unusedSimpArgs false
set_option maxRecDepth 100000
open Go.RowKit
def modesC (g : Nat) : Array Value :=
  #[.func (Fn.func 148) #[] #[], .func (Fn.func 149) #[] #[], .func (Fn.func 150) #[] #[], .func (Fn.func 151) #[] #[],
    .func (Fn.func 147) #[] #[], .func (Fn.func 152) #[] #[.pointer (some ⟨g, 0, none⟩)]]
def ModesPost (w : World) (e : Ending) (w' : World) : Prop :=
  ∃ g, e = .returned (.agg (modesC g)) ∧ Chg [] w w' ∧ w'.heap[g]? = some (.cells #[.func (Fn.func 147) #[] #[]] 59 (0, 0))
theorem modes_any (w : World) : Calls Tryz.prog 121 #[] w (ModesPost w) := by
  go_enter Tryz.func121, Tryz.ntmps121
  have f1 : ((w.alloc (.cells #[.nilFunc, .nilFunc, .nilFunc, .nilFunc, .nilFunc, .nilFunc] 197)).alloc (.cells #[.nilFunc] 59)).frozen? ⟨w.heap.size + 1, 0, none⟩ = false := free_of_heap (alloc2_heap w _ _) 0
  have g0 : ((w.alloc (.cells #[.nilFunc, .nilFunc, .nilFunc, .nilFunc, .nilFunc, .nilFunc] 197)).alloc (.cells #[.nilFunc] 59)).cell? ⟨w.heap.size + 1, 0, none⟩ = some .nilFunc := by rw [cell_of_heap (alloc2_heap w _ _)]; rfl
  go_wp2_with fail
  refine bodyPost_ret (v := .agg (modesC (w.heap.size + 1))) ?_ rfl ⟨w.heap.size + 1, rfl, ((Chg.refl _ _).alloc _).alloc _, alloc2_heap w _ _⟩
  exact results_cell_row rfl _ _ w.heap.size 197 (modesC (w.heap.size + 1)) (0, 0) _ rfl (alloc_keeps (alloc_heap w _)) Tryz.underlying197 rfl (by kernel_rfl)
def eightF (count : Nat) : Nat := min count 1 * 8
theorem eight_any (count : Nat) (w : World) : Calls Tryz.prog 147 #[.int .i64 (count : Nat)] w fun e w' => e = .returned (.int .i64 (eightF count : Nat)) ∧ w = w' := by
  unfold eightF
  rcases Nat.eq_zero_or_pos count with rfl | h
  · go_enter Tryz.func147, Tryz.ntmps147
    go_wp2_with fail
    go_ret
    exact ⟨rfl, rfl⟩
  · rw [show min count 1 = 1 by omega]
    have h0 : (0 : Int) < (count : Nat) := by omega
    have h1 : min ((count : Nat) : Int) 1 = 1 := by omega
    clear h
    go_enter Tryz.func147, Tryz.ntmps147
    go_wp2_with fail
    go_ret
    exact ⟨rfl, rfl⟩
theorem zero1_any (count : Int) (w : World) : Calls Tryz.prog 148 #[.int .i64 count] w fun e w' => e = .returned (.int .i64 0) ∧ w = w' := by
  go_enter Tryz.func148, Tryz.ntmps148
  go_wp2_with fail
  go_ret
  exact ⟨rfl, rfl⟩
theorem zero2_any (count at' : Int) (w : World) : Calls Tryz.prog 149 #[.int .i64 count, .int .i64 at'] w fun e w' => e = .returned (.int .i64 0) ∧ w = w' := by
  go_enter Tryz.func149, Tryz.ntmps149
  go_wp2_with fail
  go_ret
  exact ⟨rfl, rfl⟩
theorem self1_any (count : Int) (w : World) : Calls Tryz.prog 150 #[.int .i64 count] w fun e w' => e = .returned (.int .i64 count) ∧ w = w' := by
  go_enter Tryz.func150, Tryz.ntmps150
  go_wp2_with fail
  go_ret
  exact ⟨rfl, rfl⟩
theorem self2_any (count at' : Int) (w : World) : Calls Tryz.prog 151 #[.int .i64 count, .int .i64 at'] w fun e w' => e = .returned (.int .i64 at') ∧ w = w' := by
  go_enter Tryz.func151, Tryz.ntmps151
  go_wp2_with fail
  go_ret
  exact ⟨rfl, rfl⟩
theorem eight2_any (count : Nat) (at' : Int) (g : Nat) (w : World) (h : w.heap[g]? = some (.cells #[.func (Fn.func 147) #[] #[]] 59 (0, 0))) :
    Calls Tryz.prog 152 #[.int .i64 (count : Nat), .int .i64 at', .pointer (some ⟨g, 0, none⟩)] w fun e w' => e = .returned (.int .i64 (eightF count : Nat)) ∧ w = w' := by
  have x0 : w.cell? ⟨g, 0, none⟩ = some (.func (Fn.func 147) #[] #[]) := by rw [cell_of_heap h]; rfl
  clear h
  go_enter Tryz.func152, Tryz.ntmps152
  go_wp2_with fail
  refine (eight_any count w).mono ?_
  rintro e w2 ⟨rfl, rfl⟩
  go_wp2_with fail
  go_ret
  exact ⟨rfl, rfl⟩
theorem vright_any (mode : Int) (count at' : Nat) (w : World) (h0 : 0 ≤ mode) (h1 : mode < 3) (h2 : at' ≤ count) (h3 : count ≤ 1024) :
    Calls Tryz.prog 189 #[.int .i64 mode, .int .i64 (count : Nat), .int .i64 (at' : Nat)] w fun e w' => e = .returned (.bool true) ∧ Chg [] w w' := by
  have a3 : decide (((at' : Nat) : Int) ≤ (count : Nat)) = true := by rw [decide_eq_true_eq]; omega
  have a4 : decide (((count : Nat) : Int) ≤ 1024) = true := by rw [decide_eq_true_eq]; omega
  have a5 : decide ((0 : Int) ≤ ((at' : Nat) : Int)) = true := by rw [decide_eq_true_eq]; omega
  clear a3 a5 h3
  go_enter Tryz.func189, Tryz.ntmps189
  go_wp2_with fail
  refine (modes_any w).mono ?_
  rintro e w2 ⟨g, rfl, C2, H2⟩
  have HC := Lib.hid C2
  clear C2 H2
  go_wp2_with fail
  go_ret
  exact ⟨rfl, HC.out⟩
theorem mode_at (g : Nat) (w : World) :
    (Instr.index 197 (.agg (modesC g)) (.int .i64 0)).run Tryz.prog w = .ok (.agg #[.func (Fn.func 148) #[] #[], .func (Fn.func 149) #[] #[]]) w ∧
    (Instr.index 197 (.agg (modesC g)) (.int .i64 1)).run Tryz.prog w = .ok (.agg #[.func (Fn.func 150) #[] #[], .func (Fn.func 151) #[] #[]]) w ∧
    (Instr.index 197 (.agg (modesC g)) (.int .i64 2)).run Tryz.prog w = .ok (.agg #[.func (Fn.func 147) #[] #[], .func (Fn.func 152) #[] #[.pointer (some ⟨g, 0, none⟩)]]) w := ⟨by kernel_rfl, by kernel_rfl, by kernel_rfl⟩
theorem row_at (a b : Value) (w : World) : (Instr.field 196 (.agg #[a, b]) 0).run Tryz.prog w = .ok a w ∧ (Instr.field 196 (.agg #[a, b]) 1).run Tryz.prog w = .ok b w := ⟨by kernel_rfl, by kernel_rfl⟩
theorem stars_any (mode : Int) (count : Nat) (w : World) (h0 : 0 ≤ mode) (h1 : mode < 3) (h3 : count ≤ 1024) :
    Calls Tryz.prog 190 #[.int .i64 mode, .int .i64 (count : Nat)] w fun e w' => e = .returned (.int .i64 (starsV mode count : Nat)) ∧ Chg [] w w' := by
  have HR := Lib.hid (vright_any mode count 0 w h0 h1 (Nat.zero_le _) h3)
  rcases (by omega : mode = 0 ∨ mode = 1 ∨ mode = 2) with rfl | rfl | rfl
  · clear h0 h1 h3
    go_enter Tryz.func190, Tryz.ntmps190
    go_wp2_with fail
    refine (HR.out).mono ?_
    rintro e w2 ⟨rfl, C2⟩
    have HC := Lib.hid C2
    clear C2
    go_wp2_with fail
    refine (modes_any w2).mono ?_
    rintro e w3 ⟨g, rfl, C3, H3⟩
    have HC3 := Lib.hid (And.intro C3 H3)
    have m0 := (mode_at g w3).1
    have r0 := fun a b => (row_at a b w3).1
    have r1 := fun a b => (row_at a b w3).2
    clear C3 H3
    go_wp2_with fail
    refine (zero1_any _ w3).mono ?_
    rintro e w4 ⟨rfl, rfl⟩
    go_wp2_with fail
    go_ret
    exact ⟨rfl, HC.out.trans HC3.out.1 (U := []) (by simp) (by simp)⟩
  · clear h0 h1 h3
    go_enter Tryz.func190, Tryz.ntmps190
    go_wp2_with fail
    refine (HR.out).mono ?_
    rintro e w2 ⟨rfl, C2⟩
    have HC := Lib.hid C2
    clear C2
    go_wp2_with fail
    refine (modes_any w2).mono ?_
    rintro e w3 ⟨g, rfl, C3, H3⟩
    have HC3 := Lib.hid (And.intro C3 H3)
    have m0 := (mode_at g w3).2.1
    have r0 := fun a b => (row_at a b w3).1
    have r1 := fun a b => (row_at a b w3).2
    clear C3 H3
    go_wp2_with fail
    refine (self1_any _ w3).mono ?_
    rintro e w4 ⟨rfl, rfl⟩
    go_wp2_with fail
    go_ret
    exact ⟨rfl, HC.out.trans HC3.out.1 (U := []) (by simp) (by simp)⟩
  · clear h0 h1 h3
    go_enter Tryz.func190, Tryz.ntmps190
    go_wp2_with fail
    refine (HR.out).mono ?_
    rintro e w2 ⟨rfl, C2⟩
    have HC := Lib.hid C2
    clear C2
    go_wp2_with fail
    refine (modes_any w2).mono ?_
    rintro e w3 ⟨g, rfl, C3, H3⟩
    have HC3 := Lib.hid (And.intro C3 H3)
    have m0 := (mode_at g w3).2.2
    have r0 := fun a b => (row_at a b w3).1
    have r1 := fun a b => (row_at a b w3).2
    clear C3 H3
    go_wp2_with fail
    refine (eight_any count w3).mono ?_
    rintro e w4 ⟨rfl, rfl⟩
    go_wp2_with fail
    go_ret
    exact ⟨rfl, HC.out.trans HC3.out.1 (U := []) (by simp) (by simp)⟩
theorem place_any (mode : Int) (count at' : Nat) (w : World) (h0 : 0 ≤ mode) (h1 : mode < 3) (h2 : at' ≤ count) (h3 : count ≤ 1024) :
    Calls Tryz.prog 191 #[.int .i64 mode, .int .i64 (count : Nat), .int .i64 (at' : Nat)] w fun e w' => e = .returned (.int .i64 (placeV mode count at' : Nat)) ∧ Chg [] w w' := by
  have HR := Lib.hid (vright_any mode count at' w h0 h1 h2 h3)
  rcases (by omega : mode = 0 ∨ mode = 1 ∨ mode = 2) with rfl | rfl | rfl
  · clear h0 h1 h2 h3
    go_enter Tryz.func191, Tryz.ntmps191
    go_wp2_with fail
    refine (HR.out).mono ?_
    rintro e w2 ⟨rfl, C2⟩
    have HC := Lib.hid C2
    clear C2
    go_wp2_with fail
    refine (modes_any w2).mono ?_
    rintro e w3 ⟨g, rfl, C3, H3⟩
    have HC3 := Lib.hid (And.intro C3 H3)
    have m0 := (mode_at g w3).1
    have r0 := fun a b => (row_at a b w3).1
    have r1 := fun a b => (row_at a b w3).2
    clear C3 H3
    go_wp2_with fail
    refine (zero2_any _ _ w3).mono ?_
    rintro e w4 ⟨rfl, rfl⟩
    go_wp2_with fail
    go_ret
    exact ⟨rfl, HC.out.trans HC3.out.1 (U := []) (by simp) (by simp)⟩
  · clear h0 h1 h2 h3
    go_enter Tryz.func191, Tryz.ntmps191
    go_wp2_with fail
    refine (HR.out).mono ?_
    rintro e w2 ⟨rfl, C2⟩
    have HC := Lib.hid C2
    clear C2
    go_wp2_with fail
    refine (modes_any w2).mono ?_
    rintro e w3 ⟨g, rfl, C3, H3⟩
    have HC3 := Lib.hid (And.intro C3 H3)
    have m0 := (mode_at g w3).2.1
    have r0 := fun a b => (row_at a b w3).1
    have r1 := fun a b => (row_at a b w3).2
    clear C3 H3
    go_wp2_with fail
    refine (self2_any _ _ w3).mono ?_
    rintro e w4 ⟨rfl, rfl⟩
    go_wp2_with fail
    go_ret
    exact ⟨rfl, HC.out.trans HC3.out.1 (U := []) (by simp) (by simp)⟩
  · clear h0 h1 h2 h3
    go_enter Tryz.func191, Tryz.ntmps191
    go_wp2_with fail
    refine (HR.out).mono ?_
    rintro e w2 ⟨rfl, C2⟩
    have HC := Lib.hid C2
    clear C2
    go_wp2_with fail
    refine (modes_any w2).mono ?_
    rintro e w3 ⟨g, rfl, C3, H3⟩
    have HC3 := Lib.hid (And.intro C3 H3)
    have m0 := (mode_at g w3).2.2
    have r0 := fun a b => (row_at a b w3).1
    have r1 := fun a b => (row_at a b w3).2
    clear C3 H3
    go_wp2_with fail
    refine (eight2_any count _ g w3 HC3.out.2).mono ?_
    rintro e w4 ⟨rfl, rfl⟩
    go_wp2_with fail
    go_ret
    exact ⟨rfl, HC.out.trans HC3.out.1 (U := []) (by simp) (by simp)⟩
end Go.Proofs.YtafmnkngjjnpiaaGreatDoor

namespace Go.Proofs.YtafmnkngjjnpiaaGreatDoor
set_option maxRecDepth 100000
set_option linter.unusedVariables false
abbrev Pl := Int × Int × Int × Int × List Int × Int × Bool
structure Pt where
  its : List It
  c : Wc
  A : At3
  E : List Pl
def plE (kind : Int) (a : At3) (zs : List Int) (n : Int) (ok : Bool) : Pl := (kind, a.fl, a.mn, a.tm, zs, n, ok)
def getP (t : Pt) : Bool × Pt := (!decide (((t.c.got : Nat) : Int) ∈ t.c.gs), { t with c := { t.c with got := t.c.got + 1 }, E := t.E ++ [if ((t.c.got : Nat) : Int) ∈ t.c.gs then plE 0 at0 [] 0 false else plE 0 t.A [] 0 true] })
def setP (t : Pt) (B : At3) : Bool × Pt :=
  (!decide (((t.c.set : Nat) : Int) ∈ t.c.ss), { t with c := { t.c with set := t.c.set + 1 }, A := if ((t.c.set : Nat) : Int) ∈ t.c.ss then t.A else B, E := t.E ++ [plE 1 B [] 0 (!decide (((t.c.set : Nat) : Int) ∈ t.c.ss))] })
def wrOne (t : Pt) (b : List Int) : Pt := { t with c := { t.c with wrote := t.c.wrote + 1 }, E := t.E ++ [plE 2 at0 b (wrN t.c.ws t.c.wrote b.length) (wrB t.c.ws t.c.wrote)] }
def writeP : Nat → Pt → List Int → Bool × Pt
  | 0, t, b => (true, t)
  | f + 1, t, b =>
    if b.length = 0 then (true, t)
    else if wrB t.c.ws t.c.wrote = false ∨ wrN t.c.ws t.c.wrote b.length = 0 then (false, wrOne t b)
    else writeP f (wrOne t b) (b.drop (wrN t.c.ws t.c.wrote b.length).toNat)
def readP (t : Pt) : Int × Int × List Int × Pt :=
  match t.its with
  | [] => (0, 6, [], { t with E := t.E ++ [plE 5 at0 [] 0 false] })
  | x :: r =>
    if x.kind = 1 then (1, 0, [], { t with its := r, E := t.E ++ [plE 4 at0 [] x.n false] })
    else if x.kind = 2 then (2, 5, [], { t with its := r, E := t.E ++ [plE 3 at0 [] 0 false] })
    else (0, 0, x.bs.take (min 64 x.bs.length), { t with its := if min 64 x.bs.length = x.bs.length then r else { x with bs := x.bs.drop (min 64 x.bs.length) } :: r, E := t.E ++ [plE 3 at0 [] ((min 64 x.bs.length : Nat) : Int) true] })
structure Aq where
  pr : List Int
  mode : Int
structure Ss where
  t : Pt
  b : Bf
  g : Stg
  d : Dc
def decT (n : Nat) : List Int := (Lib.itoa (n : Nat)).map fun b => (b.toNat : Int)
def wrS (s : Ss) (b : List Int) : Option Int × Ss := (if (writeP b.length s.t b).1 = true then none else some 4, { s with t := (writeP b.length s.t b).2 })
def showS (q : Aq) (s : Ss) : Option Int × Ss := wrS s (lineV q.pr q.mode (charsB s.b.l s.b.l.length) (charsB s.b.l s.b.at') decT)
def ansS (q : Aq) (s : Ss) (changed : Bool) (e : Int) : Option Int × Ss :=
  if e = 4 then wrS s [7] else if changed = true then showS q s else (none, s)
def keyS (q : Aq) (s : Ss) (k : Ky) : Option Int × Ss :=
  if k.kind = 13 then (none, { s with g := { s.g with begun := true } })
  else if k.kind = 14 then ansS q { s with g := (endS 1024 s.g s.b).2.1, b := (endS 1024 s.g s.b).2.2 } true (endS 1024 s.g s.b).1
  else if s.g.begun = true then (none, { s with g := if k.kind = 0 then (addS 1024 s.g k.c).2 else s.g })
  else if k.kind = 1 then (some 0, s)
  else if k.kind = 11 then (some 1, s)
  else if k.kind = 12 then (if charsB s.b.l s.b.l.length = 0 then some 2 else none, s)
  else if k.kind = 10 then showS q s
  else ansS q { s with b := (doB 1024 s.b k).2.2 } (doB 1024 s.b k).1 (doB 1024 s.b k).2.1
def keysS (q : Aq) (s : Ss) : List Ky → Option Int × Ss
  | [] => (none, s)
  | k :: r => match (keyS q s k).1 with
    | some o => (some o, (keyS q s k).2)
    | none => keysS q (keyS q s k).2 r
def byteS (q : Aq) (s : Ss) (c : Int) : Option Int × Ss := keysS q { s with d := (feedD 36 s.d c).2 } (feedD 36 s.d c).1
def bytesS (q : Aq) (s : Ss) : List Int → Option Int × Ss
  | [] => (none, s)
  | c :: r => match (byteS q s c).1 with
    | some o => (some o, (byteS q s c).2)
    | none => bytesS q (byteS q s c).2 r
def roundS (q : Aq) (s : Ss) : Option Int × Ss :=
  if (readP s.t).2.1 = 6 then
    ((keysS q { s with t := (readP s.t).2.2.2, d := ⟨[], s.d.p⟩ } (lastD s.d)).1.orElse (fun _ => some 2), (keysS q { s with t := (readP s.t).2.2.2, d := ⟨[], s.d.p⟩ } (lastD s.d)).2)
  else if (readP s.t).2.1 ≠ 0 then (some 4, { s with t := (readP s.t).2.2.2 })
  else if (readP s.t).1 = 1 then (some 3, { s with t := (readP s.t).2.2.2 })
  else bytesS q { s with t := (readP s.t).2.2.2 } (readP s.t).2.2.1
inductive LoopR (q : Aq) : Ss → Int → Ss → Prop
  | done {s : Ss} {o : Int} {s' : Ss} (h : roundS q s = (some o, s')) : LoopR q s o s'
  | more {s s1 s' : Ss} {o : Int} (h : roundS q s = (none, s1)) (k : LoopR q s1 o s') : LoopR q s o s'
def loopF (q : Aq) : Nat → Ss → Option (Int × Ss)
  | 0, s => none
  | f + 1, s => match (roundS q s).1 with
    | some o => some (o, (roundS q s).2)
    | none => loopF q f (roundS q s).2
theorem LoopR.eq {q : Aq} {s s' : Ss} {o : Int} (h : LoopR q s o s') : ∀ (f : Nat) (x : Int × Ss), loopF q f s = some x → x = (o, s') := by
  induction h with
  | done h =>
    intro f x hx
    cases f with
    | zero => cases hx
    | succ f =>
      unfold loopF at hx
      rw [h] at hx
      injection hx with hx
      exact hx.symm
  | more h _ ih =>
    intro f x hx
    cases f with
    | zero => cases hx
    | succ f =>
      unfold loopF at hx
      rw [h] at hx
      exact ih f x hx
def startV : List Int := [27, 91, 63, 50, 48, 48, 52, 104]
def stopV : List Int := [27, 91, 63, 50, 48, 48, 52, 108]
def closeV : List Int := [13, 10]
def byeS (s : Ss) : Ss := (wrS (wrS s stopV).2 closeV).2
inductive TalkR (q : Aq) (s : Ss) : Int → Ss → Prop
  | start (h : (wrS s startV).1 = some 4) : TalkR q s 4 (byeS (wrS s startV).2)
  | show (h : (wrS s startV).1 = none) (h2 : (showS q (wrS s startV).2).1 = some 4) : TalkR q s 4 (byeS (showS q (wrS s startV).2).2)
  | loop {o : Int} {s' : Ss} (h : (wrS s startV).1 = none) (h2 : (showS q (wrS s startV).2).1 = none) (k : LoopR q (showS q (wrS s startV).2).2 o s') : TalkR q s o (byeS s')
def rawA (a : At3) : At3 := ⟨bits .andNot .u32 a.fl 63, 1, 0⟩
inductive AllR (q : Aq) (s : Ss) : Int → Ss → Prop
  | get (h : (getP s.t).1 = false) : AllR q s 4 { s with t := (getP s.t).2 }
  | raw (h : (getP s.t).1 = true) (h2 : (setP (getP s.t).2 (rawA s.t.A)).1 = false) : AllR q s 4 { s with t := (setP (setP (getP s.t).2 (rawA s.t.A)).2 s.t.A).2 }
  | talk {o : Int} {s' : Ss} (h : (getP s.t).1 = true) (h2 : (setP (getP s.t).2 (rawA s.t.A)).1 = true) (k : TalkR q { s with t := (setP (getP s.t).2 (rawA s.t.A)).2 } o s') :
      AllR q s (if (setP s'.t s.t.A).1 = true then o else 4) { s' with t := (setP s'.t s.t.A).2 }
end Go.Proofs.YtafmnkngjjnpiaaGreatDoor

namespace Go.Proofs.YtafmnkngjjnpiaaGreatDoor
set_option linter.unusedVariables false
set_option linter.unusedSimpArgs false
set_option maxRecDepth 100000
open Go.RowKit
def OutB (l : List Int) (w : World) (e : Ending) (w' : World) : Prop :=
  ∃ ao c, e = .returned (.slice ao l.length c) ∧ SrcAt w' ao l.length c (valsOf .u8 l) ∧ (∀ ad, ao = some ad → w.heap.size ≤ ad.block) ∧ Chg [] w w' ∧ l.length ≤ c
theorem out_new (l : List Int) (w : World) (t : TypeId) : OutB l w (.returned (.slice (some ⟨w.heap.size, 0, none⟩) l.length l.length)) (w.alloc (.cells (valsOf .u8 l).toArray t ((valsOf .u8 l).toArray.size, (valsOf .u8 l).toArray.size + 1))) := by
  refine ⟨_, _, rfl, ⟨by rw [valsOf_length], fun e => (by cases e), fun ad e j u hu => ?_⟩, fun ad e => ?_, (Chg.refl _ _).alloc _, Nat.le_refl _⟩
  · injection e with e
    subst e
    rw [Addr.add_lit, Nat.zero_add, World.cell?_alloc_mark w]
    simpa using hu
  · injection e with e
    subst e
    exact Nat.le_refl _
theorem vBell_any (w : World) : Calls Tryz.prog 213 #[] w (OutB [7] w) := by
  have hc : (convert 22 22 (.slice (some ⟨w.heap.size, 0, none⟩) 1 1)).run Tryz.prog (w.alloc (.cells #[Value.int IntKind.u8 7] 5)) = .ok (.slice (some ⟨w.heap.size, 0, none⟩) 1 1) (w.alloc (.cells #[Value.int IntKind.u8 7] 5 (1, 1 + 1))) := Lib.run_convert_bytes_const (P := Tryz.prog) w 22 5 #[Value.int IntKind.u8 7] 1 1 Tryz.underlying22 Tryz.underlying5
  have HO := Lib.hid (out_new [7] w 5)
  go_enter Tryz.func213, Tryz.ntmps213
  go_wp2_with fail
  go_ret
  exact HO.out
theorem vStart_any (w : World) : Calls Tryz.prog 30 #[] w (OutB startV w) := by
  have hc : (convert 22 22 (.slice (some ⟨w.heap.size, 0, none⟩) 8 8)).run Tryz.prog (w.alloc (.cells #[Value.int IntKind.u8 27, Value.int IntKind.u8 91, Value.int IntKind.u8 63, Value.int IntKind.u8 50, Value.int IntKind.u8 48, Value.int IntKind.u8 48, Value.int IntKind.u8 52, Value.int IntKind.u8 104] 5)) = .ok (.slice (some ⟨w.heap.size, 0, none⟩) 8 8) (w.alloc (.cells #[Value.int IntKind.u8 27, Value.int IntKind.u8 91, Value.int IntKind.u8 63, Value.int IntKind.u8 50, Value.int IntKind.u8 48, Value.int IntKind.u8 48, Value.int IntKind.u8 52, Value.int IntKind.u8 104] 5 (8, 8 + 1))) := Lib.run_convert_bytes_const (P := Tryz.prog) w 22 5 #[Value.int IntKind.u8 27, Value.int IntKind.u8 91, Value.int IntKind.u8 63, Value.int IntKind.u8 50, Value.int IntKind.u8 48, Value.int IntKind.u8 48, Value.int IntKind.u8 52, Value.int IntKind.u8 104] 8 8 Tryz.underlying22 Tryz.underlying5
  have HO := Lib.hid (out_new startV w 5)
  go_enter Tryz.func30, Tryz.ntmps30
  go_wp2_with fail
  go_ret
  exact HO.out
theorem vStop_any (w : World) : Calls Tryz.prog 31 #[] w (OutB stopV w) := by
  have hc : (convert 22 22 (.slice (some ⟨w.heap.size, 0, none⟩) 8 8)).run Tryz.prog (w.alloc (.cells #[Value.int IntKind.u8 27, Value.int IntKind.u8 91, Value.int IntKind.u8 63, Value.int IntKind.u8 50, Value.int IntKind.u8 48, Value.int IntKind.u8 48, Value.int IntKind.u8 52, Value.int IntKind.u8 108] 5)) = .ok (.slice (some ⟨w.heap.size, 0, none⟩) 8 8) (w.alloc (.cells #[Value.int IntKind.u8 27, Value.int IntKind.u8 91, Value.int IntKind.u8 63, Value.int IntKind.u8 50, Value.int IntKind.u8 48, Value.int IntKind.u8 48, Value.int IntKind.u8 52, Value.int IntKind.u8 108] 5 (8, 8 + 1))) := Lib.run_convert_bytes_const (P := Tryz.prog) w 22 5 #[Value.int IntKind.u8 27, Value.int IntKind.u8 91, Value.int IntKind.u8 63, Value.int IntKind.u8 50, Value.int IntKind.u8 48, Value.int IntKind.u8 48, Value.int IntKind.u8 52, Value.int IntKind.u8 108] 8 8 Tryz.underlying22 Tryz.underlying5
  have HO := Lib.hid (out_new stopV w 5)
  go_enter Tryz.func31, Tryz.ntmps31
  go_wp2_with fail
  go_ret
  exact HO.out
theorem vClose_any (w : World) : Calls Tryz.prog 165 #[] w (OutB closeV w) := by
  have hc : (convert 22 22 (.slice (some ⟨w.heap.size, 0, none⟩) 2 2)).run Tryz.prog (w.alloc (.cells #[Value.int IntKind.u8 13, Value.int IntKind.u8 10] 5)) = .ok (.slice (some ⟨w.heap.size, 0, none⟩) 2 2) (w.alloc (.cells #[Value.int IntKind.u8 13, Value.int IntKind.u8 10] 5 (2, 2 + 1))) := Lib.run_convert_bytes_const (P := Tryz.prog) w 22 5 #[Value.int IntKind.u8 13, Value.int IntKind.u8 10] 2 2 Tryz.underlying22 Tryz.underlying5
  have HO := Lib.hid (out_new closeV w 5)
  go_enter Tryz.func165, Tryz.ntmps165
  go_wp2_with fail
  go_ret
  exact HO.out
end Go.Proofs.YtafmnkngjjnpiaaGreatDoor

namespace Go.Proofs.YtafmnkngjjnpiaaGreatDoor
set_option linter.unusedVariables false
set_option linter.unusedSimpArgs false
set_option maxRecDepth 100000
open Go.RowKit
def bI (s : ByteArray) : List Int := s.data.toList.map fun b => (b.toNat : Int)
theorem bI_length (s : ByteArray) : (bI s).length = s.size := by unfold bI; rw [List.length_map]; simp
theorem bI_by (s : ByteArray) : ByR (bI s) := by
  intro x hx
  unfold bI at hx
  rw [List.mem_map] at hx
  obtain ⟨b, _, rfl⟩ := hx
  have := b.toNat_lt
  omega
theorem bytesWorld_chg (w : World) (e : TypeId) (s : ByteArray) : Chg [] w (Lib.bytesWorld w e s) := by
  exact ⟨rfl, rfl, rfl, by rw [Lib.bytesWorld_size]; omega, fun k hk _ => Lib.bytesWorld_at_old w e s k hk⟩
theorem src_bytes (w : World) (e : TypeId) (s : ByteArray) (g : Nat) (hg : g = w.heap.size) : SrcAt (Lib.bytesWorld w e s) (some ⟨g, 0, none⟩) s.size (grownCap w s.size 0 e) (valsOf .u8 (bI s)) := by
  subst hg
  refine ⟨by rw [valsOf_length, bI_length], fun e => (by cases e), fun ad ea j u hu => ?_⟩
  injection ea with ea
  subst ea
  have hj : j < s.size := by
    have := (List.getElem?_eq_some_iff.1 hu).1
    rwa [valsOf_length, bI_length] at this
  rw [Addr.add_lit, Nat.zero_add, Lib.bytesWorld_cell w e s j hj]
  unfold valsOf bI at hu
  rw [← hu]
  have he : s.data[j]? = some s.data[j] := Array.getElem?_eq_getElem (by exact hj)
  simp [List.getD, he]
structure AskOk (s : ByteArray) (mode room : Int) : Prop where
  fine : fineU (bI s).length (bI s) = true
  len : s.size ≤ 256
  m0 : 0 ≤ mode
  m3 : mode < 3
  r0 : 0 ≤ room
def askV (s : ByteArray) (mode room : Int) : Value := .agg #[.string s, .int .i64 mode, .int .i64 room]
theorem grown_le (w : World) (n : Nat) (e : TypeId) : n ≤ grownCap w n 0 e := by
  exact grownCap_ge w n 0 e
set_option maxHeartbeats 8000000 in
theorem vCheck_ok (s : ByteArray) (mode room : Int) (w : World) (h : AskOk s mode room) (hT : Lib.Utf8Tabs 1 2 w) :
    Calls Tryz.prog 103 #[askV s mode room] w fun e w' => e = .returned (.int .i64 0) ∧ Chg [] w w' := by
  have h0 := h.m0
  have h3 := h.m3
  have hr := h.r0
  have hl := h.len
  have HH := Lib.hid h
  have HT := Lib.hid hT
  have B1 := alloc_heap w (.cells #[.string s, .int .i64 mode, .int .i64 room] 76)
  have C1 : Chg [] w (w.alloc (.cells #[.string s, .int .i64 mode, .int .i64 room] 76)) := (Chg.refl _ _).alloc _
  have x0 : (w.alloc (.cells #[.string s, .int .i64 mode, .int .i64 room] 76)).cell? ⟨w.heap.size, 0, none⟩ = some (.string s) := by rw [cell_of_heap B1]; rfl
  have hcv := fun W => Lib.run_convert_string_bytes (P := Tryz.prog) W 9 22 5 s Tryz.underlying9 Tryz.underlying22 Tryz.underlying5
  have HE := Lib.hid (And.intro B1 C1)
  clear h hT B1 C1
  unfold askV
  go_enter Tryz.func103, Tryz.ntmps103
  go_upto_region 2 with (fail)
  have HW := Lib.hid (And.intro (bytesWorld_chg (w.alloc (.cells #[.string s, .int .i64 mode, .int .i64 room] 76)) 5 s) (And.intro (src_bytes (w.alloc (.cells #[.string s, .int .i64 mode, .int .i64 room] 76)) 5 s (w.heap.size + 1) (by simp)) (grown_le (w.alloc (.cells #[.string s, .int .i64 mode, .int .i64 room] 76)) s.size 5)))
  generalize hw3 : Lib.bytesWorld _ _ _ = w3 at *
  generalize grownCap _ _ _ _ = cc at *
  have HX := Lib.hid (And.intro (HE.out.2.trans HW.out.1 (U := []) (by simp) (by simp)) (HW.out.1.heap HE.out.1 (by simp)))
  have hcc := HW.out.2.2
  have HS := Lib.hid HW.out.2.1
  have HF := Lib.hid HH.out.fine
  clear hw3 HE HW x0 hcv
  go_loopw [3] (fun v wr => ∃ (t' : List Int) (f : Nat) (ao : Option Addr) (n c : Nat), v = .slice ao n c ∧ SrcAt wr ao n c (valsOf .u8 t') ∧ ByR t' ∧ n ≤ 1000000 ∧ n ≤ c ∧ fineU f t' = true ∧ t'.length ≤ f ∧ Chg [] w3 wr) (fun v _ => sliceLen v)
  case atStart => exact ⟨bI s, _, _, _, _, rfl, HS.out, bI_by s, by omega, hcc, HF.out, Nat.le_refl _, Chg.refl _ _⟩
  case round =>
    obtain ⟨t', f, ao', n', c', rfl, hs, hb, hn', hc', hf, hlf, hC⟩ := hrel
    have hsl := hs.len
    have HS2 := Lib.hid hs
    have HF := Lib.hid hf
    have HC := Lib.hid hC
    have HL := Lib.hid hsl
    have HB2 := Lib.hid hb
    clear hs hf hb HS hC hcc
    rcases Nat.eq_zero_or_pos n' with rfl | hp
    · have E := HC.out.heap HX.out.2 (by simp)
      have x0 : wr.cell? ⟨w.heap.size, 0, none⟩ = some (.string s) := by rw [cell_of_heap E]; rfl
      have x1 : wr.cell? ⟨w.heap.size, 1, none⟩ = some (.int .i64 mode) := by rw [cell_of_heap E]; rfl
      have x2 : wr.cell? ⟨w.heap.size, 2, none⟩ = some (.int .i64 room) := by rw [cell_of_heap E]; rfl
      have a0 : decide ((256 : Int) < (s.size : Nat)) = false := by rw [decide_eq_false_iff_not]; omega
      have a1 : decide (mode < 0) = false := by rw [decide_eq_false_iff_not]; omega
      have a2 : decide ((3 : Int) ≤ mode) = false := by rw [decide_eq_false_iff_not]; omega
      have a3 : decide (room < 0) = false := by rw [decide_eq_false_iff_not]; omega
      have HE2 := Lib.hid E
      clear hsl E h0 h3 hr hl
      go_wp2_with fail
      go_region_held3 (fun w' => w'.cell? ⟨w.heap.size, 1, none⟩ = some (.int .i64 mode)) (first | exact C4.cell x1 (by simp) | go_keep)
        (first
         | (go_at_call 121; refine (modes_any _).mono ?_; rintro e w4 ⟨g, rfl, C4', H4⟩; have C4 : Chg [] wr w4 := (by first | exact C4' | exact C4'.of_drew | exact C4'.of_drewN)))
      have HC4 := Lib.hid C4
      have y2 := C4.cell x2 (by simp)
      clear C4 C4' H4 x0 x1 x2
      go_wp2_with fail
      go_ret
      exact ⟨rfl, (HX.out.1.trans HC.out (U := []) (by simp) (by simp)).trans HC4.out (U := []) (by simp) (by simp)⟩
    · obtain ⟨f', rfl⟩ : ∃ f', f = f' + 1 := ⟨f - 1, by omega⟩
      have hf2 := HF.out
      rw [fineU, if_neg (by omega)] at hf2
      have hN := next_any _ (Utf8Tabs.chg0 HT.out (HX.out.1.trans HC.out (U := []) (by simp) (by simp))) ao' n' c' t' HS2.out HB2.out hn' hc'
      unfold NextPost at hN
      have hle := nextU_le t'
      have hpos := @nextU_pos t' (by omega)
      obtain ⟨uc, un, ue, hU⟩ : ∃ uc un ue, nextU t' = (uc, un, ue) := ⟨_, _, _, rfl⟩
      rw [hU] at hN hf2 hle hpos
      dsimp only at hN hf2 hle hpos
      have hgo : ue = 0 ∧ shownU uc = true := by
        refine Classical.byContradiction fun hc => ?_
        rw [if_neg hc] at hf2
        cases hf2
      rw [if_pos hgo] at hf2
      obtain ⟨hue, hsh⟩ := hgo
      have HN := Lib.hid hN
      have HF3 := Lib.hid hf2
      have HP := Lib.hid (fun W => printable_any uc W)
      rw [hsh] at HP
      have hun : un ≤ n' := by rw [← HL.out]; exact hle
      have hun1 : 1 ≤ un := hpos (by rw [hue]; decide)
      have t0 : decide ((0 : Int) < (n' : Int)) = true := decide_eq_true (by omega)
      have t1 : (ue != 0) = false := by rw [hue]; rfl
      clear hN hf2 hle hpos hU hsl hsh hue h0 h3 hr hl
      obtain ⟨g, off, rfl, _⟩ := HS2.out.int hp
      have hFr := HS2.out.from hun hc'
      have HFR := Lib.hid hFr
      clear hFr
      by_cases hck : c' = un
      · have hnu : n' = un := by omega
        have HCK := Lib.hid hck
        have HNU := Lib.hid hnu
        subst hck
        obtain rfl : n' = c' := by omega
        clear hnu
        go_wp2_with fail
        refine (HN.out).mono ?_
        rintro e w2 ⟨rfl, C2⟩
        have HC2 := Lib.hid C2
        clear C2
        go_wp2_with fail
        refine (HP.out _).mono ?_
        rintro e w3 ⟨rfl, C3⟩
        have HC3 := Lib.hid (HC2.out.trans C3 (U := []) (by simp) (by simp))
        clear C3
        go_wp2_with fail
        have hfr := HFR.out
        rw [fromA, if_pos rfl] at hfr
        rw [Nat.sub_self] at hfr
        exact ⟨⟨_, f', _, _, _, rfl, hfr.chg0 HC3.out, HB2.out.drop _, by omega, by omega, HF3.out, by rw [List.length_drop]; have := HL.out; omega, HC.out.trans HC3.out (by simp) (by simp)⟩, by simp [sliceLen]; omega⟩
      · have hck2 : un < c' := by omega
        go_wp2_with fail
        refine (HN.out).mono ?_
        rintro e w2 ⟨rfl, C2⟩
        have HC2 := Lib.hid C2
        clear C2
        go_wp2_with fail
        refine (HP.out _).mono ?_
        rintro e w3 ⟨rfl, C3⟩
        have HC3 := Lib.hid (HC2.out.trans C3 (U := []) (by simp) (by simp))
        clear C3
        go_wp2_with fail
        have hfr := HFR.out
        rw [fromA, if_neg hck] at hfr
        try simp only [Option.map_some, Addr.add_lit] at hfr
        exact ⟨⟨t'.drop un, f', _, _, _, rfl, hfr.chg0 HC3.out, HB2.out.drop un, by omega, by omega, HF3.out, by rw [List.length_drop]; have := HL.out; omega, HC.out.trans HC3.out (by simp) (by simp)⟩, by simp [sliceLen]; omega⟩
end Go.Proofs.YtafmnkngjjnpiaaGreatDoor

namespace Go.Proofs.YtafmnkngjjnpiaaGreatDoor
set_option linter.unusedVariables false
set_option linter.unusedSimpArgs false
set_option maxRecDepth 100000
open Go.RowKit
def RowB (l : List Int) (w : World) (e : Ending) (w' : World) : Prop :=
  ∃ g c cur, e = .returned (.slice (some ⟨g, 0, none⟩) l.length c) ∧ w.heap.size ≤ g ∧ Chg [] w w' ∧ w'.heap[g]? = some (.cells (valsOf .u8 l ++ cur).toArray 5 (0, 0)) ∧ l.length ≤ c
theorem noZero_run (n : Nat) (hn : n ≤ 100000) (w : World) : ∃ cs : List Value, (callFunc 107 #[.int .i64 (n : Nat)]).run Tryz.prog w = .ok (.value (.slice (some ⟨w.heap.size, 0, none⟩) n cs.length)) (w.drew.drew.alloc (.cells cs.toArray 5)) ∧ n ≤ cs.length := by
  obtain ⟨cs, hr, h1, _⟩ := Lib.run_makeNoZero_cap (P := Tryz.prog) w #[3] 22 5 Tryz.underlying22 n (by omega)
  refine ⟨cs.toList, ?_, by simpa using h1⟩
  have he := run_callFunc_extern (e := Extern.BytealgMakeNoZero.makeNoZero #[3] #[22]) Tryz.func107 (by kernel_rfl) (by kernel_rfl) (by kernel_rfl) (by kernel_rfl) #[.int .i64 (n : Nat)] w
  rw [he, hr]
  simp [Result.andThen]
theorem src_repl {w : World} {g k m : Nat} {c : Int} {rest : List Value} {t : TypeId} (h : w.heap[g]? = some (.cells (List.replicate k (Value.int .u8 c) ++ rest).toArray t (0, 0))) (hm : m ≤ k) :
    ∀ j v, (List.replicate m (Value.int .u8 c))[j]? = some v → w.drew.cell? ((⟨g, 0, none⟩ : Addr).add j) = some v := by
  intro j v hj
  have hlt : j < m := by simpa using (List.getElem?_eq_some_iff.1 hj).1
  rw [List.getElem?_replicate, if_pos hlt] at hj
  rw [Addr.add_lit, Nat.zero_add, cell_of_heap (show w.drew.heap[g]? = _ from h)]
  rw [List.getElem?_toArray, List.getElem?_append_left (by simp; omega), List.getElem?_replicate, if_pos (by omega)]
  exact hj
theorem below_drewX {B : Nat} {a w : World} (h : Below B a w) : Below B a w.drew := ⟨h.os, h.tape, h.output, h.size, h.block⟩
theorem splice_rep {k m : Nat} {x : Value} {rest : List Value} : splice (List.replicate k x ++ rest) k (List.replicate m x) = List.replicate (k + m) x ++ rest.drop m := by
  unfold splice
  rw [List.take_left' (by simp), List.length_replicate, List.drop_append, List.length_replicate, ← List.replicate_append_replicate, List.drop_eq_nil_of_le (by simp), Nat.add_sub_cancel_left, List.nil_append, List.append_assoc]
set_option maxHeartbeats 8000000 in
theorem repeat_any (n : Nat) (hn : n ≤ 8192) (c : Int) (g cp : Nat) (w : World) (hs : w.cell? ⟨g, 0, none⟩ = some (.int .u8 c)) (hcp : 1 ≤ cp) (hg : g < w.heap.size) :
    Calls Tryz.prog 87 #[.slice (some ⟨g, 0, none⟩) 1 cp, .int .i64 (n : Nat)] w (RowB (List.replicate n c) w) := by
  rcases Nat.eq_zero_or_pos n with rfl | hp
  · go_enter Tryz.func87, Tryz.ntmps87
    go_wp2_with fail
    go_ret
    exact ⟨w.heap.size, 0, [], rfl, Nat.le_refl _, (Chg.refl _ _).alloc _, alloc_heap w _, Nat.zero_le _⟩
  · have hm := Tryz.bits_Mul 1 n (by omega) (by omega) w
    rw [show 1 * n / 18446744073709551616 = 0 by omega, show 1 * n % 18446744073709551616 = n by omega] at hm
    have HM := Lib.hid hm
    obtain ⟨cs, hnz, hcs⟩ := noZero_run n (by omega) w
    have HP := Lib.hid hp
    have HCS := Lib.hid hcs
    have HS := Lib.hid hs
    have HG := Lib.hid (And.intro hg hcp)
    have n0 : decide ((n : Int) < 0) = false := by rw [decide_eq_false_iff_not]; omega
    have n1 : (((n : Nat) : Int) == 0) = false := by rw [beq_eq_false_iff_ne]; omega
    have n2 : decide ((8192 : Int) < (n : Nat)) = false := by rw [decide_eq_false_iff_not]; omega
    clear hm hs hg
    go_enter Tryz.func87, Tryz.ntmps87
    go_upto_region 17 with (go_at_call 106; refine (HM.out).mono ?_; rintro e w2 ⟨rfl, rfl⟩)
    obtain ⟨w3, hw3⟩ : ∃ w3, w3 = (w2.alloc (.cells cs.toArray 5)).drew.drew := ⟨_, rfl⟩
    have C3 : Chg [] w2 w3 := by rw [hw3]; exact (((Chg.refl _ _).alloc _).drew).drew
    have H3 : w3.heap[w2.heap.size]? = some (.cells cs.toArray 5 (0, 0)) := by rw [hw3]; exact alloc_heap w2 _
    rw [← hw3]
    have S3 := C3.cell HS.out (by simp)
    have HC3 := Lib.hid C3
    clear hw3 C3 hnz HM
    iterate 7 go_step
    refine wpList_copy_chg rfl (.tmp 58) (.tmp 59) 22 22 rfl 5 Tryz.underlying22 Ar.info5 _ _ _ _ _ _ rfl rfl w2.heap.size 0 cs 5 H3 [.int .u8 c] (by simp [Nat.min_def]; omega) (fun _ => ⟨rfl, _, rfl, fun j v hj => ?_⟩) (by simp; omega) (by simp [Value.oneCell']) (fun w4 H4 C4 => ?_)
    · cases j with
      | zero => injection hj with hj; subst hj; exact S3
      | succ j => cases hj
    have C24 := HC3.out.trans C4 (U := [w2.heap.size]) (by simp) (fun x hx _ => hx)
    have B4 : Below w2.heap.size w2 w4 := ⟨C24.os, C24.tape, C24.output, C24.size, fun q hq => C24.block q hq (by simp; omega)⟩
    clear C24
    have H4' : w4.heap[w2.heap.size]? = some (.cells (List.replicate 1 (Value.int .u8 c) ++ cs.drop 1).toArray 5 (0, 0)) := by rw [show List.replicate 1 (Value.int .u8 c) ++ cs.drop 1 = splice cs 0 [.int .u8 c] by simp [splice]]; exact H4
    have HW4 := Lib.hid (And.intro H4' B4)
    clear H3 H4 C4 S3 H4' B4 HC3
    generalize hg9 : w2.heap.size = g9 at *
    go_upto_region 18 with (fail)
    go_loopw [10] (fun v wr => ∃ (k : Nat) (rest : List Value), v = .int .i64 (k : Nat) ∧ 1 ≤ k ∧ k ≤ n ∧ k + rest.length = cs.length ∧ wr.heap[g9]? = some (.cells (List.replicate k (Value.int .u8 c) ++ rest).toArray 5 (0, 0)) ∧ Below g9 w2 wr) (fun v _ => n - (intOf v).toNat)
    case atStart => exact ⟨1, cs.drop 1, rfl, by omega, hp, by rw [List.length_drop]; omega, HW4.out.1, HW4.out.2⟩
    case round =>
      obtain ⟨k, rest, rfl, hk1, hkn, hlen, hH, hB⟩ := hrel
      have HR := Lib.hid (And.intro hH (And.intro hlen hB))
      clear hH hB
      rcases Nat.lt_or_ge k n with hlt | hge
      · obtain ⟨m, hm1, hm2, hm3, hm4⟩ : ∃ m, m = Nat.min k (n - k) ∧ 1 ≤ m ∧ m ≤ k ∧ k + m ≤ n := ⟨Nat.min k (n - k), rfl, by simp only [Nat.min_def]; split <;> omega, by simp only [Nat.min_def]; split <;> omega, by simp only [Nat.min_def]; split <;> omega⟩
        have HCN : Hid ((List.replicate m (Value.int .u8 c)).length = Nat.min k (n - k)) := Lib.hid (by rw [List.length_replicate]; exact hm1)
        have HCF : Hid (k + (List.replicate m (Value.int .u8 c)).length ≤ (List.replicate k (Value.int .u8 c) ++ rest).length) := Lib.hid (by simp; omega)
        have HC1 : Hid (∀ v ∈ List.replicate m (Value.int .u8 c), v.oneCell' = true) := Lib.hid (fun v hv => by rw [(List.mem_replicate.1 hv).2]; rfl)
        have HSR : Hid (∀ j v, (List.replicate m (Value.int .u8 c))[j]? = some v → wr.drew.cell? ((⟨g9, 0, none⟩ : Addr).add j) = some v) := Lib.hid (src_repl HR.out.1 hm3)
        have HM := Lib.hid (And.intro hm2 (And.intro hm3 hm4))
        clear hm1 hm2 hm3 hm4
        have hmin : min ((k : Nat) : Int) (n : Nat) = (k : Nat) := by omega
        go_upto_region 20 with (fail)
        refine wp_region_any (by kernel_rfl) ?_
        try (change wpAny _ _ _ _ _ _ _ (World.drew _))
        refine wpAny_take (i := 0) (v := ?_) rfl (by kernel_rfl) (by kernel_rfl) (by kernel_rfl) (fun _ _ _ h => h) (Or.inl ⟨by kernel_rfl, ?_⟩) ?_
        rotate_left
        focus ((intro w; go_simp); try with_reducible rfl)
        refine wpAny_take (i := 1) (v := ?_) rfl (by kernel_rfl) (by kernel_rfl) (by kernel_rfl) (fun _ _ _ h => h) (Or.inl ⟨by kernel_rfl, ?_⟩) ?_
        rotate_left
        focus ((intro w; go_simp); try with_reducible rfl)
        refine wpAny_take (i := 2) (v := ?_) rfl (by kernel_rfl) (by kernel_rfl) (by kernel_rfl) (fun _ _ _ h => h) (Or.inl ⟨by kernel_rfl, ?_⟩) ?_
        rotate_left
        focus ((intro w; go_simp); try with_reducible rfl)
        refine wpAny_take (i := 4) (v := ?_) rfl (by kernel_rfl) (by kernel_rfl) (by kernel_rfl) (fun _ _ _ h => h) (Or.inl ⟨by kernel_rfl, ?_⟩) ?_
        rotate_left
        focus ((intro w; go_simp); try with_reducible rfl)
        refine wpAny_take (i := 5) (v := ?_) rfl (by kernel_rfl) (by kernel_rfl) (by kernel_rfl) (fun _ _ _ h => h) (Or.inl ⟨by kernel_rfl, ?_⟩) ?_
        rotate_left
        focus ((intro w; go_simp); try with_reducible rfl)
        refine wpAny_take (i := 3) (v := ?_) rfl (by kernel_rfl) (by kernel_rfl) (by kernel_rfl) (fun _ _ _ h => h) (Or.inl ⟨by kernel_rfl, ?_⟩) ?_
        rotate_left
        focus ((intro w; go_simp); try with_reducible rfl)
        refine wpAny_take (i := 6) (v := ?_) rfl (by kernel_rfl) (by kernel_rfl) (by kernel_rfl) (fun _ _ _ h => h) (Or.inl ⟨by kernel_rfl, ?_⟩) ?_
        rotate_left
        focus ((intro w; go_simp); try with_reducible rfl)
        refine wpAny_ready (rs := [7]) (by kernel_rfl) (by simp) ?_
        refine AllReady.cons rfl (fun K hK => ?_) AllReady.nil
        refine step_copy_splice rfl (.tmp 70) (.tmp 73) 22 22 rfl 5 Tryz.underlying22 Ar.info5 (some ⟨g9, k, none⟩) (some ⟨g9, 0, none⟩) (n - k) (n - k) k n (by go_simp <;> omega) (by go_simp) g9 k (List.replicate k (Value.int .u8 c) ++ rest) 5 HR.out.1 (List.replicate m (Value.int .u8 c)) HCN.out (fun _ => ⟨rfl, _, rfl, HSR.out⟩) HCF.out HC1.out g9 w2 (below_drewX HR.out.2.2) (Nat.le_refl _) ?_
        intro w6 H6 B6
        have hgl : goInt (List.replicate m (Value.int .u8 c)).length = .int .i64 (m : Nat) := by rw [List.length_replicate]; rfl
        rw [hgl]
        refine hK _ _ ?_
        clear hK K hgl
        refine wpAny_take (i := 8) (v := ?_) rfl (by kernel_rfl) (by kernel_rfl) (by kernel_rfl) (fun _ _ _ h => h) (Or.inl ⟨by kernel_rfl, ?_⟩) ?_
        rotate_left
        focus ((intro w; go_simp); try with_reducible rfl)
        refine wpAny_ready (rs := [9]) (by kernel_rfl) (by simp) ?_
        refine AllReady.cons rfl (fun K hK => ?_) AllReady.nil
        go_simp
        refine hK _ _ ?_
        clear hK K
        refine wpAny_done (by kernel_rfl) ?_ _
        have HE := Lib.hid (And.intro H6 B6)
        have hM := HM.out
        have hwr : IntKind.i64.wrap (((k : Nat) : Int) + (m : Nat)) = ((k + m : Nat) : Int) := by rw [IntWalk.i64_in _ (by omega)]; omega
        clear H6 B6 hM
        go_wp2_with fail
        go_roundw
        case rel =>
          have hM := HM.out
          refine ⟨k + m, rest.drop m, by go_num, by omega, by omega, by rw [List.length_drop]; omega, ?_, HE.out.2⟩
          rw [show List.replicate (k + m) (Value.int .u8 c) ++ rest.drop m = splice (List.replicate k (Value.int .u8 c) ++ rest) k (List.replicate m (Value.int .u8 c)) by rw [splice_rep]]
          exact HE.out.1
        case measure => have hM := HM.out; simp [intOf]; omega
      · obtain rfl : k = n := by omega
        go_wp2_with fail
        go_ret
        refine ⟨g9, k, rest, by rw [List.length_replicate]; rfl, by omega, Chg.of_below HR.out.2.2 (by omega), ?_, by simp⟩
        rw [show valsOf .u8 (List.replicate k c) = List.replicate k (Value.int .u8 c) by simp [valsOf]]
        exact HR.out.1
end Go.Proofs.YtafmnkngjjnpiaaGreatDoor

namespace Go.Proofs.YtafmnkngjjnpiaaGreatDoor
set_option linter.unusedVariables false
set_option linter.unusedSimpArgs false
set_option maxRecDepth 100000
open Go.RowKit
structure LibT (w : World) : Prop where
  u : Lib.Utf8Tabs 1 2 w
  p : Lib.TabBelow Tryz.prog 8 w "internal/strconv.uint64pow10" .u64 Lib.pow10Tab
  sz : 8 ≤ w.heap.size
  e : w.cell? ⟨3, 0, none⟩ = some (.iface 275 (.agg #[.pointer (some ⟨8, 225, none⟩)]))
theorem LibT.chg {w w' : World} (h : LibT w) {S : List Nat} (c : Chg S w w') (hS : ∀ x ∈ S, 8 ≤ x) : LibT w' :=
  ⟨Utf8Tabs.chg h.u c (fun hm => by have := hS _ hm; omega) (fun hm => by have := hS _ hm; omega),
    h.p.on ⟨c.os, c.tape, c.output, c.size, fun k hk => c.block k (by have := h.sz; omega) (fun hm => by have := hS _ hm; omega)⟩, Nat.le_trans h.sz c.size, c.cell h.e (fun hm => by have := hS _ hm; dsimp only at this; omega)⟩
theorem LibT.chg0 {w w' : World} (h : LibT w) (c : Chg [] w w') : LibT w' := h.chg c (by simp)
theorem LibT.pow {w : World} (h : LibT w) {B : Nat} (hB : 8 ≤ B) : Lib.TabBelow Tryz.prog B w "internal/strconv.uint64pow10" .u64 Lib.pow10Tab :=
  fun w' hb => h.p w' ⟨hb.os, hb.tape, hb.output, hb.size, fun k hk => hb.block k (by omega)⟩
def LnB (w1 w : World) (v : Value) (l : List Int) : Prop := w.ownsRow w1.heap.size 5 1 v l.length (valsOf .u8 l) ∧ Chg [] w1 w
theorem LnB.on {w1 w w' : World} {v : Value} {l : List Int} (h : LnB w1 w v l) (c : Chg [] w w') : LnB w1 w' v l :=
  ⟨eowns_keep h.1 c (by simp), h.2.trans c (by simp) (by simp)⟩
theorem strCells_bI (s : ByteArray) : Lib.strCells s = valsOf .u8 (bI s) := by
  unfold Lib.strCells valsOf bI
  rw [List.map_map]
  rfl
theorem LnB.grown {w1 w w' : World} {v v' : Value} {l t : List Int} (h : LnB w1 w v l) (c : Chg v.ownBlock.toList w w') (o : w'.ownsRow w1.heap.size 5 1 v' (l.length + t.length) (valsOf .u8 l ++ valsOf .u8 t)) : LnB w1 w' v' (l ++ t) := by
  refine ⟨?_, h.2.trans c (by simp) (fun x hx hl => ?_)⟩
  · rw [List.length_append, show valsOf .u8 (l ++ t) = valsOf .u8 l ++ valsOf .u8 t by simp [valsOf]]
    exact o
  · have := owns_block h.1 x (by simpa [Option.mem_toList] using hx)
    omega
theorem wp_ln_src {ops : Array Oper} {rest : List Oper} {o : Oper} {a : Act} {Q : Exit → Act → World → Prop} {w1 w : World} (hgd : o.guard = none) (s x : Operand)
    (ho : o.op = .call { callee := .builtin .append, args := #[s, x], argTypes := #[22, 22] }) (v : Value) (l : List Int) (hs : a.eval s = v) (hl : LnB w1 w v l) (ao : Option Addr) (m c : Nat) (t : List Int)
    (hx : a.eval x = .slice ao m c) (hS : SrcAt w ao m c (valsOf .u8 t)) (hn : l.length + m ≤ 1000000)
    (h : ∀ v' w', LnB w1 w' v' (l ++ t) → Chg v.ownBlock.toList w w' → wpList Tryz.prog ops Q rest (a.put o.dst v') w') : wpList Tryz.prog ops Q (o :: rest) a w := by
  obtain ⟨i0, hi, hz0, hz1, hz2⟩ := info_parts infoB
  have ht : t.length = m := by have := hS.1; rwa [valsOf_length] at this
  subst ht
  refine wpList_append_src hgd s x 22 ho w1.heap.size 5 i0 (.int .u8 0) 1 1 Tryz.underlying22 hi hz0 hz1 hz2 rfl (by decide) v l.length (valsOf .u8 l) hs hl.1 ao t.length c (valsOf .u8 t) hx (by rw [valsOf_length]; omega) hS.2.1 hS.2.2 (oneCell_vals _ t) (by unfold maxLen; omega) (by omega) hl.2.size (fun v' w' o' c' _ => ?_)
  exact h v' w' (hl.grown c' o') c'
theorem wp_ln_str {ops : Array Oper} {rest : List Oper} {o : Oper} {a : Act} {Q : Exit → Act → World → Prop} {w1 w : World} (hgd : o.guard = none) (s x : Operand)
    (ho : o.op = .call { callee := .builtin .append, args := #[s, x], argTypes := #[22, 9] }) (v : Value) (l : List Int) (hs : a.eval s = v) (hl : LnB w1 w v l) (t : ByteArray)
    (hx : a.eval x = .string t) (hn : l.length + t.size ≤ 1000000)
    (h : ∀ v' w', LnB w1 w' v' (l ++ bI t) → Chg v.ownBlock.toList w w' → wpList Tryz.prog ops Q rest (a.put o.dst v') w') : wpList Tryz.prog ops Q (o :: rest) a w := by
  obtain ⟨i0, hi, hz0, hz1, hz2⟩ := info_parts infoB
  refine Lib.wpList_append_own_string _ hgd s x 22 9 ho w1.heap.size 5 i0 Tryz.underlying22 Tryz.underlying9 hi hz0 hz1 hz2 v l.length (valsOf .u8 l) hs hl.1 t hx (by unfold maxLen; omega) (by omega) hl.2.size (fun v' w' o' g' _ => ?_)
  have c' : Chg v.ownBlock.toList w w' := ⟨g'.os, g'.tape, g'.output, g'.size, fun k hk hS => g'.block k hk (fun e => hS (by rw [← e]; simp))⟩
  refine h v' w' (hl.grown c' ?_) c'
  rw [bI_length, ← strCells_bI]
  exact o'
theorem ln_new (w1 w : World) (x : Int) (h : Chg [] w1 w) : LnB w1 (w.alloc (.cells #[.int .u8 x] 5)) (.slice (some ⟨w.heap.size, 0, none⟩) 1 1) [x] :=
  ⟨⟨rfl, Or.inr ⟨w.heap.size, 1, #[.int .u8 x], rfl, h.size, alloc_heap w _, Nat.le_refl _, by unfold maxLen; omega, rfl, rfl⟩⟩, h.alloc _⟩
theorem bI_csi : bI ⟨#[27, 91]⟩ = [27, 91] := by rfl
theorem bI_clr : bI ⟨#[27, 91, 75]⟩ = [27, 91, 75] := by rfl
theorem byteCells_dec (b : Nat) : Lib.byteCells (Lib.itoa (b : Nat)) = valsOf .u8 (decT b) := by
  unfold Lib.byteCells valsOf decT
  rw [List.map_map]
  rfl
def RendPost (l : List Int) (w : World) (e : Ending) (w' : World) : Prop :=
  ∃ ao c, e = .returned (.tuple #[.slice ao l.length c, .int .i64 0]) ∧ SrcAt w' ao l.length c (valsOf .u8 l) ∧ (∀ ad, ao = some ad → w.heap.size ≤ ad.block) ∧ Chg [] w w' ∧ l.length ≤ c
theorem ln_end {w0 w1 w : World} {ao : Option Addr} {l : List Int} {k : Nat} (c0 : Chg [] w0 w1) (h : LnB w1 w (.slice ao l.length k) l) : RendPost l w0 (.returned (.tuple #[.slice ao l.length k, .int .i64 0])) w := by
  obtain ⟨ao', c', e, hS, hb⟩ := owns_srcAt h.1
  injection e with e1 _ e2
  subst e1 e2
  refine ⟨ao, k, rfl, hS, fun ad e => ?_, c0.trans h.2 (by simp) (by simp), ?_⟩
  · have := owns_block h.1 ad.block (hb ad e)
    have := c0.size
    omega
  · rcases h.1.2 with ⟨e, hn⟩ | ⟨g, cap, cur, e, _, _, hc, _⟩
    · omega
    · injection e with _ _ e2
      omega
theorem ln_int (w1 w : World) (v : Value) (l : List Int) (b : Nat) (h : LnB w1 w v l) (hb : b ≤ 1024) (hl : l.length ≤ 1286) (hL : LibT w) (h8 : 8 ≤ w1.heap.size) :
    Calls Tryz.prog 192 #[v, .int .i64 (b : Nat), .int .i64 10] w fun e w' => ∃ a k l', l' = l ++ decT b ∧ e = .returned (.slice a l'.length k) ∧ LnB w1 w' (.slice a l'.length k) l' ∧ l'.length ≤ 1400 := by
  refine (Tryz.strconv_AppendInt_10 w1.heap.size l.length b (by omega) (by omega) v (valsOf .u8 l) w h.1 h.2.size (by omega) (hL.pow h8)).mono ?_
  rintro e w' ⟨v', rfl, o', b', _⟩
  rw [byteCells_dec, show (Lib.itoa (b : Nat)).length = (decT b).length by unfold decT; rw [List.length_map]] at o'
  have L : LnB w1 w' v' (l ++ decT b) := by
    refine ⟨?_, ⟨by rw [b'.os, h.2.os], by rw [b'.tape, h.2.tape], by rw [b'.output, h.2.output], Nat.le_trans h.2.size b'.size, fun k hk hS => by rw [b'.block k hk, h.2.block k hk hS]⟩⟩
    rw [List.length_append, show valsOf .u8 (l ++ decT b) = valsOf .u8 l ++ valsOf .u8 (decT b) by simp [valsOf]]
    exact o'
  obtain ⟨a, k, rfl, _⟩ := owns_srcAt L.1
  refine ⟨a, k, _, rfl, rfl, L, ?_⟩
  rw [List.length_append]
  have : (decT b).length ≤ 21 := by
    unfold decT
    rw [List.length_map]
    exact Lib.itoa_length_le _ (by omega) (by omega)
  omega
theorem src_row {w : World} {g c : Nat} {l : List Int} {cur : List Value} {t : TypeId} (h : w.heap[g]? = some (.cells (valsOf .u8 l ++ cur).toArray t (0, 0))) : SrcAt w (some ⟨g, 0, none⟩) l.length c (valsOf .u8 l) := by
  refine ⟨valsOf_length _ _, fun e => (by cases e), fun ad e j u hu => ?_⟩
  injection e with e
  subst e
  rw [Addr.add_lit, Nat.zero_add, cell_of_heap h, List.getElem?_toArray, List.getElem?_append_left (List.getElem?_eq_some_iff.1 hu).1]
  exact hu
theorem starsV_le (mode : Int) (count : Nat) (h : count ≤ 1024) : starsV mode count ≤ 1024 := by
  unfold starsV
  split
  · exact h
  · split <;> omega
theorem placeV_le (mode : Int) (count at' : Nat) (h : at' ≤ count) : placeV mode count at' ≤ starsV mode count := by
  unfold starsV placeV
  split
  · exact h
  · exact Nat.le_refl _
set_option maxHeartbeats 16000000 in
theorem render_any (s : ByteArray) (mode room : Int) (count at' : Nat) (w : World) (h : AskOk s mode room) (h2 : at' ≤ count) (h3 : count ≤ 1024) (hL : LibT w) :
    Calls Tryz.prog 176 #[askV s mode room, .int .i64 (count : Nat), .int .i64 (at' : Nat)] w (RendPost (lineV (bI s) mode count at' decT) w) := by
  have HLT := Lib.hid hL
  have HCK : Hid (∀ W, Chg [] w W → Calls Tryz.prog 103 #[askV s mode room] W fun e w' => e = .returned (.int .i64 0) ∧ Chg [] W w') := Lib.hid (fun W c => vCheck_ok s mode room W h (hL.chg0 c).u)
  have HRT := Lib.hid (fun W => vright_any mode count at' W h.m0 h.m3 h2 h3)
  have HST := Lib.hid (fun W => stars_any mode count W h.m0 h.m3 h3)
  have HPL := Lib.hid (fun W => place_any mode count at' W h.m0 h.m3 h2 h3)
  have hn := starsV_le mode count h3
  have hp := placeV_le mode count at' h2
  obtain ⟨R, hR⟩ : ∃ R, R = lineV (bI s) mode count at' decT := ⟨_, rfl⟩
  rw [← hR]
  unfold lineV at hR
  generalize starsV mode count = n at *
  generalize placeV mode count at' = p at *
  have hsz := h.len
  have HSZ := Lib.hid hsz
  have HR := Lib.hid hR
  have HNP := Lib.hid (And.intro hn hp)
  have B1 := alloc_heap w (.cells #[.string s, .int .i64 mode, .int .i64 room] 76)
  have C1 : Chg [] w (w.alloc (.cells #[.string s, .int .i64 mode, .int .i64 room] 76)) := (Chg.refl _ _).alloc _
  have HB := Lib.hid (And.intro B1 C1)
  clear h h2 h3 hL hsz hn hp B1 C1 hR
  unfold askV at *
  go_enter Tryz.func176, Tryz.ntmps176
  go_wp2_with fail
  generalize hw1 : w.alloc _ = w1 at *
  refine (HCK.out w1 HB.out.2).mono ?_
  rintro e w2 ⟨rfl, C2⟩
  have x0 : w2.cell? ⟨w.heap.size, 0, none⟩ = some (.string s) := by rw [cell_of_heap (C2.heap HB.out.1 (by simp))]; rfl
  have x1 : w2.cell? ⟨w.heap.size, 1, none⟩ = some (.int .i64 mode) := by rw [cell_of_heap (C2.heap HB.out.1 (by simp))]; rfl
  have HC2 := Lib.hid C2
  have HX := Lib.hid (And.intro x0 x1)
  clear C2
  go_wp2_with fail
  refine (HRT.out w2).mono ?_
  rintro e w3 ⟨rfl, C3⟩
  have y1 := C3.cell x1 (by simp)
  have HC3 := Lib.hid (HC2.out.trans C3 (U := []) (by simp) (by simp))
  have HX3 := Lib.hid (C3.cell x0 (by simp))
  clear C3 x0 x1 HC2
  go_wp2_with fail
  refine (HST.out w3).mono ?_
  rintro e w4 ⟨rfl, C4⟩
  have z0 := C4.cell HX3.out (by simp)
  have HZ1 := Lib.hid (C4.cell y1 (by simp))
  have HC4 := Lib.hid (HC3.out.trans C4 (U := []) (by simp) (by simp))
  have HZ0 := Lib.hid z0
  have C5 : Chg [] w4 (w4.alloc (.cells #[.int .u8 13] 5)) := (Chg.refl _ _).alloc _
  have L5 := Lib.hid (ln_new w1 w4 13 HC4.out)
  have a0 := C5.cell z0 (by simp)
  have HC5 := Lib.hid C5
  clear C4 y1 HC3 HX HX3 C5 z0
  go_wp2_with (at_builtin; refine wp_ln_str rfl (.tmp 27) (.tmp 29) rfl _ [13] (by rfl) L5.out s (by rfl) (by simp only [List.length_cons, List.length_nil]; have := HSZ.out; omega) (fun v6 w6 L6' c6 => ?_); obtain ⟨l6, hl6⟩ : ∃ l6, l6 = [13] ++ bI s := ⟨_, rfl⟩; rw [← hl6] at L6'; have HL6 := Lib.hid hl6; clear hl6; have L6 := Lib.hid L6'; obtain ⟨a6, k6, rfl, _⟩ := owns_srcAt L6'.1; clear L6' c6)
  have hz6 : l6.length ≤ 257 := by rw [HL6.out, List.length_append, bI_length]; have := HSZ.out; simp; omega
  have HZ6 := Lib.hid hz6
  have C7 : Chg [] w6 (w6.alloc (.cells #[.int .u8 42] 5)) := (Chg.refl _ _).alloc _
  have X7 : (w6.alloc (.cells #[.int .u8 42] 5)).cell? ⟨w6.heap.size, 0, none⟩ = some (.int .u8 42) := by rw [cell_of_heap (alloc_heap w6 _)]; rfl
  refine (repeat_any n (by have := HNP.out.1; omega) 42 w6.heap.size 1 _ X7 (Nat.le_refl _) (by simp)).mono ?_
  rintro e w8 ⟨g8, c8, cur8, rfl, hg8, C8, H8, hc8⟩
  have S8 := Lib.hid (src_row (l := List.replicate n 42) (c := c8) H8)
  have L8 := Lib.hid (L6.out.on (C7.trans C8 (U := []) (by simp) (by simp)))
  have hrl : (List.replicate n (42 : Int)).length = n := List.length_replicate
  have HRL := Lib.hid hrl
  have HZM : Hid (w1.cell? ⟨w.heap.size, 1, none⟩ = some (.int .i64 mode)) := Lib.hid (by rw [cell_of_heap HB.out.1]; rfl)
  clear C7 X7 C8 H8 hc8 hg8 L5 a0 HC5 HZ0 HZ1 L6
  rw [hrl] at S8 ⊢
  go_wp2_with (first
    | (at_builtin; refine wp_ln_src rfl (.tmp 31) (.tmp 34) rfl _ l6 (by rfl) L8.out (some ⟨g8, 0, none⟩) n c8 (List.replicate n 42) (by rfl) S8.out (by have := HZ6.out; have := HNP.out.1; omega) (fun v9 w9 L9' c9 => ?_); obtain ⟨l9, hl9⟩ : ∃ l9, l9 = l6 ++ List.replicate n 42 := ⟨_, rfl⟩; rw [← hl9] at L9'; have HL9 := Lib.hid hl9; have hz9 : l9.length ≤ 1281 := (by rw [hl9, List.length_append, List.length_replicate]; have := HNP.out.1; have := HZ6.out; omega); have HZ9 := Lib.hid hz9; clear hl9 hz9; have L9 := Lib.hid L9'; obtain ⟨a9, k9, rfl, _⟩ := owns_srcAt L9'.1; clear L9' c9)
    | (at_builtin; refine wp_ln_str rfl (.tmp 36) (.const (.string ⟨#[27, 91, 75]⟩)) rfl _ l9 (by rfl) L9.out ⟨#[27, 91, 75]⟩ (by rfl) (by have h0 := HZ9.out; have h1 : (⟨#[27, 91, 75]⟩ : ByteArray).size = 3 := rfl; omega) (fun v10 w10 L10' c10 => ?_); obtain ⟨l10, hl10⟩ : ∃ l10, l10 = l9 ++ bI ⟨#[27, 91, 75]⟩ := ⟨_, rfl⟩; rw [← hl10] at L10'; have HL10 := Lib.hid hl10; have hz10 : l10.length ≤ 1284 := (by rw [hl10, List.length_append, bI_length]; have h0 := HZ9.out; have h1 : (⟨#[27, 91, 75]⟩ : ByteArray).size = 3 := rfl; omega); have HZ10 := Lib.hid hz10; have x10 := L10'.2.cell HZM.out (by simp); clear hl10 hz10; have L10 := Lib.hid L10'; obtain ⟨a10, k10, rfl, _⟩ := owns_srcAt L10'.1; clear L10' c10))
  clear x10 hrl hz6
  refine (HPL.out w10).mono ?_
  rintro e w11 ⟨rfl, C11⟩
  have L11 := Lib.hid (L10.out.on C11)
  have hnp := HNP.out
  have hwr : IntKind.i64.wrap (((n : Nat) : Int) - (p : Nat)) = ((n - p : Nat) : Int) := by rw [IntWalk.i64_in _ (by omega)]; omega
  clear C11 hnp L10
  rcases Nat.lt_or_ge p n with hlt | hge
  · have hRb : R = l10 ++ bI ⟨#[27, 91]⟩ ++ decT (n - p) ++ [68] := by
      rw [HR.out, if_pos hlt, HL10.out, HL9.out, HL6.out, bI_csi, bI_clr]
      simp [List.append_assoc]
    have hb : (0 : Int) < ((n - p : Nat) : Int) := by omega
    have hb2 : n - p ≤ 1024 := by have := HNP.out; omega
    clear hlt
    generalize n - p = b at *
    have HRB := Lib.hid hRb
    have HB2 := Lib.hid hb2
    clear hRb hb2
    go_wp2_with (at_builtin; refine wp_ln_str rfl (.tmp 47) (.const (.string ⟨#[27, 91]⟩)) rfl _ l10 (by rfl) L11.out ⟨#[27, 91]⟩ (by rfl) (by have h0 := HZ10.out; have h1 : (⟨#[27, 91]⟩ : ByteArray).size = 2 := rfl; omega) (fun v12 w12 L12' c12 => ?_); obtain ⟨l12, hl12⟩ : ∃ l12, l12 = l10 ++ bI ⟨#[27, 91]⟩ := ⟨_, rfl⟩; rw [← hl12] at L12'; have HL12 := Lib.hid hl12; have hz12 : l12.length ≤ 1286 := (by rw [hl12, List.length_append, bI_length]; have h0 := HZ10.out; have h1 : (⟨#[27, 91]⟩ : ByteArray).size = 2 := rfl; omega); have HZ12 := Lib.hid hz12; clear hl12 hz12; have L12 := Lib.hid L12'; obtain ⟨a12, k12, rfl, _⟩ := owns_srcAt L12'.1; clear L12' c12)
    refine (ln_int w1 w12 (.slice a12 l12.length k12) l12 b L12.out HB2.out HZ12.out (HLT.out.chg0 (HB.out.2.trans L12.out.2 (U := []) (by simp) (by simp))) (Nat.le_trans HLT.out.sz HB.out.2.size)).mono ?_
    rintro e w13 ⟨a13, k13, l13, hl13, rfl, L13, hz13⟩
    have HL13 := Lib.hid hl13
    have HL := Lib.hid L13
    have HZ13 := Lib.hid hz13
    clear hl13 L13 hz13
    have C14 : Chg [] w13 (w13.alloc (.cells #[.int .u8 68] 5)) := (Chg.refl _ _).alloc _
    have L14 := Lib.hid (HL.out.on C14)
    have S14 := Lib.hid (src_row (l := [68]) (cur := []) (c := 1) (alloc_heap w13 (.cells #[.int .u8 68] 5)))
    clear C14
    go_wp2_with (at_builtin; refine wp_ln_src rfl (.tmp 51) (.tmp 52) rfl _ l13 (by rfl) L14.out (some ⟨w13.heap.size, 0, none⟩) 1 1 [68] (by rfl) S14.out (by have := HZ13.out; omega) (fun v15 w15 L15' c15 => ?_); obtain ⟨l15, hl15⟩ : ∃ l15, l15 = l13 ++ [68] := ⟨_, rfl⟩; rw [← hl15] at L15'; have HL15 := Lib.hid hl15; clear hl15; have L15 := Lib.hid L15'; obtain ⟨a15, k15, rfl, _⟩ := owns_srcAt L15'.1; clear L15' c15)
    go_ret2
    rw [HRB.out, ← HL12.out, ← HL13.out, ← HL15.out]
    exact ln_end HB.out.2 L15.out
  · have hRb : R = l10 := by
      rw [HR.out, if_neg (by omega), HL10.out, HL9.out, HL6.out, bI_clr, List.append_nil]
    have hnb : n - p = 0 := by omega
    rw [hnb] at hwr
    clear hge hnb
    have HRB := Lib.hid hRb
    clear hRb
    go_wp2_with fail
    go_ret2
    rw [HRB.out]
    exact ln_end HB.out.2 L11.out
end Go.Proofs.YtafmnkngjjnpiaaGreatDoor
