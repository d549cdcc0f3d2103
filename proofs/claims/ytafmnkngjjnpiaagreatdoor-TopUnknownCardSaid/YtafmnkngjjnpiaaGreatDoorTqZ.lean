import Derived.Test.YtafmnkngjjnpiaaGreatDoorTtyX
import Derived.Test.YtafmnkngjjnpiaaGreatDoorTqW
import Derived.Laws.StructEq
namespace Go.Proofs.YtafmnkngjjnpiaaGreatDoor
set_option linter.unusedVariables false
set_option linter.unusedSimpArgs false
set_option maxRecDepth 100000
open Go.RowKit
def exB : List Int := [97, 27, 91, 68, 98, 13]
def planD (g : Nat) (ao : Option Addr) (n c : Nat) (zs : List Int) : PlanD := ⟨0, 0, 0, some ⟨g, 0, none⟩, 1, 1, [⟨0, 0, 0, ao, n, c, zs⟩], none, 0, 0, [], none, 0, 0, [], none, 0, 0, []⟩
def plan1 (zs : List Int) : Ss := ⟨⟨[⟨0, 0, 0, zs⟩], ⟨[], [], [], 0, 0, 0⟩, ⟨0, 0, 0⟩, []⟩, ⟨[], 0⟩, ⟨[], false, false⟩, ⟨[], false⟩⟩
theorem start_plan (g : Nat) (ao : Option Addr) (n c : Nat) (zs : List Int) (h : n = zs.length) (h0 : 0 < n) : startP (planD g ao n c zs) = plan1 zs := by
  have e : (itOf ⟨0, 0, 0, ao, n, c, zs⟩) = ⟨0, 0, 0, zs⟩ := by unfold itOf; dsimp only; rw [h, List.take_length]
  unfold startP ptP planD plan1
  have e2 : ((ordP [(⟨0, 0, 0, ao, n, c, zs⟩ : ItD)] 1).map (·.2)) = [itOf ⟨0, 0, 0, ao, n, c, zs⟩] := by
    unfold ordP ordP ordStep
    have hc : comes (⟨0, 0, 0, ao, n, c, zs⟩ : ItD) = true := by unfold comes; simp; omega
    simp [hc, insP, insG]
  show (⟨⟨(ordP [(⟨0, 0, 0, ao, n, c, zs⟩ : ItD)] 1).map (·.2), _, _, _⟩, _, _, _⟩ : Ss) = _
  rw [e2, e]
  rfl
def exQ : Aq := ⟨[62], 1⟩
def exS : Ss := { plan1 exB with t := (setP (getP (plan1 exB).t).2 (rawA (plan1 exB).t.A)).2 }
def exF (x : Int × Ss) : Int × List Int × Bool × List Int := (x.1, x.2.b.l, (setP (byeS x.2).t (plan1 exB).t.A).1, outP (setP (byeS x.2).t (plan1 exB).t.A).2.E)
def exOut : List Int := [27, 91, 63, 50, 48, 48, 52, 104, 13, 62, 27, 91, 75, 13, 62, 42, 27, 91, 75, 13, 62, 42, 27, 91, 75, 27, 91, 49, 68, 13, 62, 42, 42, 27, 91, 75, 27, 91, 49, 68, 27, 91, 63, 50, 48, 48, 52, 108, 13, 10]
theorem ex_get : (getP (plan1 exB).t).1 = true := by kernel_rfl
theorem ex_raw : (setP (getP (plan1 exB).t).2 (rawA (plan1 exB).t.A)).1 = true := by kernel_rfl
theorem ex_start : (wrS exS startV).1 = none := by kernel_rfl
theorem ex_show : (showS exQ (wrS exS startV).2).1 = none := by kernel_rfl
theorem ex_loop : (loopF exQ 1 (showS exQ (wrS exS startV).2).2).map exF = some (0, [98, 97], true, exOut) := by kernel_rfl
theorem ex_all {o : Int} {s' : Ss} (h : AllR exQ (plan1 exB) o s') : o = 0 ∧ s'.b.l = [98, 97] ∧ outP s'.t.E = exOut := by
  cases h with
  | get h => rw [ex_get] at h; cases h
  | raw h h2 => rw [ex_raw] at h2; cases h2
  | talk h h2 k =>
    rename_i o2 s2
    change TalkR exQ exS o2 s2 at k
    cases k with
    | start h => rw [ex_start] at h; cases h
    | «show» h h3 => rw [ex_show] at h3; cases h3
    | loop h h3 k =>
      rename_i s3
      have hl := ex_loop
      generalize hX : loopF exQ 1 (showS exQ (wrS exS startV).2).2 = X at hl
      cases X with
      | none => cases hl
      | some x =>
        have hx := k.eq 1 x hX
        subst hx
        injection hl with hl
        unfold exF at hl
        dsimp only at hl
        injection hl with h0 hl
        injection hl with h1 hl
        injection hl with h4 h5
        rw [if_pos h4]
        exact ⟨h0, h1, h5⟩
end Go.Proofs.YtafmnkngjjnpiaaGreatDoor

namespace Go.Proofs.YtafmnkngjjnpiaaGreatDoor
set_option linter.unusedVariables false
set_option linter.unusedSimpArgs false
set_option maxRecDepth 100000
open Go.RowKit
attribute [local go_sem] run_store_float'
theorem plan_res {tmps : Array Value} {b : Nat} {v0 v1 v2 v3 v4 v5 v6 : Value} {w : World} (hp : tmps.getD 2 undef = .pointer (some ⟨b, 0, none⟩)) (h : w.heap[b]? = some (.cells #[v0, v1, v2, v3, v4, v5, v6] 74 (0, 0))) :
    (results Tryz.f36 tmps).run Tryz.prog w = .ok (.agg #[v0, v1, v2, v3, v4, v5, v6]) w := by
  have hp' : tmps[2]?.getD undef = .pointer (some ⟨b, 0, none⟩) := by simpa using hp
  have c0 : w.cell? ⟨b, 0, none⟩ = some v0 := by rw [cell_of_heap h]; rfl
  have c1 : w.cell? ⟨b, 1, none⟩ = some v1 := by rw [cell_of_heap h]; rfl
  have c2 : w.cell? ⟨b, 2, none⟩ = some v2 := by rw [cell_of_heap h]; rfl
  have c3 : w.cell? ⟨b, 3, none⟩ = some v3 := by rw [cell_of_heap h]; rfl
  have c4 : w.cell? ⟨b, 4, none⟩ = some v4 := by rw [cell_of_heap h]; rfl
  have c5 : w.cell? ⟨b, 5, none⟩ = some v5 := by rw [cell_of_heap h]; rfl
  have c6 : w.cell? ⟨b, 6, none⟩ = some v6 := by rw [cell_of_heap h]; rfl
  simp [results, Tryz.results36, hp', c0, c1, c2, c3, c4, c5, c6, go_sem]
set_option maxHeartbeats 8000000 in
theorem plan_any (ao : Option Addr) (n c : Nat) (zs : List Int) (w : World) (h : BRow w ao n c zs) :
    Calls Tryz.prog 36 #[.slice ao n c] w fun e w' => ∃ g, e = .returned (.agg (planD g ao n c zs).cells) ∧ (planD g ao n c zs).At w' ∧ Chg [] w w' := by
  go_enter Tryz.func36, Tryz.ntmps36
  go_wp2_with fail
  have C2 : Chg [] w ((w.alloc (.cells #[.int .u32 0, .int .u8 0, .int .u8 0, .slice (some ⟨w.heap.size + 1, 0, none⟩) 1 1, .slice none 0 0, .slice none 0 0, .slice none 0 0] 74)).alloc (.cells #[.float .f64 0, .int .i64 0, .int .i64 0, .slice ao n c] 100)) := ((Chg.refl _ _).alloc _).alloc _
  have X1 := alloc2_heap w (.cells #[.int .u32 0, .int .u8 0, .int .u8 0, .slice (some ⟨w.heap.size + 1, 0, none⟩) 1 1, .slice none 0 0, .slice none 0 0, .slice none 0 0] 74) (.cells #[.float .f64 0, .int .i64 0, .int .i64 0, .slice ao n c] 100)
  have X0 : ((w.alloc (.cells #[.int .u32 0, .int .u8 0, .int .u8 0, .slice (some ⟨w.heap.size + 1, 0, none⟩) 1 1, .slice none 0 0, .slice none 0 0, .slice none 0 0] 74)).alloc (.cells #[.float .f64 0, .int .i64 0, .int .i64 0, .slice ao n c] 100)).heap[w.heap.size]? = some (.cells #[.int .u32 0, .int .u8 0, .int .u8 0, .slice (some ⟨w.heap.size + 1, 0, none⟩) 1 1, .slice none 0 0, .slice none 0 0, .slice none 0 0] 74 (0, 0)) := alloc_keeps (alloc_heap w _)
  generalize World.alloc _ _ = w1 at *
  refine bodyPost_ret (plan_res rfl X0) rfl ⟨w.heap.size + 1, rfl, ⟨⟨rfl, fun _ => ⟨_, 0, rfl, fun k x hk => ?_⟩⟩, by unfold maxLen; show 1 ≤ _; omega, .inl ⟨rfl, rfl, rfl, rfl⟩, .inl ⟨rfl, rfl, rfl, rfl⟩, .inl ⟨rfl, rfl, rfl, rfl⟩⟩, C2⟩
  cases k with
  | succ k => cases hk
  | zero =>
    injection hk with hk
    subst hk
    refine ⟨?_, ?_, ?_, ?_, h.chg0 C2, ?_⟩
    · show w1.cell? ⟨w.heap.size + 1, 0, none⟩ = _
      rw [cell_of_heap X1]; rfl
    · show w1.cell? ⟨w.heap.size + 1, 1, none⟩ = _
      rw [cell_of_heap X1]; rfl
    · show w1.cell? ⟨w.heap.size + 1, 2, none⟩ = _
      rw [cell_of_heap X1]; rfl
    · show w1.cell? ⟨w.heap.size + 1, 3, none⟩ = _
      rw [cell_of_heap X1]; rfl
    · show (0 : Nat) < _; omega
end Go.Proofs.YtafmnkngjjnpiaaGreatDoor

namespace Go.Proofs.YtafmnkngjjnpiaaGreatDoor
set_option linter.unusedVariables false
set_option linter.unusedSimpArgs false
set_option maxRecDepth 100000
open Go.RowKit
attribute [local go_sem] run_store_float'
theorem askE : AskOk ⟨#[62]⟩ 1 ((4 : Nat) : Int) := ⟨by kernel_rfl, by decide, by decide, by decide, by decide⟩
theorem bI62 : bI ⟨#[62]⟩ = [62] := by kernel_rfl
theorem str_out : strOfNums exOut = ⟨#[27, 91, 63, 50, 48, 48, 52, 104, 13, 62, 27, 91, 75, 13, 62, 42, 27, 91, 75, 13, 62, 42, 27, 91, 75, 27, 91, 49, 68, 13, 62, 42, 42, 27, 91, 75, 27, 91, 49, 68, 27, 91, 63, 50, 48, 48, 52, 108, 13, 10]⟩ := by kernel_rfl
theorem str_to : strOfNums [98, 97, 46, 46] = ⟨#[98, 97, 46, 46]⟩ := by kernel_rfl
theorem exBy : ByR exB := by intro x hx; unfold exB at hx; simp at hx; omega
theorem told_ex (g : Nat) (ao : Option Addr) (w : World) (h : (planD g ao 6 6 exB).At w) (hL : LibT w) :
    Calls Tryz.prog 28 #[.agg (planD g ao 6 6 exB).cells, .agg #[.string ⟨#[62]⟩, .int .i64 1, .int .i64 0], .int .i64 4] w fun e w' =>
      ∃ ao' c ae n ce fl mn tm, e = .returned (.tuple #[.agg #[.int .i64 0, .int .i64 2, .slice ao' 4 c, .slice ae n ce, .int .u32 fl, .int .u8 mn, .int .u8 tm, .bool true], .bool true]) ∧ Chg [] w w' ∧
        ∃ E : List EfD, n = E.length ∧ (∀ y ∈ E, y.zs.length ≤ y.cap) ∧ outP (E.map EfD.pl) = exOut ∧ E.length ≤ maxLen ∧ ∀ W, Chg [] w' W → SrcAt W ao' 4 c (valsOf .u8 [98, 97, 46, 46]) ∧ EffR W ae n E := by
  have hT := told_ok (planD g ao 6 6 exB) ⟨#[62]⟩ 1 0 4 w h (by kernel_rfl) ?_ ?_ ?_ askE (by decide) hL (Nat.zero_le _) (Nat.zero_le _) (Nat.zero_le _) ?_ (by kernel_rfl)
  refine hT.mono ?_
  rintro e w' ⟨o, s', ao', c, ae, ce, E, cur, hA, rfl, C, hpl, hf, hW⟩
  rw [bI62] at hA
  rw [start_plan g ao 6 6 exB rfl (by decide)] at hA
  obtain ⟨rfl, hb, hE⟩ := ex_all hA
  rw [hb]
  refine ⟨ao', c, ae, E.length, ce, _, _, _, rfl, C, E, rfl, fun y hy => (hf y hy).2, by rw [hpl]; exact hE, ?_, fun W cW => ?_⟩
  · exact row_few (hW [] (by simp) w' (Chg.refl _ _)).2.1
  · obtain ⟨h1, h2, h3⟩ := hW [] (by simp) W cW
    refine ⟨?_, effR_of h2 h3⟩
    have e : List.take 4 (outG 4 0 [98, 97] (valsOf .u8 (List.replicate 4 46) ++ cur)) = valsOf .u8 [98, 97, 46, 46] := rfl
    rw [hb, e] at h1
    exact h1
  · intro x hx
    have := List.mem_singleton.1 hx
    subst this
    show i64R 0
    unfold i64R
    omega
  · intro x hx
    have := List.mem_singleton.1 hx
    subst this
    exact exBy
  · intro x hx
    have := List.mem_singleton.1 hx
    subst this
    show 6 ≤ _
    decide
  · show 0 + budI (startP (planD g ao 6 6 exB)).t.its ≤ 900000
    rw [start_plan g ao 6 6 exB rfl (by decide)]
    decide
set_option maxHeartbeats 8000000 in
theorem aliveW_at (w : World) (hL : LibT w) :
    Calls Tryz.prog 8 #[] w fun e w' => e = .returned (.bool true) ∧ Chg [] w w' := by
  have hc : (convert 22 22 (.slice (some ⟨w.heap.size, 0, none⟩) 6 6)).run Tryz.prog (w.alloc (.cells #[Value.int IntKind.u8 97, Value.int IntKind.u8 27, Value.int IntKind.u8 91, Value.int IntKind.u8 68, Value.int IntKind.u8 98, Value.int IntKind.u8 13] 5)) = .ok (.slice (some ⟨w.heap.size, 0, none⟩) 6 6) (w.alloc (.cells #[Value.int IntKind.u8 97, Value.int IntKind.u8 27, Value.int IntKind.u8 91, Value.int IntKind.u8 68, Value.int IntKind.u8 98, Value.int IntKind.u8 13] 5 (6, 6 + 1))) := Lib.run_convert_bytes_const (P := Tryz.prog) w 22 5 #[Value.int IntKind.u8 97, Value.int IntKind.u8 27, Value.int IntKind.u8 91, Value.int IntKind.u8 68, Value.int IntKind.u8 98, Value.int IntKind.u8 13] 6 6 Tryz.underlying22 Tryz.underlying5
  obtain ⟨ao, c, e0, S1, _, C1, hc6⟩ := out_new exB w 5
  injection e0 with e0
  injection e0 with e1 e2 e3
  have hB : BRow (w.alloc (.cells (valsOf .u8 exB).toArray 5 ((valsOf .u8 exB).toArray.size, (valsOf .u8 exB).toArray.size + 1))) (some ⟨w.heap.size, 0, none⟩) 6 6 exB := by
    refine ⟨Nat.le_refl _, by unfold maxLen; omega, Nat.le_refl _, ?_⟩
    rw [← e1, ← e3] at S1
    exact S1
  have HP := Lib.hid (plan_any _ 6 6 exB _ hB)
  have HL := Lib.hid (And.intro C1 hL)
  clear C1 S1 hB hL hc6 e1 e2 e3
  unfold exB valsOf at HP HL
  dsimp only [List.map] at HP HL
  go_enter Tryz.func8, Tryz.ntmps8
  go_wp2_with fail
  refine (HP.out).mono ?_
  rintro e w2 ⟨g, rfl, A2, C2⟩
  have C02 := HL.out.1.trans C2 (U := []) (by simp) (by simp)
  have HT := Lib.hid (told_ex g _ w2 A2 (HL.out.2.chg0 C02))
  have HC := Lib.hid C02
  clear HP HL A2 C2 C02 hc
  unfold PlanD.cells planD at HT ⊢
  dsimp only at HT ⊢
  go_wp2_with fail
  refine (HT.out).mono ?_
  rintro e w3 ⟨ao', c', ae, n, ce, fl, mn, tm, rfl, C3, E, hn, hcap, hout, hlen, hW⟩
  subst hn
  go_upto_region 2 with (fail)
  have C4 : Chg [] w3 (w3.alloc (.cells #[.int .i64 0, .int .i64 2, .slice ao' 4 c', .slice ae E.length ce, .int .u32 fl, .int .u8 mn, .int .u8 tm, .bool true] 82)) := (Chg.refl _ _).alloc _
  have h4 := hW _ C4
  have HC4 := Lib.hid ((HC.out.trans C3 (U := []) (by simp) (by simp)).trans C4 (U := []) (by simp) (by simp))
  have HR := Lib.hid (written_any ae E.length ce E _ h4.2 hlen hcap (by rw [hout]; decide))
  rw [hout] at HR
  have k1 := tconv_at h4.1
  rw [str_to] at k1
  clear h4 hcap hout hlen hW C3 C4 HC HT
  obtain ⟨L, hL5⟩ : ∃ L, L = exOut.length := ⟨_, rfl⟩
  unfold WritPost at HR
  rw [← hL5] at HR
  clear hL5
  go_wp2_with (go_at_call 37; refine (HR.out).mono ?_; rintro e w5 ⟨a5, k5, rfl, S5, C5⟩; have k2 := tconv_at S5; rw [str_out] at k2)
  go_ret
  exact ⟨rfl, HC4.out.trans C5 (U := []) (by simp) (by simp)⟩
end Go.Proofs.YtafmnkngjjnpiaaGreatDoor
