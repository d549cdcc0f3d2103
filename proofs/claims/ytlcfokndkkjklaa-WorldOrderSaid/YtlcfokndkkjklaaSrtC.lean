/-
  moment.Sort: a clone in order; what in order is, is one.
-/
import Derived.Test.YtlcfokndkkjklaaSrtS
import Derived.Test.YtlcfokndkkjklaaApp
namespace Go.Proofs.Ytlcfokndkkjklaa
set_option linter.unusedVariables false
set_option maxRecDepth 100000
open Go.RowKit

attribute [local go_sem] run_store_float'

def fwords (ws : List Nat) : List Value := ws.map (.float .f64)

/-- Each word with its place. -/
def tagged (ws : List Nat) : List Tag := ws.zipIdx

theorem tagged_length (ws : List Nat) : (tagged ws).length = ws.length := by simp [tagged]
theorem tagged_get (ws : List Nat) (k : Nat) (h : k < ws.length) : (tagged ws).getD k default = (ws[k], k) := by
  simp [tagged, List.getD_eq_getElem?_getD, List.getElem?_zipIdx, List.getElem?_eq_getElem h]
theorem tagged_cells (ws : List Nat) : (tagged ws).map fcell = fwords ws := by
  apply List.ext_getElem?
  intro k
  simp only [tagged, fwords, List.getElem?_map, List.getElem?_zipIdx, Option.map_map]
  cases ws[k]? <;> rfl

theorem tagged_in (ws : List Nat) (hW : ∀ x ∈ ws, Wd x) (hm : ws.length ≤ 1000000) : SrtIn (tagged ws) ws.length := by
  refine ⟨tagged_length ws, hm, fun x hx => ?_, fun i j hij hj => ?_, fun i j hij hj => ?_⟩
  · obtain ⟨k, hk, rfl⟩ := List.getElem_of_mem hx
    simp only [tagged, List.getElem_zipIdx]
    exact hW _ (List.getElem_mem _)
  · rw [tagged_length] at hj
    rw [tagged_get ws i (by omega), tagged_get ws j hj]
    unfold oT
    dsimp only
    omega
  · rw [tagged_get ws i (by omega), tagged_get ws j hj]
    unfold oT ltT
    dsimp only
    simp only [decide_eq_true_eq]
    omega

theorem Srt.pairwise {l l' : List Tag} {n : Nat} (h : Srt default oT l l' 0 n) (hn : l.length = n) : l'.Pairwise (fun x y => oT x < oT y) := by
  rw [List.pairwise_iff_getElem]
  intro i j hi hj hij
  have := h.asc i j (Nat.zero_le _) hij (by rw [← hn, ← h.mv.len]; exact hj)
  simpa [List.getD_eq_getElem?_getD, List.getElem?_eq_getElem hi, List.getElem?_eq_getElem hj] using this

/-- What in order is, is one. -/
theorem Srt.one {l l1 l2 : List Tag} {n : Nat} (h1 : Srt default oT l l1 0 n) (h2 : Srt default oT l l2 0 n) (hn : l.length = n) : l1 = l2 :=
  List.Perm.eq_of_pairwise (le := fun x y => oT x < oT y) (fun a b _ _ h k => absurd h (by omega)) (h1.pairwise hn) (h2.pairwise hn) (h1.mv.perm.trans h2.mv.perm.symm)

/-- The words in order. -/
def Ordered (ws vs : List Nat) : Prop := ∃ l', Srt default oT (tagged ws) l' 0 ws.length ∧ l'.map (·.1) = vs

theorem Ordered.one {ws v1 v2 : List Nat} (h1 : Ordered ws v1) (h2 : Ordered ws v2) : v1 = v2 := by
  obtain ⟨l1, s1, rfl⟩ := h1
  obtain ⟨l2, s2, rfl⟩ := h2
  rw [s1.one s2 (tagged_length ws)]

theorem Ordered.len {ws vs : List Nat} (h : Ordered ws vs) : vs.length = ws.length := by
  obtain ⟨l1, s1, rfl⟩ := h
  rw [List.length_map, s1.mv.len, tagged_length]

theorem fwords_of (l : List Tag) : l.map fcell = fwords (l.map (·.1)) := by
  unfold fwords
  rw [List.map_map]
  rfl

theorem infoF : (Try.prog.info? 23).map (fun i => (i.zero, i.size, i.bytes)) = some (some (.float .f64 0), 1, 8) := by kernel_rfl

theorem oneCell_f (ws : List Nat) : ∀ u ∈ fwords ws, u.oneCell' = true := by
  intro u hu
  obtain ⟨x, _, rfl⟩ := List.mem_map.1 hu
  rfl

theorem owns_src {w : World} {base : Nat} {e : TypeId} {v : Value} {n : Nat} {xs : List Value} (h : w.ownsRow base e 1 v n xs) :
    (v = .slice none 0 0 ∧ n = 0) ∨ ∃ g c, v = .slice (some ⟨g, 0, none⟩) n c ∧ base ≤ g ∧ n ≤ c ∧ c ≤ maxLen ∧ ∀ j u, xs[j]? = some u → w.cell? ((⟨g, 0, none⟩ : Addr).add j) = some u := by
  have h' := h
  rcases h.2 with ⟨rfl, rfl⟩ | ⟨g, cap, cur, rfl, h1, _, k1, k2, _⟩
  · exact .inl ⟨rfl, rfl⟩
  · exact .inr ⟨_, _, rfl, h1, k1, k2, h'.cells (g := g) rfl⟩

/-- A row of floats of the call's own, as the sort sees it. -/
theorem owns_flrow {w : World} {base g n c : Nat} {l : List Tag} (h : w.ownsRow base 23 1 (.slice (some ⟨g, 0, none⟩) n c) n (l.map fcell)) : ∃ R, FlRow w g l R ∧ l.length = n ∧ base ≤ g ∧ n ≤ c ∧ c ≤ maxLen ∧ (l.map fcell ++ R).length = c := by
  have hl : l.length = n := by have := h.1; simpa using this
  rcases h.2 with ⟨e, _⟩ | ⟨g', cap, cur, e, hb, hg, hnc, hcm, hcs, ht⟩
  · cases e
  · injection e with e1 e2 e3
    injection e1 with e1
    injection e1 with e1 _ _
    subst e1 e3
    refine ⟨cur.toList.drop n, ?_, hl, hb, hnc, hcm, ?_⟩
    · unfold FlRow
      rw [hg]
      congr 2
      rw [← ht, Nat.mul_one, List.take_append_drop]
    · rw [← ht, Nat.mul_one, List.take_append_drop]
      simpa using hcs

theorem flrow_owns {w : World} {base g n c : Nat} {l : List Tag} {R : List Value} (h : FlRow w g l R) (hl : l.length = n) (hb : base ≤ g) (hnc : n ≤ c) (hcm : c ≤ maxLen) (hc : (l.map fcell ++ R).length = c) : w.ownsRow base 23 1 (.slice (some ⟨g, 0, none⟩) n c) n (l.map fcell) := by
  refine ⟨by simp [hl], .inr ⟨g, c, (l.map fcell ++ R).toArray, rfl, hb, h, hnc, hcm, by simp at hc ⊢; omega, ?_⟩⟩
  rw [Nat.mul_one, List.take_left']
  simp [hl]

def FCloneRes (w : World) (ws : List Nat) (e : Ending) (w' : World) : Prop :=
  ∃ rv, e = .returned rv ∧ Chg [] w w' ∧ w'.ownsRow w.heap.size 23 1 rv ws.length (fwords ws)

set_option maxHeartbeats 1000000 in
theorem fclone_any (nv : Value) (ws : List Nat) (w : World) (h : w.ownsRow 0 23 1 nv ws.length (fwords ws)) (hn : ws.length ≤ 1000000) :
    Calls Try.prog 38 #[nv] w (FCloneRes w ws) := by
  obtain ⟨i0, hi, hz0, hz1, hz2⟩ := info_parts infoF
  have hnil := fun (w : World) (a : Option Addr) (n c : Nat) => Lib.run_eql_slice_nil (P := Try.prog) w 61 23 a n c 0 0 Try.underlying61
  rcases owns_src h with ⟨rfl, h0⟩ | ⟨g, c, rfl, hb, k1, k2, hc⟩
  · have hA : ws = [] := List.eq_nil_of_length_eq_zero h0
    subst hA
    clear h0 h
    go_enter Try.func38, Try.ntmps38
    go_wp2_with fail
    go_ret
    exact ⟨_, rfl, Chg.refl _ _, World.ownsRow_nil _ _ _ _⟩
  · unfold maxLen at k2
    have O0 : (w.alloc (.cells #[] 23)).ownsRow w.heap.size 23 1 (.slice (some ⟨w.heap.size, 0, none⟩) 0 0) 0 [] := owns_empty w w.heap.size 23 (Nat.le_refl _)
    have C0 : Chg [] w (w.alloc (.cells #[] 23)) := (Chg.refl _ _).alloc _
    have S1 := Lib.hid (show ∀ ad, (some ⟨g, 0, none⟩ : Option Addr) = some ad → ∀ j u, (fwords ws)[j]? = some u → (w.alloc (.cells #[] 23)).cell? (ad.add j) = some u from fun ad e j u hu => by
      injection e with e
      rw [← e]
      exact C0.cell (hc j u hu) (by simp))
    have hl := Lib.hid (show (fwords ws).length = ws.length * 1 by simp [fwords])
    clear h hc
    go_enter Try.func38, Try.ntmps38
    go_wp2_with (refine wpList_append_src rfl (.tmp 5) (.tmp 6) 61 rfl w.heap.size 23 i0 (.float .f64 0) 1 8 Try.underlying61 hi hz0 hz1 hz2 rfl (by decide) _ 0 [] (by rfl) O0 (some ⟨g, 0, none⟩) ws.length c (fwords ws) (by rfl) hl.out (fun e => by cases e) S1.out (oneCell_f ws) (by unfold maxLen; omega) (by omega) C0.size (fun v6 w6 O6 C6 _ => ?_); have D6 : Chg [] w w6 := C0.trans C6 (by simp) (by simp [Value.ownBlock]); rw [List.nil_append, Nat.zero_add] at O6; have H6 := Lib.hid O6; clear O6)
    go_ret
    exact ⟨_, rfl, D6, H6.out⟩

set_option maxHeartbeats 1000000 in
theorem insSort_zero (v : Value) (w : World) :
    Calls Try.prog 53 #[v, .int .i64 0, .int .i64 0, cmpV] w fun e w' => e = .returned (.tuple #[]) ∧ w = w' := by
  go_enter Try.func53, Try.ntmps53
  go_wp2_with fail
  go_loopw [8] (fun iv wr => iv = .int .i64 1 ∧ w = wr) (fun iv _ => 0)
  case atStart => exact ⟨rfl, rfl⟩
  case round =>
    obtain ⟨rfl, rfl⟩ := hrel
    go_wp2_with fail
    go_end0
    exact ⟨rfl, rfl⟩

set_option maxRecDepth 100000 in
set_option maxHeartbeats 1000000 in
theorem stable_zero (v : Value) (w : World) :
    Calls Try.prog 46 #[v, .int .i64 0, cmpV] w fun e w' => e = .returned (.tuple #[]) ∧ w = w' := by
  go_enter Try.func46, Try.ntmps46
  go_wp2_with fail
  go_loopw [7, 8] (fun av bv wr => av = .int .i64 0 ∧ bv = .int .i64 20 ∧ w = wr) (fun _ _ _ => 0)
  case atStart => exact ⟨rfl, rfl, rfl⟩
  case round =>
    obtain ⟨rfl, rfl, rfl⟩ := hrel
    go_wp2_with fail
    refine (insSort_zero v _).mono ?_
    rintro ev w1 ⟨rfl, rfl⟩
    go_wp2_with fail
    go_loopw [6] (fun sv wr => sv = .int .i64 20 ∧ w = wr) (fun _ _ => 0)
    case atStart => exact ⟨rfl, rfl⟩
    case round =>
      obtain ⟨rfl, rfl⟩ := hrel
      go_wp2_with fail
      go_end0
      exact ⟨rfl, rfl⟩

set_option maxHeartbeats 1000000 in
theorem sortStable_zero (w : World) :
    Calls Try.prog 39 #[.slice none 0 0, cmpV] w fun e w' => e = .returned (.tuple #[]) ∧ w = w' := by
  go_enter Try.func39, Try.ntmps39
  go_wp2_with fail
  refine (stable_zero _ _).mono ?_
  rintro ev w1 ⟨rfl, rfl⟩
  go_wp2_with fail
  go_end0
  exact ⟨rfl, rfl⟩

/-- What a sort of words leaves: a new row that holds them in order. -/
def FSortRes (w : World) (ws : List Nat) (e : Ending) (w' : World) : Prop :=
  ∃ rv vs, e = .returned rv ∧ Chg [] w w' ∧ Ordered ws vs ∧ w'.ownsRow w.heap.size 23 1 rv ws.length (fwords vs)

set_option maxHeartbeats 1000000 in
theorem momSort_any (nv : Value) (ws : List Nat) (w : World) (h : w.ownsRow 0 23 1 nv ws.length (fwords ws)) (hn : ws.length ≤ 1000000) (hW : ∀ x ∈ ws, Wd x) :
    Calls Try.prog 25 #[nv] w (FSortRes w ws) := by
  have HI := Lib.hid (tagged_in ws hW hn)
  clear hW
  go_enter Try.func25, Try.ntmps25
  go_wp2_with fail
  refine (fclone_any nv ws _ h hn).mono ?_
  rintro e w1 ⟨rv, rfl, C1, O1⟩
  have HO := Lib.hid O1
  rcases owns_src O1 with ⟨rfl, h0⟩ | ⟨g, c, rfl, hb, k1, k2, hc⟩
  · have hA : ws = [] := List.eq_nil_of_length_eq_zero h0
    subst hA
    clear O1 h0 h
    go_wp2_with fail
    refine (sortStable_zero _).mono ?_
    rintro ev w2 ⟨rfl, rfl⟩
    go_wp2_with fail
    go_ret
    exact ⟨_, [], rfl, C1, ⟨[], Srt.nothing (Asc.small (by simp)), rfl⟩, HO.out⟩
  · rw [← tagged_cells] at O1
    obtain ⟨R, F1, hl, hb2, k3, k4, k5⟩ := owns_flrow O1
    have HX := Lib.hid (And.intro hl (And.intro hb2 (And.intro k3 (And.intro k4 k5))))
    clear O1 h hc hl k5 k4
    go_wp2_with fail
    refine (sortStable_any g ws.length c (tagged ws) R _ F1 HI.out).mono ?_
    rintro ev w2 ⟨rfl, C2, l2, S2, F2⟩
    have HF := Lib.hid (And.intro S2 F2)
    clear S2 F2 F1
    go_wp2_with fail
    go_ret
    obtain ⟨hl, hb2, k3, k4, k5⟩ := HX.out
    obtain ⟨S2, F2⟩ := HF.out
    refine ⟨_, l2.map (·.1), rfl, C1.trans C2 (by simp) (fun y hy hlt => by have := List.mem_singleton.1 hy; omega), ⟨l2, S2, rfl⟩, ?_⟩
    rw [← fwords_of]
    exact flrow_owns F2 (S2.mv.len.trans hl) hb2 k3 k4 (by rw [← k5]; simp [S2.mv.len])
end Go.Proofs.Ytlcfokndkkjklaa
