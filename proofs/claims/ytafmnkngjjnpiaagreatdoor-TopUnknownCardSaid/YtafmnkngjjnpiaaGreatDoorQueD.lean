import Derived.Test.YtafmnkngjjnpiaaGreatDoorChg
import Derived.Test.YtafmnkngjjnpiaaGreatDoorMomD
import Derived.ChangeKeysEq
import Derived.Lib.Hide
namespace Go.Proofs.YtafmnkngjjnpiaaGreatDoor
set_option maxRecDepth 100000
set_option linter.unusedVariables false
abbrev Ele := Nat × Int × Int
instance : Inhabited Ele := ⟨(0, 0, 0)⟩
def swapH (H : List Ele) (i j : Nat) : List Ele := (H.set i (H.getD j default)).set j (H.getD i default)
theorem swapH_length (H : List Ele) (i j : Nat) : (swapH H i j).length = H.length := by simp [swapH]
theorem swapH_get (H : List Ele) (i j k : Nat) (hi : i < H.length) (hj : j < H.length) :
    (swapH H i j).getD k default = if k = j then H.getD i default else if k = i then H.getD j default else H.getD k default := by
  unfold swapH
  simp only [List.getD_eq_getElem?_getD, List.getElem?_set, List.length_set]
  by_cases h1 : k = j
  · subst h1; simp [hj]
  · rw [if_neg (Ne.symm h1), if_neg h1]
    by_cases h2 : k = i
    · subst h2; simp [hi]
    · rw [if_neg (Ne.symm h2), if_neg h2]
theorem swapH_perm (H : List Ele) (i j : Nat) (hi : i < H.length) (hj : j < H.length) : (swapH H i j).Perm H := by
  have h := Array.swap_perm (xs := H.toArray) (i := i) (j := j) (by simpa using hi) (by simpa using hj)
  have h2 : (H.toArray.swap i j (by simpa using hi) (by simpa using hj)).toList = swapH H i j := by
    apply List.ext_getElem?
    intro k
    unfold swapH
    simp only [Array.toList_swap, List.getElem?_set, List.length_set, List.getD_eq_getElem?_getD]
    simp [hi, hj]
  rw [← h2]
  exact h.toList
def IsHeap (o : Ele → Nat) (H : List Ele) (n : Nat) : Prop := ∀ k, 0 < k → k < n → o (H.getD ((k - 1) / 2) default) ≤ o (H.getD k default)
def UpInv (o : Ele → Nat) (H : List Ele) (n j : Nat) : Prop :=
  (∀ k, 0 < k → k < n → k ≠ j → o (H.getD ((k - 1) / 2) default) ≤ o (H.getD k default)) ∧
  (∀ k, 0 < k → k < n → (k - 1) / 2 = j → 0 < j → o (H.getD ((j - 1) / 2) default) ≤ o (H.getD k default))
theorem getD_app (H R : List Ele) (k : Nat) (h : k < H.length) : (H ++ R).getD k default = H.getD k default := by
  simp [List.getD_eq_getElem?_getD, List.getElem?_append_left h]
theorem up_start (o : Ele → Nat) (H : List Ele) (x : Ele) (h : IsHeap o H H.length) : UpInv o (H ++ [x]) (H.length + 1) H.length := by
  refine ⟨fun k h0 hk hne => ?_, fun k h0 hk hp hj => ?_⟩
  · have hlt : k < H.length := by omega
    have := h k h0 hlt
    rwa [getD_app _ _ _ (by omega), getD_app _ _ _ hlt]
  · omega
theorem up_done (o : Ele → Nat) (H : List Ele) (n j : Nat) (h : UpInv o H n j) (hd : j = 0 ∨ o (H.getD ((j - 1) / 2) default) ≤ o (H.getD j default)) : IsHeap o H n := by
  intro k h0 hk
  by_cases hkj : k = j
  · subst hkj
    rcases hd with hd | hd
    · omega
    · exact hd
  · exact h.1 k h0 hk hkj
theorem up_step (o : Ele → Nat) (H : List Ele) (j : Nat) (h : UpInv o H H.length j) (hj : j < H.length) (h0 : 0 < j) (hlt : o (H.getD j default) < o (H.getD ((j - 1) / 2) default)) :
    UpInv o (swapH H ((j - 1) / 2) j) H.length ((j - 1) / 2) := by
  have hi : (j - 1) / 2 < H.length := by omega
  refine ⟨fun k k0 hk hne => ?_, fun k k0 hk hp hi0 => ?_⟩
  · rw [swapH_get _ _ _ _ hi hj, swapH_get _ _ _ _ hi hj]
    by_cases hkj : k = j
    · subst hkj
      rw [if_neg (by omega), if_pos rfl, if_pos rfl]
      omega
    · rw [if_neg hkj, if_neg hne]
      by_cases hpj : (k - 1) / 2 = j
      · rw [if_pos hpj]
        exact h.2 k k0 hk hpj h0
      · rw [if_neg hpj]
        by_cases hpi : (k - 1) / 2 = (j - 1) / 2
        · rw [if_pos hpi]
          have := h.1 k k0 hk hkj
          rw [hpi] at this
          omega
        · rw [if_neg hpi]
          exact h.1 k k0 hk hkj
  · rw [swapH_get _ _ _ _ hi hj, swapH_get _ _ _ _ hi hj]
    have hii : ((j - 1) / 2 - 1) / 2 ≠ j := by omega
    have hii2 : ((j - 1) / 2 - 1) / 2 ≠ (j - 1) / 2 := by omega
    rw [if_neg hii, if_neg hii2]
    have hpp := h.1 ((j - 1) / 2) hi0 hi (by omega)
    by_cases hkj : k = j
    · subst hkj
      rw [if_pos rfl]
      exact hpp
    · rw [if_neg hkj, if_neg (by omega)]
      have := h.1 k k0 hk hkj
      rw [hp] at this
      omega
def DownInv (o : Ele → Nat) (H : List Ele) (n i : Nat) : Prop :=
  (∀ k, 0 < k → k < n → (k - 1) / 2 ≠ i → o (H.getD ((k - 1) / 2) default) ≤ o (H.getD k default)) ∧
  (∀ k, 0 < k → k < n → (k - 1) / 2 = i → 0 < i → o (H.getD ((i - 1) / 2) default) ≤ o (H.getD k default))
theorem down_start (o : Ele → Nat) (H : List Ele) (n : Nat) (hn : n + 1 = H.length) (h : IsHeap o H (n + 1)) : DownInv o (swapH H 0 n) n 0 := by
  refine ⟨fun k k0 hk hp => ?_, fun k k0 hk hp hi => by omega⟩
  rw [swapH_get _ _ _ _ (by omega) (by omega), swapH_get _ _ _ _ (by omega) (by omega), if_neg (by omega), if_neg hp, if_neg (by omega), if_neg (by omega)]
  exact h k k0 (by omega)
theorem down_done (o : Ele → Nat) (H : List Ele) (n i : Nat) (h : DownInv o H n i) (hd : ∀ k, 0 < k → k < n → (k - 1) / 2 = i → o (H.getD i default) ≤ o (H.getD k default)) : IsHeap o H n := by
  intro k k0 hk
  by_cases hp : (k - 1) / 2 = i
  · rw [hp]; exact hd k k0 hk hp
  · exact h.1 k k0 hk hp
theorem down_step (o : Ele → Nat) (H : List Ele) (n i j : Nat) (h : DownInv o H n i) (hn : n ≤ H.length) (hj : j < n) (h0 : 0 < j) (hp : (j - 1) / 2 = i)
    (hmin : ∀ k, 0 < k → k < n → (k - 1) / 2 = i → o (H.getD j default) ≤ o (H.getD k default)) (hlt : o (H.getD j default) < o (H.getD i default)) : DownInv o (swapH H i j) n j := by
  have hi : i < H.length := by omega
  have hjl : j < H.length := by omega
  refine ⟨fun k k0 hk hpk => ?_, fun k k0 hk hpk hj0 => ?_⟩
  · rw [swapH_get _ _ _ _ hi hjl, swapH_get _ _ _ _ hi hjl, if_neg hpk]
    by_cases hpi : (k - 1) / 2 = i
    · rw [if_pos hpi]
      by_cases hkj : k = j
      · rw [if_pos hkj]; omega
      · rw [if_neg hkj, if_neg (by omega)]
        exact hmin k k0 hk hpi
    · rw [if_neg hpi]
      by_cases hkj : k = j
      · exact absurd (by rw [hkj]; exact hp) hpi
      · rw [if_neg hkj]
        by_cases hki : k = i
        · rw [if_pos hki]
          subst hki
          have := h.2 j h0 hj hp k0
          exact this
        · rw [if_neg hki]
          exact h.1 k k0 hk hpi
  · rw [swapH_get _ _ _ _ hi hjl, swapH_get _ _ _ _ hi hjl, hp, if_neg (by omega), if_pos rfl, if_neg (by omega), if_neg (by omega)]
    have := h.1 k k0 hk (by omega)
    rw [hpk] at this
    exact this
theorem heap_top (o : Ele → Nat) (H : List Ele) (n : Nat) (h : IsHeap o H n) : ∀ k, k < n → o (H.getD 0 default) ≤ o (H.getD k default) := by
  intro k
  induction k using Nat.strongRecOn with
  | _ k ih =>
    intro hk
    by_cases h0 : k = 0
    · subst h0; exact Nat.le_refl _
    · have h1 := ih ((k - 1) / 2) (by omega) (by omega)
      have h2 := h k (by omega) hk
      omega
end Go.Proofs.YtafmnkngjjnpiaaGreatDoor

namespace Go.Proofs.YtafmnkngjjnpiaaGreatDoor
set_option linter.unusedVariables false
set_option maxRecDepth 100000
open Go.RowKit
theorem isAgg_row (w : World) : (isAgg 239).run Tryz.prog w = .ok false w := by kernel_rfl
theorem load_row (p : Addr) (v : Value) (w : World) (h : w.cell? p = some v) : (loadVar 239 p).run Tryz.prog w = .ok v w := by
  unfold loadVar
  simp only [Sem.run_bind, isAgg_row, Result.andThen]
  simp [h]
theorem run_wrapchk (P : Program) (t : TypeId) (p : Addr) (a b : String) (w : World) : (Builtin.ssaWrapNilChk_ #[t] t #[.pointer (some p), strVal a, strVal b]).run P w = .ok (.pointer (some p)) w := rfl
theorem method_value (nm : String) (f : FuncId) (I : TypeInfo) (m : Method) (hI : Tryz.prog.info? 250 = some I) (hm : I.methods.find? (fun m => m.name == nm) = some m) (hp : m.path = #[]) (hf : m.func = some (f, false))
    (p : Addr) (v : Value) (w : World) (h : w.cell? p = some v) : (method 457 250 (.pointer (some p)) nm).run Tryz.prog w = .ok (f, v) w := by
  rw [show (457 : Nat) = 456 + 1 from rfl]
  unfold method
  have hu := Tryz.underlying250
  rw [Sem.run_bind, run_typeInfo (w := w) hI]
  simp only [Result.andThen, hm, hp, hf, follow, Sem.run_bind, Sem.run_pure]
  unfold receiverAt
  simp only [Sem.run_bind, run_underlying hu, Result.andThen, Place.get, Sem.run_pure]
  simp [run_wrapchk, asAddr, load_row p v w h, Result.andThen]
theorem method_Len (p : Addr) (v : Value) (w : World) (h : w.cell? p = some v) : (method 457 250 (.pointer (some p)) "Len").run Tryz.prog w = .ok (241, v) w := by
  obtain ⟨I, hI, hm⟩ : ∃ I, Tryz.prog.info? 250 = some I ∧ (I.methods.find? (fun m => m.name == "Len")).map (fun m => (m.path, m.func)) = some (#[], some (241, false)) := ⟨_, rfl, by kernel_rfl⟩
  obtain ⟨m, hm1, hm2⟩ := Option.map_eq_some_iff.1 hm
  exact method_value "Len" _ I m hI hm1 (congrArg Prod.fst hm2) (congrArg Prod.snd hm2) p v w h
theorem method_Less (p : Addr) (v : Value) (w : World) (h : w.cell? p = some v) : (method 457 250 (.pointer (some p)) "Less").run Tryz.prog w = .ok (242, v) w := by
  obtain ⟨I, hI, hm⟩ : ∃ I, Tryz.prog.info? 250 = some I ∧ (I.methods.find? (fun m => m.name == "Less")).map (fun m => (m.path, m.func)) = some (#[], some (242, false)) := ⟨_, rfl, by kernel_rfl⟩
  obtain ⟨m, hm1, hm2⟩ := Option.map_eq_some_iff.1 hm
  exact method_value "Less" _ I m hI hm1 (congrArg Prod.fst hm2) (congrArg Prod.snd hm2) p v w h
theorem method_Swap (p : Addr) (v : Value) (w : World) (h : w.cell? p = some v) : (method 457 250 (.pointer (some p)) "Swap").run Tryz.prog w = .ok (243, v) w := by
  obtain ⟨I, hI, hm⟩ : ∃ I, Tryz.prog.info? 250 = some I ∧ (I.methods.find? (fun m => m.name == "Swap")).map (fun m => (m.path, m.func)) = some (#[], some (243, false)) := ⟨_, rfl, by kernel_rfl⟩
  obtain ⟨m, hm1, hm2⟩ := Option.map_eq_some_iff.1 hm
  exact method_value "Swap" _ I m hI hm1 (congrArg Prod.fst hm2) (congrArg Prod.snd hm2) p v w h
theorem method_Push (p : Addr) (w : World) : (method 457 250 (.pointer (some p)) "Push").run Tryz.prog w = .ok (252, .pointer (some p)) w := by kernel_rfl
theorem method_Pop (p : Addr) (w : World) : (method 457 250 (.pointer (some p)) "Pop").run Tryz.prog w = .ok (251, .pointer (some p)) w := by kernel_rfl
end Go.Proofs.YtafmnkngjjnpiaaGreatDoor

namespace Go.Proofs.YtafmnkngjjnpiaaGreatDoor
set_option maxRecDepth 100000
set_option linter.unusedVariables false
structure Stands (o : Ele → Nat) (H M : List Ele) : Prop where
  heap : IsHeap o H H.length
  sorted : M.Pairwise (fun x y => o x < o y)
  perm : M.Perm H
theorem Stands.len {o : Ele → Nat} {H M : List Ele} (h : Stands o H M) : M.length = H.length := h.perm.length_eq
theorem getD_mem (H : List Ele) (k : Nat) (h : k < H.length) : H.getD k default ∈ H := by
  simp [List.getD_eq_getElem?_getD, List.getElem?_eq_getElem h]
theorem mem_getD {H : List Ele} {x : Ele} (h : x ∈ H) : ∃ k, k < H.length ∧ H.getD k default = x := by
  obtain ⟨k, hk, e⟩ := List.getElem_of_mem h
  exact ⟨k, hk, by simp [List.getD_eq_getElem?_getD, List.getElem?_eq_getElem hk, e]⟩
theorem Stands.top {o : Ele → Nat} {H M : List Ele} {x : Ele} (h : Stands o H (x :: M)) : H.getD 0 default = x := by
  have hl : 0 < H.length := by rw [← h.len]; simp
  have h0 : H.getD 0 default ∈ x :: M := (h.perm.mem_iff).2 (getD_mem H 0 hl)
  rcases List.mem_cons.1 h0 with e | hm
  · exact e
  · exfalso
    have h1 := (List.pairwise_cons.1 h.sorted).1 _ hm
    obtain ⟨k, hk, e⟩ := mem_getD ((h.perm.mem_iff).1 (List.mem_cons_self : x ∈ x :: M))
    have h2 := heap_top o H H.length h.heap k hk
    rw [e] at h2
    omega
def insQ (o : Ele → Nat) (M : List Ele) (x : Ele) : List Ele := M.filter (fun y => decide (o y < o x)) ++ x :: M.filter (fun y => !decide (o y < o x))
theorem insQ_perm (o : Ele → Nat) (M : List Ele) (x : Ele) : (insQ o M x).Perm (M ++ [x]) := by
  unfold insQ
  refine (List.perm_middle).trans ?_
  refine (List.Perm.cons x (List.filter_append_perm (fun y => decide (o y < o x)) M)).trans ?_
  exact (List.perm_append_singleton x M).symm
theorem insQ_sorted (o : Ele → Nat) (M : List Ele) (x : Ele) (h : M.Pairwise (fun x y => o x < o y)) (hne : ∀ y ∈ M, o y ≠ o x) : (insQ o M x).Pairwise (fun x y => o x < o y) := by
  unfold insQ
  refine List.pairwise_append.2 ⟨h.filter _, List.pairwise_cons.2 ⟨fun y hy => ?_, h.filter _⟩, fun a ha b hb => ?_⟩
  · have h1 := List.mem_filter.1 hy
    have h2 := hne y h1.1
    have h3 : ¬ o y < o x := by simpa using h1.2
    omega
  · have h1 := List.mem_filter.1 ha
    have h2 : o a < o x := by simpa using h1.2
    rcases List.mem_cons.1 hb with rfl | hb
    · exact h2
    · have h3 := List.mem_filter.1 hb
      have h4 : ¬ o b < o x := by simpa using h3.2
      omega
theorem Stands.push {o : Ele → Nat} {H H' M : List Ele} {x : Ele} (h : Stands o H M) (hp : H'.Perm (H ++ [x])) (hh : IsHeap o H' H'.length) (hne : ∀ y ∈ M, o y ≠ o x) : Stands o H' (insQ o M x) :=
  ⟨hh, insQ_sorted o M x h.sorted hne, (insQ_perm o M x).trans ((h.perm.append_right [x]).trans hp.symm)⟩
theorem Stands.pop {o : Ele → Nat} {H H' M : List Ele} {x : Ele} (h : Stands o H (x :: M)) (hp : (H' ++ [x]).Perm H) (hh : IsHeap o H' H'.length) : Stands o H' M :=
  ⟨hh, (List.pairwise_cons.1 h.sorted).2, by
    have h1 : (x :: M).Perm (x :: H') := h.perm.trans (hp.symm.trans (List.perm_append_singleton x H'))
    exact h1.cons_inv⟩
end Go.Proofs.YtafmnkngjjnpiaaGreatDoor

namespace Go.Proofs.YtafmnkngjjnpiaaGreatDoor
set_option linter.unusedVariables false
set_option maxRecDepth 100000
open Go.RowKit
def oE (x : Ele) : Nat := keyF x.1 * 9223372036854775808 + x.2.2.toNat
def ElesAt (w : World) (g : Nat) (H : List Ele) : Prop :=
  ∀ k, k < H.length → w.cell? ⟨g, k * 3, none⟩ = some (.float .f64 (H.getD k default).1) ∧ w.cell? ⟨g, k * 3 + 1, none⟩ = some (.int .i64 (H.getD k default).2.1) ∧ w.cell? ⟨g, k * 3 + 2, none⟩ = some (.int .i64 (H.getD k default).2.2)
def EleOk (x : Ele) : Prop := Wd x.1 ∧ 0 ≤ x.2.2 ∧ x.2.2 < 4611686018427387904
theorem len_any (v : Option Addr) (n c : Nat) (w : World) :
    Calls Tryz.prog 241 #[.slice v n c] w fun e w' => e = .returned (.int .i64 n) ∧ w = w' := by
  go_enter Tryz.func241, Tryz.ntmps241
  go_wp2_with fail
  go_ret
  exact ⟨rfl, rfl⟩
set_option maxHeartbeats 1000000 in
theorem less_any (g n c : Nat) (H : List Ele) (i k : Nat) (w : World) (h : ElesAt w g H) (hn : H.length = n) (hi : i < n) (hk : k < n) (xi : EleOk (H.getD i default)) (yk : EleOk (H.getD k default)) :
    Calls Tryz.prog 242 #[.slice (some ⟨g, 0, none⟩) n c, .int .i64 i, .int .i64 k] w fun e w' => e = .returned (.bool (decide (oE (H.getD i default) < oE (H.getD k default)))) ∧ Chg [] w w' := by
  obtain ⟨a0, a1, a2⟩ := h i (by omega)
  obtain ⟨b0, b1, b2⟩ := h k (by omega)
  have f1 : (i : Int) < (n : Int) := by omega
  have f2 : (k : Int) < (n : Int) := by omega
  generalize H.getD i default = x at *
  generalize H.getD k default = y at *
  obtain ⟨xb, xn, xa⟩ := x
  obtain ⟨yb, yn, ya⟩ := y
  obtain ⟨x1, x2, x3⟩ := xi
  obtain ⟨y1, y2, y3⟩ := yk
  dsimp only at a0 a1 a2 b0 b1 b2 x1 x2 x3 y1 y2 y3
  obtain ⟨xa, rfl⟩ := Int.eq_ofNat_of_zero_le x2
  obtain ⟨ya, rfl⟩ := Int.eq_ofNat_of_zero_le y2
  have hxa : xa < 4611686018427387904 := by omega
  have hya : ya < 4611686018427387904 := by omega
  have hv : decide (oE (xb, xn, (xa : Int)) < oE (yb, yn, (ya : Int))) = (if cmpF xb yb = 0 then decide (xa < ya) else decide (cmpF xb yb < 0)) := by
    unfold oE
    dsimp only
    rw [Int.toNat_natCast, Int.toNat_natCast]
    rcases cmpF_tri xb yb with ⟨h1, h2⟩ | ⟨h1, h2⟩ | ⟨h1, h2⟩
    · rw [h2, if_neg (by decide)]
      rw [decide_eq_true (by omega : keyF xb * 9223372036854775808 + xa < keyF yb * 9223372036854775808 + ya)]; rfl
    · rw [h2, if_pos rfl, h1]
      by_cases h3 : xa < ya
      · rw [decide_eq_true (by omega), decide_eq_true (by omega)]
      · rw [decide_eq_false (by omega), decide_eq_false (by omega)]
    · rw [h2, if_neg (by decide)]
      rw [decide_eq_false (by omega : ¬ keyF xb * 9223372036854775808 + xa < keyF yb * 9223372036854775808 + ya)]; rfl
  rw [hv]
  clear hv x2 x3 y2 y3 hxa hya
  have HX := Lib.hid x1
  have HY := Lib.hid y1
  clear x1 y1
  by_cases hc : cmpF xb yb = 0
  · rw [if_pos hc]
    go_enter Tryz.func242, Tryz.ntmps242
    go_wp2_with fail
    go_quiet ((go_at_call 244; exact quiet_same (compare_any _ _ _ HX.out HY.out)))
    go_wp2_with fail
    go_quiet (fail)
    go_wp2_with fail
    go_ret
    exact ⟨rfl, ((Chg.refl _ _).drewN _).drewN _⟩
  · rw [if_neg hc]
    go_enter Tryz.func242, Tryz.ntmps242
    go_wp2_with fail
    go_quiet ((go_at_call 244; exact quiet_same (compare_any _ _ _ HX.out HY.out)))
    go_wp2_with fail
    all_goals (go_ret; exact ⟨rfl, (Chg.refl _ _).drewN _⟩)
end Go.Proofs.YtafmnkngjjnpiaaGreatDoor

namespace Go.Proofs.YtafmnkngjjnpiaaGreatDoor
set_option linter.unusedVariables false
set_option maxRecDepth 100000
open Go.RowKit
def RowAt (w : World) (g : Nat) (H : List Ele) (cur : Array Value) : Prop :=
  w.heap[g]? = some (.cells cur 252 (0, 0)) ∧ ∀ k, k < H.length → cur[k * 3]? = some (.float .f64 (H.getD k default).1) ∧ cur[k * 3 + 1]? = some (.int .i64 (H.getD k default).2.1) ∧ cur[k * 3 + 2]? = some (.int .i64 (H.getD k default).2.2)
theorem RowAt.eles {w : World} {g : Nat} {H : List Ele} {cur : Array Value} (h : RowAt w g H cur) : ElesAt w g H := fun k hk =>
  ⟨by rw [cell_of_heap h.1]; exact (h.2 k hk).1, by rw [cell_of_heap h.1]; exact (h.2 k hk).2.1, by rw [cell_of_heap h.1]; exact (h.2 k hk).2.2⟩
def put3 (cur : Array Value) (j : Nat) (x : Ele) : Array Value := ((cur.setIfInBounds (j * 3) (.float .f64 x.1)).setIfInBounds (j * 3 + 1) (.int .i64 x.2.1)).setIfInBounds (j * 3 + 2) (.int .i64 x.2.2)
theorem put3_size (cur : Array Value) (j : Nat) (x : Ele) : (put3 cur j x).size = cur.size := by simp [put3]
theorem put3_get (cur : Array Value) (j k : Nat) (x : Ele) (r : Nat) (hr : r < 3) (hs : j * 3 + 2 < cur.size) :
    (put3 cur j x)[k * 3 + r]? = if k = j then some (if r = 0 then .float .f64 x.1 else if r = 1 then .int .i64 x.2.1 else .int .i64 x.2.2) else cur[k * 3 + r]? := by
  unfold put3
  simp only [Array.getElem?_setIfInBounds, Array.size_setIfInBounds]
  by_cases hkj : k = j
  · subst hkj
    rw [if_pos rfl]
    rcases (by omega : r = 0 ∨ r = 1 ∨ r = 2) with h | h | h <;> subst h
    · rw [if_neg (by omega), if_neg (by omega), if_pos (by omega), if_pos (by omega)]; rfl
    · rw [if_neg (by omega), if_pos (by omega), if_pos (by omega)]; rfl
    · rw [if_pos (by omega), if_pos (by omega)]; rfl
  · rw [if_neg hkj, if_neg (by omega), if_neg (by omega), if_neg (by omega)]
theorem RowAt.size {w : World} {g : Nat} {H : List Ele} {cur : Array Value} (h : RowAt w g H cur) {j : Nat} (hj : j < H.length) : j * 3 + 2 < cur.size := by
  have := (h.2 j hj).2.2
  exact (Array.getElem?_eq_some_iff.1 this).1
theorem swap_end {w : World} {g : Nat} {H : List Ele} {cur : Array Value} {i k : Nat} (h : RowAt w g H cur) (hi : i < H.length) (hk : k < H.length) (w' : World)
    (hw : w'.heap[g]? = some (.cells (put3 (put3 cur i (H.getD k default)) k (H.getD i default)) 252 (0, 0))) : RowAt w' g (swapH H i k) (put3 (put3 cur i (H.getD k default)) k (H.getD i default)) := by
  refine ⟨hw, fun j hj => ?_⟩
  rw [swapH_length] at hj
  have si := h.size hi
  have sk := h.size hk
  have hcur := h.2 j hj
  have e : ∀ r, r < 3 → (put3 (put3 cur i (H.getD k default)) k (H.getD i default))[j * 3 + r]? = if j = k then some (if r = 0 then .float .f64 (H.getD i default).1 else if r = 1 then .int .i64 (H.getD i default).2.1 else .int .i64 (H.getD i default).2.2) else if j = i then some (if r = 0 then .float .f64 (H.getD k default).1 else if r = 1 then .int .i64 (H.getD k default).2.1 else .int .i64 (H.getD k default).2.2) else cur[j * 3 + r]? := fun r hr => by
    rw [put3_get _ _ _ _ r hr (by rw [put3_size]; exact sk), put3_get _ _ _ _ r hr si]
  rw [swapH_get _ _ _ _ hi hk]
  have e0 := e 0 (by omega)
  have e1 := e 1 (by omega)
  have e2 := e 2 (by omega)
  rw [Nat.add_zero] at e0
  rw [e0, e1, e2]
  by_cases c1 : j = k
  · subst c1; simp
  · by_cases c2 : j = i
    · subst c2; simp [c1]
    · simp only [if_neg c1, if_neg c2]; exact hcur
theorem swap_post {w : World} {g : Nat} {H : List Ele} {cur : Array Value} {i k : Nat} (h : RowAt w g H cur) (hi : i < H.length) (hk : k < H.length) (x y : Ele) (hx : x = H.getD i default) (hy : y = H.getD k default) :
    Chg [g] w ((((((w.setCell ⟨g, i * 3, none⟩ (.float .f64 y.1)).setCell ⟨g, i * 3 + 1, none⟩ (.int .i64 y.2.1)).setCell ⟨g, i * 3 + 2, none⟩ (.int .i64 y.2.2)).setCell ⟨g, k * 3, none⟩ (.float .f64 x.1)).setCell ⟨g, k * 3 + 1, none⟩ (.int .i64 x.2.1)).setCell ⟨g, k * 3 + 2, none⟩ (.int .i64 x.2.2)).drew ∧
      ∃ cur', RowAt ((((((w.setCell ⟨g, i * 3, none⟩ (.float .f64 y.1)).setCell ⟨g, i * 3 + 1, none⟩ (.int .i64 y.2.1)).setCell ⟨g, i * 3 + 2, none⟩ (.int .i64 y.2.2)).setCell ⟨g, k * 3, none⟩ (.float .f64 x.1)).setCell ⟨g, k * 3 + 1, none⟩ (.int .i64 x.2.1)).setCell ⟨g, k * 3 + 2, none⟩ (.int .i64 x.2.2)).drew g (swapH H i k) cur' ∧ cur'.size = cur.size := by
  have e1 := setCell_heap (i := i * 3) (.float .f64 y.1) h.1
  have e2 := setCell_heap (i := i * 3 + 1) (.int .i64 y.2.1) e1
  have e3 := setCell_heap (i := i * 3 + 2) (.int .i64 y.2.2) e2
  have e4 := setCell_heap (i := k * 3) (.float .f64 x.1) e3
  have e5 := setCell_heap (i := k * 3 + 1) (.int .i64 x.2.1) e4
  have e6 := setCell_heap (i := k * 3 + 2) (.int .i64 x.2.2) e5
  have C1 : Chg [g] w (w.setCell ⟨g, i * 3, none⟩ (.float .f64 y.1)) := (Chg.refl [g] w).setCell (Or.inl List.mem_cons_self) _
  have C2 := C1.setCell (p := ⟨g, i * 3 + 1, none⟩) (Or.inl List.mem_cons_self) (.int .i64 y.2.1)
  have C3 := C2.setCell (p := ⟨g, i * 3 + 2, none⟩) (Or.inl List.mem_cons_self) (.int .i64 y.2.2)
  have C4 := C3.setCell (p := ⟨g, k * 3, none⟩) (Or.inl List.mem_cons_self) (.float .f64 x.1)
  have C5 := C4.setCell (p := ⟨g, k * 3 + 1, none⟩) (Or.inl List.mem_cons_self) (.int .i64 x.2.1)
  have C6 := C5.setCell (p := ⟨g, k * 3 + 2, none⟩) (Or.inl List.mem_cons_self) (.int .i64 x.2.2)
  generalize (((((w.setCell ⟨g, i * 3, none⟩ (.float .f64 y.1)).setCell ⟨g, i * 3 + 1, none⟩ (.int .i64 y.2.1)).setCell ⟨g, i * 3 + 2, none⟩ (.int .i64 y.2.2)).setCell ⟨g, k * 3, none⟩ (.float .f64 x.1)).setCell ⟨g, k * 3 + 1, none⟩ (.int .i64 x.2.1)).setCell ⟨g, k * 3 + 2, none⟩ (.int .i64 x.2.2) = w6 at *
  refine ⟨C6.drew, put3 (put3 cur i y) k x, ?_, by rw [put3_size, put3_size]⟩
  subst hx hy
  exact swap_end h hi hk w6.drew e6
theorem run_store_float (P : Program) (w : World) (a : Addr) (k : FloatKind) (b : Nat) (m : Mode) : (store a (.float k b) m).run P w = stored P w a (.float k b) m := run_store P w a _ m rfl
attribute [local go_sem] run_store_float
set_option maxHeartbeats 1000000 in
theorem swap_any (g n c : Nat) (H : List Ele) (cur : Array Value) (i k : Nat) (w : World) (h : RowAt w g H cur) (hn : H.length = n) (hi : i < n) (hk : k < n) :
    Calls Tryz.prog 243 #[.slice (some ⟨g, 0, none⟩) n c, .int .i64 i, .int .i64 k] w fun e w' => e = .returned (.tuple #[]) ∧ Chg [g] w w' ∧ ∃ cur', RowAt w' g (swapH H i k) cur' ∧ cur'.size = cur.size := by
  obtain ⟨a0, a1, a2⟩ := h.eles i (by omega)
  obtain ⟨b0, b1, b2⟩ := h.eles k (by omega)
  have f1 : (i : Int) < (n : Int) := by omega
  have f2 : (k : Int) < (n : Int) := by omega
  have g0 := free_of_heap h.1 (i * 3)
  have g1 := free_of_heap h.1 (i * 3 + 1)
  have g2 := free_of_heap h.1 (i * 3 + 2)
  have k0 := free_of_heap h.1 (k * 3)
  have k1 := free_of_heap h.1 (k * 3 + 1)
  have k2 := free_of_heap h.1 (k * 3 + 2)
  obtain ⟨x, hx⟩ : ∃ x, x = H.getD i default := ⟨_, rfl⟩
  obtain ⟨y, hy⟩ : ∃ y, y = H.getD k default := ⟨_, rfl⟩
  rw [← hx] at a0 a1 a2
  rw [← hy] at b0 b1 b2
  have HX := Lib.hid hx
  have HY := Lib.hid hy
  have HH := Lib.hid h
  have HN := Lib.hid hn
  clear hx hy h hn
  by_cases hik : i = k
  · subst hik
    have hxy : x = y := by rw [HX.out, HY.out]
    subst hxy
    go_enter Tryz.func243, Tryz.ntmps243
    go_wp2_with fail
    go_region
    all_goals go_wp2_with fail
    all_goals (go_end0; exact ⟨rfl, swap_post HH.out (by rw [HN.out]; exact hi) (by rw [HN.out]; exact hk) _ _ HX.out HY.out⟩)
  · have d0 : ¬ i * 3 = k * 3 := by omega
    have d1 : ¬ i * 3 = k * 3 + 1 := by omega
    have d2 : ¬ i * 3 = k * 3 + 2 := by omega
    have d3 : ¬ i * 3 + 1 = k * 3 := by omega
    have d4 : ¬ i * 3 + 1 = k * 3 + 1 := by omega
    have d5 : ¬ i * 3 + 1 = k * 3 + 2 := by omega
    have d6 : ¬ i * 3 + 2 = k * 3 := by omega
    have d7 : ¬ i * 3 + 2 = k * 3 + 1 := by omega
    have d8 : ¬ i * 3 + 2 = k * 3 + 2 := by omega
    go_enter Tryz.func243, Tryz.ntmps243
    go_wp2_with fail
    go_region
    all_goals go_wp2_with fail
    all_goals (go_end0; exact ⟨rfl, swap_post HH.out (by rw [HN.out]; exact hi) (by rw [HN.out]; exact hk) _ _ HX.out HY.out⟩)
end Go.Proofs.YtafmnkngjjnpiaaGreatDoor

namespace Go.Proofs.YtafmnkngjjnpiaaGreatDoor
set_option maxRecDepth 100000
set_option linter.unusedVariables false
open Go.RowKit
theorem RowAt.chg {w w' : World} {g : Nat} {H : List Ele} {cur : Array Value} {S : List Nat} (h : RowAt w g H cur) (c : Chg S w w') (hg : g ∉ S) : RowAt w' g H cur := ⟨c.heap h.1 hg, h.2⟩
theorem getD_ok {H : List Ele} (h : ∀ x ∈ H, EleOk x) {k : Nat} (hk : k < H.length) : EleOk (H.getD k default) := h _ (getD_mem H k hk)
set_option maxHeartbeats 2000000 in
theorem up_any (bQ g n c : Nat) (H : List Ele) (cur : Array Value) (j : Nat) (p : Value) (w : World) (hb : w.heap[bQ]? = some (.cells #[.slice (some ⟨g, 0, none⟩) n c, p] 241 (0, 0))) (hne : bQ ≠ g)
    (h : RowAt w g H cur) (hn : H.length = n) (hu : UpInv oE H n j) (hj : j < n) (hok : ∀ x ∈ H, EleOk x) (hbig : n ≤ 1000000) :
    Calls Tryz.prog 170 #[.iface 250 (.pointer (some ⟨bQ, 0, none⟩)), .int .i64 j] w fun e w' => e = .returned (.tuple #[]) ∧ Chg [g] w w' ∧ ∃ H' cur', RowAt w' g H' cur' ∧ cur'.size = cur.size ∧ H'.Perm H ∧ IsHeap oE H' n := by
  have hML := fun w' v h => method_Less ⟨bQ, 0, none⟩ v w' h
  have hMS := fun w' v h => method_Swap ⟨bQ, 0, none⟩ v w' h
  go_enter Tryz.func170, Tryz.ntmps170
  go_wp2_with fail
  go_loopw [1] (fun i wr => ∃ (k : Nat) (H1 : List Ele) (cur1 : Array Value), k < n ∧ i = .int .i64 k ∧ RowAt wr g H1 cur1 ∧ cur1.size = cur.size ∧ H1.Perm H ∧ UpInv oE H1 n k ∧ Chg [g] w wr) (fun i _ => (intOf i).toNat)
  case atStart => exact ⟨j, H, cur, hj, rfl, h, rfl, List.Perm.refl _, hu, Chg.refl _ _⟩
  case round =>
    obtain ⟨k, H1, cur1, hk, rfl, hr, hs, hp, hu1, hc⟩ := hrel
    have hl : H1.length = n := by rw [hp.length_eq]; exact hn
    have hc0 : wr.cell? ⟨bQ, 0, none⟩ = some (.slice (some ⟨g, 0, none⟩) n c) := by rw [cell_of_heap (hc.heap hb (by simpa using hne))]; rfl
    have HS := Lib.hid hs
    have HL := Lib.hid hl
    have HN := Lib.hid hn
    have HU := Lib.hid hu1
    have HP := Lib.hid hp
    clear hs hl hu1 hp hn hu hb
    by_cases h0 : k = 0
    · subst h0
      go_wp2_with fail
      go_end0
      exact ⟨rfl, hc, H1, cur1, hr, HS.out, HP.out, up_done _ _ _ _ HU.out (.inl rfl)⟩
    · have h1 : 1 ≤ k := by omega
      have hq : ((k : Int) - 1) / 2 = (((k - 1) / 2 : Nat) : Int) := by omega
      have hqn : (k - 1) / 2 < n := by omega
      have hqk : (k - 1) / 2 < k := by omega
      have hok1 : ∀ x ∈ H1, EleOk x := fun x hx => hok x (HP.out.mem_iff.1 hx)
      have x1 := getD_ok hok1 (k := k) (by rw [HL.out]; exact hk)
      have x2 := getD_ok hok1 (k := (k - 1) / 2) (by rw [HL.out]; exact hqn)
      by_cases hd : oE (H1.getD k default) < oE (H1.getD ((k - 1) / 2) default)
      · have hd' := Lib.hid (decide_eq_true hd)
        have HD := Lib.hid hd
        have HQ := Lib.hid hq
        clear hd hq
        go_wp2_with fail
        rw [HQ.out]
        refine (less_any g n c H1 k ((k - 1) / 2) _ hr.eles HL.out hk hqn x1 x2).mono ?_
        rintro e w1 ⟨rfl, C1⟩
        rw [hd'.out]
        have hc1 := C1.cell hc0 (by simp)
        have hr1 := hr.chg C1 (by simp)
        go_wp2_with fail
        refine (swap_any g n c H1 cur1 ((k - 1) / 2) k _ hr1 HL.out hqn hk).mono ?_
        rintro e w2 ⟨rfl, C2, cur2, hr2, hs2⟩
        have HS2 := Lib.hid hs2
        clear hs2
        go_wp2_with fail
        go_roundw
        case rel => exact ⟨(k - 1) / 2, swapH H1 ((k - 1) / 2) k, cur2, hqn, rfl, hr2, by rw [HS2.out, HS.out], (swapH_perm _ _ _ (by rw [HL.out]; exact hqn) (by rw [HL.out]; exact hk)).trans HP.out,
          by have := up_step oE H1 k (by rw [HL.out]; exact HU.out) (by rw [HL.out]; exact hk) (by omega) HD.out; rwa [HL.out] at this, (hc.trans C1 (U := [g]) (by simp) (by simp)).trans C2 (by simp) (by simp)⟩
        case measure => simp [intOf]; omega
      · have hd' := Lib.hid (decide_eq_false hd)
        have HD := Lib.hid hd
        have HQ := Lib.hid hq
        clear hd hq
        go_wp2_with fail
        rw [HQ.out]
        refine (less_any g n c H1 k ((k - 1) / 2) _ hr.eles HL.out hk hqn x1 x2).mono ?_
        rintro e w1 ⟨rfl, C1⟩
        rw [hd'.out]
        go_wp2_with fail
        go_end0
        exact ⟨rfl, hc.trans C1 (by simp) (by simp), H1, cur1, hr.chg C1 (by simp), HS.out, HP.out, up_done _ _ _ _ HU.out (.inr (by have := HD.out; omega))⟩
end Go.Proofs.YtafmnkngjjnpiaaGreatDoor

namespace Go.Proofs.YtafmnkngjjnpiaaGreatDoor
set_option maxRecDepth 100000
set_option linter.unusedVariables false
open Go.RowKit
def DownPost (g n : Nat) (H : List Ele) (cur : Array Value) (w : World) (e : Ending) (w' : World) : Prop :=
  ∃ b H' cur', e = .returned (.bool b) ∧ Chg [g] w w' ∧ RowAt w' g H' cur' ∧ cur'.size = cur.size ∧ H'.Perm H ∧ IsHeap oE H' n ∧ ∀ k, n ≤ k → H'.getD k default = H.getD k default
set_option maxHeartbeats 8000000 in
theorem down_any (bQ g L c : Nat) (H : List Ele) (cur : Array Value) (i0 n : Nat) (p : Value) (w : World) (hb : w.heap[bQ]? = some (.cells #[.slice (some ⟨g, 0, none⟩) L c, p] 241 (0, 0))) (hne : bQ ≠ g)
    (h : RowAt w g H cur) (hn : H.length = L) (hnl : n ≤ L) (hu : DownInv oE H n i0) (hi0 : i0 ≤ n) (hok : ∀ x ∈ H, EleOk x) (hbig : L ≤ 1000000) :
    Calls Tryz.prog 214 #[.iface 250 (.pointer (some ⟨bQ, 0, none⟩)), .int .i64 i0, .int .i64 n] w (DownPost g n H cur w) := by
  have hML := fun w' v h => method_Less ⟨bQ, 0, none⟩ v w' h
  have hMS := fun w' v h => method_Swap ⟨bQ, 0, none⟩ v w' h
  go_enter Tryz.func214, Tryz.ntmps214
  go_wp2_with fail
  go_loopw [7] (fun i wr => ∃ (k : Nat) (H1 : List Ele) (cur1 : Array Value), k ≤ n ∧ i = .int .i64 k ∧ RowAt wr g H1 cur1 ∧ cur1.size = cur.size ∧ H1.Perm H ∧ DownInv oE H1 n k ∧ (∀ m, n ≤ m → H1.getD m default = H.getD m default) ∧ Chg [g] w wr) (fun i _ => n - (intOf i).toNat)
  case atStart => exact ⟨i0, H, cur, hi0, rfl, h, rfl, List.Perm.refl _, hu, fun _ _ => rfl, Chg.refl _ _⟩
  case round =>
    obtain ⟨i, H1, cur1, hi, rfl, hr, hs, hp, hu1, ht, hc⟩ := hrel
    have hl : H1.length = L := by rw [hp.length_eq]; exact hn
    have hc0 : wr.cell? ⟨bQ, 0, none⟩ = some (.slice (some ⟨g, 0, none⟩) L c) := by rw [cell_of_heap (hc.heap hb (by simpa using hne))]; rfl
    have HS := Lib.hid hs
    have HL := Lib.hid hl
    have HN := Lib.hid hn
    have HU := Lib.hid hu1
    have HP := Lib.hid hp
    have HT := Lib.hid ht
    clear hs hl hu1 hp hn hu hb ht
    by_cases hA : n ≤ 2 * i + 1
    · go_wp2_with fail
      go_ret
      exact ⟨_, H1, cur1, rfl, hc, hr, HS.out, HP.out, down_done _ _ _ _ HU.out (fun k h0 hk hp => by omega), HT.out⟩
    · have HQ1 := Lib.hid (show (2 : Int) * (i : Int) + 1 = ((2 * i + 1 : Nat) : Int) by omega)
      have HQ2 := Lib.hid (show (2 : Int) * (i : Int) + 1 + 1 = ((2 * i + 2 : Nat) : Int) by omega)
      have hok1 : ∀ x ∈ H1, EleOk x := fun x hx => hok x (HP.out.mem_iff.1 hx)
      have x0 := getD_ok hok1 (k := i) (by rw [HL.out]; omega)
      have x1 := getD_ok hok1 (k := 2 * i + 1) (by rw [HL.out]; omega)
      by_cases hB : 2 * i + 2 < n
      · have x2 := getD_ok hok1 (k := 2 * i + 2) (by rw [HL.out]; omega)
        clear hok1
        by_cases hs2 : oE (H1.getD (2 * i + 2) default) < oE (H1.getD (2 * i + 1) default)
        · have hmin := Lib.hid (show ∀ k, 0 < k → k < n → (k - 1) / 2 = i → oE (H1.getD (2 * i + 2) default) ≤ oE (H1.getD k default) from fun k h0 hk hp => by
            rcases (by omega : k = 2 * i + 1 ∨ k = 2 * i + 2) with h | h <;> subst h <;> omega)
          have hs' := Lib.hid (decide_eq_true hs2)
          clear hs2
          by_cases hd : oE (H1.getD (2 * i + 2) default) < oE (H1.getD i default)
          · have hd' := Lib.hid (decide_eq_true hd)
            have HD := Lib.hid hd
            clear hd
            go_wp2_with fail
            rw [HQ2.out, HQ1.out]
            refine (less_any g L c H1 (2 * i + 2) (2 * i + 1) _ hr.eles HL.out (by omega) (by omega) x2 x1).mono ?_
            rintro e w0 ⟨rfl, C0⟩
            rw [hs'.out]
            have hc0' := C0.cell hc0 (by simp)
            have hr0 := hr.chg C0 (by simp)
            have D0 : Chg [g] w w0 := hc.trans C0 (by simp) (by simp)
            go_wp2_with fail
            refine (less_any g L c H1 (2 * i + 2) i _ hr0.eles HL.out (by omega) (by omega) x2 x0).mono ?_
            rintro e w1 ⟨rfl, C1⟩
            rw [hd'.out]
            have hc1 := C1.cell hc0' (by simp)
            have hr1 := hr0.chg C1 (by simp)
            have D1 : Chg [g] w w1 := D0.trans C1 (by simp) (by simp)
            go_wp2_with fail
            refine (swap_any g L c H1 cur1 i (2 * i + 2) _ hr1 HL.out (by omega) (by omega)).mono ?_
            rintro e w2 ⟨rfl, C2, cur2, hr2, hs2⟩
            have HS2 := Lib.hid hs2
            clear hs2
            go_wp2_with fail
            go_roundw
            case rel => exact ⟨2 * i + 2, swapH H1 i (2 * i + 2), cur2, by omega, rfl, hr2, by rw [HS2.out, HS.out], (swapH_perm _ _ _ (by rw [HL.out]; omega) (by rw [HL.out]; omega)).trans HP.out, down_step oE H1 n i (2 * i + 2) HU.out (by rw [HL.out]; exact hnl) (by omega) (by omega) (by omega) (hmin.out) HD.out, fun k hk => by rw [swapH_get _ _ _ _ (by rw [HL.out]; omega) (by rw [HL.out]; omega), if_neg (by omega), if_neg (by omega)]; exact HT.out k hk, D1.trans C2 (by simp) (by simp)⟩
            case measure => simp [intOf]; omega
          · have hd' := Lib.hid (decide_eq_false hd)
            have HD := Lib.hid hd
            clear hd
            go_wp2_with fail
            rw [HQ2.out, HQ1.out]
            refine (less_any g L c H1 (2 * i + 2) (2 * i + 1) _ hr.eles HL.out (by omega) (by omega) x2 x1).mono ?_
            rintro e w0 ⟨rfl, C0⟩
            rw [hs'.out]
            have hc0' := C0.cell hc0 (by simp)
            have hr0 := hr.chg C0 (by simp)
            have D0 : Chg [g] w w0 := hc.trans C0 (by simp) (by simp)
            go_wp2_with fail
            refine (less_any g L c H1 (2 * i + 2) i _ hr0.eles HL.out (by omega) (by omega) x2 x0).mono ?_
            rintro e w1 ⟨rfl, C1⟩
            rw [hd'.out]
            have hc1 := C1.cell hc0' (by simp)
            have hr1 := hr0.chg C1 (by simp)
            have D1 : Chg [g] w w1 := D0.trans C1 (by simp) (by simp)
            go_wp2_with fail
            go_ret
            exact ⟨_, H1, cur1, rfl, D1, hr1, HS.out, HP.out, down_done _ _ _ _ HU.out (fun k h0 hk hp => by have h1 := hmin.out k h0 hk hp; have h2 := HD.out; omega), HT.out⟩
        · have hmin := Lib.hid (show ∀ k, 0 < k → k < n → (k - 1) / 2 = i → oE (H1.getD (2 * i + 1) default) ≤ oE (H1.getD k default) from fun k h0 hk hp => by
            rcases (by omega : k = 2 * i + 1 ∨ k = 2 * i + 2) with h | h <;> subst h <;> omega)
          have hs' := Lib.hid (decide_eq_false hs2)
          clear hs2
          by_cases hd : oE (H1.getD (2 * i + 1) default) < oE (H1.getD i default)
          · have hd' := Lib.hid (decide_eq_true hd)
            have HD := Lib.hid hd
            clear hd
            go_wp2_with fail
            rw [HQ2.out, HQ1.out]
            refine (less_any g L c H1 (2 * i + 2) (2 * i + 1) _ hr.eles HL.out (by omega) (by omega) x2 x1).mono ?_
            rintro e w0 ⟨rfl, C0⟩
            rw [hs'.out]
            have hc0' := C0.cell hc0 (by simp)
            have hr0 := hr.chg C0 (by simp)
            have D0 : Chg [g] w w0 := hc.trans C0 (by simp) (by simp)
            go_wp2_with fail
            refine (less_any g L c H1 (2 * i + 1) i _ hr0.eles HL.out (by omega) (by omega) x1 x0).mono ?_
            rintro e w1 ⟨rfl, C1⟩
            rw [hd'.out]
            have hc1 := C1.cell hc0' (by simp)
            have hr1 := hr0.chg C1 (by simp)
            have D1 : Chg [g] w w1 := D0.trans C1 (by simp) (by simp)
            go_wp2_with fail
            refine (swap_any g L c H1 cur1 i (2 * i + 1) _ hr1 HL.out (by omega) (by omega)).mono ?_
            rintro e w2 ⟨rfl, C2, cur2, hr2, hs2⟩
            have HS2 := Lib.hid hs2
            clear hs2
            go_wp2_with fail
            go_roundw
            case rel => exact ⟨2 * i + 1, swapH H1 i (2 * i + 1), cur2, by omega, rfl, hr2, by rw [HS2.out, HS.out], (swapH_perm _ _ _ (by rw [HL.out]; omega) (by rw [HL.out]; omega)).trans HP.out, down_step oE H1 n i (2 * i + 1) HU.out (by rw [HL.out]; exact hnl) (by omega) (by omega) (by omega) (hmin.out) HD.out, fun k hk => by rw [swapH_get _ _ _ _ (by rw [HL.out]; omega) (by rw [HL.out]; omega), if_neg (by omega), if_neg (by omega)]; exact HT.out k hk, D1.trans C2 (by simp) (by simp)⟩
            case measure => simp [intOf]; omega
          · have hd' := Lib.hid (decide_eq_false hd)
            have HD := Lib.hid hd
            clear hd
            go_wp2_with fail
            rw [HQ2.out, HQ1.out]
            refine (less_any g L c H1 (2 * i + 2) (2 * i + 1) _ hr.eles HL.out (by omega) (by omega) x2 x1).mono ?_
            rintro e w0 ⟨rfl, C0⟩
            rw [hs'.out]
            have hc0' := C0.cell hc0 (by simp)
            have hr0 := hr.chg C0 (by simp)
            have D0 : Chg [g] w w0 := hc.trans C0 (by simp) (by simp)
            go_wp2_with fail
            refine (less_any g L c H1 (2 * i + 1) i _ hr0.eles HL.out (by omega) (by omega) x1 x0).mono ?_
            rintro e w1 ⟨rfl, C1⟩
            rw [hd'.out]
            have hc1 := C1.cell hc0' (by simp)
            have hr1 := hr0.chg C1 (by simp)
            have D1 : Chg [g] w w1 := D0.trans C1 (by simp) (by simp)
            go_wp2_with fail
            go_ret
            exact ⟨_, H1, cur1, rfl, D1, hr1, HS.out, HP.out, down_done _ _ _ _ HU.out (fun k h0 hk hp => by have h1 := hmin.out k h0 hk hp; have h2 := HD.out; omega), HT.out⟩
      · clear hok1
        have hmin := Lib.hid (show ∀ k, 0 < k → k < n → (k - 1) / 2 = i → oE (H1.getD (2 * i + 1) default) ≤ oE (H1.getD k default) from fun k h0 hk hp => by
          obtain rfl : k = 2 * i + 1 := by omega
          exact Nat.le_refl _)
        by_cases hd : oE (H1.getD (2 * i + 1) default) < oE (H1.getD i default)
        · have hd' := Lib.hid (decide_eq_true hd)
          have HD := Lib.hid hd
          clear hd
          go_wp2_with fail
          rw [HQ1.out]
          have hc0' := hc0
          have hr0 := hr
          have D0 := hc
          refine (less_any g L c H1 (2 * i + 1) i _ hr0.eles HL.out (by omega) (by omega) x1 x0).mono ?_
          rintro e w1 ⟨rfl, C1⟩
          rw [hd'.out]
          have hc1 := C1.cell hc0' (by simp)
          have hr1 := hr0.chg C1 (by simp)
          have D1 : Chg [g] w w1 := D0.trans C1 (by simp) (by simp)
          go_wp2_with fail
          refine (swap_any g L c H1 cur1 i (2 * i + 1) _ hr1 HL.out (by omega) (by omega)).mono ?_
          rintro e w2 ⟨rfl, C2, cur2, hr2, hs2⟩
          have HS2 := Lib.hid hs2
          clear hs2
          go_wp2_with fail
          go_roundw
          case rel => exact ⟨2 * i + 1, swapH H1 i (2 * i + 1), cur2, by omega, rfl, hr2, by rw [HS2.out, HS.out], (swapH_perm _ _ _ (by rw [HL.out]; omega) (by rw [HL.out]; omega)).trans HP.out, down_step oE H1 n i (2 * i + 1) HU.out (by rw [HL.out]; exact hnl) (by omega) (by omega) (by omega) (hmin.out) HD.out, fun k hk => by rw [swapH_get _ _ _ _ (by rw [HL.out]; omega) (by rw [HL.out]; omega), if_neg (by omega), if_neg (by omega)]; exact HT.out k hk, D1.trans C2 (by simp) (by simp)⟩
          case measure => simp [intOf]; omega
        · have hd' := Lib.hid (decide_eq_false hd)
          have HD := Lib.hid hd
          clear hd
          go_wp2_with fail
          rw [HQ1.out]
          have hc0' := hc0
          have hr0 := hr
          have D0 := hc
          refine (less_any g L c H1 (2 * i + 1) i _ hr0.eles HL.out (by omega) (by omega) x1 x0).mono ?_
          rintro e w1 ⟨rfl, C1⟩
          rw [hd'.out]
          have hc1 := C1.cell hc0' (by simp)
          have hr1 := hr0.chg C1 (by simp)
          have D1 : Chg [g] w w1 := D0.trans C1 (by simp) (by simp)
          go_wp2_with fail
          go_ret
          exact ⟨_, H1, cur1, rfl, D1, hr1, HS.out, HP.out, down_done _ _ _ _ HU.out (fun k h0 hk hp => by have h1 := hmin.out k h0 hk hp; have h2 := HD.out; omega), HT.out⟩
end Go.Proofs.YtafmnkngjjnpiaaGreatDoor
