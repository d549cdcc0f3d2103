/-
  RegistryActs: of any calls each answer, the names, in order, and how many cells there are. The walk.
-/
import Derived.Test.YtojabenkhjgafaaRegA
import Derived.Deep.DeepCutAuto
namespace Go.Proofs.Ytojabenkhjgafaa
set_option linter.unusedVariables false
open Go.RowKit Go.WideShapes

/-- Both lists, and what each has for itself. -/
structure Both (w wr : World) (mv : Value) (bR bM : Nat) (nv : Value) (A : List Ent) : Prop where
  q : OwnR w wr bR bM nv A
  m : OnesAt wr mv A
  apart : ∀ b, mv.ownBlock = some b → w.heap.size ≤ b ∧ b ∉ blks bR bM nv A

theorem Both.chg0 {w wr w' : World} {mv : Value} {bR bM : Nat} {nv : Value} {A : List Ent} (h : Both w wr mv bR bM nv A) (c : Chg [] wr w') : Both w w' mv bR bM nv A :=
  ⟨h.q.chg0 c, owns_chg' h.m c (by simp), h.apart⟩

theorem empty_of (s : ByteArray) (h : s.toList.isEmpty = true) : s = ⟨#[]⟩ := by
  have : s.toList = [] := List.isEmpty_iff.1 h
  exact (toList_nil_iff_emptyBytes s).1 this

theorem row_slice {w : World} {base : Nat} {t : TypeId} {m : Nat} {v : Value} {n : Nat} {xs : List Value} (h : w.ownsRow base t m v n xs) : ∃ ao c, v = .slice ao n c := by
  rcases h.2 with ⟨rfl, rfl⟩ | ⟨g, cap, cur, rfl, _⟩
  · exact ⟨none, 0, rfl⟩
  · exact ⟨_, _, rfl⟩

theorem Both.next {w w4 w5 : World} {mv' : Value} {bR bM : Nat} {nv4 : Value} {A : List Ent} {x : Ent} (q : OwnR w w4 bR bM nv4 (A ++ [x])) (c : Chg [] w4 w5)
    (o : w5.ownsRow 0 43 2 mv' (A.length + 1) (onesV A ++ [.string x.name, .int .i64 (x.N : Int)])) (hb : ∀ k, mv'.ownBlock = some k → w4.heap.size ≤ k) : Both w w5 mv' bR bM nv4 (A ++ [x]) :=
  ⟨q.chg0 c, by unfold OnesAt; rw [onesV_append, List.length_append]; exact o, fun b h => ⟨by have := hb b h; have := q.c.size; omega, fun hm => by have := q.r.lt b hm; have := hb b h; omega⟩⟩

theorem Both.ones4 {w wr w4 : World} {mv : Value} {bR bM : Nat} {nv : Value} {A : List Ent} (h : Both w wr mv bR bM nv A) (c : Chg (bR :: bM :: nv.ownBlock.toList) wr w4) : OnesAt w4 mv A :=
  owns_chg' h.m c (fun b hb hm => (h.apart b hb).2 (by unfold blks; exact List.mem_append.2 (.inl hm)))

theorem has_some {A : List Ent} {s : ByteArray} {x : Ent} (h : A.find? (fun x => decide (x.name = s)) = some x) : x ∈ A ∧ hasN A s = (x.N : Int) ∧ hasB A s = true ∧ findP A s = some x.bA :=
  ⟨List.mem_of_find?_eq_some h, by unfold hasN; rw [h]; rfl, hasB_true h, by unfold findP; rw [h]; rfl⟩

theorem has_none {A : List Ent} {s : ByteArray} (h : A.find? (fun x => decide (x.name = s)) = none) : hasN A s = 0 ∧ hasB A s = false ∧ findP A s = none :=
  ⟨by unfold hasN; rw [h]; rfl, hasB_false h, by unfold findP; rw [h]; rfl⟩

set_option maxRecDepth 100000 in
set_option maxHeartbeats 16000000 in
theorem registryActs_walk (a0 : Option Addr) (len cap : Nat) (acts : List ActR) (w : World) (hl : len ≤ maxLen) (hacts : ActsAt w a0 len acts) :
    Calls Try.prog 3 #[.slice a0 len cap] w fun e w' => e = .returned (.bool true) ∧ Below w.heap.size w w' := by
  unfold maxLen at hl
  by_cases hbig : 200 < len
  · have hbig' : (200 : Int) < (len : Int) := by omega
    go_enter Try.func3, Try.ntmps3
    go_wp2_with fail
    refine (rNew_any w _ (Chg.refl _ _)).mono ?_
    rintro e w1 ⟨rfl, Q1⟩
    have HQ := Lib.hid Q1
    clear Q1
    go_wp2_with fail
    refine (alive_any _).mono ?_
    rintro e w2' ⟨rfl, C2⟩
    go_wp2_with fail
    refine (alive_any _).mono ?_
    rintro e w3' ⟨rfl, C3⟩
    go_wp2_with fail
    go_ret
    exact ⟨rfl, Chg.below (Below.refl _ _) ((HQ.out.c.trans C2 (U := []) (by simp) (by simp)).trans C3 (U := []) (by simp) (by simp)) (by simp) (Nat.le_refl _)⟩
  · have HA := Lib.hid hacts
    clear hacts
    go_enter Try.func3, Try.ntmps3
    go_wp2_with fail
    refine (rNew_any w _ (Chg.refl _ _)).mono ?_
    rintro e w1 ⟨rfl, Q1⟩
    have hszw : w.heap.size ≤ w.heap.size + 1 := by omega
    generalize w.heap.size + 1 = bR at *
    obtain ⟨bM, hbM⟩ : ∃ bM, bM = w.heap.size := ⟨_, rfl⟩
    rw [← hbM] at Q1
    clear hbM
    go_wp2_with fail
    refine (alive_any _).mono ?_
    rintro e w2 ⟨rfl, C2⟩
    have Q2 := Q1.chg0 C2
    clear Q1 C2
    go_wp2_with fail
    go_loopw [32, 4] (fun i mv wr => ∃ (k : Nat) (nv : Value) (A : List Ent), k ≤ len ∧ i = .int .i64 k ∧ Both w wr mv bR bM nv A) (fun i _ _ => len - (intOf i).toNat)
    case atStart => exact ⟨0, _, [], by omega, rfl, Q2, World.ownsRow_nil _ _ _ _, fun b hb => by cases hb⟩
    case round =>
      obtain ⟨k, nv, A, hk, rfl, hb⟩ := hrel
      by_cases hlt : k < len
      · obtain ⟨bl, off, rfl, hat⟩ := HA.out.2 (by omega)
        obtain ⟨x, hx⟩ : ∃ x, acts[k]? = some x := ⟨acts[k]'(by rw [HA.out.1]; exact hlt), List.getElem?_eq_getElem _⟩
        obtain ⟨x0, x1, x2, xs⟩ := hat k x hx
        clear hat hx
        have y0 := hb.q.c.cell x0 (by simp)
        have y1 := hb.q.c.cell x1 (by simp)
        have y2 := hb.q.c.cell x2 (by simp)
        clear x0 x1 x2
        obtain ⟨kind, n, s⟩ := x
        dsimp only at y0 y1 y2 xs
        -- the copy of the act
        obtain ⟨w3, hw3⟩ : ∃ w3, w3 = wr.alloc (.cells #[.int .i64 kind, .int .i64 n, .string s] 28) := ⟨_, rfl⟩
        have C3 : Chg [] wr w3 := by rw [hw3]; exact (Chg.refl _ _).alloc _
        have H3 : w3.heap[wr.heap.size]? = some (.cells #[.int .i64 kind, .int .i64 n, .string s] 28 (0, 0)) := by rw [hw3]; exact alloc_heap wr _
        have B3 := hb.chg0 C3
        have hz3 : wr.heap.size < w3.heap.size := heap_lt H3
        have hbl := hb.q.r.lt
        have hw3' := Lib.hid hw3
        obtain ⟨b6, hb6⟩ : ∃ b6, b6 = wr.heap.size := ⟨_, rfl⟩
        rw [← hb6] at H3
        have hn6 : ∀ y ∈ blks bR bM nv A, y ≠ b6 := fun y hy => by have := hbl y hy; omega
        have HN6 := Lib.hid hn6
        clear hbl hn6 hw3
        have HB6 := Lib.hid hb6
        have HA16 := Lib.hid hb.q.r.most
        have z0 : w3.cell? ⟨b6, 0, none⟩ = some (.int .i64 kind) := by rw [cell_of_heap H3]; rfl
        have z1 : w3.cell? ⟨b6, 1, none⟩ = some (.int .i64 n) := by rw [cell_of_heap H3]; rfl
        have z2 : w3.cell? ⟨b6, 2, none⟩ = some (.string s) := by rw [cell_of_heap H3]; rfl
        have Z := Lib.hid (And.intro z0 (And.intro z1 z2))
        clear z0 z1 z2 H3 hb6 hb C3 hz3
        go_upto_if 38 with (fail)
        rw [← hw3'.out, ← HB6.out]
        go_cut [4] (fun mv wx => ∃ (nv : Value) (A : List Ent), Both w wx mv bR bM nv A)
        case first =>
          by_cases hk0 : kind = 0
          · subst hk0
            by_cases hs0 : s.toList.isEmpty = true
            · obtain rfl := empty_of s hs0
              clear hs0
              obtain ⟨z0, z1, z2⟩ := Z.out
              go_wp2_with fail
              refine (rMake_arg bR n _).mono ?_
              rintro e w4 ⟨rfl, rfl⟩
              go_wp2_with fail
              refine (refMake_arg _ n _).mono ?_
              rintro e w4 ⟨rfl, rfl⟩
              go_wp2_with fail
              go_quiet (fail)
              go_wp2_with fail
              go_meet
              case rel => exact ⟨nv, A, B3.chg0 ((Chg.refl _ _).drewN _)⟩
            · have hs1 : s.toList.isEmpty = false := by simpa using hs0
              clear hs0
              have HS1 := Lib.hid hs1
              clear hs1
              by_cases hE : regE A s n = 0
              · obtain ⟨f1, f2, f3, f4⟩ := regE_zero hE
                obtain ⟨m, rfl⟩ := Int.eq_ofNat_of_zero_le (by omega : 0 ≤ n)
                have HE := Lib.hid hE
                have HM1 := Lib.hid (rMake_ok w bR bM nv A s m _ B3.q xs HS1.out f1 f2 (by omega) (by omega))
                obtain ⟨z0, z1, z2⟩ := Z.out
                clear hE f1 f2 f3 f4
                go_wp2_with fail
                refine HM1.out.mono ?_
                rintro e w4 ⟨rfl, nv4, Q4, C4, B4⟩
                clear HM1
                have N6 : b6 ∉ bR :: bM :: nv.ownBlock.toList := fun hm => HN6.out b6 (by unfold blks; exact List.mem_append.2 (.inl hm)) rfl
                have z1 := C4.cell z1 N6
                have z2 := C4.cell z2 N6
                have HO4 := Lib.hid (B3.ones4 C4)
                have A4 := Q4.r.ar _ (List.mem_append.2 (.inr (List.mem_singleton.2 rfl)))
                dsimp only at A4
                generalize w3.heap.size + 1 = p4 at *
                generalize w3.heap.size = q4 at *
                clear C4 B4 N6 z0
                have HM2 := Lib.hid (refMake_any u4 A s m _ HO4.out HA16.out HS1.out)
                go_wp2_with fail
                refine HM2.out.mono ?_
                rintro e w5 (⟨hE, _, _⟩ | ⟨hE, mv', rfl, C5, O5, hb5⟩)
                · exact absurd HE.out hE
                · have BN : Both w w5 mv' bR bM nv4 (A ++ [⟨s, p4, q4, m, []⟩]) := Both.next Q4 C5 O5 hb5
                  have z1 := C5.cell z1 (by simp)
                  have A5 := A4.chg C5 (by simp) (by simp)
                  clear HM2 hE C5 O5 hb5 Q4 A4 z2 HO4
                  have HBN := Lib.hid BN
                  clear BN
                  go_wp2_with fail
                  go_quiet ((go_at_call 12; exact quiet_same (cap_any _ _ _ _ _ (A5.drewN _))))
                  go_wp2_with fail
                  go_meet
                  case rel => exact ⟨nv4, _, HBN.out.chg0 ((Chg.refl _ _).drewN _)⟩
              · have HE := Lib.hid hE
                have HM1 := Lib.hid (rMake_err bR bM nv A s n _ B3.q.r xs HS1.out hE)
                have HM2 := Lib.hid (refMake_any u4 A s n _ B3.m HA16.out HS1.out)
                obtain ⟨z0, z1, z2⟩ := Z.out
                clear hE
                go_wp2_with fail
                refine HM1.out.mono ?_
                rintro e w4 ⟨rfl, rfl⟩
                go_wp2_with fail
                refine HM2.out.mono ?_
                rintro e w4 (⟨hE, rfl, rfl⟩ | ⟨hE, _⟩)
                · clear HM1 HM2
                  generalize regE A s n = r at *
                  clear HE
                  go_wp2_with fail
                  go_quiet (fail)
                  go_wp2_with fail
                  go_meet
                  case rel => exact ⟨nv, A, B3.chg0 ((Chg.refl _ _).drewN _)⟩
                · exact absurd hE HE.out
          · obtain ⟨z0, z1, z2⟩ := Z.out
            rcases hf : A.find? (fun x => decide (x.name = s)) with _ | x
            · obtain ⟨e1, e2, e3⟩ := has_none hf
              have G1 := rGet_any bR bM nv A s _ B3.q.r xs
              have G2 := refHas_any u4 A s _ B3.m HA16.out
              rw [e1, e2] at G2
              rw [e3] at G1
              have HM1 := Lib.hid (show Calls Try.prog 13 #[.pointer (some ⟨bR, 0, none⟩), .string s] w3 fun e w' => e = .returned (.tuple #[.pointer none, .int .i64 6]) ∧ w3 = w' from G1)
              have HM2 := Lib.hid G2
              clear e1 e2 e3 hf G1 G2
              go_wp2_with fail
              refine HM1.out.mono ?_
              rintro e w4 ⟨rfl, rfl⟩
              go_wp2_with fail
              refine HM2.out.mono ?_
              rintro e w4 ⟨rfl, rfl⟩
              go_wp2_with fail
              go_meet
              case rel => exact ⟨nv, A, B3⟩
            · obtain ⟨e0, e1, e2, e3⟩ := has_some hf
              have A5 := B3.q.r.ar x e0
              have G1 := rGet_any bR bM nv A s _ B3.q.r xs
              have G2 := refHas_any u4 A s _ B3.m HA16.out
              rw [e1, e2] at G2
              rw [e3] at G1
              have HM1 := Lib.hid (show Calls Try.prog 13 #[.pointer (some ⟨bR, 0, none⟩), .string s] w3 fun e w' => e = .returned (.tuple #[.pointer (some ⟨x.bA, 0, none⟩), .int .i64 0]) ∧ w3 = w' from G1)
              have HM2 := Lib.hid G2
              clear e0 e1 e2 e3 hf G1 G2
              go_wp2_with fail
              refine HM1.out.mono ?_
              rintro e w4 ⟨rfl, rfl⟩
              go_wp2_with fail
              refine HM2.out.mono ?_
              rintro e w4 ⟨rfl, rfl⟩
              go_wp2_with fail
              refine (cap_any _ _ _ _ _ A5).mono ?_
              rintro e w6 ⟨rfl, rfl⟩
              go_wp2_with fail
              go_meet
              case rel => exact ⟨nv, A, B3⟩
        case rest =>
          obtain ⟨nv1, A1, B1⟩ := hcut
          have HM16 := B1.q.r.most
          have HC1 := Lib.hid (fun w' c => rCells_any bR bM nv1 A1 w' (B1.chg0 c).q.r)
          have HN4 : ∀ x ∈ A1, x.N ≤ 4096 := fun x hx => (B1.q.r.ar x hx).most
          have HC2 := Lib.hid (fun w' (c : Chg [] wc w') => refCells_any u4 A1 w' (B1.chg0 c).m HN4 HM16)
          have HNm := Lib.hid (rNames_any bR bM nv1 A1 wc B1.q.r)
          have HB1 := Lib.hid B1
          obtain ⟨am, cm, rfl⟩ := B1.m.slice
          clear HN4 B1
          go_wp2_with fail
          refine HNm.out.mono ?_
          rintro e w5 ⟨rv, rfl, C5, O5⟩
          clear HNm
          obtain ⟨ar, cr, rfl⟩ := row_slice O5
          have HO5 := Lib.hid O5
          have HC5 := Lib.hid C5
          clear O5 C5
          go_wp2_with fail
          refine (HC1.out _ HC5.out).mono ?_
          rintro e w6 ⟨rfl, C6⟩
          have HC6 := Lib.hid (HC5.out.trans C6 (U := []) (by simp) (by simp))
          have HC6' := Lib.hid C6
          clear C6
          go_wp2_with fail
          refine (HC2.out _ HC6.out).mono ?_
          rintro e w7 ⟨rfl, rfl⟩
          clear HC1 HC2
          generalize sumE A1 = S at *
          go_wp2_with fail
          go_loopw [132] (fun j wx => ∃ q : Nat, q ≤ A1.length ∧ j = .int .i64 q ∧ Chg [] w6 wx) (fun j _ => A1.length - (intOf j).toNat)
          case atStart => exact ⟨0, by omega, rfl, Chg.refl _ _⟩
          case round =>
            obtain ⟨q, hq, rfl, cx⟩ := hrel
            by_cases hqt : q < A1.length
            · have c3 := (HC6'.out.trans cx (U := []) (by simp) (by simp))
              have c4 := (HC6.out.trans cx (U := []) (by simp) (by simp))
              obtain ⟨g1, k1, e1, d1, d2⟩ := (HB1.out.m.cell hqt)
              obtain ⟨g2, k2, e2, d3⟩ := rowS HO5.out (by omega)
              injection e1 with e1 _ e1'
              injection e2 with e2 _ e2'
              subst e1 e1' e2 e2'
              have d1 := c4.cell d1 (by simp)
              have d3 := c3.cell (d3 q hqt) (by simp)
              generalize A1[q].name = nm at *
              clear d2 c3 c4
              go_wp2_with fail
              go_quiet (fail)
              go_wp2_with fail
              go_roundw
              case rel => exact ⟨q + 1, by omega, by go_num, cx.drewN _⟩
              case measure => simp [intOf]; omega
            · go_wp2_with fail
              go_roundw
              case rel => exact ⟨k + 1, nv1, A1, by omega, by go_num, HB1.out.chg0 (HC6.out.trans cx (U := []) (by simp) (by simp))⟩
              case measure => simp [intOf]; omega
      · go_wp2_with fail
        go_ret
        exact ⟨rfl, Chg.below (Below.refl _ _) hb.q.c (by simp) (Nat.le_refl _)⟩
end Go.Proofs.Ytojabenkhjgafaa
