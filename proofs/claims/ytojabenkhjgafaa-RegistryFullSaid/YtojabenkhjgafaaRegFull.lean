/-
  RegistryFull: as many arenas are made as there may be, and not one more. The walk.
-/
import Derived.Test.YtojabenkhjgafaaRegU
namespace Go.Proofs.Ytojabenkhjgafaa
set_option linter.unusedVariables false
open Go.RowKit Go.WideShapes

/-- The k-th name. -/
def nmF (k : Nat) : ByteArray := ⟨#[120]⟩ ++ strOfNums [97 + (k : Int) % 26, 97 + (k : Int) / 26]

theorem nmF_toList (k : Nat) : (nmF k).data.toList = [120, UInt8.ofNat (97 + k % 26), UInt8.ofNat (97 + k / 26)] := by
  unfold nmF strOfNums
  have e1 : (97 + (k : Int) % 26).toNat = 97 + k % 26 := by omega
  have e2 : (97 + (k : Int) / 26).toNat = 97 + k / 26 := by omega
  simp [ByteArray.data_append, e1, e2]

theorem nmF_size (k : Nat) : (nmF k).size = 3 := by
  have := congrArg List.length (nmF_toList k)
  simpa using this

theorem nmF_inj {j k : Nat} (hj : j < 100) (hk : k < 100) (h : nmF j = nmF k) : j = k := by
  have h1 := congrArg (fun s : ByteArray => s.data.toList) h
  simp only [nmF_toList] at h1
  injection h1 with _ h2
  injection h2 with h3 h4
  injection h4 with h5 _
  have e3 := congrArg UInt8.toNat h3
  have e5 := congrArg UInt8.toNat h5
  simp at e3 e5
  omega

theorem infoInt : (Try.prog.info? 3).map (fun i => (i.zero, i.size, i.bytes)) = some (some (.int .i64 0), 1, 8) := by kernel_rfl

def sizesV (A : List Ent) : List Value := A.map fun x => .int .i64 (x.N : Int)

/-- What the law keeps: the sizes of the arenas that were made, in a row of its own; the arenas are empty, of names that were met. -/
structure MadeIs (w wr : World) (mv : Value) (bR bM : Nat) (nv : Value) (A : List Ent) (k : Nat) : Prop where
  row : wr.ownsRow 0 3 1 mv A.length (sizesV A)
  apart : ∀ b, mv.ownBlock = some b → w.heap.size ≤ b ∧ b ∉ blks bR bM nv A
  ent : ∀ x ∈ A, x.l = [] ∧ ∃ j, j < k ∧ x.name = nmF j

theorem MadeIs.fresh {w wr : World} {mv : Value} {bR bM : Nat} {nv : Value} {A : List Ent} {k : Nat} (h : MadeIs w wr mv bR bM nv A k) (hk : k < 100) : findP A (nmF k) = none := by
  unfold findP
  have : A.find? (fun x => decide (x.name = nmF k)) = none := by
    rw [List.find?_eq_none]
    intro x hx
    obtain ⟨_, j, hj, e⟩ := h.ent x hx
    simp only [decide_eq_true_eq]
    intro e2
    have := nmF_inj (by omega) hk (e.symm.trans e2)
    omega
  rw [this]; rfl

theorem MadeIs.chg {w wr w' : World} {mv : Value} {bR bM : Nat} {nv : Value} {A : List Ent} {k : Nat} {S : List Nat} (h : MadeIs w wr mv bR bM nv A k) (c : Chg S wr w') (hS : ∀ b, mv.ownBlock = some b → b ∉ S) : MadeIs w w' mv bR bM nv A (k + 1) :=
  ⟨owns_chg' h.row c hS, h.apart, fun x hx => ⟨(h.ent x hx).1, by obtain ⟨j, hj, e⟩ := (h.ent x hx).2; exact ⟨j, by omega, e⟩⟩⟩

theorem owns_ints {w : World} {v : Value} {n : Nat} {xs : List Value} (h : w.ownsRow 0 3 1 v n xs) : ∃ ao c, v = .slice ao n c := by
  rcases h.2 with ⟨rfl, rfl⟩ | ⟨g, cap, cur, rfl, _⟩
  · exact ⟨none, 0, rfl⟩
  · exact ⟨_, _, rfl⟩

theorem sumE_take (A : List Ent) (j : Nat) (h : j < A.length) : sumE (A.take (j + 1)) = sumE (A.take j) + (A[j].N : Int) := by
  unfold sumE
  rw [List.take_succ_eq_append_getElem h, List.map_append, List.sum_append]
  simp

theorem sumE_bound {A : List Ent} (h : ∀ x ∈ A, x.N ≤ 4096) : 0 ≤ sumE A ∧ sumE A ≤ 4096 * (A.length : Int) := by
  rw [← sumN_attach]
  have := sumN_le h A.attach
  simpa using this

set_option maxRecDepth 100000 in
set_option maxHeartbeats 8000000 in
theorem registryFull_walk (a0 : Option Addr) (len cap : Nat) (zs : List Int) (w : World) (hr : IsRow .i64 w a0 len cap zs) :
    Calls Try.prog 5 #[.slice a0 len cap] w fun e w' => e = .returned (.bool true) ∧ Below w.heap.size w w' := by
  obtain ⟨hlc, hcm, hzl⟩ := hr.le
  unfold maxLen at hcm
  have HR := Lib.hid (show ∀ k, k < len → ∃ b off, a0 = some ⟨b, off, none⟩ ∧ b < w.heap.size ∧ w.cell? ⟨b, off + k, none⟩ = some (.int .i64 (zs.getD k 0)) from fun k hk => by
    rcases hr with ⟨_, h0, _, _⟩ | ⟨x, rfl, h1, h2, h3, h4, h5⟩
    · omega
    · have hc := h4 k (by omega)
      obtain ⟨b, off, spot⟩ := x
      have hsp := World.cell?_spot (h4 0 (by omega))
      have : spot = none := by simpa [Addr.add] using hsp
      subst this
      rw [Addr.add_lit] at hc
      refine ⟨b, off, rfl, ?_, hc⟩
      unfold World.cell? at hc
      cases hh : w.heap[b]? with
      | none => simp [hh] at hc
      | some o => exact heap_lt hh)
  clear hr hzl
  by_cases hbig : 60 < len
  · have hbig' : (60 : Int) < (len : Int) := by omega
    go_enter Try.func5, Try.ntmps5
    go_wp2_with fail
    refine (rNew_any w _ (Chg.refl _ _)).mono ?_
    rintro e w1 ⟨rfl, Q1⟩
    have HQ := Lib.hid Q1
    clear Q1
    go_wp2_with fail
    refine (alive_any _).mono ?_
    rintro e w2' ⟨rfl, C2⟩
    go_wp2_with fail
    refine (alive_any _).mono ?_
    rintro e w3' ⟨rfl, C3⟩
    go_wp2_with fail
    go_ret
    exact ⟨rfl, Chg.below (Below.refl _ _) ((HQ.out.c.trans C2 (U := []) (by simp) (by simp)).trans C3 (U := []) (by simp) (by simp)) (by simp) (Nat.le_refl _)⟩
  · go_enter Try.func5, Try.ntmps5
    go_wp2_with fail
    refine (rNew_any w _ (Chg.refl _ _)).mono ?_
    rintro e w1 ⟨rfl, Q1⟩
    generalize w.heap.size + 1 = bR at *
    generalize w.heap.size = bM at *
    go_wp2_with fail
    refine (alive_any _).mono ?_
    rintro e w2 ⟨rfl, C2⟩
    have Q2 := Q1.chg0 C2
    clear Q1 C2
    go_wp2_with fail
    obtain ⟨i0, hi, hz0, hz1, hz2⟩ := info_parts infoInt
    have HbM : ∀ x ∈ blks bR bM (.slice none 0 0) [], x < w2.heap.size := Q2.r.lt
    have hszw := Q2.c.size
    go_loopw [28, 4] (fun i mv wr => ∃ (k : Nat) (nv : Value) (A : List Ent), k ≤ len ∧ i = .int .i64 k ∧ OwnR w wr bR bM nv A ∧ MadeIs w wr mv bR bM nv A k) (fun i _ _ => len - (intOf i).toNat)
    case atStart =>
      refine ⟨0, _, [], by omega, rfl, Q2.chg0 ((Chg.refl _ _).alloc _), ⟨(owns_empty w2 0 3 (Nat.zero_le _)), fun b hb => ?_, by simp⟩⟩
      have : b = w2.heap.size := by simpa [Value.ownBlock] using hb.symm
      subst this
      exact ⟨hszw, fun hm => Nat.lt_irrefl _ (HbM _ hm)⟩
    case round =>
      obtain ⟨k, nv, A, hk, rfl, hq, hm⟩ := hrel
      by_cases hlt : k < len
      · obtain ⟨b, off, rfl, hb, hc⟩ := HR.out k hlt
        have hc' := hq.c.cell hc (by simp)
        generalize zs.getD k 0 = z at *
        have u1 : (k : Int) % 26 < 26 := by omega
        have u0 : 0 ≤ (k : Int) % 26 := by omega
        have u2 : (k : Int) / 26 ≤ 2 := by omega
        have hcv : (convert 45 9 (.slice (some ⟨wr.heap.size, 0, none⟩) 2 2)).run Try.prog (wr.alloc (.cells #[.int .u8 (97 + (k : Int) % 26), .int .u8 (97 + (k : Int) / 26)] 5)) = .ok (.string (strOfNums [97 + (k : Int) % 26, 97 + (k : Int) / 26])) _ := conv_src (src_new [97 + (k : Int) % 26, 97 + (k : Int) / 26] [] (by simp))
        have hss : (strOfNums [97 + (k : Int) % 26, 97 + (k : Int) / 26]).size ≤ 2 := by rw [strOfNums_size]; simp
        have HF := Lib.hid (hm.fresh (by omega))
        have HS := Lib.hid (show (nmF k).size ≤ maxLen by rw [nmF_size]; unfold maxLen; omega)
        have HE := Lib.hid (show (nmF k).toList.isEmpty = false by
          rw [ByteArray.toList_eq, nmF_toList]; rfl)
        have Q1 := hq.chg0 ((Chg.refl [] wr).alloc (.cells #[.int .u8 (97 + (k : Int) % 26), .int .u8 (97 + (k : Int) / 26)] 5))
        have M1 := hm.row.alloc (.cells #[.int .u8 (97 + (k : Int) % 26), .int .u8 (97 + (k : Int) / 26)] 5)
        obtain ⟨am, cm, rfl⟩ := owns_ints hm.row
        have HM := Lib.hid hm
        have hA16 := hq.r.most
        clear hm
        by_cases h16 : A.length = 16
        · have h16' : (A.length : Int) = 16 := by omega
          go_wp2_with fail
          rw [show (⟨#[120]⟩ : ByteArray) ++ strOfNums [97 + (k : Int) % 26, 97 + (k : Int) / 26] = nmF k from rfl]
          refine (rMake_full bR bM nv A (nmF k) z _ Q1.r HS.out HE.out HF.out (by omega)).mono ?_
          rintro e w3 ⟨rfl, rfl⟩
          clear hcv hss
          go_wp2_with fail
          have M2 := HM.out.chg ((Chg.refl [] wr).alloc (.cells #[.int .u8 (97 + (k : Int) % 26), .int .u8 (97 + (k : Int) / 26)] 5)) (by simp)
          rw [h16] at M2
          go_roundw
          case rel => exact ⟨k + 1, nv, A, by omega, by go_num, Q1, M2⟩
          case measure => simp [intOf]; omega
        · have h16' : ¬ (A.length : Int) = 16 := by omega
          by_cases hz : z < 1 ∨ 4096 < z
          · have HZ := Lib.hid hz
            rcases hz with hz | hz
            all_goals (
              go_wp2_with fail
              rw [show (⟨#[120]⟩ : ByteArray) ++ strOfNums [97 + (k : Int) % 26, 97 + (k : Int) / 26] = nmF k from rfl]
              refine (rMake_range bR bM _ A (nmF k) z _ Q1.r HS.out HE.out HF.out (by omega) HZ.out).mono ?_
              rintro e w3 ⟨rfl, rfl⟩
              go_wp2_with fail
              have M2 := HM.out.chg ((Chg.refl [] wr).alloc (.cells #[.int .u8 (97 + (k : Int) % 26), .int .u8 (97 + (k : Int) / 26)] 5)) (by simp)
              go_roundw
              case rel => exact ⟨k + 1, nv, A, by omega, by go_num, Q1, M2⟩
              case measure => simp [intOf]; omega)
          · obtain ⟨n, rfl⟩ := Int.eq_ofNat_of_zero_le (by omega : 0 ≤ z)
            have n1 : ¬ (n : Int) < 1 := by omega
            have n2 : ¬ (4096 : Int) < (n : Int) := by omega
            clear hz
            go_wp2_with fail
            rw [show (⟨#[120]⟩ : ByteArray) ++ strOfNums [97 + (k : Int) % 26, 97 + (k : Int) / 26] = nmF k from rfl]
            refine (rMake_ok w bR bM _ A (nmF k) n _ Q1 HS.out HE.out HF.out (by omega) (by omega) (by omega)).mono ?_
            rintro e w3 ⟨rfl, nv3, Q3, C3, B3⟩
            have hA3 := Q3.r.ar ⟨nmF k, (wr.alloc (.cells #[.int .u8 (97 + (k : Int) % 26), .int .u8 (97 + (k : Int) / 26)] 5)).heap.size + 1, (wr.alloc (.cells #[.int .u8 (97 + (k : Int) % 26), .int .u8 (97 + (k : Int) / 26)] 5)).heap.size, n, []⟩ (by simp)
            have hltm := M1.lt
            have hnb := HM.out.apart
            have hent := HM.out.ent
            generalize (wr.alloc (.cells #[.int .u8 (97 + (k : Int) % 26), .int .u8 (97 + (k : Int) / 26)] 5)) = w1 at *
            have M3 := owns_chg' M1 C3 (fun b hb hm => by
              refine (hnb b hb).2 ?_
              unfold blks
              have hap : b ∈ (bR :: bM :: nv.ownBlock.toList) ++ A.flatMap (fun x => [x.bA, x.bC]) := List.mem_append.2 (.inl hm)
              exact hap)
            have hN3 : ∀ b, (Value.slice am A.length cm).ownBlock = some b → b ∉ blks bR bM nv3 (A ++ [⟨nmF k, w1.heap.size + 1, w1.heap.size, n, []⟩]) := fun b hb hm => by
              rcases B3 b hm with h | h
              · exact (hnb b hb).2 h
              · have := (hltm b hb).2; omega
            have hc3 := C3.size
            have hm3 := M3.lt
            have hq3 := Q3.r.lt
            have hw3 := Q3.c.size
            have HN3 := Lib.hid hN3
            have HE3 := Lib.hid hent
            have HNB := Lib.hid hnb
            generalize w1.heap.size + 1 = pA at *
            generalize w1.heap.size = pC at *
            have HQ3 := Lib.hid Q3
            have HC3 := Lib.hid hq3
            clear M1 hltm hnb hent B3 C3 hN3 Q1 hcv hss hq3 Q3
            go_wp2_with (first
              | (go_at_call 12; refine (cap_any _ _ _ _ _ hA3).mono ?_; rintro e w' ⟨rfl, rfl⟩)
              | (go_at_call 20; refine (len_any _ _ _ _ _ hA3).mono ?_; rintro e w' ⟨rfl, rfl⟩)
              | (refine wpList_append_where rfl (.tmp 67) (.tmp 69) 49 rfl 0 3 i0 (.int .i64 0) 1 8 Try.underlying49 hi hz0 hz1 hz2 rfl (by decide) _ A.length (sizesV A) (by rfl) (M3.alloc _) ⟨w3.heap.size, 0, none⟩ 1 1 [.int .i64 (n : Int)] (by rfl) rfl (cell_one_new _ _ _) (by simp [Value.oneCell']) (by unfold maxLen; omega) (by omega) (Nat.zero_le _) (fun v4 w4 O4 C4 B4 => ?_)))
            have hsz4 : (w3.alloc (.cells #[.int .i64 (n : Int)] 3)).heap.size = w3.heap.size + 1 := by simp
            rw [hsz4] at B4
            have hown : ∀ b, (Value.slice am A.length cm).ownBlock = some b → w.heap.size ≤ b ∧ b < w3.heap.size := fun b hb => ⟨(HNB.out b hb).1, (hm3 b hb).2⟩
            have D4 : Chg (Value.slice am A.length cm).ownBlock.toList w3 w4 := ((Chg.refl [] w3).alloc _).trans C4 (by simp) (fun x hx _ => hx)
            have Q4 := HQ3.out.chg D4 (fun x hx => (hown x (by simpa [Option.mem_toList] using hx)).1) (fun x hx hm => HN3.out x (by simpa [Option.mem_toList] using hm) hx)
            go_roundw
            case rel =>
              refine ⟨k + 1, nv3, A ++ [⟨nmF k, pA, pC, n, []⟩], by omega, by go_num, Q4, ⟨by simpa [sizesV] using O4, fun b hb => ?_, fun x hx => ?_⟩⟩
              · rcases B4 b hb with h | h
                · exact ⟨(hown b h).1, HN3.out b h⟩
                · exact ⟨by omega, fun hm => by have := HC3.out b hm; omega⟩
              · rcases List.mem_append.1 hx with hx | hx
                · obtain ⟨h1, j, hj, e⟩ := HE3.out x hx
                  exact ⟨h1, j, by omega, e⟩
                · rw [List.mem_singleton.1 hx]; exact ⟨rfl, k, by omega, rfl⟩
            case measure => simp [intOf]; omega
      · obtain rfl : k = len := by omega
        obtain ⟨am, cm, rfl⟩ := owns_ints hm.row
        have hA16 := hq.r.most
        have HM := Lib.hid hm
        have hzero := Lib.hid (show allZero A = true by
          unfold allZero
          rw [List.all_eq_true]
          intro x hx
          rw [(hm.ent x hx).1]; rfl)
        have hb := sumE_bound (A := A) (fun x hx => (hq.r.ar x hx).most)
        have hbt : ∀ j, 0 ≤ sumE (A.take j) ∧ sumE (A.take j) ≤ 65536 := fun j => by
          have := sumE_bound (A := A.take j) (fun x hx => (hq.r.ar x (List.mem_of_mem_take hx)).most)
          have hl : (A.take j).length ≤ A.length := by simp; omega
          omega
        have HBT := Lib.hid hbt
        clear hm hbt
        go_wp2_with fail
        go_loop [9, 97] (fun sv i => ∃ j : Nat, j ≤ A.length ∧ i = .int .i64 j ∧ sv = .int .i64 (sumE (A.take j))) (fun _ i => A.length - (intOf i).toNat)
        case atStart => exact ⟨0, by omega, rfl, rfl⟩
        case round =>
          obtain ⟨j, hj, rfl, rfl⟩ := hrel
          by_cases hlt2 : j < A.length
          · have hst := sumE_take A j hlt2
            have hb1 := HBT.out j
            have hb2 := HBT.out (j + 1)
            have hcell : ∃ g, am = some ⟨g, 0, none⟩ ∧ wr.cell? ⟨g, j, none⟩ = some (.int .i64 (A[j].N : Int)) := by
              have hr := HM.out.row
              rcases hr.2 with ⟨_, h0⟩ | ⟨g, cap', cur, e, _, hg, _⟩
              · omega
              · injection e with e1 e2 e3
                refine ⟨g, e1, ?_⟩
                have := hr.cells (g := g) (by rw [e1]; rfl) j (.int .i64 (A[j].N : Int)) (by simp [sizesV, hlt2])
                rwa [Addr.add_lit, Nat.zero_add] at this
            obtain ⟨g, rfl, hcell⟩ := hcell
            have HST := Lib.hid hst
            rw [hst] at hb2
            generalize sumE (A.take j) = S at *
            generalize A[j].N = N at *
            clear hst
            go_wp2_with fail
            go_round
            case rel => exact ⟨j + 1, by omega, by go_num, by rw [HST.out]⟩
            case measure => simp [intOf]; omega
          · obtain rfl : j = A.length := by omega
            rw [List.take_of_length_le (Nat.le_refl _)]
            go_wp2_with fail
            refine (rNames_any bR bM nv A _ hq.r).mono ?_
            rintro e w5 ⟨rv, rfl, C5, O5⟩
            have Q5 := hq.chg0 C5
            obtain ⟨ao5, c5, rfl⟩ : ∃ ao c, rv = .slice ao A.length c := by
              rcases owns_srcS O5 with ⟨rfl, h0⟩ | ⟨g, c, rfl, _⟩
              · exact ⟨none, 0, by rw [h0]⟩
              · exact ⟨_, _, rfl⟩
            clear C5 O5
            go_wp2_with fail
            refine (rCells_any bR bM nv A _ Q5.r).mono ?_
            rintro e w6 ⟨rfl, C6⟩
            have Q6 := Q5.chg0 C6
            clear Q5 C6
            go_wp2_with fail
            refine (rZero_any bR bM nv A _ Q6.r).mono ?_
            rintro e w7 ⟨rfl, C7⟩
            rw [hzero.out]
            have Q7 := Q6.chg0 C7
            clear Q6 C7
            go_wp2_with fail
            refine (rClean_any bR bM nv A _ Q7.r).mono ?_
            rintro e w8 ⟨rfl, C8⟩
            have hC := (Q7.chg0 C8).c
            go_wp2_with fail
            go_ret
            exact ⟨rfl, Chg.below (Below.refl _ _) hC (by simp) (Nat.le_refl _)⟩
end Go.Proofs.Ytojabenkhjgafaa
