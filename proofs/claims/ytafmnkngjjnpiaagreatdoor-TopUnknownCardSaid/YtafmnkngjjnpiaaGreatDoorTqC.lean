import Derived.Test.YtafmnkngjjnpiaaGreatDoorTbF
import Derived.Test.YtafmnkngjjnpiaaGreatDoorTqA
import Derived.Test.YtafmnkngjjnpiaaGreatDoorTbD
import Derived.Deep.RegionHeld3
namespace Go.Proofs.YtafmnkngjjnpiaaGreatDoor
set_option linter.unusedVariables false
set_option linter.unusedSimpArgs false
set_option maxRecDepth 100000
open Go.RowKit
structure SrcF (γ : Gm) (τ : Tt) (w : World) (ao : Option Addr) (n c : Nat) (bs : List Int) : Prop where
  src : SrcAt w ao n c (valsOf .u8 bs)
  free : ∀ ad, ao = some ad → ¬ Sown γ τ ad.block ∧ ad.block < w.heap.size
theorem SrcF.len {γ : Gm} {τ : Tt} {w : World} {ao : Option Addr} {n c : Nat} {bs : List Int} (h : SrcF γ τ w ao n c bs) : bs.length = n := by have := h.src.1; rwa [valsOf_length] at this
theorem SrcF.go {w0 a b : World} {γ : Gm} {τ τ' : Tt} {s' : Ss} {rd' : List Int} {ao : Option Addr} {n c : Nat} {bs : List Int} (h : SrcF γ τ a ao n c bs) (G : SGo w0 a γ τ τ' s' rd' b) : SrcF γ τ' b ao n c bs := by
  obtain ⟨S, k1, k2⟩ := G.c
  refine ⟨h.src.chg k1 (fun ad e hm => (h.free ad e).1 (k2 _ hm (h.free ad e).2)), fun ad e => ⟨fun ho => ho.elim (fun e1 => (h.free ad e).1 (.inl e1)) (fun e1 => (G.own _ e1).elim (fun e2 => (h.free ad e).1 (.inr e2)) (fun hl => by have := (h.free ad e).2; omega)), Nat.lt_of_lt_of_le (h.free ad e).2 k1.size⟩⟩
theorem SrcF.from {γ : Gm} {τ : Tt} {w : World} {ao : Option Addr} {n c k : Nat} {bs : List Int} (h : SrcF γ τ w ao n c bs) (hk : k ≤ n) (hc : n ≤ c) : SrcF γ τ w (fromA ao c k) (n - k) (c - k) (bs.drop k) := by
  refine ⟨h.src.from hk hc, fun ad e => ?_⟩
  unfold fromA at e
  split at e
  · exact h.free ad e
  · obtain ⟨a0, rfl, rfl⟩ := Option.map_eq_some_iff.1 e
    have : (a0.add k).block = a0.block := by unfold Addr.add; split <;> rfl
    rw [this]
    exact h.free a0 rfl
def SWrPost (w0 : World) (γ : Gm) (τ : Tt) (s : Ss) (rd bs : List Int) (w : World) (e : Ending) (w' : World) : Prop :=
  e = .returned (.tuple #[.int .i64 (if wrB τ.c.ws τ.c.wrote = true then wrN τ.c.ws τ.c.wrote bs.length else 0), .int .i64 (if wrB τ.c.ws τ.c.wrote = true then 0 else 5)]) ∧
    ∃ τ', SGo w0 w γ τ τ' { s with t := ptOf τ' } rd w' ∧ ptOf τ' = wrOne (ptOf τ) bs ∧ fee τ' ≤ fee τ + 1 ∧ (τ.c.wrote < τ.c.ws.length → fee τ' ≤ fee τ)
theorem sWrite_any (w0 w : World) (γ : Gm) (τ : Tt) (s : Ss) (rd : List Int) (ao : Option Addr) (n c : Nat) (bs : List Int) (h : SesIs w0 w γ τ s rd) (hs : SrcF γ τ w ao n c bs) (hn : n ≤ 1000000) (hf : fee τ ≤ 1000000) :
    Calls Tryz.prog 175 #[.pointer (some ⟨τ.bT, 0, none⟩), .slice ao n c] w (SWrPost w0 γ τ s rd bs w) := by
  have hE : τ.E.length ≤ 1000000 := by unfold fee at hf; omega
  have hw := h.cnt.1
  refine (tWrite_any w0 w τ ao n c bs h.T hs.src (fun _ k hk => ?_) hn (by omega) hE).mono ?_
  · obtain ⟨ad, rfl, rfl⟩ := Option.map_eq_some_iff.1 hk
    exact Classical.byContradiction fun e => (hs.free ad rfl).1 (.inr (.inl e))
  · rintro e w' ⟨rfl, v', ao2, cap2, G, _⟩
    refine ⟨rfl, _, SGo.of_tt h G rfl ?_ h.by', ?_, ?_, ?_⟩
    · have := h.cnt
      simp only [List.length_append, List.length_cons, List.length_nil]
      omega
    · unfold ptOf wrOne WrE plE
      simp [EfD.pl]
    · unfold fee
      simp only [List.length_append, List.length_cons, List.length_nil]
      omega
    · intro hl
      unfold fee
      simp only [List.length_append, List.length_cons, List.length_nil]
      omega
theorem writeP_nil (f : Nat) (t : Pt) : writeP f t [] = (true, t) := by cases f <;> rfl
theorem wrN_le (ws : List Int) (k n : Nat) : 0 ≤ wrN ws k n ∧ wrN ws k n ≤ n := by
  unfold wrN
  split
  · omega
  · split <;> omega
theorem wrN_all {ws : List Int} {k n : Nat} (h : ws.length ≤ k) : wrN ws k n = n := by
  unfold wrN
  rw [if_pos h]
  omega
theorem wrS_of {s : Ss} {bs : List Int} {x : Bool × Pt} (h : x = writeP bs.length s.t bs) : wrS s bs = (if x.1 = true then none else some 4, { s with t := x.2 }) := by rw [h]; rfl
structure WrI (w0 w : World) (γ : Gm) (τ : Tt) (s : Ss) (rd bs : List Int) (τr : Tt) (br : List Int) (f : Nat) (ao : Option Addr) (n c : Nat) (wr : World) : Prop where
  go : SGo w0 w γ τ τr { s with t := ptOf τr } rd wr
  src : SrcF γ τr wr ao n c br
  le : n ≤ c
  few : n ≤ bs.length
  fl : br.length ≤ f
  pl : writeP f (ptOf τr) br = writeP bs.length s.t bs
  fe : fee τr ≤ fee τ + 1
  fe0 : 0 < n → fee τr ≤ fee τ
set_option maxHeartbeats 8000000 in
theorem write_any (w0 w : World) (γ : Gm) (τ : Tt) (s : Ss) (rd : List Int) (ao : Option Addr) (n c : Nat) (bs : List Int) (h : SesIs w0 w γ τ s rd) (hs : SrcF γ τ w ao n c bs) (hn : n ≤ 1000000) (hc : n ≤ c) (hf : fee τ ≤ 999999) :
    Calls Tryz.prog 164 #[.pointer (some ⟨γ.bS, 0, none⟩), .slice ao n c] w (SPost w0 γ τ rd (wrS s bs) 1 w) := by
  have hlen := hs.len
  have HI : Hid (WrI w0 w γ τ s rd bs τ bs bs.length ao n c w) := Lib.hid ⟨by have := SGo.refl h; rw [show ({ s with t := ptOf τ } : Ss) = s by rw [← h.t]]; exact this, hs, hc, by omega, Nat.le_refl _, by rw [h.t], by omega, fun _ => Nat.le_refl _⟩
  have HF := Lib.hid (And.intro hf (And.intro hn hlen))
  clear h hs hc hf hlen
  go_enter Tryz.func164, Tryz.ntmps164
  go_upto_region 1 with (fail)
  go_loopw [1] (fun v wr => ∃ (τr : Tt) (br : List Int) (f : Nat) (ao' : Option Addr) (n' c' : Nat), v = .slice ao' n' c' ∧ WrI w0 w γ τ s rd bs τr br f ao' n' c' wr) (fun v _ => sliceLen v)
  case atStart => exact ⟨_, _, _, _, _, _, rfl, HI.out⟩
  case round =>
    obtain ⟨τr, br, f, ao', n', c', rfl, hI⟩ := hrel
    have HW := Lib.hid hI
    clear hI HI
    rcases Nat.eq_zero_or_pos n' with rfl | hp
    · go_wp2_with fail
      go_ret
      have hI := HW.out
      obtain rfl : br = [] := List.eq_nil_of_length_eq_zero hI.src.len
      have hpl := hI.pl
      rw [writeP_nil] at hpl
      refine ⟨.nilIface, τr, rfl, .inl ⟨?_, rfl⟩, ?_, hI.fe⟩
      · unfold wrS; rw [← hpl]; rfl
      · unfold wrS; rw [← hpl]; exact hI.go
    · have hI := HW.out
      have hlen := hI.src.len
      have hfl := hI.fl
      have hfe0 := hI.fe0 hp
      have hle := hI.le
      have hfew := hI.few
      obtain ⟨f', rfl⟩ : ∃ f', f = f' + 1 := ⟨f - 1, by omega⟩
      have hpl := hI.pl
      rw [writeP, if_neg (by omega)] at hpl
      have hpt : (ptOf τr).c = τr.c := rfl
      rw [hpt] at hpl
      have hC := sWrite_any w0 wr γ τr _ rd ao' n' c' br hI.go.is hI.src (by have := HF.out; omega) (by have := HF.out; omega)
      unfold SWrPost at hC
      have hws := fun (hb : wrB τr.c.ws τr.c.wrote = true) (hl : ¬ τr.c.wrote < τr.c.ws.length) => wrN_all (ws := τr.c.ws) (k := τr.c.wrote) (n := br.length) (by omega)
      have hm := wrN_le τr.c.ws τr.c.wrote br.length
      have y0 : wr.cell? ⟨γ.bS, 0, none⟩ = some (.pointer (some ⟨τr.bT, 0, none⟩)) := by rw [cell_of_heap hI.go.is.S]; rfl
      obtain ⟨m, hmm⟩ : ∃ m : Nat, wrN τr.c.ws τr.c.wrote br.length = (m : Nat) := ⟨(wrN τr.c.ws τr.c.wrote br.length).toNat, by omega⟩
      rw [hmm] at hC hm hpl hws
      obtain ⟨bo, hbo⟩ : ∃ bo, wrB τr.c.ws τr.c.wrote = bo := ⟨_, rfl⟩
      rw [hbo] at hC hpl hws
      have hmn : m ≤ n' := by omega
      have HWS := Lib.hid hws
      have HPL := Lib.hid hpl
      have HL := Lib.hid (And.intro hlen (And.intro hfe0 hfl))
      clear hI hlen hfl hfe0 hpl hpt hws hm hmm hbo
      cases bo with
      | false =>
        have HC := Lib.hid hC
        clear hC
        go_wp2_with fail
        refine (HC.out).mono ?_
        rintro e w2 ⟨rfl, τ2, G2, h2, h3, h4⟩
        have HG := Lib.hid (And.intro G2 (And.intro h2 (And.intro h3 h4)))
        clear G2 h2 h3 h4
        go_wp2_with fail
        go_ret
        have hp2 : (false, wrOne (ptOf τr) br) = writeP bs.length s.t bs := by simpa using HPL.out
        refine ⟨_, τ2, rfl, ?_, ?_, ?_⟩
        · refine .inr ⟨4, w2.heap.size, ?_, rfl, alloc_heap w2 _, ?_, ?_⟩
          · rw [wrS_of hp2]; rfl
          · exact (HW.out.go.trans HG.out.1).c.size
          · exact HG.out.1.is.new (Nat.le_refl _)
        · rw [wrS_of hp2]
          have := HW.out.go.trans HG.out.1
          rw [HG.out.2.1] at this
          exact this.chg0 ((Chg.refl _ _).alloc _)
        · have := HG.out.2.2.1; have := HL.out; omega
      | true =>
        rcases Nat.eq_zero_or_pos m with rfl | hm0
        · have HC := Lib.hid hC
          clear hC
          go_wp2_with fail
          refine (HC.out).mono ?_
          rintro e w2 ⟨rfl, τ2, G2, h2, h3, h4⟩
          have HG := Lib.hid (And.intro G2 (And.intro h2 (And.intro h3 h4)))
          clear G2 h2 h3 h4
          go_wp2_with fail
          go_ret
          have hp2 : (false, wrOne (ptOf τr) br) = writeP bs.length s.t bs := by simpa using HPL.out
          refine ⟨_, τ2, rfl, ?_, ?_, ?_⟩
          · refine .inr ⟨4, w2.heap.size, ?_, rfl, alloc_heap w2 _, ?_, ?_⟩
            · rw [wrS_of hp2]; rfl
            · exact (HW.out.go.trans HG.out.1).c.size
            · exact HG.out.1.is.new (Nat.le_refl _)
          · rw [wrS_of hp2]
            have := HW.out.go.trans HG.out.1
            rw [HG.out.2.1] at this
            exact this.chg0 ((Chg.refl _ _).alloc _)
          · have := HG.out.2.2.1; have := HL.out; omega
        · have HC := Lib.hid hC
          have hm1 : (((m : Nat) : Int) == 0) = false := by rw [beq_eq_false_iff_ne]; omega
          clear hC
          obtain ⟨g, off, rfl, _⟩ := HW.out.src.src.int hp
          go_wp2_with fail
          refine (HC.out).mono ?_
          rintro e w2 ⟨rfl, τ2, G2, h2, h3, h4⟩
          have HG := Lib.hid (And.intro G2 (And.intro h2 (And.intro h3 h4)))
          clear G2 h2 h3 h4
          go_wp2_with fail
          have hI := HW.out
          have hL := HL.out
          have hp2 := HPL.out
          rw [if_neg (by simp; omega), show ((m : Nat) : Int).toNat = m by omega] at hp2
          have hS := (hI.src.from (k := m) hmn hle).go HG.out.1
          have hG := hI.go.trans HG.out.1
          have hg3 := HG.out.2.2.1
          have hg4 := HG.out.2.2.2
          have hws := HWS.out (by trivial)
          refine ⟨⟨τ2, br.drop m, f', _, n' - m, c' - m, rfl, ?_⟩, by simp [sliceLen]; omega⟩
          refine ⟨hG, ?_, by omega, by omega, by rw [List.length_drop]; omega, by rw [HG.out.2.1]; exact hp2, by omega, fun h0 => ?_⟩
          · unfold fromA at hS
            by_cases hck : c' = m
            · rw [if_pos hck] at hS ⊢; exact hS
            · rw [if_neg hck] at hS ⊢
              simp only [Option.map_some, Addr.add_lit] at hS
              exact hS
          · have : τr.c.wrote < τr.c.ws.length := Classical.byContradiction fun hc => by have := hws hc; omega
            have := hg4 this
            omega
end Go.Proofs.YtafmnkngjjnpiaaGreatDoor

namespace Go.Proofs.YtafmnkngjjnpiaaGreatDoor
set_option linter.unusedVariables false
set_option linter.unusedSimpArgs false
set_option maxRecDepth 100000
open Go.RowKit
theorem lineV_len (pr : ByteArray) (mode : Int) (count at' : Nat) (hp : pr.size ≤ 256) (hc : count ≤ 1024) : (lineV (bI pr) mode count at' decT).length ≤ 2000 := by
  have h1 := starsV_le mode count hc
  unfold lineV
  have h2 : (decT (starsV mode count - placeV mode count at')).length ≤ 21 := by
    unfold decT
    rw [List.length_map]
    exact Lib.itoa_length_le _ (by omega) (by omega)
  split
  · simp only [List.length_append, List.length_cons, List.length_nil, List.length_replicate, bI_length]
    omega
  · simp only [List.length_append, List.length_cons, List.length_nil, List.length_replicate, bI_length]
    omega
theorem ErrV.pre {γ : Gm} {τ' : Tt} {r : Option Int} {v : Value} {a b c : World} (h : ErrV γ τ' r v b c) (k : a.heap.size ≤ b.heap.size) : ErrV γ τ' r v a c := by
  rcases h with h | ⟨o, g, h1, h2, h3, h4, h5⟩
  · exact .inl h
  · exact .inr ⟨o, g, h1, h2, h3, Nat.le_trans k h4, h5⟩
theorem SPost.pre0 {w0 a b c : World} {γ : Gm} {τ : Tt} {rd : List Int} {R : Option Int × Ss} {k : Nat} {e : Ending} (h : SPost w0 γ τ rd R k b e c) (c0 : Chg [] a b) : SPost w0 γ τ rd R k a e c := by
  obtain ⟨v, τ', h1, h2, h3, h4⟩ := h
  exact ⟨v, τ', h1, h2.pre c0.size, SGo.pre0 c0 h3, h4⟩
theorem SrcF.of_new {w0 w w' : World} {γ : Gm} {τ : Tt} {s : Ss} {rd : List Int} {ao : Option Addr} {n c : Nat} {bs : List Int} (h : SesIs w0 w γ τ s rd) (c0 : Chg [] w w') (hs : SrcAt w' ao n c (valsOf .u8 bs)) (hb : ∀ ad, ao = some ad → w.heap.size ≤ ad.block) (hn : 0 < n ∨ ao = none) : SrcF γ τ w' ao n c bs := by
  refine ⟨hs, fun ad e => ⟨h.new (hb ad e), ?_⟩⟩
  rcases hn with hn | hn
  · obtain ⟨g, off, e2, hc⟩ := hs.int hn
    rw [e] at e2
    injection e2 with e2
    subst e2
    exact heap_of_cell hc
  · rw [hn] at e; cases e
set_option maxHeartbeats 8000000 in
theorem show_any (w0 w : World) (γ : Gm) (τ : Tt) (s : Ss) (rd : List Int) (h : SesIs w0 w γ τ s rd) (hf : fee τ ≤ 999999) :
    Calls Tryz.prog 166 #[.pointer (some ⟨γ.bS, 0, none⟩)] w (SPost w0 γ τ rd (showS γ.q s) 1 w) := by
  have HCN := Lib.hid (fun W (c : Chg [] w W) => count_buf γ.bE γ.eA γ.eC 1024 s.b W (h.B.chg0 c))
  have HAT := Lib.hid (fun W (c : Chg [] w W) => at_buf γ.bE γ.eA γ.eC 1024 s.b W (h.B.chg0 c))
  have h1 : charsB s.b.l s.b.at' ≤ charsB s.b.l s.b.l.length := charsB_mono _ h.B.le
  have h2 : charsB s.b.l s.b.l.length ≤ 1024 := Nat.le_trans (charsB_le _ _) h.B.ar.le
  have hv : showS γ.q s = wrS s (lineV (bI γ.pr) γ.mode (charsB s.b.l s.b.l.length) (charsB s.b.l s.b.at') decT) := rfl
  have HRD := Lib.hid (fun W (c : Chg [] w W) => render_any γ.pr γ.mode γ.room (charsB s.b.l s.b.l.length) (charsB s.b.l s.b.at') W h.K.ask h1 h2 (h.L.chg0 c))
  have hlen := lineV_len γ.pr γ.mode (charsB s.b.l s.b.l.length) (charsB s.b.l s.b.at') h.K.ask.len h2
  have hpos : 0 < (lineV (bI γ.pr) γ.mode (charsB s.b.l s.b.l.length) (charsB s.b.l s.b.at') decT).length := by unfold lineV; simp
  rw [hv]
  generalize charsB s.b.l s.b.l.length = cn at *
  generalize charsB s.b.l s.b.at' = ca at *
  generalize lineV (bI γ.pr) γ.mode cn ca decT = R at *
  have x1 : w.cell? ⟨γ.bS, 1, none⟩ = some (.string γ.pr) := by rw [cell_of_heap h.S]; rfl
  have x2 : w.cell? ⟨γ.bS, 2, none⟩ = some (.int .i64 γ.mode) := by rw [cell_of_heap h.S]; rfl
  have x3 : w.cell? ⟨γ.bS, 3, none⟩ = some (.int .i64 γ.room) := by rw [cell_of_heap h.S]; rfl
  have x5 : w.cell? ⟨γ.bS, 5, none⟩ = some (.pointer (some ⟨γ.bE, 0, none⟩)) := by rw [cell_of_heap h.S]; rfl
  have HH := Lib.hid (And.intro h (And.intro hf (And.intro hlen hpos)))
  clear h hf hv h1 h2 hlen hpos
  unfold askV at HRD
  go_enter Tryz.func166, Tryz.ntmps166
  go_upto_region 1 with (fail)
  go_region_held3 (fun w' => w'.cell? ⟨γ.bS, 1, none⟩ = some (.string γ.pr) ∧ w'.cell? ⟨γ.bS, 2, none⟩ = some (.int .i64 γ.mode) ∧ w'.cell? ⟨γ.bS, 3, none⟩ = some (.int .i64 γ.room) ∧ w'.cell? ⟨γ.bS, 5, none⟩ = some (.pointer (some ⟨γ.bE, 0, none⟩)))
    (first | exact ⟨x1, x2, x3, x5⟩ | exact ⟨C3.cell x1 (by simp), C3.cell x2 (by simp), C3.cell x3 (by simp), C3.cell x5 (by simp)⟩ | go_keep)
    (first
     | (go_at_call 177; refine (HCN.out _ (by first | exact Chg.refl [] w | exact (Chg.refl [] w).drew | exact (Chg.refl [] w).drewN _)).mono ?_; rintro e w2 ⟨rfl, rfl⟩)
     | (go_at_call 178; refine (HAT.out _ (by first | exact Chg.refl [] w | exact (Chg.refl [] w).drew | exact (Chg.refl [] w).drewN _)).mono ?_; rintro e w2 ⟨rfl, rfl⟩)
     | (go_at_call 176; refine (HRD.out _ (by first | exact Chg.refl [] w | exact (Chg.refl [] w).drew | exact (Chg.refl [] w).drewN _)).mono ?_; rintro e w3 ⟨ao, c, rfl, S3, B3, C3', hc3⟩; have C3 : Chg [] w w3 := (by first | exact C3' | exact C3'.of_drew | exact C3'.of_drewN)))
  have hh := HH.out
  have SF : SrcF γ τ w3 ao R.length c R := SrcF.of_new hh.1 C3 S3 B3 (.inl hh.2.2.2)
  have HWR := Lib.hid ((write_any w0 w3 γ τ s rd ao R.length c R (hh.1.chg0 C3) SF (by omega) hc3 hh.2.1).mono (fun e w' hp => SPost.pre0 hp C3))
  clear hh SF S3 B3 C3 C3' hc3 x1 x2 x3 x5 HRD HAT HCN
  go_wp2_with fail
  refine (HWR.out).mono ?_
  rintro e w4 ⟨v, τ', rfl, hE, hG, hF⟩
  have HP := Lib.hid (And.intro hE (And.intro hG hF))
  clear hE hG hF HWR
  go_wp2_with fail
  go_ret
  exact ⟨v, τ', rfl, HP.out.1, HP.out.2.1, HP.out.2.2⟩
set_option maxHeartbeats 8000000 in
theorem answer_any (w0 w : World) (γ : Gm) (τ : Tt) (s : Ss) (rd : List Int) (ch : Bool) (er : Int) (h : SesIs w0 w γ τ s rd) (hf : fee τ ≤ 999999) :
    Calls Tryz.prog 208 #[.pointer (some ⟨γ.bS, 0, none⟩), .bool ch, .int .i64 er] w (SPost w0 γ τ rd (ansS γ.q s ch er) 1 w) := by
  by_cases h4 : er = 4
  · subst h4
    have hv : ansS γ.q s ch 4 = wrS s [7] := rfl
    rw [hv]
    have HH := Lib.hid (And.intro h hf)
    clear h hf hv
    go_enter Tryz.func208, Tryz.ntmps208
    go_wp2_with fail
    refine (vBell_any w).mono ?_
    rintro e w3 ⟨ao, c, rfl, S3, B3, C3, hc3⟩
    have hh := HH.out
    have SF : SrcF γ τ w3 ao 1 c [7] := SrcF.of_new hh.1 C3 S3 B3 (.inl (by decide))
    have HWR := Lib.hid ((write_any w0 w3 γ τ s rd ao 1 c [7] (hh.1.chg0 C3) SF (by omega) hc3 hh.2).mono (fun e w' hp => SPost.pre0 hp C3))
    clear hh SF S3 B3 C3 hc3
    go_wp2_with fail
    refine (HWR.out).mono ?_
    rintro e w4 ⟨v, τ', rfl, hE, hG, hF⟩
    have HP := Lib.hid (And.intro hE (And.intro hG hF))
    clear hE hG hF HWR
    go_wp2_with fail
    go_ret
    exact ⟨v, τ', rfl, HP.out.1, HP.out.2.1, HP.out.2.2⟩
  · have t4 : (er == 4) = false := by rw [beq_eq_false_iff_ne]; exact h4
    cases ch with
    | true =>
      have hv : ansS γ.q s true er = showS γ.q s := by unfold ansS; rw [if_neg h4, if_pos rfl]
      rw [hv]
      have HS := Lib.hid (show_any w0 w γ τ s rd h hf)
      clear h hf hv h4
      go_enter Tryz.func208, Tryz.ntmps208
      go_wp2_with fail
      refine (HS.out).mono ?_
      rintro e w4 ⟨v, τ', rfl, hE, hG, hF⟩
      have HP := Lib.hid (And.intro hE (And.intro hG hF))
      clear hE hG hF HS
      go_wp2_with fail
      go_ret
      exact ⟨v, τ', rfl, HP.out.1, HP.out.2.1, HP.out.2.2⟩
    | false =>
      have hv : ansS γ.q s false er = (none, s) := by unfold ansS; rw [if_neg h4, if_neg (by decide)]
      rw [hv]
      have HH := Lib.hid h
      clear h hf hv h4
      go_enter Tryz.func208, Tryz.ntmps208
      go_wp2_with fail
      go_ret
      exact ⟨.nilIface, τ, rfl, .inl ⟨rfl, rfl⟩, SGo.refl HH.out, by omega⟩
end Go.Proofs.YtafmnkngjjnpiaaGreatDoor
