import Derived.Test.YtafmnkngjjnpiaaGreatDoorDefM
import Derived.Test.YtafmnkngjjnpiaaGreatDoorTqF
import Derived.LaidEql
import Derived.Stop.Asserts
import Derived.RowKitTokens
namespace Go.Proofs.YtafmnkngjjnpiaaGreatDoor
set_option linter.unusedVariables false
set_option linter.unusedSimpArgs false
set_option maxRecDepth 100000
open Go.RowKit
theorem least_ex {α : Type} (Q : Nat → α → Prop) : ∃ μ : α → Nat, ∀ a n, Q n a → Q (μ a) a ∧ μ a ≤ n := by
  have h1 : ∀ (a : α) (n : Nat), Q n a → ∃ m, Q m a ∧ ∀ k, Q k a → m ≤ k := by
    intro a n
    induction n using Nat.strongRecOn with
    | _ n ih =>
      intro h
      by_cases he : ∃ k, k < n ∧ Q k a
      · obtain ⟨k, hk, hq⟩ := he
        exact ih k hk hq
      · exact ⟨n, h, fun k hk => Nat.not_lt.1 fun hl => he ⟨k, hl, hk⟩⟩
  have h2 : ∀ a : α, ∃ m, ∀ n, Q n a → Q m a ∧ m ≤ n := by
    intro a
    by_cases he : ∃ n, Q n a
    · obtain ⟨n, hn⟩ := he
      obtain ⟨m, hm, hl⟩ := h1 a n hn
      exact ⟨m, fun k hk => ⟨hm, hl k hk⟩⟩
    · exact ⟨0, fun n hn => (he ⟨n, hn⟩).elim⟩
  exact Classical.axiomOfChoice h2
def bud (Z : List Zt) : Nat := (Z.map fun z => 1 + 2 * z.it.bs.length).sum
theorem bud_cons (z : Zt) (Z : List Zt) : bud (z :: Z) = 1 + 2 * z.it.bs.length + bud Z := by unfold bud; simp
def restZ (z : Zt) (Z : List Zt) : List Zt := if min 64 z.it.bs.length = z.it.bs.length then Z else z.cut (min 64 z.it.bs.length) :: Z
theorem cut_it (z : Zt) (k : Nat) : (z.cut k).it = { z.it with bs := z.it.bs.drop k } := rfl
theorem bud_rest (z : Zt) (Z : List Zt) : bud (restZ z Z) + min 64 z.it.bs.length < bud (z :: Z) := by
  unfold restZ
  rw [bud_cons]
  split
  · omega
  · rw [bud_cons, cut_it]
    simp only [List.length_drop]
    omega
theorem restZ_ok {z : Zt} {Z : List Zt} (h : ∀ x ∈ z :: Z, ZOk x) : ∀ x ∈ restZ z Z, ZOk x := by
  unfold restZ
  split
  · exact fun x hx => h x (List.mem_cons_of_mem _ hx)
  · intro x hx
    rcases List.mem_cons.1 hx with rfl | hx
    · have := h z (by simp)
      exact ⟨by rw [cut_it]; exact this.by'.drop _, by rw [cut_it]; exact this.kd⟩
    · exact h x (List.mem_cons_of_mem _ hx)
def SRdPost (w0 : World) (γ : Gm) (τ : Tt) (s : Ss) (w : World) (e : Ending) (w' : World) : Prop :=
  ∃ (τ' : Tt) (rd' : List Int) (m : Int), e = .returned (.tuple #[.int .i64 (readP s.t).1, .int .i64 m, .int .i64 (readP s.t).2.1]) ∧ rd' = (readP s.t).2.2.1 ∧ SGo w0 w γ τ τ' { s with t := (readP s.t).2.2.2 } rd' w' ∧ fee τ' ≤ fee τ + 1 ∧ (bud τ'.Z + rd'.length < bud τ.Z + (if (readP s.t).2.1 = 0 ∧ (readP s.t).1 = 0 then 0 else 1)) ∧ τ'.bT = τ.bT
theorem sRead_any (w0 w : World) (γ : Gm) (τ : Tt) (s : Ss) (rd : List Int) (h : SesIs w0 w γ τ s rd) (hf : fee τ ≤ 999999) :
    Calls Tryz.prog 179 #[.pointer (some ⟨τ.bT, 0, none⟩), .pointer (some ⟨γ.rA, 0, none⟩)] w (SRdPost w0 γ τ s w) := by
  have hR := h.rdok
  have hE : τ.E.length ≤ 1000000 := by unfold fee at hf; omega
  have ht := h.t
  have hz := h.by'
  have hcn := h.cnt
  obtain ⟨bT, v, μ, Z, c, A, E⟩ := τ
  cases Z with
  | nil =>
    have hv : readP s.t = (0, 6, [], { s.t with E := s.t.E ++ [plE 5 at0 [] 0 false] }) := by rw [ht]; rfl
    unfold SRdPost
    rw [hv]
    refine (tRead_none w0 w bT γ.rA γ.rC 64 v μ c A E rd hR (Nat.le_refl _) hE).mono ?_
    rintro e w' ⟨rfl, v', G⟩
    have hg := SGo.of_rd h G rfl (by simp only [List.length_append, List.length_cons, List.length_nil]; dsimp only at hcn; omega) hz (fun x hx => by cases hx)
    refine ⟨⟨bT, v', μ, [], c, A, E ++ [ef0 5 at0 0 false]⟩, [], _, rfl, rfl, ?_, ?_, ?_, rfl⟩
    · rw [ht]
      have : ptOf ⟨bT, v', μ, [], c, A, E ++ [ef0 5 at0 0 false]⟩ = { (ptOf ⟨bT, v, μ, [], c, A, E⟩) with E := (ptOf ⟨bT, v, μ, [], c, A, E⟩).E ++ [plE 5 at0 [] 0 false] } := by unfold ptOf; simp [EfD.pl, ef0, plE]
      rw [this] at hg
      exact hg
    · unfold fee; simp only [List.length_append, List.length_cons, List.length_nil]; omega
    · simp [bud]
  | cons z Z =>
    have hzz := hz z (by simp)
    rcases hzz.kd with hk | hk | hk
    · have hv : readP s.t = (0, 0, z.it.bs.take (min 64 z.it.bs.length), { s.t with its := (restZ z Z).map (·.it), E := s.t.E ++ [plE 3 at0 [] ((min 64 z.it.bs.length : Nat) : Int) true] }) := by
        rw [ht]
        unfold ptOf readP restZ
        simp only [List.map_cons]
        rw [if_neg (by rw [hk]; decide), if_neg (by rw [hk]; decide)]
        split <;> simp [cut_it]
      unfold SRdPost
      rw [hv]
      refine (tRead_dat w0 w bT γ.rA γ.rC 64 v μ z Z c A E rd _ _ _ hR (Nat.le_refl _) hE hk rfl rfl rfl).mono ?_
      rintro e w' ⟨rfl, v', mv, G⟩
      have hl : (z.it.bs.take (min 64 z.it.bs.length)).length = min 64 z.it.bs.length := by rw [List.length_take]; omega
      have hg := SGo.of_rd h G rfl (by simp only [List.length_append, List.length_cons, List.length_nil]; dsimp only at hcn; omega) (restZ_ok hz) (hzz.by'.take _)
      refine ⟨⟨bT, v', { μ with v := mv }, restZ z Z, c, A, E ++ [ef0 3 at0 ((min 64 z.it.bs.length : Nat) : Int) true]⟩, _, _, rfl, rfl, ?_, ?_, ?_, rfl⟩
      · rw [ht]
        have : ptOf ⟨bT, v', { μ with v := mv }, restZ z Z, c, A, E ++ [ef0 3 at0 ((min 64 z.it.bs.length : Nat) : Int) true]⟩ = { (ptOf ⟨bT, v, μ, z :: Z, c, A, E⟩) with its := (restZ z Z).map (·.it), E := (ptOf ⟨bT, v, μ, z :: Z, c, A, E⟩).E ++ [plE 3 at0 [] ((min 64 z.it.bs.length : Nat) : Int) true] } := by unfold ptOf; simp [EfD.pl, ef0, plE]
        have hg2 := hg
        unfold restZ at this
        rw [this] at hg2
        exact hg2
      · unfold fee; simp only [List.length_append, List.length_cons, List.length_nil]; omega
      · rw [hl]; simpa using bud_rest z Z
    · have hv : readP s.t = (1, 0, [], { s.t with its := Z.map (·.it), E := s.t.E ++ [plE 4 at0 [] z.it.n false] }) := by
        rw [ht]
        unfold ptOf readP
        simp only [List.map_cons]
        rw [if_pos hk]
      unfold SRdPost
      rw [hv]
      refine (tRead_sig w0 w bT γ.rA γ.rC 64 v μ z Z c A E rd hR (Nat.le_refl _) hE hk).mono ?_
      rintro e w' ⟨rfl, v', mv, G⟩
      have hg := SGo.of_rd h G rfl (by simp only [List.length_append, List.length_cons, List.length_nil]; dsimp only at hcn; omega) (fun x hx => hz x (List.mem_cons_of_mem _ hx)) (fun x hx => by cases hx)
      refine ⟨⟨bT, v', { μ with v := mv }, Z, c, A, E ++ [ef0 4 at0 z.it.n false]⟩, [], _, rfl, rfl, ?_, ?_, ?_, rfl⟩
      · rw [ht]
        have : ptOf ⟨bT, v', { μ with v := mv }, Z, c, A, E ++ [ef0 4 at0 z.it.n false]⟩ = { (ptOf ⟨bT, v, μ, z :: Z, c, A, E⟩) with its := Z.map (·.it), E := (ptOf ⟨bT, v, μ, z :: Z, c, A, E⟩).E ++ [plE 4 at0 [] z.it.n false] } := by unfold ptOf; simp [EfD.pl, ef0, plE]
        rw [this] at hg
        exact hg
      · unfold fee; simp only [List.length_append, List.length_cons, List.length_nil]; omega
      · rw [bud_cons]; simp; omega
    · have hv : readP s.t = (2, 5, [], { s.t with its := Z.map (·.it), E := s.t.E ++ [plE 3 at0 [] 0 false] }) := by
        rw [ht]
        unfold ptOf readP
        simp only [List.map_cons]
        rw [if_neg (by rw [hk]; decide), if_pos hk]
      unfold SRdPost
      rw [hv]
      refine (tRead_fault w0 w bT γ.rA γ.rC 64 v μ z Z c A E rd hR (Nat.le_refl _) hE hk).mono ?_
      rintro e w' ⟨rfl, v', mv, G⟩
      have hg := SGo.of_rd h G rfl (by simp only [List.length_append, List.length_cons, List.length_nil]; dsimp only at hcn; omega) (fun x hx => hz x (List.mem_cons_of_mem _ hx)) (fun x hx => by cases hx)
      refine ⟨⟨bT, v', { μ with v := mv }, Z, c, A, E ++ [ef0 3 at0 0 false]⟩, [], _, rfl, rfl, ?_, ?_, ?_, rfl⟩
      · rw [ht]
        have : ptOf ⟨bT, v', { μ with v := mv }, Z, c, A, E ++ [ef0 3 at0 0 false]⟩ = { (ptOf ⟨bT, v, μ, z :: Z, c, A, E⟩) with its := Z.map (·.it), E := (ptOf ⟨bT, v, μ, z :: Z, c, A, E⟩).E ++ [plE 3 at0 [] 0 false] } := by unfold ptOf; simp [EfD.pl, ef0, plE]
        rw [this] at hg
        exact hg
      · unfold fee; simp only [List.length_append, List.length_cons, List.length_nil]; omega
      · rw [bud_cons]; simp; omega
theorem round_none (q : Aq) {s : Ss} {kd : Int} {bs : List Int} {t' : Pt} (h : readP s.t = (kd, 6, bs, t')) :
    roundS q s = ((keysS q { t := t', b := s.b, g := s.g, d := ⟨[], s.d.p⟩ } (lastD s.d)).1.orElse (fun _ => some 2), (keysS q { t := t', b := s.b, g := s.g, d := ⟨[], s.d.p⟩ } (lastD s.d)).2) := by
  unfold roundS; rw [h]; rfl
theorem round_bad (q : Aq) {s : Ss} {kd er : Int} {bs : List Int} {t' : Pt} (h : readP s.t = (kd, er, bs, t')) (h6 : er ≠ 6) (h0 : er ≠ 0) : roundS q s = (some 4, { t := t', b := s.b, g := s.g, d := s.d }) := by
  unfold roundS; rw [h]; dsimp only; rw [if_neg h6, if_pos h0]
theorem round_sig (q : Aq) {s : Ss} {bs : List Int} {t' : Pt} (h : readP s.t = (1, 0, bs, t')) : roundS q s = (some 3, { t := t', b := s.b, g := s.g, d := s.d }) := by
  unfold roundS; rw [h]; rfl
theorem round_dat (q : Aq) {s : Ss} {kd : Int} {bs : List Int} {t' : Pt} (h : readP s.t = (kd, 0, bs, t')) (h1 : kd ≠ 1) : roundS q s = bytesS q { t := t', b := s.b, g := s.g, d := s.d } bs := by
  unfold roundS; rw [h]; dsimp only; rw [if_neg (by decide), if_neg (by decide), if_neg h1]
theorem round_kd {s : Ss} {kd : Int} {bs : List Int} {t' : Pt} (h : readP s.t = (kd, 0, bs, t')) (h1 : kd ≠ 1) : kd = 0 := by
  unfold readP at h
  split at h
  · injection h with _ h
    injection h with h _
    cases h
  · split at h
    · injection h with h _
      exact absurd h.symm h1
    · split at h
      · injection h with _ h
        injection h with h _
        cases h
      · injection h with h _
        exact h.symm
theorem bud_its (Z : List Zt) : bud Z = ((Z.map (·.it)).map fun x => 1 + 2 * x.bs.length).sum := by unfold bud; rw [List.map_map]; rfl
theorem writeP_its : ∀ (f : Nat) (t : Pt) (b : List Int), (writeP f t b).2.its = t.its
  | 0, t, b => rfl
  | f + 1, t, b => by
    rw [writeP]
    split
    · rfl
    · split
      · rfl
      · rw [writeP_its f]; rfl
theorem wrS_its (s : Ss) (b : List Int) : (wrS s b).2.t.its = s.t.its := writeP_its _ _ _
theorem ansS_its (q : Aq) (s : Ss) (c : Bool) (e : Int) : (ansS q s c e).2.t.its = s.t.its := by
  unfold ansS showS
  split
  · exact wrS_its _ _
  · split
    · exact wrS_its _ _
    · rfl
theorem keyS_its (q : Aq) (s : Ss) (k : Ky) : (keyS q s k).2.t.its = s.t.its := by
  unfold keyS
  split
  · rfl
  split
  · rw [ansS_its]
  split
  · rfl
  split
  · rfl
  split
  · rfl
  split
  · rfl
  split
  · unfold showS; exact wrS_its _ _
  · rw [ansS_its]
theorem keysS_its (q : Aq) : ∀ (ks : List Ky) (s : Ss), (keysS q s ks).2.t.its = s.t.its
  | [], s => rfl
  | k :: r, s => by
    rw [keysS]
    split
    · exact keyS_its q s k
    · rw [keysS_its q r, keyS_its]
theorem bytesS_its (q : Aq) : ∀ (l : List Int) (s : Ss), (bytesS q s l).2.t.its = s.t.its
  | [], s => rfl
  | c :: r, s => by
    rw [bytesS]
    split
    · unfold byteS; rw [keysS_its]
    · rw [bytesS_its q r]
      unfold byteS
      rw [keysS_its]
def LoopPost (w0 : World) (γ : Gm) (τ : Tt) (s : Ss) (w : World) (e : Ending) (w' : World) : Prop :=
  ∃ v τ' o s' rd', e = .returned v ∧ LoopR γ.q s o s' ∧ ErrV γ τ' (some o) v w w' ∧ SGo w0 w γ τ τ' s' rd' w' ∧ fee τ' ≤ fee τ + s.d.h.length + bud τ.Z + 2
def LoopI (w0 w : World) (γ : Gm) (τ : Tt) (s : Ss) (n : Nat) (wr : World) : Prop :=
  ∃ (τr : Tt) (sr : Ss) (rd : List Int), bud τr.Z = n ∧ SGo w0 w γ τ τr sr rd wr ∧ (∀ o s', LoopR γ.q sr o s' → LoopR γ.q s o s') ∧ fee τr + sr.d.h.length + bud τr.Z ≤ fee τ + s.d.h.length + bud τ.Z
theorem loop_out {w0 w w' : World} {γ : Gm} {τ τ' : Tt} {s sr s' : Ss} {rd' : List Int} {v : Value} {o : Int} (hL : ∀ o s', LoopR γ.q sr o s' → LoopR γ.q s o s') (hr : roundS γ.q sr = (some o, s')) (hE : ErrV γ τ' (some o) v w w') (G : SGo w0 w γ τ τ' s' rd' w') (hf : fee τ' ≤ fee τ + s.d.h.length + bud τ.Z + 2) :
    LoopPost w0 γ τ s w (.returned v) w' := ⟨v, τ', o, s', rd', rfl, hL o s' (.done hr), hE, G, hf⟩
theorem loop_end {w0 w w' : World} {γ : Gm} {τ τ' : Tt} {s sr s' : Ss} {rd' : List Int} {o : Int} (hL : ∀ o s', LoopR γ.q sr o s' → LoopR γ.q s o s') (hr : roundS γ.q sr = (some o, s')) (G : SGo w0 w γ τ τ' s' rd' w') (hf : fee τ' ≤ fee τ + s.d.h.length + bud τ.Z + 2) :
    LoopPost w0 γ τ s w (.returned (.iface 222 (.pointer (some ⟨w'.heap.size, 0, none⟩)))) (w'.alloc (.cells #[.int .i64 o] 229)) :=
  loop_out hL hr (.inr ⟨o, w'.heap.size, rfl, rfl, alloc_heap w' _, G.c.size, G.is.new (Nat.le_refl _)⟩) (G.chg0 ((Chg.refl _ _).alloc _)) hf
theorem lastD_len (d : Dc) : (lastD d).length ≤ 1 := by
  unfold lastD
  split
  · simp
  · split <;> simp
set_option maxHeartbeats 16000000 in
theorem loop_any (w0 w : World) (γ : Gm) (τ : Tt) (s : Ss) (rd : List Int) (h : SesIs w0 w γ τ s rd) (hf : fee τ + s.d.h.length + bud τ.Z ≤ 990000) :
    Calls Tryz.prog 167 #[.pointer (some ⟨γ.bS, 0, none⟩)] w (LoopPost w0 γ τ s w) := by
  obtain ⟨μ, hμ⟩ := least_ex (LoopI w0 w γ τ s)
  have HI : Hid (LoopI w0 w γ τ s (bud τ.Z) w) := Lib.hid ⟨τ, s, rd, rfl, SGo.refl h, fun _ _ hl => hl, Nat.le_refl _⟩
  have HM := Lib.hid hμ
  have HF := Lib.hid hf
  clear h hμ hf
  go_enter Tryz.func167, Tryz.ntmps167
  go_upto_region 1 with (fail)
  go_loopw [] (fun wr => ∃ n, LoopI w0 w γ τ s n wr) (fun wr => μ wr)
  case atStart => exact ⟨_, HI.out⟩
  case round =>
    obtain ⟨n, hI⟩ := hrel
    obtain ⟨hI, _⟩ := HM.out wr n hI
    obtain ⟨τr, sr, rdr, hn, hG, hL, hB⟩ := hI
    have hrd := sRead_any w0
    have y0 : wr.cell? ⟨γ.bS, 0, none⟩ = some (.pointer (some ⟨τr.bT, 0, none⟩)) := by rw [cell_of_heap hG.is.S]; rfl
    have y4 : wr.cell? ⟨γ.bS, 4, none⟩ = some (.pointer (some ⟨γ.rA, 0, none⟩)) := by rw [cell_of_heap hG.is.S]; rfl
    have HRD := Lib.hid (fun W (cW : Chg [] wr W) => sRead_any w0 W γ τr sr rdr (hG.is.chg0 cW) (by have := HF.out; omega))
    have hrs : roundS γ.q sr = roundS γ.q sr := rfl
    unfold roundS at hrs
    generalize hQ : readP sr.t = Q at *
    obtain ⟨kd, er, bs, t'⟩ := Q
    unfold SRdPost at HRD
    rw [hQ] at HRD
    dsimp only at HRD
    have HG := Lib.hid (And.intro hn (And.intro hG (And.intro hL hB)))
    have HQ := Lib.hid hQ
    clear hn hG hL hB hrs hrd hI hQ
    go_upto_region 1 with (fail)
    go_region_held3 (fun w' => w'.cell? ⟨γ.bS, 0, none⟩ = some (.pointer (some ⟨τr.bT, 0, none⟩)) ∧ w'.cell? ⟨γ.bS, 4, none⟩ = some (.pointer (some ⟨γ.rA, 0, none⟩)))
      (first | exact ⟨y0, y4⟩ | exact ⟨(by rw [← hbT, cell_of_heap G2.is.S]; rfl), (by rw [cell_of_heap G2.is.S]; rfl)⟩ | go_keep)
      (first
       | (go_at_call 179; refine (HRD.out _ (by first | exact Chg.refl [] wr | exact (Chg.refl [] wr).drew | exact (Chg.refl [] wr).drewN _)).mono ?_; rintro e w2 ⟨τ2, rd2, m, rfl, hrd2, G2', hfe2, hbu2, hbT⟩; have G2 := SGo.pre0 (by first | exact (Chg.refl [] wr) | exact (Chg.refl [] wr).drew | exact (Chg.refl [] wr).drewN _) G2'))
    subst hrd2
    have y7 : w2.cell? ⟨γ.bS, 7, none⟩ = some (.pointer (some ⟨γ.bD, 0, none⟩)) := by rw [cell_of_heap G2.is.S]; rfl
    have hG := HG.out
    have hGW := hG.2.1.trans G2
    by_cases h6 : er = 6
    · subst h6
      have hr := round_none γ.q HQ.out
      have hfin := finish_dec γ.bD γ.kA γ.kC 36 sr.d w2 G2.is.D
      have hll := lastD_len sr.d
      have hbz : bud τ2.Z ≤ bud τr.Z := by have := hbu2; rw [if_neg (by intro h; omega)] at this; omega
      generalize hks : lastD sr.d = ks at *
      have HW := Lib.hid (And.intro hGW (And.intro G2 (And.intro hfe2 (And.intro hr (And.intro hll hbz)))))
      have HFN := Lib.hid hfin
      clear hr hfin hll hks hGW G2 G2' hfe2 hbu2 hbT hG HRD y0 y4 hbz
      go_wp2_with fail
      refine (HFN.out).mono ?_
      rintro e w6 ⟨vv, rfl, hrow, hnew, C6, D6⟩
      have hW := HW.out
      have H6 := hW.2.1.is.dec C6 D6
      have hfree : ∀ x, vv.ownBlock = some x → ¬ Sown γ τ2 x ∧ w0.heap.size ≤ x ∧ x < w6.heap.size := fun x hx => by
        have h1 := hnew x hx
        have h2 := hW.2.1.is.c0.size
        exact ⟨hW.2.1.is.new h1, by omega, hrow.lt x hx⟩
      have hG6 := hW.1.trans (SGo.of_k H6 C6 (by have hk := H6.K; simp [hk.k4, hk.k9, hk.k10]))
      have hnw : ∀ x, vv.ownBlock = some x → w.heap.size ≤ x := fun x hx => by
        have h1 := hnew x hx
        have h2 := hW.1.c.size
        omega
      have hdo := sDo_any w0 w6 γ τ2 _ _ vv ks H6 hrow hfree (by omega) (by have := HF.out; have := HG.out.2.2.2; omega)
      have hrr := hW.2.2.2.1
      dsimp only at hdo
      generalize keysS γ.q { t := t', b := sr.b, g := sr.g, d := ⟨[], sr.d.p⟩ } ks = R at *
      obtain ⟨r, s2⟩ := R
      have HDO := Lib.hid hdo
      have HW6 := Lib.hid (And.intro hG6 (And.intro hnw hrr))
      clear hdo hrow hnew hfree C6 D6 H6 hG6 hnw hrr hW y7
      go_wp2_with fail
      refine (HDO.out).mono ?_
      rintro e w7 ⟨v, τ3, rfl, hE, is2, chg2, own2, fee2, bT2⟩
      have hG7 := HW6.out.1.doS is2 chg2 own2 bT2 HW6.out.2.1
      have HG7 := Lib.hid (And.intro hG7 fee2)
      have HE := Lib.hid hE
      clear is2 chg2 own2 fee2 hG7
      rcases hE with ⟨hr, rfl⟩ | ⟨o, ge, hr, rfl, _⟩
      · dsimp only at hr
        subst hr
        go_wp2_with fail
        go_ret
        have hW := HW.out
        have hg := HG7.out
        have hG := HG.out
        exact loop_end hG.2.2.1 HW6.out.2.2 hg.1 (by omega)
      · dsimp only at hr
        subst hr
        go_wp2_with fail
        go_ret
        have hW := HW.out
        have hg := HG7.out
        have hG := HG.out
        exact loop_out hG.2.2.1 HW6.out.2.2 (HE.out.pre HW6.out.1.c.size) hg.1 (by omega)
    · have t6 : (er == 6) = false := by rw [beq_eq_false_iff_ne]; exact h6
      by_cases h0 : er = 0
      · subst h0
        by_cases h1 : kd = 1
        · subst h1
          have hr := round_sig γ.q HQ.out
          have hbz : bud τ2.Z ≤ bud τr.Z := by have := hbu2; rw [if_neg (by intro h; omega)] at this; omega
          have HW := Lib.hid (And.intro hGW (And.intro hr (And.intro hfe2 hbz)))
          clear hr hGW G2 G2' hfe2 hbu2 hbT hG HRD y0 y4 y7 hbz h6
          go_wp2_with fail
          go_ret
          have hW := HW.out
          have hG := HG.out
          exact loop_end hG.2.2.1 hW.2.1 hW.1 (by omega)
        · have t1 : (kd == 1) = false := by rw [beq_eq_false_iff_ne]; exact h1
          have hr := round_dat γ.q HQ.out h1
          have hk0 := round_kd HQ.out h1
          subst hk0
          have hbz : bud τ2.Z + rd2.length < bud τr.Z := by have := hbu2; rw [if_pos ⟨rfl, rfl⟩] at this; omega
          have htk := take_any w0 w2 γ τ2 _ _ G2.is (by have := HF.out; have := hG.2.2.2; dsimp only; omega)
          have hit := bytesS_its γ.q rd2 { t := t', b := sr.b, g := sr.g, d := sr.d }
          have ht2 := G2.is.t
          generalize bytesS γ.q { t := t', b := sr.b, g := sr.g, d := sr.d } rd2 = R at *
          obtain ⟨r, s2⟩ := R
          unfold TakePost at htk
          dsimp only at htk hit ht2
          have HW := Lib.hid (And.intro hGW (And.intro hr (And.intro hfe2 (And.intro hbz (And.intro hit ht2)))))
          have HTK := Lib.hid htk
          clear hr hGW G2 G2' hfe2 hbu2 hbT hG HRD y0 y4 y7 hbz h6 h1 htk hit ht2
          go_wp2_with fail
          refine (HTK.out).mono ?_
          rintro e w7 ⟨v, τ3, rfl, hE, hG3, hfe3⟩
          have HG7 := Lib.hid (And.intro (HW.out.1.trans hG3) hfe3)
          have HE := Lib.hid hE
          clear hG3 hfe3
          rcases hE with ⟨hr, rfl⟩ | ⟨o, ge, hr, rfl, _⟩
          · subst hr
            go_wp2_with fail
            have hW := HW.out
            have hg := HG7.out
            have hG := HG.out
            have hbd : bud τ3.Z = bud τ2.Z := by
              rw [bud_its, bud_its, show τ3.Z.map (·.it) = s2.t.its by rw [hg.1.is.t]; rfl, show τ2.Z.map (·.it) = t'.its by rw [hW.2.2.2.2.2]; rfl, hW.2.2.2.2.1]
            have hI2 : LoopI w0 w γ τ s (bud τ3.Z) w7 := ⟨τ3, s2, rd2, rfl, hg.1, fun o s' hl => hG.2.2.1 o s' (.more hW.2.1 hl), by omega⟩
            have hm := HM.out w7 _ hI2
            exact ⟨⟨_, hI2⟩, by omega⟩
          · subst hr
            go_wp2_with fail
            go_ret
            have hW := HW.out
            have hg := HG7.out
            have hG := HG.out
            exact loop_out hG.2.2.1 hW.2.1 (HE.out.pre hW.1.c.size) hg.1 (by omega)
      · have t0 : (er != 0) = true := by rw [bne_iff_ne]; exact h0
        have hr := round_bad γ.q HQ.out h6 h0
        have hbz : bud τ2.Z ≤ bud τr.Z := by have := hbu2; rw [if_neg (by intro h; omega)] at this; omega
        have HW := Lib.hid (And.intro hGW (And.intro hr (And.intro hfe2 hbz)))
        clear hr hGW G2 G2' hfe2 hbu2 hbT hG HRD y0 y4 y7 hbz h6 h0
        go_wp2_with fail
        go_ret
        have hW := HW.out
        have hG := HG.out
        exact loop_end hG.2.2.1 hW.2.1 hW.1 (by omega)
end Go.Proofs.YtafmnkngjjnpiaaGreatDoor

namespace Go.Proofs.YtafmnkngjjnpiaaGreatDoor
set_option linter.unusedVariables false
set_option linter.unusedSimpArgs false
set_option maxRecDepth 100000
open Go.RowKit
def budI (l : List It) : Nat := (l.map fun x => 1 + 2 * x.bs.length).sum
theorem SesIs.bud {w0 w : World} {γ : Gm} {τ : Tt} {s : Ss} {rd : List Int} (h : SesIs w0 w γ τ s rd) : bud τ.Z = budI s.t.its := by
  rw [bud_its, h.t]; rfl
theorem write_new {w0 w w3 : World} {γ : Gm} {τ : Tt} {s : Ss} {rd : List Int} {ao : Option Addr} {c : Nat} {bs : List Int} (h : SesIs w0 w γ τ s rd) (hf : fee τ ≤ 999999) (C3 : Chg [] w w3) (S3 : SrcAt w3 ao bs.length c (valsOf .u8 bs)) (B3 : ∀ ad, ao = some ad → w.heap.size ≤ ad.block) (hc3 : bs.length ≤ c) (hp : 0 < bs.length) (hl : bs.length ≤ 1000) :
    Calls Tryz.prog 164 #[.pointer (some ⟨γ.bS, 0, none⟩), .slice ao bs.length c] w3 (SPost w0 γ τ rd (wrS s bs) 1 w) :=
  (write_any w0 w3 γ τ s rd ao bs.length c bs (h.chg0 C3) (SrcF.of_new h C3 S3 B3 (.inl hp)) (by omega) hc3 hf).mono (fun e w' hp => SPost.pre0 hp C3)
theorem ErrV.go {w0 a b c : World} {γ : Gm} {τ τ' : Tt} {s' : Ss} {rd' : List Int} {r : Option Int} {v : Value} (h : ErrV γ τ r v a b) (G : SGo w0 b γ τ τ' s' rd' c) : ErrV γ τ' r v a c := by
  rcases h with h | ⟨o, g, h1, h2, h3, h4, h5⟩
  · exact .inl h
  · obtain ⟨h6, h7⟩ := G.box ⟨h3, h5⟩
    exact .inr ⟨o, g, h1, h2, h6, h4, h7⟩
theorem wrS_o {s : Ss} {b : List Int} {o : Int} (h : (wrS s b).1 = some o) : o = 4 := by
  unfold wrS at h
  dsimp only at h
  split at h
  · cases h
  · injection h with h
    exact h.symm
def ByeQ (w0 : World) (γ : Gm) (τ : Tt) (s : Ss) (rd : List Int) (w w' : World) : Prop := ∃ τ', SGo w0 w γ τ τ' (byeS s) rd w' ∧ fee τ' ≤ fee τ + 2
set_option maxHeartbeats 8000000 in
theorem bye_any (w0 w : World) (γ : Gm) (τ : Tt) (s : Ss) (rd : List Int) (b1 : Nat) (h : SesIs w0 w γ τ s rd) (hf : fee τ ≤ 999990) (hb : w.heap[b1]? = some (.cells #[.pointer (some ⟨γ.bS, 0, none⟩)] 178 (0, 0)) ∧ ¬ Sown γ τ b1) :
    CallsD Tryz.prog 163 #[.pointer (some ⟨b1, 0, none⟩)] .returning w fun e u' w' => u' = .returning ∧ (∃ v, e = .returned v) ∧ ByeQ w0 γ τ s rd w w' := by
  have x0 : w.cell? ⟨b1, 0, none⟩ = some (.pointer (some ⟨γ.bS, 0, none⟩)) := by rw [cell_of_heap hb.1]; rfl
  have HH := Lib.hid (And.intro h (And.intro hf hb))
  clear h hf hb
  refine calledM Tryz.func163 rfl ?_
  simp only [Tryz.ntmps163, List.size_toArray, List.length_cons, List.length_nil, Nat.reduceAdd, Nat.reduceSub, Array.replicate_succ, Array.replicate_zero, List.push_toArray, List.append_toArray, List.nil_append, List.cons_append]
  go_upto_region 0 with (fail)
  go_region_held3 (fun w' => w'.cell? ⟨b1, 0, none⟩ = some (.pointer (some ⟨γ.bS, 0, none⟩)))
    (first | exact x0 | exact C3.cell x0 (by simp) | exact (by rw [cell_of_heap (G4.box HH.out.2.2).1]; rfl) | go_keep)
    (first
     | (go_at_call 31; refine (vStop_any _).mono ?_; rintro e w3 ⟨ao, c, rfl, S3, B3, C3', hc3⟩; have C3 : Chg [] w w3 := (by first | exact C3' | exact C3'.of_drew | exact C3'.of_drewN))
     | (go_at_call 164; refine (write_new HH.out.1 (by have := HH.out.2.1; omega) C3 S3 B3 hc3 (by decide) (by decide)).mono ?_; rintro e w4 ⟨v4, τ4, rfl, E4, G4, f4⟩))
  have HB4 := Lib.hid (G4.box HH.out.2.2)
  have y0 : w4.cell? ⟨b1, 0, none⟩ = some (.pointer (some ⟨γ.bS, 0, none⟩)) := by rw [cell_of_heap HB4.out.1]; rfl
  have HG4 := Lib.hid (And.intro G4 f4)
  clear x0 S3 B3 C3 C3' hc3 E4 G4 f4
  go_upto_region 1 with (fail)
  go_region_held3 (fun w' => w'.cell? ⟨b1, 0, none⟩ = some (.pointer (some ⟨γ.bS, 0, none⟩)))
    (first | exact y0 | exact C6.cell y0 (by simp) | exact (by rw [cell_of_heap (G7.box HB4.out).1]; rfl) | go_keep)
    (first
     | (go_at_call 165; refine (vClose_any _).mono ?_; rintro e w6 ⟨ao, c, rfl, S6, B6, C6', hc6⟩; have C6 : Chg [] w4 w6 := (by first | exact C6' | exact C6'.of_drew | exact C6'.of_drewN))
     | (go_at_call 164; refine (write_new HG4.out.1.is (by have := HH.out.2.1; have := HG4.out.2; omega) C6 S6 B6 hc6 (by decide) (by decide)).mono ?_; rintro e w7 ⟨v7, τ7, rfl, E7, G7, f7⟩))
  have HG7 := Lib.hid (And.intro G7 f7)
  clear y0 S6 B6 C6 C6' hc6 E7 G7 f7
  go_wp2_with fail
  go_end0
  exact ⟨⟨_, rfl⟩, τ7, HG4.out.1.trans HG7.out.1, by have := HG4.out.2; have := HG7.out.2; omega⟩
theorem bye_runs (b1 : Nat) (w : World) : (invoke (.fn (Fn.func 163) #[.pointer (some ⟨b1, 0, none⟩)]) #[]).run Tryz.prog w = .ok (.enter 163 #[.pointer (some ⟨b1, 0, none⟩)]) w := by kernel_rfl
def TalkPost (w0 : World) (γ : Gm) (τ : Tt) (s : Ss) (w : World) (e : Ending) (w' : World) : Prop :=
  ∃ v τ' o s' rd', e = .returned v ∧ TalkR γ.q s o s' ∧ ErrV γ τ' (some o) v w w' ∧ SGo w0 w γ τ τ' s' rd' w' ∧ fee τ' ≤ fee τ + s.d.h.length + budI s.t.its + 8
theorem talk_leave {w0 w w' : World} {γ : Gm} {τ τ' : Tt} {s s' : Ss} {rd' : List Int} {b1 : Nat} {tmps : Array Value} {rv : Value} {o : Int} (hr : tmps.getD 2 undef = rv) (hT : TalkR γ.q s o (byeS s')) (hE : ErrV γ τ' (some o) rv w w') (G : SGo w0 w γ τ τ' s' rd' w')
    (hb : w'.heap[b1]? = some (.cells #[.pointer (some ⟨γ.bS, 0, none⟩)] 178 (0, 0)) ∧ ¬ Sown γ τ' b1) (hf : fee τ' ≤ fee τ + s.d.h.length + budI s.t.its + 6) (hf9 : fee τ' ≤ 999990) :
    LeavesM Tryz.prog Tryz.f140 tmps (TalkPost w0 γ τ s w) [{ target := .fn (Fn.func 163) #[.pointer (some ⟨b1, 0, none⟩)], args := #[] }] w' := by
  have hr' : tmps[2]?.getD undef = rv := by simpa using hr
  refine LeavesM.fn (bye_runs b1 w') (bye_any w0 w' γ τ' s' rd' b1 G.is hf9 hb) (fun w2 ⟨τ2, G2, f2⟩ => LeavesM.none (v := rv) ?_ ⟨rv, τ2, o, byeS s', rd', rfl, hT, hE.go G2, G.trans G2, by omega⟩)
  simp [results, Tryz.results140, go_sem, hr']
set_option maxHeartbeats 8000000 in
theorem talk_any (w0 w : World) (γ : Gm) (τ : Tt) (s : Ss) (rd : List Int) (h : SesIs w0 w γ τ s rd) (hf : fee τ + s.d.h.length + budI s.t.its ≤ 980000) :
    Calls Tryz.prog 140 #[.pointer (some ⟨γ.bS, 0, none⟩)] w (TalkPost w0 γ τ s w) := by
  have C1 : Chg [] w (w.alloc (.cells #[.pointer (some ⟨γ.bS, 0, none⟩)] 178)) := (Chg.refl _ _).alloc _
  have X1 := alloc_heap w (.cells #[.pointer (some ⟨γ.bS, 0, none⟩)] 178)
  have hnw : ¬ Sown γ τ w.heap.size := h.new (Nat.le_refl _)
  have hsd1 := keyS_d
  have HH := Lib.hid (And.intro h (And.intro C1 (And.intro (And.intro X1 hnw) hf)))
  have x0 : (w.alloc (.cells #[.pointer (some ⟨γ.bS, 0, none⟩)] 178)).cell? ⟨w.heap.size, 0, none⟩ = some (.pointer (some ⟨γ.bS, 0, none⟩)) := by rw [cell_of_heap X1]; rfl
  clear h C1 X1 hnw hf hsd1
  refine calls_of_wp_m Tryz.func140 rfl ?_
  simp only [Tryz.ntmps140, List.size_toArray, List.length_cons, List.length_nil, Nat.reduceAdd, Nat.reduceSub, Array.replicate_succ, Array.replicate_zero, List.push_toArray, List.append_toArray, List.nil_append, List.cons_append]
  go_upto_region 2 with (fail)
  generalize hw1 : w.alloc _ = w1 at *
  go_region_held3 (fun w' => w'.cell? ⟨w.heap.size, 0, none⟩ = some (.pointer (some ⟨γ.bS, 0, none⟩)))
    (first | exact x0 | exact C3.cell x0 (by simp) | exact (by rw [cell_of_heap (G4.box HH.out.2.2.1).1]; rfl) | go_keep)
    (first
     | (go_at_call 30; refine (vStart_any _).mono ?_; rintro e w3 ⟨ao, c, rfl, S3, B3, C3', hc3⟩; have C3 : Chg [] w1 w3 := (by first | exact C3' | exact C3'.of_drew | exact C3'.of_drewN))
     | (go_at_call 164; refine (write_new (HH.out.1.chg0 HH.out.2.1) (by have := HH.out.2.2.2; omega) C3 S3 B3 hc3 (by decide) (by decide)).mono ?_; rintro e w4 ⟨v4, τ4, rfl, E4, G4, f4⟩))
  have HB4 := Lib.hid (G4.box HH.out.2.2.1)
  have y0 : w4.cell? ⟨w.heap.size, 0, none⟩ = some (.pointer (some ⟨γ.bS, 0, none⟩)) := by rw [cell_of_heap HB4.out.1]; rfl
  have HG4 := Lib.hid (And.intro (SGo.pre0 HH.out.2.1 G4) (And.intro f4 (E4.pre HH.out.2.1.size)))
  clear x0 S3 B3 C3 C3' hc3 G4 f4
  rcases E4 with ⟨hr, rfl⟩ | ⟨o, ge, hr, rfl, _⟩
  · have HR := Lib.hid hr
    have hd4 : (wrS s startV).2.d = s.d := rfl
    have hi4 := wrS_its s startV
    have HSH := Lib.hid (show_any w0 w4 γ τ4 (wrS s startV).2 rd HG4.out.1.is (by have := HH.out.2.2.2; have := HG4.out.2.1; omega))
    have hd5 : (showS γ.q (wrS s startV).2).2.d = s.d := rfl
    have hi5 : (showS γ.q (wrS s startV).2).2.t.its = s.t.its := (wrS_its (wrS s startV).2 _).trans hi4
    have HD := Lib.hid (And.intro hd5 hi5)
    clear hr hd4 hi4 hd5 hi5
    go_wp2_with fail
    refine (HSH.out).mono ?_
    rintro e w5 ⟨v5, τ5, rfl, E5, G5, f5⟩
    have HB5 := Lib.hid (G5.box HB4.out)
    have z0 : w5.cell? ⟨w.heap.size, 0, none⟩ = some (.pointer (some ⟨γ.bS, 0, none⟩)) := by rw [cell_of_heap HB5.out.1]; rfl
    have HG5 := Lib.hid (And.intro (HG4.out.1.trans G5) (And.intro f5 (E5.pre HG4.out.1.c.size)))
    clear y0 G5 f5 HSH
    rcases E5 with ⟨hr5, rfl⟩ | ⟨o, ge, hr5, rfl, _⟩
    · have HR5 := Lib.hid hr5
      have hbd := HG5.out.1.is.bud
      rw [HD.out.2] at hbd
      have HLP := Lib.hid (loop_any w0 w5 γ τ5 (showS γ.q (wrS s startV).2).2 rd HG5.out.1.is (by rw [HD.out.1, hbd]; have := HH.out.2.2.2; have := HG4.out.2.1; have := HG5.out.2.1; omega))
      have HBD := Lib.hid hbd
      clear hr5 hbd
      go_wp2_with fail
      refine (HLP.out).mono ?_
      rintro e w6 ⟨v6, τ6, o6, s6, rd6, rfl, L6, E6, G6, f6⟩
      have HB6 := Lib.hid (G6.box HB5.out)
      have HG6 := Lib.hid (And.intro L6 (And.intro (HG5.out.1.trans G6) (And.intro f6 (E6.pre HG5.out.1.c.size))))
      clear z0 L6 G6 f6 E6 HLP
      go_wp2_with fail
      have hg := HG6.out
      have hf6 := hg.2.2.1
      rw [HD.out.1, HBD.out] at hf6
      have q1 := HG4.out.2.1
      have q2 := HG5.out.2.1
      have q3 := HH.out.2.2.2
      exact talk_leave rfl (.loop HR.out HR5.out hg.1) hg.2.2.2 hg.2.1 HB6.out (by omega) (by omega)
    · have HR5 := Lib.hid hr5
      clear hr5
      go_wp2_with fail
      have hg := HG5.out
      have q1 := HG4.out.2.1
      have q2 := HG5.out.2.1
      have q3 := HH.out.2.2.2
      have ho : o = 4 := wrS_o HR5.out
      subst ho
      exact talk_leave rfl (.show HR.out HR5.out) (by rw [← HR5.out]; exact hg.2.2) hg.1 HB5.out (by omega) (by omega)
  · have HR := Lib.hid hr
    clear hr
    go_wp2_with fail
    have hg := HG4.out
    have q1 := HG4.out.2.1
    have q3 := HH.out.2.2.2
    have ho : o = 4 := wrS_o HR.out
    subst ho
    exact talk_leave rfl (.start HR.out) (by rw [← HR.out]; exact hg.2.2) hg.1 HB4.out (by omega) (by omega)
end Go.Proofs.YtafmnkngjjnpiaaGreatDoor

namespace Go.Proofs.YtafmnkngjjnpiaaGreatDoor
set_option linter.unusedVariables false
set_option linter.unusedSimpArgs false
set_option maxRecDepth 100000
open Go.RowKit Go.Extern.Stop Go.Stop Go.Extern
/-! ### CLOSED FACTS ON THE MODEL's ENTRIES FOR internal/reflectlite, at this program's types: 25: *p.E · 27: **p.E · 23: error · 45: reflectlite's rtype · 1: how many package-level variables the dump has -/
theorem asx_valueOf27 (t : Addr) (w : World) : (ReflectliteValue.unpack (.iface 227 (.pointer (some t)))).run Tryz.prog w
    = .ok (.agg #[.pointer (some ⟨8, 227, none⟩), .pointer (some ⟨w.heap.size, 0, none⟩), .int .u64 150]) (w.alloc (.cells #[.pointer (some t)] 227)) := by kernel_rfl
theorem asx_type27 (a : Addr) (w : World) : (ReflectliteValue.methodAny (ReflectliteValue.valueError "reflectlite.Value.Type" 0) (fun t _ _ _ => ReflectliteType.toType t) #[.agg #[.pointer (some ⟨8, 227, none⟩), .pointer (some a), .int .u64 150]]).run Tryz.prog w
    = .ok (.iface 275 (.agg #[.pointer (some ⟨8, 227, none⟩)])) w := by kernel_rfl
theorem asx_methodKind (h : Value) (w : World) : (Go.method 457 275 (.agg #[h]) "Kind").run Tryz.prog w = .ok (229, h) w := by kernel_rfl
theorem asx_kind27 (w : World) : ((ReflectliteType.abiMethod fun t => (fun a : Nat => Value.int IntKind.u8 (a : Int)) <$> Rtype.kind t) #[.pointer (some ⟨8, 227, none⟩)]).run Tryz.prog w = .ok (.int .u8 22) w := by kernel_rfl
theorem asx_kind25 (w : World) : ((ReflectliteType.abiMethod fun t => (fun a : Nat => Value.int IntKind.u8 (a : Int)) <$> Rtype.kind t) #[.pointer (some ⟨8, 222, none⟩)]).run Tryz.prog w = .ok (.int .u8 22) w := by kernel_rfl
/-! ### THE ENTRIES THAT READ OR WRITE MEMORY: laws with a premise on the cell (after Derived/Lib/ReflectliteSlice.lean's manner: each unfolding a lemma of its own, by rfl) -/
theorem rlm (z : Sem Value) (f : TypeId → Addr → Nat → Nat → Sem Value) (v : Value) :
    ReflectliteValue.method z f #[v] = (do match ← ReflectliteValue.parts v with | none => z | some (t, a, fl) => f t a fl (fl % 32)) := rfl
theorem asx_parts27 (a : Addr) (w : World) : (ReflectliteValue.parts (.agg #[.pointer (some ⟨8, 227, none⟩), .pointer (some a), .int .u64 150])).run Tryz.prog w = .ok (some (227, a, 150)) w := by kernel_rfl
theorem asx_isNil27 (a p : Addr) (W : World) (ha : W.cell? a = some (.pointer (some p))) :
    (ReflectliteValue.method (ReflectliteValue.valueError "reflectlite.Value.IsNil" 0) ReflectliteValue.isNil #[.agg #[.pointer (some ⟨8, 227, none⟩), .pointer (some a), .int .u64 150]]).run Tryz.prog W = .ok (.bool false) W := by
  rw [rlm]
  simp only [Sem.run_bind, asx_parts27, Result.andThen]
  simp [ReflectliteValue.isNil, loadVar, isAgg, underlying, Tryz.underlying227, ha, Result.andThen]
theorem asx_methodElem (h : Value) (w : World) : (Go.method 457 275 (.agg #[h]) "Elem").run Tryz.prog w = .ok (260, .agg #[h]) w := by kernel_rfl
theorem asx_methodImplements (h : Value) (w : World) : (Go.method 457 275 (.agg #[h]) "Implements").run Tryz.prog w = .ok (261, .agg #[h]) w := by kernel_rfl
theorem asx_methodAssignableTo (h : Value) (w : World) : (Go.method 457 275 (.agg #[h]) "AssignableTo").run Tryz.prog w = .ok (258, .agg #[h]) w := by kernel_rfl
theorem asx_elem27 (w : World) : (ReflectliteType.method ReflectliteType.elem #[.agg #[.pointer (some ⟨8, 227, none⟩)]]).run Tryz.prog w = .ok (.iface 275 (.agg #[.pointer (some ⟨8, 222, none⟩)])) w := by kernel_rfl
theorem asx_implements25 (w : World) : (ReflectliteType.relation "Implements" ReflectliteType.implements_ #[.agg #[.pointer (some ⟨8, 222, none⟩)], .iface 275 (.agg #[.pointer (some ⟨8, 225, none⟩)])]).run Tryz.prog w = .ok (.bool true) w := by kernel_rfl
theorem asx_typeOf25 (v : Value) (w : World) : (ReflectliteType.typeOf #[.iface 222 v]).run Tryz.prog w = .ok (.iface 275 (.agg #[.pointer (some ⟨8, 222, none⟩)])) w := by kernel_rfl
theorem asx_assignable25 (w : World) : (ReflectliteType.relation "AssignableTo" ReflectliteType.assignableTo #[.agg #[.pointer (some ⟨8, 222, none⟩)], .iface 275 (.agg #[.pointer (some ⟨8, 222, none⟩)])]).run Tryz.prog w = .ok (.bool true) w := by kernel_rfl
theorem asx_valueOf25 (e : Addr) (w : World) : (ReflectliteValue.unpack (.iface 222 (.pointer (some e)))).run Tryz.prog w
    = .ok (.agg #[.pointer (some ⟨8, 222, none⟩), .pointer (some ⟨w.heap.size, 0, none⟩), .int .u64 150]) (w.alloc (.cells #[.pointer (some e)] 222)) := by kernel_rfl
theorem asx_elemOf27 (w : World) : (Rtype.elem? 227).run Tryz.prog w = .ok (some 222) w := by kernel_rfl
theorem asx_mk25 (p : Addr) (w : World) : (ReflectliteValue.mk 222 p ReflectliteValue.flagAddr).run Tryz.prog w = .ok (.agg #[.pointer (some ⟨8, 222, none⟩), .pointer (some p), .int .u64 406]) w := by kernel_rfl
theorem asx_elemV27 (a p : Addr) (W : World) (ha : W.cell? a = some (.pointer (some p))) :
    (ReflectliteValue.method (ReflectliteValue.valueError "reflectlite.Value.Elem" 0) ReflectliteValue.elem #[.agg #[.pointer (some ⟨8, 227, none⟩), .pointer (some a), .int .u64 150]]).run Tryz.prog W
      = .ok (.agg #[.pointer (some ⟨8, 222, none⟩), .pointer (some p), .int .u64 406]) W := by
  rw [rlm]
  simp only [Sem.run_bind, asx_parts27, Result.andThen]
  simp [ReflectliteValue.elem, loadVar, isAgg, underlying, Tryz.underlying227, ha, Result.andThen, asx_elemOf27, asx_mk25]
theorem rls (v x : Value) : ReflectliteValue.set #[v, x] = (do
    let (some (dst, a, fl), some (src, b, _)) := (← ReflectliteValue.parts v, ← ReflectliteValue.parts x)
      | unsupported (.noEntry "extern/(internal/reflectlite.Value).Set.zeroValue")
    if fl / ReflectliteValue.flagAddr % 2 == 0 then unsupported (.noEntry "extern/(internal/reflectlite.Value).Set.unaddressable")
    let val ← loadVar src b
    if ← Rtype.directlyAssignable dst src then storeVar dst a val
    else if ← Rtype.implements dst src then
      if (← Rtype.kind src) == 20 then
        match val with
        | .nilIface => unsupported (.noEntry "extern/reflectlite: a nil value of one interface type handed on as a value of another")
        | _ => storeVar dst a val
      else storeVar dst a (.iface src val)
    else panicString ("reflectlite.Set: value of type " ++ (← Rtype.spelt src) ++ " is not assignable to type " ++ (← Rtype.spelt dst))
    pure (.tuple #[])) := rfl
theorem asx_parts25a (a : Addr) (w : World) : (ReflectliteValue.parts (.agg #[.pointer (some ⟨8, 222, none⟩), .pointer (some a), .int .u64 406])).run Tryz.prog w = .ok (some (222, a, 406)) w := by kernel_rfl
theorem asx_parts25 (a : Addr) (w : World) : (ReflectliteValue.parts (.agg #[.pointer (some ⟨8, 222, none⟩), .pointer (some a), .int .u64 150])).run Tryz.prog w = .ok (some (222, a, 150)) w := by kernel_rfl
theorem asx_direct25 (w : World) : (Rtype.directlyAssignable 222 222).run Tryz.prog w = .ok true w := by kernel_rfl
theorem asx_set25 (ta b e : Addr) (old : Value) (W : World) (hb : W.cell? b = some (.pointer (some e))) (ht : W.cell? ta = some old) (hf : W.frozen? ta = false) :
    (ReflectliteValue.set #[.agg #[.pointer (some ⟨8, 222, none⟩), .pointer (some ta), .int .u64 406], .agg #[.pointer (some ⟨8, 222, none⟩), .pointer (some b), .int .u64 150]]).run Tryz.prog W
      = .ok (.tuple #[]) (W.setCell ta (.pointer (some e))) := by
  rw [rls]
  simp only [Sem.run_bind, asx_parts25a, asx_parts25, Result.andThen]
  simp [ReflectliteValue.flagAddr, loadVar, isAgg, underlying, Tryz.underlying222, hb, Result.andThen, asx_direct25, storeVar, Value.cells, storeCells, Addr.add]
  rw [run_store Tryz.prog W ta _ _ (by rfl)]
  simp [ht, hf]
set_option maxHeartbeats 4000000 in
theorem as_hit (e t : Addr) (old : Value) (w : World) (hg : w.cell? ⟨3, 0, none⟩ = some (.iface 275 (.agg #[.pointer (some ⟨8, 225, none⟩)]))) (ht0 : w.cell? t = some old) (hf0 : w.frozen? t = false) :
    Calls Tryz.prog 139 #[.iface 222 (.pointer (some e)), .iface 227 (.pointer (some t))] w fun ev w' => ev = .returned (.bool true) ∧ w' = ((((w.alloc (.cells #[.pointer (some t)] 227)).alloc (.cells #[.pointer (some ⟨8, 227, none⟩), .pointer (some ⟨w.heap.size, 0, none⟩), .int .u64 150] 257)).alloc (.cells #[.pointer (some ⟨8, 227, none⟩), .pointer (some ⟨w.heap.size, 0, none⟩), .int .u64 150] 257)).alloc (.cells #[.pointer (some e)] 222)).setCell t (.pointer (some e)) := by
  have h6 := @run_callFunc_extern Tryz.prog 159 _ (fun args => ReflectliteValue.unpack (args.getD 0 (.tuple #[]))) Tryz.func159 (by kernel_rfl) (by kernel_rfl) (by kernel_rfl) (by kernel_rfl)
  have h7 := @run_callFunc_extern Tryz.prog 160 _ (ReflectliteValue.methodAny (ReflectliteValue.valueError "reflectlite.Value.Type" 0) (fun t _ _ _ => ReflectliteType.toType t)) Tryz.func160 (by kernel_rfl) (by kernel_rfl) (by kernel_rfl) (by kernel_rfl)
  have h8 := @run_callFunc_extern Tryz.prog 161 _ (ReflectliteValue.method (ReflectliteValue.valueError "reflectlite.Value.IsNil" 0) ReflectliteValue.isNil) Tryz.func161 (by kernel_rfl) (by kernel_rfl) (by kernel_rfl) (by kernel_rfl)
  have h27 := @run_callFunc_extern Tryz.prog 229 _ (ReflectliteType.abiMethod fun t => do pure (.int .u8 (← Rtype.kind t))) Tryz.func229 (by kernel_rfl) (by kernel_rfl) (by kernel_rfl) (by kernel_rfl)
  have h37 := @run_callFunc_extern Tryz.prog 260 _ (ReflectliteType.method ReflectliteType.elem) Tryz.func260 (by kernel_rfl) (by kernel_rfl) (by kernel_rfl) (by kernel_rfl)
  have h38 := @run_callFunc_extern Tryz.prog 261 _ (ReflectliteType.relation "Implements" ReflectliteType.implements_) Tryz.func261 (by kernel_rfl) (by kernel_rfl) (by kernel_rfl) (by kernel_rfl)
  have h10 := @run_callFunc_extern Tryz.prog 172 _ ReflectliteType.typeOf Tryz.func172 (by kernel_rfl) (by kernel_rfl) (by kernel_rfl) (by kernel_rfl)
  have h35 := @run_callFunc_extern Tryz.prog 258 _ (ReflectliteType.relation "AssignableTo" ReflectliteType.assignableTo) Tryz.func258 (by kernel_rfl) (by kernel_rfl) (by kernel_rfl) (by kernel_rfl)
  have h11 := @run_callFunc_extern Tryz.prog 173 _ (ReflectliteValue.method (ReflectliteValue.valueError "reflectlite.Value.Elem" 0) ReflectliteValue.elem) Tryz.func173 (by kernel_rfl) (by kernel_rfl) (by kernel_rfl) (by kernel_rfl)
  have h12 := @run_callFunc_extern Tryz.prog 174 _ ReflectliteValue.set Tryz.func174 (by kernel_rfl) (by kernel_rfl) (by kernel_rfl) (by kernel_rfl)
  have tO := asx_typeOf25
  have mA := asx_methodAssignableTo
  have a25 := asx_assignable25
  have v25 := asx_valueOf25
  have f6 := asx_valueOf27
  have f7 := asx_type27
  have mK := asx_methodKind
  have mE := asx_methodElem
  have mI := asx_methodImplements
  have k27 := asx_kind27
  have k25 := asx_kind25
  have e27 := asx_elem27
  have i25 := asx_implements25
  have n8 := asx_isNil27 ⟨w.heap.size, 0, none⟩ t ((w.alloc (.cells #[.pointer (some t)] 227)).alloc (.cells #[.pointer (some ⟨8, 227, none⟩), .pointer (some ⟨w.heap.size, 0, none⟩), .int .u64 150] 257)) (by simp)
  have hlt : 3 < w.heap.size := by
    rcases Nat.lt_or_ge 3 w.heap.size with h | h
    · exact h
    · simp [World.cell?, Array.getElem?_eq_none h] at hg
  have hg2 : ((w.alloc (.cells #[.pointer (some t)] 227)).alloc (.cells #[.pointer (some ⟨8, 227, none⟩), .pointer (some ⟨w.heap.size, 0, none⟩), .int .u64 150] 257)).cell? ⟨3, 0, none⟩ = some (.iface 275 (.agg #[.pointer (some ⟨8, 225, none⟩)])) := by
    rw [World.cell?_alloc_lt _ _ ⟨3, 0, none⟩ (by simp; omega), World.cell?_alloc_lt _ _ ⟨3, 0, none⟩ hlt]; exact hg
  have htl : t.block < w.heap.size := by
    rcases Nat.lt_or_ge t.block w.heap.size with h | h
    · exact h
    · simp [World.cell?, Array.getElem?_eq_none h] at ht0
  have el := asx_elemV27 ⟨w.heap.size, 0, none⟩ t (((w.alloc (.cells #[.pointer (some t)] 227)).alloc (.cells #[.pointer (some ⟨8, 227, none⟩), .pointer (some ⟨w.heap.size, 0, none⟩), .int .u64 150] 257)).alloc (.cells #[.pointer (some ⟨8, 227, none⟩), .pointer (some ⟨w.heap.size, 0, none⟩), .int .u64 150] 257)) (by rw [World.cell?_alloc_lt _ _ ⟨w.heap.size, 0, none⟩ (by simp; omega)]; simp)
  have st := asx_set25 t ⟨w.heap.size + 1 + 1 + 1, 0, none⟩ e old ((((w.alloc (.cells #[.pointer (some t)] 227)).alloc (.cells #[.pointer (some ⟨8, 227, none⟩), .pointer (some ⟨w.heap.size, 0, none⟩), .int .u64 150] 257)).alloc (.cells #[.pointer (some ⟨8, 227, none⟩), .pointer (some ⟨w.heap.size, 0, none⟩), .int .u64 150] 257)).alloc (.cells #[.pointer (some e)] 222))
    (by rw [World.cell?_alloc_at _ _ _ _ (by simp)]; rfl)
    (by rw [World.cell?_alloc_lt _ _ t (by simp; omega), World.cell?_alloc_lt _ _ t (by simp; omega), World.cell?_alloc_lt _ _ t (by simp; omega), World.cell?_alloc_lt _ _ t htl]; exact ht0)
    (by rw [World.frozen?_alloc_old _ _ t (by simp; omega), World.frozen?_alloc_old _ _ t (by simp; omega), World.frozen?_alloc_old _ _ t (by simp; omega), World.frozen?_alloc_old _ _ t (Nat.ne_of_lt htl)]; exact hf0)
  go_enter Tryz.func139, Tryz.ntmps139
  go_wp2
  refine wp_loop_rounds 1 ?_
  rw [rounds_succ]
  go_wp2
  go_ret
  exact ⟨rfl, rfl⟩
end Go.Proofs.YtafmnkngjjnpiaaGreatDoor
