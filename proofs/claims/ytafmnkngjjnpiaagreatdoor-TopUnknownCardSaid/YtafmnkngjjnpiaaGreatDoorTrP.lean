import Derived.Test.YtafmnkngjjnpiaaGreatDoorTrE
import Derived.Test.YtafmnkngjjnpiaaGreatDoorTqW
namespace Go.Proofs.YtafmnkngjjnpiaaGreatDoor
set_option maxRecDepth 100000
set_option linter.unusedVariables false
set_option linter.unusedSimpArgs false
structure Sim (s1 s2 : Ss) : Prop where
  b : s1.b = s2.b
  g : s1.g = s2.g
  d : s1.d = s2.d
  o : outP s1.t.E = outP s2.t.E
  w1 : s1.t.c.ws = [] ∧ s1.t.c.ss = []
  w2 : s2.t.c.ws = [] ∧ s2.t.c.ss = []
theorem wrB_all {ws : List Int} (h : ws = []) (k : Nat) : wrB ws k = true := by subst h; rfl
theorem wrN_full {ws : List Int} (h : ws = []) (k n : Nat) : wrN ws k n = n := wrN_all (by rw [h]; exact Nat.zero_le _)
theorem writeP_whole (t : Pt) (h : t.c.ws = [] ∧ t.c.ss = []) (b : List Int) : (writeP b.length t b).1 = true ∧ outP (writeP b.length t b).2.E = outP t.E ++ b ∧ ((writeP b.length t b).2.c.ws = [] ∧ (writeP b.length t b).2.c.ss = []) ∧ (writeP b.length t b).2.its = t.its := by
  cases b with
  | nil => exact ⟨rfl, by show outP t.E = _; rw [List.append_nil], h, rfl⟩
  | cons x r =>
    rw [List.length_cons]
    unfold writeP
    rw [if_neg (by simp), if_neg (by rw [wrB_all h.1, wrN_full h.1]; simp; omega), wrN_full h.1]
    have e : (x :: r).drop (Int.toNat (((x :: r).length : Nat) : Int)) = [] := by rw [Int.toNat_natCast]; exact List.drop_eq_nil_of_le (Nat.le_refl _)
    rw [e, writeP_nil]
    refine ⟨rfl, ?_, h, rfl⟩
    show outP (t.E ++ [_]) = _
    rw [outP_append, wrN_full h.1]
    have : outP [plE 2 at0 (x :: r) (((x :: r).length : Nat) : Int) (wrB t.c.ws t.c.wrote)] = x :: r := by
      unfold outP
      rw [List.flatMap_cons, List.flatMap_nil, List.append_nil]
      show wrP (2, _, _, _, x :: r, (((x :: r).length : Nat) : Int), _) = _
      unfold wrP tookP
      rw [if_pos rfl]
      dsimp only
      rw [show (max 0 (min (((x :: r).length : Nat) : Int) (((x :: r).length : Nat) : Int))).toNat = (x :: r).length by omega]
      exact List.take_length
    rw [this]
theorem wrS_sim {s1 s2 : Ss} (h : Sim s1 s2) (b : List Int) : (wrS s1 b).1 = none ∧ (wrS s2 b).1 = none ∧ Sim (wrS s1 b).2 (wrS s2 b).2 ∧ (wrS s1 b).2.t.its = s1.t.its ∧ (wrS s2 b).2.t.its = s2.t.its := by
  have x1 := writeP_whole s1.t h.w1 b
  have x2 := writeP_whole s2.t h.w2 b
  unfold wrS
  dsimp only
  rw [if_pos x1.1, if_pos x2.1]
  exact ⟨rfl, rfl, ⟨h.b, h.g, h.d, by rw [x1.2.1, x2.2.1, h.o], x1.2.2.1, x2.2.2.1⟩, x1.2.2.2, x2.2.2.2⟩
structure Sims (s1 s2 : Ss) (r1 r2 : Option Int × Ss) : Prop where
  e : r1.1 = r2.1
  s : Sim r1.2 r2.2
  i1 : r1.2.t.its = s1.t.its
  i2 : r2.2.t.its = s2.t.its
theorem wrS_sims {s1 s2 : Ss} (h : Sim s1 s2) (b : List Int) : Sims s1 s2 (wrS s1 b) (wrS s2 b) := by
  have := wrS_sim h b
  exact ⟨this.1.trans this.2.1.symm, this.2.2.1, this.2.2.2.1, this.2.2.2.2⟩
theorem Sims.same {s1 s2 : Ss} (o : Option Int) (h : Sim s1 s2) : Sims s1 s2 (o, s1) (o, s2) := ⟨rfl, h, rfl, rfl⟩
theorem showS_sims (q : Aq) {s1 s2 : Ss} (h : Sim s1 s2) : Sims s1 s2 (showS q s1) (showS q s2) := by
  unfold showS
  rw [h.b]
  exact wrS_sims h _
theorem ansS_sims (q : Aq) {s1 s2 : Ss} (h : Sim s1 s2) (c : Bool) (e : Int) : Sims s1 s2 (ansS q s1 c e) (ansS q s2 c e) := by
  unfold ansS
  by_cases h1 : e = 4
  · rw [if_pos h1, if_pos h1]
    exact wrS_sims h _
  · rw [if_neg h1, if_neg h1]
    by_cases h2 : c = true
    · rw [if_pos h2, if_pos h2]
      exact showS_sims q h
    · rw [if_neg h2, if_neg h2]
      exact Sims.same none h
theorem keyS_sims (q : Aq) {s1 s2 : Ss} (h : Sim s1 s2) (k : Ky) : Sims s1 s2 (keyS q s1 k) (keyS q s2 k) := by
  obtain ⟨t1, b1, g1, d1⟩ := s1
  obtain ⟨t2, b2, g2, d2⟩ := s2
  obtain ⟨hb, hg, hd, ho, w1, w2⟩ := h
  dsimp only at hb hg hd ho w1 w2
  subst hb hg hd
  unfold keyS
  dsimp only
  by_cases h1 : k.kind = 13
  · rw [if_pos h1, if_pos h1]
    exact ⟨rfl, ⟨rfl, rfl, rfl, ho, w1, w2⟩, rfl, rfl⟩
  rw [if_neg h1, if_neg h1]
  by_cases h2 : k.kind = 14
  · rw [if_pos h2, if_pos h2]
    have := ansS_sims q (s1 := ⟨t1, (endS 1024 g1 b1).2.2, (endS 1024 g1 b1).2.1, d1⟩) (s2 := ⟨t2, (endS 1024 g1 b1).2.2, (endS 1024 g1 b1).2.1, d1⟩) ⟨rfl, rfl, rfl, ho, w1, w2⟩ true (endS 1024 g1 b1).1
    exact ⟨this.e, this.s, this.i1, this.i2⟩
  rw [if_neg h2, if_neg h2]
  by_cases h3 : g1.begun = true
  · rw [if_pos h3, if_pos h3]
    exact ⟨rfl, ⟨rfl, rfl, rfl, ho, w1, w2⟩, rfl, rfl⟩
  rw [if_neg h3, if_neg h3]
  by_cases h4 : k.kind = 1
  · rw [if_pos h4, if_pos h4]
    exact ⟨rfl, ⟨rfl, rfl, rfl, ho, w1, w2⟩, rfl, rfl⟩
  rw [if_neg h4, if_neg h4]
  by_cases h5 : k.kind = 11
  · rw [if_pos h5, if_pos h5]
    exact ⟨rfl, ⟨rfl, rfl, rfl, ho, w1, w2⟩, rfl, rfl⟩
  rw [if_neg h5, if_neg h5]
  by_cases h6 : k.kind = 12
  · rw [if_pos h6, if_pos h6]
    exact ⟨rfl, ⟨rfl, rfl, rfl, ho, w1, w2⟩, rfl, rfl⟩
  rw [if_neg h6, if_neg h6]
  by_cases h7 : k.kind = 10
  · rw [if_pos h7, if_pos h7]
    exact showS_sims q ⟨rfl, rfl, rfl, ho, w1, w2⟩
  rw [if_neg h7, if_neg h7]
  have := ansS_sims q (s1 := ⟨t1, (doB 1024 b1 k).2.2, g1, d1⟩) (s2 := ⟨t2, (doB 1024 b1 k).2.2, g1, d1⟩) ⟨rfl, rfl, rfl, ho, w1, w2⟩ (doB 1024 b1 k).1 (doB 1024 b1 k).2.1
  exact ⟨this.e, this.s, this.i1, this.i2⟩
theorem keysS_sims (q : Aq) : ∀ (l : List Ky) {s1 s2 : Ss}, Sim s1 s2 → Sims s1 s2 (keysS q s1 l) (keysS q s2 l)
  | [], s1, s2, h => Sims.same none h
  | k :: r, s1, s2, h => by
    have x := keyS_sims q h k
    unfold keysS
    rw [x.e]
    cases hk : (keyS q s2 k).1 with
    | some o => exact ⟨rfl, x.s, x.i1, x.i2⟩
    | none =>
      have y := keysS_sims q r x.s
      exact ⟨y.e, y.s, y.i1.trans x.i1, y.i2.trans x.i2⟩
theorem byteS_sims (q : Aq) {s1 s2 : Ss} (h : Sim s1 s2) (c : Int) : Sims s1 s2 (byteS q s1 c) (byteS q s2 c) := by
  unfold byteS
  rw [h.d]
  have := keysS_sims q (feedD 36 s2.d c).1 (s1 := { s1 with d := (feedD 36 s2.d c).2 }) (s2 := { s2 with d := (feedD 36 s2.d c).2 }) ⟨h.b, h.g, rfl, h.o, h.w1, h.w2⟩
  exact ⟨this.e, this.s, this.i1, this.i2⟩
theorem bytesS_sims (q : Aq) : ∀ (l : List Int) {s1 s2 : Ss}, Sim s1 s2 → Sims s1 s2 (bytesS q s1 l) (bytesS q s2 l)
  | [], s1, s2, h => Sims.same none h
  | k :: r, s1, s2, h => by
    have x := byteS_sims q h k
    unfold bytesS
    rw [x.e]
    cases hk : (byteS q s2 k).1 with
    | some o => exact ⟨rfl, x.s, x.i1, x.i2⟩
    | none =>
      have y := bytesS_sims q r x.s
      exact ⟨y.e, y.s, y.i1.trans x.i1, y.i2.trans x.i2⟩
theorem bytesS_cons (q : Aq) (s : Ss) (c : Int) (r : List Int) : bytesS q s (c :: r) = match (byteS q s c).1 with
    | some o => (some o, (byteS q s c).2)
    | none => bytesS q (byteS q s c).2 r := rfl
theorem bytesS_none (q : Aq) {s : Ss} {c : Int} (r : List Int) (h : (byteS q s c).1 = none) : bytesS q s (c :: r) = bytesS q (byteS q s c).2 r := by rw [bytesS_cons, h]
theorem bytesS_some (q : Aq) {s : Ss} {c : Int} (r : List Int) {o : Int} (h : (byteS q s c).1 = some o) : bytesS q s (c :: r) = (some o, (byteS q s c).2) := by rw [bytesS_cons, h]
theorem bytesS_on (q : Aq) : ∀ (l m : List Int) (s : Ss), (bytesS q s l).1 = none → bytesS q s (l ++ m) = bytesS q (bytesS q s l).2 m
  | [], m, s, _ => rfl
  | k :: r, m, s, h => by
    cases hk : (byteS q s k).1 with
    | some o =>
      rw [bytesS_some q r hk] at h
      cases h
    | none =>
      rw [bytesS_none q r hk] at h ⊢
      rw [List.cons_append, bytesS_none q _ hk]
      exact bytesS_on q r m _ h
theorem bytesS_out (q : Aq) : ∀ (l m : List Int) (s : Ss) (o : Int), (bytesS q s l).1 = some o → bytesS q s (l ++ m) = bytesS q s l
  | [], m, s, o, h => by cases h
  | k :: r, m, s, o, h => by
    cases hk : (byteS q s k).1 with
    | some o2 =>
      rw [List.cons_append, bytesS_some q _ hk, bytesS_some q _ hk]
    | none =>
      rw [bytesS_none q r hk] at h ⊢
      rw [List.cons_append, bytesS_none q _ hk]
      exact bytesS_out q r m _ o h
def finS (q : Aq) (r : Option Int × Ss) : Int × Ss := match r.1 with
  | some o => (o, r.2)
  | none => (((keysS q { r.2 with d := ⟨[], r.2.d.p⟩ } (lastD r.2.d)).1.getD 2), (keysS q { r.2 with d := ⟨[], r.2.d.p⟩ } (lastD r.2.d)).2)
def flatI (l : List It) : List Int := l.flatMap (·.bs)
theorem outP_no (E : List Pl) {y : Pl} (h : y.1 ≠ 2) : outP (E ++ [y]) = outP E := by
  rw [outP_append]
  have : outP [y] = [] := by
    unfold outP
    rw [List.flatMap_cons, List.flatMap_nil, List.append_nil]
    unfold wrP
    rw [if_neg h]
  rw [this, List.append_nil]
theorem finS_none (q : Aq) (s : Ss) : finS q (none, s) = (((keysS q { s with d := ⟨[], s.d.p⟩ } (lastD s.d)).1.getD 2), (keysS q { s with d := ⟨[], s.d.p⟩ } (lastD s.d)).2) := rfl
theorem finS_some (q : Aq) (o : Int) (s : Ss) : finS q (some o, s) = (o, s) := rfl
theorem round_flat {q : Aq} {s s2 : Ss} (hk : ∀ x ∈ s.t.its, x.kind = 0) (hs : Sim s s2) :
    (s.t.its = [] ∧ (roundS q s).1 = some (finS q (none, s2)).1 ∧ Sim (roundS q s).2 (finS q (none, s2)).2) ∨
    ∃ ch its', flatI s.t.its = ch ++ flatI its' ∧ (∀ x ∈ its', x.kind = 0) ∧ (roundS q s).1 = (bytesS q s2 ch).1 ∧ Sim (roundS q s).2 (bytesS q s2 ch).2 ∧ (roundS q s).2.t.its = its' := by
  obtain ⟨⟨its, c, A, E⟩, b, g, d⟩ := s
  dsimp only at hk hs ⊢
  cases its with
  | nil =>
    refine Or.inl ⟨rfl, ?_⟩
    have x := keysS_sims q (lastD d) (s1 := ⟨⟨[], c, A, E ++ [plE 5 at0 [] 0 false]⟩, b, g, ⟨[], d.p⟩⟩) (s2 := { s2 with d := ⟨[], d.p⟩ })
      ⟨hs.b, hs.g, rfl, by show outP (E ++ [_]) = _; rw [outP_no E (show (5 : Int) ≠ 2 by decide)]; exact hs.o, hs.w1, hs.w2⟩
    have hd : s2.d = d := hs.d.symm
    rw [finS_none, hd]
    have hr : roundS q ⟨⟨[], c, A, E⟩, b, g, d⟩ = ((keysS q ⟨⟨[], c, A, E ++ [plE 5 at0 [] 0 false]⟩, b, g, ⟨[], d.p⟩⟩ (lastD d)).1.orElse (fun _ => some 2), (keysS q ⟨⟨[], c, A, E ++ [plE 5 at0 [] 0 false]⟩, b, g, ⟨[], d.p⟩⟩ (lastD d)).2) := rfl
    rw [hr]
    refine ⟨?_, x.s⟩
    show Option.orElse _ _ = _
    rw [x.e]
    cases (keysS q { s2 with d := ⟨[], d.p⟩ } (lastD d)).1 <;> rfl
  | cons y r =>
    have y0 : y.kind = 0 := hk y List.mem_cons_self
    have hrd : readP ⟨y :: r, c, A, E⟩ = (0, 0, y.bs.take (min 64 y.bs.length), ⟨if min 64 y.bs.length = y.bs.length then r else { y with bs := y.bs.drop (min 64 y.bs.length) } :: r, c, A, E ++ [plE 3 at0 [] ((min 64 y.bs.length : Nat) : Int) true]⟩) := by
      unfold readP
      dsimp only
      rw [if_neg (show ¬ y.kind = 1 by rw [y0]; decide), if_neg (show ¬ y.kind = 2 by rw [y0]; decide)]
    have hr : roundS q ⟨⟨y :: r, c, A, E⟩, b, g, d⟩ = bytesS q ⟨⟨if min 64 y.bs.length = y.bs.length then r else { y with bs := y.bs.drop (min 64 y.bs.length) } :: r, c, A, E ++ [plE 3 at0 [] ((min 64 y.bs.length : Nat) : Int) true]⟩, b, g, d⟩ (y.bs.take (min 64 y.bs.length)) := by
      unfold roundS
      dsimp only
      rw [hrd]
      rfl
    have x := bytesS_sims q (y.bs.take (min 64 y.bs.length)) (s1 := ⟨⟨if min 64 y.bs.length = y.bs.length then r else { y with bs := y.bs.drop (min 64 y.bs.length) } :: r, c, A, E ++ [plE 3 at0 [] ((min 64 y.bs.length : Nat) : Int) true]⟩, b, g, d⟩) (s2 := s2)
      ⟨hs.b, hs.g, hs.d, by show outP (E ++ [_]) = _; rw [outP_no E (show (3 : Int) ≠ 2 by decide)]; exact hs.o, hs.w1, hs.w2⟩
    rw [hr]
    refine Or.inr ⟨y.bs.take (min 64 y.bs.length), if min 64 y.bs.length = y.bs.length then r else { y with bs := y.bs.drop (min 64 y.bs.length) } :: r, ?_, ?_, x.e, x.s, x.i1⟩
    · unfold flatI
      rw [List.flatMap_cons]
      split
      · rename_i h
        rw [h, List.take_length]
      · rw [List.flatMap_cons, ← List.append_assoc]
        dsimp only
        rw [List.take_append_drop]
    · intro z hz
      split at hz
      · exact hk z (List.mem_cons_of_mem _ hz)
      · rcases List.mem_cons.1 hz with rfl | hz
        · exact y0
        · exact hk z (List.mem_cons_of_mem _ hz)
theorem loop_flat {q : Aq} {s s' : Ss} {o : Int} (h : LoopR q s o s') : (∀ x ∈ s.t.its, x.kind = 0) → ∀ s2, Sim s s2 → (finS q (bytesS q s2 (flatI s.t.its))).1 = o ∧ Sim s' (finS q (bytesS q s2 (flatI s.t.its))).2 := by
  induction h with
  | @done s o s' h =>
    intro hk s2 hs
    rcases round_flat hk hs with ⟨h0, h1, h2⟩ | ⟨ch, its', hf, _, h1, h2, _⟩
    · rw [h] at h1 h2
      rw [h0]
      injection h1 with h1
      exact ⟨h1.symm, h2⟩
    · rw [h] at h1 h2
      rw [hf, bytesS_out q ch _ s2 o h1.symm, show bytesS q s2 ch = (some o, (bytesS q s2 ch).2) from Prod.ext h1.symm rfl, finS_some]
      exact ⟨rfl, h2⟩
  | @more s s1 s' o h _ ih =>
    intro hk s2 hs
    rcases round_flat hk hs with ⟨h0, h1, h2⟩ | ⟨ch, its', hf, hk', h1, h2, hi⟩
    · rw [h] at h1
      cases h1
    · rw [h] at h1 h2 hi
      rw [hf, bytesS_on q ch _ s2 h1.symm]
      dsimp only at hi
      have := ih (by rw [hi]; exact hk') _ h2
      rw [hi] at this
      exact this
theorem byeS_sim {s1 s2 : Ss} (h : Sim s1 s2) : Sim (byeS s1) (byeS s2) := (wrS_sims (wrS_sims h stopV).s closeV).s
def Alike (q : Aq) (f1 f2 : List Int) : Prop := ∀ s : Ss, s.d = ⟨[], false⟩ → s.g.begun = false → s.t.c.ws = [] ∧ s.t.c.ss = [] → bytesS q s f1 = bytesS q s f2
theorem talk_sim {q : Aq} {s1 s2 s1' s2' : Ss} {o1 o2 : Int} (h1 : TalkR q s1 o1 s1') (h2 : TalkR q s2 o2 s2') (hs : Sim s1 s2) (k1 : ∀ x ∈ s1.t.its, x.kind = 0) (k2 : ∀ x ∈ s2.t.its, x.kind = 0)
    (hd : s1.d = ⟨[], false⟩) (hg : s1.g.begun = false) (hf : Alike q (flatI s1.t.its) (flatI s2.t.its)) : o1 = o2 ∧ Sim s1' s2' := by
  have a := wrS_sim hs startV
  have b := showS_sims q a.2.2.1
  have w2 := wrS_sim a.2.2.1 (lineV q.pr q.mode (charsB (wrS s1 startV).2.b.l (wrS s1 startV).2.b.l.length) (charsB (wrS s1 startV).2.b.l (wrS s1 startV).2.b.at') decT)
  have n1 : (showS q (wrS s1 startV).2).1 = none := w2.1
  have n2 : (showS q (wrS s2 startV).2).1 = none := b.e.symm.trans n1
  cases h1 with
  | start h => rw [a.1] at h; cases h
  | «show» h h' => rw [n1] at h'; cases h'
  | loop h h' l1 =>
    cases h2 with
    | start h => rw [a.2.1] at h; cases h
    | «show» h h' => rw [n2] at h'; cases h'
    | loop h h' l2 =>
      have i1 : (showS q (wrS s1 startV).2).2.t.its = s1.t.its := b.i1.trans a.2.2.2.1
      have i2 : (showS q (wrS s2 startV).2).2.t.its = s2.t.its := b.i2.trans a.2.2.2.2
      have r1 := loop_flat l1 (by rw [i1]; exact k1) _ b.s
      have r2 := loop_flat l2 (by rw [i2]; exact k2) (showS q (wrS s2 startV).2).2 ⟨rfl, rfl, rfl, rfl, b.s.w2, b.s.w2⟩
      rw [i1] at r1
      rw [i2] at r2
      have e := hf (showS q (wrS s2 startV).2).2 (by rw [← b.s.d]; exact hd) (by rw [← b.s.g]; exact hg) b.s.w2
      rw [e] at r1
      refine ⟨r1.1.symm.trans r2.1, byeS_sim ⟨r1.2.b.trans r2.2.b.symm, r1.2.g.trans r2.2.g.symm, r1.2.d.trans r2.2.d.symm, r1.2.o.trans r2.2.o.symm, r1.2.w1, r2.2.w1⟩⟩
theorem getP_nil {t : Pt} (h : t.c.gs = []) : (getP t).1 = true := by
  unfold getP
  dsimp only
  rw [h]
  simp
theorem setP_nil {t : Pt} (B : At3) (h : t.c.ss = []) : (setP t B).1 = true := by
  unfold setP
  dsimp only
  rw [h]
  simp
theorem begin_sim {s1 s2 : Ss} (hs : Sim s1 s2) (g1 : s1.t.c.gs = []) (g2 : s2.t.c.gs = []) : Sim { s1 with t := (setP (getP s1.t).2 (rawA s1.t.A)).2 } { s2 with t := (setP (getP s2.t).2 (rawA s2.t.A)).2 } := by
  refine ⟨hs.b, hs.g, hs.d, ?_, hs.w1, hs.w2⟩
  dsimp only
  rw [(set_shape _ _).1, (set_shape _ _).1, outP_no _ (show (1 : Int) ≠ 2 by decide), outP_no _ (show (1 : Int) ≠ 2 by decide), (get_ok (getP_nil g1)).1, (get_ok (getP_nil g2)).1, outP_no _ (show (0 : Int) ≠ 2 by decide), outP_no _ (show (0 : Int) ≠ 2 by decide)]
  exact hs.o
theorem all_sim {q : Aq} {s1 s2 s1' s2' : Ss} {o1 o2 : Int} (h1 : AllR q s1 o1 s1') (h2 : AllR q s2 o2 s2') (hs : Sim s1 s2) (k1 : ∀ x ∈ s1.t.its, x.kind = 0) (k2 : ∀ x ∈ s2.t.its, x.kind = 0)
    (g1 : s1.t.c.gs = []) (g2 : s2.t.c.gs = [])
    (hd : s1.d = ⟨[], false⟩) (hg : s1.g.begun = false) (hf : Alike q (flatI s1.t.its) (flatI s2.t.its)) : o1 = o2 ∧ s1'.b = s2'.b ∧ outP s1'.t.E = outP s2'.t.E := by
  cases h1 with
  | get h => rw [getP_nil g1] at h; cases h
  | raw h h' => rw [setP_nil (t := (getP s1.t).2) _ hs.w1.2] at h'; cases h'
  | talk h h' t1 =>
    cases h2 with
    | get h => rw [getP_nil g2] at h; cases h
    | raw h h' => rw [setP_nil (t := (getP s2.t).2) _ hs.w2.2] at h'; cases h'
    | talk h h' t2 =>
      have r := talk_sim t1 t2 (begin_sim hs g1 g2) k1 k2 hd hg hf
      rw [setP_nil _ r.2.w1.2, setP_nil _ r.2.w2.2, if_pos rfl, if_pos rfl]
      refine ⟨r.1, r.2.b, ?_⟩
      dsimp only
      rw [(set_shape _ _).1, (set_shape _ _).1, outP_no _ (show (1 : Int) ≠ 2 by decide), outP_no _ (show (1 : Int) ≠ 2 by decide)]
      exact r.2.o
end Go.Proofs.YtafmnkngjjnpiaaGreatDoor
