/-
  Layer 16: what New does with one item, told of memory.
-/
import Derived.Test.YtmcbgpjphjacjaaWldO
namespace Go.Proofs.Ytmcbgpjphjacjaa
set_option linter.unusedVariables false
set_option linter.unusedSimpArgs false
set_option maxRecDepth 100000
open Go.RowKit

theorem owns_low {w : World} {base base' : Nat} {v : Value} {n : Nat} {xs : List Value} {e : TypeId} (h : w.ownsRow base e 1 v n xs) (hb : base' ≤ base) : w.ownsRow base' e 1 v n xs := by
  refine ⟨h.1, h.2.imp id ?_⟩
  rintro ⟨g, cap, cur, rfl, h1, h2, h3⟩
  exact ⟨g, cap, cur, rfl, by omega, h2, h3⟩

/-- Blocks from a to b have the name n. -/
def named (f : Nat → Nat) (a b n : Nat) (k : Nat) : Nat := if a ≤ k ∧ k < b then n else f k

theorem named_in {f : Nat → Nat} {a b n k : Nat} (h1 : a ≤ k) (h2 : k < b) : named f a b n k = n := if_pos ⟨h1, h2⟩
theorem named_lt {f : Nat → Nat} {a b n k : Nat} (h : k < a) : named f a b n k = f k := if_neg (by omega)
theorem named_ge {f : Nat → Nat} {a b n k : Nat} (h : b ≤ k) : named f a b n k = f k := if_neg (by omega)

/-- What an item of a plan becomes, the value told. -/
def ItemVal (x : ItD) (w w' : World) (val : Value) : Prop :=
  (x.kind = 1 ∧ val = .iface 121 (.agg #[.int .i64 x.n])) ∨ (x.kind = 2 ∧ val = .iface 135 (.agg #[])) ∨
    (x.kind = 0 ∧ ∃ pb rv, val = .iface 122 (.pointer (some ⟨pb, 0, none⟩)) ∧ w.heap.size ≤ pb ∧ w'.heap[pb]? = some (.cells #[rv] 124 (0, 0)) ∧ w'.ownsRow w.heap.size 5 1 rv x.m (valsOf .u8 (x.zs.take x.m)) ∧ rv.ownBlock ≠ some pb)

/-- An item that lies in a world. -/
def ItemHere (x : ItD) (w : World) (f : Nat → Nat) (k : Nat) (val : Value) : Prop :=
  (x.kind = 1 ∧ val = .iface 121 (.agg #[.int .i64 x.n])) ∨ (x.kind = 2 ∧ val = .iface 135 (.agg #[])) ∨
    (x.kind = 0 ∧ ∃ pb rv, val = .iface 122 (.pointer (some ⟨pb, 0, none⟩)) ∧ f pb = 8 + 2 * k ∧ w.heap[pb]? = some (.cells #[rv] 124 (0, 0)) ∧ w.ownsRow 0 5 1 rv x.m (valsOf .u8 (x.zs.take x.m)) ∧ ∀ j, rv.ownBlock = some j → f j = 9 + 2 * k)

/-- Behind 'w.items = append(w.items, item(x))'. -/
def AppPost (w : World) (μ : Wm) (Z : List Zt) (c : Wc) (x : ItD) (k : Nat) (wx : World) : Prop :=
  ∃ (f' : Nat → Nat) (iv' val : Value), OwnWd w wx { μ with f := f', iv := iv', ivs := μ.ivs ++ [val] } Z c ∧ ItemHere x wx f' k val

theorem app_end {w wr w7 w8 w10 : World} {μ : Wm} {Z : List Zt} {c : Wc} {x : ItD} {k : Nat} {val iv' : Value} (o : OwnWd w wr μ Z c) (hk : μ.ivs.length = k) (hk2 : k < 4096) (C7 : Chg [] wr w7) (C8 : Chg [] w7 w8) (hv : ItemVal x w7 w8 val)
    (O10 : w10.ownsRow 0 20 1 iv' (k + 1) (μ.ivs ++ [val])) (C10 : Chg μ.iv.ownBlock.toList (w8.alloc (.cells #[val] 20)) w10) (B10 : ∀ j, iv'.ownBlock = some j → μ.iv.ownBlock = some j ∨ (w8.alloc (.cells #[val] 20)).heap.size ≤ j) :
    AppPost w μ Z c x k (w10.setCell ⟨μ.bW, 1, none⟩ iv') := by
  obtain ⟨pb, hpb1, hpb2⟩ : ∃ pb, (w7.heap.size ≤ pb ∧ pb ≤ w8.heap.size) ∧ (x.kind = 0 → pb < w8.heap.size ∧ ∃ rv, val = .iface 122 (.pointer (some ⟨pb, 0, none⟩)) ∧ w8.heap[pb]? = some (.cells #[rv] 124 (0, 0)) ∧ w8.ownsRow w7.heap.size 5 1 rv x.m (valsOf .u8 (x.zs.take x.m)) ∧ rv.ownBlock ≠ some pb) := by
    rcases hv with ⟨h, _⟩ | ⟨h, _⟩ | ⟨h, pb, rv, h1, h2, h3, h4, h5⟩
    · exact ⟨w8.heap.size, ⟨C8.size, Nat.le_refl _⟩, fun e => by omega⟩
    · exact ⟨w8.heap.size, ⟨C8.size, Nat.le_refl _⟩, fun e => by omega⟩
    · exact ⟨pb, ⟨h2, Nat.le_of_lt (heap_lt h3)⟩, fun _ => ⟨heap_lt h3, rv, h1, h3, h4, h5⟩⟩
  have s7 := C7.size
  have s8 := C8.size
  have s9 : (w8.alloc (.cells #[val] 20)).heap.size = w8.heap.size + 1 := by simp
  have s10 := C10.size
  obtain ⟨f', hf'⟩ : ∃ f', f' = named (named (named μ.f w7.heap.size w8.heap.size (9 + 2 * k)) pb (pb + 1) (8 + 2 * k)) w8.heap.size w10.heap.size 4 := ⟨_, rfl⟩
  have flt : ∀ j, j < w7.heap.size → f' j = μ.f j := fun j hj => by rw [hf', named_lt (by omega), named_lt (by omega), named_lt (by omega)]
  have fge : ∀ j, w10.heap.size ≤ j → f' j = μ.f j := fun j hj => by rw [hf', named_ge (by omega), named_ge (by omega), named_ge (by omega)]
  have fpb : pb < w8.heap.size → f' pb = 8 + 2 * k := fun h => by rw [hf', named_lt h, named_in (Nat.le_refl _) (by omega)]
  have frv : ∀ j, w7.heap.size ≤ j → j < w8.heap.size → j ≠ pb → f' j = 9 + 2 * k := fun j h1 h2 h3 => by
    rw [hf', named_lt h2]
    rcases Nat.lt_or_ge j pb with h | h
    · rw [named_lt h, named_in h1 h2]
    · rw [named_ge (by omega), named_in h1 h2]
  have fiv : ∀ j, w8.heap.size ≤ j → j < w10.heap.size → f' j = 4 := fun j h1 h2 => by rw [hf', named_in h1 h2]
  clear hf'
  have h := o.is.ext (f' := f') (fun j hj => flt j (by omega))
  have K9 : Chg [] wr (w8.alloc (.cells #[val] 20)) := (C7.trans C8 (U := []) (by simp) (by simp)).alloc _
  have K10 : Chg (μ.bW :: μ.iv.ownBlock.toList) wr w10 := K9.trans C10 (by simp) (fun x hx _ => List.mem_cons_of_mem _ hx)
  have K11 : Chg (μ.bW :: μ.iv.ownBlock.toList) wr (w10.setCell ⟨μ.bW, 1, none⟩ iv') := K10.setCell (p := ⟨μ.bW, 1, none⟩) (Or.inl List.mem_cons_self) _
  have hS : ∀ y ∈ μ.bW :: μ.iv.ownBlock.toList, f' y = 1 ∨ f' y = 4 := fun y hy => by
    rcases List.mem_cons.1 hy with e | e
    · rw [e]; exact .inl h.f1
    · exact .inr (h.f4 y (by simpa [Option.mem_toList] using e))
  have no : ∀ y, f' y ≠ 1 → f' y ≠ 4 → y ∉ μ.bW :: μ.iv.ownBlock.toList := fun y h1 h4 hm => (hS y hm).elim h1 h4
  have hWW : w10.heap[μ.bW]? = some (.cells #[.pointer (some ⟨μ.bQ, 0, none⟩), μ.iv, μ.wv, μ.gv, μ.sv, .int .i64 (c.got : Nat), .int .i64 (c.set : Nat), .int .i64 (c.wrote : Nat)] 114 (0, 0)) := by
    refine C10.heap (K9.heap h.hW (by simp)) (fun hm => ?_)
    have := h.f4 μ.bW (by simpa [Option.mem_toList] using hm)
    rw [h.f1] at this
    omega
  have hbWlt := heap_lt h.hW
  have sz : (w10.setCell ⟨μ.bW, 1, none⟩ iv').heap.size = w10.heap.size := by simp [World.setCell]
  have kset : Chg [μ.bW] w10 (w10.setCell ⟨μ.bW, 1, none⟩ iv') := (Chg.refl [μ.bW] w10).setCell (p := ⟨μ.bW, 1, none⟩) (Or.inl List.mem_cons_self) _
  refine ⟨f', iv', val, ⟨⟨?_, ?_, ?_, ?_, ?_, ?_, ?_, ?_, h.ap, h.f1, h.f2, h.f3, ?_, h.f5, h.f6, h.f7⟩, ?_, ?_, ?_⟩, ?_⟩
  · rw [setCell_heap _ hWW]; rfl
  · exact h.q.chg K11 (no _ (by rw [h.f2]; omega) (by rw [h.f2]; omega)) (fun j hj => no _ (by rw [h.f3 j hj]; omega) (by rw [h.f3 j hj]; omega))
  · have hl : (μ.ivs ++ [val]).length = k + 1 := by simp [hk]
    dsimp only
    rw [hl]
    refine owns_keep O10 kset (fun j hj hm => ?_)
    have hj' := List.mem_singleton.1 hm
    rcases B10 j hj with e | e
    · have := h.f4 j e
      rw [hj', h.f1] at this
      omega
    · rw [s9] at e; omega
  · exact owns_keep h.rw_ K11 (fun j hj => no _ (by rw [h.f5 j hj]; omega) (by rw [h.f5 j hj]; omega))
  · exact owns_keep h.rg K11 (fun j hj => no _ (by rw [h.f6 j hj]; omega) (by rw [h.f6 j hj]; omega))
  · exact owns_keep h.rs K11 (fun j hj => no _ (by rw [h.f7 j hj]; omega) (by rw [h.f7 j hj]; omega))
  · have := h.few
    simp only [List.length_append, List.length_cons, List.length_nil]
    omega
  · intro z hz
    have hz' := (h.zs z hz).chg K11 (fun y hy => by have := hS y hy; omega)
    refine ⟨hz'.wd, hz'.eb, hz'.ei, ?_, hz'.kd⟩
    dsimp only
    rw [List.getElem?_append_left (List.getElem?_eq_some_iff.1 hz'.iv).1]
    exact hz'.iv
  · intro j hj
    dsimp only at hj ⊢
    rcases B10 j hj with e | e
    · exact h.f4 j e
    · rw [s9] at e
      exact fiv j (by omega) (O10.lt j hj).2
  · exact o.c0.trans K11 (by simp) (fun y hy hl => by
      have h1 := hS y hy
      have h2 := flt y (by have := o.c0.size; omega)
      have h3 := o.lo y hl
      omega)
  · intro j hj
    show f' j = 0
    rw [flt j (by have := o.c0.size; omega)]; exact o.lo j hj
  · intro j hj
    show f' j = 0
    rw [sz] at hj
    rw [fge j hj]
    exact o.hi j (by omega)
  · rcases hv with ⟨e1, e2⟩ | ⟨e1, e2⟩ | ⟨e1, _⟩
    · exact .inl ⟨e1, e2⟩
    · exact .inr (.inl ⟨e1, e2⟩)
    · obtain ⟨hlt, rv, r1, r2, r3, r4⟩ := hpb2 e1
      have K8 : Chg (μ.bW :: μ.iv.ownBlock.toList) w8 (w10.setCell ⟨μ.bW, 1, none⟩ iv') :=
        (((Chg.refl [] w8).alloc (.cells #[val] 20)).trans C10 (U := μ.bW :: μ.iv.ownBlock.toList) (by simp) (fun x hx _ => List.mem_cons_of_mem _ hx)).setCell (p := ⟨μ.bW, 1, none⟩) (Or.inl List.mem_cons_self) _
      refine .inr (.inr ⟨e1, pb, rv, r1, fpb hlt, K8.heap r2 (no _ (by rw [fpb hlt]; omega) (by rw [fpb hlt]; omega)), ?_, ?_⟩)
      · refine owns_low (owns_keep r3 K8 (fun j hj => ?_)) (Nat.zero_le _)
        have h1 := r3.lt j hj
        have h2 := frv j h1.1 h1.2 (fun e => r4 (by rw [← e]; exact hj))
        exact no _ (by rw [h2]; omega) (by rw [h2]; omega)
      · intro j hj
        have h1 := r3.lt j hj
        exact frv j h1.1 h1.2 (fun e => r4 (by rw [← e]; exact hj))

theorem chk1_zero {x : ItD} (h : chk1 x = 0) : (x.kind = 0 ∨ x.kind = 1 ∨ x.kind = 2) ∧ (x.kind ≠ 0 → x.m = 0) ∧ (x.kind ≠ 1 → x.n = 0) ∧ 0 ≤ x.n := by
  unfold chk1 at h
  split at h
  · omega
  · split at h
    · omega
    · split at h
      · omega
      · refine ⟨by omega, fun h1 => by omega, fun h1 => by omega, by omega⟩

theorem dat_new {w : World} {f : Nat → Nat} {x : ItD} {k pb : Nat} {rv val : Value} {p : Nat} (hval : val = .iface 122 (.pointer (some ⟨pb, 0, none⟩))) (fpb : f pb = 8 + 2 * k) (hpb : w.heap[pb]? = some (.cells #[rv] 124 (0, 0))) (O : w.ownsRow 0 5 1 rv x.m (valsOf .u8 (x.zs.take x.m)))
    (frv : ∀ j, rv.ownBlock = some j → f j = 9 + 2 * k) (hm0 : 0 < x.m) (hm : x.m ≤ 1000000) : ∃ g cap, DatIs w f ⟨(x.b, (k : Int), (p : Int)), itOf x, k, val, pb, g, 0, cap⟩ := by
  have hl : (x.zs.take x.m).length = x.m := by have := O.1; rw [valsOf_length] at this; omega
  rcases O.2 with ⟨_, h0⟩ | ⟨g, cap, cur, rfl, _, hg, h1, h2, h3, h4⟩
  · omega
  · refine ⟨g, cap, hval, ?_, ⟨cur.toList, hg, ?_, fun j hj => ?_⟩, ?_, ?_, h2, ?_, fpb, frv g rfl⟩
    · show w.heap[pb]? = some (.cells #[.slice (some ⟨g, 0, none⟩) (x.zs.take x.m).length cap] _ _)
      rw [hl]; exact hpb
    · show 0 + (x.zs.take x.m).length ≤ _
      rw [hl]; simp; omega
    · have hj' : j < x.m := by have : j < (x.zs.take x.m).length := hj; omega
      show cur.toList[0 + j]? = some (.int .u8 ((x.zs.take x.m).getD j 0))
      rw [Nat.zero_add]
      have e := congrArg (fun l => l[j]?) h4
      simp only [Nat.mul_one] at e
      rw [List.getElem?_take, if_pos hj'] at e
      rw [e]
      simp only [valsOf, List.getElem?_map, List.getElem?_eq_getElem (show j < (x.zs.take x.m).length by omega), Option.map_some, List.getD_eq_getElem?_getD, Option.getD_some]
    · show 0 < (x.zs.take x.m).length
      omega
    · show (x.zs.take x.m).length ≤ cap
      omega
    · show (x.zs.take x.m).length ≤ 1000000
      omega

/-- Behind 'w.q.Push(x.At, i)'. -/
def PushPost (w : World) (μ : Wm) (Z : List Zt) (c : Wc) (x : ItD) (k : Nat) (w12 : World) : Prop :=
  ∃ (f' : Nat → Nat) (v' : Value) (z : Zt), OwnWd w w12 { μ with f := f', v := v', p := μ.p + 1 } (insZ Z z) c ∧ z.pr = ((x.b, (k : Int), (μ.p : Int)), itOf x) ∧ z.ix = k

theorem pushW_end {w wx w12 : World} {μ : Wm} {Z : List Zt} {c : Wc} {x : ItD} {k : Nat} {val v' : Value} (o : OwnWd w wx μ Z c) (hix : ∀ z ∈ Z, z.ix < k) (hv : μ.ivs[k]? = some val) (hh : ItemHere x wx μ.f k val) (hc : comes x = true) (hx : chk1 x = 0) (wd : Wd x.b) (hm : x.m ≤ 1000000)
    (C12 : Chg (μ.bQ :: μ.v.ownBlock.toList) wx w12) (q12 : QueIs w12 μ.bQ v' (insQ oE (Z.map (·.e)) (x.b, (k : Int), (μ.p : Int))) (μ.p + 1)) (B12 : ∀ j, v'.ownBlock = some j → μ.v.ownBlock = some j ∨ wx.heap.size ≤ j) :
    PushPost w μ Z c x k w12 := by
  obtain ⟨c1, c2, c3, c4⟩ := chk1_zero hx
  obtain ⟨f', hf'⟩ : ∃ f', f' = named μ.f wx.heap.size w12.heap.size 3 := ⟨_, rfl⟩
  have flt : ∀ j, j < wx.heap.size → f' j = μ.f j := fun j hj => by rw [hf', named_lt hj]
  have fge : ∀ j, w12.heap.size ≤ j → f' j = μ.f j := fun j hj => by rw [hf', named_ge hj]
  have fin : ∀ j, wx.heap.size ≤ j → j < w12.heap.size → f' j = 3 := fun j h1 h2 => by rw [hf', named_in h1 h2]
  clear hf'
  have h := o.is.ext (f' := f') flt
  have hS : ∀ y ∈ μ.bQ :: μ.v.ownBlock.toList, f' y = 2 ∨ f' y = 3 := fun y hy => by
    rcases List.mem_cons.1 hy with e | e
    · rw [e]; exact .inl h.f2
    · exact .inr (h.f3 y (by simpa [Option.mem_toList] using e))
  have no : ∀ y, f' y ≠ 2 → f' y ≠ 3 → y ∉ μ.bQ :: μ.v.ownBlock.toList := fun y h1 h4 hm => (hS y hm).elim h1 h4
  obtain ⟨z, hz1, hz2, hz3⟩ : ∃ z : Zt, z.pr = ((x.b, (k : Int), (μ.p : Int)), itOf x) ∧ z.ix = k ∧ ZIs wx f' μ.ivs z := by
    rcases hh with ⟨e1, e2⟩ | ⟨e1, e2⟩ | ⟨e1, pb, rv, e2, e3, e4, e5, e6⟩
    · refine ⟨⟨(x.b, (k : Int), (μ.p : Int)), itOf x, k, val, 0, 0, 0, 0⟩, rfl, rfl, ⟨wd, rfl, rfl, hv, .inl ⟨e1, ?_, e2⟩⟩⟩
      show x.zs.take x.m = []
      rw [c2 (by omega)]; rfl
    · refine ⟨⟨(x.b, (k : Int), (μ.p : Int)), itOf x, k, val, 0, 0, 0, 0⟩, rfl, rfl, ⟨wd, rfl, rfl, hv, .inr (.inl ⟨e1, c3 (by omega), ?_, e2⟩)⟩⟩
      show x.zs.take x.m = []
      rw [c2 (by omega)]; rfl
    · have hm0 : 0 < x.m := by
        unfold comes at hc
        rcases Nat.eq_zero_or_pos x.m with h | h
        · simp [e1, h] at hc
        · exact h
      have hpbl := heap_lt e4
      obtain ⟨g, cap, hd⟩ := dat_new (f := f') (k := k) (p := μ.p) e2 (by rw [flt _ hpbl]; exact e3) e4 e5 (fun j hj => by rw [flt _ (e5.lt j hj).2]; exact e6 j hj) hm0 hm
      exact ⟨⟨(x.b, (k : Int), (μ.p : Int)), itOf x, k, val, pb, g, 0, cap⟩, rfl, rfl, ⟨wd, rfl, rfl, hv, .inr (.inr ⟨e1, c3 (by omega), hd⟩)⟩⟩
  have hze : z.e = (x.b, (k : Int), (μ.p : Int)) := congrArg (·.1) hz1
  have hperm := insZ_perm Z z
  refine ⟨f', v', z, ⟨⟨C12.heap h.hW (no _ (by rw [h.f1]; omega) (by rw [h.f1]; omega)), ?_, owns_keep h.row C12 (fun j hj => no _ (by rw [h.f4 j hj]; omega) (by rw [h.f4 j hj]; omega)), owns_keep h.rw_ C12 (fun j hj => no _ (by rw [h.f5 j hj]; omega) (by rw [h.f5 j hj]; omega)),
    owns_keep h.rg C12 (fun j hj => no _ (by rw [h.f6 j hj]; omega) (by rw [h.f6 j hj]; omega)), owns_keep h.rs C12 (fun j hj => no _ (by rw [h.f7 j hj]; omega) (by rw [h.f7 j hj]; omega)), h.few, fun y hy => ?_, ?_, h.f1, h.f2, fun j hj => ?_, h.f4, h.f5, h.f6, h.f7⟩, ?_, ?_, ?_⟩, hz1, hz2⟩
  · dsimp only
    rw [insZ_e, hze]; exact q12
  · have hy' : y ∈ z :: Z := hperm.mem_iff.1 hy
    rcases List.mem_cons.1 hy' with rfl | hy'
    · exact hz3.chg C12 (fun q hq => by have := hS q hq; omega)
    · exact (h.zs y hy').chg C12 (fun q hq => by have := hS q hq; omega)
  · rw [(hperm.map (·.ix)).nodup_iff]
    simp only [List.map_cons, List.nodup_cons]
    refine ⟨fun hm => ?_, h.ap⟩
    obtain ⟨y, hy, e⟩ := List.mem_map.1 hm
    have := hix y hy
    omega
  · dsimp only at hj ⊢
    rcases B12 j hj with e | e
    · exact h.f3 j e
    · exact fin j e (q12.lt2 j hj)
  · exact o.c0.trans C12 (by simp) (fun y hy hl => by
      have h1 := hS y hy
      have h2 := flt y (by have := o.c0.size; omega)
      have h3 := o.lo y hl
      omega)
  · intro j hj
    show f' j = 0
    rw [flt j (by have := o.c0.size; omega)]; exact o.lo j hj
  · intro j hj
    show f' j = 0
    rw [fge j hj]
    exact o.hi j (by have := C12.size; omega)
end Go.Proofs.Ytmcbgpjphjacjaa
