import Derived.Test.YtafmnkngjjnpiaaGreatDoorWldO
import Derived.Deep.RegionHeld3
import Derived.Deep.DrawnRows
import Derived.Deep.DeepCutAuto
namespace Go.Proofs.YtafmnkngjjnpiaaGreatDoor
set_option linter.unusedVariables false
set_option linter.unusedSimpArgs false
set_option maxRecDepth 100000
open Go.RowKit
theorem owns_low {w : World} {base base' : Nat} {v : Value} {n : Nat} {xs : List Value} {e : TypeId} (h : w.ownsRow base e 1 v n xs) (hb : base' ≤ base) : w.ownsRow base' e 1 v n xs := by
  refine ⟨h.1, h.2.imp id ?_⟩
  rintro ⟨g, cap, cur, rfl, h1, h2, h3⟩
  exact ⟨g, cap, cur, rfl, by omega, h2, h3⟩
def named (f : Nat → Nat) (a b n : Nat) (k : Nat) : Nat := if a ≤ k ∧ k < b then n else f k
theorem named_in {f : Nat → Nat} {a b n k : Nat} (h1 : a ≤ k) (h2 : k < b) : named f a b n k = n := if_pos ⟨h1, h2⟩
theorem named_lt {f : Nat → Nat} {a b n k : Nat} (h : k < a) : named f a b n k = f k := if_neg (by omega)
theorem named_ge {f : Nat → Nat} {a b n k : Nat} (h : b ≤ k) : named f a b n k = f k := if_neg (by omega)
def ItemVal (x : ItD) (w w' : World) (val : Value) : Prop :=
  (x.kind = 1 ∧ val = .iface 243 (.agg #[.int .i64 x.n])) ∨ (x.kind = 2 ∧ val = .iface 245 (.agg #[])) ∨
    (x.kind = 0 ∧ ∃ pb rv, val = .iface 246 (.pointer (some ⟨pb, 0, none⟩)) ∧ w.heap.size ≤ pb ∧ w'.heap[pb]? = some (.cells #[rv] 248 (0, 0)) ∧ w'.ownsRow w.heap.size 5 1 rv x.m (valsOf .u8 (x.zs.take x.m)) ∧ rv.ownBlock ≠ some pb)
def ItemHere (x : ItD) (w : World) (f : Nat → Nat) (k : Nat) (val : Value) : Prop :=
  (x.kind = 1 ∧ val = .iface 243 (.agg #[.int .i64 x.n])) ∨ (x.kind = 2 ∧ val = .iface 245 (.agg #[])) ∨
    (x.kind = 0 ∧ ∃ pb rv, val = .iface 246 (.pointer (some ⟨pb, 0, none⟩)) ∧ f pb = 8 + 2 * k ∧ w.heap[pb]? = some (.cells #[rv] 248 (0, 0)) ∧ w.ownsRow 0 5 1 rv x.m (valsOf .u8 (x.zs.take x.m)) ∧ ∀ j, rv.ownBlock = some j → f j = 9 + 2 * k)
def AppPost (w : World) (μ : Wm) (Z : List Zt) (c : Wc) (x : ItD) (k : Nat) (wx : World) : Prop :=
  ∃ (f' : Nat → Nat) (iv' val : Value), OwnWd w wx { μ with f := f', iv := iv', ivs := μ.ivs ++ [val] } Z c ∧ ItemHere x wx f' k val
theorem app_end {w wr w7 w8 w10 : World} {μ : Wm} {Z : List Zt} {c : Wc} {x : ItD} {k : Nat} {val iv' : Value} (o : OwnWd w wr μ Z c) (hk : μ.ivs.length = k) (hk2 : k < 4096) (C7 : Chg [] wr w7) (C8 : Chg [] w7 w8) (hv : ItemVal x w7 w8 val)
    (O10 : w10.ownsRow 0 20 1 iv' (k + 1) (μ.ivs ++ [val])) (C10 : Chg μ.iv.ownBlock.toList (w8.alloc (.cells #[val] 20)) w10) (B10 : ∀ j, iv'.ownBlock = some j → μ.iv.ownBlock = some j ∨ (w8.alloc (.cells #[val] 20)).heap.size ≤ j) :
    AppPost w μ Z c x k (w10.setCell ⟨μ.bW, 1, none⟩ iv') := by
  obtain ⟨pb, hpb1, hpb2⟩ : ∃ pb, (w7.heap.size ≤ pb ∧ pb ≤ w8.heap.size) ∧ (x.kind = 0 → pb < w8.heap.size ∧ ∃ rv, val = .iface 246 (.pointer (some ⟨pb, 0, none⟩)) ∧ w8.heap[pb]? = some (.cells #[rv] 248 (0, 0)) ∧ w8.ownsRow w7.heap.size 5 1 rv x.m (valsOf .u8 (x.zs.take x.m)) ∧ rv.ownBlock ≠ some pb) := by
    rcases hv with ⟨h, _⟩ | ⟨h, _⟩ | ⟨h, pb, rv, h1, h2, h3, h4, h5⟩
    · exact ⟨w8.heap.size, ⟨C8.size, Nat.le_refl _⟩, fun e => by omega⟩
    · exact ⟨w8.heap.size, ⟨C8.size, Nat.le_refl _⟩, fun e => by omega⟩
    · exact ⟨pb, ⟨h2, Nat.le_of_lt (heap_lt h3)⟩, fun _ => ⟨heap_lt h3, rv, h1, h3, h4, h5⟩⟩
  have s7 := C7.size
  have s8 := C8.size
  have s9 : (w8.alloc (.cells #[val] 20)).heap.size = w8.heap.size + 1 := by simp
  have s10 := C10.size
  obtain ⟨f', hf'⟩ : ∃ f', f' = named (named (named μ.f w7.heap.size w8.heap.size (9 + 2 * k)) pb (pb + 1) (8 + 2 * k)) w8.heap.size w10.heap.size 4 := ⟨_, rfl⟩
  have flt : ∀ j, j < w7.heap.size → f' j = μ.f j := fun j hj => by rw [hf', named_lt (by omega), named_lt (by omega), named_lt (by omega)]
  have fge : ∀ j, w10.heap.size ≤ j → f' j = μ.f j := fun j hj => by rw [hf', named_ge (by omega), named_ge (by omega), named_ge (by omega)]
  have fpb : pb < w8.heap.size → f' pb = 8 + 2 * k := fun h => by rw [hf', named_lt h, named_in (Nat.le_refl _) (by omega)]
  have frv : ∀ j, w7.heap.size ≤ j → j < w8.heap.size → j ≠ pb → f' j = 9 + 2 * k := fun j h1 h2 h3 => by
    rw [hf', named_lt h2]
    rcases Nat.lt_or_ge j pb with h | h
    · rw [named_lt h, named_in h1 h2]
    · rw [named_ge (by omega), named_in h1 h2]
  have fiv : ∀ j, w8.heap.size ≤ j → j < w10.heap.size → f' j = 4 := fun j h1 h2 => by rw [hf', named_in h1 h2]
  clear hf'
  have h := o.is.ext (f' := f') (fun j hj => flt j (by omega))
  have K9 : Chg [] wr (w8.alloc (.cells #[val] 20)) := (C7.trans C8 (U := []) (by simp) (by simp)).alloc _
  have K10 : Chg (μ.bW :: μ.iv.ownBlock.toList) wr w10 := K9.trans C10 (by simp) (fun x hx _ => List.mem_cons_of_mem _ hx)
  have K11 : Chg (μ.bW :: μ.iv.ownBlock.toList) wr (w10.setCell ⟨μ.bW, 1, none⟩ iv') := K10.setCell (p := ⟨μ.bW, 1, none⟩) (Or.inl List.mem_cons_self) _
  have hS : ∀ y ∈ μ.bW :: μ.iv.ownBlock.toList, f' y = 1 ∨ f' y = 4 := fun y hy => by
    rcases List.mem_cons.1 hy with e | e
    · rw [e]; exact .inl h.f1
    · exact .inr (h.f4 y (by simpa [Option.mem_toList] using e))
  have no : ∀ y, f' y ≠ 1 → f' y ≠ 4 → y ∉ μ.bW :: μ.iv.ownBlock.toList := fun y h1 h4 hm => (hS y hm).elim h1 h4
  have hWW : w10.heap[μ.bW]? = some (.cells #[.pointer (some ⟨μ.bQ, 0, none⟩), μ.iv, μ.wv, μ.gv, μ.sv, .int .i64 (c.got : Nat), .int .i64 (c.set : Nat), .int .i64 (c.wrote : Nat)] 206 (0, 0)) := by
    refine C10.heap (K9.heap h.hW (by simp)) (fun hm => ?_)
    have := h.f4 μ.bW (by simpa [Option.mem_toList] using hm)
    rw [h.f1] at this
    omega
  have hbWlt := heap_lt h.hW
  have sz : (w10.setCell ⟨μ.bW, 1, none⟩ iv').heap.size = w10.heap.size := by simp [World.setCell]
  have kset : Chg [μ.bW] w10 (w10.setCell ⟨μ.bW, 1, none⟩ iv') := (Chg.refl [μ.bW] w10).setCell (p := ⟨μ.bW, 1, none⟩) (Or.inl List.mem_cons_self) _
  refine ⟨f', iv', val, ⟨⟨?_, ?_, ?_, ?_, ?_, ?_, ?_, ?_, h.ap, h.f1, h.f2, h.f3, ?_, h.f5, h.f6, h.f7⟩, ?_, ?_, ?_⟩, ?_⟩
  · rw [setCell_heap _ hWW]; rfl
  · exact h.q.chg K11 (no _ (by rw [h.f2]; omega) (by rw [h.f2]; omega)) (fun j hj => no _ (by rw [h.f3 j hj]; omega) (by rw [h.f3 j hj]; omega))
  · have hl : (μ.ivs ++ [val]).length = k + 1 := by simp [hk]
    dsimp only
    rw [hl]
    refine owns_keep O10 kset (fun j hj hm => ?_)
    have hj' := List.mem_singleton.1 hm
    rcases B10 j hj with e | e
    · have := h.f4 j e
      rw [hj', h.f1] at this
      omega
    · rw [s9] at e; omega
  · exact owns_keep h.rw_ K11 (fun j hj => no _ (by rw [h.f5 j hj]; omega) (by rw [h.f5 j hj]; omega))
  · exact owns_keep h.rg K11 (fun j hj => no _ (by rw [h.f6 j hj]; omega) (by rw [h.f6 j hj]; omega))
  · exact owns_keep h.rs K11 (fun j hj => no _ (by rw [h.f7 j hj]; omega) (by rw [h.f7 j hj]; omega))
  · have := h.few
    simp only [List.length_append, List.length_cons, List.length_nil]
    omega
  · intro z hz
    have hz' := (h.zs z hz).chg K11 (fun y hy => by have := hS y hy; omega)
    refine ⟨hz'.wd, hz'.eb, hz'.ei, ?_, hz'.kd⟩
    dsimp only
    rw [List.getElem?_append_left (List.getElem?_eq_some_iff.1 hz'.iv).1]
    exact hz'.iv
  · intro j hj
    dsimp only at hj ⊢
    rcases B10 j hj with e | e
    · exact h.f4 j e
    · rw [s9] at e
      exact fiv j (by omega) (O10.lt j hj).2
  · exact o.c0.trans K11 (by simp) (fun y hy hl => by
      have h1 := hS y hy
      have h2 := flt y (by have := o.c0.size; omega)
      have h3 := o.lo y hl
      omega)
  · intro j hj
    show f' j = 0
    rw [flt j (by have := o.c0.size; omega)]; exact o.lo j hj
  · intro j hj
    show f' j = 0
    rw [sz] at hj
    rw [fge j hj]
    exact o.hi j (by omega)
  · rcases hv with ⟨e1, e2⟩ | ⟨e1, e2⟩ | ⟨e1, _⟩
    · exact .inl ⟨e1, e2⟩
    · exact .inr (.inl ⟨e1, e2⟩)
    · obtain ⟨hlt, rv, r1, r2, r3, r4⟩ := hpb2 e1
      have K8 : Chg (μ.bW :: μ.iv.ownBlock.toList) w8 (w10.setCell ⟨μ.bW, 1, none⟩ iv') :=
        (((Chg.refl [] w8).alloc (.cells #[val] 20)).trans C10 (U := μ.bW :: μ.iv.ownBlock.toList) (by simp) (fun x hx _ => List.mem_cons_of_mem _ hx)).setCell (p := ⟨μ.bW, 1, none⟩) (Or.inl List.mem_cons_self) _
      refine .inr (.inr ⟨e1, pb, rv, r1, fpb hlt, K8.heap r2 (no _ (by rw [fpb hlt]; omega) (by rw [fpb hlt]; omega)), ?_, ?_⟩)
      · refine owns_low (owns_keep r3 K8 (fun j hj => ?_)) (Nat.zero_le _)
        have h1 := r3.lt j hj
        have h2 := frv j h1.1 h1.2 (fun e => r4 (by rw [← e]; exact hj))
        exact no _ (by rw [h2]; omega) (by rw [h2]; omega)
      · intro j hj
        have h1 := r3.lt j hj
        exact frv j h1.1 h1.2 (fun e => r4 (by rw [← e]; exact hj))
theorem chk1_zero {x : ItD} (h : chk1 x = 0) : (x.kind = 0 ∨ x.kind = 1 ∨ x.kind = 2) ∧ (x.kind ≠ 0 → x.m = 0) ∧ (x.kind ≠ 1 → x.n = 0) ∧ 0 ≤ x.n := by
  unfold chk1 at h
  split at h
  · omega
  · split at h
    · omega
    · split at h
      · omega
      · refine ⟨by omega, fun h1 => by omega, fun h1 => by omega, by omega⟩
theorem dat_new {w : World} {f : Nat → Nat} {x : ItD} {k pb : Nat} {rv val : Value} {p : Nat} (hval : val = .iface 246 (.pointer (some ⟨pb, 0, none⟩))) (fpb : f pb = 8 + 2 * k) (hpb : w.heap[pb]? = some (.cells #[rv] 248 (0, 0))) (O : w.ownsRow 0 5 1 rv x.m (valsOf .u8 (x.zs.take x.m)))
    (frv : ∀ j, rv.ownBlock = some j → f j = 9 + 2 * k) (hm0 : 0 < x.m) (hm : x.m ≤ 1000000) : ∃ g cap, DatIs w f ⟨(x.b, (k : Int), (p : Int)), itOf x, k, val, pb, g, 0, cap⟩ := by
  have hl : (x.zs.take x.m).length = x.m := by have := O.1; rw [valsOf_length] at this; omega
  rcases O.2 with ⟨_, h0⟩ | ⟨g, cap, cur, rfl, _, hg, h1, h2, h3, h4⟩
  · omega
  · refine ⟨g, cap, hval, ?_, ⟨cur.toList, hg, ?_, fun j hj => ?_⟩, ?_, ?_, h2, ?_, fpb, frv g rfl⟩
    · show w.heap[pb]? = some (.cells #[.slice (some ⟨g, 0, none⟩) (x.zs.take x.m).length cap] _ _)
      rw [hl]; exact hpb
    · show 0 + (x.zs.take x.m).length ≤ _
      rw [hl]; simp; omega
    · have hj' : j < x.m := by have : j < (x.zs.take x.m).length := hj; omega
      show cur.toList[0 + j]? = some (.int .u8 ((x.zs.take x.m).getD j 0))
      rw [Nat.zero_add]
      have e := congrArg (fun l => l[j]?) h4
      simp only [Nat.mul_one] at e
      rw [List.getElem?_take, if_pos hj'] at e
      rw [e]
      simp only [valsOf, List.getElem?_map, List.getElem?_eq_getElem (show j < (x.zs.take x.m).length by omega), Option.map_some, List.getD_eq_getElem?_getD, Option.getD_some]
    · show 0 < (x.zs.take x.m).length
      omega
    · show (x.zs.take x.m).length ≤ cap
      omega
    · show (x.zs.take x.m).length ≤ 1000000
      omega
def PushPost (w : World) (μ : Wm) (Z : List Zt) (c : Wc) (x : ItD) (k : Nat) (w12 : World) : Prop :=
  ∃ (f' : Nat → Nat) (v' : Value) (z : Zt), OwnWd w w12 { μ with f := f', v := v', p := μ.p + 1 } (insZ Z z) c ∧ z.pr = ((x.b, (k : Int), (μ.p : Int)), itOf x) ∧ z.ix = k
theorem pushW_end {w wx w12 : World} {μ : Wm} {Z : List Zt} {c : Wc} {x : ItD} {k : Nat} {val v' : Value} (o : OwnWd w wx μ Z c) (hix : ∀ z ∈ Z, z.ix < k) (hv : μ.ivs[k]? = some val) (hh : ItemHere x wx μ.f k val) (hc : comes x = true) (hx : chk1 x = 0) (wd : Wd x.b) (hm : x.m ≤ 1000000)
    (C12 : Chg (μ.bQ :: μ.v.ownBlock.toList) wx w12) (q12 : QueIs w12 μ.bQ v' (insQ oE (Z.map (·.e)) (x.b, (k : Int), (μ.p : Int))) (μ.p + 1)) (B12 : ∀ j, v'.ownBlock = some j → μ.v.ownBlock = some j ∨ wx.heap.size ≤ j) :
    PushPost w μ Z c x k w12 := by
  obtain ⟨c1, c2, c3, c4⟩ := chk1_zero hx
  obtain ⟨f', hf'⟩ : ∃ f', f' = named μ.f wx.heap.size w12.heap.size 3 := ⟨_, rfl⟩
  have flt : ∀ j, j < wx.heap.size → f' j = μ.f j := fun j hj => by rw [hf', named_lt hj]
  have fge : ∀ j, w12.heap.size ≤ j → f' j = μ.f j := fun j hj => by rw [hf', named_ge hj]
  have fin : ∀ j, wx.heap.size ≤ j → j < w12.heap.size → f' j = 3 := fun j h1 h2 => by rw [hf', named_in h1 h2]
  clear hf'
  have h := o.is.ext (f' := f') flt
  have hS : ∀ y ∈ μ.bQ :: μ.v.ownBlock.toList, f' y = 2 ∨ f' y = 3 := fun y hy => by
    rcases List.mem_cons.1 hy with e | e
    · rw [e]; exact .inl h.f2
    · exact .inr (h.f3 y (by simpa [Option.mem_toList] using e))
  have no : ∀ y, f' y ≠ 2 → f' y ≠ 3 → y ∉ μ.bQ :: μ.v.ownBlock.toList := fun y h1 h4 hm => (hS y hm).elim h1 h4
  obtain ⟨z, hz1, hz2, hz3⟩ : ∃ z : Zt, z.pr = ((x.b, (k : Int), (μ.p : Int)), itOf x) ∧ z.ix = k ∧ ZIs wx f' μ.ivs z := by
    rcases hh with ⟨e1, e2⟩ | ⟨e1, e2⟩ | ⟨e1, pb, rv, e2, e3, e4, e5, e6⟩
    · refine ⟨⟨(x.b, (k : Int), (μ.p : Int)), itOf x, k, val, 0, 0, 0, 0⟩, rfl, rfl, ⟨wd, rfl, rfl, hv, .inl ⟨e1, ?_, e2⟩⟩⟩
      show x.zs.take x.m = []
      rw [c2 (by omega)]; rfl
    · refine ⟨⟨(x.b, (k : Int), (μ.p : Int)), itOf x, k, val, 0, 0, 0, 0⟩, rfl, rfl, ⟨wd, rfl, rfl, hv, .inr (.inl ⟨e1, c3 (by omega), ?_, e2⟩)⟩⟩
      show x.zs.take x.m = []
      rw [c2 (by omega)]; rfl
    · have hm0 : 0 < x.m := by
        unfold comes at hc
        rcases Nat.eq_zero_or_pos x.m with h | h
        · simp [e1, h] at hc
        · exact h
      have hpbl := heap_lt e4
      obtain ⟨g, cap, hd⟩ := dat_new (f := f') (k := k) (p := μ.p) e2 (by rw [flt _ hpbl]; exact e3) e4 e5 (fun j hj => by rw [flt _ (e5.lt j hj).2]; exact e6 j hj) hm0 hm
      exact ⟨⟨(x.b, (k : Int), (μ.p : Int)), itOf x, k, val, pb, g, 0, cap⟩, rfl, rfl, ⟨wd, rfl, rfl, hv, .inr (.inr ⟨e1, c3 (by omega), hd⟩)⟩⟩
  have hze : z.e = (x.b, (k : Int), (μ.p : Int)) := congrArg (·.1) hz1
  have hperm := insZ_perm Z z
  refine ⟨f', v', z, ⟨⟨C12.heap h.hW (no _ (by rw [h.f1]; omega) (by rw [h.f1]; omega)), ?_, owns_keep h.row C12 (fun j hj => no _ (by rw [h.f4 j hj]; omega) (by rw [h.f4 j hj]; omega)), owns_keep h.rw_ C12 (fun j hj => no _ (by rw [h.f5 j hj]; omega) (by rw [h.f5 j hj]; omega)),
    owns_keep h.rg C12 (fun j hj => no _ (by rw [h.f6 j hj]; omega) (by rw [h.f6 j hj]; omega)), owns_keep h.rs C12 (fun j hj => no _ (by rw [h.f7 j hj]; omega) (by rw [h.f7 j hj]; omega)), h.few, fun y hy => ?_, ?_, h.f1, h.f2, fun j hj => ?_, h.f4, h.f5, h.f6, h.f7⟩, ?_, ?_, ?_⟩, hz1, hz2⟩
  · dsimp only
    rw [insZ_e, hze]; exact q12
  · have hy' : y ∈ z :: Z := hperm.mem_iff.1 hy
    rcases List.mem_cons.1 hy' with rfl | hy'
    · exact hz3.chg C12 (fun q hq => by have := hS q hq; omega)
    · exact (h.zs y hy').chg C12 (fun q hq => by have := hS q hq; omega)
  · rw [(hperm.map (·.ix)).nodup_iff]
    simp only [List.map_cons, List.nodup_cons]
    refine ⟨fun hm => ?_, h.ap⟩
    obtain ⟨y, hy, e⟩ := List.mem_map.1 hm
    have := hix y hy
    omega
  · dsimp only at hj ⊢
    rcases B12 j hj with e | e
    · exact h.f3 j e
    · exact fin j e (q12.lt2 j hj)
  · exact o.c0.trans C12 (by simp) (fun y hy hl => by
      have h1 := hS y hy
      have h2 := flt y (by have := o.c0.size; omega)
      have h3 := o.lo y hl
      omega)
  · intro j hj
    show f' j = 0
    rw [flt j (by have := o.c0.size; omega)]; exact o.lo j hj
  · intro j hj
    show f' j = 0
    rw [fge j hj]
    exact o.hi j (by have := C12.size; omega)
end Go.Proofs.YtafmnkngjjnpiaaGreatDoor

namespace Go.Proofs.YtafmnkngjjnpiaaGreatDoor
set_option linter.unusedVariables false
set_option linter.unusedSimpArgs false
set_option maxRecDepth 100000
open Go.RowKit
attribute [local go_sem] run_store_float'
attribute [local go_sem ↓] Go.wp_at_zero Go.wp_at_succ
def ItemPost (x : ItD) (w : World) (e : Ending) (w' : World) : Prop := ∃ val, e = .returned val ∧ Chg [] w w' ∧ ItemVal x w w' val
theorem step_call {P : Program} {ops : Array Oper} {o : Oper} {a : Act} {w : World} {K : Act → World → Prop} {Q : Exit → Act → World → Prop} {E : Prop} (hg : o.guard = none) (f : FuncId) (args : Array Value) (hrun : (execOp a.eval o).run P w = .ok (.enter f args) w)
    (R : Value → World → Prop) (hc : Calls P f args w fun e w'' => ∃ v, e = .returned v ∧ R v w'') (h : ∀ v w', R v w' → K (a.put o.dst v) w') : if Region.wanted o (yielded ops a.tmps) = true then Oper.wp P o a w K Q else E := by
  have hw : Region.wanted o (yielded ops a.tmps) = true := by simp [Region.wanted, hg]
  rw [if_pos hw]
  unfold Oper.wp
  rw [hrun, Oper.upon_enter]
  refine hc.mono fun e w'' hh => ?_
  obtain ⟨v, rfl, hR⟩ := hh
  exact h _ _ hR
theorem infoAny : (Tryz.prog.info? 20).map (fun i => (i.zero, i.size, i.bytes)) = some (some .nilIface, 1, 16) := by kernel_rfl
theorem one_new (w : World) (t : TypeId) (u : Value) : ∀ j v, [u][j]? = some v → (w.alloc (.cells #[u] t)).cell? ((⟨w.heap.size, 0, none⟩ : Addr).add j) = some v := by
  intro j v hv
  rw [Addr.add_lit, Nat.zero_add, cell_of_heap (alloc_heap w _)]
  simpa using hv
theorem ItemVal.iface {x : ItD} {w w' : World} {val : Value} (h : ItemVal x w w' val) : ∃ T u, val = .iface T u := by
  rcases h with ⟨_, rfl⟩ | ⟨_, rfl⟩ | ⟨_, pb, rv, rfl, _⟩ <;> exact ⟨_, _, rfl⟩
theorem ItemVal.one {x : ItD} {w w' : World} {val : Value} (h : ItemVal x w w' val) : ∀ u ∈ [val], u.oneCell' = true := by
  intro u hu
  rw [List.mem_singleton.1 hu]
  rcases h with ⟨_, rfl⟩ | ⟨_, rfl⟩ | ⟨_, pb, rv, rfl, _⟩ <;> rfl
set_option maxHeartbeats 4000000 in
theorem item_any (x : ItD) (w : World) (hr : BRow w x.ao x.m x.cap x.zs) (hk : x.kind = 0 ∨ x.kind = 1 ∨ x.kind = 2) (hm : x.m ≤ 1000000) :
    Calls Tryz.prog 126 #[.agg #[.float .f64 x.b, .int .i64 x.kind, .int .i64 x.n, .slice x.ao x.m x.cap]] w (ItemPost x w) := by
  obtain ⟨b, kind, n, ao, m, cap, zs⟩ := x
  dsimp only at *
  have CB : Chg [] w (w.alloc (.cells #[.float .f64 b, .int .i64 kind, .int .i64 n, .slice ao m cap] 100)) := (Chg.refl _ _).alloc _
  rcases hk with rfl | rfl | rfl
  · have HS := Lib.hid (hr.src.chg0 CB)
    clear hr
    go_enter Tryz.func126, Tryz.ntmps126
    go_wp2_with fail
    refine (bclone_any ao m cap (zs.take m) _ HS.out hm).mono ?_
    rintro e w1 ⟨rv, rfl, C1, O1⟩
    have HO := Lib.hid O1
    have HC := Lib.hid (CB.trans C1 (U := []) (by simp) (by simp))
    have hs := CB.size
    obtain ⟨ao2, c2, rfl, _, _⟩ := owns_srcAt O1
    clear O1 C1
    go_wp2_with fail
    go_ret
    have o1 := HO.out
    have k2 : Chg [] w1 (w1.alloc (.cells #[.slice ao2 m c2] 248)) := (Chg.refl _ _).alloc _
    refine ⟨_, rfl, HC.out.trans k2 (by simp) (by simp), .inr (.inr ⟨rfl, w1.heap.size, .slice ao2 m c2, rfl, HC.out.size, alloc_heap w1 _, ?_, fun h => by have := (o1.lt _ h).2; omega⟩)⟩
    exact owns_low (owns_keep o1 k2 (by simp)) hs
  · clear hr
    go_enter Tryz.func126, Tryz.ntmps126
    go_wp2_with fail
    go_ret
    exact ⟨_, rfl, CB, .inl ⟨rfl, rfl⟩⟩
  · clear hr
    go_enter Tryz.func126, Tryz.ntmps126
    go_wp2_with fail
    go_ret
    exact ⟨_, rfl, CB, .inr (.inl ⟨rfl, rfl⟩)⟩
theorem wld_start {w w1 w2 w3 w4 w5 : World} {wl gl sl : Nat} {ws gs ss : List Int} {vW vG vS : Value} (D1 : Chg [] w w1) (st : Chg [] w1 w5) (C2 : Chg [] w1 w2) (C3 : Chg [] w2 w3) (C4 : Chg [] w3 w4) (C5 : Chg [] w4 w5)
    (Q : QueIs w5 w1.heap.size (.slice none 0 0) [] 0) (hQ : w1.heap.size < w2.heap.size) (OW : w5.ownsRow w2.heap.size 3 1 vW wl (valsOf .i64 ws)) (kW : ∀ k, vW.ownBlock = some k → k < w3.heap.size) (OG : w5.ownsRow w3.heap.size 3 1 vG gl (valsOf .i64 gs)) (kG : ∀ k, vG.ownBlock = some k → k < w4.heap.size)
    (OS : w5.ownsRow w4.heap.size 3 1 vS sl (valsOf .i64 ss)) (hw : wl ≤ 1000000) (hg : gl ≤ 1000000) (hs : sl ≤ 1000000) :
    ∃ μ : Wm, OwnWd w (w5.alloc (.cells #[.pointer (some ⟨w1.heap.size, 0, none⟩), .slice none 0 0, vW, vG, vS, .int .i64 0, .int .i64 0, .int .i64 0] 206)) μ [] ⟨ws, gs, ss, 0, 0, 0⟩ ∧ μ.bW = w5.heap.size ∧ μ.bQ = w1.heap.size ∧ μ.iv = .slice none 0 0 ∧ μ.ivs = [] ∧ μ.p = 0 ∧ μ.v = .slice none 0 0 := by
  have lW : ws.length = wl := by have := OW.1; rw [valsOf_length] at this; omega
  have lG : gs.length = gl := by have := OG.1; rw [valsOf_length] at this; omega
  have lS : ss.length = sl := by have := OS.1; rw [valsOf_length] at this; omega
  have e0 := D1.size
  have e2 := C2.size
  have e3 := C3.size
  have e4 := C4.size
  have e5 := C5.size
  have ca : Chg [] w5 (w5.alloc (.cells #[.pointer (some ⟨w1.heap.size, 0, none⟩), .slice none 0 0, vW, vG, vS, .int .i64 0, .int .i64 0, .int .i64 0] 206)) := (Chg.refl _ _).alloc _
  refine ⟨⟨named (named (named (named (named (fun _ => 0) w1.heap.size w2.heap.size 2) w2.heap.size w3.heap.size 5) w3.heap.size w4.heap.size 6) w4.heap.size w5.heap.size 7) w5.heap.size (w5.heap.size + 1) 1, w5.heap.size, w1.heap.size, .slice none 0 0, .slice none 0 0, vW, vG, vS, [], 0⟩, ⟨⟨?_, ?_, ?_, ?_, ?_, ?_, ?_, ?_, ?_, ?_, ?_, ?_, ?_, ?_, ?_, ?_⟩, ?_, ?_, ?_⟩, rfl, rfl, rfl, rfl, rfl, rfl⟩
  · exact alloc_heap w5 _
  · exact Q.chg ca (by simp) (by simp)
  · exact World.ownsRow_nil _ _ _ _
  · rw [← lW] at OW; exact owns_low (owns_keep OW ca (by simp)) (Nat.zero_le _)
  · rw [← lG] at OG; exact owns_low (owns_keep OG ca (by simp)) (Nat.zero_le _)
  · rw [← lS] at OS; exact owns_low (owns_keep OS ca (by simp)) (Nat.zero_le _)
  · simp; omega
  · simp
  · simp
  · dsimp only
    exact named_in (Nat.le_refl _) (by omega)
  · dsimp only
    rw [named_lt (by omega), named_lt (by omega), named_lt (by omega), named_lt (by omega), named_in (Nat.le_refl _) hQ]
  · simp [Value.ownBlock]
  · simp [Value.ownBlock]
  · intro k hk
    have h1 := (OW.lt k hk).1
    have h2 := kW k hk
    dsimp only
    rw [named_lt (by omega), named_lt (by omega), named_lt (by omega), named_in h1 h2]
  · intro k hk
    have h1 := (OG.lt k hk).1
    have h2 := kG k hk
    dsimp only
    rw [named_lt (by omega), named_lt (by omega), named_in h1 h2]
  · intro k hk
    have h1 := OS.lt k hk
    dsimp only
    rw [named_lt (by omega), named_in h1.1 h1.2]
  · exact (D1.trans st (U := []) (by simp) (by simp)).trans ca (by simp) (by simp)
  · intro k hk
    dsimp only
    rw [named_lt (by omega), named_lt (by omega), named_lt (by omega), named_lt (by omega), named_lt (by omega)]
  · intro k hk
    simp at hk
    dsimp only
    rw [named_ge (by omega), named_ge (by omega), named_ge (by omega), named_ge (by omega), named_ge (by omega)]
theorem chkL_zero : ∀ {its : List ItD}, chkL its = 0 → ∀ x ∈ its, chk1 x = 0
  | [], _, x, hx => by cases hx
  | y :: r, h, x, hx => by
    unfold chkL at h
    by_cases e : chk1 y = 0
    · rw [if_pos e] at h
      rcases List.mem_cons.1 hx with rfl | hx
      · exact e
      · exact chkL_zero h x hx
    · rw [if_neg e] at h
      exact absurd h e
theorem chk_at {p : PlanD} (h : p.chk = 0) {k : Nat} {x : ItD} (hx : p.its[k]? = some x) : chk1 x = 0 := by
  unfold PlanD.chk at h
  split at h
  · omega
  · exact chkL_zero h x (List.mem_of_getElem? hx)
def PlanD.cnt (p : PlanD) : Wc := ⟨p.ws.take p.wl, p.gs.take p.gl, p.ss.take p.sl, 0, 0, 0⟩
def NewPost (p : PlanD) (w : World) (e : Ending) (w' : World) : Prop :=
  ∃ μ Z, e = .returned (.tuple #[.pointer (some ⟨μ.bW, 0, none⟩), .int .i64 0]) ∧ OwnWd w w' μ Z p.cnt ∧ Z.map Zt.pr = ordP p.its p.il
theorem beq_i {a b : Int} (h : a = b) : (a == b) = true := by rw [h]; exact beq_self_eq_true b
theorem bne_i {a b : Int} (h : a ≠ b) : (a == b) = false := by rw [beq_eq_false_iff_ne]; exact h
theorem comes_no {x : ItD} (h1 : x.kind = 0) (h2 : x.m = 0) : comes x = false := by unfold comes; simp [h1, h2]
theorem comes_yes {x : ItD} (h : x.kind ≠ 0 ∨ x.m ≠ 0) : comes x = true := by
  unfold comes
  rcases h with h | h <;> simp [h]
set_option maxHeartbeats 8000000 in
theorem wNew_any (p : PlanD) (w : World) (h : p.At w) (hc : p.chk = 0) (hW : p.wl ≤ 1000000) (hG : p.gl ≤ 1000000) (hS : p.sl ≤ 1000000) (hmx : ∀ x ∈ p.its, x.m ≤ 1000000) :
    Calls Tryz.prog 105 #[.agg p.cells] w (NewPost p w) := by
  have HP := Lib.hid h
  have hchk := fun W cW => wCheck_any p W (h.chg cW)
  obtain ⟨fl, mn, tm, ia, il, ic, its, wa, wl, wc, ws, ga, gl, gc, gs, sa, sl, sc, ss⟩ := p
  have HCK := Lib.hid hchk
  clear h hchk
  have HC0 := Lib.hid hc
  have HMX := Lib.hid hmx
  have HIL : Hid (il ≤ 4096) := Lib.hid (by unfold PlanD.chk at hc; dsimp only at hc; split at hc <;> omega)
  clear hmx
  dsimp only at hW hG hS
  clear hc
  unfold PlanD.cells at *
  dsimp only at *
  have CB : Chg [] w (w.alloc (.cells #[.int .u32 fl, .int .u8 mn, .int .u8 tm, .slice ia il ic, .slice wa wl wc, .slice ga gl gc, .slice sa sl sc] 74)) := (Chg.refl _ _).alloc _
  have HB := alloc_heap w (.cells #[.int .u32 fl, .int .u8 mn, .int .u8 tm, .slice ia il ic, .slice wa wl wc, .slice ga gl gc, .slice sa sl sc] 74)
  go_enter Tryz.func105, Tryz.ntmps105
  go_wp2_with fail
  refine (HCK.out _ CB).mono ?_
  rintro e w1 ⟨rfl, C1⟩
  rw [HC0.out]
  have D1 := CB.trans C1 (U := []) (by simp) (by simp)
  have HB1 := C1.heap HB (by simp)
  obtain ⟨bP, hbP⟩ : ∃ bP, bP = w.heap.size := ⟨_, rfl⟩
  rw [← hbP] at HB1 ⊢
  have p3 : w1.cell? ⟨bP, 3, none⟩ = some (.slice ia il ic) := by rw [cell_of_heap HB1]; rfl
  have p4 : w1.cell? ⟨bP, 4, none⟩ = some (.slice wa wl wc) := by rw [cell_of_heap HB1]; rfl
  have p5 : w1.cell? ⟨bP, 5, none⟩ = some (.slice ga gl gc) := by rw [cell_of_heap HB1]; rfl
  have p6 : w1.cell? ⟨bP, 6, none⟩ = some (.slice sa sl sc) := by rw [cell_of_heap HB1]; rfl
  have HBP := Lib.hid hbP
  have HB1' := Lib.hid HB1
  have HD1 := Lib.hid D1
  have cW := Lib.hid HP.out.ws.src
  have cG := Lib.hid HP.out.gs.src
  have cS := Lib.hid HP.out.ss.src
  dsimp only at cW cG cS
  clear HB HB1 hbP CB C1 D1
  go_wp2_with fail
  go_region_held3 (fun w' => w'.cell? ⟨bP, 4, none⟩ = some (.slice wa wl wc) ∧ w'.cell? ⟨bP, 5, none⟩ = some (.slice ga gl gc) ∧ w'.cell? ⟨bP, 6, none⟩ = some (.slice sa sl sc)) (first | (exact ⟨st.cell p4 (by simp), st.cell p5 (by simp), st.cell p6 (by simp)⟩) | go_keep)
    (first
      | (go_at_call 124; refine (qNew_any _).mono ?_; rintro e w2 ⟨rfl, C2, Q2⟩; have st : Chg [] w1 w2 := (by first | exact C2 | exact C2.of_drew | exact C2.of_drewN))
      | (go_at_call_of 125 (Value.slice wa wl wc); refine (iclone_any wa wl wc (ws.take wl) _ ((cW.out.chg0 HD1.out).chg0 st) hW).mono ?_; rintro e w3 ⟨vW, rfl, C3, OW⟩; obtain ⟨aW, kW, rfl, _, _⟩ := owns_srcAt OW; have Q3 := Q2.chg C3 (by simp) (by simp); have st := st.trans C3 (U := []) (by simp) (by simp))
      | (go_at_call_of 125 (Value.slice ga gl gc); refine (iclone_any ga gl gc (gs.take gl) _ ((cG.out.chg0 HD1.out).chg0 st) hG).mono ?_; rintro e w4 ⟨vG, rfl, C4, OG⟩; obtain ⟨aG, kG, rfl, _, _⟩ := owns_srcAt OG; have OW4 := owns_keep OW C4 (by simp); have Q4 := Q3.chg C4 (by simp) (by simp); have st := st.trans C4 (U := []) (by simp) (by simp))
      | (go_at_call_of 125 (Value.slice sa sl sc); refine (iclone_any sa sl sc (ss.take sl) _ ((cS.out.chg0 HD1.out).chg0 st) hS).mono ?_; rintro e w5 ⟨vS, rfl, C5, OS⟩; obtain ⟨aS, kS, rfl, _, _⟩ := owns_srcAt OS; have OW5 := owns_keep OW4 C5 (by simp); have OG5 := owns_keep OG C5 (by simp); have Q5 := Q4.chg C5 (by simp) (by simp); have st := st.trans C5 (U := []) (by simp) (by simp)))
  have HS := Lib.hid (wld_start HD1.out st (C2.of_drew) C3 C4 C5 Q5 (by have := Q2.lt; exact this) OW5 (fun k hk => (OW.lt k hk).2) OG5 (fun k hk => (OG.lt k hk).2) OS hW hG hS)
  have S6 : Chg [] w1 (w5.alloc (.cells #[.pointer (some ⟨w1.heap.size, 0, none⟩), .slice none 0 0, .slice aW wl kW, .slice aG gl kG, .slice aS sl kS, .int .i64 0, .int .i64 0, .int .i64 0] 206)) := st.alloc _
  generalize w5.alloc _ = w6 at *
  obtain ⟨μ0, O6, m1, m2, m3, m4, m5, m6⟩ := HS.out
  rw [← m1]
  have HM := Lib.hid (And.intro m1 (And.intro m4 m5))
  have HO6 := Lib.hid O6
  have p3' := S6.cell p3 (by simp)
  clear O6 m1 m2 m3 m4 m5 m6 HS S6 C2 Q2 C3 OW Q3 C4 OG OW4 Q4 C5 OS OW5 OG5 Q5 p3 p4 p5 p6 st
  obtain ⟨bW, hbW⟩ : ∃ bW, μ0.bW = bW := ⟨_, rfl⟩
  rw [hbW]
  have HBW := Lib.hid hbW
  clear hbW
  go_wp2_with fail
  go_loopw [29] (fun iv wr => ∃ k : Nat, k ≤ il ∧ iv = .int .i64 k ∧ Hid (∃ μ Z, OwnWd w wr μ Z ⟨ws.take wl, gs.take gl, ss.take sl, 0, 0, 0⟩ ∧ μ.bW = bW ∧ μ.ivs.length = k ∧ Z.map Zt.pr = ordP its k ∧ μ.p = Z.length ∧ ∀ z ∈ Z, z.ix < k)) (fun iv _ => il - (intOf iv).toNat)
  case atStart => exact ⟨0, by omega, rfl, Lib.hid ⟨μ0, [], HO6.out, HBW.out, by rw [HM.out.2.1]; rfl, rfl, HM.out.2.2, by simp⟩⟩
  case round =>
    obtain ⟨k, hk, rfl, hs⟩ := hrel
    by_cases hlt : k < il
    · obtain ⟨μ, Z, o, b1, b2, b3, b4, b5⟩ := hs.out
      obtain ⟨bl, off, x, rfl, hx, h0, h1, h2, h3, hr, hwd⟩ := (HP.out.its.chg o.c0).get hlt
      obtain ⟨x0, x1, _⟩ := o.is.cells
      rw [b1] at x0 x1
      have k7 : Chg [] wr (wr.alloc (.cells #[.float .f64 x.b, .int .i64 x.kind, .int .i64 x.n, .slice x.ao x.m x.cap] 100)) := (Chg.refl _ _).alloc _
      have y0 := k7.cell x0 (by simp)
      have y1 := k7.cell x1 (by simp)
      have HO := Lib.hid o
      clear o hs
      obtain ⟨i0, hi, hz0, hz1, hz2⟩ := info_parts infoAny
      have hck : chk1 x = 0 := chk_at HC0.out hx
      have hkd := (chk1_zero hck).1
      have hmx := HMX.out x (List.mem_of_getElem? hx)
      have hil : il ≤ 4096 := HIL.out
      have HIT := Lib.hid (show ∀ W, Chg [] wr W → Calls Tryz.prog 126 #[.agg #[.float .f64 x.b, .int .i64 x.kind, .int .i64 x.n, .slice x.ao x.m x.cap]] W (fun e w'' => ∃ v, e = .returned v ∧ (Chg [] W w'' ∧ ItemVal x W w'' v)) from fun W cW => item_any x W (hr.chg0 cW) hkd hmx)
      have K7 := Lib.hid k7
      have HROW := Lib.hid (show ∀ W, Chg [] wr W → W.ownsRow 0 20 1 μ.iv k μ.ivs ∧ W.cell? ⟨bW, 1, none⟩ = some μ.iv from fun W cW => by
        have h1 := owns_keep HO.out.is.row cW (by simp)
        rw [b2] at h1
        exact ⟨h1, cW.cell x1 (by simp)⟩)
      have HWB := Lib.hid (show ∀ W W', Chg [] wr W → Chg μ.iv.ownBlock.toList W W' → W'.cell? ⟨bW, 1, none⟩ = some μ.iv ∧ W'.frozen? ⟨bW, 1, none⟩ = false from fun W W' cW cW' => by
        have hb := cW'.heap (cW.heap HO.out.is.hW (by simp)) (fun hm => by
          have := HO.out.is.f4 μ.bW (by simpa [Option.mem_toList] using hm)
          rw [HO.out.is.f1] at this
          omega)
        rw [b1] at hb
        exact ⟨by rw [cell_of_heap hb]; rfl, free_of_heap hb 1⟩)
      have HB := Lib.hid (And.intro b1 (And.intro b2 (And.intro b3 (And.intro b4 b5))))
      have HX := Lib.hid (And.intro hx (And.intro hwd (And.intro hck hmx)))
      dsimp only at HX
      clear b1 b2 b3 b4 b5 k7 hr hx hwd hck hkd hmx x0 x1
      go_upto_region 8 with (fail)
      go_cut [] (fun wx => AppPost w μ Z ⟨ws.take wl, gs.take gl, ss.take sl, 0, 0, 0⟩ x k wx ∧ wx.heap[wr.heap.size]? = some (.cells #[.float .f64 x.b, .int .i64 x.kind, .int .i64 x.n, .slice x.ao x.m x.cap] 100 (0, 0)))
      case first =>
        have z0 : (wr.alloc (.cells #[.float .f64 x.b, .int .i64 x.kind, .int .i64 x.n, .slice x.ao x.m x.cap] 100)).cell? ⟨wr.heap.size, 0, none⟩ = some (.float .f64 x.b) := by rw [cell_of_heap (alloc_heap wr _)]; rfl
        have z1 : (wr.alloc (.cells #[.float .f64 x.b, .int .i64 x.kind, .int .i64 x.n, .slice x.ao x.m x.cap] 100)).cell? ⟨wr.heap.size, 1, none⟩ = some (.int .i64 x.kind) := by rw [cell_of_heap (alloc_heap wr _)]; rfl
        have z2 : (wr.alloc (.cells #[.float .f64 x.b, .int .i64 x.kind, .int .i64 x.n, .slice x.ao x.m x.cap] 100)).cell? ⟨wr.heap.size, 2, none⟩ = some (.int .i64 x.n) := by rw [cell_of_heap (alloc_heap wr _)]; rfl
        have z3 : (wr.alloc (.cells #[.float .f64 x.b, .int .i64 x.kind, .int .i64 x.n, .slice x.ao x.m x.cap] 100)).cell? ⟨wr.heap.size, 3, none⟩ = some (.slice x.ao x.m x.cap) := by rw [cell_of_heap (alloc_heap wr _)]; rfl
        have z4 := alloc_heap wr (.cells #[.float .f64 x.b, .int .i64 x.kind, .int .i64 x.n, .slice x.ao x.m x.cap] 100)
        have HZ4 := Lib.hid z4
        clear z4
        generalize hw7 : wr.alloc (.cells #[.float .f64 x.b, .int .i64 x.kind, .int .i64 x.n, .slice x.ao x.m x.cap] 100) = w7 at *
        clear hw7
        go_region_law
          (first
            | (refine step_call rfl 126 #[.agg #[.float .f64 x.b, .int .i64 x.kind, .int .i64 x.n, .slice x.ao x.m x.cap]] (by kernel_rfl) _ (HIT.out _ (by first | exact K7.out.drew | exact K7.out)) ?_; rintro v8 w8 ⟨C8, V8⟩; obtain ⟨T8, u8, rfl⟩ := V8.iface; have D8 : Chg [] wr w8 := K7.out.trans (by first | exact C8.of_drew | exact C8) (by simp) (by simp); have y8 := (HROW.out _ D8).2; have D9 : Chg [] wr (w8.alloc (.cells #[.iface T8 u8] 20)) := D8.alloc _; have y9 := (HROW.out _ D9).2; have HD8 := Lib.hid (And.intro D8 (And.intro C8 V8)); clear D8 D9 C8 V8)
            | (refine step_append_where rfl _ _ 204 (by rfl) 0 20 i0 .nilIface 1 16 Tryz.underlying204 hi hz0 hz1 hz2 rfl (by decide) μ.iv k μ.ivs (by rfl) (HROW.out _ (HD8.out.1.alloc _)).1 ⟨w8.heap.size, 0, none⟩ 1 1 [.iface T8 u8] (by rfl) rfl (one_new _ _ _) HD8.out.2.2.one (by unfold maxLen; omega) (by omega) (Nat.zero_le _) ?_; intro v10 w10 O10 C10 B10; obtain ⟨a10, c10, rfl, _, _⟩ := owns_srcAt O10; obtain ⟨r0, r1⟩ := HWB.out _ _ (HD8.out.1.alloc _) C10; have HC10 := Lib.hid (And.intro O10 (And.intro C10 B10)); clear O10 C10 B10))
        all_goals (
          go_wp2_with fail
          go_meet
          refine ⟨?_, ?_⟩
          · have E := app_end HO.out HB.out.2.1 (by omega) (K7.out.drew) HD8.out.2.1 HD8.out.2.2 HC10.out.1 HC10.out.2.1 HC10.out.2.2
            rw [HB.out.1] at E
            exact E
          · have hbw := heap_lt HO.out.is.hW
            rw [HB.out.1] at hbw
            rw [setCell_heap_ne _ (by omega)]
            refine HC10.out.2.1.heap (((HD8.out.2.1.of_drew).alloc _).heap HZ4.out (by simp)) (fun hm => ?_)
            have := (HO.out.is.row.lt _ (by simpa [Option.mem_toList] using hm)).2
            omega)
      case rest =>
        obtain ⟨hap, hcp⟩ := hcut
        have c0 : wc.cell? ⟨wr.heap.size, 0, none⟩ = some (.float .f64 x.b) := by rw [cell_of_heap hcp]; rfl
        have c1 : wc.cell? ⟨wr.heap.size, 1, none⟩ = some (.int .i64 x.kind) := by rw [cell_of_heap hcp]; rfl
        have c2 : wc.cell? ⟨wr.heap.size, 2, none⟩ = some (.int .i64 x.n) := by rw [cell_of_heap hcp]; rfl
        have c3 : wc.cell? ⟨wr.heap.size, 3, none⟩ = some (.slice x.ao x.m x.cap) := by rw [cell_of_heap hcp]; rfl
        obtain ⟨f', iv', val, o', hh⟩ := hap
        have HO' := Lib.hid o'
        have q0 := o'.is.cells.1
        have q1 := o'.is.q
        dsimp only at q0 q1
        rw [HB.out.1] at q0
        have HQ := Lib.hid q1
        clear o' q1 hcp
        have hzl : Z.length ≤ k := by
          have e1 := congrArg List.length HB.out.2.2.1
          rw [List.length_map] at e1
          rw [e1]; exact ordP_len its k
        by_cases hno : x.kind = 0 ∧ x.m = 0
        · have t1 := beq_i hno.1
          have t2 : ((x.m : Int) == 0) = true := beq_i (by omega)
          have HC := Lib.hid (comes_no hno.1 hno.2)
          clear hno
          go_wp2_with fail
          go_roundw
          case rel =>
            refine ⟨k + 1, by omega, by go_num, Lib.hid ⟨_, Z, HO'.out, HB.out.1, by simp [HB.out.2.1], ?_, HB.out.2.2.2.1, fun z hz => by have := HB.out.2.2.2.2 z hz; omega⟩⟩
            rw [ordP_succ HX.out.1, HB.out.2.2.1]
            unfold ordStep
            rw [HC.out]
            rfl
          case measure => simp [intOf]; omega
        · have HC := Lib.hid (comes_yes (x := x) (by omega))
          have hcase : ((x.kind == 0) = false) ∨ ((x.kind == 0) = true ∧ ((x.m : Int) == 0) = false) := by
            by_cases e : x.kind = 0
            · exact .inr ⟨beq_i e, bne_i (by omega)⟩
            · exact .inl (bne_i e)
          clear hno
          rcases hcase with t1 | ⟨t1, t2⟩
          all_goals
            go_wp2_with fail
            refine wp_region_tail 7 (by kernel_rfl) (by kernel_rfl) ?_
            simp only [List.take_succ_cons, List.take_zero, List.drop_succ_cons, List.drop_zero]
            repeat still_step
            refine wpStill_nil ?_
            go_wp2_with fail
            refine (qPush_any μ.bQ μ.v _ μ.p x.b k _ (HQ.out.chg ((Chg.refl [] wc).drew) (by simp) (by simp)) (by rw [List.length_map]; omega) HX.out.2.1 (by rw [HB.out.2.2.2.1]; omega)).mono ?_
            rintro e w12 ⟨rfl, C12, v12, Q12, B12⟩
            have HPP := Lib.hid (pushW_end (x := x) (k := k) (val := val) (HO'.out.chg0 ((Chg.refl [] wc).drew)) HB.out.2.2.2.2 (by dsimp only; rw [List.getElem?_append_right (by rw [HB.out.2.1]; exact Nat.le_refl _), HB.out.2.1, Nat.sub_self]; rfl) hh HC.out HX.out.2.2.1 HX.out.2.1 HX.out.2.2.2 C12 Q12 B12)
            clear C12 Q12 B12
            go_wp2_with fail
            go_roundw
            case rel =>
              obtain ⟨f2, v2, z, o2, z1, z2⟩ := HPP.out
              refine ⟨k + 1, by omega, by go_num, Lib.hid ⟨_, _, o2, HB.out.1, by simp [HB.out.2.1], ?_, ?_, fun y hy => ?_⟩⟩
              · rw [ordP_succ HX.out.1, insZ_pr, HB.out.2.2.1, z1]
                have e1 := congrArg List.length HB.out.2.2.1
                rw [List.length_map] at e1
                unfold ordStep
                rw [HC.out, if_pos rfl, ← e1]
                dsimp only
                rw [HB.out.2.2.2.1]
              · rw [(insZ_perm Z z).length_eq, List.length_cons]
                dsimp only
                rw [HB.out.2.2.2.1]
              · rcases List.mem_cons.1 ((insZ_perm Z z).mem_iff.1 hy) with rfl | hy'
                · omega
                · have := HB.out.2.2.2.2 y hy'; omega
            case measure => simp [intOf]; omega
    · obtain rfl : k = il := by omega
      obtain ⟨μ, Z, o, b1, b2, b3, b4, b5⟩ := hs.out
      have HE := Lib.hid (And.intro o (And.intro b1 b3))
      clear o b2 b3 b4 b5 hs
      rw [← b1]
      go_wp2_with fail
      go_ret2
      exact ⟨μ, Z, rfl, HE.out.1, HE.out.2.2⟩
end Go.Proofs.YtafmnkngjjnpiaaGreatDoor
