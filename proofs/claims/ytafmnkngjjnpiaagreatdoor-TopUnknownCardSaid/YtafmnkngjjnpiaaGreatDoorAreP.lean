import GoSem.Core.Value
import Derived.Laws.CopyOwn
namespace Go.Proofs.YtafmnkngjjnpiaaGreatDoor.Ar
set_option maxRecDepth 100000
set_option linter.unusedVariables false
def cellsOf (N : Nat) (l : List Int) : List Value := (l ++ List.replicate (N - l.length) 0).map (Value.int .u8)
theorem cellsOf_length (N : Nat) (l : List Int) (h : l.length ≤ N) : (cellsOf N l).length = N := by unfold cellsOf; simp; omega
theorem insert_cells (N : Nat) (l ys : List Int) (p : Nat) (hp : p ≤ l.length) (hm : ys.length ≤ N - l.length) (hle : l.length ≤ N) :
    splice (splice (cellsOf N l) (p + ys.length) ((l.drop p).map (Value.int .u8))) p (ys.map (Value.int .u8)) = cellsOf N (l.take p ++ ys ++ l.drop p) := by
  unfold cellsOf splice
  rw [← List.map_take, ← List.map_drop, ← List.map_append, ← List.map_append]
  rw [← List.map_take, ← List.map_drop, ← List.map_append, ← List.map_append]
  congr 1
  simp only [List.length_map, List.length_drop, List.length_append, List.length_take]
  have hl : l = l.take p ++ l.drop p := (List.take_append_drop p l).symm
  have hlt : (l.take p).length = p := by simp; omega
  have hld : (l.drop p).length = l.length - p := by simp
  generalize hA : l.take p = A at *
  generalize hB : l.drop p = B at *
  have hlen : l.length = p + B.length := by rw [hl]; simp; omega
  generalize hZ : N - l.length = Z at *
  rw [hl]
  apply List.ext_getElem?
  intro i
  simp only [List.getElem?_append, List.getElem?_take, List.getElem?_drop, List.length_append, List.length_take, List.length_drop, List.length_replicate, List.getElem?_replicate]
  subst hlt
  repeat' split
  all_goals first | (exfalso; omega) | rfl | (congr 1; omega)
theorem delete_cells (N : Nat) (l : List Int) (i j : Nat) (hij : i ≤ j) (hj : j ≤ l.length) (hle : l.length ≤ N) :
    splice (splice (cellsOf N l) i ((l.drop j).map (Value.int .u8))) (l.length - (j - i)) (List.replicate (j - i) (Value.int .u8 0)) = cellsOf N (l.take i ++ l.drop j) := by
  have er : List.replicate (j - i) (Value.int .u8 0) = (List.replicate (j - i) (0 : Int)).map (Value.int .u8) := by simp
  rw [er]
  unfold cellsOf splice
  rw [← List.map_take, ← List.map_drop, ← List.map_append, ← List.map_append]
  rw [← List.map_take, ← List.map_drop, ← List.map_append, ← List.map_append]
  congr 1
  apply List.ext_getElem?
  intro x
  simp only [List.getElem?_append, List.getElem?_take, List.getElem?_drop, List.length_append, List.length_take, List.length_drop, List.length_map, List.length_replicate, List.getElem?_replicate]
  repeat' split
  all_goals first | (exfalso; omega) | rfl | (congr 1; omega)
theorem wipe_cells (N : Nat) (l : List Int) (hle : l.length ≤ N) : splice (cellsOf N l) 0 (List.replicate N (Value.int .u8 0)) = cellsOf N [] := by
  have er : List.replicate N (Value.int .u8 0) = (List.replicate N (0 : Int)).map (Value.int .u8) := by simp
  rw [er]
  unfold cellsOf splice
  simp
  omega
theorem cells_at (N : Nat) (l : List Int) (i j : Nat) (v : Value) (h : ((l.drop i).map (Value.int .u8))[j]? = some v) : (cellsOf N l).toArray[i + j]? = some v := by
  simp only [List.getElem?_map, List.getElem?_drop, Option.map_eq_some_iff] at h
  obtain ⟨n, hn, rfl⟩ := h
  have hlt : i + j < l.length := (List.getElem?_eq_some_iff.1 hn).1
  have he : l[i + j] = n := by rw [List.getElem?_eq_getElem hlt] at hn; exact Option.some.inj hn
  simp [cellsOf, List.getElem?_append, hlt, he]
end Go.Proofs.YtafmnkngjjnpiaaGreatDoor.Ar
