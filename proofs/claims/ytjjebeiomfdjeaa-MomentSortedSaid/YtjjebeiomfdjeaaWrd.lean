/-
  Words that came in.
-/
import Derived.Test.YtjjebeiomfdjeaaMomD
import Derived.Test.YtjjebeiomfdjeaaChg
namespace Go.Proofs.Ytjjebeiomfdjeaa
set_option linter.unusedVariables false
open Go.RowKit

/-- Words that came in. -/
def WordsAt (w : World) (a : Option Addr) (len : Nat) (ws : List Nat) : Prop :=
  ws.length = len ∧ ∀ k, k < len → Wd (ws.getD k 0) ∧ ∃ b off, a = some ⟨b, off, none⟩ ∧ w.cell? ⟨b, off + k, none⟩ = some (.int .u64 ((ws.getD k 0 : Nat) : Int))

theorem IsRow.words {w : World} {a : Option Addr} {len cap : Nat} {zs : List Int} (h : IsRow .u64 w a len cap zs) : WordsAt w a len ((zs.take len).map Int.toNat) := by
  have hl := h.le
  refine ⟨by simp; omega, fun k hk => ?_⟩
  have e : ((zs.take len).map Int.toNat).getD k 0 = (zs.getD k 0).toNat := by
    simp only [List.getD_eq_getElem?_getD, List.getElem?_map, List.getElem?_take, if_pos hk]
    rw [List.getElem?_eq_getElem (by omega)]; rfl
  rw [e]
  rcases h with ⟨_, h0, _, _⟩ | ⟨x, rfl, h1, h2, h3, h4, h5⟩
  · omega
  · have hw := h5 (zs.getD k 0) (by
      simp only [List.getD_eq_getElem?_getD]
      rw [List.getElem?_eq_getElem (by omega)]
      exact List.getElem_mem _)
    obtain ⟨n, hn, hn2⟩ := word_of hw
    have hc := h4 k (by omega)
    obtain ⟨b, off, spot⟩ := x
    have hsp := World.cell?_spot (h4 0 (by omega))
    have : spot = none := by simpa [Addr.add] using hsp
    subst this
    rw [Addr.add_lit] at hc
    rw [hn] at hc ⊢
    rw [Int.toNat_natCast]
    exact ⟨hn2, b, off, rfl, hc⟩

theorem WordsAt.chg {w w' : World} {a : Option Addr} {len : Nat} {ws : List Nat} (h : WordsAt w a len ws) (c : Chg [] w w') : WordsAt w' a len ws :=
  ⟨h.1, fun k hk => by obtain ⟨h1, b, off, h2, h3⟩ := h.2 k hk; exact ⟨h1, b, off, h2, c.cell h3 (by simp)⟩⟩
end Go.Proofs.Ytjjebeiomfdjeaa
