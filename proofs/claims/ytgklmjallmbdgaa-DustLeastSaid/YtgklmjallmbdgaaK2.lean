/- Rows of Outs that a call makes: the cells of a list, and how such a row reads. Conditions: none. -/
import Derived.Test.YtgklmjallmbdgaaK1
namespace Go.Proofs.Ytgklmjallmbdgaa
open Go.RowKit

/-- the cells of a list of Outs -/
def cellsO : List (Int × ByteArray) → List Value
  | [] => []
  | p :: r => .int .i64 p.1 :: .string p.2 :: cellsO r
theorem cellsO_append (a b : List (Int × ByteArray)) : cellsO (a ++ b) = cellsO a ++ cellsO b := by
  induction a with
  | nil => rfl
  | cons p r ih => simp only [List.cons_append, cellsO, ih]
theorem cellsO_get : ∀ (os : List (Int × ByteArray)) (j : Nat) (p : Int × ByteArray), os[j]? = some p → (cellsO os)[j * 2]? = some (.int .i64 p.1) ∧ (cellsO os)[j * 2 + 1]? = some (.string p.2)
  | [], j, p, h => by simp at h
  | q :: r, 0, p, h => by simp at h; subst h; exact ⟨rfl, rfl⟩
  | q :: r, j + 1, p, h => by
    have ih := cellsO_get r j p (by simpa using h)
    rw [show (j + 1) * 2 = j * 2 + 1 + 1 from by omega]
    exact ⟨ih.1, ih.2⟩
theorem row_SlO {w : World} {base cap : Nat} {A : Option Addr} {os : List (Int × ByteArray)} (h : w.ownsRow base 39 2 (.slice A os.length cap) os.length (cellsO os)) : SlO w w.heap.size A os ∧ os.length ≤ cap := by
  refine ⟨fun h0 => ?_, ?_⟩
  · rcases h.2 with ⟨_, hn⟩ | ⟨g, c, cur, hv, hb, hh, hnc, _⟩
    · omega
    · injection hv with h1 h2 h3
      subst h1
      refine ⟨g, 0, rfl, (h.lt g rfl).2, fun j p hp => ?_⟩
      obtain ⟨g1, g2⟩ := cellsO_get os j p hp
      have c1 := h.cells (g := g) rfl _ _ g1
      have c2 := h.cells (g := g) rfl _ _ g2
      rw [Go.WideShapes.add_plain] at c1 c2
      simp only [Nat.zero_add] at c1 c2 ⊢
      exact ⟨c1, c2⟩
  · rcases h.2 with ⟨hv, hn⟩ | ⟨g, c, cur, hv, hb, hh, hnc, _⟩
    · omega
    · injection hv with h1 h2 h3
      subst h3
      exact hnc
end Go.Proofs.Ytgklmjallmbdgaa
