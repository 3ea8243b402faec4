/- An argument of type []uint64, opened to a list of numbers. Conditions: none. -/
import Derived.Test.YtgklmjallmbdgaaV7
import Derived.SizedLaws
import Derived.OpenShut
import Derived.ChangeSlices
namespace Go.Proofs.Ytgklmjallmbdgaa
open Go.RowKit

theorem cell_lt {w : World} {a : Addr} {v : Value} (h : w.cell? a = some v) : a.block < w.heap.size := by
  rcases Nat.lt_or_ge a.block w.heap.size with hlt | hge
  · exact hlt
  · exfalso
    simp [World.cell?, Array.getElem?_eq_none hge] at h

theorem SlU.opened {w : World} {a : Addr} {zs : List Int} {l : Nat} (hl : l ≤ zs.length) (hc : ∀ i, i < zs.length → w.cell? (a.add i) = some (.int .u64 (zs.getD i 0))) : SlU w w.heap.size (some a) (zs.take l) := by
  intro h0
  have h1 : 0 < zs.length := by simp at h0; omega
  obtain ⟨b, off, rfl, hc'⟩ := Go.ints_at hc h1
  refine ⟨b, off, rfl, cell_lt (hc' 0 h1), fun j hj => ?_⟩
  simp at hj
  rw [hc' j (by omega)]
  simp [hj, show j < zs.length by omega]
end Go.Proofs.Ytgklmjallmbdgaa
