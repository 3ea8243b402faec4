/- Rows of ints in blocks of the call's own, carried from world to world. Conditions: none. -/
import Derived.Test.YtiokcoicipmkmaaAgg
import Derived.Deep.RegionHeld3
import Derived.Deep.DeepCutAuto
namespace Go.Proofs.Ytiokcoicipmkmaa
open Go.RowKit

/-- block b holds the ints l -/
structure Ints (w : World) (b : Nat) (l : List Int) : Prop where
  lt : b < w.heap.size
  at_ : ∀ i, i < l.length → w.cell? ⟨b, i, none⟩ = some (.int .i64 (l.getD i 0))
theorem Ints.later {w w' : World} {b : Nat} {l : List Int} (h : Ints w b l) (hb : Below w.heap.size w w') : Ints w' b l :=
  ⟨Nat.lt_of_lt_of_le h.lt hb.size, fun i hi => (hb.cell (p := ⟨b, i, none⟩) h.lt).trans (h.at_ i hi)⟩
theorem Ints.alloc {w : World} {b : Nat} {l : List Int} (h : Ints w b l) (o : Obj) : Ints (w.alloc o) b l := h.later ((Below.refl _ _).alloc (Nat.le_refl _) _)
theorem Ints.drew {w : World} {b : Nat} {l : List Int} (h : Ints w b l) : Ints w.drew b l := h.later (Below.refl _ _).drew
theorem Ints.made (w : World) (l : List Int) (t : TypeId) : Ints (w.alloc (.cells (l.map (Value.int .i64)).toArray t)) w.heap.size l :=
  ⟨by simp, fun i hi => by rw [World.cell?_alloc_new]; simp [hi]⟩

/-- what a region that reads a curve's own box and makes memory keeps -/
abbrev Bxs (s0 e0 f0 c0 : Int) (w w' : World) : Prop :=
  w.heap.size < w'.heap.size ∧ w'.cell? ⟨w.heap.size, 0, none⟩ = some (.int .i64 s0) ∧ w'.cell? ⟨w.heap.size, 1, none⟩ = some (.int .i64 e0) ∧ w'.cell? ⟨w.heap.size, 2, none⟩ = some (.int .i64 f0) ∧ w'.cell? ⟨w.heap.size, 3, none⟩ = some (.int .i64 c0) ∧ Below w.heap.size w w'
theorem Bxs.first (s0 e0 f0 c0 : Int) (w : World) (t : TypeId) : Bxs s0 e0 f0 c0 w (w.alloc (.cells #[.int .i64 s0, .int .i64 e0, .int .i64 f0, .int .i64 c0] t)).drew :=
  ⟨by simp, by simp [World.cell?_alloc_new], by simp [World.cell?_alloc_new], by simp [World.cell?_alloc_new], by simp [World.cell?_alloc_new], ((Below.refl _ _).alloc (Nat.le_refl _) _).drew⟩
theorem Bxs.step {s0 e0 f0 c0 : Int} {w W W' : World} (h : Bxs s0 e0 f0 c0 w W) (hb : Below W.heap.size W W') : Bxs s0 e0 f0 c0 w W' := by
  obtain ⟨h1, h2, h3, h4, h5, h9⟩ := h
  have c := fun o => hb.cell (p := ⟨w.heap.size, o, none⟩) h1
  exact ⟨Nat.lt_of_lt_of_le h1 hb.size, (c 0).trans h2, (c 1).trans h3, (c 2).trans h4, (c 3).trans h5, h9.trans (hb.mono h9.size)⟩
theorem Bxs.made {s0 e0 f0 c0 : Int} {w W : World} (h : Bxs s0 e0 f0 c0 w W) (o : Obj) : Bxs s0 e0 f0 c0 w (W.alloc o) := h.step ((Below.refl _ _).alloc (Nat.le_refl _) _)
end Go.Proofs.Ytiokcoicipmkmaa
