/- Blocks of the call's own that hold a struct, and slices of structs that came in: how they stand from world to world. Conditions: none. -/
import Derived.Test.YtgklmjallmbdgaaD1
import Derived.OneCell
namespace Go.Proofs.Ytgklmjallmbdgaa
open Go.RowKit

/-- block g holds the cells cs -/
def Blk (w : World) (g : Nat) (cs : Array Value) (t : TypeId) : Prop := w.heap[g]? = some (.cells cs t (0, 0))
theorem Blk.lt {w : World} {g : Nat} {cs : Array Value} {t : TypeId} (h : Blk w g cs t) : g < w.heap.size := (Array.getElem?_eq_some_iff.1 h).1
theorem Blk.cell {w : World} {g : Nat} {cs : Array Value} {t : TypeId} (h : Blk w g cs t) (i : Nat) {v : Value} (hv : cs[i]? = some v) : w.cell? ⟨g, i, none⟩ = some v := by
  rw [cell_of_row w g i cs t (0, 0) h]; exact hv
theorem Blk.frozen {w : World} {g : Nat} {cs : Array Value} {t : TypeId} (h : Blk w g cs t) (i : Nat) : w.frozen? ⟨g, i, none⟩ = false := frozen_of_row w g i cs t h
theorem Blk.new (w : World) (cs : Array Value) (t : TypeId) : Blk (w.alloc (.cells cs t)) w.heap.size cs t := heap_alloc_new w _
theorem Blk.later {w w' : World} {g B : Nat} {cs : Array Value} {t : TypeId} (h : Blk w g cs t) (hb : Below B w w') (hg : g < B) : Blk w' g cs t := (hb.block g hg).trans h
theorem Blk.alloc {w : World} {g : Nat} {cs : Array Value} {t : TypeId} (h : Blk w g cs t) (o : Obj) : Blk (w.alloc o) g cs t := (Below.heap_alloc w o g h.lt).trans h
theorem Blk.drew {w : World} {g : Nat} {cs : Array Value} {t : TypeId} (h : Blk w g cs t) : Blk w.drew g cs t := h
theorem Blk.kept {w w' : World} {row : Option Nat} {g : Nat} {cs : Array Value} {t : TypeId} (h : Blk w g cs t) (hg : w.grownBy w' row) (hne : some g ≠ row) : Blk w' g cs t := (hg.block g h.lt hne).trans h
theorem Blk.set {w : World} {g : Nat} {cs : Array Value} {t : TypeId} (h : Blk w g cs t) (i : Nat) (v : Value) : Blk (w.setCell ⟨g, i, none⟩ v) g (cs.setIfInBounds i v) t := heap_setCell_same w g i cs t v h
theorem Blk.other {w : World} {g : Nat} {cs : Array Value} {t : TypeId} (h : Blk w g cs t) {a : Addr} (hne : g ≠ a.block) (v : Value) : Blk (w.setCell a v) g cs t := (Below.heap_setCell w a v g hne).trans h

theorem row_form {w : World} {base n size : Nat} {e : TypeId} {v : Value} {xs : List Value} (h : w.ownsRow base e size v n xs) : ∃ A cap, v = .slice A n cap := by
  rcases h.2 with ⟨rfl, hn⟩ | ⟨g, cap, cur, rfl, _⟩
  · exact ⟨none, 0, by rw [hn]⟩
  · exact ⟨_, _, rfl⟩
theorem row_not {w : World} {base n size : Nat} {e : TypeId} {v : Value} {xs : List Value} (h : w.ownsRow base e size v n xs) {g : Nat} (hg : g < base) : some g ≠ v.ownBlock := by
  intro e
  have := (h.lt g e.symm).1
  omega
theorem row_not' {w : World} {base n size : Nat} {e : TypeId} {v : Value} {xs : List Value} (h : w.ownsRow base e size v n xs) {g : Nat} (hg : w.heap.size ≤ g) : v.ownBlock ≠ some g := by
  intro e
  have := (h.lt g e).2
  omega

theorem row_later {w w' : World} {base n size : Nat} {e : TypeId} {v : Value} {xs : List Value} (h : w.ownsRow base e size v n xs) (hb : Below w.heap.size w w') : w'.ownsRow base e size v n xs := by
  refine ⟨h.1, ?_⟩
  rcases h.2 with hn | ⟨g, cap, cur, rfl, hbg, hh, rest⟩
  · exact .inl hn
  · exact .inr ⟨g, cap, cur, rfl, hbg, (hb.block g (Array.getElem?_eq_some_iff.1 hh).1).trans hh, rest⟩
theorem made_cells (w : World) (cs : Array Value) (t : TypeId) : ∀ j v, cs.toList[j]? = some v → (w.alloc (.cells cs t)).cell? ((⟨w.heap.size, 0, none⟩ : Addr).add j) = some v := by
  intro j v h
  rw [Go.WideShapes.add_plain]
  simp only [Nat.zero_add]
  exact (Blk.new w cs t).cell j (by simpa using h)

/-- a slice of texts -/
def SlS (w : World) (B : Nat) (A : Option Addr) (n : Nat) : Prop :=
  0 < n → ∃ b o, A = some ⟨b, o, none⟩ ∧ b < B ∧ ∀ j, j < n → ∃ s : ByteArray, w.cell? ⟨b, o + j, none⟩ = some (.string s) ∧ s.size ≤ 9223372036854775807
theorem SlS.later {w w' : World} {A : Option Addr} {n B : Nat} (h : SlS w B A n) (hb : Below B w w') : SlS w' B A n := by
  intro h0
  obtain ⟨b, o, e, hl, hc⟩ := h h0
  refine ⟨b, o, e, hl, fun j hj => ?_⟩
  obtain ⟨s, h1, h2⟩ := hc j hj
  exact ⟨s, (hb.cell (p := ⟨b, o + j, none⟩) hl).trans h1, h2⟩
/-- a slice of Ins -/
def SlI (w : World) (B : Nat) (A : Option Addr) (n : Nat) : Prop :=
  0 < n → ∃ b o, A = some ⟨b, o, none⟩ ∧ b < B ∧ ∀ j, j < n → ∃ (s : ByteArray) (x q : Int) (WA : Option Addr) (WL WC : Nat), w.cell? ⟨b, o + j * 4, none⟩ = some (.string s) ∧ w.cell? ⟨b, o + j * 4 + 1, none⟩ = some (.int .u32 x) ∧
    w.cell? ⟨b, o + j * 4 + 2, none⟩ = some (.int .u32 q) ∧ w.cell? ⟨b, o + j * 4 + 3, none⟩ = some (.slice WA WL WC) ∧ s.size ≤ 9223372036854775807 ∧ WL ≤ WC ∧ SlS w B WA WL
theorem SlI.later {w w' : World} {A : Option Addr} {n B : Nat} (h : SlI w B A n) (hb : Below B w w') : SlI w' B A n := by
  intro h0
  obtain ⟨b, o, e, hl, hc⟩ := h h0
  refine ⟨b, o, e, hl, fun j hj => ?_⟩
  obtain ⟨s, x, q, WA, WL, WC, h1, h2, h3, h4, h5, h6, h7⟩ := hc j hj
  have c := fun k => hb.cell (p := ⟨b, k, none⟩) hl
  exact ⟨s, x, q, WA, WL, WC, (c _).trans h1, (c _).trans h2, (c _).trans h3, (c _).trans h4, h5, h6, h7.later hb⟩
/-- a slice of Outs that reads as a list -/
def SlO (w : World) (B : Nat) (A : Option Addr) (os : List (Int × ByteArray)) : Prop :=
  0 < os.length → ∃ b o, A = some ⟨b, o, none⟩ ∧ b < B ∧ ∀ j p, os[j]? = some p → w.cell? ⟨b, o + j * 2, none⟩ = some (.int .i64 p.1) ∧ w.cell? ⟨b, o + j * 2 + 1, none⟩ = some (.string p.2)
theorem SlO.later {w w' : World} {A : Option Addr} {os : List (Int × ByteArray)} {B : Nat} (h : SlO w B A os) (hb : Below B w w') : SlO w' B A os := by
  intro h0
  obtain ⟨b, o, e, hl, hc⟩ := h h0
  have c := fun k => hb.cell (p := ⟨b, k, none⟩) hl
  exact ⟨b, o, e, hl, fun j p hp => ⟨(c _).trans (hc j p hp).1, (c _).trans (hc j p hp).2⟩⟩
theorem SlO.more {w : World} {A : Option Addr} {os : List (Int × ByteArray)} {B B' : Nat} (h : SlO w B A os) (hb : B ≤ B') : SlO w B' A os := by
  intro h0
  obtain ⟨b, o, e, hl, hc⟩ := h h0
  exact ⟨b, o, e, by omega, hc⟩
end Go.Proofs.Ytgklmjallmbdgaa
