/- Rows of ints that a walk makes by append: what a round does to them. Conditions: none. -/
import Derived.Test.YtiokcoicipmkmaaSum
import Derived.WalkKit
import Derived.Deep.Onto
import Derived.ChangeAt
namespace Go.Proofs.Ytiokcoicipmkmaa
open Go.RowKit

theorem Try.info3 : (Try.prog.info? 3).map (fun i => (i.zero, i.size, i.bytes)) = some (some (.int .i64 0), 1, 8) := by kernel_rfl

theorem one_cell (w : World) (u : Value) (t : TypeId) : ∀ j v, [u][j]? = some v → (w.alloc (.cells #[u] t)).cell? ((⟨w.heap.size, 0, none⟩ : Addr).add j) = some v := by
  intro j v h
  match j, h with
  | 0, h => simp at h; subst h; simp [Addr.add]
theorem one_lit (k : IntKind) (n : Int) : ∀ u ∈ [Value.int k n], u.oneCell' = true := by intro u h; simp at h; subst h; rfl

/-- a row of ints of the call's own -/
abbrev Own (w : World) (base : Nat) (v : Value) (ys : List Int) : Prop := w.ownsRow base 3 1 v ys.length (ys.map (Value.int .i64))

theorem Own.slice {w : World} {base : Nat} {v : Value} {ys : List Int} (h : Own w base v ys) : ∃ A cap, v = .slice A ys.length cap ∧ Sl w w.heap.size A ys := by
  rcases h.2 with ⟨rfl, hn⟩ | ⟨g, cap, cur, rfl, hb, hh, hnc, hm, hs, ht⟩
  · exact ⟨none, 0, by rw [hn], fun h0 => by omega⟩
  · refine ⟨some ⟨g, 0, none⟩, cap, rfl, fun h0 => ⟨g, 0, rfl, (h.lt g rfl).2, fun j hj => ?_⟩⟩
    have := h.cells (g := g) rfl j (.int .i64 (ys.getD j 0)) (by simp [hj])
    rw [Go.WideShapes.add_plain] at this
    exact this

theorem Own.step {w' : World} {base : Nat} {v : Value} {ys : List Int} {x : Int} (h : w'.ownsRow base 3 1 v (ys.length + 1) (ys.map (Value.int .i64) ++ [.int .i64 x])) : Own w' base v (ys ++ [x]) := by
  unfold Own
  simpa using h

theorem Own.below {B : Nat} {a w w1 : World} {v : Value} {ys : List Int} {o : Obj} (h : Own w B v ys) (hb : Below B a w) (hB : B ≤ w.heap.size) (hg : (w.alloc o).grownBy w1 v.ownBlock) : Below B a w1 :=
  (hb.alloc hB o).grown hg (by simp; omega) (fun j hj => (h.lt j hj).1)

theorem take_getD (zs : List Int) (k : Nat) (hk : k < zs.length) : zs.take (k + 1) = zs.take k ++ [zs.getD k 0] := by
  rw [List.take_add_one, List.getElem?_eq_getElem hk]; simp [hk]
theorem rev_getD (zs : List Int) (k : Nat) (hk : k < zs.length) : zs.reverse.getD k 0 = zs.getD (zs.length - 1 - k) 0 := by
  rw [List.getD_eq_getElem?_getD, List.getElem?_reverse hk, List.getD_eq_getElem?_getD]

/-- the whole of a row -/
def tot : List Int → Int
  | [] => 0
  | x :: l => x + tot l
theorem tot_append (a b : List Int) : tot (a ++ b) = tot a + tot b := by
  induction a with
  | nil => simp [tot]
  | cons x l ih => simp only [List.cons_append, tot, ih]; omega
theorem tot_reverse (a : List Int) : tot a.reverse = tot a := by
  induction a with
  | nil => rfl
  | cons x l ih => rw [List.reverse_cons, tot_append, ih]; simp [tot]; omega
theorem tot_bound (a : List Int) (C : Int) (h : ∀ x ∈ a, 0 ≤ x ∧ x ≤ C) : 0 ≤ tot a ∧ tot a ≤ a.length * C := by
  induction a with
  | nil => simp [tot]
  | cons x l ih =>
    have := ih fun y hy => h y (List.mem_cons_of_mem _ hy)
    have hx := h x List.mem_cons_self
    simp only [tot, List.length_cons, Int.natCast_add, Int.add_mul]
    omega
theorem tot_nonneg (a : List Int) (h : ∀ x ∈ a, 0 ≤ x) : 0 ≤ tot a := by
  induction a with
  | nil => simp [tot]
  | cons x l ih =>
    have := ih fun y hy => h y (List.mem_cons_of_mem _ hy)
    have := h x List.mem_cons_self
    simp only [tot]
    omega
theorem sumFrom_tot (a : List Int) : ∀ s : Int, 0 ≤ s → (∀ x ∈ a, 0 ≤ x) → s + tot a ≤ 2100000000000000 → sumFrom s a = some (s + tot a) := by
  induction a with
  | nil => intro s _ _ _; simp [sumFrom, tot]
  | cons x l ih =>
    intro s hs hx hm
    have h0 : 0 ≤ x := hx x List.mem_cons_self
    have hl := fun y hy => hx y (List.mem_cons_of_mem _ hy)
    have ht : 0 ≤ tot l := tot_nonneg l hl
    simp only [tot] at hm ⊢
    rw [sumFrom, if_pos (by simp [addOk, goodA]; omega), ih (s + x) (by omega) hl (by omega)]
    congr 1
    omega
theorem sum_same (a : List Int) (h : ∀ x ∈ a, 0 ≤ x ∧ x ≤ 69999999999999) (hl : a.length ≤ 30) : ∃ V, sumV a = V ∧ sumV a.reverse = V ∧ sumOk a = true ∧ sumOk a.reverse = true := by
  have hb := tot_bound a _ h
  have hm : (a.length : Int) * 69999999999999 ≤ 30 * 69999999999999 := Int.mul_le_mul_of_nonneg_right (by omega) (by omega)
  have e1 : sumA a = some (0 + tot a) := sumFrom_tot a 0 (by omega) (fun x hx => (h x hx).1) (by omega)
  have e2 : sumA a.reverse = some (0 + tot a.reverse) := sumFrom_tot a.reverse 0 (by omega) (fun x hx => (h x (by simpa using hx)).1) (by rw [tot_reverse]; omega)
  rw [tot_reverse] at e2
  refine ⟨0 + tot a, ?_, ?_, ?_, ?_⟩
  · unfold sumV; rw [e1]; rfl
  · unfold sumV; rw [e2]; rfl
  · unfold sumOk; rw [e1]; rfl
  · unfold sumOk; rw [e2]; rfl
end Go.Proofs.Ytiokcoicipmkmaa
