/- An argument of type api.Tx, opened to its parts: how its Ins and Outs lie in memory. Conditions: none. -/
import Derived.Test.YtgklmjallmbdgaaK1
import Derived.Deep.Slices
import Derived.Lib.SmallJoins
namespace Go.Proofs.Ytgklmjallmbdgaa
open Go.RowKit Go.ChangeShapes Go.WideShapes Go.Deep
set_option linter.unusedSimpArgs false

section
variable {H : Type} {enc : TypeId × Value → H} {w : World} {spare : Nat → Bool} {held : Bool}

theorem plain_at {a : Addr} {v : Value} (h : w.cell? (a.add 0) = some v) : ∃ b o, a = ⟨b, o, none⟩ ∧ b < w.heap.size := by
  obtain ⟨b, off, spot⟩ := a
  have hspot : spot = none := by simpa [Addr.add] using World.cell?_spot h
  subst hspot
  refine ⟨b, off, rfl, ?_⟩
  rw [Go.WideShapes.add_plain] at h
  rcases Nat.lt_or_ge b w.heap.size with hlt | hge
  · exact hlt
  · exfalso
    simp [World.cell?, Array.getElem?_eq_none hge] at h

theorem open_SlS {fuel : Nat} {cs : List Value} {x : DataW H × List MemPlace} (h : DataW.trod enc Try.prog w 0 spare held fuel 69 cs = some x) :
    ∃ A n c, cs = [.slice A n c] ∧ n ≤ c ∧ SlS w w.heap.size A n := by
  rcases open_slice Try.underlying69 h with ⟨rfl, _⟩ | ⟨a, len, cap, m, n, D, Pl, rfl, hb, hl, hm, hmm, hx, hi⟩
  · exact ⟨none, 0, 0, rfl, by omega, fun h => by omega⟩
  · refine ⟨some a, len, cap, rfl, hl, fun h0 => ?_⟩
    have hle : len ≤ m := by rw [hmm]; split <;> omega
    have hc1 : Try.prog.cellsOf 9 = 1 := by kernel_rfl
    have each : ∀ i, i < len → ∃ s : ByteArray, w.cell? (a.add i) = some (.string s) ∧ s.size ≤ 9223372036854775807 := by
      intro i hi'
      obtain ⟨cs', h1, h2⟩ := hi i (by omega)
      rw [hc1] at h1
      obtain ⟨_, h3, h4⟩ := World.cells?_some h1
      obtain ⟨s, rfl, _, hs⟩ := DataW.trod_string Try.underlying9 h2
      have h5 := h4 0 (by omega)
      rw [Nat.mul_one] at h5
      refine ⟨s, ?_, by simpa [maxLen] using hs⟩
      rw [Go.Deep.add_add] at h5
      simpa using h5
    obtain ⟨s0, e0, _⟩ := each 0 h0
    obtain ⟨b, o, rfl, hlt⟩ := plain_at e0
    refine ⟨b, o, rfl, hlt, fun j hj => ?_⟩
    obtain ⟨s, e, hs⟩ := each j hj
    rw [Go.WideShapes.add_plain] at e
    exact ⟨s, e, hs⟩

theorem open_In {fuel : Nat} {cs : List Value} {x : DataW H × List MemPlace} (h : DataW.trod enc Try.prog w 0 spare held fuel 71 cs = some x) :
    ∃ (s : ByteArray) (p q : Int) (A : Option Addr) (n c : Nat), cs = [.string s, .int .u32 p, .int .u32 q, .slice A n c] ∧ s.size ≤ 9223372036854775807 ∧ n ≤ c ∧ SlS w w.heap.size A n := by
  have hc9 : Try.prog.cellsOf 9 = 1 := by kernel_rfl
  have hc43 : Try.prog.cellsOf 43 = 1 := by kernel_rfl
  have hc68 : Try.prog.cellsOf 68 = 2 := by kernel_rfl
  have hc69 : Try.prog.cellsOf 69 = 1 := by kernel_rfl
  have hc71 : Try.prog.cellsOf 71 = 4 := by kernel_rfl
  obtain ⟨xs, n, _, _, hlen, hxl, hf⟩ := DataW.trod_struct Try.underlying71 h
  rw [hc71] at hlen
  match cs, hlen with
  | [c0, c1, c2, c3], _ =>
    match xs, hxl with
    | [y0, y1, y2], _ =>
      have f0 := hf 0 _ rfl
      have f1 := hf 1 _ rfl
      have f2 := hf 2 _ rfl
      simp only [hc68, hc43, hc69, List.drop_zero, List.drop_succ_cons, List.take_succ_cons, List.take_zero, List.getElem?_cons_zero, List.getElem?_cons_succ] at f0 f1 f2
      obtain ⟨zs, n2, _, _, hlen2, hzl, hg⟩ := DataW.trod_struct Try.underlying68 f0
      match zs, hzl with
      | [z0, z1], _ =>
        have g0 := hg 0 _ rfl
        have g1 := hg 1 _ rfl
        simp only [hc9, hc43, List.drop_zero, List.drop_succ_cons, List.take_succ_cons, List.take_zero, List.getElem?_cons_zero, List.getElem?_cons_succ] at g0 g1
        obtain ⟨s, e0, _, hs⟩ := DataW.trod_string Try.underlying9 g0
        obtain ⟨p, e1, _, _⟩ := DataW.trod_int Try.underlying43 g1
        obtain ⟨q, e2, _, _⟩ := DataW.trod_int Try.underlying43 f1
        obtain ⟨A, nn, c, e3, hn, hS⟩ := open_SlS f2
        injection e0 with e0 _
        injection e1 with e1 _
        injection e2 with e2 _
        injection e3 with e3 _
        subst e0 e1 e2 e3
        exact ⟨s, p, q, A, nn, c, rfl, by simpa [maxLen] using hs, hn, hS⟩

theorem open_SlI {fuel : Nat} {cs : List Value} {x : DataW H × List MemPlace} (h : DataW.trod enc Try.prog w 0 spare held fuel 44 cs = some x) :
    ∃ A n c, cs = [.slice A n c] ∧ n ≤ c ∧ SlI w w.heap.size A n := by
  rcases open_slice Try.underlying44 h with ⟨rfl, _⟩ | ⟨a, len, cap, m, n, D, Pl, rfl, hb, hl, hm, hmm, hx, hi⟩
  · exact ⟨none, 0, 0, rfl, by omega, fun h => by omega⟩
  · refine ⟨some a, len, cap, rfl, hl, fun h0 => ?_⟩
    have hle : len ≤ m := by rw [hmm]; split <;> omega
    have hc1 : Try.prog.cellsOf 71 = 4 := by kernel_rfl
    have each : ∀ i, i < len → ∃ (s : ByteArray) (x q : Int) (WA : Option Addr) (WL WC : Nat), w.cell? (a.add (i * 4)) = some (.string s) ∧ w.cell? (a.add (i * 4 + 1)) = some (.int .u32 x) ∧
        w.cell? (a.add (i * 4 + 2)) = some (.int .u32 q) ∧ w.cell? (a.add (i * 4 + 3)) = some (.slice WA WL WC) ∧ s.size ≤ 9223372036854775807 ∧ WL ≤ WC ∧ SlS w w.heap.size WA WL := by
      intro i hi'
      obtain ⟨cs', h1, h2⟩ := hi i (by omega)
      rw [hc1] at h1
      obtain ⟨_, h3, h4⟩ := World.cells?_some h1
      obtain ⟨s, p, q, A, nn, c, rfl, hs, hn, hS⟩ := open_In h2
      have k0 := h4 0 (by omega)
      have k1 := h4 1 (by omega)
      have k2 := h4 2 (by omega)
      have k3 := h4 3 (by omega)
      rw [Go.Deep.add_add] at k0 k1 k2 k3
      exact ⟨s, p, q, A, nn, c, by simpa using k0, by simpa using k1, by simpa using k2, by simpa using k3, hs, hn, hS⟩
    obtain ⟨s0, _, _, _, _, _, e0, _⟩ := each 0 h0
    obtain ⟨b, o, rfl, hlt⟩ := plain_at e0
    refine ⟨b, o, rfl, hlt, fun j hj => ?_⟩
    obtain ⟨s, p, q, A, nn, c, k0, k1, k2, k3, hs, hn, hS⟩ := each j hj
    rw [Go.WideShapes.add_plain] at k0 k1 k2 k3
    exact ⟨s, p, q, A, nn, c, k0, k1, k2, k3, hs, hn, hS⟩

theorem open_Out {fuel : Nat} {cs : List Value} {x : DataW H × List MemPlace} (h : DataW.trod enc Try.prog w 0 spare held fuel 39 cs = some x) :
    ∃ (v : Int) (s : ByteArray), cs = [.int .i64 v, .string s] ∧ s.size ≤ 9223372036854775807 := by
  have hc9 : Try.prog.cellsOf 9 = 1 := by kernel_rfl
  have hc3 : Try.prog.cellsOf 3 = 1 := by kernel_rfl
  have hc39 : Try.prog.cellsOf 39 = 2 := by kernel_rfl
  obtain ⟨xs, n, _, _, hlen, hxl, hf⟩ := DataW.trod_struct Try.underlying39 h
  rw [hc39] at hlen
  match cs, hlen with
  | [c0, c1], _ =>
    match xs, hxl with
    | [y0, y1], _ =>
      have f0 := hf 0 _ rfl
      have f1 := hf 1 _ rfl
      simp only [hc9, hc3, List.drop_zero, List.drop_succ_cons, List.take_succ_cons, List.take_zero, List.getElem?_cons_zero, List.getElem?_cons_succ] at f0 f1
      obtain ⟨v, e0, _, _⟩ := DataW.trod_int Try.underlying3 f0
      obtain ⟨s, e1, _, hs⟩ := DataW.trod_string Try.underlying9 f1
      injection e0 with e0 _
      injection e1 with e1 _
      subst e0 e1
      exact ⟨v, s, rfl, by simpa [maxLen] using hs⟩

theorem open_SlO {fuel : Nat} {cs : List Value} {x : DataW H × List MemPlace} (h : DataW.trod enc Try.prog w 0 spare held fuel 45 cs = some x) :
    ∃ A n c outs, cs = [.slice A n c] ∧ n ≤ c ∧ outs.length = n ∧ SlO w w.heap.size A outs ∧ ∀ p ∈ outs, p.2.size ≤ 9223372036854775807 := by
  rcases open_slice Try.underlying45 h with ⟨rfl, _⟩ | ⟨a, len, cap, m, n, D, Pl, rfl, hb, hl, hm, hmm, hx, hi⟩
  · exact ⟨none, 0, 0, [], rfl, by omega, rfl, fun h => by simp at h, by simp⟩
  · have hle : len ≤ m := by rw [hmm]; split <;> omega
    have hc1 : Try.prog.cellsOf 39 = 2 := by kernel_rfl
    have each : ∀ i, i < len → ∃ p : Int × ByteArray, w.cell? (a.add (i * 2)) = some (.int .i64 p.1) ∧ w.cell? (a.add (i * 2 + 1)) = some (.string p.2) ∧ p.2.size ≤ 9223372036854775807 := by
      intro i hi'
      obtain ⟨cs', h1, h2⟩ := hi i (by omega)
      rw [hc1] at h1
      obtain ⟨_, h3, h4⟩ := World.cells?_some h1
      obtain ⟨v, s, rfl, hs⟩ := open_Out h2
      have k0 := h4 0 (by omega)
      have k1 := h4 1 (by omega)
      rw [Go.Deep.add_add] at k0 k1
      exact ⟨(v, s), by simpa using k0, by simpa using k1, hs⟩
    obtain ⟨f, hf⟩ : ∃ f : Nat → Int × ByteArray, ∀ i, i < len → w.cell? (a.add (i * 2)) = some (.int .i64 (f i).1) ∧ w.cell? (a.add (i * 2 + 1)) = some (.string (f i).2) ∧ (f i).2.size ≤ 9223372036854775807 := by
      refine ⟨fun i => if hi : i < len then (each i hi).choose else (0, ⟨#[]⟩), fun i hi => ?_⟩
      simp only [hi, dif_pos]
      exact (each i hi).choose_spec
    refine ⟨some a, len, cap, (List.range len).map f, rfl, hl, by simp, fun h0 => ?_, fun p hp => ?_⟩
    · have h0' : 0 < len := by simpa using h0
      obtain ⟨b, o, rfl, hlt⟩ := plain_at (hf 0 h0').1
      refine ⟨b, o, rfl, hlt, fun j p hp => ?_⟩
      have hj : j < len := by
        rcases Nat.lt_or_ge j len with h | h
        · exact h
        · simp [List.getElem?_eq_none (show ((List.range len).map f).length ≤ j by simpa using h)] at hp
      have e : p = f j := by
        rw [List.getElem?_map, List.getElem?_range hj] at hp
        simpa using hp.symm
      subst e
      obtain ⟨k0, k1, _⟩ := hf j hj
      rw [Go.WideShapes.add_plain] at k0 k1
      exact ⟨k0, k1⟩
    · obtain ⟨i, hi, rfl⟩ := List.mem_map.1 hp
      exact (hf i (List.mem_range.1 hi)).2.2

theorem open_tx {r : Reach} {b0 : Nat} {v : Value} {d : DataW H} {p : List MemPlace} (hv : Value.okWide Try.prog w r b0 47 v) (h : DataW.Trod enc Try.prog w 0 spare held 47 v d p) :
    ∃ (x y : Int) (IA OA : Option Addr) (IL IC OL OC : Nat) (outs : List (Int × ByteArray)), v = .agg #[.int .u32 x, .slice IA IL IC, .slice OA OL OC, .int .u32 y] ∧ SlI w w.heap.size IA IL ∧ outs.length = OL ∧ SlO w w.heap.size OA outs ∧
      ∀ p ∈ outs, p.2.size ≤ 9223372036854775807 := by
  obtain ⟨v0, v1, v2, v3, y0, y1, y2, y3, n, rfl, _, _, t0, t1, t2, t3⟩ := Go.Joins.open_agg4 Try.underlying47 (by kernel_rfl) (by kernel_rfl) hv h
  obtain ⟨x, e0, _, _⟩ := DataW.trod_int Try.underlying43 t0
  obtain ⟨y, e3, _, _⟩ := DataW.trod_int Try.underlying43 t3
  obtain ⟨IA, IL, IC, e1, _, hI⟩ := open_SlI t1
  obtain ⟨OA, OL, OC, outs, e2, _, hl, hO, hos⟩ := open_SlO t2
  injection e0 with e0 _
  injection e1 with e1 _
  injection e2 with e2 _
  injection e3 with e3 _
  subst e0 e1 e2 e3
  exact ⟨x, y, IA, OA, IL, IC, OL, OC, outs, rfl, hI, hl, hO, hos⟩
end
end Go.Proofs.Ytgklmjallmbdgaa
