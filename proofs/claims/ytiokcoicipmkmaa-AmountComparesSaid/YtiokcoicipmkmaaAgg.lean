/- Aggregates of ints that come in by value, opened to their numbers; a struct of four ints in a block of its own, carried from world to world. Conditions: none. -/
import Derived.Test.YtiokcoicipmkmaaReach
import Derived.Test.YtiokcoicipmkmaaNear
namespace Go.Proofs.Ytiokcoicipmkmaa
open Go.RowKit

theorem agg_ints {P : Program} {w : World} {r : Reach} {base : Nat} {t E : TypeId} {m : Nat} {v : Value} (hE : P.underlying E = some (.int .i64)) (hts : P.cellTypes P.depth t = some (List.replicate m E)) (hC : P.cellsOf t = m)
    (h : ∃ cs, v = .agg cs ∧ cs.size = P.cellsOf t ∧ Row.okWide P w r base t cs) :
    ∃ l : List Int, l.length = m ∧ v = .agg (l.map (Value.int .i64)).toArray ∧ ∀ n ∈ l, -9223372036854775808 ≤ n ∧ n ≤ 9223372036854775807 := by
  obtain ⟨cs, rfl, hsz, ts, hts', _, hcell⟩ := h
  rw [hts] at hts'
  obtain rfl : List.replicate m E = ts := by simpa using hts'
  have hint : ∀ i (hi : i < cs.size), ∃ n : Int, cs[i] = .int .i64 n ∧ -9223372036854775808 ≤ n ∧ n ≤ 9223372036854775807 := by
    intro i hi
    obtain ⟨u, hu, hk⟩ := hcell i cs[i] (by simp [hi])
    have hu' : u = E := by
      rw [List.getElem?_replicate] at hu
      split at hu
      · simpa using hu.symm
      · simp at hu
    subst hu'
    simp only [Cell.okWide, hE] at hk
    generalize cs[i] = x at *
    cases x <;> simp_all [Cell.ok, IntKind.has, IntKind.min, IntKind.max, IntKind.signed, IntKind.bits]
  refine ⟨cs.toList.map fun v => match v with | .int _ n => n | _ => 0, by simp [hsz, hC], ?_, ?_⟩
  · congr 1
    apply Array.ext
    · simp
    · intro i h1 h2
      obtain ⟨n, hn, _⟩ := hint i h1
      simp [hn]
  · intro n hn
    simp only [List.mem_map] at hn
    obtain ⟨v, hv, rfl⟩ := hn
    obtain ⟨i, hi, rfl⟩ := List.getElem_of_mem hv
    obtain ⟨n, hn, hb⟩ := hint i (by simpa using hi)
    have : cs.toList[i] = .int .i64 n := by simpa using hn
    rw [this]
    exact hb

theorem list_len2 {l : List Int} (h : l.length = 2) : ∃ a b, l = [a, b] := by
  match l, h with
  | [a, b], _ => exact ⟨a, b, rfl⟩
theorem list_len4 {l : List Int} (h : l.length = 4) : ∃ a b c d, l = [a, b, c, d] := by
  match l, h with
  | [a, b, c, d], _ => exact ⟨a, b, c, d, rfl⟩
theorem list_len7 {l : List Int} (h : l.length = 7) : ∃ a b c d e f g, l = [a, b, c, d, e, f, g] := by
  match l, h with
  | [a, b, c, d, e, f, g], _ => exact ⟨a, b, c, d, e, f, g, rfl⟩

/-- a curve in a block of its own -/
structure Boxed (w : World) (b : Nat) (s e f c : Int) : Prop where
  lt : b < w.heap.size
  c0 : w.cell? ⟨b, 0, none⟩ = some (.int .i64 s)
  c1 : w.cell? ⟨b, 1, none⟩ = some (.int .i64 e)
  c2 : w.cell? ⟨b, 2, none⟩ = some (.int .i64 f)
  c3 : w.cell? ⟨b, 3, none⟩ = some (.int .i64 c)
theorem Boxed.later {w w' : World} {b : Nat} {s e f c : Int} (h : Boxed w b s e f c) (hb : Below w.heap.size w w') : Boxed w' b s e f c :=
  ⟨Nat.lt_of_lt_of_le h.lt hb.size, (hb.cell (p := ⟨b, 0, none⟩) h.lt).trans h.c0, (hb.cell (p := ⟨b, 1, none⟩) h.lt).trans h.c1, (hb.cell (p := ⟨b, 2, none⟩) h.lt).trans h.c2, (hb.cell (p := ⟨b, 3, none⟩) h.lt).trans h.c3⟩
theorem Boxed.alloc {w : World} {b : Nat} {s e f c : Int} (h : Boxed w b s e f c) (o : Obj) : Boxed (w.alloc o) b s e f c := h.later ((Below.refl _ _).alloc (Nat.le_refl _) _)
theorem Boxed.made (w : World) (s e f c : Int) (t : TypeId) : Boxed (w.alloc (.cells #[.int .i64 s, .int .i64 e, .int .i64 f, .int .i64 c] t)) w.heap.size s e f c :=
  ⟨by simp, by rw [World.cell?_alloc_new]; rfl, by rw [World.cell?_alloc_new]; rfl, by rw [World.cell?_alloc_new]; rfl, by rw [World.cell?_alloc_new]; rfl⟩

/-- what Rate gives at a good curve and a height in range -/
theorem Cv.val_in {x : Cv} (hg : x.good = true) {h : Int} (h0 : 0 ≤ h) (h1 : h ≤ 1000000) : x.val h = x.rate h := by
  simp only [Cv.val, hg, Bool.true_and]; rw [if_pos]; rw [decide_eq_true_iff]; omega
theorem Cv.err_in {x : Cv} (hg : x.good = true) {h : Int} (h0 : 0 ≤ h) (h1 : h ≤ 1000000) : x.err h = 0 := by
  simp only [Cv.err, hg, if_true]; rw [if_pos]; omega
end Go.Proofs.Ytiokcoicipmkmaa
