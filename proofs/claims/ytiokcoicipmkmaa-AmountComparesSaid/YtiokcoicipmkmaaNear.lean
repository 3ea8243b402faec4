/- Contract of near, which makes a good curve of any numbers: it returns a good one. Conditions: none. -/
import Derived.Test.YtiokcoicipmkmaaCur2
import Derived.StillTailTactics
import Derived.BigRegion
namespace Go.Proofs.Ytiokcoicipmkmaa
open Go.RowKit

def NearEnd (w : World) (r : Ending) (w' : World) : Prop := ∃ s e f c : Int, r = .returned (.agg #[.int .i64 s, .int .i64 e, .int .i64 f, .int .i64 c]) ∧ Cv.good ⟨s, e, f, c⟩ = true ∧ Below w.heap.size w w'

theorem emod_range (x d : Int) (hd : 1 ≤ d) : 0 ≤ x % d ∧ x % d ≤ d - 1 := by
  have h1 := Int.emod_nonneg x (by omega : d ≠ 0)
  have h2 := Int.emod_lt_of_pos x (by omega : 0 < d)
  omega

theorem near_end {S E F C : Int} (h : 0 ≤ S ∧ S ≤ E ∧ E ≤ 1000000 ∧ 0 ≤ F ∧ F ≤ C ∧ C ≤ 100000000) {w w' : World} (hb : Below w.heap.size w w') :
    NearEnd w (.returned (.agg #[.int .i64 S, .int .i64 E, .int .i64 F, .int .i64 C])) w' := by
  refine ⟨_, _, _, _, rfl, ?_, hb⟩
  show decide (0 ≤ S ∧ S ≤ E ∧ E ≤ 1000000 ∧ 0 ≤ F ∧ F ≤ C ∧ C ≤ 100000000) = true
  rw [decide_eq_true_iff]
  exact h

set_option maxHeartbeats 6400000 in
theorem near_any (s e f c : Int) (w : World) :
    Calls Try.prog 13 #[.agg #[.int .i64 s, .int .i64 e, .int .i64 f, .int .i64 c]] w (NearEnd w) := by
  by_cases hs : 0 < s
  · by_cases hf : 0 < f
    · go_enter Try.func13, Try.ntmps13
      go_wp2_with fail
      go_quiet (fail)
      go_wp2_with fail
      have g1 : 0 ≤ s % 1000000 ∧ s % 1000000 < 1000000 := by omega
      generalize s % 1000000 = S at *
      have g2 : 0 ≤ f % 100000000 ∧ f % 100000000 < 100000000 := by omega
      generalize f % 100000000 = F at *
      have ge := emod_range e (1000000 - S + 1) (by omega)
      have gc := emod_range c (100000000 - F + 1) (by omega)
      by_cases he : 0 < e
      all_goals
        by_cases hc : 0 < c
        all_goals
          go_wp2_with fail
          go_region
          go_wp2_with fail
          go_returns
          refine near_end (by omega) ?_
          go_grown
          exact below_drewN (((Below.refl _ _).alloc (Nat.le_refl _) _).alloc (by simp) _) _
    · go_enter Try.func13, Try.ntmps13
      go_wp2_with fail
      go_quiet (fail)
      go_wp2_with fail
      have g1 : 0 ≤ s % 1000000 ∧ s % 1000000 < 1000000 := by omega
      generalize s % 1000000 = S at *
      have ge := emod_range e (1000000 - S + 1) (by omega)
      have gc := emod_range c (100000000 - 0 + 1) (by omega)
      rw [show (100000000 - 0 + 1 : Int) = 100000001 from rfl] at gc
      by_cases he : 0 < e
      all_goals
        by_cases hc : 0 < c
        all_goals
          go_wp2_with fail
          go_region
          go_wp2_with fail
          go_returns
          refine near_end (by omega) ?_
          go_grown
          exact below_drewN (((Below.refl _ _).alloc (Nat.le_refl _) _).alloc (by simp) _) _
  · by_cases hf : 0 < f
    · go_enter Try.func13, Try.ntmps13
      go_wp2_with fail
      go_quiet (fail)
      go_wp2_with fail
      have g2 : 0 ≤ f % 100000000 ∧ f % 100000000 < 100000000 := by omega
      generalize f % 100000000 = F at *
      have ge := emod_range e (1000000 - 0 + 1) (by omega)
      have gc := emod_range c (100000000 - F + 1) (by omega)
      rw [show (1000000 - 0 + 1 : Int) = 1000001 from rfl] at ge
      by_cases he : 0 < e
      all_goals
        by_cases hc : 0 < c
        all_goals
          go_wp2_with fail
          go_region
          go_wp2_with fail
          go_returns
          refine near_end (by omega) ?_
          go_grown
          exact below_drewN (((Below.refl _ _).alloc (Nat.le_refl _) _).alloc (by simp) _) _
    · go_enter Try.func13, Try.ntmps13
      go_wp2_with fail
      go_quiet (fail)
      go_wp2_with fail
      have ge := emod_range e (1000000 - 0 + 1) (by omega)
      have gc := emod_range c (100000000 - 0 + 1) (by omega)
      rw [show (1000000 - 0 + 1 : Int) = 1000001 from rfl] at ge
      rw [show (100000000 - 0 + 1 : Int) = 100000001 from rfl] at gc
      by_cases he : 0 < e
      all_goals
        by_cases hc : 0 < c
        all_goals
          go_wp2_with fail
          go_region
          go_wp2_with fail
          go_returns
          refine near_end (by omega) ?_
          go_grown
          exact below_drewN (((Below.refl _ _).alloc (Nat.le_refl _) _).alloc (by simp) _) _
end Go.Proofs.Ytiokcoicipmkmaa
