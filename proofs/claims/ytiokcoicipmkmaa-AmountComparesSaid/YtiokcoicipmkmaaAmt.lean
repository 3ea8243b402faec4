/- Contracts of the amounts: within, Good, priced, Add, Fee, Rate return what the plain functions say. Conditions: none. -/
import Derived.Test.YtiokcoicipmkmaaCur
namespace Go.Proofs.Ytiokcoicipmkmaa
open Go.RowKit

theorem good_of {a : Int} (h : goodA a = true) : 0 ≤ a ∧ a ≤ 2100000000000000 := by simpa [goodA] using h
theorem good_not {a : Int} (h : goodA a = false) : a < 0 ∨ 2100000000000000 < a := by
  simp only [goodA, decide_eq_false_iff_not] at h; omega
theorem sized_of {a : Int} (h : sizedA a = true) : 0 < a ∧ a ≤ 1000000 := by simpa [sizedA] using h
theorem sized_not {a : Int} (h : sizedA a = false) : a ≤ 0 ∨ 1000000 < a := by
  simp only [sizedA, decide_eq_false_iff_not] at h; omega

/-- between 0 and the most -/
def wthB (n m : Int) : Bool := decide (0 ≤ n ∧ n ≤ m)
theorem within_any (n m : Int) (w : World) : Calls Try.prog 38 #[.int .i64 n, .int .i64 m] w fun r w' => r = .returned (.bool (wthB n m)) ∧ w' = w := by
  go_enter Try.func38, Try.ntmps38
  go_wp2
  all_goals
    go_ret
    refine ⟨ret_bool ?_, rfl⟩
    unfold wthB
    first
      | (rw [decide_eq_decide]; omega)
      | (symm; rw [decide_eq_false_iff_not]; omega)
theorem agood_any (n : Int) (w : World) : Calls Try.prog 34 #[.int .i64 n] w fun r w' => r = .returned (.bool (goodA n)) ∧ w' = w := by
  go_enter Try.func34, Try.ntmps34
  go_wp2_with (go_at_call 38; refine (within_any n _ _).mono ?_; rintro r w' ⟨rfl, rfl⟩)
  go_ret
  exact ⟨rfl, rfl⟩
theorem rgoodA_any (n : Int) (w : World) : Calls Try.prog 35 #[.int .i64 n] w fun r w' => r = .returned (.bool (goodA n)) ∧ w' = w := by
  go_enter Try.func35, Try.ntmps35
  go_wp2
  all_goals
    go_ret
    refine ⟨ret_bool ?_, rfl⟩
    unfold goodA
    first
      | (rw [decide_eq_decide]; omega)
      | (symm; rw [decide_eq_false_iff_not]; omega)
theorem priced_any (f s : Int) (w : World) : Calls Try.prog 39 #[.int .i64 f, .int .i64 s] w fun r w' => r = .returned (.bool (pricedA f s)) ∧ w' = w := by
  cases hg : goodA f with
  | false =>
    have HG := Lib.hid hg; clear hg
    go_enter Try.func39, Try.ntmps39
    go_wp2_with (go_at_call 34; refine (agood_any _ _).mono ?_; rintro r w' ⟨rfl, rfl⟩; rw [HG.out])
    go_ret
    exact ⟨ret_bool (by rw [pricedA, HG.out]; rfl), rfl⟩
  | true =>
    have HG := Lib.hid hg; clear hg
    by_cases h0 : 0 < s
    · go_enter Try.func39, Try.ntmps39
      go_wp2_with (first | (go_at_call 34; refine (agood_any _ _).mono ?_; rintro r w' ⟨rfl, rfl⟩; rw [HG.out]) | (go_at_call 38; refine (within_any _ _ _).mono ?_; rintro r w' ⟨rfl, rfl⟩))
      go_ret
      refine ⟨ret_bool ?_, rfl⟩
      rw [pricedA, HG.out]
      unfold wthB sizedA
      rw [Bool.true_and, decide_eq_decide]; omega
    · go_enter Try.func39, Try.ntmps39
      go_wp2_with (first | (go_at_call 34; refine (agood_any _ _).mono ?_; rintro r w' ⟨rfl, rfl⟩; rw [HG.out]) | (go_at_call 38; refine (within_any _ _ _).mono ?_; rintro r w' ⟨rfl, rfl⟩))
      go_ret
      refine ⟨ret_bool ?_, rfl⟩
      rw [pricedA, HG.out]
      unfold sizedA
      symm
      rw [Bool.true_and, decide_eq_false_iff_not]; omega

theorem add_any (a b : Int) (w : World) : Calls Try.prog 31 #[.int .i64 a, .int .i64 b] w fun r w' => r = .returned (.tuple #[.int .i64 (addA a b), .int .i64 (errA (addOk a b))]) ∧ w' = w := by
  cases ha : goodA a with
  | false =>
    have HA := Lib.hid ha; clear ha
    have e1 : addOk a b = false := by rw [addOk, HA.out]; rfl
    rw [addA, errA, e1]
    clear e1
    go_enter Try.func31, Try.ntmps31
    go_wp2_with (go_at_call 34; refine (agood_any _ _).mono ?_; rintro r w' ⟨rfl, rfl⟩; rw [HA.out])
    go_ret2
    exact ⟨rfl, rfl⟩
  | true =>
    cases hb : goodA b with
    | false =>
      have HA := Lib.hid ha; clear ha
      have HB := Lib.hid hb; clear hb
      have e1 : addOk a b = false := by rw [addOk, HA.out, HB.out]; rfl
      rw [addA, errA, e1]
      clear e1
      go_enter Try.func31, Try.ntmps31
      go_wp2_with fail
      refine (agood_any _ _).mono ?_
      rintro r w' ⟨rfl, rfl⟩
      rw [HA.out]
      go_wp2_with fail
      refine (agood_any _ _).mono ?_
      rintro r w' ⟨rfl, rfl⟩
      rw [HB.out]
      go_wp2_with fail
      go_ret2
      exact ⟨rfl, rfl⟩
    | true =>
      obtain ⟨a0, a1⟩ := good_of ha
      obtain ⟨b0, b1⟩ := good_of hb
      have HA := Lib.hid ha; clear ha
      have HB := Lib.hid hb; clear hb
      cases hc : goodA (a + b) with
      | false =>
        have HC := Lib.hid hc; clear hc
        have e1 : addOk a b = false := by rw [addOk, HA.out, HB.out, HC.out]; rfl
        rw [addA, errA, e1]
        clear e1
        go_enter Try.func31, Try.ntmps31
        go_wp2_with fail
        refine (agood_any _ _).mono ?_
        rintro r w' ⟨rfl, rfl⟩
        rw [HA.out]
        go_wp2_with fail
        refine (agood_any _ _).mono ?_
        rintro r w' ⟨rfl, rfl⟩
        rw [HB.out]
        go_wp2_with fail
        refine (agood_any _ _).mono ?_
        rintro r w' ⟨rfl, rfl⟩
        rw [HC.out]
        go_wp2_with fail
        go_ret2
        exact ⟨rfl, rfl⟩
      | true =>
        have HC := Lib.hid hc; clear hc
        have e1 : addOk a b = true := by rw [addOk, HA.out, HB.out, HC.out]; rfl
        rw [addA, errA, e1]
        clear e1
        go_enter Try.func31, Try.ntmps31
        go_wp2_with fail
        refine (agood_any _ _).mono ?_
        rintro r w' ⟨rfl, rfl⟩
        rw [HA.out]
        go_wp2_with fail
        refine (agood_any _ _).mono ?_
        rintro r w' ⟨rfl, rfl⟩
        rw [HB.out]
        go_wp2_with fail
        refine (agood_any _ _).mono ?_
        rintro r w' ⟨rfl, rfl⟩
        rw [HC.out]
        go_wp2_with fail
        go_ret2
        exact ⟨rfl, rfl⟩

theorem fee_any (r s : Int) (w : World) : Calls Try.prog 20 #[.int .i64 r, .int .i64 s] w fun x w' => x = .returned (.tuple #[.int .i64 (feeA r s), .int .i64 (errA (feeOk r s))]) ∧ w' = w := by
  cases ha : wthB r 100000000 with
  | false =>
    have e1 : feeOk r s = false := by unfold wthB at ha; unfold feeOk; rw [decide_eq_false_iff_not] at *; omega
    have HA := Lib.hid ha; clear ha
    rw [feeA, errA, e1]
    clear e1
    go_enter Try.func20, Try.ntmps20
    go_wp2_with fail
    refine (within_any _ _ _).mono ?_
    rintro r w' ⟨rfl, rfl⟩
    rw [HA.out]
    go_wp2_with fail
    go_ret2
    exact ⟨rfl, rfl⟩
  | true =>
    cases hb : wthB s 1000000 with
    | false =>
      have e1 : feeOk r s = false := by unfold wthB at hb; unfold feeOk; rw [decide_eq_false_iff_not] at *; omega
      have HA := Lib.hid ha; clear ha
      have HB := Lib.hid hb; clear hb
      rw [feeA, errA, e1]
      clear e1
      go_enter Try.func20, Try.ntmps20
      go_wp2_with fail
      refine (within_any _ _ _).mono ?_
      rintro r w' ⟨rfl, rfl⟩
      rw [HA.out]
      go_wp2_with fail
      refine (within_any _ _ _).mono ?_
      rintro r w' ⟨rfl, rfl⟩
      rw [HB.out]
      go_wp2_with fail
      go_ret2
      exact ⟨rfl, rfl⟩
    | true =>
      have hA : 0 ≤ r ∧ r ≤ 100000000 := by simpa [wthB] using ha
      have hB : 0 ≤ s ∧ s ≤ 1000000 := by simpa [wthB] using hb
      obtain ⟨m0, m1⟩ := mul_bound hA.1 hA.2 hB.1 hB.2
      have e1 : feeOk r s = true := by unfold feeOk; rw [decide_eq_true_iff]; exact ⟨hA, hB⟩
      have HA := Lib.hid ha; clear ha
      have HB := Lib.hid hb; clear hb
      rw [feeA, errA, e1, if_pos rfl, if_pos rfl]
      clear e1
      go_enter Try.func20, Try.ntmps20
      go_wp2_with fail
      refine (within_any _ _ _).mono ?_
      rintro r w' ⟨rfl, rfl⟩
      rw [HA.out]
      go_wp2_with fail
      refine (within_any _ _ _).mono ?_
      rintro r w' ⟨rfl, rfl⟩
      rw [HB.out]
      go_wp2_with fail
      go_ret2
      exact ⟨ret_ints (by omega) rfl, rfl⟩

theorem arate_any (f s : Int) (w : World) : Calls Try.prog 23 #[.int .i64 f, .int .i64 s] w fun x w' => x = .returned (.tuple #[.int .i64 (rateA f s), .int .i64 (errA (pricedA f s))]) ∧ w' = w := by
  cases ha : pricedA f s with
  | false =>
    rw [rateA, errA, ha]
    have HA := Lib.hid ha; clear ha
    go_enter Try.func23, Try.ntmps23
    go_wp2_with fail
    refine (priced_any _ _ _).mono ?_
    rintro r w' ⟨rfl, rfl⟩
    rw [HA.out]
    go_wp2_with fail
    go_ret2
    exact ⟨rfl, rfl⟩
  | true =>
    have hq : goodA f = true ∧ sizedA s = true := by simpa [pricedA] using ha
    obtain ⟨f0, f1⟩ := good_of hq.1
    obtain ⟨s0, s1⟩ := sized_of hq.2
    clear hq
    rw [rateA, errA, ha, if_pos rfl, if_pos rfl]
    have HA := Lib.hid ha; clear ha
    go_enter Try.func23, Try.ntmps23
    go_wp2_with fail
    refine (priced_any _ _ _).mono ?_
    rintro r w' ⟨rfl, rfl⟩
    rw [HA.out]
    go_wp2_with fail
    go_ret2
    exact ⟨rfl, rfl⟩
end Go.Proofs.Ytiokcoicipmkmaa
