/- Contracts of the reference Fee, Rate, Sub, of Sub, most and of wakes of layer 1. Conditions: none beyond the kinds. -/
import Derived.Test.YtiokcoicipmkmaaCmp
namespace Go.Proofs.Ytiokcoicipmkmaa
open Go.RowKit

theorem fee_doc {p : Int} (_h : 0 ≤ p) : (p + 999) / 1000 = if p / 1000 * 1000 < p then p / 1000 + 1 else p / 1000 := by split <;> omega

theorem rfee_any (r s : Int) (w : World) : Calls Try.prog 21 #[.int .i64 r, .int .i64 s] w fun x w' => x = .returned (.tuple #[.int .i64 (feeA r s), .int .i64 (errA (feeOk r s))]) ∧ w' = w := by
  by_cases hin : (0 ≤ r ∧ r ≤ 100000000) ∧ (0 ≤ s ∧ s ≤ 1000000)
  · have e1 : feeOk r s = true := by unfold feeOk; rw [decide_eq_true_iff]; exact hin
    rw [feeA, errA, e1, if_pos rfl, if_pos rfl]
    obtain ⟨⟨r0, r1⟩, s0, s1⟩ := hin
    obtain ⟨m0, m1⟩ := mul_bound r0 r1 s0 s1
    clear e1
    obtain ⟨V, hV⟩ : ∃ V, Hid (V = (r * s + 999) / 1000) := ⟨_, rfl⟩
    rw [← hV.out]
    by_cases hq : r * s / 1000 * 1000 < r * s
    · go_enter Try.func21, Try.ntmps21
      go_wp2
      go_ret2
      exact ⟨ret_ints (by rw [hV.out, fee_doc m0, if_pos hq]) rfl, rfl⟩
    · go_enter Try.func21, Try.ntmps21
      go_wp2
      go_ret2
      exact ⟨ret_ints (by rw [hV.out, fee_doc m0, if_neg (by omega)]) rfl, rfl⟩
  · have e1 : feeOk r s = false := by unfold feeOk; rw [decide_eq_false_iff_not]; exact hin
    rw [feeA, errA, e1]
    clear e1
    have h' : r < 0 ∨ (0 ≤ r ∧ 100000000 < r) ∨ (0 ≤ r ∧ r ≤ 100000000 ∧ s < 0) ∨ (0 ≤ r ∧ r ≤ 100000000 ∧ 0 ≤ s ∧ 1000000 < s) := by omega
    clear hin
    rcases h' with h | ⟨h, h'⟩ | ⟨h, h', h''⟩ | ⟨h, h', h'', h'''⟩
    all_goals
      go_enter Try.func21, Try.ntmps21
      go_wp2
      all_goals
        go_ret2
        exact ⟨rfl, rfl⟩

theorem rarate_any (f s : Int) (w : World) : Calls Try.prog 24 #[.int .i64 f, .int .i64 s] w fun x w' => x = .returned (.tuple #[.int .i64 (rateA f s), .int .i64 (errA (pricedA f s))]) ∧ w' = w := by
  cases hf : goodA f with
  | false =>
    have e1 : pricedA f s = false := by rw [pricedA, hf]; rfl
    rw [rateA, errA, e1]
    have HF := Lib.hid hf; clear hf e1
    go_enter Try.func24, Try.ntmps24
    go_wp2_with fail
    refine (rgoodA_any _ _).mono ?_
    rintro r w' ⟨rfl, rfl⟩
    rw [HF.out]
    go_wp2_with fail
    go_ret2
    exact ⟨rfl, rfl⟩
  | true =>
    obtain ⟨f0, f1⟩ := good_of hf
    by_cases hs : 1 ≤ s ∧ s ≤ 1000000
    · have e1 : pricedA f s = true := by rw [pricedA, hf, Bool.true_and]; unfold sizedA; rw [decide_eq_true_iff]; omega
      rw [rateA, errA, e1, if_pos rfl, if_pos rfl]
      have HF := Lib.hid hf; clear hf e1
      obtain ⟨s0, s1⟩ := hs
      go_enter Try.func24, Try.ntmps24
      go_wp2_with fail
      refine (rgoodA_any _ _).mono ?_
      rintro r w' ⟨rfl, rfl⟩
      rw [HF.out]
      go_wp2_with fail
      go_ret2
      exact ⟨rfl, rfl⟩
    · have e1 : pricedA f s = false := by rw [pricedA, hf, Bool.true_and]; unfold sizedA; rw [decide_eq_false_iff_not]; omega
      rw [rateA, errA, e1]
      have HF := Lib.hid hf; clear hf e1
      have h' : s < 1 ∨ (1 ≤ s ∧ 1000000 < s) := by omega
      clear hs
      rcases h' with h | ⟨h, h'⟩
      all_goals
        go_enter Try.func24, Try.ntmps24
        go_wp2_with fail
        refine (rgoodA_any _ _).mono ?_
        rintro r w' ⟨rfl, rfl⟩
        rw [HF.out]
        go_wp2_with fail
        all_goals
          go_ret2
          exact ⟨rfl, rfl⟩

theorem sub_any (a b : Int) (w : World) : Calls Try.prog 32 #[.int .i64 a, .int .i64 b] w fun r w' => r = .returned (.tuple #[.int .i64 (subA a b), .int .i64 (errA (subOk a b))]) ∧ w' = w := by
  cases ha : goodA a with
  | false =>
    have e1 : subOk a b = false := by rw [subOk, ha]; rfl
    rw [subA, errA, e1]
    have HA := Lib.hid ha; clear ha e1
    go_enter Try.func32, Try.ntmps32
    go_wp2_with fail
    refine (agood_any _ _).mono ?_
    rintro r w' ⟨rfl, rfl⟩
    rw [HA.out]
    go_wp2_with fail
    go_ret2
    exact ⟨rfl, rfl⟩
  | true =>
    cases hb : goodA b with
    | false =>
      have e1 : subOk a b = false := by rw [subOk, ha, hb]; rfl
      rw [subA, errA, e1]
      have HA := Lib.hid ha; clear ha e1
      have HB := Lib.hid hb; clear hb
      go_enter Try.func32, Try.ntmps32
      go_wp2_with fail
      refine (agood_any _ _).mono ?_
      rintro r w' ⟨rfl, rfl⟩
      rw [HA.out]
      go_wp2_with fail
      refine (agood_any _ _).mono ?_
      rintro r w' ⟨rfl, rfl⟩
      rw [HB.out]
      go_wp2_with fail
      go_ret2
      exact ⟨rfl, rfl⟩
    | true =>
      obtain ⟨a0, a1⟩ := good_of ha
      obtain ⟨b0, b1⟩ := good_of hb
      by_cases hab : b ≤ a
      · have e1 : subOk a b = true := by rw [subOk, ha, hb]; simp [hab]
        rw [subA, errA, e1, if_pos rfl, if_pos rfl]
        have HA := Lib.hid ha; clear ha e1
        have HB := Lib.hid hb; clear hb
        go_enter Try.func32, Try.ntmps32
        go_wp2_with fail
        refine (agood_any _ _).mono ?_
        rintro r w' ⟨rfl, rfl⟩
        rw [HA.out]
        go_wp2_with fail
        refine (agood_any _ _).mono ?_
        rintro r w' ⟨rfl, rfl⟩
        rw [HB.out]
        go_wp2_with fail
        go_ret2
        exact ⟨rfl, rfl⟩
      · have e1 : subOk a b = false := by rw [subOk, ha, hb]; simp [hab]
        rw [subA, errA, e1]
        have HA := Lib.hid ha; clear ha e1
        have HB := Lib.hid hb; clear hb
        go_enter Try.func32, Try.ntmps32
        go_wp2_with fail
        refine (agood_any _ _).mono ?_
        rintro r w' ⟨rfl, rfl⟩
        rw [HA.out]
        go_wp2_with fail
        refine (agood_any _ _).mono ?_
        rintro r w' ⟨rfl, rfl⟩
        rw [HB.out]
        go_wp2_with fail
        go_ret2
        exact ⟨rfl, rfl⟩

theorem rsub_any (a b : Int) (w : World) : Calls Try.prog 33 #[.int .i64 a, .int .i64 b] w fun r w' => r = .returned (.tuple #[.int .i64 (subA a b), .int .i64 (errA (subOk a b))]) ∧ w' = w := by
  cases ha : goodA a with
  | false =>
    have e1 : subOk a b = false := by rw [subOk, ha]; rfl
    rw [subA, errA, e1]
    cases hb : goodA b
    all_goals
      have HA := Lib.hid ha
      have HB := Lib.hid hb
      clear ha hb e1
      go_enter Try.func33, Try.ntmps33
      go_wp2_with fail
      refine (rgoodA_any _ _).mono ?_
      rintro r w' ⟨rfl, rfl⟩
      rw [HA.out]
      go_wp2_with fail
      refine (rgoodA_any _ _).mono ?_
      rintro r w' ⟨rfl, rfl⟩
      rw [HB.out]
      go_wp2_with fail
      go_ret2
      exact ⟨rfl, rfl⟩
  | true =>
    cases hb : goodA b with
    | false =>
      have e1 : subOk a b = false := by rw [subOk, ha, hb]; rfl
      rw [subA, errA, e1]
      have HA := Lib.hid ha; clear ha e1
      have HB := Lib.hid hb; clear hb
      go_enter Try.func33, Try.ntmps33
      go_wp2_with fail
      refine (rgoodA_any _ _).mono ?_
      rintro r w' ⟨rfl, rfl⟩
      rw [HA.out]
      go_wp2_with fail
      refine (rgoodA_any _ _).mono ?_
      rintro r w' ⟨rfl, rfl⟩
      rw [HB.out]
      go_wp2_with fail
      go_ret2
      exact ⟨rfl, rfl⟩
    | true =>
      obtain ⟨a0, a1⟩ := good_of ha
      obtain ⟨b0, b1⟩ := good_of hb
      by_cases hab : b ≤ a
      · have e1 : subOk a b = true := by rw [subOk, ha, hb]; simp [hab]
        rw [subA, errA, e1, if_pos rfl, if_pos rfl]
        have HA := Lib.hid ha; clear ha e1
        have HB := Lib.hid hb; clear hb
        go_enter Try.func33, Try.ntmps33
        go_wp2_with fail
        refine (rgoodA_any _ _).mono ?_
        rintro r w' ⟨rfl, rfl⟩
        rw [HA.out]
        go_wp2_with fail
        refine (rgoodA_any _ _).mono ?_
        rintro r w' ⟨rfl, rfl⟩
        rw [HB.out]
        go_wp2_with fail
        go_ret2
        exact ⟨rfl, rfl⟩
      · have e1 : subOk a b = false := by rw [subOk, ha, hb]; simp [hab]
        rw [subA, errA, e1]
        have HA := Lib.hid ha; clear ha e1
        have HB := Lib.hid hb; clear hb
        go_enter Try.func33, Try.ntmps33
        go_wp2_with fail
        refine (rgoodA_any _ _).mono ?_
        rintro r w' ⟨rfl, rfl⟩
        rw [HA.out]
        go_wp2_with fail
        refine (rgoodA_any _ _).mono ?_
        rintro r w' ⟨rfl, rfl⟩
        rw [HB.out]
        go_wp2_with fail
        go_ret2
        exact ⟨rfl, rfl⟩

/-- a number brought near an amount -/
def mostA (n : Int) : Int := n.tmod 2100000000000001
theorem most_any (n : Int) (w : World) (hn : -9223372036854775808 ≤ n ∧ n ≤ 9223372036854775807) : Calls Try.prog 22 #[.int .i64 n] w fun r w' => r = .returned (.int .i64 (mostA n)) ∧ w' = w := by
  by_cases h : 0 ≤ n
  · have e : mostA n = n % 2100000000000001 := by unfold mostA; rw [Int.tmod_eq_emod_of_nonneg h]
    rw [e]
    clear e
    go_enter Try.func22, Try.ntmps22
    go_wp2
    go_ret
    exact ⟨rfl, rfl⟩
  · go_enter Try.func22, Try.ntmps22
    go_wp2
    go_ret
    exact ⟨rfl, rfl⟩

theorem wakes01_any (w : World) : Calls Try.prog 25 #[] w fun e w' => e = .returned (.bool true) ∧ Below w.heap.size w w' := by
  go_enter Try.func25, Try.ntmps25
  go_wp2_with fail
  refine (fee_any 1500 141 _).mono ?_
  rintro r w' ⟨rfl, rfl⟩
  rw [show feeA 1500 141 = 212 from by decide, show errA (feeOk 1500 141) = 0 from by decide]
  go_wp2_with fail
  refine (arate_any 212 141 _).mono ?_
  rintro r w' ⟨rfl, rfl⟩
  rw [show rateA 212 141 = 1503 from by decide, show errA (pricedA 212 141) = 0 from by decide]
  go_wp2_with fail
  refine (add_any 2100000000000000 1 _).mono ?_
  rintro r w' ⟨rfl, rfl⟩
  rw [show addA 2100000000000000 1 = 0 from by decide, show errA (addOk 2100000000000000 1) = 3 from by decide]
  go_wp2_with fail
  refine (compare_any 1 3 2 6 _).mono ?_
  rintro r w1 ⟨rfl, hb1⟩
  rw [show cmpA 1 3 2 6 = 0 from by decide]
  go_wp2_with fail
  refine (compare_any 1 3 2 5 _).mono ?_
  rintro r w2 ⟨rfl, hb2⟩
  rw [show cmpA 1 3 2 5 = -1 from by decide]
  go_wp2_with fail
  go_ret
  exact ⟨rfl, hb1.trans (hb2.mono hb1.size)⟩
end Go.Proofs.Ytiokcoicipmkmaa
