/- The walk of the law AmountLeast: it returns true. Conditions: the arguments fit their kinds. -/
import Derived.Test.YtiokcoicipmkmaaAmt2
import Derived.Test.YtiokcoicipmkmaaRow
import Derived.Deep.DeepCutAuto
namespace Go.Proofs.Ytiokcoicipmkmaa
open Go.RowKit

theorem least_math (r s t : Int) (hr : 0 ≤ r ∧ r ≤ 100000000) (hs : 1 ≤ s ∧ s ≤ 500000) (ht : 0 ≤ t ∧ t ≤ 499999) :
    ∃ f g i : Int, (feeA r s = f ∧ errA (feeOk r s) = 0) ∧ (feeA r (s + t) = g ∧ errA (feeOk r (s + t)) = 0) ∧ (feeA r t = i ∧ errA (feeOk r t) = 0) ∧
      (0 ≤ f ∧ f ≤ g ∧ g ≤ f + i ∧ f + i ≤ g + 1 ∧ i ≤ 100000000000 ∧ f ≤ 100000000000) ∧
      (∃ c : Int, cmpA f s r 1000 = c ∧ 0 ≤ c ∧ c ≤ 1) ∧ (f = 0 ∨ cmpA (f - 1) s r 1000 = -1) := by
  have h1 : feeOk r s = true := by simp [feeOk]; omega
  have h2 : feeOk r (s + t) = true := by simp [feeOk]; omega
  have h3 : feeOk r t = true := by simp [feeOk]; omega
  obtain ⟨p0, p1⟩ := mul_bound hr.1 hr.2 (show 0 ≤ s by omega) hs.2
  obtain ⟨q0, q1⟩ := mul_bound hr.1 hr.2 ht.1 ht.2
  have hP : r * (s + t) = r * s + r * t := Int.mul_add _ _ _
  have k3 : pricedA r 1000 = true := by simp [pricedA, goodA, sizedA]; omega
  refine ⟨_, _, _, ⟨rfl, by rw [h1]; rfl⟩, ⟨rfl, by rw [h2]; rfl⟩, ⟨rfl, by rw [h3]; rfl⟩, ?_⟩
  unfold feeA
  rw [h1, h2, h3, if_pos rfl, if_pos rfl, if_pos rfl, hP]
  generalize r * t = Q at *
  refine ⟨by omega, ?_, ?_⟩
  · have k1 : pricedA ((r * s + 999) / 1000) s = true := by simp [pricedA, goodA, sizedA]; omega
    refine ⟨_, rfl, ?_⟩
    unfold cmpA
    rw [k1, k3]
    simp only [Bool.and_self, if_true]
    unfold sgn3
    split
    · omega
    · split <;> omega
  · by_cases h0 : (r * s + 999) / 1000 = 0
    · exact .inl h0
    · right
      have k1 : pricedA ((r * s + 999) / 1000 - 1) s = true := by simp [pricedA, goodA, sizedA]; omega
      unfold cmpA
      rw [k1, k3]
      simp only [Bool.and_self, if_true]
      unfold sgn3
      rw [if_pos (by omega)]

set_option maxRecDepth 100000 in
set_option maxHeartbeats 6400000 in
theorem law9 (r0 s0 t0 : Int) (w : World) (_hr : -9223372036854775808 ≤ r0 ∧ r0 ≤ 9223372036854775807) (_hs : -9223372036854775808 ≤ s0 ∧ s0 ≤ 9223372036854775807) (_ht : -9223372036854775808 ≤ t0 ∧ t0 ≤ 9223372036854775807) :
    Calls Try.prog 9 #[.int .i64 r0, .int .i64 s0, .int .i64 t0] w fun e w' => e = .returned (.bool true) ∧ Below w.heap.size w w' := by
  go_enter Try.func9, Try.ntmps9
  go_upto_region 1 with fail
  go_cut [7, 8] (fun s7 s8 wx => ∃ (r s : Int), s7 = .int .i64 r ∧ s8 = .int .i64 s ∧ (0 ≤ r ∧ r ≤ 100000000) ∧ (1 ≤ s ∧ s ≤ 500000) ∧ wx = w)
  case first =>
    go_wp2_with fail
    all_goals
      go_meet
      exact ⟨_, _, rfl, rfl, by omega, by omega, rfl⟩
  case rest =>
    obtain ⟨r, s, rfl, rfl, hr, hs, rfl⟩ := hcut
    obtain ⟨w, rfl⟩ : ∃ w : World, w = wc := ⟨_, rfl⟩
    go_upto_region 2 with fail
    go_cut [9] (fun s9 wx => ∃ (t : Int), s9 = .int .i64 t ∧ (0 ≤ t ∧ t ≤ 499999) ∧ wx = w)
    case first =>
      go_wp2_with fail
      all_goals
        go_meet
        exact ⟨_, rfl, by omega, rfl⟩
    case rest =>
      obtain ⟨t, rfl, ht, rfl⟩ := hcut
      obtain ⟨w, rfl⟩ : ∃ w : World, w = wc := ⟨_, rfl⟩
      obtain ⟨f, g, i, a1, a2, a3, a4, ⟨c, a5, c0, c1⟩, a6⟩ := least_math r s t hr hs ht
      have A1 := Lib.hid a1; have A2 := Lib.hid a2; have A3 := Lib.hid a3; have A5 := Lib.hid a5; have A6 := Lib.hid a6
      clear a1 a2 a3 a5 a6
      obtain ⟨f0, f1, f2, f3, f4, f5⟩ := a4
      go_wp2_with fail
      refine (fee_any _ _ _).mono ?_
      rintro x w1 ⟨rfl, rfl⟩
      rw [A1.out.1, A1.out.2]
      go_wp2_with fail
      refine (fee_any _ _ _).mono ?_
      rintro x w2 ⟨rfl, rfl⟩
      rw [A2.out.1, A2.out.2]
      go_wp2_with fail
      refine (fee_any _ _ _).mono ?_
      rintro x w3 ⟨rfl, rfl⟩
      rw [A3.out.1, A3.out.2]
      go_wp2_with fail
      refine (wakes01_any _).mono ?_
      rintro x w4 ⟨rfl, hb4⟩
      go_wp2_with fail
      refine (compare_any _ _ _ _ _).mono ?_
      rintro x w5 ⟨rfl, hb5⟩
      rw [A5.out]
      replace hb5 := hb4.trans (hb5.mono hb4.size)
      by_cases h0 : f = 0
      · go_wp2_with fail
        go_ret
        exact ⟨ret_bool (by simp; try omega), hb5⟩
      · have e6 : cmpA (f - 1) s r 1000 = -1 := by have := A6.out; omega
        have E6 := Lib.hid e6
        clear e6
        go_wp2_with fail
        refine (compare_any _ _ _ _ _).mono ?_
        rintro x w6 ⟨rfl, hb6⟩
        rw [E6.out]
        go_wp2_with fail
        go_ret
        exact ⟨ret_bool (by simp; try omega), hb5.trans (hb6.mono hb5.size)⟩

theorem walkAmountLeast (r s t : Int) (w : World) (w0 : (Lit.int .i64 r).wf = true) (w1 : (Lit.int .i64 s).wf = true) (w2 : (Lit.int .i64 t).wf = true) :
    Calls Try.prog 9 #[.int .i64 r, .int .i64 s, .int .i64 t] w fun e w' => e = .returned (.bool true) ∧ Below w.heap.size w w' :=
  law9 r s t w (bounds_i64 w0) (bounds_i64 w1) (bounds_i64 w2)
end Go.Proofs.Ytiokcoicipmkmaa
