/- Contracts of the reference for curves: Good and Rate return what the plain functions say. Conditions: none. -/
import Derived.Test.YtiokcoicipmkmaaCur
namespace Go.Proofs.Ytiokcoicipmkmaa
open Go.RowKit

theorem rgood_any (s e f c : Int) (w : World) :
    Calls Try.prog 15 #[.int .i64 s, .int .i64 e, .int .i64 f, .int .i64 c] w fun r w' => r = .returned (.bool (Cv.good ⟨s, e, f, c⟩)) ∧ w' = w := by
  go_enter Try.func15, Try.ntmps15
  go_wp2
  all_goals
    go_ret
    refine ⟨ret_bool ?_, rfl⟩
    show _ = decide (0 ≤ s ∧ s ≤ e ∧ e ≤ 1000000 ∧ 0 ≤ f ∧ f ≤ c ∧ c ≤ 100000000)
    first
      | (rw [decide_eq_decide]; omega)
      | (symm; rw [decide_eq_false_iff_not]; omega)

theorem upQ_doc' {n d : Int} (hd : 0 < d) (h : n / d * d < n) : n / d + 1 = upQ n d := by rw [← upQ_doc hd, if_pos h]
theorem upQ_doc'' {n d : Int} (hd : 0 < d) (h : ¬ n / d * d < n) : n / d = upQ n d := by rw [← upQ_doc hd, if_neg h]
theorem quo_mul_bound {n d : Int} (hd : 0 < d) (hn : 0 ≤ n) : 0 ≤ n / d ∧ n / d ≤ n ∧ 0 ≤ n / d * d ∧ n / d * d ≤ n := by
  have h1 := Int.ediv_nonneg hn (by omega : 0 ≤ d)
  have h2 := Int.ediv_mul_le n (by omega : d ≠ 0)
  have h3 := Int.mul_nonneg h1 (by omega : 0 ≤ d)
  have h4 : n / d ≤ n := Int.ediv_le_self d hn
  exact ⟨h1, h4, h3, h2⟩

set_option maxHeartbeats 1600000 in
theorem rrate_any (s e f c h : Int) (w : World) :
    Calls Try.prog 17 #[.int .i64 s, .int .i64 e, .int .i64 f, .int .i64 c, .int .i64 h] w fun r w' => r = .returned (.tuple #[.int .i64 (Cv.val ⟨s, e, f, c⟩ h), .int .i64 (Cv.err ⟨s, e, f, c⟩ h)]) ∧ w' = w := by
  cases hg : Cv.good ⟨s, e, f, c⟩ with
  | false =>
    have e1 : Cv.val ⟨s, e, f, c⟩ h = 0 := by simp [Cv.val, hg]
    have e2 : Cv.err ⟨s, e, f, c⟩ h = 2 := by simp [Cv.err, hg]
    rw [e1, e2]
    have HG := Lib.hid hg; clear hg e1 e2
    go_enter Try.func17, Try.ntmps17
    go_wp2_with (go_at_call 15; refine (rgood_any s e f c _).mono ?_; rintro r w' ⟨rfl, rfl⟩; rw [HG.out])
    go_ret2
    exact ⟨rfl, rfl⟩
  | true =>
    have HG := Lib.hid hg
    obtain ⟨a1, a2, a3, a4, a5, a6⟩ := Cv.good_all hg
    simp only at a1 a2 a3 a4 a5 a6
    clear hg
    by_cases hh : 0 ≤ h ∧ h ≤ 1000000
    · have e1 : Cv.val ⟨s, e, f, c⟩ h = Cv.rate ⟨s, e, f, c⟩ h := by simp only [Cv.val, HG.out, Bool.true_and]; rw [if_pos]; rw [decide_eq_true_iff]; omega
      have e2 : Cv.err ⟨s, e, f, c⟩ h = 0 := by simp only [Cv.err, HG.out, if_true]; rw [if_pos]; omega
      rw [e1, e2]
      clear e1 e2
      obtain ⟨h0, h1⟩ := hh
      obtain ⟨V, HV⟩ : ∃ V, Hid (V = Cv.rate ⟨s, e, f, c⟩ h) := ⟨_, rfl⟩
      rw [← HV.out]
      by_cases k1 : e ≤ h
      · go_enter Try.func17, Try.ntmps17
        go_wp2_with (go_at_call 15; refine (rgood_any s e f c _).mono ?_; rintro r w' ⟨rfl, rfl⟩; rw [HG.out])
        go_ret2
        exact ⟨ret_ints (a := c) (by rw [HV.out, Cv.rate, if_pos k1]) rfl, rfl⟩
      · by_cases k2 : h ≤ s
        · go_enter Try.func17, Try.ntmps17
          go_wp2_with (go_at_call 15; refine (rgood_any s e f c _).mono ?_; rintro r w' ⟨rfl, rfl⟩; rw [HG.out])
          go_ret2
          exact ⟨ret_ints (a := f) (by rw [HV.out, Cv.rate, if_neg (show ¬ e ≤ h by omega), if_pos (show h ≤ s from k2)]) rfl, rfl⟩
        · have m1 := mul_bound (a := c - f) (b := h - s) (A := 100000000) (B := 1000000) (by omega) (by omega) (by omega) (by omega)
          have hv : Cv.rate ⟨s, e, f, c⟩ h = f + upQ ((c - f) * (h - s)) (e - s) := by rw [Cv.rate, if_neg (show ¬ e ≤ h by omega), if_neg (show ¬ h ≤ s from k2)]
          replace HV := Lib.hid (HV.out.trans hv)
          clear hv
          have q1 := quo_mul_bound (n := (c - f) * (h - s)) (d := e - s) (by omega) m1.1
          obtain ⟨m0, m1⟩ := m1
          obtain ⟨q1, q2, q3, q4⟩ := q1
          by_cases hq : (c - f) * (h - s) / (e - s) * (e - s) < (c - f) * (h - s)
          · go_enter Try.func17, Try.ntmps17
            go_wp2_with (go_at_call 15; refine (rgood_any s e f c _).mono ?_; rintro r w' ⟨rfl, rfl⟩; rw [HG.out])
            go_ret2
            exact ⟨ret_ints (a := f + ((c - f) * (h - s) / (e - s) + 1)) (by rw [HV.out, upQ_doc' (by omega) hq]) rfl, rfl⟩
          · go_enter Try.func17, Try.ntmps17
            go_wp2_with (go_at_call 15; refine (rgood_any s e f c _).mono ?_; rintro r w' ⟨rfl, rfl⟩; rw [HG.out])
            go_ret2
            exact ⟨ret_ints (a := f + ((c - f) * (h - s) / (e - s))) (by rw [HV.out, upQ_doc'' (by omega) (by omega)]) rfl, rfl⟩
    · have e1 : Cv.val ⟨s, e, f, c⟩ h = 0 := by simp only [Cv.val, HG.out, Bool.true_and]; rw [if_neg]; rw [decide_eq_true_iff]; omega
      have e2 : Cv.err ⟨s, e, f, c⟩ h = 3 := by simp only [Cv.err, HG.out, if_true]; rw [if_neg]; omega
      rw [e1, e2]
      clear e1 e2
      have hh' : h < 0 ∨ 1000000 < h := by omega
      clear hh
      rcases hh' with hh | hh
      all_goals
        go_enter Try.func17, Try.ntmps17
        go_wp2_with (go_at_call 15; refine (rgood_any s e f c _).mono ?_; rintro r w' ⟨rfl, rfl⟩; rw [HG.out])
        all_goals
          go_ret2
          exact ⟨rfl, rfl⟩
end Go.Proofs.Ytiokcoicipmkmaa
