/- The walk of the law CurveRises: it returns true. Conditions: the arguments fit their kinds. -/
import Derived.Test.YtiokcoicipmkmaaAgg
namespace Go.Proofs.Ytiokcoicipmkmaa
open Go.RowKit

/-- what the law asks of four rates of a curve -/
structure Four (s e f c h : Int) (A B D : Int) : Prop where
  ab : A ≤ B
  bd : B ≤ D
  fa : f ≤ A
  dc : D ≤ c
  one : s ≤ h → h + 2 ≤ e → D - B - (B - A) ≤ 1 ∧ B - A - (D - B) ≤ 1

theorem four_of {s e f c h : Int} (hg : Cv.good ⟨s, e, f, c⟩ = true) (h0 : 0 ≤ h) (h1 : h ≤ 999998) : ∃ A B D : Int, Four s e f c h A B D ∧
    (Cv.val ⟨s, e, f, c⟩ h = A ∧ Cv.err ⟨s, e, f, c⟩ h = 0) ∧ (Cv.val ⟨s, e, f, c⟩ (h + 1) = B ∧ Cv.err ⟨s, e, f, c⟩ (h + 1) = 0) ∧ (Cv.val ⟨s, e, f, c⟩ (h + 2) = D ∧ Cv.err ⟨s, e, f, c⟩ (h + 2) = 0) ∧
    Cv.val ⟨s, e, f, c⟩ e = c ∧ Cv.err ⟨s, e, f, c⟩ e = 0 := by
  obtain ⟨a1, a2, a3, a4, a5, a6⟩ := Cv.good_all hg
  simp only at a1 a2 a3 a4 a5 a6
  refine ⟨Cv.rate ⟨s, e, f, c⟩ h, Cv.rate ⟨s, e, f, c⟩ (h + 1), Cv.rate ⟨s, e, f, c⟩ (h + 2), ⟨Cv.rate_mono hg (by omega), Cv.rate_mono hg (by omega), (Cv.rate_bounds hg h).1, (Cv.rate_bounds hg _).2, fun g1 g2 => Cv.rate_even hg g1 g2⟩,
    ⟨Cv.val_in hg h0 (by omega), Cv.err_in hg h0 (by omega)⟩, ⟨Cv.val_in hg (by omega) (by omega), Cv.err_in hg (by omega) (by omega)⟩, ⟨Cv.val_in hg (by omega) (by omega), Cv.err_in hg (by omega) (by omega)⟩, ?_, Cv.err_in hg (by omega) (by omega)⟩
  rw [Cv.val_in hg (by omega) (by omega)]
  exact Cv.rate_end (x := ⟨s, e, f, c⟩)

set_option maxHeartbeats 3200000 in
theorem law5 (s0 e0 f0 c0 h0 : Int) (w : World) (hi : -9223372036854775808 ≤ h0 ∧ h0 ≤ 9223372036854775807) :
    Calls Try.prog 5 #[.agg #[.int .i64 s0, .int .i64 e0, .int .i64 f0, .int .i64 c0], .int .i64 h0] w fun e w' => e = .returned (.bool true) ∧ Below w.heap.size w w' := by
  go_enter Try.func5, Try.ntmps5
  go_wp2_with fail
  refine (near_any s0 e0 f0 c0 _).mono ?_
  rintro x w1 ⟨s, e, f, c, rfl, hg, hb1⟩
  replace hb1 := ((Below.refl w.heap.size w).alloc (Nat.le_refl _) _).trans (hb1.mono (by simp))
  have HG := Lib.hid hg
  obtain ⟨a1, a2, a3, a4, a5, a6⟩ := Cv.good_all hg
  simp only at a1 a2 a3 a4 a5 a6
  clear hg
  have hbx := Boxed.made w1 s e f c 23
  have hb2 := hb1.alloc hb1.size (.cells #[.int .i64 s, .int .i64 e, .int .i64 f, .int .i64 c] 23)
  obtain ⟨z, d0, d1, d2, d3⟩ := hbx
  go_wp2_with fail
  case inl =>
    have hr : 0 ≤ h0 % 999999 ∧ h0 % 999999 ≤ 999998 := by omega
    generalize h0 % 999999 = h at *
    obtain ⟨A, B, D, F4, v1, v2, v3, v4⟩ := four_of (h := h) HG.out hr.1 hr.2
    have V1 := Lib.hid v1; have V2 := Lib.hid v2; have V3 := Lib.hid v3; have V4 := Lib.hid v4
    clear v1 v2 v3 v4
    obtain ⟨f1, f2, f3, f4, f5⟩ := F4
    have f6 := Lib.hid f5; clear f5
    refine (rate_any s e f c h _).mono ?_
    rintro x w3 ⟨rfl, hb3⟩
    rw [V1.out.1, V1.out.2]
    obtain ⟨z3, d0, d1, d2, d3⟩ := (Boxed.mk z d0 d1 d2 d3).later hb3
    replace hb3 := hb2.trans (hb3.mono hb2.size)
    go_wp2_with fail
    refine (rate_any s e f c (h + 1) _).mono ?_
    rintro x w4 ⟨rfl, hb4⟩
    rw [V2.out.1, V2.out.2]
    obtain ⟨z4, d0, d1, d2, d3⟩ := (Boxed.mk z3 d0 d1 d2 d3).later hb4
    replace hb4 := hb3.trans (hb4.mono hb3.size)
    go_wp2_with fail
    refine (rate_any s e f c (h + 2) _).mono ?_
    rintro x w5 ⟨rfl, hb5⟩
    rw [V3.out.1, V3.out.2]
    obtain ⟨z5, d0, d1, d2, d3⟩ := (Boxed.mk z4 d0 d1 d2 d3).later hb5
    replace hb5 := hb4.trans (hb5.mono hb4.size)
    go_wp2_with fail
    refine (rate_any s e f c e _).mono ?_
    rintro x w6 ⟨rfl, hb6⟩
    rw [V4.out.1, V4.out.2]
    obtain ⟨z6, d0, d1, d2, d3⟩ := (Boxed.mk z5 d0 d1 d2 d3).later hb6
    replace hb6 := hb5.trans (hb6.mono hb5.size)
    go_wp2_with fail
    refine (wakes22_any _).mono ?_
    rintro x w7 ⟨rfl, hb7⟩
    obtain ⟨z7, d0, d1, d2, d3⟩ := (Boxed.mk z6 d0 d1 d2 d3).later hb7
    replace hb7 := hb6.trans (hb7.mono hb6.size)
    by_cases k1 : s ≤ h
    · by_cases k2 : h + 2 ≤ e
      · obtain ⟨g1, g2⟩ := f6.out k1 k2
        go_wp2_with fail
        go_ret
        exact ⟨ret_bool (by simp; try omega), hb7⟩
      · go_wp2_with fail
        go_ret
        exact ⟨rfl, hb7⟩
    · go_wp2_with fail
      go_ret
      exact ⟨rfl, hb7⟩
  case inr =>
    obtain ⟨A, B, D, F4, v1, v2, v3, v4⟩ := four_of (h := 0) HG.out (by omega) (by omega)
    rw [show (0 : Int) + 1 = 1 from rfl] at v2
    rw [show (0 : Int) + 2 = 2 from rfl] at v3
    have V1 := Lib.hid v1; have V2 := Lib.hid v2; have V3 := Lib.hid v3; have V4 := Lib.hid v4
    clear v1 v2 v3 v4
    obtain ⟨f1, f2, f3, f4, f5⟩ := F4
    have f6 := Lib.hid f5; clear f5
    refine (rate_any s e f c 0 _).mono ?_
    rintro x w3 ⟨rfl, hb3⟩
    rw [V1.out.1, V1.out.2]
    obtain ⟨z3, d0, d1, d2, d3⟩ := (Boxed.mk z d0 d1 d2 d3).later hb3
    replace hb3 := hb2.trans (hb3.mono hb2.size)
    go_wp2_with fail
    refine (rate_any s e f c 1 _).mono ?_
    rintro x w4 ⟨rfl, hb4⟩
    rw [V2.out.1, V2.out.2]
    obtain ⟨z4, d0, d1, d2, d3⟩ := (Boxed.mk z3 d0 d1 d2 d3).later hb4
    replace hb4 := hb3.trans (hb4.mono hb3.size)
    go_wp2_with fail
    refine (rate_any s e f c 2 _).mono ?_
    rintro x w5 ⟨rfl, hb5⟩
    rw [V3.out.1, V3.out.2]
    obtain ⟨z5, d0, d1, d2, d3⟩ := (Boxed.mk z4 d0 d1 d2 d3).later hb5
    replace hb5 := hb4.trans (hb5.mono hb4.size)
    go_wp2_with fail
    refine (rate_any s e f c e _).mono ?_
    rintro x w6 ⟨rfl, hb6⟩
    rw [V4.out.1, V4.out.2]
    obtain ⟨z6, d0, d1, d2, d3⟩ := (Boxed.mk z5 d0 d1 d2 d3).later hb6
    replace hb6 := hb5.trans (hb6.mono hb5.size)
    go_wp2_with fail
    refine (wakes22_any _).mono ?_
    rintro x w7 ⟨rfl, hb7⟩
    obtain ⟨z7, d0, d1, d2, d3⟩ := (Boxed.mk z6 d0 d1 d2 d3).later hb7
    replace hb7 := hb6.trans (hb7.mono hb6.size)
    by_cases k1 : s ≤ 0
    · by_cases k2 : 2 ≤ e
      · obtain ⟨g1, g2⟩ := f6.out k1 (by omega)
        go_wp2_with fail
        go_ret
        exact ⟨ret_bool (by simp; try omega), hb7⟩
      · go_wp2_with fail
        go_ret
        exact ⟨rfl, hb7⟩
    · go_wp2_with fail
      go_ret
      exact ⟨rfl, hb7⟩

theorem walkCurveRises (s e f c h : Int) (w : World) (_w0 : ∀ n ∈ [s, e, f, c], -9223372036854775808 ≤ n ∧ n ≤ 9223372036854775807) (w1 : (Lit.int .i64 h).wf = true) :
    Calls Try.prog 5 #[.agg #[.int .i64 s, .int .i64 e, .int .i64 f, .int .i64 c], .int .i64 h] w fun e w' => e = .returned (.bool true) ∧ Below w.heap.size w w' :=
  law5 s e f c h w (bounds_i64 w1)
end Go.Proofs.Ytiokcoicipmkmaa
