/- The walk of the law AmountOrder: it returns true. Conditions: the arguments fit their kinds. -/
import Derived.Test.YtiokcoicipmkmaaW7
namespace Go.Proofs.Ytiokcoicipmkmaa
open Go.RowKit

set_option maxHeartbeats 6400000 in
theorem of_any (x y : Int) (w : World) (hx : -9223372036854775808 ≤ x ∧ x ≤ 9223372036854775807) (hy : -9223372036854775808 ≤ y ∧ y ≤ 9223372036854775807) :
    Calls Try.prog 28 #[.agg #[.int .i64 x, .int .i64 y]] w fun e w' => ∃ a b : Int, e = .returned (.tuple #[.int .i64 a, .int .i64 b]) ∧ (0 ≤ a ∧ a ≤ 99999999999) ∧ (1 ≤ b ∧ b ≤ 1000000) ∧ Below w.heap.size w w' := by
  have hm := most_range x
  have hM := fun v => most_any x v hx
  obtain ⟨M, hMM⟩ : ∃ M, mostA x = M := ⟨_, rfl⟩
  rw [hMM] at hm
  simp only [hMM] at hM
  clear hMM hx
  by_cases h1 : 0 < M
  · by_cases h2 : 0 < y
    · go_enter Try.func28, Try.ntmps28
      go_wp2_with fail
      go_quiet ((go_at_call 22; exact Calls.quiet_of_same (hM _)))
      go_wp2_with fail
      go_ret2
      exact ⟨_, _, rfl, by omega, by omega, below_drewN ((Below.refl _ _).alloc (Nat.le_refl _) _) _⟩
    · go_enter Try.func28, Try.ntmps28
      go_wp2_with fail
      go_quiet ((go_at_call 22; exact Calls.quiet_of_same (hM _)))
      go_wp2_with fail
      go_ret2
      exact ⟨_, _, rfl, by omega, by omega, below_drewN ((Below.refl _ _).alloc (Nat.le_refl _) _) _⟩
  · by_cases h2 : 0 < y
    · go_enter Try.func28, Try.ntmps28
      go_wp2_with fail
      go_quiet ((go_at_call 22; exact Calls.quiet_of_same (hM _)))
      go_wp2_with fail
      go_ret2
      exact ⟨_, _, rfl, by omega, by omega, below_drewN ((Below.refl _ _).alloc (Nat.le_refl _) _) _⟩
    · go_enter Try.func28, Try.ntmps28
      go_wp2_with fail
      go_quiet ((go_at_call 22; exact Calls.quiet_of_same (hM _)))
      go_wp2_with fail
      go_ret2
      exact ⟨_, _, rfl, by omega, by omega, below_drewN ((Below.refl _ _).alloc (Nat.le_refl _) _) _⟩

theorem Ints.made2 (w : World) (a b : Int) (t : TypeId) {n : Nat} (h : n = w.heap.size) : Ints (w.alloc (.cells #[.int .i64 a, .int .i64 b] t)) n [a, b] := by subst h; exact Ints.made w [a, b] t

theorem sgn3_le {x y : Int} : sgn3 x y ≤ 0 ↔ x ≤ y := by unfold sgn3; split <;> (try split) <;> omega

theorem order_math (a b c d f g : Int) (ha : 0 ≤ a ∧ a ≤ 99999999999) (hb : 1 ≤ b ∧ b ≤ 1000000) (hc : 0 ≤ c ∧ c ≤ 99999999999) (hd : 1 ≤ d ∧ d ≤ 1000000) (hf : 0 ≤ f ∧ f ≤ 99999999999) (hg : 1 ≤ g ∧ g ≤ 1000000) :
    ∃ X Y Z R U : Int, cmpA a b c d = X ∧ cmpA c d f g = Y ∧ cmpA a b f g = Z ∧ (rateA a b = R ∧ errA (pricedA a b) = 0) ∧ cmpA R 1000 a b = U ∧ cmpA (R + 1) 1000 a b = 1 ∧
      (X ≤ 0 → Y ≤ 0 → Z ≤ 0) ∧ U ≤ 0 ∧ -1 ≤ U ∧ (0 ≤ R ∧ R ≤ 99999999999000) ∧ (-1 ≤ X ∧ X ≤ 1) ∧ (-1 ≤ Y ∧ Y ≤ 1) ∧ (-1 ≤ Z ∧ Z ≤ 1) := by
  have p1 : pricedA a b = true := by simp [pricedA, goodA, sizedA]; omega
  have p2 : pricedA c d = true := by simp [pricedA, goodA, sizedA]; omega
  have p3 : pricedA f g = true := by simp [pricedA, goodA, sizedA]; omega
  have hR0 : 0 ≤ a * 1000 / b := Int.ediv_nonneg (by omega) (by omega)
  have hR1 : a * 1000 / b ≤ 99999999999000 := by
    have := Int.ediv_le_self b (show 0 ≤ a * 1000 by omega)
    omega
  have em := Int.emod_add_mul_ediv (a * 1000) b
  have e0 := Int.emod_nonneg (a * 1000) (by omega : b ≠ 0)
  have e1 := Int.emod_lt_of_pos (a * 1000) (show 0 < b by omega)
  refine ⟨_, _, _, a * 1000 / b, _, rfl, rfl, rfl, ⟨by unfold rateA; rw [p1]; rfl, by rw [p1]; rfl⟩, rfl, ?_⟩
  generalize a * 1000 / b = R at *
  have p4 : pricedA R 1000 = true := by simp [pricedA, goodA, sizedA]; omega
  have p5 : pricedA (R + 1) 1000 = true := by simp [pricedA, goodA, sizedA]; omega
  unfold cmpA
  rw [p1, p2, p3, p4, p5]
  simp only [Bool.and_self, if_true]
  have cm : R * b = b * R := Int.mul_comm _ _
  have cm1 : (R + 1) * b = b * R + b := by rw [Int.add_mul, cm]; omega
  refine ⟨?_, ?_, ?_, (sgn3_range _ _).1, ⟨hR0, hR1⟩, sgn3_range _ _, sgn3_range _ _, sgn3_range _ _⟩
  · rw [cm1]; unfold sgn3; rw [if_neg (by omega), if_pos (by omega)]
  · rw [sgn3_le, sgn3_le, sgn3_le]
    intro h1 h2
    exact cmp_trans (by omega) (by omega : 0 < d) (by omega) h1 h2
  · rw [cm]; exact sgn3_le.2 (by omega)

set_option maxRecDepth 100000 in
set_option maxHeartbeats 6400000 in
theorem law10 (x0 x1 y0 y1 z0 z1 : Int) (w : World)
    (hx0 : -9223372036854775808 ≤ x0 ∧ x0 ≤ 9223372036854775807) (hx1 : -9223372036854775808 ≤ x1 ∧ x1 ≤ 9223372036854775807)
    (hy0 : -9223372036854775808 ≤ y0 ∧ y0 ≤ 9223372036854775807) (hy1 : -9223372036854775808 ≤ y1 ∧ y1 ≤ 9223372036854775807)
    (hz0 : -9223372036854775808 ≤ z0 ∧ z0 ≤ 9223372036854775807) (hz1 : -9223372036854775808 ≤ z1 ∧ z1 ≤ 9223372036854775807) :
    Calls Try.prog 10 #[.agg #[.int .i64 x0, .int .i64 x1], .agg #[.int .i64 y0, .int .i64 y1], .agg #[.int .i64 z0, .int .i64 z1]] w fun e w' => e = .returned (.bool true) ∧ Below w.heap.size w w' := by
  go_enter Try.func10, Try.ntmps10
  go_upto_region 0 with fail
  go_cut [3, 4, 5, 6] (fun s3 s4 s5 s6 wx => ∃ (p q v : Nat), s3 = .pointer (some ⟨p, 0, none⟩) ∧ s4 = .pointer (some ⟨q, 0, none⟩) ∧ s5 = .pointer (some ⟨v, 0, none⟩) ∧ s6 = .bool false ∧ Ints wx p [x0, x1] ∧ Ints wx q [y0, y1] ∧ Ints wx v [z0, z1] ∧ Below w.heap.size w wx)
  case first =>
    go_wp2_with fail
    all_goals
      go_meet
      exact ⟨_, _, _, rfl, rfl, rfl, rfl, ((Ints.made2 _ _ _ _ (by simp)).alloc _).alloc _, (Ints.made2 _ _ _ _ (by simp)).alloc _, Ints.made2 _ _ _ _ (by simp), (((Below.refl _ _).alloc (Nat.le_refl _) _).alloc (by simp) _).alloc (by simp; try omega) _⟩
  case rest =>
    obtain ⟨p, q, v, rfl, rfl, rfl, rfl, hp, hq, hv, hb0⟩ := hcut
    have c0 := hp.at_ 0 (by simp)
    have c1 := hp.at_ 1 (by simp)
    simp only [List.getD_cons_zero, List.getD_cons_succ] at c0 c1
    go_wp2_with fail
    refine (of_any x0 x1 _ hx0 hx1).mono ?_
    rintro r w1 ⟨a, b, rfl, ha, hb, hb1⟩
    clear c0 c1 hp
    replace hq := hq.later hb1
    replace hv := hv.later hb1
    replace hb1 := hb0.trans (hb1.mono hb0.size)
    have c0 := hq.at_ 0 (by simp)
    have c1 := hq.at_ 1 (by simp)
    simp only [List.getD_cons_zero, List.getD_cons_succ] at c0 c1
    go_wp2_with fail
    refine (of_any y0 y1 _ hy0 hy1).mono ?_
    rintro r w2 ⟨c, d, rfl, hc, hd, hb2⟩
    clear c0 c1 hq
    replace hv := hv.later hb2
    replace hb2 := hb1.trans (hb2.mono hb1.size)
    have c0 := hv.at_ 0 (by simp)
    have c1 := hv.at_ 1 (by simp)
    simp only [List.getD_cons_zero, List.getD_cons_succ] at c0 c1
    go_wp2_with fail
    refine (of_any z0 z1 _ hz0 hz1).mono ?_
    rintro r w3 ⟨f, g, rfl, hf, hg, hb3⟩
    clear c0 c1 hv hx0 hx1 hy0 hy1 hz0 hz1 hb0 hb1
    replace hb3 := hb2.trans (hb3.mono hb2.size)
    clear hb2
    obtain ⟨X, Y, Z, R, U, a1, a2, a3, a4, a5, a6, a7, a8, a9, a10, a11, a12, a13⟩ := order_math a b c d f g ha hb hc hd hf hg
    have A1 := Lib.hid a1; have A2 := Lib.hid a2; have A3 := Lib.hid a3; have A4 := Lib.hid a4; have A5 := Lib.hid a5; have A6 := Lib.hid a6; have A7 := Lib.hid a7
    clear a1 a2 a3 a4 a5 a6 a7
    have fin : ∀ W : World, Below w.heap.size w W → Calls Try.prog 23 #[.int .i64 a, .int .i64 b] W (fun x w' => x = .returned (.tuple #[.int .i64 R, .int .i64 0]) ∧ Below w.heap.size w w') := by
      intro W hW
      refine (arate_any _ _ _).mono ?_
      rintro x w' ⟨rfl, rfl⟩
      rw [A4.out.1, A4.out.2]
      exact ⟨rfl, hW⟩
    by_cases k1 : X ≤ 0
    · by_cases k2 : Y ≤ 0
      · have k3 := A7.out k1 k2
        go_wp2_with fail
        refine (compare_any _ _ _ _ _).mono ?_
        rintro x w4 ⟨rfl, hb4⟩
        rw [A1.out]
        replace hb4 := hb3.trans (hb4.mono hb3.size)
        go_wp2_with fail
        refine (compare_any _ _ _ _ _).mono ?_
        rintro x w5 ⟨rfl, hb5⟩
        rw [A2.out]
        replace hb5 := hb4.trans (hb5.mono hb4.size)
        go_wp2_with fail
        refine (compare_any _ _ _ _ _).mono ?_
        rintro x w6 ⟨rfl, hb6⟩
        rw [A3.out]
        replace hb6 := hb5.trans (hb6.mono hb5.size)
        go_wp2_with fail
        refine (fin _ hb6).mono ?_
        rintro x w7 ⟨rfl, hb7⟩
        go_wp2_with fail
        refine (wakes01_any _).mono ?_
        rintro x w8 ⟨rfl, hb8⟩
        replace hb8 := hb7.trans (hb8.mono hb7.size)
        go_wp2_with fail
        refine (compare_any _ _ _ _ _).mono ?_
        rintro x w9 ⟨rfl, hb9⟩
        rw [A5.out]
        replace hb9 := hb8.trans (hb9.mono hb8.size)
        go_wp2_with fail
        refine (compare_any _ _ _ _ _).mono ?_
        rintro x w10 ⟨rfl, hb10⟩
        rw [A6.out]
        go_wp2_with fail
        go_ret
        exact ⟨ret_bool (by simp; try omega), hb9.trans (hb10.mono hb9.size)⟩
      · go_wp2_with fail
        refine (compare_any _ _ _ _ _).mono ?_
        rintro x w4 ⟨rfl, hb4⟩
        rw [A1.out]
        replace hb4 := hb3.trans (hb4.mono hb3.size)
        go_wp2_with fail
        refine (compare_any _ _ _ _ _).mono ?_
        rintro x w5 ⟨rfl, hb5⟩
        rw [A2.out]
        replace hb5 := hb4.trans (hb5.mono hb4.size)
        go_wp2_with fail
        refine (fin _ hb5).mono ?_
        rintro x w7 ⟨rfl, hb7⟩
        go_wp2_with fail
        refine (wakes01_any _).mono ?_
        rintro x w8 ⟨rfl, hb8⟩
        replace hb8 := hb7.trans (hb8.mono hb7.size)
        go_wp2_with fail
        refine (compare_any _ _ _ _ _).mono ?_
        rintro x w9 ⟨rfl, hb9⟩
        rw [A5.out]
        replace hb9 := hb8.trans (hb9.mono hb8.size)
        go_wp2_with fail
        refine (compare_any _ _ _ _ _).mono ?_
        rintro x w10 ⟨rfl, hb10⟩
        rw [A6.out]
        go_wp2_with fail
        go_ret
        exact ⟨ret_bool (by simp; try omega), hb9.trans (hb10.mono hb9.size)⟩
    · go_wp2_with fail
      refine (compare_any _ _ _ _ _).mono ?_
      rintro x w4 ⟨rfl, hb4⟩
      rw [A1.out]
      replace hb4 := hb3.trans (hb4.mono hb3.size)
      go_wp2_with fail
      refine (fin _ hb4).mono ?_
      rintro x w7 ⟨rfl, hb7⟩
      go_wp2_with fail
      refine (wakes01_any _).mono ?_
      rintro x w8 ⟨rfl, hb8⟩
      replace hb8 := hb7.trans (hb8.mono hb7.size)
      go_wp2_with fail
      refine (compare_any _ _ _ _ _).mono ?_
      rintro x w9 ⟨rfl, hb9⟩
      rw [A5.out]
      replace hb9 := hb8.trans (hb9.mono hb8.size)
      go_wp2_with fail
      refine (compare_any _ _ _ _ _).mono ?_
      rintro x w10 ⟨rfl, hb10⟩
      rw [A6.out]
      go_wp2_with fail
      go_ret
      exact ⟨ret_bool (by simp; try omega), hb9.trans (hb10.mono hb9.size)⟩

theorem walkAmountOrder (x0 x1 y0 y1 z0 z1 : Int) (w : World) (hx : ∀ n ∈ [x0, x1], -9223372036854775808 ≤ n ∧ n ≤ 9223372036854775807) (hy : ∀ n ∈ [y0, y1], -9223372036854775808 ≤ n ∧ n ≤ 9223372036854775807) (hz : ∀ n ∈ [z0, z1], -9223372036854775808 ≤ n ∧ n ≤ 9223372036854775807) :
    Calls Try.prog 10 #[.agg #[.int .i64 x0, .int .i64 x1], .agg #[.int .i64 y0, .int .i64 y1], .agg #[.int .i64 z0, .int .i64 z1]] w fun e w' => e = .returned (.bool true) ∧ Below w.heap.size w w' :=
  law10 x0 x1 y0 y1 z0 z1 w (hx x0 (by simp)) (hx x1 (by simp)) (hy y0 (by simp)) (hy y1 (by simp)) (hz z0 (by simp)) (hz z1 (by simp))
end Go.Proofs.Ytiokcoicipmkmaa
