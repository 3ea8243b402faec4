/- The walk of the law CurveRates: it returns true. Conditions: the arguments fit their kinds. -/
import Derived.Test.YtiokcoicipmkmaaRow
namespace Go.Proofs.Ytiokcoicipmkmaa
open Go.RowKit

set_option maxRecDepth 100000 in
set_option maxHeartbeats 6400000 in
theorem law3 (s0 e0 f0 c0 h0 m0 : Int) (w : World) (hh : -9223372036854775808 ≤ h0 ∧ h0 ≤ 9223372036854775807) (hm : -9223372036854775808 ≤ m0 ∧ m0 ≤ 9223372036854775807) :
    Calls Try.prog 3 #[.agg #[.int .i64 s0, .int .i64 e0, .int .i64 f0, .int .i64 c0], .int .i64 h0, .int .i64 m0] w fun e w' => e = .returned (.bool true) ∧ Below w.heap.size w w' := by
  go_enter Try.func3, Try.ntmps3
  go_wp2_with fail
  go_region_held3 (fun w' => w.heap.size < w'.heap.size ∧ w'.cell? ⟨w.heap.size, 0, none⟩ = some (.int .i64 s0) ∧ w'.cell? ⟨w.heap.size, 1, none⟩ = some (.int .i64 e0) ∧ w'.cell? ⟨w.heap.size, 2, none⟩ = some (.int .i64 f0) ∧ w'.cell? ⟨w.heap.size, 3, none⟩ = some (.int .i64 c0) ∧ Below w.heap.size w w')
    (first | (with_reducible exact Bxs.first _ _ _ _ _ 23) | (refine Bxs.step ?_ hb1; assumption) | (with_reducible refine Bxs.made ?_ _; assumption))
    (first | (go_at_call 13; refine (near_any s0 e0 f0 c0 _).mono ?_; rintro x w1 ⟨s, e, f, c, rfl, hg, hb1⟩))
  rename_i hS
  obtain ⟨hz, _, _, _, _, hb2⟩ := hS
  have hI := Ints.made w1 [s0, e0, f0, c0, s, e, f, c] 23
  simp only [List.map_cons, List.map_nil] at hI
  go_wp2_with fail
  go_loopw [20] (fun v20 wx => ∃ t : Nat, t ≤ 2 ∧ v20 = .int .i64 t ∧ Below w.heap.size w wx ∧ Ints wx w1.heap.size [s0, e0, f0, c0, s, e, f, c]) (fun v20 _ => 2 - (intOf v20).toNat)
  case atStart => exact ⟨0, by omega, rfl, hb2, hI⟩
  case round =>
    obtain ⟨t, ht, rfl, hnx, hI⟩ := hrel
    obtain ⟨wo, rfl⟩ : ∃ wo : World, wo = wr := ⟨_, rfl⟩
    by_cases hlt : t < 2
    · go_upto_region 3 with fail
      go_cut [8] (fun s8 wx => ∃ (g : Nat) (S E F C : Int), s8 = .pointer (some ⟨g, 0, none⟩) ∧ Boxed wx g S E F C ∧ Below wo.heap.size wo wx)
      case first =>
        have q0 := hI.at_ 0 (by simp); have q1 := hI.at_ 1 (by simp); have q2 := hI.at_ 2 (by simp); have q3 := hI.at_ 3 (by simp)
        have q4 := hI.at_ 4 (by simp); have q5 := hI.at_ 5 (by simp); have q6 := hI.at_ 6 (by simp); have q7 := hI.at_ 7 (by simp)
        simp only [List.getD_cons_zero, List.getD_cons_succ] at q0 q1 q2 q3 q4 q5 q6 q7
        have HI := Lib.hid hI; clear hI
        match t, hlt with
        | 0, _ =>
          go_wp2_with fail
          go_meet
          exact ⟨_, _, _, _, _, rfl, Boxed.made _ _ _ _ _ _, (Below.refl _ _).alloc (Nat.le_refl _) _⟩
        | 1, _ =>
          go_wp2_with fail
          go_meet
          exact ⟨_, _, _, _, _, rfl, Boxed.made _ _ _ _ _ _, (Below.refl _ _).alloc (Nat.le_refl _) _⟩
      case rest =>
        obtain ⟨g, S, E, F, C, rfl, hbx, hbo⟩ := hcut
        have k0 := cell_regrown hbx.c0
        have k1 := cell_regrown hbx.c1
        have k2 := cell_regrown hbx.c2
        have k3 := cell_regrown hbx.c3
        have cG : ∀ d os, Calls Try.prog 14 #[.agg #[.int .i64 S, .int .i64 E, .int .i64 F, .int .i64 C]] (Sort.grow (redrawn wc d) os) fun e w'' => e = .returned (.bool (Cv.good ⟨S, E, F, C⟩)) ∧ ∃ p : Regrown, w'' = Sort.grow (redrawn wc p.d) p.os := fun d os => Calls.regrown_of (good_any S E F C _)
        have cR : ∀ d os, Calls Try.prog 15 #[.int .i64 S, .int .i64 E, .int .i64 F, .int .i64 C] (Sort.grow (redrawn wc d) os) fun e w'' => e = .returned (.bool (Cv.good ⟨S, E, F, C⟩)) ∧ ∃ p : Regrown, w'' = Sort.grow (redrawn wc p.d) p.os := fun d os => Calls.regrown_of ((rgood_any S E F C _).mono fun x w' ⟨h1, h2⟩ => ⟨h1, h2 ▸ Below.refl _ _⟩)
        go_wp2_with fail
        refine wp_region_quiet_below (by kernel_rfl) (by kernel_rfl) ?_
        repeat (any_goals (first | go_big_quiet_step (first | exact cG _ _ | exact cR _ _) | quiet_step (first | exact cG _ _ | exact cR _ _)))
        refine wpQuiet_nil ?_
        intro _ hw'
        obtain ⟨⟨dq, osq⟩, hw''⟩ := hw'
        subst hw''
        have hbq := below_regrown wc dq osq
        obtain ⟨wq, hwq⟩ : ∃ wq : World, wq = Sort.grow (redrawn wc dq) osq := ⟨_, rfl⟩
        rw [← hwq] at hbq ⊢
        clear k0 k1 k2 k3 cG cR hwq
        have hbx2 := hbx.later hbq
        replace hbo := hbo.trans (hbq.mono hbo.size)
        clear hbq hbx
        have hbx3 := hbx2
        obtain ⟨z, d0, d1, d2, d3⟩ := hbx3
        go_upto_region 6 with fail
        go_cut [48, 49, 50] (fun s48 s49 s50 wx => ∃ (b : Nat) (y0 y1 y2 : Int), s48 = .slice (some ⟨b, 0, none⟩) 3 3 ∧ s49 = .int .i64 3 ∧ s50 = .int .i64 0 ∧ Ints wx b [y0, y1, y2] ∧ Boxed wx g S E F C ∧ Below wq.heap.size wq wx)
        case first =>
          go_wp2_with fail
          all_goals
            go_meet
            exact ⟨_, _, _, _, rfl, rfl, rfl, Ints.made _ [_, _, _] _, hbx2.alloc _, (Below.refl _ _).alloc (Nat.le_refl _) _⟩
        case rest =>
          obtain ⟨b, y0, y1, y2, rfl, rfl, rfl, hY, hbx4, hbc⟩ := hcut
          clear z d0 d1 d2 d3 hbx2
          replace hbo := hbo.trans (hbc.mono hbo.size)
          clear hbc
          go_wp2_with fail
          go_loopw [50] (fun v50 wx => ∃ r : Nat, r ≤ 3 ∧ v50 = .int .i64 r ∧ Ints wx b [y0, y1, y2] ∧ Boxed wx g S E F C ∧ Below wo.heap.size wo wx) (fun v50 _ => 3 - (intOf v50).toNat)
          case atStart => exact ⟨0, by omega, rfl, hY, hbx4, hbo⟩
          case round =>
            obtain ⟨r, hr, rfl, hY, hbx5, hbr⟩ := hrel
            by_cases h3 : r < 3
            · have hc := hY.at_ r h3
              obtain ⟨y, hy⟩ : ∃ y, Hid (y = [y0, y1, y2].getD r 0) := ⟨_, rfl⟩
              rw [← hy.out] at hc
              have hbx6 := hbx5
              obtain ⟨z, d0, d1, d2, d3⟩ := hbx6
              obtain ⟨V, hV⟩ : ∃ V, Hid (Cv.val ⟨S, E, F, C⟩ y = V) := ⟨_, rfl⟩
              obtain ⟨X, hX⟩ : ∃ X, Hid (Cv.err ⟨S, E, F, C⟩ y = X) := ⟨_, rfl⟩
              go_wp2_with fail
              refine (rate_any S E F C y _).mono ?_
              rintro x w5 ⟨rfl, hb5⟩
              rw [hV.out, hX.out]
              have hbx7 := hbx5.later hb5
              obtain ⟨z, d0, d1, d2, d3⟩ := hbx7
              go_wp2_with fail
              refine (rrate_any S E F C y _).mono ?_
              rintro x w' ⟨rfl, rfl⟩
              rw [hV.out, hX.out]
              go_wp2_with fail
              go_roundw
              case rel => exact ⟨r + 1, by omega, by go_num, hY.later hb5, hbx5.later hb5, hbr.trans (hb5.mono hbr.size)⟩
              case measure => simp [intOf]; omega
            · obtain rfl : r = 3 := by omega
              go_wp2_with fail
              go_roundw
              case rel => exact ⟨t + 1, by omega, by go_num, hnx.trans (hbr.mono hnx.size), hI.later hbr⟩
              case measure => simp [intOf]; omega
    · obtain rfl : t = 2 := by omega
      go_wp2_with fail
      refine (wakes22_any _).mono ?_
      rintro x w6 ⟨rfl, hb6⟩
      go_wp2_with fail
      go_ret
      exact ⟨rfl, hnx.trans (hb6.mono hnx.size)⟩

theorem walkCurveRates (s e f c h m : Int) (w : World) (_w0 : ∀ n ∈ [s, e, f, c], -9223372036854775808 ≤ n ∧ n ≤ 9223372036854775807) (w1 : (Lit.int .i64 h).wf = true) (w2 : (Lit.int .i64 m).wf = true) :
    Calls Try.prog 3 #[.agg #[.int .i64 s, .int .i64 e, .int .i64 f, .int .i64 c], .int .i64 h, .int .i64 m] w fun e w' => e = .returned (.bool true) ∧ Below w.heap.size w w' :=
  law3 s e f c h m w (bounds_i64 w1) (bounds_i64 w2)
end Go.Proofs.Ytiokcoicipmkmaa
