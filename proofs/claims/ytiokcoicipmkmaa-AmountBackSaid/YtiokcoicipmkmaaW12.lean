/- The walk of the law AmountBack: it returns true. Conditions: the arguments fit their kinds. -/
import Derived.Test.YtiokcoicipmkmaaRowI
import Derived.Test.YtiokcoicipmkmaaW7
import Derived.Deep.DeepCutAuto
namespace Go.Proofs.Ytiokcoicipmkmaa
open Go.RowKit

def near30 (x : Int) : Int := if 0 < x then x % 70000000000000 else 0
theorem near30_range (x : Int) : 0 ≤ near30 x ∧ near30 x ≤ 69999999999999 := by unfold near30; split <;> omega

/-- what comes back: the first sum less its second is the first -/
theorem back_add {a b : Int} (h : addOk a b = true) : addA a b = a + b ∧ subA (a + b) b = a ∧ subOk (a + b) b = true ∧ (0 ≤ a ∧ a ≤ 2100000000000000) ∧ (0 ≤ b ∧ b ≤ 2100000000000000) := by
  have h1 := h
  simp only [addOk, Bool.and_eq_true] at h1
  have g1 := good_of h1.1.1
  have g2 := good_of h1.1.2
  have k : subOk (a + b) b = true := by simp [subOk, h1.2, h1.1.2]; omega
  refine ⟨by unfold addA; rw [if_pos h], by unfold subA; rw [if_pos k]; omega, k, g1, g2⟩
theorem back_sub {a b : Int} (h : subOk a b = true) : subA a b = a - b ∧ addA (a - b) b = a ∧ addOk (a - b) b = true ∧ (0 ≤ a ∧ a ≤ 2100000000000000) ∧ (0 ≤ b ∧ b ≤ 2100000000000000) := by
  have h1 := h
  simp only [subOk, Bool.and_eq_true, decide_eq_true_eq] at h1
  have g1 := good_of h1.1.1
  have g2 := good_of h1.1.2
  have k : addOk (a - b) b = true := by simp [addOk, goodA]; omega
  refine ⟨by unfold subA; rw [if_pos h], by unfold addA; rw [if_pos k]; omega, k, g1, g2⟩

set_option maxRecDepth 100000 in
set_option maxHeartbeats 12800000 in
theorem law12 (a b : Int) (A : Option Addr) (cap : Nat) (xs : List Int) (w : World) (hcap : xs.length ≤ cap) (hx : Sl w w.heap.size A xs) :
    Calls Try.prog 12 #[.int .i64 a, .int .i64 b, .slice A xs.length cap] w fun e w' => e = .returned (.bool true) ∧ Below w.heap.size w w' := by
  obtain ⟨i0, hi, hz0, hz1, hz2⟩ := info_parts Try.info3
  obtain ⟨ys, hys⟩ : ∃ ys, Hid (ys = (xs.take 30).map near30) := ⟨_, rfl⟩
  go_enter Try.func12, Try.ntmps12
  by_cases ok : addOk a b = true
  · obtain ⟨e1, e2, e3, e4, e5⟩ := back_add ok
    have OK := Lib.hid ok; have E1 := Lib.hid e1; have E2 := Lib.hid e2; have E3 := Lib.hid e3
    clear ok e1 e2 e3
    go_wp2_with fail
    refine (add_any _ _ _).mono ?_
    rintro r w1 ⟨rfl, rfl⟩
    rw [E1.out, OK.out]
    simp only [errA, if_true]
    go_wp2_with fail
    refine (sub_any _ _ _).mono ?_
    rintro r w1 ⟨rfl, rfl⟩
    rw [E2.out, E3.out]
    simp only [errA, if_true]
    clear OK E1 E2 E3
    by_cases ok : subOk a b = true
    · obtain ⟨e1, e2, e3, e4, e5⟩ := back_sub ok
      have OK := Lib.hid ok; have E1 := Lib.hid e1; have E2 := Lib.hid e2; have E3 := Lib.hid e3
      clear ok e1 e2 e3
      go_wp2_with fail
      refine (sub_any _ _ _).mono ?_
      rintro r w1 ⟨rfl, rfl⟩
      rw [E1.out, OK.out]
      simp only [errA, if_true]
      go_wp2_with fail
      refine (add_any _ _ _).mono ?_
      rintro r w1 ⟨rfl, rfl⟩
      rw [E2.out, E3.out]
      simp only [errA, if_true]
      clear OK E1 E2 E3
      obtain ⟨w, rfl⟩ : ∃ w : World, w = w1 := ⟨_, rfl⟩
      go_upto_region 12 with fail
      go_cut [70, 71, 72] (fun s70 s71 s72 wx => s70 = .slice A ys.length cap ∧ s71 = .int .i64 ys.length ∧ s72 = .int .i64 0 ∧ wx = w)
      case first =>
        have hl := hys.out
        have hl2 : ys.length = min 30 xs.length := by rw [hl]; simp
        clear hl
        by_cases h30 : xs.length ≤ 30
        · have hl3 : ys.length = xs.length := by omega
          go_wp2_with fail
          all_goals
            go_meet
            exact ⟨by rw [hl3], by rw [hl3], rfl, rfl⟩
        · have hl3 : ys.length = 30 := by omega
          go_wp2_with fail
          all_goals
            go_meet
            exact ⟨by rw [hl3], by rw [hl3]; rfl, rfl, rfl⟩
      case rest =>
        obtain ⟨rfl, rfl, rfl, rfl⟩ := hcut
        obtain ⟨w, rfl⟩ : ∃ w : World, w = wc := ⟨_, rfl⟩
        have hlen : ys.length ≤ 30 := by rw [hys.out]; simp; omega
        go_wp2_with fail
        go_loopw [15, 72] (fun v15 v72 wr => ∃ k : Nat, k ≤ ys.length ∧ v72 = .int .i64 k ∧ Own wr w.heap.size v15 (ys.take k) ∧ Below w.heap.size w wr) (fun _ v72 _ => ys.length - (intOf v72).toNat)
        case atStart => exact ⟨0, by omega, rfl, World.ownsRow_nil _ _ _ _, Below.refl _ _⟩
        case round =>
          obtain ⟨k, hk, rfl, hown, hnx⟩ := hrel
          by_cases hlt : k < ys.length
          · have hlx : k < xs.length := by have := hys.out; rw [this] at hlt; simp at hlt; omega
            have hy : ys.getD k 0 = near30 (xs.getD k 0) := by rw [hys.out]; rw [hys.out] at hlt; simp at hlt; simp [hlx, hlt]
            have hx2 := hx.later hnx
            obtain ⟨g, o, rfl, hgl, hc⟩ := hx2 (by omega)
            have hcell := hc k hlx
            have hstep := take_getD ys k hlt
            have HY := Lib.hid hy; have HST := Lib.hid hstep
            have hkl : (ys.take k).length = k := by simp; omega
            have HKL := Lib.hid hkl
            clear hc hx2 hy hstep hkl
            generalize xs.getD k 0 = x at *
            by_cases hp : 0 < x
            · have hv : near30 x = x % 70000000000000 := by unfold near30; rw [if_pos hp]
              have HV := Lib.hid hv
              clear hv
              go_wp2_with (at_builtin; refine wpList_append_own _ rfl _ _ 28 rfl w.heap.size 3 i0 (.int .i64 0) 1 8 Try.underlying28 hi hz0 hz1 hz2 rfl (by decide) _ _ _ rfl (hown.alloc _) ⟨wr.heap.size, 0, none⟩ 1 1 [.int .i64 (x % 70000000000000)] rfl rfl (one_cell _ _ _) (one_lit _ _) (by rw [HKL.out]; unfold maxLen; omega) (by rw [HKL.out]; omega) (by have := hnx.size; simp; omega) ?_; intro v1 w1 hown1 hgrow1 _)
              go_roundw
              case rel => exact ⟨k + 1, by omega, by go_num, by rw [HST.out, HY.out, HV.out]; exact Own.step hown1, Own.below hown hnx hnx.size hgrow1⟩
              case measure => simp [intOf]; omega
            · have hv : near30 x = 0 := by unfold near30; rw [if_neg hp]
              have HV := Lib.hid hv
              clear hv
              go_wp2_with (at_builtin; refine wpList_append_own _ rfl _ _ 28 rfl w.heap.size 3 i0 (.int .i64 0) 1 8 Try.underlying28 hi hz0 hz1 hz2 rfl (by decide) _ _ _ rfl (hown.alloc _) ⟨wr.heap.size, 0, none⟩ 1 1 [.int .i64 0] rfl rfl (one_cell _ _ _) (one_lit _ _) (by rw [HKL.out]; unfold maxLen; omega) (by rw [HKL.out]; omega) (by have := hnx.size; simp; omega) ?_; intro v1 w1 hown1 hgrow1 _)
              go_roundw
              case rel => exact ⟨k + 1, by omega, by go_num, by rw [HST.out, HY.out, HV.out]; exact Own.step hown1, Own.below hown hnx hnx.size hgrow1⟩
              case measure => simp [intOf]; omega
          · obtain rfl : k = ys.length := by omega
            rw [List.take_length] at hown
            obtain ⟨wo, rfl⟩ : ∃ wo : World, wo = wr := ⟨_, rfl⟩
            obtain ⟨A1, cap1, rfl, hs1⟩ := Own.slice hown
            clear hown
            replace hx := hx.later hnx
            have hn0 := hnx
            clear hnx
            go_wp2_with fail
            go_loopw [16, 85] (fun v16 v85 wr => ∃ k : Nat, k ≤ ys.length ∧ v85 = .int .i64 k ∧ Own wr wo.heap.size v16 (ys.reverse.take k) ∧ Below wo.heap.size wo wr) (fun _ v85 _ => ys.length - (intOf v85).toNat)
            case atStart => exact ⟨0, by omega, rfl, World.ownsRow_nil _ _ _ _, Below.refl _ _⟩
            case round =>
              obtain ⟨k, hk, rfl, hown, hnx⟩ := hrel
              by_cases hlt : k < ys.length
              · have hy := rev_getD ys k hlt
                have hx2 := hs1.later hnx
                obtain ⟨g, o, rfl, hgl, hc⟩ := hx2 (by omega)
                have hcell := hc (ys.length - 1 - k) (by omega)
                have hstep := take_getD ys.reverse k (by simpa using hlt)
                have HY := Lib.hid hy; have HST := Lib.hid hstep
                have hkl : (ys.reverse.take k).length = k := by simp; omega
                have HKL := Lib.hid hkl
                have hix : ((ys.length : Int) - 1 - k) = ((ys.length - 1 - k : Nat) : Int) := by omega
                clear hc hx2 hy hstep hkl
                generalize ys.getD (ys.length - 1 - k) 0 = x at *
                generalize ys.length - 1 - k = m at *
                go_wp2_with (at_builtin; refine wpList_append_own _ rfl _ _ 28 rfl wo.heap.size 3 i0 (.int .i64 0) 1 8 Try.underlying28 hi hz0 hz1 hz2 rfl (by decide) _ _ _ rfl (hown.alloc _) ⟨wr.heap.size, 0, none⟩ 1 1 [.int .i64 x] rfl rfl (one_cell _ _ _) (one_lit _ _) (by rw [HKL.out]; unfold maxLen; omega) (by rw [HKL.out]; omega) (by have := hnx.size; simp; omega) ?_; intro v1 w1 hown1 hgrow1 _)
                go_roundw
                case rel => exact ⟨k + 1, by omega, by go_num, by rw [HST.out, HY.out]; exact Own.step hown1, Own.below hown hnx hnx.size hgrow1⟩
                case measure => simp [intOf]; omega
              · obtain rfl : k = ys.length := by omega
                rw [show ys.reverse.take ys.length = ys.reverse from by rw [← List.length_reverse, List.take_length]] at hown
                obtain ⟨A2, cap2, rfl, hs2⟩ := Own.slice hown
                rw [List.length_reverse]
                obtain ⟨V, q1, q2, q3, q4⟩ := sum_same ys (by intro y hy; rw [hys.out] at hy; obtain ⟨z, _, rfl⟩ := List.mem_map.1 hy; exact near30_range z) hlen
                have Q1 := Lib.hid q1; have Q2 := Lib.hid q2; have Q3 := Lib.hid q3; have Q4 := Lib.hid q4
                clear q1 q2 q3 q4 hown hx
                replace hs1 := (hs1.later hnx).more hnx.size
                have hn1 := hn0.trans (hnx.mono hn0.size)
                clear hnx hn0
                have c1 := sum_any ys A1 cap1 wr (by omega) hs1
                have c2 := sum_any ys.reverse A2 cap2 wr (by simp; omega) hs2
                rw [List.length_reverse] at c2
                go_wp2_with fail
                refine c1.mono ?_
                rintro r w1 ⟨rfl, rfl⟩
                rw [Q1.out, Q3.out]
                simp only [errA, if_true]
                go_wp2_with fail
                refine c2.mono ?_
                rintro r w1 ⟨rfl, rfl⟩
                rw [Q2.out, Q4.out]
                simp only [errA, if_true]
                go_wp2_with fail
                refine (wakes01_any _).mono ?_
                rintro x w6 ⟨rfl, hb6⟩
                go_wp2_with fail
                go_ret
                exact ⟨rfl, hn1.trans (hb6.mono hn1.size)⟩
    · have ok0 : subOk a b = false := by simpa using ok
      have OK := Lib.hid ok0
      clear ok ok0
      go_wp2_with fail
      refine (sub_any _ _ _).mono ?_
      rintro r w1 ⟨rfl, rfl⟩
      rw [OK.out]
      simp only [errA]
      clear OK
      obtain ⟨w, rfl⟩ : ∃ w : World, w = w1 := ⟨_, rfl⟩
      go_upto_region 12 with fail
      go_cut [70, 71, 72] (fun s70 s71 s72 wx => s70 = .slice A ys.length cap ∧ s71 = .int .i64 ys.length ∧ s72 = .int .i64 0 ∧ wx = w)
      case first =>
        have hl := hys.out
        have hl2 : ys.length = min 30 xs.length := by rw [hl]; simp
        clear hl
        by_cases h30 : xs.length ≤ 30
        · have hl3 : ys.length = xs.length := by omega
          go_wp2_with fail
          all_goals
            go_meet
            exact ⟨by rw [hl3], by rw [hl3], rfl, rfl⟩
        · have hl3 : ys.length = 30 := by omega
          go_wp2_with fail
          all_goals
            go_meet
            exact ⟨by rw [hl3], by rw [hl3]; rfl, rfl, rfl⟩
      case rest =>
        obtain ⟨rfl, rfl, rfl, rfl⟩ := hcut
        obtain ⟨w, rfl⟩ : ∃ w : World, w = wc := ⟨_, rfl⟩
        have hlen : ys.length ≤ 30 := by rw [hys.out]; simp; omega
        go_wp2_with fail
        go_loopw [15, 72] (fun v15 v72 wr => ∃ k : Nat, k ≤ ys.length ∧ v72 = .int .i64 k ∧ Own wr w.heap.size v15 (ys.take k) ∧ Below w.heap.size w wr) (fun _ v72 _ => ys.length - (intOf v72).toNat)
        case atStart => exact ⟨0, by omega, rfl, World.ownsRow_nil _ _ _ _, Below.refl _ _⟩
        case round =>
          obtain ⟨k, hk, rfl, hown, hnx⟩ := hrel
          by_cases hlt : k < ys.length
          · have hlx : k < xs.length := by have := hys.out; rw [this] at hlt; simp at hlt; omega
            have hy : ys.getD k 0 = near30 (xs.getD k 0) := by rw [hys.out]; rw [hys.out] at hlt; simp at hlt; simp [hlx, hlt]
            have hx2 := hx.later hnx
            obtain ⟨g, o, rfl, hgl, hc⟩ := hx2 (by omega)
            have hcell := hc k hlx
            have hstep := take_getD ys k hlt
            have HY := Lib.hid hy; have HST := Lib.hid hstep
            have hkl : (ys.take k).length = k := by simp; omega
            have HKL := Lib.hid hkl
            clear hc hx2 hy hstep hkl
            generalize xs.getD k 0 = x at *
            by_cases hp : 0 < x
            · have hv : near30 x = x % 70000000000000 := by unfold near30; rw [if_pos hp]
              have HV := Lib.hid hv
              clear hv
              go_wp2_with (at_builtin; refine wpList_append_own _ rfl _ _ 28 rfl w.heap.size 3 i0 (.int .i64 0) 1 8 Try.underlying28 hi hz0 hz1 hz2 rfl (by decide) _ _ _ rfl (hown.alloc _) ⟨wr.heap.size, 0, none⟩ 1 1 [.int .i64 (x % 70000000000000)] rfl rfl (one_cell _ _ _) (one_lit _ _) (by rw [HKL.out]; unfold maxLen; omega) (by rw [HKL.out]; omega) (by have := hnx.size; simp; omega) ?_; intro v1 w1 hown1 hgrow1 _)
              go_roundw
              case rel => exact ⟨k + 1, by omega, by go_num, by rw [HST.out, HY.out, HV.out]; exact Own.step hown1, Own.below hown hnx hnx.size hgrow1⟩
              case measure => simp [intOf]; omega
            · have hv : near30 x = 0 := by unfold near30; rw [if_neg hp]
              have HV := Lib.hid hv
              clear hv
              go_wp2_with (at_builtin; refine wpList_append_own _ rfl _ _ 28 rfl w.heap.size 3 i0 (.int .i64 0) 1 8 Try.underlying28 hi hz0 hz1 hz2 rfl (by decide) _ _ _ rfl (hown.alloc _) ⟨wr.heap.size, 0, none⟩ 1 1 [.int .i64 0] rfl rfl (one_cell _ _ _) (one_lit _ _) (by rw [HKL.out]; unfold maxLen; omega) (by rw [HKL.out]; omega) (by have := hnx.size; simp; omega) ?_; intro v1 w1 hown1 hgrow1 _)
              go_roundw
              case rel => exact ⟨k + 1, by omega, by go_num, by rw [HST.out, HY.out, HV.out]; exact Own.step hown1, Own.below hown hnx hnx.size hgrow1⟩
              case measure => simp [intOf]; omega
          · obtain rfl : k = ys.length := by omega
            rw [List.take_length] at hown
            obtain ⟨wo, rfl⟩ : ∃ wo : World, wo = wr := ⟨_, rfl⟩
            obtain ⟨A1, cap1, rfl, hs1⟩ := Own.slice hown
            clear hown
            replace hx := hx.later hnx
            have hn0 := hnx
            clear hnx
            go_wp2_with fail
            go_loopw [16, 85] (fun v16 v85 wr => ∃ k : Nat, k ≤ ys.length ∧ v85 = .int .i64 k ∧ Own wr wo.heap.size v16 (ys.reverse.take k) ∧ Below wo.heap.size wo wr) (fun _ v85 _ => ys.length - (intOf v85).toNat)
            case atStart => exact ⟨0, by omega, rfl, World.ownsRow_nil _ _ _ _, Below.refl _ _⟩
            case round =>
              obtain ⟨k, hk, rfl, hown, hnx⟩ := hrel
              by_cases hlt : k < ys.length
              · have hy := rev_getD ys k hlt
                have hx2 := hs1.later hnx
                obtain ⟨g, o, rfl, hgl, hc⟩ := hx2 (by omega)
                have hcell := hc (ys.length - 1 - k) (by omega)
                have hstep := take_getD ys.reverse k (by simpa using hlt)
                have HY := Lib.hid hy; have HST := Lib.hid hstep
                have hkl : (ys.reverse.take k).length = k := by simp; omega
                have HKL := Lib.hid hkl
                have hix : ((ys.length : Int) - 1 - k) = ((ys.length - 1 - k : Nat) : Int) := by omega
                clear hc hx2 hy hstep hkl
                generalize ys.getD (ys.length - 1 - k) 0 = x at *
                generalize ys.length - 1 - k = m at *
                go_wp2_with (at_builtin; refine wpList_append_own _ rfl _ _ 28 rfl wo.heap.size 3 i0 (.int .i64 0) 1 8 Try.underlying28 hi hz0 hz1 hz2 rfl (by decide) _ _ _ rfl (hown.alloc _) ⟨wr.heap.size, 0, none⟩ 1 1 [.int .i64 x] rfl rfl (one_cell _ _ _) (one_lit _ _) (by rw [HKL.out]; unfold maxLen; omega) (by rw [HKL.out]; omega) (by have := hnx.size; simp; omega) ?_; intro v1 w1 hown1 hgrow1 _)
                go_roundw
                case rel => exact ⟨k + 1, by omega, by go_num, by rw [HST.out, HY.out]; exact Own.step hown1, Own.below hown hnx hnx.size hgrow1⟩
                case measure => simp [intOf]; omega
              · obtain rfl : k = ys.length := by omega
                rw [show ys.reverse.take ys.length = ys.reverse from by rw [← List.length_reverse, List.take_length]] at hown
                obtain ⟨A2, cap2, rfl, hs2⟩ := Own.slice hown
                rw [List.length_reverse]
                obtain ⟨V, q1, q2, q3, q4⟩ := sum_same ys (by intro y hy; rw [hys.out] at hy; obtain ⟨z, _, rfl⟩ := List.mem_map.1 hy; exact near30_range z) hlen
                have Q1 := Lib.hid q1; have Q2 := Lib.hid q2; have Q3 := Lib.hid q3; have Q4 := Lib.hid q4
                clear q1 q2 q3 q4 hown hx
                replace hs1 := (hs1.later hnx).more hnx.size
                have hn1 := hn0.trans (hnx.mono hn0.size)
                clear hnx hn0
                have c1 := sum_any ys A1 cap1 wr (by omega) hs1
                have c2 := sum_any ys.reverse A2 cap2 wr (by simp; omega) hs2
                rw [List.length_reverse] at c2
                go_wp2_with fail
                refine c1.mono ?_
                rintro r w1 ⟨rfl, rfl⟩
                rw [Q1.out, Q3.out]
                simp only [errA, if_true]
                go_wp2_with fail
                refine c2.mono ?_
                rintro r w1 ⟨rfl, rfl⟩
                rw [Q2.out, Q4.out]
                simp only [errA, if_true]
                go_wp2_with fail
                refine (wakes01_any _).mono ?_
                rintro x w6 ⟨rfl, hb6⟩
                go_wp2_with fail
                go_ret
                exact ⟨rfl, hn1.trans (hb6.mono hn1.size)⟩
  · have ok0 : addOk a b = false := by simpa using ok
    have OK := Lib.hid ok0
    clear ok ok0
    go_wp2_with fail
    refine (add_any _ _ _).mono ?_
    rintro r w1 ⟨rfl, rfl⟩
    rw [OK.out]
    simp only [errA]
    clear OK
    by_cases ok : subOk a b = true
    · obtain ⟨e1, e2, e3, e4, e5⟩ := back_sub ok
      have OK := Lib.hid ok; have E1 := Lib.hid e1; have E2 := Lib.hid e2; have E3 := Lib.hid e3
      clear ok e1 e2 e3
      go_wp2_with fail
      refine (sub_any _ _ _).mono ?_
      rintro r w1 ⟨rfl, rfl⟩
      rw [E1.out, OK.out]
      simp only [errA, if_true]
      go_wp2_with fail
      refine (add_any _ _ _).mono ?_
      rintro r w1 ⟨rfl, rfl⟩
      rw [E2.out, E3.out]
      simp only [errA, if_true]
      clear OK E1 E2 E3
      obtain ⟨w, rfl⟩ : ∃ w : World, w = w1 := ⟨_, rfl⟩
      go_upto_region 12 with fail
      go_cut [70, 71, 72] (fun s70 s71 s72 wx => s70 = .slice A ys.length cap ∧ s71 = .int .i64 ys.length ∧ s72 = .int .i64 0 ∧ wx = w)
      case first =>
        have hl := hys.out
        have hl2 : ys.length = min 30 xs.length := by rw [hl]; simp
        clear hl
        by_cases h30 : xs.length ≤ 30
        · have hl3 : ys.length = xs.length := by omega
          go_wp2_with fail
          all_goals
            go_meet
            exact ⟨by rw [hl3], by rw [hl3], rfl, rfl⟩
        · have hl3 : ys.length = 30 := by omega
          go_wp2_with fail
          all_goals
            go_meet
            exact ⟨by rw [hl3], by rw [hl3]; rfl, rfl, rfl⟩
      case rest =>
        obtain ⟨rfl, rfl, rfl, rfl⟩ := hcut
        obtain ⟨w, rfl⟩ : ∃ w : World, w = wc := ⟨_, rfl⟩
        have hlen : ys.length ≤ 30 := by rw [hys.out]; simp; omega
        go_wp2_with fail
        go_loopw [15, 72] (fun v15 v72 wr => ∃ k : Nat, k ≤ ys.length ∧ v72 = .int .i64 k ∧ Own wr w.heap.size v15 (ys.take k) ∧ Below w.heap.size w wr) (fun _ v72 _ => ys.length - (intOf v72).toNat)
        case atStart => exact ⟨0, by omega, rfl, World.ownsRow_nil _ _ _ _, Below.refl _ _⟩
        case round =>
          obtain ⟨k, hk, rfl, hown, hnx⟩ := hrel
          by_cases hlt : k < ys.length
          · have hlx : k < xs.length := by have := hys.out; rw [this] at hlt; simp at hlt; omega
            have hy : ys.getD k 0 = near30 (xs.getD k 0) := by rw [hys.out]; rw [hys.out] at hlt; simp at hlt; simp [hlx, hlt]
            have hx2 := hx.later hnx
            obtain ⟨g, o, rfl, hgl, hc⟩ := hx2 (by omega)
            have hcell := hc k hlx
            have hstep := take_getD ys k hlt
            have HY := Lib.hid hy; have HST := Lib.hid hstep
            have hkl : (ys.take k).length = k := by simp; omega
            have HKL := Lib.hid hkl
            clear hc hx2 hy hstep hkl
            generalize xs.getD k 0 = x at *
            by_cases hp : 0 < x
            · have hv : near30 x = x % 70000000000000 := by unfold near30; rw [if_pos hp]
              have HV := Lib.hid hv
              clear hv
              go_wp2_with (at_builtin; refine wpList_append_own _ rfl _ _ 28 rfl w.heap.size 3 i0 (.int .i64 0) 1 8 Try.underlying28 hi hz0 hz1 hz2 rfl (by decide) _ _ _ rfl (hown.alloc _) ⟨wr.heap.size, 0, none⟩ 1 1 [.int .i64 (x % 70000000000000)] rfl rfl (one_cell _ _ _) (one_lit _ _) (by rw [HKL.out]; unfold maxLen; omega) (by rw [HKL.out]; omega) (by have := hnx.size; simp; omega) ?_; intro v1 w1 hown1 hgrow1 _)
              go_roundw
              case rel => exact ⟨k + 1, by omega, by go_num, by rw [HST.out, HY.out, HV.out]; exact Own.step hown1, Own.below hown hnx hnx.size hgrow1⟩
              case measure => simp [intOf]; omega
            · have hv : near30 x = 0 := by unfold near30; rw [if_neg hp]
              have HV := Lib.hid hv
              clear hv
              go_wp2_with (at_builtin; refine wpList_append_own _ rfl _ _ 28 rfl w.heap.size 3 i0 (.int .i64 0) 1 8 Try.underlying28 hi hz0 hz1 hz2 rfl (by decide) _ _ _ rfl (hown.alloc _) ⟨wr.heap.size, 0, none⟩ 1 1 [.int .i64 0] rfl rfl (one_cell _ _ _) (one_lit _ _) (by rw [HKL.out]; unfold maxLen; omega) (by rw [HKL.out]; omega) (by have := hnx.size; simp; omega) ?_; intro v1 w1 hown1 hgrow1 _)
              go_roundw
              case rel => exact ⟨k + 1, by omega, by go_num, by rw [HST.out, HY.out, HV.out]; exact Own.step hown1, Own.below hown hnx hnx.size hgrow1⟩
              case measure => simp [intOf]; omega
          · obtain rfl : k = ys.length := by omega
            rw [List.take_length] at hown
            obtain ⟨wo, rfl⟩ : ∃ wo : World, wo = wr := ⟨_, rfl⟩
            obtain ⟨A1, cap1, rfl, hs1⟩ := Own.slice hown
            clear hown
            replace hx := hx.later hnx
            have hn0 := hnx
            clear hnx
            go_wp2_with fail
            go_loopw [16, 85] (fun v16 v85 wr => ∃ k : Nat, k ≤ ys.length ∧ v85 = .int .i64 k ∧ Own wr wo.heap.size v16 (ys.reverse.take k) ∧ Below wo.heap.size wo wr) (fun _ v85 _ => ys.length - (intOf v85).toNat)
            case atStart => exact ⟨0, by omega, rfl, World.ownsRow_nil _ _ _ _, Below.refl _ _⟩
            case round =>
              obtain ⟨k, hk, rfl, hown, hnx⟩ := hrel
              by_cases hlt : k < ys.length
              · have hy := rev_getD ys k hlt
                have hx2 := hs1.later hnx
                obtain ⟨g, o, rfl, hgl, hc⟩ := hx2 (by omega)
                have hcell := hc (ys.length - 1 - k) (by omega)
                have hstep := take_getD ys.reverse k (by simpa using hlt)
                have HY := Lib.hid hy; have HST := Lib.hid hstep
                have hkl : (ys.reverse.take k).length = k := by simp; omega
                have HKL := Lib.hid hkl
                have hix : ((ys.length : Int) - 1 - k) = ((ys.length - 1 - k : Nat) : Int) := by omega
                clear hc hx2 hy hstep hkl
                generalize ys.getD (ys.length - 1 - k) 0 = x at *
                generalize ys.length - 1 - k = m at *
                go_wp2_with (at_builtin; refine wpList_append_own _ rfl _ _ 28 rfl wo.heap.size 3 i0 (.int .i64 0) 1 8 Try.underlying28 hi hz0 hz1 hz2 rfl (by decide) _ _ _ rfl (hown.alloc _) ⟨wr.heap.size, 0, none⟩ 1 1 [.int .i64 x] rfl rfl (one_cell _ _ _) (one_lit _ _) (by rw [HKL.out]; unfold maxLen; omega) (by rw [HKL.out]; omega) (by have := hnx.size; simp; omega) ?_; intro v1 w1 hown1 hgrow1 _)
                go_roundw
                case rel => exact ⟨k + 1, by omega, by go_num, by rw [HST.out, HY.out]; exact Own.step hown1, Own.below hown hnx hnx.size hgrow1⟩
                case measure => simp [intOf]; omega
              · obtain rfl : k = ys.length := by omega
                rw [show ys.reverse.take ys.length = ys.reverse from by rw [← List.length_reverse, List.take_length]] at hown
                obtain ⟨A2, cap2, rfl, hs2⟩ := Own.slice hown
                rw [List.length_reverse]
                obtain ⟨V, q1, q2, q3, q4⟩ := sum_same ys (by intro y hy; rw [hys.out] at hy; obtain ⟨z, _, rfl⟩ := List.mem_map.1 hy; exact near30_range z) hlen
                have Q1 := Lib.hid q1; have Q2 := Lib.hid q2; have Q3 := Lib.hid q3; have Q4 := Lib.hid q4
                clear q1 q2 q3 q4 hown hx
                replace hs1 := (hs1.later hnx).more hnx.size
                have hn1 := hn0.trans (hnx.mono hn0.size)
                clear hnx hn0
                have c1 := sum_any ys A1 cap1 wr (by omega) hs1
                have c2 := sum_any ys.reverse A2 cap2 wr (by simp; omega) hs2
                rw [List.length_reverse] at c2
                go_wp2_with fail
                refine c1.mono ?_
                rintro r w1 ⟨rfl, rfl⟩
                rw [Q1.out, Q3.out]
                simp only [errA, if_true]
                go_wp2_with fail
                refine c2.mono ?_
                rintro r w1 ⟨rfl, rfl⟩
                rw [Q2.out, Q4.out]
                simp only [errA, if_true]
                go_wp2_with fail
                refine (wakes01_any _).mono ?_
                rintro x w6 ⟨rfl, hb6⟩
                go_wp2_with fail
                go_ret
                exact ⟨rfl, hn1.trans (hb6.mono hn1.size)⟩
    · have ok0 : subOk a b = false := by simpa using ok
      have OK := Lib.hid ok0
      clear ok ok0
      go_wp2_with fail
      refine (sub_any _ _ _).mono ?_
      rintro r w1 ⟨rfl, rfl⟩
      rw [OK.out]
      simp only [errA]
      clear OK
      obtain ⟨w, rfl⟩ : ∃ w : World, w = w1 := ⟨_, rfl⟩
      go_upto_region 12 with fail
      go_cut [70, 71, 72] (fun s70 s71 s72 wx => s70 = .slice A ys.length cap ∧ s71 = .int .i64 ys.length ∧ s72 = .int .i64 0 ∧ wx = w)
      case first =>
        have hl := hys.out
        have hl2 : ys.length = min 30 xs.length := by rw [hl]; simp
        clear hl
        by_cases h30 : xs.length ≤ 30
        · have hl3 : ys.length = xs.length := by omega
          go_wp2_with fail
          all_goals
            go_meet
            exact ⟨by rw [hl3], by rw [hl3], rfl, rfl⟩
        · have hl3 : ys.length = 30 := by omega
          go_wp2_with fail
          all_goals
            go_meet
            exact ⟨by rw [hl3], by rw [hl3]; rfl, rfl, rfl⟩
      case rest =>
        obtain ⟨rfl, rfl, rfl, rfl⟩ := hcut
        obtain ⟨w, rfl⟩ : ∃ w : World, w = wc := ⟨_, rfl⟩
        have hlen : ys.length ≤ 30 := by rw [hys.out]; simp; omega
        go_wp2_with fail
        go_loopw [15, 72] (fun v15 v72 wr => ∃ k : Nat, k ≤ ys.length ∧ v72 = .int .i64 k ∧ Own wr w.heap.size v15 (ys.take k) ∧ Below w.heap.size w wr) (fun _ v72 _ => ys.length - (intOf v72).toNat)
        case atStart => exact ⟨0, by omega, rfl, World.ownsRow_nil _ _ _ _, Below.refl _ _⟩
        case round =>
          obtain ⟨k, hk, rfl, hown, hnx⟩ := hrel
          by_cases hlt : k < ys.length
          · have hlx : k < xs.length := by have := hys.out; rw [this] at hlt; simp at hlt; omega
            have hy : ys.getD k 0 = near30 (xs.getD k 0) := by rw [hys.out]; rw [hys.out] at hlt; simp at hlt; simp [hlx, hlt]
            have hx2 := hx.later hnx
            obtain ⟨g, o, rfl, hgl, hc⟩ := hx2 (by omega)
            have hcell := hc k hlx
            have hstep := take_getD ys k hlt
            have HY := Lib.hid hy; have HST := Lib.hid hstep
            have hkl : (ys.take k).length = k := by simp; omega
            have HKL := Lib.hid hkl
            clear hc hx2 hy hstep hkl
            generalize xs.getD k 0 = x at *
            by_cases hp : 0 < x
            · have hv : near30 x = x % 70000000000000 := by unfold near30; rw [if_pos hp]
              have HV := Lib.hid hv
              clear hv
              go_wp2_with (at_builtin; refine wpList_append_own _ rfl _ _ 28 rfl w.heap.size 3 i0 (.int .i64 0) 1 8 Try.underlying28 hi hz0 hz1 hz2 rfl (by decide) _ _ _ rfl (hown.alloc _) ⟨wr.heap.size, 0, none⟩ 1 1 [.int .i64 (x % 70000000000000)] rfl rfl (one_cell _ _ _) (one_lit _ _) (by rw [HKL.out]; unfold maxLen; omega) (by rw [HKL.out]; omega) (by have := hnx.size; simp; omega) ?_; intro v1 w1 hown1 hgrow1 _)
              go_roundw
              case rel => exact ⟨k + 1, by omega, by go_num, by rw [HST.out, HY.out, HV.out]; exact Own.step hown1, Own.below hown hnx hnx.size hgrow1⟩
              case measure => simp [intOf]; omega
            · have hv : near30 x = 0 := by unfold near30; rw [if_neg hp]
              have HV := Lib.hid hv
              clear hv
              go_wp2_with (at_builtin; refine wpList_append_own _ rfl _ _ 28 rfl w.heap.size 3 i0 (.int .i64 0) 1 8 Try.underlying28 hi hz0 hz1 hz2 rfl (by decide) _ _ _ rfl (hown.alloc _) ⟨wr.heap.size, 0, none⟩ 1 1 [.int .i64 0] rfl rfl (one_cell _ _ _) (one_lit _ _) (by rw [HKL.out]; unfold maxLen; omega) (by rw [HKL.out]; omega) (by have := hnx.size; simp; omega) ?_; intro v1 w1 hown1 hgrow1 _)
              go_roundw
              case rel => exact ⟨k + 1, by omega, by go_num, by rw [HST.out, HY.out, HV.out]; exact Own.step hown1, Own.below hown hnx hnx.size hgrow1⟩
              case measure => simp [intOf]; omega
          · obtain rfl : k = ys.length := by omega
            rw [List.take_length] at hown
            obtain ⟨wo, rfl⟩ : ∃ wo : World, wo = wr := ⟨_, rfl⟩
            obtain ⟨A1, cap1, rfl, hs1⟩ := Own.slice hown
            clear hown
            replace hx := hx.later hnx
            have hn0 := hnx
            clear hnx
            go_wp2_with fail
            go_loopw [16, 85] (fun v16 v85 wr => ∃ k : Nat, k ≤ ys.length ∧ v85 = .int .i64 k ∧ Own wr wo.heap.size v16 (ys.reverse.take k) ∧ Below wo.heap.size wo wr) (fun _ v85 _ => ys.length - (intOf v85).toNat)
            case atStart => exact ⟨0, by omega, rfl, World.ownsRow_nil _ _ _ _, Below.refl _ _⟩
            case round =>
              obtain ⟨k, hk, rfl, hown, hnx⟩ := hrel
              by_cases hlt : k < ys.length
              · have hy := rev_getD ys k hlt
                have hx2 := hs1.later hnx
                obtain ⟨g, o, rfl, hgl, hc⟩ := hx2 (by omega)
                have hcell := hc (ys.length - 1 - k) (by omega)
                have hstep := take_getD ys.reverse k (by simpa using hlt)
                have HY := Lib.hid hy; have HST := Lib.hid hstep
                have hkl : (ys.reverse.take k).length = k := by simp; omega
                have HKL := Lib.hid hkl
                have hix : ((ys.length : Int) - 1 - k) = ((ys.length - 1 - k : Nat) : Int) := by omega
                clear hc hx2 hy hstep hkl
                generalize ys.getD (ys.length - 1 - k) 0 = x at *
                generalize ys.length - 1 - k = m at *
                go_wp2_with (at_builtin; refine wpList_append_own _ rfl _ _ 28 rfl wo.heap.size 3 i0 (.int .i64 0) 1 8 Try.underlying28 hi hz0 hz1 hz2 rfl (by decide) _ _ _ rfl (hown.alloc _) ⟨wr.heap.size, 0, none⟩ 1 1 [.int .i64 x] rfl rfl (one_cell _ _ _) (one_lit _ _) (by rw [HKL.out]; unfold maxLen; omega) (by rw [HKL.out]; omega) (by have := hnx.size; simp; omega) ?_; intro v1 w1 hown1 hgrow1 _)
                go_roundw
                case rel => exact ⟨k + 1, by omega, by go_num, by rw [HST.out, HY.out]; exact Own.step hown1, Own.below hown hnx hnx.size hgrow1⟩
                case measure => simp [intOf]; omega
              · obtain rfl : k = ys.length := by omega
                rw [show ys.reverse.take ys.length = ys.reverse from by rw [← List.length_reverse, List.take_length]] at hown
                obtain ⟨A2, cap2, rfl, hs2⟩ := Own.slice hown
                rw [List.length_reverse]
                obtain ⟨V, q1, q2, q3, q4⟩ := sum_same ys (by intro y hy; rw [hys.out] at hy; obtain ⟨z, _, rfl⟩ := List.mem_map.1 hy; exact near30_range z) hlen
                have Q1 := Lib.hid q1; have Q2 := Lib.hid q2; have Q3 := Lib.hid q3; have Q4 := Lib.hid q4
                clear q1 q2 q3 q4 hown hx
                replace hs1 := (hs1.later hnx).more hnx.size
                have hn1 := hn0.trans (hnx.mono hn0.size)
                clear hnx hn0
                have c1 := sum_any ys A1 cap1 wr (by omega) hs1
                have c2 := sum_any ys.reverse A2 cap2 wr (by simp; omega) hs2
                rw [List.length_reverse] at c2
                go_wp2_with fail
                refine c1.mono ?_
                rintro r w1 ⟨rfl, rfl⟩
                rw [Q1.out, Q3.out]
                simp only [errA, if_true]
                go_wp2_with fail
                refine c2.mono ?_
                rintro r w1 ⟨rfl, rfl⟩
                rw [Q2.out, Q4.out]
                simp only [errA, if_true]
                go_wp2_with fail
                refine (wakes01_any _).mono ?_
                rintro x w6 ⟨rfl, hb6⟩
                go_wp2_with fail
                go_ret
                exact ⟨rfl, hn1.trans (hb6.mono hn1.size)⟩

theorem walkAmountBack (a b : Int) (A : Option Addr) (cap : Nat) (xs : List Int) (w : World) (_ : (Lit.int .i64 a).wf = true) (_ : (Lit.int .i64 b).wf = true) (hcap : xs.length ≤ cap) (hx : Sl w w.heap.size A xs) :
    Calls Try.prog 12 #[.int .i64 a, .int .i64 b, .slice A xs.length cap] w fun e w' => e = .returned (.bool true) ∧ Below w.heap.size w w' :=
  law12 a b A cap xs w hcap hx
end Go.Proofs.Ytiokcoicipmkmaa
