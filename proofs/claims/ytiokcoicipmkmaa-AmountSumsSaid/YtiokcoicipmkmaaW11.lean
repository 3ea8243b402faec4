/- The walk of the law AmountSums: it returns true. Conditions: the arguments fit their kinds. -/
import Derived.Test.YtiokcoicipmkmaaRowI
import Derived.Test.YtiokcoicipmkmaaW7
import Derived.Deep.DeepCutAuto
namespace Go.Proofs.Ytiokcoicipmkmaa
open Go.RowKit

def nearM (x : Int) : Int := if 0 < mostA x then mostA x else 0
theorem good_zero : goodA 0 = true := by decide
theorem sum_two (u v : Int) : sumV [u, v] = addA u v ∧ sumOk [u, v] = addOk u v := by
  have h0 : addOk 0 u = goodA u := by unfold addOk; rw [good_zero]; simp
  unfold sumV sumOk sumA
  simp only [sumFrom, h0, Int.zero_add]
  by_cases g : goodA u = true
  · rw [if_pos g]
    by_cases k : addOk u v = true
    · rw [if_pos k]; unfold addA; rw [if_pos k, k]; exact ⟨rfl, rfl⟩
    · have k' : addOk u v = false := by simpa using k
      rw [if_neg k]; unfold addA; rw [if_neg k, k']; exact ⟨rfl, rfl⟩
  · have k' : addOk u v = false := by unfold addOk; rw [show goodA u = false from by simpa using g]; rfl
    rw [if_neg g]; unfold addA; rw [k']; exact ⟨rfl, rfl⟩

set_option maxRecDepth 100000 in
set_option maxHeartbeats 12800000 in
theorem law11 (a b : Int) (A : Option Addr) (cap : Nat) (xs : List Int) (w : World) (ha : -9223372036854775808 ≤ a ∧ a ≤ 9223372036854775807) (hb : -9223372036854775808 ≤ b ∧ b ≤ 9223372036854775807)
    (hxs : ∀ n ∈ xs, -9223372036854775808 ≤ n ∧ n ≤ 9223372036854775807) (hcap : xs.length ≤ cap) (hx : Sl w w.heap.size A xs) :
    Calls Try.prog 11 #[.slice A xs.length cap, .int .i64 a, .int .i64 b] w fun e w' => e = .returned (.bool true) ∧ Below w.heap.size w w' := by
  obtain ⟨i0, hi, hz0, hz1, hz2⟩ := info_parts Try.info3
  obtain ⟨ps, hps⟩ : ∃ ps, Hid (ps = xs.take 50) := ⟨_, rfl⟩
  obtain ⟨ys, hys⟩ : ∃ ys, Hid (ys = ps.map nearM) := ⟨_, rfl⟩
  have hxp : Sl w w.heap.size A ps := by
    intro h0
    have hl : ps.length = min 50 xs.length := by rw [hps.out]; simp
    obtain ⟨g, o, e, hg, hc⟩ := hx (by omega)
    refine ⟨g, o, e, hg, fun j hj => ?_⟩
    rw [hc j (by omega), hps.out]
    simp [show j < xs.length by omega, show j < 50 by omega]
  have hbp : ∀ k, -9223372036854775808 ≤ ps.getD k 0 ∧ ps.getD k 0 ≤ 9223372036854775807 := by
    intro k
    by_cases hk : k < ps.length
    · refine hxs _ ?_
      have : ps.getD k 0 ∈ ps := by simp [hk]
      rw [hps.out] at this ⊢
      exact List.mem_of_mem_take this
    · rw [show ps.getD k 0 = 0 from by simp [show ps.length ≤ k by omega]]; omega
  have HBP := Lib.hid hbp
  have hlp : ps.length = min 50 xs.length := by rw [hps.out]; simp
  have hly : ys.length = ps.length := by rw [hys.out]; simp
  have HLY := Lib.hid hly
  clear hbp hxs hx hly
  go_enter Try.func11, Try.ntmps11
  go_upto_region 2 with fail
  go_cut [30, 31, 32] (fun s30 s31 s32 wx => s30 = .slice A ps.length cap ∧ s31 = .int .i64 ps.length ∧ s32 = .int .i64 0 ∧ wx = w)
  case first =>
    by_cases h50 : xs.length ≤ 50
    · have hl3 : ps.length = xs.length := by omega
      clear hlp
      go_wp2_with fail
      all_goals
        go_meet
        exact ⟨by rw [hl3], by rw [hl3], rfl, rfl⟩
    · have hl3 : ps.length = 50 := by omega
      clear hlp
      go_wp2_with fail
      all_goals
        go_meet
        exact ⟨by rw [hl3], by rw [hl3]; rfl, rfl, rfl⟩
  case rest =>
    obtain ⟨rfl, rfl, rfl, rfl⟩ := hcut
    obtain ⟨w, rfl⟩ : ∃ w : World, w = wc := ⟨_, rfl⟩
    have HLP := Lib.hid hlp
    have hlen : ps.length ≤ 50 := by omega
    clear hlp
    go_wp2_with fail
    go_loopw [7, 32] (fun v7 v32 wr => ∃ k : Nat, k ≤ ps.length ∧ v32 = .int .i64 k ∧ Own wr w.heap.size v7 (ys.take k) ∧ Below w.heap.size w wr) (fun _ v32 _ => ps.length - (intOf v32).toNat)
    case atStart => exact ⟨0, by omega, rfl, World.ownsRow_nil _ _ _ _, Below.refl _ _⟩
    case round =>
      obtain ⟨k, hk, rfl, hown, hnx⟩ := hrel
      by_cases hlt : k < ps.length
      · have hy : ys.getD k 0 = nearM (ps.getD k 0) := by rw [hys.out]; simp [hlt]
        have hx2 := hxp.later hnx
        obtain ⟨g, o, rfl, hgl, hc⟩ := hx2 (by omega)
        have hcell := hc k hlt
        have hstep := take_getD ys k (by rw [HLY.out]; exact hlt)
        have HY := Lib.hid hy; have HST := Lib.hid hstep
        have hkl : (ys.take k).length = k := by simp; rw [HLY.out]; omega
        have HKL := Lib.hid hkl
        have hbx := HBP.out k
        clear hc hx2 hy hstep hkl
        generalize ps.getD k 0 = x at *
        have hmx := most_any x wr hbx
        obtain ⟨M, hM⟩ : ∃ M, Hid (mostA x = M) := ⟨_, rfl⟩
        rw [hM.out] at hmx
        by_cases hp : 0 < M
        · have hv : nearM x = M := by unfold nearM; rw [hM.out, if_pos hp]
          have HV := Lib.hid hv
          clear hv
          go_wp2_with fail
          refine hmx.mono ?_
          rintro r w1 ⟨rfl, rfl⟩
          go_wp2_with (at_builtin; refine wpList_append_own _ rfl _ _ 28 rfl w.heap.size 3 i0 (.int .i64 0) 1 8 Try.underlying28 hi hz0 hz1 hz2 rfl (by decide) _ _ _ rfl (hown.alloc _) ⟨w1.heap.size, 0, none⟩ 1 1 [.int .i64 M] rfl rfl (one_cell _ _ _) (one_lit _ _) (by rw [HKL.out]; unfold maxLen; omega) (by rw [HKL.out]; omega) (by have := hnx.size; simp; omega) ?_; intro v1 w2 hown1 hgrow1 _)
          go_roundw
          case rel => exact ⟨k + 1, by omega, by go_num, by rw [HST.out, HY.out, HV.out]; exact Own.step hown1, Own.below hown hnx hnx.size hgrow1⟩
          case measure => simp [intOf]; omega
        · have hv : nearM x = 0 := by unfold nearM; rw [hM.out, if_neg hp]
          have HV := Lib.hid hv
          clear hv
          go_wp2_with fail
          refine hmx.mono ?_
          rintro r w1 ⟨rfl, rfl⟩
          go_wp2_with (at_builtin; refine wpList_append_own _ rfl _ _ 28 rfl w.heap.size 3 i0 (.int .i64 0) 1 8 Try.underlying28 hi hz0 hz1 hz2 rfl (by decide) _ _ _ rfl (hown.alloc _) ⟨w1.heap.size, 0, none⟩ 1 1 [.int .i64 0] rfl rfl (one_cell _ _ _) (one_lit _ _) (by rw [HKL.out]; unfold maxLen; omega) (by rw [HKL.out]; omega) (by have := hnx.size; simp; omega) ?_; intro v1 w2 hown1 hgrow1 _)
          go_roundw
          case rel => exact ⟨k + 1, by omega, by go_num, by rw [HST.out, HY.out, HV.out]; exact Own.step hown1, Own.below hown hnx hnx.size hgrow1⟩
          case measure => simp [intOf]; omega
      · obtain rfl : k = ps.length := by omega
        rw [show ys.take ps.length = ys from by rw [← HLY.out, List.take_length]] at hown
        obtain ⟨w1, rfl⟩ : ∃ w1 : World, w1 = wr := ⟨_, rfl⟩
        obtain ⟨A1, cap1, rfl, hs1⟩ := Own.slice hown
        replace hxp := (hxp.later hnx).more hnx.size
        have hn0 := hnx
        clear hnx hown
        obtain ⟨w1, rfl⟩ : ∃ w2 : World, w2 = w1 := ⟨_, rfl⟩
        rw [HLY.out]
        rw [show Sl w1 w1.heap.size A1 ys = Sl w1 w1.heap.size A1 ys from rfl] at hs1
        go_upto_region 7 with fail
        go_cut [49, 50, 51] (fun s49 s50 s51 wx => ∃ g : Nat, s49 = .slice (some ⟨g, 0, none⟩) 2 2 ∧ s50 = .int .i64 2 ∧ s51 = .int .i64 0 ∧ wx.cell? ⟨g, 0, none⟩ = some (.slice A ps.length cap) ∧ wx.cell? ⟨g, 1, none⟩ = some (.slice A1 ps.length cap1) ∧ Below w1.heap.size w1 wx)
        case first =>
          by_cases h50 : xs.length ≤ 50
          · have HL3 : Hid (ps.length = xs.length) := by have := HLP.out; show ps.length = xs.length; omega
            go_wp2_with fail
            all_goals
              go_meet
              exact ⟨_, rfl, rfl, rfl, by rw [HL3.out]; simp [World.cell?_alloc_new], by simp [World.cell?_alloc_new], (Below.refl _ _).alloc (Nat.le_refl _) _⟩
          · have HL3 : Hid (ps.length = 50) := by have := HLP.out; show ps.length = 50; omega
            go_wp2_with fail
            all_goals
              go_meet
              exact ⟨_, rfl, rfl, rfl, by rw [HL3.out]; simp [World.cell?_alloc_new], by simp [World.cell?_alloc_new], (Below.refl _ _).alloc (Nat.le_refl _) _⟩
        case rest =>
          obtain ⟨g, rfl, rfl, rfl, hc0, hc1, hbc⟩ := hcut
          replace hxp := (hxp.later hbc).more hbc.size
          replace hs1 := (hs1.later hbc).more hbc.size
          have hn1 := hn0.trans (hbc.mono hn0.size)
          clear hbc hn0
          obtain ⟨w1, rfl⟩ : ∃ w2 : World, w2 = wc := ⟨_, rfl⟩
          have p1 := sum_any ps A cap w1 (by omega) hxp
          have p2 := rsum_any ps A cap w1 (by omega) hxp
          have p3 := sum_any ys A1 cap1 w1 (by rw [HLY.out]; omega) hs1
          have p4 := rsum_any ys A1 cap1 w1 (by rw [HLY.out]; omega) hs1
          rw [HLY.out] at p3 p4
          obtain ⟨V, hV⟩ : ∃ V, sumV ps = V := ⟨_, rfl⟩
          obtain ⟨X, hX⟩ : ∃ X, errA (sumOk ps) = X := ⟨_, rfl⟩
          obtain ⟨V2, hV2⟩ : ∃ V, sumV ys = V := ⟨_, rfl⟩
          obtain ⟨X2, hX2⟩ : ∃ X, errA (sumOk ys) = X := ⟨_, rfl⟩
          rw [hV, hX] at p1 p2
          rw [hV2, hX2] at p3 p4
          clear hV hX hV2 hX2 hxp hs1
          go_wp2_with fail
          go_loopw [51] (fun v51 wr => ∃ k : Nat, k ≤ 2 ∧ v51 = .int .i64 k ∧ wr = w1) (fun v51 _ => 2 - (intOf v51).toNat)
          case atStart => exact ⟨0, by omega, rfl, rfl⟩
          case round =>
            obtain ⟨k, hk, rfl, rfl⟩ := hrel
            by_cases h0 : k = 0
            · subst h0
              go_wp2_with fail
              refine p1.mono ?_
              rintro r w2 ⟨rfl, rfl⟩
              go_wp2_with fail
              refine p2.mono ?_
              rintro r w2 ⟨rfl, rfl⟩
              go_wp2_with fail
              go_roundw
              case rel => exact ⟨1, by omega, rfl, trivial⟩
              case measure => simp [intOf]
            · by_cases h1 : k = 1
              · subst h1
                go_wp2_with fail
                refine p3.mono ?_
                rintro r w2 ⟨rfl, rfl⟩
                go_wp2_with fail
                refine p4.mono ?_
                rintro r w2 ⟨rfl, rfl⟩
                go_wp2_with fail
                go_roundw
                case rel => exact ⟨2, by omega, rfl, trivial⟩
                case measure => simp [intOf]
              · obtain rfl : k = 2 := by omega
                clear p1 p2 p3 p4 hc0 hc1
                go_upto_region 15 with fail
                obtain ⟨w1, rfl⟩ : ∃ w2 : World, w2 = wr := ⟨_, rfl⟩
                go_cut [89, 90, 91] (fun s89 s90 s91 wx => ∃ (g : Nat) (c d e f : Int), s89 = .slice (some ⟨g, 0, none⟩) 3 3 ∧ s90 = .int .i64 3 ∧ s91 = .int .i64 0 ∧ Ints wx g [a, b, c, d, e, f] ∧ Below w1.heap.size w1 wx)
                case first =>
                  go_wp2_with (go_at_call 22; first | (refine (most_any a _ ha).mono ?_; rintro r w' ⟨rfl, rfl⟩) | (refine (most_any b _ hb).mono ?_; rintro r w' ⟨rfl, rfl⟩))
                  all_goals
                    go_meet
                    exact ⟨_, _, _, _, _, rfl, rfl, rfl, Ints.made _ [_, _, _, _, _, _] _, (Below.refl _ _).alloc (Nat.le_refl _) _⟩
                case rest =>
                  obtain ⟨g2, c, d, e, f, rfl, rfl, rfl, hI, hbc⟩ := hcut
                  have hn2 := hn1.trans (hbc.mono hn1.size)
                  clear hbc hn1
                  go_wp2_with fail
                  go_loopw [91] (fun v91 wx => ∃ u : Nat, u ≤ 3 ∧ v91 = .int .i64 u ∧ Ints wx g2 [a, b, c, d, e, f] ∧ Below w.heap.size w wx) (fun v91 _ => 3 - (intOf v91).toNat)
                  case atStart => exact ⟨0, by omega, rfl, hI, hn2⟩
                  case round =>
                    obtain ⟨u, hu, rfl, hI, hnx⟩ := hrel
                    obtain ⟨wo, rfl⟩ : ∃ wo : World, wo = wr := ⟨_, rfl⟩
                    by_cases hlt : u < 3
                    · have c0 := hI.at_ (u * 2) (by simp; omega)
                      have c1 := hI.at_ (u * 2 + 1) (by simp; omega)
                      obtain ⟨P, hP⟩ : ∃ P, Hid (P = [a, b, c, d, e, f].getD (u * 2) 0) := ⟨_, rfl⟩
                      obtain ⟨Q, hQ⟩ : ∃ Q, Hid (Q = [a, b, c, d, e, f].getD (u * 2 + 1) 0) := ⟨_, rfl⟩
                      rw [← hP.out] at c0
                      rw [← hQ.out] at c1
                      obtain ⟨V1, hV1⟩ : ∃ V, Hid (addA P Q = V) := ⟨_, rfl⟩
                      obtain ⟨X1, hX1⟩ : ∃ X, Hid (errA (addOk P Q) = X) := ⟨_, rfl⟩
                      obtain ⟨V2, hV2⟩ : ∃ V, Hid (subA P Q = V) := ⟨_, rfl⟩
                      obtain ⟨X2, hX2⟩ : ∃ X, Hid (errA (subOk P Q) = X) := ⟨_, rfl⟩
                      go_wp2_with fail
                      refine (add_any _ _ _).mono ?_
                      rintro r w2 ⟨rfl, rfl⟩
                      rw [hV1.out, hX1.out]
                      have hb2 := (Below.refl wo.heap.size wo).alloc (Nat.le_refl _) (.cells #[.int .i64 P, .int .i64 Q] 50)
                      go_wp2_with fail
                      refine (rsum_any [P, Q] (some ⟨wo.heap.size, 0, none⟩) 2 _ (by simp) ?_).mono ?_
                      · intro _
                        refine ⟨wo.heap.size, 0, rfl, by simp, fun j hj => ?_⟩
                        rw [Nat.zero_add]
                        exact (Ints.made wo [P, Q] 50).at_ j hj
                      rintro r w2 ⟨rfl, rfl⟩
                      rw [(sum_two P Q).1, (sum_two P Q).2, hV1.out, hX1.out]
                      go_wp2_with fail
                      refine (sub_any _ _ _).mono ?_
                      rintro r w2 ⟨rfl, rfl⟩
                      rw [hV2.out, hX2.out]
                      go_wp2_with fail
                      refine (rsub_any _ _ _).mono ?_
                      rintro r w2 ⟨rfl, rfl⟩
                      rw [hV2.out, hX2.out]
                      obtain ⟨G, hG⟩ : ∃ G, Hid (goodA P = G) := ⟨_, rfl⟩
                      have q1 : ∀ v, Calls Try.prog 34 #[.int .i64 P] v fun r w' => r = .returned (.bool G) ∧ w' = v := by rw [← hG.out]; exact fun v => agood_any P v
                      have q2 : ∀ v, Calls Try.prog 35 #[.int .i64 P] v fun r w' => r = .returned (.bool G) ∧ w' = v := by rw [← hG.out]; exact fun v => rgoodA_any P v
                      go_wp2_with fail
                      go_quiet (first | (go_at_call 34; exact Calls.quiet_of_same (q1 _)) | (go_at_call 35; exact Calls.quiet_of_same (q2 _)))
                      go_wp2_with fail
                      go_roundw
                      case rel => ((repeat apply Exists.intro); exact ⟨⟨u + 1, by omega, by go_num, hI.later (below_drewN hb2 _), hnx.trans ((below_drewN hb2 _).mono hnx.size)⟩, rfl⟩)
                      case measure => simp [intOf]; omega
                    · obtain rfl : u = 3 := by omega
                      go_wp2_with fail
                      refine (wakes01_any _).mono ?_
                      rintro x w6 ⟨rfl, hb6⟩
                      go_wp2_with fail
                      go_ret
                      exact ⟨rfl, hnx.trans (hb6.mono hnx.size)⟩

theorem walkAmountSums (A : Option Addr) (cap : Nat) (xs : List Int) (a b : Int) (w : World) (hcap : xs.length ≤ cap) (hxs : ∀ n ∈ xs, (Lit.int .i64 n).wf = true) (hx : Sl w w.heap.size A xs) (ha : (Lit.int .i64 a).wf = true) (hb : (Lit.int .i64 b).wf = true) :
    Calls Try.prog 11 #[.slice A xs.length cap, .int .i64 a, .int .i64 b] w fun e w' => e = .returned (.bool true) ∧ Below w.heap.size w w' :=
  law11 a b A cap xs w (bounds_i64 ha) (bounds_i64 hb) (fun n hn => bounds_i64 (hxs n hn)) hcap hx
end Go.Proofs.Ytiokcoicipmkmaa
