/- The walk of the law AmountFees: it returns true. Conditions: the arguments fit their kinds. -/
import Derived.Test.YtiokcoicipmkmaaAmt2
import Derived.Test.YtiokcoicipmkmaaRow
namespace Go.Proofs.Ytiokcoicipmkmaa
open Go.RowKit

theorem most_range (n : Int) : -2100000000000000 ≤ mostA n ∧ mostA n ≤ 2100000000000000 := by
  unfold mostA
  have h1 := Int.tmod_lt_of_pos n (show (0 : Int) < 2100000000000001 by omega)
  have h2 := Int.lt_tmod_of_pos n (show (0 : Int) < 2100000000000001 by omega)
  omega

set_option maxRecDepth 100000 in
set_option maxHeartbeats 6400000 in
theorem law7 (r0 f0 s0 : Int) (w : World) (_hr : -9223372036854775808 ≤ r0 ∧ r0 ≤ 9223372036854775807) (hf : -9223372036854775808 ≤ f0 ∧ f0 ≤ 9223372036854775807) (_hs : -9223372036854775808 ≤ s0 ∧ s0 ≤ 9223372036854775807) :
    Calls Try.prog 7 #[.int .i64 r0, .int .i64 f0, .int .i64 s0] w fun e w' => e = .returned (.bool true) ∧ Below w.heap.size w w' := by
  have hm := most_range f0
  go_enter Try.func7, Try.ntmps7
  go_upto_region 1 with fail
  go_cut [25, 26, 27] (fun s25 s26 s27 wx => ∃ (b : Nat) (y0 y1 : Int), s25 = .slice (some ⟨b, 0, none⟩) 2 2 ∧ s26 = .int .i64 2 ∧ s27 = .int .i64 0 ∧ Ints wx b [y0, y1] ∧ Below w.heap.size w wx)
  case first =>
    go_wp2_with fail
    all_goals
      go_meet
      exact ⟨_, _, _, rfl, rfl, rfl, Ints.made _ [_, _] _, (Below.refl _ _).alloc (Nat.le_refl _) _⟩
  case rest =>
    obtain ⟨b, y0, y1, rfl, rfl, rfl, hI, hb⟩ := hcut
    go_wp2_with fail
    go_loopw [27] (fun v27 wx => ∃ t : Nat, t ≤ 2 ∧ v27 = .int .i64 t ∧ Ints wx b [y0, y1] ∧ Below w.heap.size w wx) (fun v27 _ => 2 - (intOf v27).toNat)
    case atStart => exact ⟨0, by omega, rfl, hI, hb⟩
    case round =>
      obtain ⟨t, ht, rfl, hI, hnx⟩ := hrel
      obtain ⟨wo, rfl⟩ : ∃ wo : World, wo = wr := ⟨_, rfl⟩
      by_cases hlt : t < 2
      · have hc := hI.at_ t hlt
        obtain ⟨S, hS⟩ : ∃ S, Hid (S = [y0, y1].getD t 0) := ⟨_, rfl⟩
        rw [← hS.out] at hc
        go_upto_region 4 with fail
        go_cut [8, 35, 36, 37] (fun s8 s35 s36 s37 wx => ∃ (g : Nat) (z0 z1 : Int), s8 = .int .i64 S ∧ s35 = .slice (some ⟨g, 0, none⟩) 2 2 ∧ s36 = .int .i64 2 ∧ s37 = .int .i64 0 ∧ Ints wx g [z0, z1] ∧ Below wo.heap.size wo wx)
        case first =>
          go_wp2_with fail
          all_goals
            go_meet
            exact ⟨_, _, _, rfl, rfl, rfl, rfl, Ints.made _ [_, _] _, (Below.refl _ _).alloc (Nat.le_refl _) _⟩
        case rest =>
          obtain ⟨g, z0, z1, rfl, rfl, rfl, rfl, hJ, hbo⟩ := hcut
          go_wp2_with fail
          go_loopw [37] (fun v37 wx => ∃ u : Nat, u ≤ 2 ∧ v37 = .int .i64 u ∧ Ints wx g [z0, z1] ∧ Below wo.heap.size wo wx) (fun v37 _ => 2 - (intOf v37).toNat)
          case atStart => exact ⟨0, by omega, rfl, hJ, hbo⟩
          case round =>
            obtain ⟨u, hu, rfl, hJ, hbo⟩ := hrel
            by_cases hul : u < 2
            · have hd := hJ.at_ u hul
              obtain ⟨R, hR⟩ : ∃ R, Hid (R = [z0, z1].getD u 0) := ⟨_, rfl⟩
              rw [← hR.out] at hd
              obtain ⟨V, hV⟩ : ∃ V, Hid (feeA R S = V) := ⟨_, rfl⟩
              obtain ⟨X, hX⟩ : ∃ X, Hid (errA (feeOk R S) = X) := ⟨_, rfl⟩
              go_wp2_with fail
              refine (fee_any _ _ _).mono ?_
              rintro r w' ⟨rfl, rfl⟩
              rw [hV.out, hX.out]
              go_wp2_with fail
              refine (rfee_any _ _ _).mono ?_
              rintro r w' ⟨rfl, rfl⟩
              rw [hV.out, hX.out]
              go_wp2_with fail
              go_roundw
              case rel => exact ⟨u + 1, by omega, by go_num, hJ, hbo⟩
              case measure => simp [intOf]; omega
            · obtain rfl : u = 2 := by omega
              go_upto_region 12 with fail
              obtain ⟨wi, rfl⟩ : ∃ wi : World, wi = wr := ⟨_, rfl⟩
              go_cut [66, 67, 68] (fun s66 s67 s68 wx => ∃ (g : Nat) (z0 z1 : Int), s66 = .slice (some ⟨g, 0, none⟩) 2 2 ∧ s67 = .int .i64 2 ∧ s68 = .int .i64 0 ∧ Ints wx g [z0, z1] ∧ Below wi.heap.size wi wx)
              case first =>
                go_wp2_with (go_at_call 22; refine (most_any f0 _ hf).mono ?_; rintro r w' ⟨rfl, rfl⟩)
                all_goals
                  go_meet
                  exact ⟨_, _, _, rfl, rfl, rfl, Ints.made _ [_, _] _, (Below.refl _ _).alloc (Nat.le_refl _) _⟩
              case rest =>
                obtain ⟨g2, q0, q1, rfl, rfl, rfl, hK, hbi⟩ := hcut
                replace hbo := hbo.trans (hbi.mono hbo.size)
                clear hbi hJ
                go_wp2_with fail
                go_loopw [68] (fun v68 wx => ∃ u : Nat, u ≤ 2 ∧ v68 = .int .i64 u ∧ Ints wx g2 [q0, q1] ∧ Below wo.heap.size wo wx) (fun v68 _ => 2 - (intOf v68).toNat)
                case atStart => exact ⟨0, by omega, rfl, hK, hbo⟩
                case round =>
                  obtain ⟨u, hu, rfl, hK, hbo⟩ := hrel
                  by_cases hul : u < 2
                  · have hd := hK.at_ u hul
                    obtain ⟨R, hR⟩ : ∃ R, Hid (R = [q0, q1].getD u 0) := ⟨_, rfl⟩
                    rw [← hR.out] at hd
                    obtain ⟨V, hV⟩ : ∃ V, Hid (rateA R S = V) := ⟨_, rfl⟩
                    obtain ⟨X, hX⟩ : ∃ X, Hid (errA (pricedA R S) = X) := ⟨_, rfl⟩
                    go_wp2_with fail
                    refine (arate_any _ _ _).mono ?_
                    rintro r w' ⟨rfl, rfl⟩
                    rw [hV.out, hX.out]
                    go_wp2_with fail
                    refine (rarate_any _ _ _).mono ?_
                    rintro r w' ⟨rfl, rfl⟩
                    rw [hV.out, hX.out]
                    go_wp2_with fail
                    go_roundw
                    case rel => ((repeat apply Exists.intro); exact ⟨⟨u + 1, by omega, by go_num, hK, hbo⟩, rfl⟩)
                    case measure => simp [intOf]; omega
                  · obtain rfl : u = 2 := by omega
                    go_wp2_with fail
                    go_roundw
                    case rel => exact ⟨t + 1, by omega, by go_num, hI.later hbo, hnx.trans (hbo.mono hnx.size)⟩
                    case measure => simp [intOf]; omega
      · obtain rfl : t = 2 := by omega
        go_wp2_with fail
        refine (wakes01_any _).mono ?_
        rintro x w6 ⟨rfl, hb6⟩
        go_wp2_with fail
        go_ret
        exact ⟨rfl, hnx.trans (hb6.mono hnx.size)⟩

theorem walkAmountFees (r f s : Int) (w : World) (w0 : (Lit.int .i64 r).wf = true) (w1 : (Lit.int .i64 f).wf = true) (w2 : (Lit.int .i64 s).wf = true) :
    Calls Try.prog 7 #[.int .i64 r, .int .i64 f, .int .i64 s] w fun e w' => e = .returned (.bool true) ∧ Below w.heap.size w w' :=
  law7 r f s w (bounds_i64 w0) (bounds_i64 w1) (bounds_i64 w2)
end Go.Proofs.Ytiokcoicipmkmaa
