/- Contracts of sizes and wakes of layer 2, and the walk of the law OctetPuts. Conditions: the arguments fit their kinds. -/
import Derived.Test.YtgklmjallmbdgaaOct4
import Derived.OpenShut
namespace Go.Proofs.Ytgklmjallmbdgaa
open Go.RowKit

theorem sizes_any (k : Int) (w : World) : Calls Try.prog 14 #[.int .i64 k] w fun e w' => e = .returned (.agg #[.int .i64 1, .int .i64 2, .int .i64 4, .int .i64 8, .int .i64 k]) ∧ Below w.heap.size w w' := by
  go_enter Try.func14, Try.ntmps14
  go_wp2
  go_returns
  exact ⟨rfl, (Below.refl _ _).alloc (Nat.le_refl _) _⟩

theorem getN_const : getN ⟨#[120, 2, 1]⟩ 1 2 = 258 := by decide
theorem there_const : there ⟨#[120, 2, 1]⟩ 1 2 = true := by decide
theorem putB_const : putB 258 2 = ⟨#[2, 1]⟩ := by decide +kernel
theorem putB_const3 : putB 1 3 = ⟨#[]⟩ := by decide +kernel

theorem wakes_any (w : World) : Calls Try.prog 17 #[] w fun e w' => e = .returned (.bool true) ∧ Below w.heap.size w w' := by
  go_enter Try.func17, Try.ntmps17
  go_wp2_with fail
  refine (get_any _ _ _ _ (by decide) (by omega)).mono ?_
  rintro e w1 ⟨rfl, hb1⟩
  rw [getN_const, there_const]
  go_wp2_with fail
  refine (put_all 258 _ _ (by decide)).mono ?_
  rintro e w2 ⟨rfl, hb2⟩
  rw [putB_const]
  go_wp2_with fail
  refine (put_all 1 _ _ (by decide)).mono ?_
  rintro e w3 ⟨rfl, hb3⟩
  rw [putB_const3]
  go_wp2_with fail
  go_ret
  exact ⟨rfl, (hb1.trans (hb2.mono hb1.size)).trans (hb3.mono (Nat.le_trans hb1.size hb2.size))⟩

theorem el_any (k : Int) (j : Nat) (hj : j < 5) : ∃ x : Int, ∀ w : World, (Instr.index 23 (.agg #[.int .i64 1, .int .i64 2, .int .i64 4, .int .i64 8, .int .i64 k]) (.int .i64 j)).run Try.prog w = .ok (.int .i64 x) w := by
  match j, hj with
  | 0, _ => exact ⟨1, fun _ => by kernel_rfl⟩
  | 1, _ => exact ⟨2, fun _ => by kernel_rfl⟩
  | 2, _ => exact ⟨4, fun _ => by kernel_rfl⟩
  | 3, _ => exact ⟨8, fun _ => by kernel_rfl⟩
  | 4, _ => exact ⟨k, fun _ => by kernel_rfl⟩

set_option maxHeartbeats 1600000 in
theorem law1 (n : Nat) (k : Int) (w : World) (hn : n < 18446744073709551616) :
    Calls Try.prog 3 #[.int .u64 n, .int .i64 k] w fun e w' => e = .returned (.bool true) ∧ Below w.heap.size w w' := by
  go_enter Try.func3, Try.ntmps3
  go_wp2_with fail
  refine (sizes_any _ _).mono ?_
  rintro e w1 ⟨rfl, hb1⟩
  go_wp2_with fail
  go_loopw [9] (fun v9 wr => ∃ j : Nat, j ≤ 5 ∧ v9 = .int .i64 j ∧ Below w.heap.size w wr) (fun v9 _ => 5 - (intOf v9).toNat)
  case atStart => exact ⟨0, by omega, rfl, hb1⟩
  case round =>
    obtain ⟨j, hj, rfl, hnx⟩ := hrel
    by_cases hlt : j < 5
    · obtain ⟨x, hx⟩ := el_any k j hlt
      go_wp2_with fail
      refine (put_all n x _ hn).mono ?_
      rintro e w2 ⟨rfl, hb2⟩
      go_wp2_with fail
      refine (rput_all n x _ hn).mono ?_
      rintro e w3 ⟨rfl, hb3⟩
      go_wp2_with fail
      go_roundw
      case rel => exact ⟨j + 1, by omega, by go_num, (hnx.trans (hb2.mono hnx.size)).trans (hb3.mono (Nat.le_trans hnx.size hb2.size))⟩
      case measure => simp [intOf]; omega
    · obtain rfl : j = 5 := by omega
      go_wp2_with fail
      refine (wakes_any _).mono ?_
      rintro e w2 ⟨rfl, hb2⟩
      go_wp2_with fail
      go_ret
      exact ⟨rfl, hnx.trans (hb2.mono hnx.size)⟩

theorem walkOctetPuts (a0 a1 : Int) (w : World) (w0 : (Lit.int .u64 a0).wf = true) (_w1 : (Lit.int .i64 a1).wf = true) :
    Calls Try.prog 3 #[.int .u64 a0, .int .i64 a1] w fun e w' => e = .returned (.bool true) ∧ Below w.heap.size w w' := by
  obtain ⟨h0, h1⟩ := bounds_u64 w0
  obtain ⟨n, rfl⟩ := Int.eq_ofNat_of_zero_le h0
  exact law1 n a1 w (by omega)
end Go.Proofs.Ytgklmjallmbdgaa
