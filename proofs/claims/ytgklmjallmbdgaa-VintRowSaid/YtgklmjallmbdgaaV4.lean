/- What kedgelaw03.wakes says: it returns true. Conditions: none. -/
import Derived.Test.YtgklmjallmbdgaaV3
namespace Go.Proofs.Ytgklmjallmbdgaa
open Go.RowKit

theorem c31a : vN ⟨#[253, 253, 0]⟩ 0 = 253 ∧ vT ⟨#[253, 253, 0]⟩ 0 = 3 ∧ vE ⟨#[253, 253, 0]⟩ 0 = 0 := by decide +kernel
theorem c31b : vN ⟨#[253, 252, 0]⟩ 0 = 0 ∧ vT ⟨#[253, 252, 0]⟩ 0 = 0 ∧ vE ⟨#[253, 252, 0]⟩ 0 = 4 := by decide +kernel
theorem c31c : vPut 252 = ⟨#[252]⟩ := by decide +kernel
theorem c31d : vPut 253 = ⟨#[253, 253, 0]⟩ := by decide +kernel

set_option maxRecDepth 20000 in
theorem vwakes_any (w : World) : Calls Try.prog 31 #[] w fun e w' => e = .returned (.bool true) ∧ Below w.heap.size w w' := by
  go_enter Try.func31, Try.ntmps31
  go_wp2_with fail
  refine (vget_any _ _ _ (by decide) (by omega)).mono ?_
  rintro e w1 ⟨rfl, hb1⟩
  rw [c31a.1, c31a.2.1, c31a.2.2]
  go_wp2_with fail
  refine (vget_any _ _ _ (by decide) (by omega)).mono ?_
  rintro e w2 ⟨rfl, hb2⟩
  rw [c31b.1, c31b.2.1, c31b.2.2]
  replace hb2 := hb1.trans (hb2.mono hb1.size); clear hb1
  go_wp2_with fail
  refine (vput_any 252 _ (by decide)).mono ?_
  rintro e w3 ⟨rfl, hb3⟩
  rw [c31c]
  replace hb3 := hb2.trans (hb3.mono hb2.size); clear hb2
  go_wp2_with fail
  refine (vput_any 253 _ (by decide)).mono ?_
  rintro e w4 ⟨rfl, hb4⟩
  rw [c31d]
  replace hb4 := hb3.trans (hb4.mono hb3.size); clear hb3
  go_wp2_with fail
  go_ret
  exact ⟨rfl, hb4⟩

set_option maxRecDepth 20000 in
set_option maxHeartbeats 1600000 in
theorem law10 (n : Nat) (p q : ByteArray) (w : World) (hn : n < 18446744073709551616) (hp : p.size ≤ 140737488351232) (hq : q.size ≤ 140737488351232) :
    Calls Try.prog 10 #[.int .u64 n, .string p, .string q] w fun e w' => e = .returned (.bool true) ∧ Below w.heap.size w w' := by
  have hput : ∀ wx, Calls Try.prog 29 #[.int .u64 n] wx fun e w' => e = .returned (.string (vPut n)) ∧ Below wx.heap.size wx w' := fun wx => vput_any n wx hn
  have hrput : ∀ wx, Calls Try.prog 32 #[.int .u64 n] wx fun e w' => e = .returned (.string (vPut n)) ∧ Below wx.heap.size wx w' := fun wx => rvput_any n wx hn
  have m1 := mid_E p q hn
  have m2 := mid_N p q hn
  have m3 := mid_T p q hn
  have hz : (vPut n).size ≤ 9 := by rw [vPut_size]; have := vk_cases n; omega
  obtain ⟨X, hX⟩ : ∃ X, vPut n = X := ⟨_, rfl⟩
  rw [hX] at hput hrput m1 m2 m3 hz
  clear hX
  obtain ⟨N, hN⟩ : ∃ N : Int, N = n := ⟨_, rfl⟩
  rw [← hN] at hput hrput ⊢
  obtain ⟨S1, hS1⟩ : ∃ S1, S1 = p ++ X := ⟨_, rfl⟩
  obtain ⟨S2, hS2⟩ : ∃ S2, S2 = S1 ++ q := ⟨_, rfl⟩
  have z1 : S1.size = p.size + X.size := by rw [hS1, size_append]
  have z2 : S2.size ≤ 562949953421312 := by rw [hS2, size_append, z1]; omega
  have j1 := fun wx => run_string_add_sum (P := Try.prog) wx p X (by omega)
  have j2 := fun wx => run_string_add_sum (P := Try.prog) wx S1 q (by rw [z1]; omega)
  rw [← hS1] at j1 m1 m2 m3
  rw [← hS2] at j2 m1 m2 m3
  clear hS1 hS2 z1
  have hget : ∀ wx, Calls Try.prog 30 #[.string S2, .int .i64 p.size] wx fun e w' => e = .returned (.tuple #[.int .u64 N, .int .i64 ((p.size : Int) + X.size), .int .i64 0]) ∧ Below wx.heap.size wx w' := by
    intro wx
    have h := vget_any S2 p.size wx z2 (by omega)
    rw [m1, m2, m3, ← hN, Int.natCast_add] at h
    exact h
  have HG := Lib.hid hget
  have HP := Lib.hid hput
  have HR := Lib.hid hrput
  clear hget hput hrput m1 m2 m3 hN z2
  go_enter Try.func10, Try.ntmps10
  go_wp2_with fail
  refine (HP.out _).mono ?_
  rintro r w1 ⟨rfl, hb1⟩
  go_wp2_with fail
  refine (HG.out _).mono ?_
  rintro r w2 ⟨rfl, hb2⟩
  replace hb2 := hb1.trans (hb2.mono hb1.size); clear hb1
  go_wp2_with fail
  refine (vwakes_any _).mono ?_
  rintro r w3 ⟨rfl, hb3⟩
  replace hb3 := hb2.trans (hb3.mono hb2.size); clear hb2
  go_wp2_with fail
  refine (HR.out _).mono ?_
  rintro r w4 ⟨rfl, hb4⟩
  replace hb4 := hb3.trans (hb4.mono hb3.size); clear hb3
  go_wp2_with fail
  go_ret
  exact ⟨rfl, hb4⟩

theorem walkVintPuts (a0 : Int) (a1 a2 : ByteArray) (w : World) (w0 : (Lit.int .u64 a0).wf = true) (w1 : a1.size ≤ 140737488351232) (w2 : a2.size ≤ 140737488351232) :
    Calls Try.prog 10 #[.int .u64 a0, .string a1, .string a2] w fun e w' => e = .returned (.bool true) ∧ Below w.heap.size w w' := by
  obtain ⟨h0, h1⟩ := bounds_u64 w0
  obtain ⟨n, rfl⟩ := Int.eq_ofNat_of_zero_le h0
  exact law10 n a1 a2 w (by omega) w1 w2
end Go.Proofs.Ytgklmjallmbdgaa
