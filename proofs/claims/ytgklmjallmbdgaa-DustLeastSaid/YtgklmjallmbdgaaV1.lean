/- Contracts of vint.Put, kedgeref03.Put and vint.size: they return what the plain functions vPut and fk say. Conditions: the number is one of 64 bits. -/
import Derived.Test.YtgklmjallmbdgaaVPlain
namespace Go.Proofs.Ytgklmjallmbdgaa
open Go.RowKit

theorem vh_2 {n : Nat} (h1 : 253 ≤ n) (h2 : n < 65536) : vh n = 253 ∧ vk n = 2 := by unfold vh vk; rw [if_neg (by omega), if_pos h2, if_neg (by omega), if_pos h2]; exact ⟨rfl, rfl⟩
theorem vh_4 {n : Nat} (h1 : 65536 ≤ n) (h2 : n < 4294967296) : vh n = 254 ∧ vk n = 4 := by unfold vh vk; rw [if_neg (by omega), if_neg (by omega), if_pos h2, if_neg (by omega), if_neg (by omega), if_pos h2]; exact ⟨rfl, rfl⟩
theorem vh_8 {n : Nat} (h1 : 4294967296 ≤ n) : vh n = 255 ∧ vk n = 8 := by unfold vh vk; rw [if_neg (by omega), if_neg (by omega), if_neg (by omega), if_neg (by omega), if_neg (by omega), if_neg (by omega)]; exact ⟨rfl, rfl⟩

theorem puti (N k : Int) (w : World) (h0 : 0 ≤ N) (h1 : N ≤ 18446744073709551615) : Calls Try.prog 15 #[.int .u64 N, .int .i64 k] w fun e w' => e = .returned (.string (putB N.toNat k)) ∧ Below w.heap.size w w' := by
  obtain ⟨n, rfl⟩ := Int.eq_ofNat_of_zero_le h0
  rw [Int.toNat_natCast]
  exact put_all n k w (by omega)
theorem rputi (N k : Int) (w : World) (h0 : 0 ≤ N) (h1 : N ≤ 18446744073709551615) : Calls Try.prog 16 #[.int .u64 N, .int .i64 k] w fun e w' => e = .returned (.string (putB N.toNat k)) ∧ Below w.heap.size w w' := by
  obtain ⟨n, rfl⟩ := Int.eq_ofNat_of_zero_le h0
  rw [Int.toNat_natCast]
  exact rput_all n k w (by omega)
theorem one_253 : putB (253 : Nat) 1 = ⟨#[253]⟩ := by decide +kernel
theorem one_254 : putB (254 : Nat) 1 = ⟨#[254]⟩ := by decide +kernel
theorem one_255 : putB (255 : Nat) 1 = ⟨#[255]⟩ := by decide +kernel

set_option maxRecDepth 20000 in
set_option maxHeartbeats 800000 in
theorem vputi (N : Int) (w : World) (h0 : 0 ≤ N) (h9 : N ≤ 18446744073709551615) :
    Calls Try.prog 29 #[.int .u64 N] w fun e w' => e = .returned (.string (vPut N.toNat)) ∧ Below w.heap.size w w' := by
  by_cases h1 : N ≤ 252
  · skip
    have j : Hid (putB N.toNat 1 = vPut N.toNat) := vPut_one (by omega)
    go_enter Try.func29, Try.ntmps29
    go_wp2_with fail
    refine (puti N 1 _ h0 h9).mono ?_
    rintro r w1 ⟨rfl, hb1⟩
    go_wp2_with fail
    go_ret
    exact ⟨ret_str j.out, hb1⟩
  · by_cases h2 : N ≤ 65535
    · skip
      have j : Hid (putB (253 : Int).toNat 1 ++ putB N.toNat 2 = vPut N.toNat) := by have := vPut_more (n := N.toNat) (by omega); rw [(vh_2 (n := N.toNat) (by omega) (by omega)).1, (vh_2 (n := N.toNat) (by omega) (by omega)).2] at this; exact this
      go_enter Try.func29, Try.ntmps29
      go_wp2_with fail
      refine (puti 253 1 _ (by omega) (by omega)).mono ?_
      rintro r w0 ⟨rfl, hb0⟩
      go_wp2_with fail
      refine (puti N 2 _ h0 h9).mono ?_
      rintro r w1 ⟨rfl, hb1⟩
      replace hb1 := hb0.trans (hb1.mono hb0.size)
      go_wp2_with fail
      go_ret
      exact ⟨ret_str j.out, hb1⟩
    · by_cases h3 : N ≤ 4294967295
      · skip
        have j : Hid (putB (254 : Int).toNat 1 ++ putB N.toNat 4 = vPut N.toNat) := by have := vPut_more (n := N.toNat) (by omega); rw [(vh_4 (n := N.toNat) (by omega) (by omega)).1, (vh_4 (n := N.toNat) (by omega) (by omega)).2] at this; exact this
        go_enter Try.func29, Try.ntmps29
        go_wp2_with fail
        refine (puti 254 1 _ (by omega) (by omega)).mono ?_
        rintro r w0 ⟨rfl, hb0⟩
        go_wp2_with fail
        refine (puti N 4 _ h0 h9).mono ?_
        rintro r w1 ⟨rfl, hb1⟩
        replace hb1 := hb0.trans (hb1.mono hb0.size)
        go_wp2_with fail
        go_ret
        exact ⟨ret_str j.out, hb1⟩
      · skip
        have j : Hid (putB (255 : Int).toNat 1 ++ putB N.toNat 8 = vPut N.toNat) := by have := vPut_more (n := N.toNat) (by omega); rw [(vh_8 (n := N.toNat) (by omega)).1, (vh_8 (n := N.toNat) (by omega)).2] at this; exact this
        go_enter Try.func29, Try.ntmps29
        go_wp2_with fail
        refine (puti 255 1 _ (by omega) (by omega)).mono ?_
        rintro r w0 ⟨rfl, hb0⟩
        go_wp2_with fail
        refine (puti N 8 _ h0 h9).mono ?_
        rintro r w1 ⟨rfl, hb1⟩
        replace hb1 := hb0.trans (hb1.mono hb0.size)
        go_wp2_with fail
        go_ret
        exact ⟨ret_str j.out, hb1⟩

set_option maxRecDepth 20000 in
set_option maxHeartbeats 800000 in
theorem rvputi (N : Int) (w : World) (h0 : 0 ≤ N) (h9 : N ≤ 18446744073709551615) :
    Calls Try.prog 32 #[.int .u64 N] w fun e w' => e = .returned (.string (vPut N.toNat)) ∧ Below w.heap.size w w' := by
  by_cases h1 : N ≤ 252
  · skip
    have j : Hid (putB N.toNat 1 = vPut N.toNat) := vPut_one (by omega)
    go_enter Try.func32, Try.ntmps32
    go_wp2_with fail
    refine (rputi N 1 _ h0 h9).mono ?_
    rintro r w1 ⟨rfl, hb1⟩
    go_wp2_with fail
    go_ret
    exact ⟨ret_str j.out, hb1⟩
  · by_cases h2 : N ≤ 65535
    · skip
      have j : Hid ((⟨#[253]⟩ : ByteArray) ++ putB N.toNat 2 = vPut N.toNat) := by have := vPut_more (n := N.toNat) (by omega); rw [(vh_2 (n := N.toNat) (by omega) (by omega)).1, (vh_2 (n := N.toNat) (by omega) (by omega)).2] at this; rw [one_253] at this; exact this
      go_enter Try.func32, Try.ntmps32
      go_wp2_with fail
      refine (rputi N 2 _ h0 h9).mono ?_
      rintro r w1 ⟨rfl, hb1⟩
      go_wp2_with fail
      go_ret
      exact ⟨ret_str j.out, hb1⟩
    · by_cases h3 : N ≤ 4294967295
      · skip
        have j : Hid ((⟨#[254]⟩ : ByteArray) ++ putB N.toNat 4 = vPut N.toNat) := by have := vPut_more (n := N.toNat) (by omega); rw [(vh_4 (n := N.toNat) (by omega) (by omega)).1, (vh_4 (n := N.toNat) (by omega) (by omega)).2] at this; rw [one_254] at this; exact this
        go_enter Try.func32, Try.ntmps32
        go_wp2_with fail
        refine (rputi N 4 _ h0 h9).mono ?_
        rintro r w1 ⟨rfl, hb1⟩
        go_wp2_with fail
        go_ret
        exact ⟨ret_str j.out, hb1⟩
      · skip
        have j : Hid ((⟨#[255]⟩ : ByteArray) ++ putB N.toNat 8 = vPut N.toNat) := by have := vPut_more (n := N.toNat) (by omega); rw [(vh_8 (n := N.toNat) (by omega)).1, (vh_8 (n := N.toNat) (by omega)).2] at this; rw [one_255] at this; exact this
        go_enter Try.func32, Try.ntmps32
        go_wp2_with fail
        refine (rputi N 8 _ h0 h9).mono ?_
        rintro r w1 ⟨rfl, hb1⟩
        go_wp2_with fail
        go_ret
        exact ⟨ret_str j.out, hb1⟩

theorem vput_any (n : Nat) (w : World) (hn : n < 18446744073709551616) :
    Calls Try.prog 29 #[.int .u64 n] w fun e w' => e = .returned (.string (vPut n)) ∧ Below w.heap.size w w' := by
  have h := vputi n w (by omega) (by omega)
  rwa [Int.toNat_natCast] at h
theorem rvput_any (n : Nat) (w : World) (hn : n < 18446744073709551616) :
    Calls Try.prog 32 #[.int .u64 n] w fun e w' => e = .returned (.string (vPut n)) ∧ Below w.heap.size w w' := by
  have h := rvputi n w (by omega) (by omega)
  rwa [Int.toNat_natCast] at h

theorem fki (N : Int) (w : World) (h0 : 0 ≤ N) :
    Calls Try.prog 38 #[.int .u8 N] w fun e w' => e = .returned (.int .i64 (fk N.toNat : Nat)) ∧ w' = w := by
  by_cases h1 : N = 255
  · subst h1
    go_enter Try.func38, Try.ntmps38
    go_wp2_with fail
    go_ret
    exact ⟨rfl, rfl⟩
  · by_cases h2 : N = 254
    · subst h2
      go_enter Try.func38, Try.ntmps38
      go_wp2_with fail
      go_ret
      exact ⟨rfl, rfl⟩
    · by_cases h3 : N = 253
      · subst h3
        go_enter Try.func38, Try.ntmps38
        go_wp2_with fail
        go_ret
        exact ⟨rfl, rfl⟩
      · have e : fk N.toNat = 0 := by unfold fk; rw [if_neg (by omega), if_neg (by omega), if_neg (by omega)]
        rw [e]
        clear e
        go_enter Try.func38, Try.ntmps38
        go_wp2_with fail
        go_ret
        exact ⟨rfl, rfl⟩
theorem vsize_any (b : Nat) (w : World) :
    Calls Try.prog 38 #[.int .u8 b] w fun e w' => e = .returned (.int .i64 (fk b : Nat)) ∧ w' = w := by
  have h := fki b w (by omega)
  rwa [Int.toNat_natCast] at h
end Go.Proofs.Ytgklmjallmbdgaa

