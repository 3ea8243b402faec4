/- Contracts of Mul64, Compare and Or of the library at the types used, and of amount.Compare. Conditions: none beyond the kinds. -/
import Derived.Test.YtiokcoicipmkmaaAmt
import Derived.Shelf.Bits.Mul64
namespace Go.Proofs.Ytiokcoicipmkmaa
open Go.RowKit

set_option maxHeartbeats 1000000 in
theorem mul64_any (x y : Nat) (hx : x < 18446744073709551616) (hy : y < 18446744073709551616) (w : World) :
    Calls Try.prog 40 #[.int .u64 x, .int .u64 y] w fun e w' => e = .returned (.tuple #[.int .u64 ((x * y / 18446744073709551616 : Nat) : Int), .int .u64 ((x * y % 18446744073709551616 : Nat) : Int)]) ∧ w' = w := by
  obtain ⟨bd, bt, bw, hhi⟩ := Lib.mul64_hi x y hx hy
  have ba := Lib.half_mul_le (a := x / 4294967296) (b := y / 4294967296) (by omega) (by omega)
  have bb := Lib.half_mul_le (a := x / 4294967296) (b := y % 4294967296) (by omega) (by omega)
  have bc := Lib.half_mul_le (a := x % 4294967296) (b := y / 4294967296) (by omega) (by omega)
  have ba' : x / 4294967296 * (y / 4294967296) < 18446744073709551616 := by omega
  have bb' : x / 4294967296 * (y % 4294967296) < 18446744073709551616 := by omega
  have bc' : x % 4294967296 * (y / 4294967296) < 18446744073709551616 := by omega
  have bh1 : x / 4294967296 * (y / 4294967296) + (x / 4294967296 * (y % 4294967296) + x % 4294967296 * (y % 4294967296) / 4294967296) / 4294967296 < 18446744073709551616 := by omega
  have bh : x / 4294967296 * (y / 4294967296) + (x / 4294967296 * (y % 4294967296) + x % 4294967296 * (y % 4294967296) / 4294967296) / 4294967296 + ((x / 4294967296 * (y % 4294967296) + x % 4294967296 * (y % 4294967296) / 4294967296) % 4294967296 + x % 4294967296 * (y / 4294967296)) / 4294967296 < 18446744073709551616 := by omega
  go_enter Try.func40, Try.ntmps40
  go_wp2
  simp only [Mul64.maskN x hx, Mul64.maskN y hy, Mul64.divN, Mul64.mulN, Mul64.addN, Mul64.wrapN _ bd, Mul64.wrapN _ bb', Mul64.wrapN _ bt, Mul64.maskN _ bt, Mul64.wrapN _ bc', Mul64.wrapN _ bw, Mul64.wrapN _ ba', Mul64.wrapN _ bh1, Mul64.wrapN _ bh, Mul64.wrapM (x * y)]
  rw [hhi]
  go_ret2
  exact ⟨rfl, rfl⟩

theorem sgn3_range (a b : Int) : -1 ≤ sgn3 a b ∧ sgn3 a b ≤ 1 := by unfold sgn3; split <;> (try split) <;> omega

theorem ucmp_any (a b : Nat) (w : World) : Calls Try.prog 42 #[.int .u64 a, .int .u64 b] w fun e w' => e = .returned (.int .i64 (sgn3 a b)) ∧ w' = w := by
  by_cases h1 : a < b
  · go_enter Try.func42, Try.ntmps42
    go_wp2
    go_ret
    exact ⟨ret_int (by unfold sgn3; rw [if_pos (by omega)]), rfl⟩
  · by_cases h2 : b < a
    · go_enter Try.func42, Try.ntmps42
      go_wp2
      go_ret
      exact ⟨ret_int (by unfold sgn3; rw [if_neg (by omega), if_pos (by omega)]), rfl⟩
    · go_enter Try.func42, Try.ntmps42
      go_wp2
      go_ret
      exact ⟨ret_int (by unfold sgn3; rw [if_neg (by omega), if_neg (by omega)]), rfl⟩

theorem or_any (a b : Int) (n : Nat) (w : World) (h0 : w.cell? ⟨n, 0, none⟩ = some (.int .i64 a)) (h1 : w.cell? ⟨n, 1, none⟩ = some (.int .i64 b)) :
    Calls Try.prog 41 #[.slice (some ⟨n, 0, none⟩) 2 2] w fun e w' => e = .returned (.int .i64 (if a = 0 then b else a)) ∧ w' = w := by
  by_cases ha : a = 0
  · subst ha
    by_cases hb : b = 0
    · subst hb
      go_enter Try.func41, Try.ntmps41
      go_wp2
      go_rounds 3
      go_ret
      exact ⟨rfl, rfl⟩
    · have hb' : (b != 0) = true := by simp [hb]
      go_enter Try.func41, Try.ntmps41
      go_wp2
      go_rounds 3
      all_goals
        go_ret
        exact ⟨rfl, rfl⟩
  · have ha' : (a != 0) = true := by simp [ha]
    have HA := Lib.hid ha; clear ha
    go_enter Try.func41, Try.ntmps41
    go_wp2
    go_rounds 3
    all_goals
      go_ret
      exact ⟨by first | rfl | exact ret_int (by rw [if_neg HA.out]), rfl⟩

theorem sgn_lex (p q : Nat) : (if sgn3 ((p / 18446744073709551616 : Nat) : Int) ((q / 18446744073709551616 : Nat) : Int) = 0 then sgn3 ((p % 18446744073709551616 : Nat) : Int) ((q % 18446744073709551616 : Nat) : Int) else sgn3 ((p / 18446744073709551616 : Nat) : Int) ((q / 18446744073709551616 : Nat) : Int)) = sgn3 p q := by
  unfold sgn3
  by_cases h1 : (p : Int) < q
  · rw [if_pos h1]
    by_cases h2 : p / 18446744073709551616 < q / 18446744073709551616
    · rw [if_pos (show ((p / 18446744073709551616 : Nat) : Int) < ((q / 18446744073709551616 : Nat) : Int) by omega)]; rfl
    · rw [if_neg (show ¬ ((p / 18446744073709551616 : Nat) : Int) < ((q / 18446744073709551616 : Nat) : Int) by omega), if_neg (show ¬ ((q / 18446744073709551616 : Nat) : Int) < ((p / 18446744073709551616 : Nat) : Int) by omega), if_pos rfl, if_pos (by omega)]
  · rw [if_neg h1]
    by_cases h3 : (q : Int) < p
    · rw [if_pos h3]
      by_cases h2 : q / 18446744073709551616 < p / 18446744073709551616
      · rw [if_neg (show ¬ ((p / 18446744073709551616 : Nat) : Int) < ((q / 18446744073709551616 : Nat) : Int) by omega), if_pos (show ((q / 18446744073709551616 : Nat) : Int) < ((p / 18446744073709551616 : Nat) : Int) by omega)]; rfl
      · rw [if_neg (show ¬ ((p / 18446744073709551616 : Nat) : Int) < ((q / 18446744073709551616 : Nat) : Int) by omega), if_neg (show ¬ ((q / 18446744073709551616 : Nat) : Int) < ((p / 18446744073709551616 : Nat) : Int) by omega), if_pos rfl, if_neg (by omega), if_pos (by omega)]
    · obtain rfl : p = q := by omega
      simp

theorem compare_any (f s o i : Int) (w : World) : Calls Try.prog 26 #[.int .i64 f, .int .i64 s, .int .i64 o, .int .i64 i] w fun e w' => e = .returned (.int .i64 (cmpA f s o i)) ∧ Below w.heap.size w w' := by
  cases h1 : pricedA f s with
  | false =>
    rw [cmpA, h1]
    have H1 := Lib.hid h1; clear h1
    go_enter Try.func26, Try.ntmps26
    go_wp2_with fail
    refine (priced_any _ _ _).mono ?_
    rintro r w' ⟨rfl, rfl⟩
    rw [H1.out]
    go_wp2_with fail
    go_ret
    exact ⟨rfl, Below.refl _ _⟩
  | true =>
    cases h2 : pricedA o i with
    | false =>
      rw [cmpA, h1, h2]
      have H1 := Lib.hid h1; clear h1
      have H2 := Lib.hid h2; clear h2
      go_enter Try.func26, Try.ntmps26
      go_wp2_with fail
      refine (priced_any _ _ _).mono ?_
      rintro r w' ⟨rfl, rfl⟩
      rw [H1.out]
      go_wp2_with fail
      refine (priced_any _ _ _).mono ?_
      rintro r w' ⟨rfl, rfl⟩
      rw [H2.out]
      go_wp2_with fail
      go_ret
      exact ⟨rfl, Below.refl _ _⟩
    | true =>
      have q1 : goodA f = true ∧ sizedA s = true := by simpa [pricedA] using h1
      have q2 : goodA o = true ∧ sizedA i = true := by simpa [pricedA] using h2
      obtain ⟨f0, f1⟩ := good_of q1.1
      obtain ⟨s0, s1⟩ := sized_of q1.2
      obtain ⟨o0, o1⟩ := good_of q2.1
      obtain ⟨i0, i1⟩ := sized_of q2.2
      clear q1 q2
      obtain ⟨F, rfl⟩ := Int.eq_ofNat_of_zero_le f0
      obtain ⟨S, rfl⟩ := Int.eq_ofNat_of_zero_le (show 0 ≤ s by omega)
      obtain ⟨O, rfl⟩ := Int.eq_ofNat_of_zero_le o0
      obtain ⟨I, rfl⟩ := Int.eq_ofNat_of_zero_le (show 0 ≤ i by omega)
      have e : cmpA F S O I = sgn3 ((F * I : Nat) : Int) ((O * S : Nat) : Int) := by rw [cmpA, h1, h2]; simp
      rw [e, ← sgn_lex (F * I) (O * S)]
      clear e
      have H1 := Lib.hid h1; clear h1
      have H2 := Lib.hid h2; clear h2
      obtain ⟨P1, hP1⟩ : ∃ P, Hid (P = F * I) := ⟨_, rfl⟩
      obtain ⟨P2, hP2⟩ : ∃ P, Hid (P = O * S) := ⟨_, rfl⟩
      rw [← hP1.out, ← hP2.out]
      obtain ⟨R1, hR1⟩ : ∃ R, Hid (R = sgn3 ((P1 / 18446744073709551616 : Nat) : Int) ((P2 / 18446744073709551616 : Nat) : Int)) := ⟨_, rfl⟩
      obtain ⟨R2, hR2⟩ : ∃ R, Hid (R = sgn3 ((P1 % 18446744073709551616 : Nat) : Int) ((P2 % 18446744073709551616 : Nat) : Int)) := ⟨_, rfl⟩
      rw [← hR1.out, ← hR2.out]
      go_enter Try.func26, Try.ntmps26
      go_wp2_with fail
      refine (priced_any _ _ _).mono ?_
      rintro r w' ⟨rfl, rfl⟩
      rw [H1.out]
      go_wp2_with fail
      refine (priced_any _ _ _).mono ?_
      rintro r w' ⟨rfl, rfl⟩
      rw [H2.out]
      go_wp2_with fail
      refine (mul64_any F I (by omega) (by omega) _).mono ?_
      rintro r w' ⟨rfl, rfl⟩
      rw [← hP1.out]
      go_wp2_with fail
      refine (mul64_any O S (by omega) (by omega) _).mono ?_
      rintro r w' ⟨rfl, rfl⟩
      rw [← hP2.out]
      go_wp2_with fail
      refine (ucmp_any _ _ _).mono ?_
      rintro r w' ⟨rfl, rfl⟩
      rw [← hR1.out]
      go_wp2_with fail
      rw [show ((P1 : Int) % 18446744073709551616) = ((P1 % 18446744073709551616 : Nat) : Int) from by omega, show ((P2 : Int) % 18446744073709551616) = ((P2 % 18446744073709551616 : Nat) : Int) from by omega]
      refine (ucmp_any _ _ _).mono ?_
      rintro r w' ⟨rfl, rfl⟩
      rw [← hR2.out]
      go_wp2_with fail
      refine (or_any R1 R2 _ _ (by rw [World.cell?_alloc_new]; rfl) (by rw [World.cell?_alloc_new]; rfl)).mono ?_
      rintro r w' ⟨rfl, rfl⟩
      go_wp2_with fail
      all_goals
        go_ret
        exact ⟨rfl, (Below.refl _ _).alloc (Nat.le_refl _) _⟩
end Go.Proofs.Ytiokcoicipmkmaa
