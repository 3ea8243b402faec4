/- Contract of the reference Compare: it returns what the plain function says. Conditions: none. -/
import Derived.Test.YtiokcoicipmkmaaCmp
namespace Go.Proofs.Ytiokcoicipmkmaa
open Go.RowKit

theorem parts_any (a b : Int) (w : World) (ha : 0 ≤ a ∧ a ≤ 2100000000000000) (hb : 0 ≤ b ∧ b ≤ 1000000) :
    Calls Try.prog 43 #[.int .i64 a, .int .i64 b] w fun e w' => e = .returned (.tuple #[.int .i64 (a * b / 1000000), .int .i64 (a * b % 1000000)]) ∧ w' = w := by
  obtain ⟨p1, p2⟩ := parts_eq a b
  rw [← p1, ← p2]
  have m1 := mul_bound (a := a % 1000000) (b := b) (A := 1000000) (B := 1000000) (by omega) (by omega) hb.1 hb.2
  have m2 := mul_bound (a := a / 1000000) (b := b) (A := 2100000000) (B := 1000000) (by omega) (by omega) hb.1 hb.2
  clear p1 p2
  obtain ⟨a0, a1⟩ := ha
  obtain ⟨b0, b1⟩ := hb
  obtain ⟨m10, m11⟩ := m1
  obtain ⟨m20, m21⟩ := m2
  go_enter Try.func43, Try.ntmps43
  go_wp2
  go_ret2
  exact ⟨rfl, rfl⟩

theorem sgn3_lt {x y : Int} (h : x < y) : sgn3 x y = -1 := by unfold sgn3; rw [if_pos h]
theorem sgn3_gt {x y : Int} (h : y < x) : sgn3 x y = 1 := by unfold sgn3; rw [if_neg (by omega), if_pos h]
theorem sgn3_eq {x y : Int} (h : x = y) : sgn3 x y = 0 := by subst h; simp [sgn3]

set_option maxHeartbeats 1600000 in
theorem rcompare_any (f s o i : Int) (w : World) : Calls Try.prog 27 #[.int .i64 f, .int .i64 s, .int .i64 o, .int .i64 i] w fun e w' => e = .returned (.int .i64 (cmpA f s o i)) ∧ w' = w := by
  cases hf : goodA f with
  | false =>
    have e : cmpA f s o i = 0 := by simp [cmpA, pricedA, hf]
    rw [e]
    cases ho : goodA o
    all_goals
      have HF := Lib.hid hf
      have HO := Lib.hid ho
      clear hf ho e
      go_enter Try.func27, Try.ntmps27
      go_wp2_with fail
      refine (rgoodA_any _ _).mono ?_
      rintro r w' ⟨rfl, rfl⟩
      rw [HF.out]
      go_wp2_with fail
      refine (rgoodA_any _ _).mono ?_
      rintro r w' ⟨rfl, rfl⟩
      rw [HO.out]
      go_wp2_with fail
      go_ret
      exact ⟨rfl, rfl⟩
  | true =>
    cases ho : goodA o with
    | false =>
      have e : cmpA f s o i = 0 := by simp [cmpA, pricedA, ho]
      rw [e]
      have HF := Lib.hid hf
      have HO := Lib.hid ho
      clear hf ho e
      go_enter Try.func27, Try.ntmps27
      go_wp2_with fail
      refine (rgoodA_any _ _).mono ?_
      rintro r w' ⟨rfl, rfl⟩
      rw [HF.out]
      go_wp2_with fail
      refine (rgoodA_any _ _).mono ?_
      rintro r w' ⟨rfl, rfl⟩
      rw [HO.out]
      go_wp2_with fail
      go_ret
      exact ⟨rfl, rfl⟩
    | true =>
      obtain ⟨f0, f1⟩ := good_of hf
      obtain ⟨o0, o1⟩ := good_of ho
      by_cases hsz : (0 < s ∧ s ≤ 1000000) ∧ (0 < i ∧ i ≤ 1000000)
      · have e : cmpA f s o i = sgn3 (f * i) (o * s) := by simp [cmpA, pricedA, hf, ho, sizedA, hsz]
        rw [e]
        obtain ⟨⟨s0, s1⟩, i0, i1⟩ := hsz
        have L1 := lex_div (f * i) (o * s) 1000000 (by omega)
        have L2 := lex_div (o * s) (f * i) 1000000 (by omega)
        obtain ⟨A, hA⟩ : ∃ A, Hid (A = f * i / 1000000) := ⟨_, rfl⟩
        obtain ⟨B, hB⟩ : ∃ B, Hid (B = f * i % 1000000) := ⟨_, rfl⟩
        obtain ⟨C, hC⟩ : ∃ C, Hid (C = o * s / 1000000) := ⟨_, rfl⟩
        obtain ⟨D, hD⟩ : ∃ D, Hid (D = o * s % 1000000) := ⟨_, rfl⟩
        rw [← hA.out, ← hB.out, ← hC.out, ← hD.out] at L1 L2
        obtain ⟨R, hR⟩ : ∃ R, Hid (R = sgn3 (f * i) (o * s)) := ⟨_, rfl⟩
        rw [← hR.out]
        have HF := Lib.hid hf
        have HO := Lib.hid ho
        clear hf ho e
        have K1 : A < C → R = -1 := fun h => by rw [hR.out]; exact sgn3_lt (L1.1 (.inl h))
        have K2 : A = C → B < D → R = -1 := fun h h' => by rw [hR.out]; exact sgn3_lt (L1.1 (.inr ⟨h, h'⟩))
        have K3 : C < A → R = 1 := fun h => by rw [hR.out]; exact sgn3_gt (L2.1 (.inl h))
        have K4 : A = C → D < B → R = 1 := fun h h' => by rw [hR.out]; exact sgn3_gt (L2.1 (.inr ⟨h.symm, h'⟩))
        have K5 : A = C → B = D → R = 0 := fun h h' => by
          rw [hR.out]; refine sgn3_eq ?_
          have := Int.emod_add_mul_ediv (f * i) 1000000
          have := Int.emod_add_mul_ediv (o * s) 1000000
          have := hA.out; have := hB.out; have := hC.out; have := hD.out
          omega
        have K1 := Lib.hid K1; have K2 := Lib.hid K2; have K3 := Lib.hid K3; have K4 := Lib.hid K4; have K5 := Lib.hid K5
        clear L1 L2
        have P1 := fun wx => parts_any f i wx ⟨f0, f1⟩ ⟨by omega, i1⟩
        have P2 := fun wx => parts_any o s wx ⟨o0, o1⟩ ⟨by omega, s1⟩
        rw [← hA.out, ← hB.out] at P1
        rw [← hC.out, ← hD.out] at P2
        have P1 := Lib.hid P1; have P2 := Lib.hid P2
        clear hA hB hC hD hR
        rcases Int.lt_trichotomy A C with h | h | h
        · go_enter Try.func27, Try.ntmps27
          go_wp2_with fail
          refine (rgoodA_any _ _).mono ?_
          rintro r w' ⟨rfl, rfl⟩
          rw [HF.out]
          go_wp2_with fail
          refine (rgoodA_any _ _).mono ?_
          rintro r w' ⟨rfl, rfl⟩
          rw [HO.out]
          go_wp2_with fail
          refine (P1.out _).mono ?_
          rintro r w' ⟨rfl, rfl⟩
          go_wp2_with fail
          refine (P2.out _).mono ?_
          rintro r w' ⟨rfl, rfl⟩
          go_wp2_with fail
          go_ret
          exact ⟨ret_int (K1.out h).symm, rfl⟩
        · subst h
          have hAA : (A == A) = true := by simp
          rcases Int.lt_trichotomy B D with h | h | h
          all_goals
            go_enter Try.func27, Try.ntmps27
            go_wp2_with fail
            refine (rgoodA_any _ _).mono ?_
            rintro r w' ⟨rfl, rfl⟩
            rw [HF.out]
            go_wp2_with fail
            refine (rgoodA_any _ _).mono ?_
            rintro r w' ⟨rfl, rfl⟩
            rw [HO.out]
            go_wp2_with fail
            refine (P1.out _).mono ?_
            rintro r w' ⟨rfl, rfl⟩
            go_wp2_with fail
            refine (P2.out _).mono ?_
            rintro r w' ⟨rfl, rfl⟩
            go_wp2_with fail
            go_ret
          · exact ⟨ret_int (K2.out (by trivial) h).symm, rfl⟩
          · exact ⟨ret_int (K5.out (by trivial) h).symm, rfl⟩
          · exact ⟨ret_int (K4.out (by trivial) h).symm, rfl⟩
        · go_enter Try.func27, Try.ntmps27
          go_wp2_with fail
          refine (rgoodA_any _ _).mono ?_
          rintro r w' ⟨rfl, rfl⟩
          rw [HF.out]
          go_wp2_with fail
          refine (rgoodA_any _ _).mono ?_
          rintro r w' ⟨rfl, rfl⟩
          rw [HO.out]
          go_wp2_with fail
          refine (P1.out _).mono ?_
          rintro r w' ⟨rfl, rfl⟩
          go_wp2_with fail
          refine (P2.out _).mono ?_
          rintro r w' ⟨rfl, rfl⟩
          go_wp2_with fail
          all_goals
            go_ret
            exact ⟨ret_int (K3.out h).symm, rfl⟩
      · have e : cmpA f s o i = 0 := by
          unfold cmpA
          rw [if_neg]
          simp only [pricedA, hf, ho, sizedA, Bool.true_and, Bool.and_eq_true, decide_eq_true_iff]
          exact hsz
        rw [e]
        have HF := Lib.hid hf
        have HO := Lib.hid ho
        clear hf ho e
        have hsz' : s < 1 ∨ (1 ≤ s ∧ i < 1) ∨ (1 ≤ s ∧ 1 ≤ i ∧ 1000000 < s) ∨ (1 ≤ s ∧ 1 ≤ i ∧ s ≤ 1000000 ∧ 1000000 < i) := by omega
        clear hsz
        rcases hsz' with h | ⟨h, h'⟩ | ⟨h, h', h''⟩ | ⟨h, h', h'', h'''⟩
        all_goals
          go_enter Try.func27, Try.ntmps27
          go_wp2_with fail
          refine (rgoodA_any _ _).mono ?_
          rintro r w' ⟨rfl, rfl⟩
          rw [HF.out]
          go_wp2_with fail
          refine (rgoodA_any _ _).mono ?_
          rintro r w' ⟨rfl, rfl⟩
          rw [HO.out]
          go_wp2_with fail
          all_goals
            go_ret
            exact ⟨rfl, rfl⟩
end Go.Proofs.Ytiokcoicipmkmaa
