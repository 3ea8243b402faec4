/- Contract of kedgeref03.Get at every text and place: it returns vN, vT and vE. Conditions: the text is not longer than twice the reach of a row. -/
import Derived.Test.YtgklmjallmbdgaaV2
namespace Go.Proofs.Ytgklmjallmbdgaa
open Go.RowKit

theorem ret_int3 {a d b e c f : Int} (h1 : d = a) (h2 : e = b) (h3 : f = c) : Ending.returned (.tuple #[.int .u64 a, .int .i64 b, .int .i64 c]) = .returned (.tuple #[.int .u64 d, .int .i64 e, .int .i64 f]) := by rw [h1, h2, h3]
theorem fk_int (n : Nat) : ((fk n : Nat) : Int) = if (n : Int) = 255 then 8 else if (n : Int) = 254 then 4 else if (n : Int) = 253 then 2 else 0 := by
  by_cases h1 : n = 255
  · subst h1; rfl
  · by_cases h2 : n = 254
    · subst h2; rfl
    · by_cases h3 : n = 253
      · subst h3; rfl
      · unfold fk
        rw [if_neg h1, if_neg h2, if_neg h3, if_neg (by omega), if_neg (by omega), if_neg (by omega)]; rfl

set_option maxRecDepth 100000 in
set_option maxHeartbeats 1600000 in
theorem rvget_any (s : ByteArray) (i : Int) (w : World) (hs : s.size ≤ 140737488351232) (hi : -9223372036854775808 ≤ i ∧ i ≤ 9223372036854775807) :
    Calls Try.prog 33 #[.string s, .int .i64 i] w fun e w' => e = .returned (.tuple #[.int .u64 (vN s i), .int .i64 (vT s i), .int .i64 (vE s i)]) ∧ Below w.heap.size w w' := by
  by_cases h1 : i < 0 ∨ (s.size : Int) < i
  · obtain ⟨e1, e2, e3⟩ := vE_out h1
    rw [e1, e2, e3]
    clear e1 e2 e3
    rcases h1 with h1 | h1
    · go_enter Try.func33, Try.ntmps33
      go_wp2_with fail
      go_ret3
      exact ⟨rfl, Below.refl _ _⟩
    · go_enter Try.func33, Try.ntmps33
      go_wp2_with fail
      all_goals
        go_ret3
        exact ⟨rfl, Below.refl _ _⟩
  · by_cases h2 : i = s.size
    · obtain ⟨e1, e2, e3⟩ := vE_short (s := s) (i := i) (by omega) (by omega) (.inl h2)
      rw [e1, e2, e3]
      subst h2
      clear e1 e2 e3 h1
      go_enter Try.func33, Try.ntmps33
      go_wp2_with fail
      go_ret3
      exact ⟨rfl, Below.refl _ _⟩
    · have h0 : 0 ≤ i := by omega
      have hlt : i < s.size := by omega
      clear h1 h2
      obtain ⟨B, hB, hB0, hB1⟩ : ∃ B : Int, Hid (B = fb s i.toNat) ∧ 0 ≤ B ∧ B ≤ 255 := ⟨_, rfl, by omega, by have := fb_lt s i.toNat; omega⟩
      obtain ⟨K, hK, hK0, hK1⟩ : ∃ K : Int, Hid (K = fk (fb s i.toNat)) ∧ 0 ≤ K ∧ K ≤ 8 := ⟨_, rfl, by omega, by have := fk_cases (fb s i.toNat); omega⟩
      obtain ⟨R, hR, hR1⟩ : ∃ R : Nat, Hid (R = raw s i.toNat) ∧ R < 18446744073709551616 := ⟨_, rfl, raw_lt _ _⟩
      obtain ⟨S, hS⟩ : ∃ S, Hid (S = vPut R) := ⟨_, rfl⟩
      obtain ⟨V, hV, hV0, hV1⟩ : ∃ V : Int, Hid (V = vk R) ∧ 0 ≤ V ∧ V ≤ 8 := ⟨_, rfl, by omega, by have := vk_cases R; omega⟩
      have hb : ∀ h, (((s[i.toNat]'h).toNat : Nat) : Int) = B := by intro h; rw [hB.out, fb_eq]
      have hput : ∀ wx, Calls Try.prog 32 #[.int .u64 R] wx fun e w' => e = .returned (.string S) ∧ Below wx.heap.size wx w' := by intro wx; rw [hS.out]; exact rvput_any R wx hR1
      have HP := Lib.hid hput
      clear hput hR1
      have hK' : K = if B = 255 then 8 else if B = 254 then 4 else if B = 253 then 2 else 0 := by rw [hK.out, hB.out]; exact fk_int _
      obtain ⟨K1, hK1'⟩ : ∃ K1 : Int, Hid (K1 = if B = 253 then 2 else 0) := ⟨_, rfl⟩
      obtain ⟨K2, hK2'⟩ : ∃ K2 : Int, Hid (K2 = if B = 254 then 4 else K1) := ⟨_, rfl⟩
      have hK3' : Hid (K = if B = 255 then 8 else K2) := by rw [hK2'.out, hK1'.out]; exact hK'
      clear hK'
      go_enter Try.func33, Try.ntmps33
      go_upto_if 25 with fail
      go_cut [7] (fun s7 wx => s7 = .int .i64 K1 ∧ wx = w)
      case first =>
        by_cases g1 : B = 253
        · have hk := hK1'.out
          rw [if_pos g1] at hk
          subst hk
          subst g1
          go_wp2_with fail
          all_goals
            go_meet
            exact ⟨rfl, rfl⟩
        · have hk := hK1'.out
          rw [if_neg g1] at hk
          subst hk
          go_wp2_with fail
          all_goals
            go_meet
            exact ⟨rfl, rfl⟩
      case rest =>
      obtain ⟨rfl, rfl⟩ := hcut
      clear hK1'
      go_upto_if 29 with fail
      go_cut [7] (fun s7 wx => s7 = .int .i64 K2 ∧ wx = wc)
      case first =>
        by_cases g1 : B = 254
        · have hk := hK2'.out
          rw [if_pos g1] at hk
          subst hk
          subst g1
          go_wp2_with fail
          all_goals
            go_meet
            exact ⟨rfl, rfl⟩
        · have hk := hK2'.out
          rw [if_neg g1] at hk
          subst hk
          go_wp2_with fail
          all_goals
            go_meet
            exact ⟨rfl, rfl⟩
      case rest =>
      obtain ⟨rfl, rfl⟩ := hcut
      clear hK2'
      go_upto_if 33 with fail
      go_cut [7] (fun s7 wx => s7 = .int .i64 K ∧ wx = wc)
      case first =>
        by_cases g1 : B = 255
        · have hk := hK3'.out
          rw [if_pos g1] at hk
          subst hk
          subst g1
          go_wp2_with fail
          all_goals
            go_meet
            exact ⟨rfl, rfl⟩
        · have hk := hK3'.out
          rw [if_neg g1] at hk
          subst hk
          go_wp2_with fail
          all_goals
            go_meet
            exact ⟨rfl, rfl⟩
      case rest =>
        clear hK3'
        obtain ⟨rfl, rfl⟩ := hcut
        by_cases h6 : i + 1 + K ≤ s.size
        · have hcmp : (S.toList == (s.extract i.toNat (i + 1 + K).toNat).toList) = decide (V = K) := by
            rw [eqB, decide_eq_decide, hS.out, hR.out, show (i + 1 + K).toNat = i.toNat + 1 + fk (fb s i.toNat) from by have := hK.out; omega, raw_iff (by have := hK.out; omega)]
            have := hK.out
            have := hV.out
            rw [hR.out] at this
            omega
          have HC := Lib.hid hcmp
          clear hcmp
          by_cases h3 : K = 0
          · have hRB : (R : Int) = B := by rw [hR.out, hB.out]; unfold raw; rw [if_pos (by have := hK.out; omega)]
            have HRB := Lib.hid hRB
            clear hRB
            by_cases h4 : V = K
            · skip
              have HE := Lib.hid (vE_ok (s := s) (i := i) h0 (by have := hK.out; omega) (by have := hK.out; have := hV.out; rw [hR.out] at this; omega))
              have hc := HC.out
              rw [decide_eq_true (by omega)] at hc
              subst h3
              rw [Int.add_zero] at hc
              go_wp2_with fail
              rw [← HRB.out]
              refine (HP.out _).mono ?_
              rintro r w3 ⟨rfl, hb3⟩
              go_wp2_with fail
              go_ret3
              obtain ⟨e1, e2, e3⟩ := HE.out
              exact ⟨ret_int3 (by rw [e2, ← hR.out]) (by rw [e3, ← hK.out]; omega) e1, hb3⟩
            · skip
              have HE := Lib.hid (vE_form (s := s) (i := i) h0 (by have := hK.out; omega) (by have := hK.out; have := hV.out; rw [hR.out] at this; omega))
              have hc := HC.out
              rw [decide_eq_false (by omega)] at hc
              subst h3
              rw [Int.add_zero] at hc
              go_wp2_with fail
              rw [← HRB.out]
              refine (HP.out _).mono ?_
              rintro r w3 ⟨rfl, hb3⟩
              go_wp2_with fail
              go_ret3
              obtain ⟨e1, e2, e3⟩ := HE.out
              exact ⟨ret_int3 (by rw [e2]; rfl) e3 e1, hb3⟩
          · have hT : Hid (R = getN s (i + 1) K) := by rw [Hid, hR.out]; unfold raw; rw [if_neg (by have := hK.out; omega), ← hK.out, Int.toNat_of_nonneg h0]
            have hkn : known K = true := by rw [hK.out]; exact fk_known (by have := hK.out; omega)
            have HKN := Lib.hid hkn
            clear hkn
            have h5 : 0 < K := by omega
            clear h3
            have hget : ∀ wx, Calls Try.prog 19 #[.string s, .int .i64 (i + 1), .int .i64 K] wx fun e w' => e = .returned (.tuple #[.int .u64 R, .bool true]) ∧ Below wx.heap.size wx w' := by
              intro wx
              have h := rget_any s (i + 1) K wx hs (by omega)
              rw [← hT.out, there_yes HKN.out (by omega) (by omega)] at h
              exact h
            have HG := Lib.hid hget
            clear hget
            by_cases h4 : V = K
            · skip
              have HE := Lib.hid (vE_ok (s := s) (i := i) h0 (by have := hK.out; omega) (by have := hK.out; have := hV.out; rw [hR.out] at this; omega))
              have hc := HC.out
              rw [decide_eq_true (by omega)] at hc
              go_wp2_with fail
              refine (HG.out _).mono ?_
              rintro r w2 ⟨rfl, hb2⟩
              go_wp2_with fail
              refine (HP.out _).mono ?_
              rintro r w3 ⟨rfl, hb3⟩
              replace hb3 := hb2.trans (hb3.mono hb2.size)
              go_wp2_with fail
              go_ret3
              obtain ⟨e1, e2, e3⟩ := HE.out
              exact ⟨ret_int3 (by rw [e2, ← hR.out]) (by rw [e3, ← hK.out]) e1, hb3⟩
            · skip
              have HE := Lib.hid (vE_form (s := s) (i := i) h0 (by have := hK.out; omega) (by have := hK.out; have := hV.out; rw [hR.out] at this; omega))
              have hc := HC.out
              rw [decide_eq_false (by omega)] at hc
              go_wp2_with fail
              refine (HG.out _).mono ?_
              rintro r w2 ⟨rfl, hb2⟩
              go_wp2_with fail
              refine (HP.out _).mono ?_
              rintro r w3 ⟨rfl, hb3⟩
              replace hb3 := hb2.trans (hb3.mono hb2.size)
              go_wp2_with fail
              go_ret3
              obtain ⟨e1, e2, e3⟩ := HE.out
              exact ⟨ret_int3 (by rw [e2]; rfl) e3 e1, hb3⟩
        · have HE := Lib.hid (vE_short (s := s) (i := i) h0 (by omega) (.inr (by have := hK.out; omega)))
          go_wp2_with fail
          go_ret3
          obtain ⟨e1, e2, e3⟩ := HE.out
          exact ⟨ret_int3 (by rw [e2]; rfl) e3 e1, Below.refl _ _⟩
end Go.Proofs.Ytgklmjallmbdgaa
