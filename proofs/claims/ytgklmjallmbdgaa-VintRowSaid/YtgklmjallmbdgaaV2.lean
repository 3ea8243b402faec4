/- Contracts of vint.Get and kedgeref03.Get at every text and place: they return vN, vT and vE. Conditions: the text is not longer than twice the reach of a row. -/
import Derived.Test.YtgklmjallmbdgaaV1
import Derived.Deep.DeepCutAuto
import Derived.Deep.QuietTactic
import Derived.BigQuiet
namespace Go.Proofs.Ytgklmjallmbdgaa
open Go.RowKit

theorem eqB (a b : ByteArray) : (a.toList == b.toList) = decide (a = b) := by
  rw [ByteArray.toList_eq, ByteArray.toList_eq]
  by_cases h : a = b
  · subst h; simp
  · have h2 : a.data.toList ≠ b.data.toList := fun h3 => h (by
      have h4 := congrArg List.toArray h3
      rw [Array.toArray_toList, Array.toArray_toList] at h4
      exact ByteArray.ext h4)
    rw [beq_eq_false_iff_ne.2 h2, decide_eq_false h]
theorem ret_three {a d : Nat} {b e c f : Int} (h1 : a = d) (h2 : b = e) (h3 : c = f) : Ending.returned (.tuple #[.int .u64 a, .int .i64 b, .int .i64 c]) = .returned (.tuple #[.int .u64 d, .int .i64 e, .int .i64 f]) := by rw [h1, h2, h3]

theorem vE_out {s : ByteArray} {i : Int} (h : i < 0 ∨ (s.size : Int) < i) : vE s i = 2 ∧ vN s i = 0 ∧ vT s i = 0 := by
  have e : vE s i = 2 := by unfold vE; rw [if_pos h]
  unfold vN vT
  rw [e]
  exact ⟨rfl, rfl, rfl⟩
theorem vE_short {s : ByteArray} {i : Int} (h0 : 0 ≤ i) (h1 : i ≤ s.size) (h : i = s.size ∨ (s.size : Int) < i + 1 + fk (fb s i.toNat)) : vE s i = 5 ∧ vN s i = 0 ∧ vT s i = 0 := by
  have e : vE s i = 5 := by
    unfold vE; rw [if_neg (by omega)]
    by_cases h2 : i = s.size
    · rw [if_pos h2]
    · rw [if_neg h2, if_pos (by omega)]
  unfold vN vT
  rw [e]
  exact ⟨rfl, rfl, rfl⟩
theorem vE_form {s : ByteArray} {i : Int} (h0 : 0 ≤ i) (h : i + 1 + fk (fb s i.toNat) ≤ s.size) (hk : vk (raw s i.toNat) ≠ fk (fb s i.toNat)) : vE s i = 4 ∧ vN s i = 0 ∧ vT s i = 0 := by
  have e : vE s i = 4 := by unfold vE; rw [if_neg (by omega), if_neg (by omega), if_neg (by omega), if_neg hk]
  unfold vN vT
  rw [e]
  exact ⟨rfl, rfl, rfl⟩
theorem vE_ok {s : ByteArray} {i : Int} (h0 : 0 ≤ i) (h : i + 1 + fk (fb s i.toNat) ≤ s.size) (hk : vk (raw s i.toNat) = fk (fb s i.toNat)) : vE s i = 0 ∧ vN s i = raw s i.toNat ∧ vT s i = i + 1 + fk (fb s i.toNat) := by
  have e : vE s i = 0 := by unfold vE; rw [if_neg (by omega), if_neg (by omega), if_neg (by omega), if_pos hk]
  unfold vN vT
  rw [e]
  exact ⟨rfl, rfl, rfl⟩

set_option maxRecDepth 20000 in
set_option maxHeartbeats 1600000 in
theorem vget_any (s : ByteArray) (i : Int) (w : World) (hs : s.size ≤ 562949953421312) (hi : -9223372036854775808 ≤ i ∧ i ≤ 9223372036854775807) :
    Calls Try.prog 30 #[.string s, .int .i64 i] w fun e w' => e = .returned (.tuple #[.int .u64 (vN s i), .int .i64 (vT s i), .int .i64 (vE s i)]) ∧ Below w.heap.size w w' := by
  by_cases h1 : i < 0 ∨ (s.size : Int) < i
  · obtain ⟨e1, e2, e3⟩ := vE_out h1
    rw [e1, e2, e3]
    clear e1 e2 e3
    rcases h1 with h1 | h1
    · go_enter Try.func30, Try.ntmps30
      go_wp2_with fail
      go_ret3
      exact ⟨rfl, Below.refl _ _⟩
    · go_enter Try.func30, Try.ntmps30
      go_wp2_with fail
      all_goals
        go_ret3
        exact ⟨rfl, Below.refl _ _⟩
  · by_cases h2 : i = s.size
    · obtain ⟨e1, e2, e3⟩ := vE_short (s := s) (i := i) (by omega) (by omega) (.inl h2)
      rw [e1, e2, e3]
      subst h2
      clear e1 e2 e3 h1
      go_enter Try.func30, Try.ntmps30
      go_wp2_with fail
      go_ret3
      exact ⟨rfl, Below.refl _ _⟩
    · have h0 : 0 ≤ i := by omega
      have hlt : i < s.size := by omega
      clear h1 h2
      obtain ⟨B, hB, hB0, hB1⟩ : ∃ B : Int, Hid (B = fb s i.toNat) ∧ 0 ≤ B ∧ B ≤ 255 := ⟨_, rfl, by omega, by have := fb_lt s i.toNat; omega⟩
      obtain ⟨K, hK, hK0, hK1⟩ : ∃ K : Int, Hid (K = fk (fb s i.toNat)) ∧ 0 ≤ K ∧ K ≤ 8 := ⟨_, rfl, by omega, by have := fk_cases (fb s i.toNat); omega⟩
      obtain ⟨R, hR, hR1⟩ : ∃ R : Nat, Hid (R = raw s i.toNat) ∧ R < 18446744073709551616 := ⟨_, rfl, raw_lt _ _⟩
      obtain ⟨S, hS⟩ : ∃ S, Hid (S = vPut R) := ⟨_, rfl⟩
      obtain ⟨V, hV, hV0, hV1⟩ : ∃ V : Int, Hid (V = vk R) ∧ 0 ≤ V ∧ V ≤ 8 := ⟨_, rfl, by omega, by have := vk_cases R; omega⟩
      have hSs : (S.size : Int) = 1 + V := by rw [hS.out, hV.out, vPut_size]; omega
      have hb : ∀ h, (((s[i.toNat]'h).toNat : Nat) : Int) = B := by intro h; rw [hB.out, fb_eq]
      have hput : ∀ wx, Calls Try.prog 29 #[.int .u64 R] wx fun e w' => e = .returned (.string S) ∧ Below wx.heap.size wx w' := by intro wx; rw [hS.out]; exact vput_any R wx hR1
      have hsz : ∀ wx, Calls Try.prog 38 #[.int .u8 B] wx fun e w' => e = .returned (.int .i64 K) ∧ w' = wx := by intro wx; rw [hB.out, hK.out]; exact vsize_any _ wx
      have HP := Lib.hid hput
      have HZ := Lib.hid hsz
      clear hput hsz hR1
      by_cases h3 : K = 0
      · have hRB : (R : Int) = B := by rw [hR.out, hB.out]; unfold raw; rw [if_pos (by have := hK.out; omega)]
        have HRB := Lib.hid hRB
        clear hRB
        subst h3
        by_cases h4 : V = 0
        · skip
          obtain ⟨e1, e2, e3⟩ := vE_ok (s := s) (i := i) h0 (by have := hK.out; omega) (by have := hK.out; have := hV.out; rw [hR.out] at this; omega)
          rw [← hR.out] at e2
          rw [← hK.out] at e3
          rw [e1, e2, e3]
          clear e1 e2 e3
          subst h4
          go_enter Try.func30, Try.ntmps30
          go_wp2_with fail
          refine (HZ.out _).mono ?_
          rintro r w1 ⟨rfl, rfl⟩
          go_wp2_with fail
          rw [← HRB.out]
          refine (HP.out _).mono ?_
          rintro r w3 ⟨rfl, hb3⟩
          go_wp2_with fail
          go_ret3
          exact ⟨ret_three rfl (by omega) rfl, hb3⟩
        · skip
          obtain ⟨e1, e2, e3⟩ := vE_form (s := s) (i := i) h0 (by have := hK.out; omega) (by have := hK.out; have := hV.out; rw [hR.out] at this; omega)
          rw [e1, e2, e3]
          clear e1 e2 e3
          go_enter Try.func30, Try.ntmps30
          go_wp2_with fail
          refine (HZ.out _).mono ?_
          rintro r w1 ⟨rfl, rfl⟩
          go_wp2_with fail
          rw [← HRB.out]
          refine (HP.out _).mono ?_
          rintro r w3 ⟨rfl, hb3⟩
          go_wp2_with fail
          go_ret3
          exact ⟨rfl, hb3⟩
      · have hT : Hid (R = getN s (i + 1) K) := by rw [Hid, hR.out]; unfold raw; rw [if_neg (by have := hK.out; omega), ← hK.out, Int.toNat_of_nonneg h0]
        have hkn : known K = true := by rw [hK.out]; exact fk_known (by have := hK.out; omega)
        have HKN := Lib.hid hkn
        clear hkn
        have h5 : 0 < K := by omega
        clear h3
        by_cases h6 : i + 1 + K ≤ s.size
        · have hget : ∀ wx, Calls Try.prog 18 #[.string s, .int .i64 (i + 1), .int .i64 K] wx fun e w' => e = .returned (.tuple #[.int .u64 R, .bool true]) ∧ Below wx.heap.size wx w' := by
            intro wx
            have h := wget_any s (i + 1) K wx hs (by omega)
            rw [← hT.out, there_yes HKN.out (by omega) (by omega)] at h
            exact h
          have HG := Lib.hid hget
          clear hget
          by_cases h4 : V = K
          · skip
            obtain ⟨e1, e2, e3⟩ := vE_ok (s := s) (i := i) h0 (by have := hK.out; omega) (by have := hK.out; have := hV.out; rw [hR.out] at this; omega)
            rw [← hR.out] at e2
            rw [← hK.out] at e3
            rw [e1, e2, e3]
            clear e1 e2 e3
            subst h4
            go_enter Try.func30, Try.ntmps30
            go_wp2_with fail
            refine (HZ.out _).mono ?_
            rintro r w1 ⟨rfl, rfl⟩
            go_wp2_with fail
            refine (HG.out _).mono ?_
            rintro r w2 ⟨rfl, hb2⟩
            go_wp2_with fail
            refine (HP.out _).mono ?_
            rintro r w3 ⟨rfl, hb3⟩
            replace hb3 := hb2.trans (hb3.mono hb2.size)
            go_wp2_with fail
            go_ret3
            exact ⟨rfl, hb3⟩
          · skip
            obtain ⟨e1, e2, e3⟩ := vE_form (s := s) (i := i) h0 (by have := hK.out; omega) (by have := hK.out; have := hV.out; rw [hR.out] at this; omega)
            rw [e1, e2, e3]
            clear e1 e2 e3
            go_enter Try.func30, Try.ntmps30
            go_wp2_with fail
            refine (HZ.out _).mono ?_
            rintro r w1 ⟨rfl, rfl⟩
            go_wp2_with fail
            refine (HG.out _).mono ?_
            rintro r w2 ⟨rfl, hb2⟩
            go_wp2_with fail
            refine (HP.out _).mono ?_
            rintro r w3 ⟨rfl, hb3⟩
            replace hb3 := hb2.trans (hb3.mono hb2.size)
            go_wp2_with fail
            go_ret3
            exact ⟨rfl, hb3⟩
        · have hget : ∀ wx, Calls Try.prog 18 #[.string s, .int .i64 (i + 1), .int .i64 K] wx fun e w' => e = .returned (.tuple #[.int .u64 R, .bool false]) ∧ Below wx.heap.size wx w' := by
            intro wx
            have h := wget_any s (i + 1) K wx hs (by omega)
            rw [← hT.out, there_no2 (by omega)] at h
            exact h
          have HG := Lib.hid hget
          clear hget
          obtain ⟨e1, e2, e3⟩ := vE_short (s := s) (i := i) h0 (by omega) (.inr (by have := hK.out; omega))
          rw [e1, e2, e3]
          clear e1 e2 e3
          go_enter Try.func30, Try.ntmps30
          go_wp2_with fail
          refine (HZ.out _).mono ?_
          rintro r w1 ⟨rfl, rfl⟩
          go_wp2_with fail
          refine (HG.out _).mono ?_
          rintro r w2 ⟨rfl, hb2⟩
          go_wp2_with fail
          go_ret3
          exact ⟨rfl, hb2⟩
end Go.Proofs.Ytgklmjallmbdgaa
