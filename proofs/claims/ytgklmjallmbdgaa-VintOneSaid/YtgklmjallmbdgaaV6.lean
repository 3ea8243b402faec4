/- The walk of the law VintOne: it returns true. Conditions: the text within the reach of a row, the numbers within their kind. -/
import Derived.Test.YtgklmjallmbdgaaV4
import Derived.Lib.QuietBelow
import Derived.Deep.DeepCutAuto
namespace Go.Proofs.Ytgklmjallmbdgaa
open Go.RowKit

set_option maxRecDepth 20000 in
set_option maxHeartbeats 1600000 in
theorem law12v (s : ByteArray) (a b : Int) (w : World) (hs : s.size ≤ 140737488351232) (ha : 0 ≤ a ∧ a ≤ 18446744073709551615) (hb : 0 ≤ b ∧ b ≤ 18446744073709551615) :
    Calls Try.prog 12 #[.string s, .int .u64 a, .int .u64 b] w fun e w' => e = .returned (.bool true) ∧ Below w.heap.size w w' := by
  obtain ⟨E, hE⟩ : ∃ E : Int, Hid (E = vE s 0) := ⟨_, rfl⟩
  obtain ⟨T, hT⟩ : ∃ T : Int, Hid (T = vT s 0) := ⟨_, rfl⟩
  obtain ⟨N, hN⟩ : ∃ N : Nat, Hid (N = vN s 0) := ⟨_, rfl⟩
  have hget : ∀ wx, Calls Try.prog 30 #[.string s, .int .i64 0] wx fun e w' => e = .returned (.tuple #[.int .u64 N, .int .i64 T, .int .i64 E]) ∧ Below wx.heap.size wx w' := by
    intro wx
    rw [hE.out, hT.out, hN.out]
    exact vget_any s 0 wx (by omega) (by omega)
  have HG := Lib.hid hget
  clear hget
  go_enter Try.func12, Try.ntmps12
  go_wp2_with fail
  refine (HG.out _).mono ?_
  rintro r w1 ⟨rfl, hb1⟩
  go_upto_region 2 with fail
  go_cut [37] (fun s37 wx => s37 = .bool false ∧ Below w.heap.size w wx)
  case first =>
    by_cases he : E = 0
    · obtain ⟨t1, t2, t3⟩ := front_put (s := s) (by rw [← hE.out]; exact he)
      rw [← hT.out] at t1 t2 t3
      rw [← hN.out] at t3
      obtain ⟨X, hX⟩ : ∃ X, Hid (X = s.extract 0 T.toNat) := ⟨_, rfl⟩
      have CP : ∀ w7 d os, Calls Try.prog 29 #[.int .u64 N] (Sort.grow (redrawn w7 d) os) fun e w'' => e = .returned (.string (s.extract 0 T.toNat)) ∧ ∃ p : Regrown, w'' = Sort.grow (redrawn w7 p.d) p.os := by
        intro w7 d os
        refine Calls.regrown_of ?_
        rw [← t3]
        exact vput_any _ _ (by rw [hN.out]; exact vN_lt _ _)
      have d1 : decide ((s.size : Int) < T) = false := decide_eq_false (by omega)
      have d2 : decide (T < 1) = false := decide_eq_false (by omega)
      have HC := Lib.hid CP
      clear CP t3
      subst he
      go_wp2_with fail
      have cP := HC.out w1
      refine wp_region_quiet_below (by kernel_rfl) (by kernel_rfl) ?_
      repeat (any_goals (first | go_big_quiet_step (exact cP _ _) | quiet_step (exact cP _ _)))
      refine wpQuiet_nil ?_
      intro _ hw'
      obtain ⟨⟨dq, osq⟩, hw''⟩ := hw'
      subst hw''
      go_wp2_with fail
      go_meet
      exact ⟨rfl, hb1.trans ((below_regrown w1 dq osq).mono hb1.size)⟩
    · have d1 : decide (E = 0) = false := decide_eq_false he
      have d2 : (E == 0) = false := by simpa using he
      go_wp2_with fail
      refine wp_region_quiet_below (by kernel_rfl) (by kernel_rfl) ?_
      repeat (any_goals (first | go_big_quiet_step (fail) | quiet_step (fail)))
      refine wpQuiet_nil ?_
      intro _ hw'
      obtain ⟨⟨dq, osq⟩, hw''⟩ := hw'
      subst hw''
      go_wp2_with fail
      go_meet
      exact ⟨rfl, hb1.trans ((below_regrown w1 dq osq).mono hb1.size)⟩
  case rest =>
    obtain ⟨rfl, hnx⟩ := hcut
    clear hb1 HG
    have hpa : ∀ wx, Calls Try.prog 29 #[.int .u64 a] wx fun e w' => e = .returned (.string (vPut a.toNat)) ∧ Below wx.heap.size wx w' := fun wx => vputi a wx ha.1 ha.2
    have hpb : ∀ wx, Calls Try.prog 29 #[.int .u64 b] wx fun e w' => e = .returned (.string (vPut b.toNat)) ∧ Below wx.heap.size wx w' := fun wx => vputi b wx hb.1 hb.2
    have sa : 1 ≤ (vPut a.toNat).size := by rw [vPut_size]; omega
    have sb : 1 ≤ (vPut b.toNat).size := by rw [vPut_size]; omega
    have ij : vPut a.toNat = vPut b.toNat → a = b := fun h => by have := vPut_inj (by omega) (by omega) h; omega
    have pab : vPut a.toNat = (vPut b.toNat).extract 0 (vPut a.toNat).size → a = b := fun h => by have := vPut_ahead (by omega) (by omega) h; omega
    have pba : vPut b.toNat = (vPut a.toNat).extract 0 (vPut b.toNat).size → b = a := fun h => by have := vPut_ahead (by omega) (by omega) h; omega
    have lab : a ≤ b → (vPut a.toNat).size ≤ (vPut b.toNat).size := fun h => by rw [vPut_size, vPut_size]; have := vk_mono (a := a.toNat) (b := b.toNat) (by omega); omega
    have lba : b ≤ a → (vPut b.toNat).size ≤ (vPut a.toNat).size := fun h => by rw [vPut_size, vPut_size]; have := vk_mono (a := b.toNat) (b := a.toNat) (by omega); omega
    by_cases heq : a = b
    · subst heq
      clear hpb sb ij pab pba lab lba
      obtain ⟨X, hX⟩ : ∃ X, vPut a.toNat = X := ⟨_, rfl⟩
      rw [hX] at hpa sa
      clear hX
      have HA := Lib.hid hpa
      clear hpa
      go_wp2_with fail
      refine (HA.out _).mono ?_
      rintro r w2 ⟨rfl, hb2⟩
      replace hb2 := hnx.trans (hb2.mono hnx.size)
      go_wp2_with fail
      refine (HA.out _).mono ?_
      rintro r w3 ⟨rfl, hb3⟩
      replace hb3 := hb2.trans (hb3.mono hb2.size); clear hb2
      go_wp2_with fail
      refine (vwakes_any _).mono ?_
      rintro r w4 ⟨rfl, hb4⟩
      replace hb4 := hb3.trans (hb4.mono hb3.size); clear hb3
      go_wp2_with fail
      go_ret
      exact ⟨rfl, hb4⟩
    obtain ⟨X, hX⟩ : ∃ X, vPut a.toNat = X := ⟨_, rfl⟩
    obtain ⟨Y, hY⟩ : ∃ Y, vPut b.toNat = Y := ⟨_, rfl⟩
    rw [hX] at hpa sa ij pab pba lab lba
    rw [hY] at hpb sb ij pab pba lab lba
    clear hX hY
    have HA := Lib.hid hpa
    have HB := Lib.hid hpb
    clear hpa hpb
    rcases (by omega : a < b ∨ b < a) with hlt | hgt
    all_goals clear heq
    · have le := lab (by omega)
      have n1 : (X.toList == Y.toList) = false := by rw [eqB]; exact decide_eq_false fun h => by have := ij h; omega
      have n2 : (X.toList == (Y.extract 0 X.size).toList) = false := by rw [eqB]; exact decide_eq_false fun h => by have := pab h; omega
      have n3 : (a == b) = false := by simp; omega
      clear ij pab pba lab lba
      go_wp2_with fail
      refine (HA.out _).mono ?_
      rintro r w2 ⟨rfl, hb2⟩
      replace hb2 := hnx.trans (hb2.mono hnx.size)
      go_wp2_with fail
      refine (HB.out _).mono ?_
      rintro r w3 ⟨rfl, hb3⟩
      replace hb3 := hb2.trans (hb3.mono hb2.size); clear hb2
      go_wp2_with fail
      refine (vwakes_any _).mono ?_
      rintro r w4 ⟨rfl, hb4⟩
      replace hb4 := hb3.trans (hb4.mono hb3.size); clear hb3
      go_wp2_with fail
      go_ret
      exact ⟨rfl, hb4⟩
    · have le := lba (by omega)
      have n1 : (Y.toList == X.toList) = false := by rw [eqB]; exact decide_eq_false fun h => by have := ij h.symm; omega
      have n2 : (Y.toList == (X.extract 0 Y.size).toList) = false := by rw [eqB]; exact decide_eq_false fun h => by have := pba h; omega
      have n3 : (a == b) = false := by simp; omega
      clear ij pab pba lab lba
      go_wp2_with fail
      refine (HB.out _).mono ?_
      rintro r w2 ⟨rfl, hb2⟩
      replace hb2 := hnx.trans (hb2.mono hnx.size)
      go_wp2_with fail
      refine (HA.out _).mono ?_
      rintro r w3 ⟨rfl, hb3⟩
      replace hb3 := hb2.trans (hb3.mono hb2.size); clear hb2
      go_wp2_with fail
      refine (vwakes_any _).mono ?_
      rintro r w4 ⟨rfl, hb4⟩
      replace hb4 := hb3.trans (hb4.mono hb3.size); clear hb3
      go_wp2_with fail
      go_ret
      exact ⟨rfl, hb4⟩

theorem walkVintOne (a0 : ByteArray) (a1 a2 : Int) (w : World) (w0 : a0.size ≤ 140737488351232) (w1 : (Lit.int .u64 a1).wf = true) (w2 : (Lit.int .u64 a2).wf = true) :
    Calls Try.prog 12 #[.string a0, .int .u64 a1, .int .u64 a2] w fun e w' => e = .returned (.bool true) ∧ Below w.heap.size w w' := by
  obtain ⟨h0, h1⟩ := bounds_u64 w1
  obtain ⟨h2, h3⟩ := bounds_u64 w2
  exact law12v a0 a1 a2 w w0 ⟨h0, by omega⟩ ⟨h2, by omega⟩
end Go.Proofs.Ytgklmjallmbdgaa
