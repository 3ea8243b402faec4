/- The walk of the law OctetBack: it returns true. Conditions: the texts within the reach of a row, the number one of 64 bits. -/
import Derived.Test.YtgklmjallmbdgaaOct7
import Derived.Lib.QuietBelow
import Derived.Deep.QuietTactic
import Derived.BigQuiet
namespace Go.Proofs.Ytgklmjallmbdgaa
open Go.RowKit

theorem getN_lt {s : ByteArray} {i : Int} {k : Nat} (hk : known k = true) : getN s i k < 18446744073709551616 := by
  unfold getN
  split
  · rename_i h
    obtain ⟨_, h2, h3⟩ := there_all h
    have h8 := known_cases hk
    have g := leN_cut_lt (s := s) (a := i.toNat) (k := k) (by omega)
    have : 256 ^ k ≤ 256 ^ 8 := Nat.pow_le_pow_right (by omega) (by omega)
    rw [Int.toNat_natCast]
    omega
  · omega

set_option maxHeartbeats 3200000 in
theorem law3 (n : Nat) (p q : ByteArray) (w : World) (hn : n < 18446744073709551616) (hp : p.size ≤ 140737488351232) (hq : q.size ≤ 140737488351232) :
    Calls Try.prog 5 #[.int .u64 n, .string p, .string q] w fun e w' => e = .returned (.bool true) ∧ Below w.heap.size w w' := by
  go_enter Try.func5, Try.ntmps5
  go_wp2_with fail
  obtain ⟨wo, rfl⟩ : ∃ wo : World, wo = w := ⟨_, rfl⟩
  go_loopw [16] (fun v16 wx => ∃ t : Nat, t ≤ 4 ∧ v16 = .int .i64 t ∧ Below wo.heap.size wo wx ∧ wo.heap.size < wx.heap.size ∧ wx.cell? ⟨wo.heap.size, 0, none⟩ = some (.int .i64 1) ∧ wx.cell? ⟨wo.heap.size, 1, none⟩ = some (.int .i64 2) ∧ wx.cell? ⟨wo.heap.size, 2, none⟩ = some (.int .i64 4) ∧ wx.cell? ⟨wo.heap.size, 3, none⟩ = some (.int .i64 8)) (fun v16 _ => 4 - (intOf v16).toNat)
  case atStart => exact ⟨0, by omega, rfl, (Below.refl _ _).alloc (Nat.le_refl _) _, by simp, by rw [World.cell?_alloc_new]; rfl, by rw [World.cell?_alloc_new]; rfl, by rw [World.cell?_alloc_new]; rfl, by rw [World.cell?_alloc_new]; rfl⟩
  case round =>
    obtain ⟨t, ht, rfl, hnx, hsz, hc0, hc1, hc2, hc3⟩ := hrel
    by_cases hlt : t < 4
    · obtain ⟨Y, hY, hY8, hc, hcs⟩ : ∃ Y : Nat, Hid (known Y = true) ∧ Y ≤ 8 ∧ wr.cell? ⟨wo.heap.size, t, none⟩ = some (.int .i64 Y) ∧ Hid (t = 0 ∧ Y = 1 ∨ t = 1 ∧ Y = 2 ∨ t = 2 ∧ Y = 4 ∨ t = 3 ∧ Y = 8) := by
        match t, hlt with
        | 0, _ => exact ⟨1, by rw [Hid]; decide, by omega, hc0, by rw [Hid]; omega⟩
        | 1, _ => exact ⟨2, by rw [Hid]; decide, by omega, hc1, by rw [Hid]; omega⟩
        | 2, _ => exact ⟨4, by rw [Hid]; decide, by omega, hc2, by rw [Hid]; omega⟩
        | 3, _ => exact ⟨8, by rw [Hid]; decide, by omega, hc3, by rw [Hid]; omega⟩
      obtain ⟨t', HT⟩ : ∃ t', Hid (t' = t + 1) := ⟨_, rfl⟩
      obtain ⟨S1, hS1⟩ : ∃ S1, S1 = p ++ putB n Y := ⟨_, rfl⟩
      obtain ⟨S2, hS2⟩ : ∃ S2, S2 = S1 ++ q := ⟨_, rfl⟩
      have z1 : S1.size = p.size + Y := by rw [hS1, size_append, putB_size hY.out]
      have z2 : S2.size ≤ 562949953421312 := by rw [hS2, size_append, z1]; omega
      have j1 := fun wx => run_string_add_sum (P := Try.prog) wx p (putB n Y) (by rw [putB_size hY.out]; omega)
      have j2 := fun wx => run_string_add_sum (P := Try.prog) wx S1 q (by rw [z1]; omega)
      rw [← hS1] at j1
      rw [← hS2] at j2
      have G1 : Hid (there S2 p.size Y = true) := by rw [hS2, hS1]; exact there_mid hY.out
      have G2 : Hid (getN S2 p.size Y = n % 256 ^ Y) := by rw [hS2, hS1]; exact getN_mid hY.out
      clear z1 hS1 hS2
      by_cases hle : Y ≤ q.size
      · have T : Hid (there q 0 Y = true) := by rw [Hid, there_zero hY.out]; simp; omega
        have HD : Hid (decide ((Y : Int) ≤ (q.size : Int)) = true) := by rw [Hid]; simp; omega
        have CP : Hid (∀ w7 d os, Calls Try.prog 15 #[.int .u64 (getN q 0 Y), .int .i64 Y] (Sort.grow (redrawn w7 d) os) fun e w'' => e = .returned (.string (q.extract 0 Y)) ∧ ∃ p : Regrown, w'' = Sort.grow (redrawn w7 p.d) p.os) := by
          have HB : putB (getN q 0 Y) Y = q.extract 0 Y := by have := putB_back (s := q) (a := 0) hY.out (by omega); simpa using this
          intro w7 d os
          refine Calls.regrown_of ?_
          rw [← HB]
          exact put_all _ _ _ (getN_lt hY.out)
        go_wp2_with fail
        refine (put_all n Y _ hn).mono ?_
        rintro e w5 ⟨rfl, hb5⟩
        go_wp2_with fail
        refine (wget_any S2 p.size Y _ z2 (by omega)).mono ?_
        rintro e w6 ⟨rfl, hb6⟩
        replace hb6 := hb5.trans (hb6.mono hb5.size); clear hb5
        rw [G1.out, G2.out]
        have hcs' := hcs.out
        clear hcs j1 j2
        rcases hcs' with ⟨rfl, rfl⟩ | ⟨rfl, rfl⟩ | ⟨rfl, rfl⟩ | ⟨rfl, rfl⟩
        case' inr.inr.inr => rw [show n % 256 ^ 8 = n from Nat.mod_eq_of_lt (by simpa using hn)]
        all_goals
          go_wp2_with fail
          refine (get_any q 0 _ _ hq (by omega)).mono ?_
          rintro e w7 ⟨rfl, hb7⟩
          replace hb7 := hb6.trans (hb7.mono hb6.size); clear hb6
          have T' := T.out
          simp only [Int.cast_ofNat_Int] at T'
          rw [T']
          clear T' T
          go_wp2_with fail
          have hd := HD.out
          simp only [Int.cast_ofNat_Int] at hd
          have cP := CP.out w7
          simp only [Int.cast_ofNat_Int] at cP
          refine wp_region_quiet_below (by kernel_rfl) (by kernel_rfl) ?_
          repeat (any_goals (first | go_big_quiet_step (exact cP _ _) | quiet_step (exact cP _ _)))
          refine wpQuiet_nil ?_
          intro _ hw'
          obtain ⟨⟨dq, osq⟩, hw''⟩ := hw'
          subst hw''
          go_wp2_with fail
          go_roundw
          case rel =>
            replace hb7 := hb7.trans ((below_regrown w7 dq osq).mono hb7.size)
            have c := fun o => hb7.cell (p := ⟨wo.heap.size, o, none⟩) hsz
            exact ⟨t', by have := HT.out; omega, by rw [HT.out]; rfl, hnx.trans (hb7.mono hnx.size), Nat.lt_of_lt_of_le hsz hb7.size, by rw [c]; exact hc0, by rw [c]; exact hc1, by rw [c]; exact hc2, by rw [c]; exact hc3⟩
          case measure => simp [intOf]
      · have T : Hid (there q 0 Y = false) := by rw [Hid, there_zero hY.out]; simp; omega
        replace hle : q.size < Y := by omega
        have HD : Hid (decide ((Y : Int) ≤ (q.size : Int)) = false) := by rw [Hid]; simp; omega
        go_wp2_with fail
        refine (put_all n Y _ hn).mono ?_
        rintro e w5 ⟨rfl, hb5⟩
        go_wp2_with fail
        refine (wget_any S2 p.size Y _ z2 (by omega)).mono ?_
        rintro e w6 ⟨rfl, hb6⟩
        replace hb6 := hb5.trans (hb6.mono hb5.size); clear hb5
        rw [G1.out, G2.out]
        have hcs' := hcs.out
        clear hcs j1 j2
        rcases hcs' with ⟨rfl, rfl⟩ | ⟨rfl, rfl⟩ | ⟨rfl, rfl⟩ | ⟨rfl, rfl⟩
        case' inr.inr.inr => rw [show n % 256 ^ 8 = n from Nat.mod_eq_of_lt (by simpa using hn)]
        all_goals
          go_wp2_with fail
          refine (get_any q 0 _ _ hq (by omega)).mono ?_
          rintro e w7 ⟨rfl, hb7⟩
          replace hb7 := hb6.trans (hb7.mono hb6.size); clear hb6
          have T' := T.out
          simp only [Int.cast_ofNat_Int] at T'
          rw [T']
          clear T' T
          go_wp2_with fail
          have hd := HD.out
          simp only [Int.cast_ofNat_Int] at hd
          refine wp_region_quiet_below (by kernel_rfl) (by kernel_rfl) ?_
          repeat (any_goals (first | go_big_quiet_step (fail) | quiet_step (fail)))
          refine wpQuiet_nil ?_
          intro _ hw'
          obtain ⟨⟨dq, osq⟩, hw''⟩ := hw'
          subst hw''
          go_wp2_with fail
          go_roundw
          case rel =>
            replace hb7 := hb7.trans ((below_regrown w7 dq osq).mono hb7.size)
            have c := fun o => hb7.cell (p := ⟨wo.heap.size, o, none⟩) hsz
            exact ⟨t', by have := HT.out; omega, by rw [HT.out]; rfl, hnx.trans (hb7.mono hnx.size), Nat.lt_of_lt_of_le hsz hb7.size, by rw [c]; exact hc0, by rw [c]; exact hc1, by rw [c]; exact hc2, by rw [c]; exact hc3⟩
          case measure => simp [intOf]
    · obtain rfl : t = 4 := by omega
      go_wp2_with fail
      refine (wakes_any _).mono ?_
      rintro e w5 ⟨rfl, hb5⟩
      replace hb5 := hnx.trans (hb5.mono hnx.size)
      go_wp2_with fail
      go_ret
      exact ⟨rfl, hb5⟩

theorem walkOctetBack (a0 : Int) (a1 a2 : ByteArray) (w : World) (w0 : (Lit.int .u64 a0).wf = true) (w1 : a1.size ≤ 140737488351232) (w2 : a2.size ≤ 140737488351232) :
    Calls Try.prog 5 #[.int .u64 a0, .string a1, .string a2] w fun e w' => e = .returned (.bool true) ∧ Below w.heap.size w w' := by
  obtain ⟨h0, h1⟩ := bounds_u64 w0
  obtain ⟨n, rfl⟩ := Int.eq_ofNat_of_zero_le h0
  exact law3 n a1 a2 w (by omega) w1 w2
end Go.Proofs.Ytgklmjallmbdgaa
