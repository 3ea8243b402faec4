/- The walk of the law OctetParts: it returns true. Conditions: the text within the reach of a row, the number one of 64 bits. -/
import Derived.Test.YtgklmjallmbdgaaOct6
namespace Go.Proofs.Ytgklmjallmbdgaa
open Go.RowKit

set_option maxHeartbeats 1600000 in
theorem law4 (n : Nat) (s : ByteArray) (w : World) (hn : n < 18446744073709551616) (hs : s.size ≤ 140737488351232) :
    Calls Try.prog 6 #[.int .u64 n, .string s] w fun e w' => e = .returned (.bool true) ∧ Below w.heap.size w w' := by
  go_enter Try.func6, Try.ntmps6
  go_wp2_with fail
  refine (put_all n 8 _ hn).mono ?_
  rintro e w1 ⟨rfl, hb1⟩
  go_wp2_with fail
  refine (put_all n 4 _ hn).mono ?_
  rintro e w2 ⟨rfl, hb2⟩
  replace hb2 := hb1.trans (hb2.mono hb1.size); clear hb1
  go_wp2_with fail
  rw [show ((n : Int) / 4294967296) = ((n / 4294967296 : Nat) : Int) from by omega]
  refine (put_all (n / 4294967296) 4 _ (by omega)).mono ?_
  rintro e w3 ⟨rfl, hb3⟩
  replace hb3 := hb2.trans (hb3.mono hb2.size); clear hb2
  go_wp2_with fail
  refine (put_all n 2 _ hn).mono ?_
  rintro e w4 ⟨rfl, hb4⟩
  replace hb4 := hb3.trans (hb4.mono hb3.size); clear hb3
  go_wp2_with fail
  obtain ⟨wo, rfl⟩ : ∃ wo : World, wo = w4 := ⟨_, rfl⟩
  go_loopw [26] (fun v26 wx => ∃ t : Nat, t ≤ 4 ∧ v26 = .int .i64 t ∧ Below w.heap.size w wx ∧ wo.heap.size < wx.heap.size ∧ wx.cell? ⟨wo.heap.size, 0, none⟩ = some (.int .i64 1) ∧ wx.cell? ⟨wo.heap.size, 1, none⟩ = some (.int .i64 2) ∧ wx.cell? ⟨wo.heap.size, 2, none⟩ = some (.int .i64 4) ∧ wx.cell? ⟨wo.heap.size, 3, none⟩ = some (.int .i64 8)) (fun v26 _ => 4 - (intOf v26).toNat)
  case atStart => exact ⟨0, by omega, rfl, hb4.alloc hb4.size _, by simp, by rw [World.cell?_alloc_new]; rfl, by rw [World.cell?_alloc_new]; rfl, by rw [World.cell?_alloc_new]; rfl, by rw [World.cell?_alloc_new]; rfl⟩
  case round =>
    obtain ⟨t, ht, rfl, hnx, hsz, hc0, hc1, hc2, hc3⟩ := hrel
    by_cases hlt : t < 4
    · obtain ⟨Y, hY, hY8, hc⟩ : ∃ Y : Nat, Hid (known Y = true) ∧ Y ≤ 8 ∧ wr.cell? ⟨wo.heap.size, t, none⟩ = some (.int .i64 Y) := by
        match t, hlt with
        | 0, _ => exact ⟨1, by rw [Hid]; decide, by omega, hc0⟩
        | 1, _ => exact ⟨2, by rw [Hid]; decide, by omega, hc1⟩
        | 2, _ => exact ⟨4, by rw [Hid]; decide, by omega, hc2⟩
        | 3, _ => exact ⟨8, by rw [Hid]; decide, by omega, hc3⟩
      have hps := putB_size (n := n) hY.out
      go_wp2_with fail
      refine (get_any s 0 Y _ hs (by omega)).mono ?_
      rintro e w5 ⟨rfl, hb5⟩
      rw [there_zero hY.out]
      go_wp2_with fail
      refine (put_all n Y _ hn).mono ?_
      rintro e w6 ⟨rfl, hb6⟩
      go_wp2_with fail
      replace hb6 := hb5.trans (hb6.mono hb5.size)
      refine (get_any s s.size Y _ hs (by omega)).mono ?_
      rintro e w7 ⟨rfl, hb7⟩
      replace hb7 := hb6.trans (hb7.mono hb6.size)
      rw [there_end hY.out]
      go_wp2_with fail
      go_roundw
      case rel =>
        have c := fun o => hb7.cell (p := ⟨wo.heap.size, o, none⟩) hsz
        exact ⟨t + 1, by omega, by go_num, hnx.trans (hb7.mono hnx.size), Nat.lt_of_lt_of_le hsz hb7.size, by rw [c]; exact hc0, by rw [c]; exact hc1, by rw [c]; exact hc2, by rw [c]; exact hc3⟩
      case measure => simp [intOf]; omega
    · obtain rfl : t = 4 := by omega
      have j1 := fun wx => run_put_join (P := Try.prog) (n := n) (a := 4) (b := 4) (by decide) (by decide) (by decide) (by decide) wx
      have j2 := fun wx => run_put_join (P := Try.prog) (n := n) (a := 2) (b := 2) (by decide) (by decide) (by decide) (by decide) wx
      have j3 := fun wx => run_put_join (P := Try.prog) (n := n) (a := 1) (b := 1) (by decide) (by decide) (by decide) (by decide) wx
      simp only [Nat.reduceAdd, Nat.reducePow, Int.cast_ofNat_Int] at j1 j2 j3
      go_wp2_with fail
      refine (wakes_any _).mono ?_
      rintro e w5 ⟨rfl, hb5⟩
      replace hb5 := hnx.trans (hb5.mono hnx.size)
      go_wp2_with fail
      rw [show ((n : Int) / 65536) = ((n / 65536 : Nat) : Int) from by omega]
      refine (put_all (n / 65536) 2 _ (by omega)).mono ?_
      rintro e w6 ⟨rfl, hb6⟩
      replace hb6 := hb5.trans (hb6.mono hb5.size)
      go_wp2_with fail
      refine (put_all n 1 _ hn).mono ?_
      rintro e w7 ⟨rfl, hb7⟩
      replace hb7 := hb6.trans (hb7.mono hb6.size)
      go_wp2_with fail
      rw [show ((n : Int) / 256) = ((n / 256 : Nat) : Int) from by omega]
      refine (put_all (n / 256) 1 _ (by omega)).mono ?_
      rintro e w8 ⟨rfl, hb8⟩
      replace hb8 := hb7.trans (hb8.mono hb7.size)
      go_wp2_with fail
      go_ret
      refine ⟨ret_bool ?_, hb8⟩
      simp

theorem walkOctetParts (a0 : Int) (a1 : ByteArray) (w : World) (w0 : (Lit.int .u64 a0).wf = true) (w1 : a1.size ≤ 140737488351232) :
    Calls Try.prog 6 #[.int .u64 a0, .string a1] w fun e w' => e = .returned (.bool true) ∧ Below w.heap.size w w' := by
  obtain ⟨h0, h1⟩ := bounds_u64 w0
  obtain ⟨n, rfl⟩ := Int.eq_ofNat_of_zero_le h0
  exact law4 n a1 w (by omega) w1
end Go.Proofs.Ytgklmjallmbdgaa
