/- The walk of the law OctetGets: it returns true. Conditions: the text within the reach of a row, the numbers within their kinds. -/
import Derived.Test.YtgklmjallmbdgaaOct5
namespace Go.Proofs.Ytgklmjallmbdgaa
open Go.RowKit

set_option maxHeartbeats 1600000 in
theorem law2 (s : ByteArray) (i k : Int) (w : World) (hs : s.size ≤ 140737488351232) (hi : -9223372036854775808 ≤ i ∧ i ≤ 9223372036854775807) :
    Calls Try.prog 4 #[.string s, .int .i64 i, .int .i64 k] w fun e w' => e = .returned (.bool true) ∧ Below w.heap.size w w' := by
  go_enter Try.func4, Try.ntmps4
  go_wp2_with fail
  refine (sizes_any _ _).mono ?_
  rintro e w1 ⟨rfl, hb1⟩
  go_wp2_with fail
  go_loopw [17] (fun v17 wr => ∃ j : Nat, j ≤ 5 ∧ v17 = .int .i64 j ∧ Below w.heap.size w wr) (fun v17 _ => 5 - (intOf v17).toNat)
  case atStart => exact ⟨0, by omega, rfl, hb1⟩
  case round =>
    obtain ⟨j, hj, rfl, hnx⟩ := hrel
    by_cases hlt : j < 5
    · obtain ⟨x, hx⟩ := el_any k j hlt
      have hm0 : 0 ≤ i % ((s.size : Int) + 1) := Int.emod_nonneg _ (by omega)
      have hm1 : i % ((s.size : Int) + 1) ≤ (s.size : Int) := by have := Int.emod_lt_of_pos i (show (0 : Int) < (s.size : Int) + 1 by omega); omega
      obtain ⟨wo, rfl⟩ : ∃ wo : World, wo = wr := ⟨_, rfl⟩
      obtain ⟨z, hz, hz0, hz1⟩ : ∃ z : Int, Hid (z = i % ((s.size : Int) + 1)) ∧ 0 ≤ z ∧ z ≤ 140737488351232 := ⟨_, rfl, hm0, by omega⟩
      go_wp2_with fail
      all_goals
        (try rw [← hz.out])
        clear hm0 hm1
        go_loopw [29] (fun v29 wx => ∃ t : Nat, t ≤ 2 ∧ v29 = .int .i64 t ∧ Below w.heap.size w wx ∧ wo.heap.size < wx.heap.size ∧ ∃ y0 y1 : Int, wx.cell? ⟨wo.heap.size, 0, none⟩ = some (.int .i64 y0) ∧ wx.cell? ⟨wo.heap.size, 1, none⟩ = some (.int .i64 y1) ∧
          (-9223372036854775808 ≤ y0 ∧ y0 ≤ 9223372036854775807) ∧ (-9223372036854775808 ≤ y1 ∧ y1 ≤ 9223372036854775807)) (fun v29 _ => 2 - (intOf v29).toNat)
        case atStart =>
          refine ⟨0, by omega, rfl, hnx.alloc hnx.size _, by simp, _, _, by rw [World.cell?_alloc_new]; rfl, by rw [World.cell?_alloc_new]; rfl, hi, ?_⟩
          constructor <;> omega
        case round =>
          obtain ⟨t, ht, rfl, hnx2, hsz2, y0, y1, hc0, hc1, hy0, hy1⟩ := hrel
          by_cases h2 : t < 2
          · obtain ⟨y, hy, hc⟩ : ∃ y : Int, (-9223372036854775808 ≤ y ∧ y ≤ 9223372036854775807) ∧ wr.cell? ⟨wo.heap.size, t, none⟩ = some (.int .i64 y) := by
              match t, h2 with
              | 0, _ => exact ⟨y0, hy0, hc0⟩
              | 1, _ => exact ⟨y1, hy1, hc1⟩
            go_wp2_with fail
            refine (get_any s y x _ hs hy).mono ?_
            rintro e w2 ⟨rfl, hb2⟩
            go_wp2_with fail
            refine (rget_any s y x _ hs hy).mono ?_
            rintro e w3 ⟨rfl, hb3⟩
            go_wp2_with fail
            go_roundw
            case rel =>
              have c2 := fun o => hb2.cell (p := ⟨wo.heap.size, o, none⟩) hsz2
              have c3 := fun o => hb3.cell (p := ⟨wo.heap.size, o, none⟩) (Nat.lt_of_lt_of_le hsz2 hb2.size)
              exact ⟨t + 1, by omega, by go_num, (hnx2.trans (hb2.mono hnx2.size)).trans (hb3.mono (Nat.le_trans hnx2.size hb2.size)), Nat.lt_of_lt_of_le (Nat.lt_of_lt_of_le hsz2 hb2.size) hb3.size,
                y0, y1, by rw [c3, c2]; exact hc0, by rw [c3, c2]; exact hc1, hy0, hy1⟩
            case measure => simp [intOf]; omega
          · obtain rfl : t = 2 := by omega
            go_wp2_with fail
            go_roundw
            case rel => exact ⟨j + 1, by omega, by go_num, hnx2⟩
            case measure => simp [intOf]; omega
    · obtain rfl : j = 5 := by omega
      go_wp2_with fail
      refine (wakes_any _).mono ?_
      rintro e w2 ⟨rfl, hb2⟩
      go_wp2_with fail
      go_ret
      exact ⟨rfl, hnx.trans (hb2.mono hnx.size)⟩

theorem walkOctetGets (a0 : ByteArray) (a1 a2 : Int) (w : World) (w0 : a0.size ≤ 140737488351232) (w1 : (Lit.int .i64 a1).wf = true) (_w2 : (Lit.int .i64 a2).wf = true) :
    Calls Try.prog 4 #[.string a0, .int .i64 a1, .int .i64 a2] w fun e w' => e = .returned (.bool true) ∧ Below w.heap.size w w' :=
  law2 a0 a1 a2 w w0 (bounds_i64 w1)
end Go.Proofs.Ytgklmjallmbdgaa
