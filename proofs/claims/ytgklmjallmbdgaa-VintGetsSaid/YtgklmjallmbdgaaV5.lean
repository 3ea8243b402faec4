/- The walk of the law VintGets: it returns true. Conditions: the text within the reach of a row, the number within its kind. -/
import Derived.Test.YtgklmjallmbdgaaV4
namespace Go.Proofs.Ytgklmjallmbdgaa
open Go.RowKit

set_option maxRecDepth 20000 in
set_option maxHeartbeats 1600000 in
theorem law11v (s : ByteArray) (i : Int) (w : World) (hs : s.size ≤ 140737488351232) (hi : -9223372036854775808 ≤ i ∧ i ≤ 9223372036854775807) :
    Calls Try.prog 11 #[.string s, .int .i64 i] w fun e w' => e = .returned (.bool true) ∧ Below w.heap.size w w' := by
  have hm0 : 0 ≤ i % ((s.size : Int) + 1) := Int.emod_nonneg _ (by omega)
  have hm1 : i % ((s.size : Int) + 1) ≤ (s.size : Int) := by have := Int.emod_lt_of_pos i (show (0 : Int) < (s.size : Int) + 1 by omega); omega
  obtain ⟨wo, rfl⟩ : ∃ wo : World, wo = w := ⟨_, rfl⟩
  obtain ⟨z, hz, hz0, hz1⟩ : ∃ z : Int, Hid (z = i % ((s.size : Int) + 1)) ∧ 0 ≤ z ∧ z ≤ 140737488351232 := ⟨_, rfl, hm0, by omega⟩
  go_enter Try.func11, Try.ntmps11
  go_wp2_with fail
  all_goals
    (try rw [← hz.out])
    clear hm0 hm1
    go_loopw [22] (fun v22 wx => ∃ t : Nat, t ≤ 2 ∧ v22 = .int .i64 t ∧ Below wo.heap.size wo wx ∧ wo.heap.size < wx.heap.size ∧ ∃ y0 y1 : Int, wx.cell? ⟨wo.heap.size, 0, none⟩ = some (.int .i64 y0) ∧ wx.cell? ⟨wo.heap.size, 1, none⟩ = some (.int .i64 y1) ∧
      (-9223372036854775808 ≤ y0 ∧ y0 ≤ 9223372036854775807) ∧ (-9223372036854775808 ≤ y1 ∧ y1 ≤ 9223372036854775807)) (fun v22 _ => 2 - (intOf v22).toNat)
    case atStart =>
      refine ⟨0, by omega, rfl, (Below.refl _ _).alloc (Nat.le_refl _) _, by simp, _, _, by rw [World.cell?_alloc_new]; rfl, by rw [World.cell?_alloc_new]; rfl, hi, ?_⟩
      constructor <;> omega
    case round =>
      obtain ⟨t, ht, rfl, hnx2, hsz2, y0, y1, hc0, hc1, hy0, hy1⟩ := hrel
      by_cases h2 : t < 2
      · obtain ⟨y, hy, hc⟩ : ∃ y : Int, (-9223372036854775808 ≤ y ∧ y ≤ 9223372036854775807) ∧ wr.cell? ⟨wo.heap.size, t, none⟩ = some (.int .i64 y) := by
          match t, h2 with
          | 0, _ => exact ⟨y0, hy0, hc0⟩
          | 1, _ => exact ⟨y1, hy1, hc1⟩
        go_wp2_with fail
        refine (vget_any s y _ (by omega) hy).mono ?_
        rintro e w2 ⟨rfl, hb2⟩
        go_wp2_with fail
        refine (rvget_any s y _ hs hy).mono ?_
        rintro e w3 ⟨rfl, hb3⟩
        go_wp2_with fail
        go_roundw
        case rel =>
          have c2 := fun o => hb2.cell (p := ⟨wo.heap.size, o, none⟩) hsz2
          have c3 := fun o => hb3.cell (p := ⟨wo.heap.size, o, none⟩) (Nat.lt_of_lt_of_le hsz2 hb2.size)
          exact ⟨t + 1, by omega, by go_num, (hnx2.trans (hb2.mono hnx2.size)).trans (hb3.mono (Nat.le_trans hnx2.size hb2.size)), Nat.lt_of_lt_of_le (Nat.lt_of_lt_of_le hsz2 hb2.size) hb3.size,
            y0, y1, by rw [c3, c2]; exact hc0, by rw [c3, c2]; exact hc1, hy0, hy1⟩
        case measure => simp [intOf]; omega
      · obtain rfl : t = 2 := by omega
        go_wp2_with fail
        refine (vwakes_any _).mono ?_
        rintro e w2 ⟨rfl, hb2⟩
        go_wp2_with fail
        go_ret
        exact ⟨rfl, hnx2.trans (hb2.mono hnx2.size)⟩

theorem walkVintGets (a0 : ByteArray) (a1 : Int) (w : World) (w0 : a0.size ≤ 140737488351232) (w1 : (Lit.int .i64 a1).wf = true) :
    Calls Try.prog 11 #[.string a0, .int .i64 a1] w fun e w' => e = .returned (.bool true) ∧ Below w.heap.size w w' :=
  law11v a0 a1 w w0 (bounds_i64 w1)
end Go.Proofs.Ytgklmjallmbdgaa
