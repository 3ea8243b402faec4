/- The walk of the law CurveReaches: it returns true. Conditions: the arguments fit their kinds. -/
import Derived.Test.YtiokcoicipmkmaaAgg
import Derived.Deep.RegionHeld3
import Derived.Deep.DeepCutAuto
namespace Go.Proofs.Ytiokcoicipmkmaa
open Go.RowKit

/-- what Reaches gives -/
def ReachAny (x : Cv) (r : Int) (w : World) (e : Ending) (w' : World) : Prop := ∃ (h : Int) (b : Bool), e = .returned (.tuple #[.int .i64 h, .bool b]) ∧ (x.good = false → h = 0 ∧ b = false) ∧ (x.good = true → (r ≤ x.c → b = true ∧ x.First r h) ∧ (x.c < r → b = false ∧ h = 0)) ∧ Below w.heap.size w w'
theorem reaches_any (s e f c r : Int) (w : World) : Calls Try.prog 19 #[.agg #[.int .i64 s, .int .i64 e, .int .i64 f, .int .i64 c], .int .i64 r] w (ReachAny ⟨s, e, f, c⟩ r w) := by
  cases hg : Cv.good ⟨s, e, f, c⟩ with
  | false => exact (reaches_no s e f c r w (.inl hg)).mono fun x w' ⟨h1, h2⟩ => ⟨0, false, h1, fun _ => ⟨rfl, rfl⟩, (fun h => by rw [hg] at h; cases h), h2⟩
  | true =>
    by_cases hr : r ≤ c
    · exact (reaches_yes s e f c r w hg hr).mono fun x w' ⟨h, h1, h2, h3⟩ => ⟨h, true, h1, (fun h => by rw [hg] at h; cases h), fun _ => ⟨fun _ => ⟨rfl, h2⟩, (fun h => by simp only at h; omega)⟩, h3⟩
    · exact (reaches_no s e f c r w (.inr (by omega))).mono fun x w' ⟨h1, h2⟩ => ⟨0, false, h1, fun _ => ⟨rfl, rfl⟩, fun _ => ⟨(fun h => by simp only at h; omega), fun _ => ⟨rfl, rfl⟩⟩, h2⟩

set_option maxRecDepth 100000 in
set_option maxHeartbeats 12800000 in
theorem law4 (s0 e0 f0 c0 r0 : Int) (w : World) (hr : -9223372036854775808 ≤ r0 ∧ r0 ≤ 9223372036854775807) :
    Calls Try.prog 4 #[.agg #[.int .i64 s0, .int .i64 e0, .int .i64 f0, .int .i64 c0], .int .i64 r0] w fun e w' => e = .returned (.bool true) ∧ Below w.heap.size w w' := by
  go_enter Try.func4, Try.ntmps4
  go_wp2_with fail
  refine (reaches_any s0 e0 f0 c0 r0 _).mono ?_
  rintro x w2 ⟨h, b, rfl, H1, H2, hb2⟩
  have hbx := (Boxed.made w s0 e0 f0 c0 23).later hb2
  replace hb2 := ((Below.refl w.heap.size w).alloc (Nat.le_refl _) _).trans (hb2.mono (by simp))
  have hbx' := hbx
  obtain ⟨z, d0, d1, d2, d3⟩ := hbx'
  clear H2
  cases hg : Cv.good ⟨s0, e0, f0, c0⟩ with
  | false =>
    obtain ⟨rfl, rfl⟩ := H1 hg
    clear H1
    have HG := Lib.hid hg; clear hg
    go_wp2_with fail
    refine (good_any s0 e0 f0 c0 _).mono ?_
    rintro x w3 ⟨rfl, hb3⟩
    rw [HG.out]
    obtain ⟨z, d0, d1, d2, d3⟩ := hbx.later hb3
    replace hb3 := hb2.trans (hb3.mono hb2.size)
    clear hbx hb2 HG
    go_wp2_with fail
    refine (near_any s0 e0 f0 c0 _).mono ?_
    rintro x w4 ⟨s, e, f, c, rfl, hg, hb4⟩
    replace hb4 := hb3.trans (hb4.mono hb3.size)
    clear hb3 d0 d1 d2 d3 z
    have HG := Lib.hid hg
    obtain ⟨a1, a2, a3, a4, a5, a6⟩ := Cv.good_all hg
    simp only at a1 a2 a3 a4 a5 a6
    clear hg
    have hm := emod_range r0 (c - f + 1) (by omega)
    have hbx := (Boxed.made w4 s e f c 23)
    have hb5 := hb4.alloc hb4.size (.cells #[.int .i64 s, .int .i64 e, .int .i64 f, .int .i64 c] 23)
    clear hb4
    go_wp2_with fail
    by_cases hp : 0 < r0
    all_goals
      go_region
      go_wp2_with fail
      go_loopw [49] (fun v49 wx => ∃ t : Nat, t ≤ 2 ∧ v49 = .int .i64 t ∧ Below w.heap.size w wx ∧ w4.heap.size + 1 < wx.heap.size ∧ Boxed wx w4.heap.size s e f c ∧ ∃ y0 y1 : Int, wx.cell? ⟨w4.heap.size + 1, 0, none⟩ = some (.int .i64 y0) ∧ wx.cell? ⟨w4.heap.size + 1, 1, none⟩ = some (.int .i64 y1)) (fun v49 _ => 2 - (intOf v49).toNat)
      case atStart => exact ⟨0, by omega, rfl, (hb5.alloc hb5.size _).drew, by simp, (hbx.alloc _).later ((Below.refl _ _).drew), _, _, by simp [World.cell?_alloc_at]; rfl, by simp [World.cell?_alloc_at]; rfl⟩
      case round =>
        obtain ⟨t, ht, rfl, hnx, hsz, hbw, y0, y1, hc0, hc1⟩ := hrel
        by_cases h2 : t < 2
        · obtain ⟨y, hc⟩ : ∃ y : Int, wr.cell? ⟨w4.heap.size + 1, t, none⟩ = some (.int .i64 y) := by
            match t, h2 with
            | 0, _ => exact ⟨y0, hc0⟩
            | 1, _ => exact ⟨y1, hc1⟩
          obtain ⟨z, d0, d1, d2, d3⟩ := hbw
          go_wp2_with fail
          refine (reaches_any s e f c y _).mono ?_
          rintro x w6 ⟨h, b, rfl, _, H2, hb6⟩
          replace H2 := H2 HG.out
          obtain ⟨z, d0, d1, d2, d3⟩ := (Boxed.mk z d0 d1 d2 d3).later hb6
          by_cases hy : y ≤ c
          · obtain ⟨rfl, k0, k1, k2, k3⟩ := H2.1 hy
            clear H2
            simp only at k1
            obtain ⟨A, hA, V1⟩ : ∃ A : Int, y ≤ A ∧ Hid (Cv.val ⟨s, e, f, c⟩ h = A ∧ Cv.err ⟨s, e, f, c⟩ h = 0) := ⟨_, k2, Cv.val_in HG.out k0 (by omega), Cv.err_in HG.out k0 (by omega)⟩
            clear k2
            have K3 := Lib.hid k3; clear k3
            by_cases q2 : 0 < h - 1
            · obtain ⟨B, hB, V2⟩ : ∃ B : Int, B < y ∧ Hid (Cv.val ⟨s, e, f, c⟩ (h - 1) = B ∧ Cv.err ⟨s, e, f, c⟩ (h - 1) = 0) := ⟨_, K3.out (by omega), Cv.val_in HG.out (by omega) (by omega), Cv.err_in HG.out (by omega) (by omega)⟩
              go_wp2_with fail
              refine (rrate_any s e f c h _).mono ?_
              rintro x w' ⟨rfl, rfl⟩
              rw [V1.out.1, V1.out.2]
              go_wp2_with fail
              refine (rrate_any s e f c (h - 1) _).mono ?_
              rintro x w' ⟨rfl, rfl⟩
              rw [V2.out.1, V2.out.2]
              go_wp2_with fail
              go_roundw
              case rel =>
                have hq := fun o => hb6.cell (p := ⟨w4.heap.size + 1, o, none⟩) hsz
                exact ⟨t + 1, by omega, by go_num, hnx.trans (hb6.mono hnx.size), Nat.lt_of_lt_of_le hsz hb6.size, ⟨z, d0, d1, d2, d3⟩, y0, y1, (hq 0).trans hc0, (hq 1).trans hc1⟩
              case measure => simp [intOf]; omega
            · have V2 : Hid (Cv.val ⟨s, e, f, c⟩ 0 = Cv.rate ⟨s, e, f, c⟩ 0 ∧ Cv.err ⟨s, e, f, c⟩ 0 = 0) := ⟨Cv.val_in HG.out (by omega) (by omega), Cv.err_in HG.out (by omega) (by omega)⟩
              by_cases q1 : 0 < h
              · have hB : Cv.rate ⟨s, e, f, c⟩ 0 < y := by have := K3.out q1; rwa [show h - 1 = 0 from by omega] at this
                generalize Cv.rate ⟨s, e, f, c⟩ 0 = B at *
                go_wp2_with fail
                refine (rrate_any s e f c h _).mono ?_
                rintro x w' ⟨rfl, rfl⟩
                rw [V1.out.1, V1.out.2]
                go_wp2_with fail
                refine (rrate_any s e f c 0 _).mono ?_
                rintro x w' ⟨rfl, rfl⟩
                rw [V2.out.1, V2.out.2]
                go_wp2_with fail
                go_roundw
                case rel =>
                  have hq := fun o => hb6.cell (p := ⟨w4.heap.size + 1, o, none⟩) hsz
                  exact ⟨t + 1, by omega, by go_num, hnx.trans (hb6.mono hnx.size), Nat.lt_of_lt_of_le hsz hb6.size, ⟨z, d0, d1, d2, d3⟩, y0, y1, (hq 0).trans hc0, (hq 1).trans hc1⟩
                case measure => simp [intOf]; omega
              · generalize Cv.rate ⟨s, e, f, c⟩ 0 = B at *
                go_wp2_with fail
                refine (rrate_any s e f c h _).mono ?_
                rintro x w' ⟨rfl, rfl⟩
                rw [V1.out.1, V1.out.2]
                go_wp2_with fail
                refine (rrate_any s e f c 0 _).mono ?_
                rintro x w' ⟨rfl, rfl⟩
                rw [V2.out.1, V2.out.2]
                go_wp2_with fail
                go_roundw
                case rel =>
                  have hq := fun o => hb6.cell (p := ⟨w4.heap.size + 1, o, none⟩) hsz
                  exact ⟨t + 1, by omega, by go_num, hnx.trans (hb6.mono hnx.size), Nat.lt_of_lt_of_le hsz hb6.size, ⟨z, d0, d1, d2, d3⟩, y0, y1, (hq 0).trans hc0, (hq 1).trans hc1⟩
                case measure => simp [intOf]; omega
          · obtain ⟨rfl, rfl⟩ := H2.2 (by simp only; omega)
            clear H2
            have V2 : Hid (Cv.val ⟨s, e, f, c⟩ 0 = Cv.rate ⟨s, e, f, c⟩ 0 ∧ Cv.err ⟨s, e, f, c⟩ 0 = 0) := ⟨Cv.val_in HG.out (by omega) (by omega), Cv.err_in HG.out (by omega) (by omega)⟩
            generalize Cv.rate ⟨s, e, f, c⟩ 0 = B at *
            go_wp2_with fail
            refine (rrate_any s e f c 0 _).mono ?_
            rintro x w' ⟨rfl, rfl⟩
            rw [V2.out.1, V2.out.2]
            go_wp2_with fail
            refine (rrate_any s e f c 0 _).mono ?_
            rintro x w' ⟨rfl, rfl⟩
            rw [V2.out.1, V2.out.2]
            go_wp2_with fail
            go_roundw
            case rel =>
              have hq := fun o => hb6.cell (p := ⟨w4.heap.size + 1, o, none⟩) hsz
              exact ⟨t + 1, by omega, by go_num, hnx.trans (hb6.mono hnx.size), Nat.lt_of_lt_of_le hsz hb6.size, ⟨z, d0, d1, d2, d3⟩, y0, y1, (hq 0).trans hc0, (hq 1).trans hc1⟩
            case measure => simp [intOf]; omega
        · obtain rfl : t = 2 := by omega
          go_wp2_with fail
          refine (wakes22_any _).mono ?_
          rintro x w6 ⟨rfl, hb6⟩
          go_wp2_with fail
          go_ret
          exact ⟨rfl, hnx.trans (hb6.mono hnx.size)⟩
  | true =>
    clear H1
    have HG := Lib.hid hg; clear hg
    go_wp2_with fail
    refine (good_any s0 e0 f0 c0 _).mono ?_
    rintro x w3 ⟨rfl, hb3⟩
    rw [HG.out]
    obtain ⟨z, d0, d1, d2, d3⟩ := hbx.later hb3
    replace hb3 := hb2.trans (hb3.mono hb2.size)
    clear hbx hb2 HG
    go_wp2_with fail
    refine (near_any s0 e0 f0 c0 _).mono ?_
    rintro x w4 ⟨s, e, f, c, rfl, hg, hb4⟩
    replace hb4 := hb3.trans (hb4.mono hb3.size)
    clear hb3 d0 d1 d2 d3 z
    have HG := Lib.hid hg
    obtain ⟨a1, a2, a3, a4, a5, a6⟩ := Cv.good_all hg
    simp only at a1 a2 a3 a4 a5 a6
    clear hg
    have hm := emod_range r0 (c - f + 1) (by omega)
    have hbx := (Boxed.made w4 s e f c 23)
    have hb5 := hb4.alloc hb4.size (.cells #[.int .i64 s, .int .i64 e, .int .i64 f, .int .i64 c] 23)
    clear hb4
    go_wp2_with fail
    by_cases hp : 0 < r0
    all_goals
      go_region
      go_wp2_with fail
      go_loopw [49] (fun v49 wx => ∃ t : Nat, t ≤ 2 ∧ v49 = .int .i64 t ∧ Below w.heap.size w wx ∧ w4.heap.size + 1 < wx.heap.size ∧ Boxed wx w4.heap.size s e f c ∧ ∃ y0 y1 : Int, wx.cell? ⟨w4.heap.size + 1, 0, none⟩ = some (.int .i64 y0) ∧ wx.cell? ⟨w4.heap.size + 1, 1, none⟩ = some (.int .i64 y1)) (fun v49 _ => 2 - (intOf v49).toNat)
      case atStart => exact ⟨0, by omega, rfl, (hb5.alloc hb5.size _).drew, by simp, (hbx.alloc _).later ((Below.refl _ _).drew), _, _, by simp [World.cell?_alloc_at]; rfl, by simp [World.cell?_alloc_at]; rfl⟩
      case round =>
        obtain ⟨t, ht, rfl, hnx, hsz, hbw, y0, y1, hc0, hc1⟩ := hrel
        by_cases h2 : t < 2
        · obtain ⟨y, hc⟩ : ∃ y : Int, wr.cell? ⟨w4.heap.size + 1, t, none⟩ = some (.int .i64 y) := by
            match t, h2 with
            | 0, _ => exact ⟨y0, hc0⟩
            | 1, _ => exact ⟨y1, hc1⟩
          obtain ⟨z, d0, d1, d2, d3⟩ := hbw
          go_wp2_with fail
          refine (reaches_any s e f c y _).mono ?_
          rintro x w6 ⟨h, b, rfl, _, H2, hb6⟩
          replace H2 := H2 HG.out
          obtain ⟨z, d0, d1, d2, d3⟩ := (Boxed.mk z d0 d1 d2 d3).later hb6
          by_cases hy : y ≤ c
          · obtain ⟨rfl, k0, k1, k2, k3⟩ := H2.1 hy
            clear H2
            simp only at k1
            obtain ⟨A, hA, V1⟩ : ∃ A : Int, y ≤ A ∧ Hid (Cv.val ⟨s, e, f, c⟩ h = A ∧ Cv.err ⟨s, e, f, c⟩ h = 0) := ⟨_, k2, Cv.val_in HG.out k0 (by omega), Cv.err_in HG.out k0 (by omega)⟩
            clear k2
            have K3 := Lib.hid k3; clear k3
            by_cases q2 : 0 < h - 1
            · obtain ⟨B, hB, V2⟩ : ∃ B : Int, B < y ∧ Hid (Cv.val ⟨s, e, f, c⟩ (h - 1) = B ∧ Cv.err ⟨s, e, f, c⟩ (h - 1) = 0) := ⟨_, K3.out (by omega), Cv.val_in HG.out (by omega) (by omega), Cv.err_in HG.out (by omega) (by omega)⟩
              go_wp2_with fail
              refine (rrate_any s e f c h _).mono ?_
              rintro x w' ⟨rfl, rfl⟩
              rw [V1.out.1, V1.out.2]
              go_wp2_with fail
              refine (rrate_any s e f c (h - 1) _).mono ?_
              rintro x w' ⟨rfl, rfl⟩
              rw [V2.out.1, V2.out.2]
              go_wp2_with fail
              go_roundw
              case rel =>
                have hq := fun o => hb6.cell (p := ⟨w4.heap.size + 1, o, none⟩) hsz
                exact ⟨t + 1, by omega, by go_num, hnx.trans (hb6.mono hnx.size), Nat.lt_of_lt_of_le hsz hb6.size, ⟨z, d0, d1, d2, d3⟩, y0, y1, (hq 0).trans hc0, (hq 1).trans hc1⟩
              case measure => simp [intOf]; omega
            · have V2 : Hid (Cv.val ⟨s, e, f, c⟩ 0 = Cv.rate ⟨s, e, f, c⟩ 0 ∧ Cv.err ⟨s, e, f, c⟩ 0 = 0) := ⟨Cv.val_in HG.out (by omega) (by omega), Cv.err_in HG.out (by omega) (by omega)⟩
              by_cases q1 : 0 < h
              · have hB : Cv.rate ⟨s, e, f, c⟩ 0 < y := by have := K3.out q1; rwa [show h - 1 = 0 from by omega] at this
                generalize Cv.rate ⟨s, e, f, c⟩ 0 = B at *
                go_wp2_with fail
                refine (rrate_any s e f c h _).mono ?_
                rintro x w' ⟨rfl, rfl⟩
                rw [V1.out.1, V1.out.2]
                go_wp2_with fail
                refine (rrate_any s e f c 0 _).mono ?_
                rintro x w' ⟨rfl, rfl⟩
                rw [V2.out.1, V2.out.2]
                go_wp2_with fail
                go_roundw
                case rel =>
                  have hq := fun o => hb6.cell (p := ⟨w4.heap.size + 1, o, none⟩) hsz
                  exact ⟨t + 1, by omega, by go_num, hnx.trans (hb6.mono hnx.size), Nat.lt_of_lt_of_le hsz hb6.size, ⟨z, d0, d1, d2, d3⟩, y0, y1, (hq 0).trans hc0, (hq 1).trans hc1⟩
                case measure => simp [intOf]; omega
              · generalize Cv.rate ⟨s, e, f, c⟩ 0 = B at *
                go_wp2_with fail
                refine (rrate_any s e f c h _).mono ?_
                rintro x w' ⟨rfl, rfl⟩
                rw [V1.out.1, V1.out.2]
                go_wp2_with fail
                refine (rrate_any s e f c 0 _).mono ?_
                rintro x w' ⟨rfl, rfl⟩
                rw [V2.out.1, V2.out.2]
                go_wp2_with fail
                go_roundw
                case rel =>
                  have hq := fun o => hb6.cell (p := ⟨w4.heap.size + 1, o, none⟩) hsz
                  exact ⟨t + 1, by omega, by go_num, hnx.trans (hb6.mono hnx.size), Nat.lt_of_lt_of_le hsz hb6.size, ⟨z, d0, d1, d2, d3⟩, y0, y1, (hq 0).trans hc0, (hq 1).trans hc1⟩
                case measure => simp [intOf]; omega
          · obtain ⟨rfl, rfl⟩ := H2.2 (by simp only; omega)
            clear H2
            have V2 : Hid (Cv.val ⟨s, e, f, c⟩ 0 = Cv.rate ⟨s, e, f, c⟩ 0 ∧ Cv.err ⟨s, e, f, c⟩ 0 = 0) := ⟨Cv.val_in HG.out (by omega) (by omega), Cv.err_in HG.out (by omega) (by omega)⟩
            generalize Cv.rate ⟨s, e, f, c⟩ 0 = B at *
            go_wp2_with fail
            refine (rrate_any s e f c 0 _).mono ?_
            rintro x w' ⟨rfl, rfl⟩
            rw [V2.out.1, V2.out.2]
            go_wp2_with fail
            refine (rrate_any s e f c 0 _).mono ?_
            rintro x w' ⟨rfl, rfl⟩
            rw [V2.out.1, V2.out.2]
            go_wp2_with fail
            go_roundw
            case rel =>
              have hq := fun o => hb6.cell (p := ⟨w4.heap.size + 1, o, none⟩) hsz
              exact ⟨t + 1, by omega, by go_num, hnx.trans (hb6.mono hnx.size), Nat.lt_of_lt_of_le hsz hb6.size, ⟨z, d0, d1, d2, d3⟩, y0, y1, (hq 0).trans hc0, (hq 1).trans hc1⟩
            case measure => simp [intOf]; omega
        · obtain rfl : t = 2 := by omega
          go_wp2_with fail
          refine (wakes22_any _).mono ?_
          rintro x w6 ⟨rfl, hb6⟩
          go_wp2_with fail
          go_ret
          exact ⟨rfl, hnx.trans (hb6.mono hnx.size)⟩

theorem walkCurveReaches (s e f c r : Int) (w : World) (_w0 : ∀ n ∈ [s, e, f, c], -9223372036854775808 ≤ n ∧ n ≤ 9223372036854775807) (w1 : (Lit.int .i64 r).wf = true) :
    Calls Try.prog 4 #[.agg #[.int .i64 s, .int .i64 e, .int .i64 f, .int .i64 c], .int .i64 r] w fun e w' => e = .returned (.bool true) ∧ Below w.heap.size w w' :=
  law4 s e f c r w (bounds_i64 w1)
end Go.Proofs.Ytiokcoicipmkmaa
