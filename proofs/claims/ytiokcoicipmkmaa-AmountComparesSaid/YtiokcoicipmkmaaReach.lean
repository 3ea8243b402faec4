/- Contracts of Reaches and of wakes of layer 22. Conditions: none; Reaches at a good curve gives the first height at which the rate is no less. -/
import Derived.Test.YtiokcoicipmkmaaCur2
namespace Go.Proofs.Ytiokcoicipmkmaa
open Go.RowKit

/-- the first height at which the rate is no less -/
def Cv.First (x : Cv) (r h : Int) : Prop := 0 ≤ h ∧ h ≤ x.e ∧ r ≤ x.rate h ∧ (0 < h → x.rate (h - 1) < r)

def ReachEnd (x : Cv) (r : Int) (w : World) (e : Ending) (w' : World) : Prop := ∃ h : Int, e = .returned (.tuple #[.int .i64 h, .bool true]) ∧ x.First r h ∧ Below w.heap.size w w'

theorem Cv.rate_end {x : Cv} : x.rate x.e = x.c := by unfold Cv.rate; rw [if_pos (Int.le_refl _)]

set_option maxHeartbeats 1600000 in
theorem reaches_yes (s e f c r : Int) (w : World) (hg : Cv.good ⟨s, e, f, c⟩ = true) (hr : r ≤ c) :
    Calls Try.prog 19 #[.agg #[.int .i64 s, .int .i64 e, .int .i64 f, .int .i64 c], .int .i64 r] w (ReachEnd ⟨s, e, f, c⟩ r w) := by
  have HG := Lib.hid hg
  obtain ⟨a1, a2, a3, a4, a5, a6⟩ := Cv.good_all hg
  simp only at a1 a2 a3 a4 a5 a6
  clear hg
  go_enter Try.func19, Try.ntmps19
  go_wp2_with fail
  refine (good_any s e f c _).mono ?_
  rintro r w1 ⟨rfl, hb1⟩
  rw [HG.out]
  have hz := hb1.size
  simp only [World.size_alloc] at hz
  have c0 : w1.cell? ⟨w.heap.size, 0, none⟩ = some (.int .i64 s) := by rw [hb1.cell (by simp), World.cell?_alloc_at _ _ _ _ rfl]; rfl
  have c1 : w1.cell? ⟨w.heap.size, 1, none⟩ = some (.int .i64 e) := by rw [hb1.cell (by simp), World.cell?_alloc_at _ _ _ _ rfl]; rfl
  have c2 : w1.cell? ⟨w.heap.size, 2, none⟩ = some (.int .i64 f) := by rw [hb1.cell (by simp), World.cell?_alloc_at _ _ _ _ rfl]; rfl
  have c3 : w1.cell? ⟨w.heap.size, 3, none⟩ = some (.int .i64 c) := by rw [hb1.cell (by simp), World.cell?_alloc_at _ _ _ _ rfl]; rfl
  replace hb1 := ((Below.refl w.heap.size w).alloc (Nat.le_refl _) _).trans (hb1.mono (by simp))
  go_wp2_with fail
  go_quiet (fail)
  go_wp2_with fail
  go_loopw [6, 7] (fun v6 v7 wr => ∃ lo hi : Int, v6 = .int .i64 lo ∧ v7 = .int .i64 hi ∧ 0 ≤ lo ∧ lo ≤ hi ∧ hi ≤ e ∧ Hid (r ≤ Cv.rate ⟨s, e, f, c⟩ hi) ∧ Hid (0 < lo → Cv.rate ⟨s, e, f, c⟩ (lo - 1) < r) ∧ Below w.heap.size w wr ∧ w.heap.size < wr.heap.size ∧
      wr.cell? ⟨w.heap.size, 0, none⟩ = some (.int .i64 s) ∧ wr.cell? ⟨w.heap.size, 1, none⟩ = some (.int .i64 e) ∧ wr.cell? ⟨w.heap.size, 2, none⟩ = some (.int .i64 f) ∧ wr.cell? ⟨w.heap.size, 3, none⟩ = some (.int .i64 c)) (fun v6 v7 _ => (intOf v7 - intOf v6).toNat)
  case atStart => exact ⟨0, e, rfl, rfl, by omega, by omega, by omega, by rw [Hid, Cv.rate_end]; exact hr, fun h => absurd h (by omega), below_drewN hb1 _, hz, c0, c1, c2, c3⟩
  case round =>
    obtain ⟨lo, hi, rfl, rfl, hlo, hlh, hhi, HR, HL, hnx, hsz, d0, d1, d2, d3⟩ := hrel
    by_cases hlt : lo < hi
    · obtain ⟨V, HV⟩ : ∃ V, Hid (V = Cv.rate ⟨s, e, f, c⟩ ((lo + hi) / 2)) := ⟨_, rfl⟩
      have E1 : Hid (Cv.val ⟨s, e, f, c⟩ ((lo + hi) / 2) = V) := by rw [Hid, HV.out]; simp only [Cv.val, HG.out, Bool.true_and]; rw [if_pos]; rw [decide_eq_true_iff]; omega
      have E2 : Hid (Cv.err ⟨s, e, f, c⟩ ((lo + hi) / 2) = 0) := by rw [Hid]; simp only [Cv.err, HG.out, if_true]; rw [if_pos]; omega
      go_wp2_with fail
      refine (rate_any s e f c ((lo + hi) / 2) _).mono ?_
      rintro x w2 ⟨rfl, hb2⟩
      rw [E1.out, E2.out]
      have t := fun o => hb2.cell (p := ⟨w.heap.size, o, none⟩) hsz
      have t0 := (t 0).trans d0
      have t1 := (t 1).trans d1
      have t2 := (t 2).trans d2
      have t3 := (t 3).trans d3
      clear t
      by_cases hV : r ≤ V
      · go_wp2_with fail
        go_roundw
        case rel =>
          exact ⟨lo, (lo + hi) / 2, rfl, rfl, hlo, by omega, by omega, by rw [Hid, ← HV.out]; exact hV, HL, hnx.trans (hb2.mono hnx.size), Nat.lt_of_lt_of_le hsz hb2.size, t0, t1, t2, t3⟩
        case measure => simp [intOf]; omega
      · go_wp2_with fail
        go_roundw
        case rel =>
          exact ⟨(lo + hi) / 2 + 1, hi, rfl, rfl, by omega, by omega, by omega, HR, fun _ => by rw [show (lo + hi) / 2 + 1 - 1 = (lo + hi) / 2 from by omega, ← HV.out]; omega, hnx.trans (hb2.mono hnx.size), Nat.lt_of_lt_of_le hsz hb2.size, t0, t1, t2, t3⟩
        case measure => simp [intOf]; omega
    · obtain rfl : lo = hi := by omega
      go_wp2_with fail
      go_ret2
      exact ⟨lo, rfl, ⟨hlo, hhi, HR.out, HL.out⟩, hnx⟩

theorem reaches_no (s e f c r : Int) (w : World) (h : Cv.good ⟨s, e, f, c⟩ = false ∨ c < r) :
    Calls Try.prog 19 #[.agg #[.int .i64 s, .int .i64 e, .int .i64 f, .int .i64 c], .int .i64 r] w fun e w' => e = .returned (.tuple #[.int .i64 0, .bool false]) ∧ Below w.heap.size w w' := by
  cases hg : Cv.good ⟨s, e, f, c⟩ with
  | false =>
    have HG := Lib.hid hg
    clear hg h
    go_enter Try.func19, Try.ntmps19
    go_wp2_with fail
    refine (good_any s e f c _).mono ?_
    rintro r w1 ⟨rfl, hb1⟩
    rw [HG.out]
    go_wp2_with fail
    go_ret2
    exact ⟨rfl, ((Below.refl _ _).alloc (Nat.le_refl _) _).trans (hb1.mono (by simp))⟩
  | true =>
    have HG := Lib.hid hg
    have hr : c < r := by rw [hg] at h; simpa using h
    clear hg h
    go_enter Try.func19, Try.ntmps19
    go_wp2_with fail
    refine (good_any s e f c _).mono ?_
    rintro r w1 ⟨rfl, hb1⟩
    rw [HG.out]
    have hz := hb1.size
    simp only [World.size_alloc] at hz
    have c3 : w1.cell? ⟨w.heap.size, 3, none⟩ = some (.int .i64 c) := by rw [hb1.cell (by simp), World.cell?_alloc_at _ _ _ _ rfl]; rfl
    go_wp2_with fail
    go_ret2
    exact ⟨rfl, ((Below.refl _ _).alloc (Nat.le_refl _) _).trans (hb1.mono (by simp))⟩

theorem first_const {h : Int} (H : Cv.First ⟨10, 13, 100, 200⟩ 135 h) : h = 12 := by
  obtain ⟨h0, h1, h2, h3⟩ := H
  have g : Cv.good ⟨10, 13, 100, 200⟩ = true := by decide
  by_cases k : h ≤ 11
  · have m := Cv.rate_mono g k
    have e : Cv.rate ⟨10, 13, 100, 200⟩ 11 = 134 := by decide
    omega
  · by_cases k' : h = 12
    · exact k'
    · have e : Cv.rate ⟨10, 13, 100, 200⟩ 12 = 167 := by decide
      have m := Cv.rate_mono g (show (12 : Int) ≤ h - 1 by omega)
      have := h3 (by omega)
      omega

set_option maxHeartbeats 1600000 in
theorem wakes22_any (w : World) : Calls Try.prog 18 #[] w fun e w' => e = .returned (.bool true) ∧ Below w.heap.size w w' := by
  go_enter Try.func18, Try.ntmps18
  go_wp2_with fail
  refine (rate_any 10 13 100 200 11 _).mono ?_
  rintro x w2 ⟨rfl, hb2⟩
  rw [show Cv.val ⟨10, 13, 100, 200⟩ 11 = 134 from by decide, show Cv.err ⟨10, 13, 100, 200⟩ 11 = 0 from by decide]
  have hz := hb2.size
  simp only [World.size_alloc] at hz
  have c0 : w2.cell? ⟨w.heap.size, 0, none⟩ = some (.int .i64 10) := by rw [hb2.cell (by simp), World.cell?_alloc_at _ _ _ _ rfl]; rfl
  have c1 : w2.cell? ⟨w.heap.size, 1, none⟩ = some (.int .i64 13) := by rw [hb2.cell (by simp), World.cell?_alloc_at _ _ _ _ rfl]; rfl
  have c2 : w2.cell? ⟨w.heap.size, 2, none⟩ = some (.int .i64 100) := by rw [hb2.cell (by simp), World.cell?_alloc_at _ _ _ _ rfl]; rfl
  have c3 : w2.cell? ⟨w.heap.size, 3, none⟩ = some (.int .i64 200) := by rw [hb2.cell (by simp), World.cell?_alloc_at _ _ _ _ rfl]; rfl
  replace hb2 := ((Below.refl w.heap.size w).alloc (Nat.le_refl _) _).trans (hb2.mono (by simp))
  go_wp2_with fail
  refine (rate_any 10 13 100 200 12 _).mono ?_
  rintro x w3 ⟨rfl, hb3⟩
  rw [show Cv.val ⟨10, 13, 100, 200⟩ 12 = 167 from by decide, show Cv.err ⟨10, 13, 100, 200⟩ 12 = 0 from by decide]
  have t := fun o => hb3.cell (p := ⟨w.heap.size, o, none⟩) hz
  replace c0 := (t 0).trans c0
  replace c1 := (t 1).trans c1
  replace c2 := (t 2).trans c2
  replace c3 := (t 3).trans c3
  clear t
  replace hz := Nat.lt_of_lt_of_le hz hb3.size
  replace hb3 := hb2.trans (hb3.mono hb2.size); clear hb2
  go_wp2_with fail
  refine (reaches_yes 10 13 100 200 135 _ (by decide) (by decide)).mono ?_
  rintro x w4 ⟨h, rfl, hF, hb4⟩
  obtain rfl := first_const hF
  have t := fun o => hb4.cell (p := ⟨w.heap.size, o, none⟩) hz
  replace c0 := (t 0).trans c0
  replace c1 := (t 1).trans c1
  replace c2 := (t 2).trans c2
  replace c3 := (t 3).trans c3
  clear t hF
  replace hz := Nat.lt_of_lt_of_le hz hb4.size
  replace hb4 := hb3.trans (hb4.mono hb3.size); clear hb3
  go_wp2_with fail
  refine (rate_any 2 1 0 0 1 _).mono ?_
  rintro x w5 ⟨rfl, hb5⟩
  rw [show Cv.val ⟨2, 1, 0, 0⟩ 1 = 0 from by decide, show Cv.err ⟨2, 1, 0, 0⟩ 1 = 2 from by decide]
  have t := fun o => hb5.cell (p := ⟨w.heap.size, o, none⟩) hz
  replace c0 := (t 0).trans c0
  replace c1 := (t 1).trans c1
  replace c2 := (t 2).trans c2
  replace c3 := (t 3).trans c3
  clear t
  replace hz := Nat.lt_of_lt_of_le hz hb5.size
  replace hb5 := hb4.trans (hb5.mono hb4.size); clear hb4
  go_wp2_with fail
  refine (good_any 10 13 100 200 _).mono ?_
  rintro x w6 ⟨rfl, hb6⟩
  rw [show Cv.good ⟨10, 13, 100, 200⟩ = true from by decide]
  go_wp2_with fail
  go_ret
  exact ⟨rfl, hb5.trans (hb6.mono hb5.size)⟩
end Go.Proofs.Ytiokcoicipmkmaa
