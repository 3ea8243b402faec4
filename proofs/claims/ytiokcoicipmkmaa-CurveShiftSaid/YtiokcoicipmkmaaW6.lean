/- The walk of the law CurveShift: it returns true. Conditions: none. -/
import Derived.Test.YtiokcoicipmkmaaAgg
import Derived.Deep.RegionHeld3
import Derived.Deep.DeepCutAuto
namespace Go.Proofs.Ytiokcoicipmkmaa
open Go.RowKit

/-- the shift's own block, while the first region runs -/
abbrev Shf (s0 e0 f0 c0 b0 h0 u0 : Int) (w w' : World) : Prop :=
  w.heap.size < w'.heap.size ∧ w'.cell? ⟨w.heap.size, 0, none⟩ = some (.int .i64 s0) ∧ w'.cell? ⟨w.heap.size, 1, none⟩ = some (.int .i64 e0) ∧ w'.cell? ⟨w.heap.size, 2, none⟩ = some (.int .i64 f0) ∧ w'.cell? ⟨w.heap.size, 3, none⟩ = some (.int .i64 c0) ∧
    w'.cell? ⟨w.heap.size, 4, none⟩ = some (.int .i64 b0) ∧ w'.cell? ⟨w.heap.size, 5, none⟩ = some (.int .i64 h0) ∧ w'.cell? ⟨w.heap.size, 6, none⟩ = some (.int .i64 u0) ∧ Below w.heap.size w w'
section
variable {s0 e0 f0 c0 b0 h0 u0 : Int} {w W W' : World}
theorem Shf.first (t : TypeId) : Shf s0 e0 f0 c0 b0 h0 u0 w (w.alloc (.cells #[.int .i64 s0, .int .i64 e0, .int .i64 f0, .int .i64 c0, .int .i64 b0, .int .i64 h0, .int .i64 u0] t)).drew :=
  ⟨by simp, by simp [World.cell?_alloc_new], by simp [World.cell?_alloc_new], by simp [World.cell?_alloc_new], by simp [World.cell?_alloc_new], by simp [World.cell?_alloc_new], by simp [World.cell?_alloc_new], by simp [World.cell?_alloc_new], ((Below.refl _ _).alloc (Nat.le_refl _) _).drew⟩
theorem Shf.step (h : Shf s0 e0 f0 c0 b0 h0 u0 w W) (hb : Below W.heap.size W W') : Shf s0 e0 f0 c0 b0 h0 u0 w W' := by
  obtain ⟨h1, h2, h3, h4, h5, h6, h7, h8, h9⟩ := h
  have c := fun o => hb.cell (p := ⟨w.heap.size, o, none⟩) h1
  exact ⟨Nat.lt_of_lt_of_le h1 hb.size, (c 0).trans h2, (c 1).trans h3, (c 2).trans h4, (c 3).trans h5, (c 4).trans h6, (c 5).trans h7, (c 6).trans h8, h9.trans (hb.mono h9.size)⟩
theorem Shf.made (h : Shf s0 e0 f0 c0 b0 h0 u0 w W) (o : Obj) : Shf s0 e0 f0 c0 b0 h0 u0 w (W.alloc o) := h.step ((Below.refl _ _).alloc (Nat.le_refl _) _)
theorem Shf.drewMade (h : Shf s0 e0 f0 c0 b0 h0 u0 w W.drew) (o : Obj) : Shf s0 e0 f0 c0 b0 h0 u0 w (W.alloc o).drew := h.made o
theorem Shf.swap {o o' : Obj} (h : Shf s0 e0 f0 c0 b0 h0 u0 w (W.alloc o)) (hz : w.heap.size < W.heap.size) : Shf s0 e0 f0 c0 b0 h0 u0 w (W.alloc o') := by
  obtain ⟨h1, h2, h3, h4, h5, h6, h7, h8, h9⟩ := h
  have c : ∀ i, (W.alloc o').cell? ⟨w.heap.size, i, none⟩ = (W.alloc o).cell? ⟨w.heap.size, i, none⟩ := fun i => by
    rw [World.cell?_alloc_past _ _ _ hz, World.cell?_alloc_past _ _ _ hz]
  refine ⟨by simp; omega, (c 0).trans h2, (c 1).trans h3, (c 2).trans h4, (c 3).trans h5, (c 4).trans h6, (c 5).trans h7, (c 6).trans h8, ?_⟩
  have hW : Below w.heap.size w W := ⟨h9.os, h9.tape, h9.output, by omega, fun k hk => by
    rw [← h9.block k hk, Below.heap_alloc _ _ _ (by omega)]⟩
  exact hW.alloc (by omega) _
theorem Shf.store (h : Shf s0 e0 f0 c0 b0 h0 u0 w W) (j : Nat) (v : Value) : Shf s0 e0 f0 c0 b0 h0 u0 w (W.setCell ⟨w.heap.size + 1, j, none⟩ v) := by
  obtain ⟨h1, h2, h3, h4, h5, h6, h7, h8, h9⟩ := h
  have c : ∀ o, (W.setCell ⟨w.heap.size + 1, j, none⟩ v).cell? ⟨w.heap.size, o, none⟩ = W.cell? ⟨w.heap.size, o, none⟩ := fun o => by
    refine World.cell?_of_block ?_
    rw [Below.heap_setCell]
    show w.heap.size ≠ w.heap.size + 1
    omega
  exact ⟨by simpa using h1, (c 0).trans h2, (c 1).trans h3, (c 2).trans h4, (c 3).trans h5, (c 4).trans h6, (c 5).trans h7, (c 6).trans h8, h9.setCell (by simp) v⟩
end

/-- near's end, where the block behind it was made before -/
def NearEnd2 (w : World) (n : Nat) (x : Ending) (w1 : World) : Prop := ∃ s e f c : Int, x = .returned (.agg #[.int .i64 s, .int .i64 e, .int .i64 f, .int .i64 c]) ∧ Cv.good ⟨s, e, f, c⟩ = true ∧ Below w.heap.size w w1 ∧
    (w1.cell? ⟨n, 0, none⟩ = some (.int .i64 0) ∧ w1.cell? ⟨n, 1, none⟩ = some (.int .i64 0) ∧ w1.cell? ⟨n, 2, none⟩ = some (.int .i64 0) ∧ w1.cell? ⟨n, 3, none⟩ = some (.int .i64 0)) ∧
    (w1.frozen? ⟨n, 0, none⟩ = false ∧ w1.frozen? ⟨n, 1, none⟩ = false ∧ w1.frozen? ⟨n, 2, none⟩ = false ∧ w1.frozen? ⟨n, 3, none⟩ = false)
theorem near_after (s e f c : Int) (w : World) (o : Obj) : Calls Try.prog 13 #[.agg #[.int .i64 s, .int .i64 e, .int .i64 f, .int .i64 c]] ((w.alloc o).alloc (.cells #[.int .i64 0, .int .i64 0, .int .i64 0, .int .i64 0] 23)).drew
    (NearEnd2 ((w.alloc o).alloc (.cells #[.int .i64 0, .int .i64 0, .int .i64 0, .int .i64 0] 23)).drew (w.heap.size + 1)) := by
  refine (near_any s e f c _).mono ?_
  rintro x w1 ⟨s, e, f, c, rfl, hg, hb1⟩
  refine ⟨s, e, f, c, rfl, hg, hb1, ?_, ?_⟩
  · refine ⟨?_, ?_, ?_, ?_⟩
    all_goals
      refine (hb1.cell (by simp)).trans ?_
      simp [World.cell?_alloc_at]
  · refine ⟨?_, ?_, ?_, ?_⟩
    all_goals
      refine (hb1.frozen (by simp)).trans ?_
      simp [World.frozen?_alloc_at]

theorem Boxed.stored {w1 : World} {n : Nat} (s e f c : Int) {a0 a1 a2 a3 : Value} (hn : n < w1.heap.size) (v0 : w1.cell? ⟨n, 0, none⟩ = some a0) (v1 : w1.cell? ⟨n, 1, none⟩ = some a1) (v2 : w1.cell? ⟨n, 2, none⟩ = some a2) (v3 : w1.cell? ⟨n, 3, none⟩ = some a3) :
    Boxed ((((w1.setCell ⟨n, 0, none⟩ (.int .i64 s)).setCell ⟨n, 1, none⟩ (.int .i64 e)).setCell ⟨n, 2, none⟩ (.int .i64 f)).setCell ⟨n, 3, none⟩ (.int .i64 c)) n s e f c := by
  refine ⟨by simpa [World.setCell] using hn, ?_, ?_, ?_, ?_⟩
  all_goals simp [go_sem, World.cell?_setCell_other, v0, v1, v2, v3]

/-- what stands behind the first region -/
def Near3 (b0 h0 u0 : Int) (w : World) (s3 s4 s5 : Value) (wx : World) : Prop := ∃ (g : Nat) (s e f c : Int), s3 = .pointer (some ⟨g, 0, none⟩) ∧ s4 = .int .i64 h0 ∧ s5 = .int .i64 u0 ∧ Cv.good ⟨s, e, f, c⟩ = true ∧ Boxed wx g s e f c ∧ w.heap.size < wx.heap.size ∧
  wx.cell? ⟨w.heap.size, 4, none⟩ = some (.int .i64 b0) ∧ Below w.heap.size w wx

theorem near3_of {s0 e0 f0 c0 b0 h0 u0 : Int} {w wx : World} {g : Nat} {s e f c : Int} (hg : Cv.good ⟨s, e, f, c⟩ = true) (hb : Boxed wx g s e f c) (hS : Shf s0 e0 f0 c0 b0 h0 u0 w wx) :
    Near3 b0 h0 u0 w (.pointer (some ⟨g, 0, none⟩)) (.int .i64 h0) (.int .i64 u0) wx := ⟨g, s, e, f, c, rfl, rfl, rfl, hg, hb, hS.1, hS.2.2.2.2.2.1, hS.2.2.2.2.2.2.2.2⟩

theorem shift_of {s e f c k u h : Int} (hg : Cv.good ⟨s, e, f, c⟩ = true) (k0 : 0 ≤ k) (k1 : k ≤ 1000000 - e) (u0 : 0 ≤ u) (u1 : u ≤ 100000000 - c) (h1 : 0 ≤ h) (h2 : h ≤ 1000000 - k) :
    ∃ A : Int, 0 ≤ A ∧ A ≤ c ∧ (Cv.val ⟨s, e, f, c⟩ h = A ∧ Cv.err ⟨s, e, f, c⟩ h = 0) ∧ (Cv.val ⟨s + k, e + k, f, c⟩ (h + k) = A ∧ Cv.err ⟨s + k, e + k, f, c⟩ (h + k) = 0) ∧
      (Cv.val ⟨s, e, f + u, c + u⟩ h = A + u ∧ Cv.err ⟨s, e, f + u, c + u⟩ h = 0) := by
  obtain ⟨a1, a2, a3, a4, a5, a6⟩ := Cv.good_all hg
  simp only at a1 a2 a3 a4 a5 a6
  have g2 : Cv.good ⟨s + k, e + k, f, c⟩ = true := by show decide (0 ≤ s + k ∧ s + k ≤ e + k ∧ e + k ≤ 1000000 ∧ 0 ≤ f ∧ f ≤ c ∧ c ≤ 100000000) = true; rw [decide_eq_true_iff]; omega
  have g3 : Cv.good ⟨s, e, f + u, c + u⟩ = true := by show decide (0 ≤ s ∧ s ≤ e ∧ e ≤ 1000000 ∧ 0 ≤ f + u ∧ f + u ≤ c + u ∧ c + u ≤ 100000000) = true; rw [decide_eq_true_iff]; omega
  have hr := Cv.rate_bounds hg h
  simp only at hr
  refine ⟨Cv.rate ⟨s, e, f, c⟩ h, by omega, by omega, ⟨Cv.val_in hg h1 (by omega), Cv.err_in hg h1 (by omega)⟩, ⟨?_, Cv.err_in g2 (by omega) (by omega)⟩, ⟨?_, Cv.err_in g3 h1 (by omega)⟩⟩
  · rw [Cv.val_in g2 (by omega) (by omega)]; exact Cv.rate_shift ⟨s, e, f, c⟩ k h
  · rw [Cv.val_in g3 h1 (by omega)]; exact Cv.rate_up ⟨s, e, f, c⟩ u h

set_option maxRecDepth 100000 in
set_option maxHeartbeats 6400000 in
theorem law6 (s0 e0 f0 c0 b0 h0 u0 : Int) (w : World) :
    Calls Try.prog 6 #[.agg #[.int .i64 s0, .int .i64 e0, .int .i64 f0, .int .i64 c0, .int .i64 b0, .int .i64 h0, .int .i64 u0]] w fun e w' => e = .returned (.bool true) ∧ Below w.heap.size w w' := by
  go_enter Try.func6, Try.ntmps6
  go_upto_region 1 with fail
  go_cut [3, 4, 5] (fun s3 s4 s5 wx => Near3 b0 h0 u0 w s3 s4 s5 wx)
  case first =>
    go_region_held3 (fun w' => w.heap.size < w'.heap.size ∧ w'.cell? ⟨w.heap.size, 0, none⟩ = some (.int .i64 s0) ∧ w'.cell? ⟨w.heap.size, 1, none⟩ = some (.int .i64 e0) ∧ w'.cell? ⟨w.heap.size, 2, none⟩ = some (.int .i64 f0) ∧ w'.cell? ⟨w.heap.size, 3, none⟩ = some (.int .i64 c0) ∧ w'.cell? ⟨w.heap.size, 4, none⟩ = some (.int .i64 b0) ∧ w'.cell? ⟨w.heap.size, 5, none⟩ = some (.int .i64 h0) ∧ w'.cell? ⟨w.heap.size, 6, none⟩ = some (.int .i64 u0) ∧ Below w.heap.size w w')
      (first | (with_reducible exact Shf.first 39) | (refine Shf.step ?_ hb1; assumption) | (with_reducible refine Shf.made ?_ _; assumption) | (with_reducible refine Shf.drewMade ?_ _; assumption) | (refine Shf.swap (o := .cells #[.int .i64 0, .int .i64 0, .int .i64 0, .int .i64 0] 23) ?_ hz; assumption) | (refine Shf.store (Shf.store (Shf.store (Shf.store ?_ _ _) _ _) _ _) _ _; assumption))
      (first | (go_at_call 13; (with_reducible refine (near_after s0 e0 f0 c0 w _).mono ?_); rintro x w1 ⟨s, e, f, c, rfl, hg, hb1, ⟨v0, v1, v2, v3⟩, ⟨q0, q1, q2, q3⟩⟩) | (go_at_call 13; refine (near_any s0 e0 f0 c0 _).mono ?_; rintro x w1 ⟨s, e, f, c, rfl, hg, hb1⟩; have hz : w.heap.size < w1.heap.size := Nat.lt_of_lt_of_le (by simp) hb1.size))
    · go_wp2_with fail
      go_meet
      exact near3_of hg (Boxed.made _ _ _ _ _ _) (by assumption)
    · go_wp2_with fail
      go_meet
      exact near3_of hg (Boxed.stored s e f c (Nat.lt_of_lt_of_le (by simp) hb1.size) v0 v1 v2 v3) (by assumption)
  case rest =>
    obtain ⟨g, s, e, f, c, rfl, rfl, rfl, hg, hbx, hz, t4, hb⟩ := hcut
    have HG := Lib.hid hg
    obtain ⟨a1, a2, a3, a4, a5, a6⟩ := Cv.good_all hg
    simp only at a1 a2 a3 a4 a5 a6
    clear hg
    obtain ⟨z, d0, d1, d2, d3⟩ := hbx
    have hm1 := emod_range b0 (1000000 - e + 1) (by omega)
    have hm2 := emod_range u0 (100000000 - c + 1) (by omega)
    go_upto_region 2 with fail
    go_cut [6] (fun s6 wx => ∃ k : Int, s6 = .int .i64 k ∧ 0 ≤ k ∧ k ≤ 1000000 - e ∧ wc = wx)
    case first =>
      go_wp2_with fail
      all_goals
        go_meet
        exact ⟨_, rfl, by omega, by omega, rfl⟩
    case rest =>
      obtain ⟨k, rfl, k0, k1, rfl⟩ := hcut
      clear hm1
      go_upto_region 3 with fail
      go_cut [7] (fun s7 wx => ∃ u : Int, s7 = .int .i64 u ∧ 0 ≤ u ∧ u ≤ 100000000 - c ∧ wc = wx)
      case first =>
        go_wp2_with fail
        all_goals
          go_meet
          exact ⟨_, rfl, by omega, by omega, rfl⟩
      case rest =>
        obtain ⟨u, rfl, u0, u1, rfl⟩ := hcut
        clear hm2
        have hm1 := emod_range h0 (1000000 - k + 1) (by omega)
        go_upto_region 4 with fail
        go_cut [8] (fun s8 wx => ∃ h : Int, s8 = .int .i64 h ∧ 0 ≤ h ∧ h ≤ 1000000 - k ∧ wc = wx)
        case first =>
          go_wp2_with fail
          all_goals
            go_meet
            exact ⟨_, rfl, by omega, by omega, rfl⟩
        case rest =>
          obtain ⟨h, rfl, h1, h2, rfl⟩ := hcut
          clear hm1
          obtain ⟨A, ha0, ha1, V1, V2, V3⟩ := shift_of HG.out k0 k1 u0 u1 h1 h2
          have V1 := Lib.hid V1
          have V2 := Lib.hid V2
          have V3 := Lib.hid V3
          have by0 := (Boxed.made wc (s + k) (e + k) f c 23).alloc (.cells #[.int .i64 s, .int .i64 e, .int .i64 (f + u), .int .i64 (c + u)] 23)
          have bz0 := Boxed.made (wc.alloc (.cells #[.int .i64 (s + k), .int .i64 (e + k), .int .i64 f, .int .i64 c] 23)) s e (f + u) (c + u) 23
          rw [World.size_alloc] at bz0
          have hb2 := (hb.alloc hb.size (.cells #[.int .i64 (s + k), .int .i64 (e + k), .int .i64 f, .int .i64 c] 23)).alloc (by have := hb.size; simp; omega) (.cells #[.int .i64 s, .int .i64 e, .int .i64 (f + u), .int .i64 (c + u)] 23)
          go_wp2_with fail
          refine (rate_any s e f c h _).mono ?_
          rintro x w3 ⟨rfl, hb3⟩
          rw [V1.out.1, V1.out.2]
          obtain ⟨yz, y0, y1, y2, y3⟩ := by0.later hb3
          have bz1 := bz0.later hb3
          replace hb3 := hb2.trans (hb3.mono hb2.size)
          clear by0 bz0 hb2
          go_wp2_with fail
          refine (rate_any (s + k) (e + k) f c (h + k) _).mono ?_
          rintro x w4 ⟨rfl, hb4⟩
          rw [V2.out.1, V2.out.2]
          obtain ⟨zz, z0, z1, z2, z3⟩ := bz1.later hb4
          replace hb4 := hb3.trans (hb4.mono hb3.size)
          clear bz1 hb3 y0 y1 y2 y3
          go_wp2_with fail
          refine (rate_any s e (f + u) (c + u) h _).mono ?_
          rintro x w5 ⟨rfl, hb5⟩
          rw [V3.out.1, V3.out.2]
          replace hb5 := hb4.trans (hb5.mono hb4.size)
          clear z0 z1 z2 z3 hb4
          go_wp2_with fail
          refine (wakes22_any _).mono ?_
          rintro x w6 ⟨rfl, hb6⟩
          replace hb6 := hb5.trans (hb6.mono hb5.size)
          go_wp2_with fail
          go_ret
          exact ⟨ret_bool (by simp), hb6⟩

theorem walkCurveShift (s e f c b h u : Int) (w : World) (_w0 : ∀ n ∈ [s, e, f, c, b, h, u], -9223372036854775808 ≤ n ∧ n ≤ 9223372036854775807) :
    Calls Try.prog 6 #[.agg #[.int .i64 s, .int .i64 e, .int .i64 f, .int .i64 c, .int .i64 b, .int .i64 h, .int .i64 u]] w fun e w' => e = .returned (.bool true) ∧ Below w.heap.size w w' :=
  law6 s e f c b h u w
end Go.Proofs.Ytiokcoicipmkmaa
