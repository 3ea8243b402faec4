/- Contracts of the curve: rising, Good, up and Rate return what the plain functions say. Conditions: none. -/
import Derived.Test.YtiokcoicipmkmaaRows
import Derived.Test.YtiokcoicipmkmaaPlain
import Derived.WalkKit
import Derived.ProofKit
import Derived.Handy
import Derived.WalkSpells
import Derived.WalkLawsBesides
import Derived.Lib.Hide
import Derived.Lib.QuietBelow
import Derived.Deep.QuietTactic
import Derived.BigQuiet
import Derived.OpenShut
namespace Go.Proofs.Ytiokcoicipmkmaa
open Go.RowKit

theorem ret_bool {a b : Bool} (h : a = b) : Ending.returned (.bool a) = .returned (.bool b) := by rw [h]
theorem ret_int {k : IntKind} {a b : Int} (h : a = b) : Ending.returned (.int k a) = .returned (.int k b) := by rw [h]
theorem ret_ints {k l : IntKind} {a b c d : Int} (h : a = b) (h' : c = d) : Ending.returned (.tuple #[.int k a, .int l c]) = .returned (.tuple #[.int k b, .int l d]) := by rw [h, h']

theorem below_drewN {B : Nat} {a w : World} (h : Below B a w) (n : Nat) : Below B a (w.drewN n) := h.trans ⟨rfl, rfl, rfl, Nat.le_refl _, fun _ _ => rfl⟩

/-- do numbers rise? -/
def rises (xs : List Int) : Bool := decide (∀ i, i < xs.length → 0 < i → xs.getD (i - 1) 0 ≤ xs.getD i 0)

theorem rising_any (xs : List Int) (b : Nat) (w : World) (hlen : xs.length ≤ 1000) (hb : b < w.heap.size) (hc : ∀ i, i < xs.length → w.cell? ⟨b, i, none⟩ = some (.int .i64 (xs.getD i 0))) :
    Calls Try.prog 36 #[.slice (some ⟨b, 0, none⟩) xs.length xs.length] w fun e w' => e = .returned (.bool (rises xs)) ∧ Below w.heap.size w w' := by
  go_enter Try.func36, Try.ntmps36
  go_wp2_with fail
  go_loopw [6] (fun v6 wr => ∃ k : Nat, k ≤ xs.length ∧ v6 = .int .i64 k ∧ Hid (∀ i, i < k → 0 < i → xs.getD (i - 1) 0 ≤ xs.getD i 0) ∧ Below w.heap.size w wr) (fun v6 _ => xs.length - (intOf v6).toNat)
  case atStart => exact ⟨0, by omega, rfl, fun _ h => absurd h (by omega), Below.refl _ _⟩
  case round =>
    obtain ⟨k, hk, rfl, hr, hnx⟩ := hrel
    by_cases hlt : k < xs.length
    · have hcx := fun i (hi : i < xs.length) => (hnx.cell (p := ⟨b, i, none⟩) hb).trans (hc i hi)
      have HC := Lib.hid hc; clear hc
      rcases Nat.eq_zero_or_pos k with rfl | hpos
      · clear hcx
        go_wp2_with fail
        go_quiet (fail)
        go_wp2_with fail
        go_roundw
        case rel => exact ⟨1, by omega, rfl, fun i h h' => absurd h (by omega), below_drewN hnx _⟩
        case measure => simp [intOf]; omega
      · obtain ⟨x, hx⟩ : ∃ x, Hid (x = xs.getD k 0) := ⟨_, rfl⟩
        obtain ⟨y, hy⟩ : ∃ y, Hid (y = xs.getD (k - 1) 0) := ⟨_, rfl⟩
        have c1 := hcx k hlt
        have c0 := hcx (k - 1) (by omega)
        rw [← hx.out] at c1
        rw [← hy.out] at c0
        clear hcx
        by_cases hle : y ≤ x
        · go_wp2_with fail
          go_quiet (fail)
          go_wp2_with fail
          go_roundw
          case rel =>
            refine ⟨k + 1, by omega, by go_num, ?_, below_drewN hnx _⟩
            intro i h1 h2
            by_cases hik : i = k
            · subst hik; rw [← hx.out, ← hy.out]; exact hle
            · exact hr.out i (by omega) h2
          case measure => simp [intOf]; omega
        · go_wp2_with fail
          go_quiet (fail)
          go_wp2_with fail
          go_ret
          refine ⟨ret_bool ?_, below_drewN hnx _⟩
          symm
          unfold rises
          rw [decide_eq_false_iff_not]
          intro H
          have := H k hlt hpos
          rw [← hx.out, ← hy.out] at this
          omega
    · obtain rfl : k = xs.length := by omega
      go_wp2_with fail
      go_ret
      refine ⟨ret_bool ?_, hnx⟩
      symm
      unfold rises
      rw [decide_eq_true_iff]
      exact hr.out

theorem rises4 (a b c d : Int) : rises [a, b, c, d] = decide (a ≤ b ∧ b ≤ c ∧ c ≤ d) := by
  unfold rises
  rw [decide_eq_decide]
  constructor
  · intro h
    have h1 := h 1 (by simp) (by omega)
    have h2 := h 2 (by simp) (by omega)
    have h3 := h 3 (by simp) (by omega)
    simp at h1 h2 h3
    exact ⟨h1, h2, h3⟩
  · rintro ⟨h1, h2, h3⟩ i hi h0
    match i, hi, h0 with
    | 1, _, _ => simpa using h1
    | 2, _, _ => simpa using h2
    | 3, _, _ => simpa using h3
theorem rises3 (a b c : Int) : rises [a, b, c] = decide (a ≤ b ∧ b ≤ c) := by
  unfold rises
  rw [decide_eq_decide]
  constructor
  · intro h
    have h1 := h 1 (by simp) (by omega)
    have h2 := h 2 (by simp) (by omega)
    simp at h1 h2
    exact ⟨h1, h2⟩
  · rintro ⟨h1, h2⟩ i hi h0
    match i, hi, h0 with
    | 1, _, _ => simpa using h1
    | 2, _, _ => simpa using h2

theorem rising4_any (x0 x1 x2 x3 : Int) (b : Nat) (w : World) (hb : b < w.heap.size) (h0 : w.cell? ⟨b, 0, none⟩ = some (.int .i64 x0)) (h1 : w.cell? ⟨b, 1, none⟩ = some (.int .i64 x1)) (h2 : w.cell? ⟨b, 2, none⟩ = some (.int .i64 x2)) (h3 : w.cell? ⟨b, 3, none⟩ = some (.int .i64 x3)) :
    Calls Try.prog 36 #[.slice (some ⟨b, 0, none⟩) 4 4] w fun e w' => e = .returned (.bool (rises [x0, x1, x2, x3])) ∧ Below w.heap.size w w' :=
  rising_any [x0, x1, x2, x3] b w (by simp) hb fun i hi => by
    match i, hi with
    | 0, _ => simpa using h0
    | 1, _ => simpa using h1
    | 2, _ => simpa using h2
    | 3, _ => simpa using h3
theorem rising3_any (x0 x1 x2 : Int) (b : Nat) (w : World) (hb : b < w.heap.size) (h0 : w.cell? ⟨b, 0, none⟩ = some (.int .i64 x0)) (h1 : w.cell? ⟨b, 1, none⟩ = some (.int .i64 x1)) (h2 : w.cell? ⟨b, 2, none⟩ = some (.int .i64 x2)) :
    Calls Try.prog 36 #[.slice (some ⟨b, 0, none⟩) 3 3] w fun e w' => e = .returned (.bool (rises [x0, x1, x2])) ∧ Below w.heap.size w w' :=
  rising_any [x0, x1, x2] b w (by simp) hb fun i hi => by
    match i, hi with
    | 0, _ => simpa using h0
    | 1, _ => simpa using h1
    | 2, _ => simpa using h2

theorem good_rises (s e f c : Int) : Cv.good ⟨s, e, f, c⟩ = (rises [0, s, e, 1000000] && rises [0, f, c, 100000000]) := by
  rw [rises4, rises4, Bool.eq_iff_iff]
  simp only [Cv.good, Bool.and_eq_true, decide_eq_true_iff]
  omega

set_option maxHeartbeats 800000 in
theorem good_any (s e f c : Int) (w : World) :
    Calls Try.prog 14 #[.agg #[.int .i64 s, .int .i64 e, .int .i64 f, .int .i64 c]] w fun r w' => r = .returned (.bool (Cv.good ⟨s, e, f, c⟩)) ∧ Below w.heap.size w w' := by
  rw [good_rises]
  cases h1 : rises [0, s, e, 1000000] with
  | false =>
    have H1 := Lib.hid h1; clear h1
    go_enter Try.func14, Try.ntmps14
    go_wp2_with fail
    refine (rising4_any 0 s e 1000000 _ _ (by simp) (by simp [World.cell?_alloc_at]) (by simp [World.cell?_alloc_at]) (by simp [World.cell?_alloc_at]) (by simp [World.cell?_alloc_at])).mono ?_
    rintro r w1 ⟨rfl, hb1⟩
    rw [H1.out]
    go_wp2_with fail
    go_ret
    exact ⟨rfl, (((Below.refl _ _).alloc (Nat.le_refl _) _).alloc (by simp) _).trans (hb1.mono (by simp; omega))⟩
  | true =>
    have H1 := Lib.hid h1; clear h1
    go_enter Try.func14, Try.ntmps14
    go_wp2_with fail
    refine (rising4_any 0 s e 1000000 _ _ (by simp) (by simp [World.cell?_alloc_at]) (by simp [World.cell?_alloc_at]) (by simp [World.cell?_alloc_at]) (by simp [World.cell?_alloc_at])).mono ?_
    rintro r w1 ⟨rfl, hb1⟩
    rw [H1.out]
    have hz := hb1.size
    simp only [World.size_alloc] at hz
    have c2 : w1.cell? ⟨w.heap.size, 2, none⟩ = some (.int .i64 f) := by rw [hb1.cell (by simp; omega), World.cell?_alloc_past _ _ _ (by simp), World.cell?_alloc_at _ _ _ _ rfl]; rfl
    have c3 : w1.cell? ⟨w.heap.size, 3, none⟩ = some (.int .i64 c) := by rw [hb1.cell (by simp; omega), World.cell?_alloc_past _ _ _ (by simp), World.cell?_alloc_at _ _ _ _ rfl]; rfl
    replace hb1 := (((Below.refl w.heap.size w).alloc (Nat.le_refl _) (.cells #[.int .i64 s, .int .i64 e, .int .i64 f, .int .i64 c] 23)).alloc (by simp) (.cells #[.int .i64 0, .int .i64 s, .int .i64 e, .int .i64 1000000] 3)).trans (hb1.mono (by simp; omega))
    go_wp2_with fail
    refine (rising4_any 0 f c 100000000 _ _ (by simp) (by simp [World.cell?_alloc_at]) (by simp [World.cell?_alloc_at]) (by simp [World.cell?_alloc_at]) (by simp [World.cell?_alloc_at])).mono ?_
    rintro r w2 ⟨rfl, hb2⟩
    go_wp2_with fail
    go_ret
    exact ⟨rfl, (hb1.alloc hb1.size _).trans (hb2.mono (by have := hb1.size; simp; omega))⟩

theorem up_any (a b : Int) (w : World) (ha : 0 ≤ a) (ha1 : a ≤ 1000000000000000000) (hb : 1 ≤ b) (hb1 : b ≤ 1000000000000000000) :
    Calls Try.prog 37 #[.int .i64 a, .int .i64 b] w fun r w' => r = .returned (.int .i64 (upQ a b)) ∧ w' = w := by
  go_enter Try.func37, Try.ntmps37
  go_wp2_with fail
  go_ret
  exact ⟨rfl, rfl⟩

set_option maxHeartbeats 1600000 in
theorem rate_any (s e f c h : Int) (w : World) :
    Calls Try.prog 16 #[.agg #[.int .i64 s, .int .i64 e, .int .i64 f, .int .i64 c], .int .i64 h] w fun r w' => r = .returned (.tuple #[.int .i64 (Cv.val ⟨s, e, f, c⟩ h), .int .i64 (Cv.err ⟨s, e, f, c⟩ h)]) ∧ Below w.heap.size w w' := by
  cases hg : Cv.good ⟨s, e, f, c⟩ with
  | false =>
    have e1 : Cv.val ⟨s, e, f, c⟩ h = 0 := by simp [Cv.val, hg]
    have e2 : Cv.err ⟨s, e, f, c⟩ h = 2 := by simp [Cv.err, hg]
    rw [e1, e2]
    have HG := Lib.hid hg; clear hg e1 e2
    go_enter Try.func16, Try.ntmps16
    go_wp2_with fail
    refine (good_any s e f c _).mono ?_
    rintro r w1 ⟨rfl, hb1⟩
    rw [HG.out]
    go_wp2_with fail
    go_ret2
    exact ⟨rfl, ((Below.refl _ _).alloc (Nat.le_refl _) _).trans (hb1.mono (by simp))⟩
  | true =>
    have HG := Lib.hid hg
    obtain ⟨a1, a2, a3, a4, a5, a6⟩ := Cv.good_all hg
    simp only at a1 a2 a3 a4 a5 a6
    clear hg
    cases hr : rises [0, h, 1000000] with
    | false =>
      have e1 : Cv.val ⟨s, e, f, c⟩ h = 0 := by rw [rises3] at hr; rw [decide_eq_false_iff_not] at hr; simp only [Cv.val, HG.out, Bool.true_and]; rw [if_neg]; rw [decide_eq_true_iff]; omega
      have e2 : Cv.err ⟨s, e, f, c⟩ h = 3 := by rw [rises3] at hr; rw [decide_eq_false_iff_not] at hr; simp only [Cv.err, HG.out, if_true]; rw [if_neg]; omega
      rw [e1, e2]
      have HR := Lib.hid hr; clear hr e1 e2
      go_enter Try.func16, Try.ntmps16
      go_wp2_with fail
      refine (good_any s e f c _).mono ?_
      rintro r w1 ⟨rfl, hb1⟩
      rw [HG.out]
      replace hb1 := ((Below.refl w.heap.size w).alloc (Nat.le_refl _) _).trans (hb1.mono (by simp))
      go_wp2_with fail
      refine (rising3_any 0 h 1000000 _ _ (by simp) (by simp [World.cell?_alloc_at]) (by simp [World.cell?_alloc_at]) (by simp [World.cell?_alloc_at])).mono ?_
      rintro r w2 ⟨rfl, hb2⟩
      rw [HR.out]
      go_wp2_with fail
      go_ret2
      exact ⟨rfl, (hb1.alloc hb1.size _).trans (hb2.mono (by have := hb1.size; simp; omega))⟩
    | true =>
      have hh : 0 ≤ h ∧ h ≤ 1000000 := by rw [rises3] at hr; simpa using hr
      have e1 : Cv.val ⟨s, e, f, c⟩ h = Cv.rate ⟨s, e, f, c⟩ h := by simp only [Cv.val, HG.out, Bool.true_and]; rw [if_pos]; rw [decide_eq_true_iff]; omega
      have e2 : Cv.err ⟨s, e, f, c⟩ h = 0 := by simp only [Cv.err, HG.out, if_true]; rw [if_pos]; omega
      rw [e1, e2]
      have HR := Lib.hid hr; clear hr e1 e2
      obtain ⟨h0, h1⟩ := hh
      obtain ⟨V, HV⟩ : ∃ V, Hid (V = Cv.rate ⟨s, e, f, c⟩ h) := ⟨_, rfl⟩
      rw [← HV.out]
      go_enter Try.func16, Try.ntmps16
      go_wp2_with fail
      refine (good_any s e f c _).mono ?_
      rintro r w1 ⟨rfl, hb1⟩
      rw [HG.out]
      have hz := hb1.size
      simp only [World.size_alloc] at hz
      have c0 : w1.cell? ⟨w.heap.size, 0, none⟩ = some (.int .i64 s) := by rw [hb1.cell (by simp), World.cell?_alloc_at _ _ _ _ rfl]; rfl
      have c1 : w1.cell? ⟨w.heap.size, 1, none⟩ = some (.int .i64 e) := by rw [hb1.cell (by simp), World.cell?_alloc_at _ _ _ _ rfl]; rfl
      have c2 : w1.cell? ⟨w.heap.size, 2, none⟩ = some (.int .i64 f) := by rw [hb1.cell (by simp), World.cell?_alloc_at _ _ _ _ rfl]; rfl
      have c3 : w1.cell? ⟨w.heap.size, 3, none⟩ = some (.int .i64 c) := by rw [hb1.cell (by simp), World.cell?_alloc_at _ _ _ _ rfl]; rfl
      replace hb1 := ((Below.refl w.heap.size w).alloc (Nat.le_refl _) _).trans (hb1.mono (by simp))
      go_wp2_with fail
      refine (rising3_any 0 h 1000000 _ _ (by simp) (by simp [World.cell?_alloc_at]) (by simp [World.cell?_alloc_at]) (by simp [World.cell?_alloc_at])).mono ?_
      rintro r w2 ⟨rfl, hb2⟩
      rw [HR.out]
      have d : ∀ o, w2.cell? ⟨w.heap.size, o, none⟩ = w1.cell? ⟨w.heap.size, o, none⟩ := fun o => by rw [hb2.cell (by simp; omega), World.cell?_alloc_past _ _ _ (by show w.heap.size < _; omega)]
      have d0 := (d 0).trans c0
      have d1 := (d 1).trans c1
      have d2 := (d 2).trans c2
      have d3 := (d 3).trans c3
      replace hb2 := (hb1.alloc hb1.size (.cells #[.int .i64 0, .int .i64 h, .int .i64 1000000] 3)).trans (hb2.mono (by have := hb1.size; simp; omega))
      clear d c0 c1 c2 c3 hb1 hz HR
      by_cases k1 : e ≤ h
      · go_wp2_with fail
        go_ret2
        exact ⟨ret_ints (a := c) (by rw [HV.out, Cv.rate, if_pos k1]) rfl, hb2⟩
      · by_cases k2 : h ≤ s
        · go_wp2_with fail
          go_ret2
          exact ⟨ret_ints (a := f) (by rw [HV.out, Cv.rate, if_neg (show ¬ e ≤ h by omega), if_pos (show h ≤ s from k2)]) rfl, hb2⟩
        · have m1 := mul_bound (a := c - f) (b := h - s) (A := 100000000) (B := 1000000) (by omega) (by omega) (by omega) (by omega)
          have hup := fun wx => up_any ((c - f) * (h - s)) (e - s) wx m1.1 (by omega) (by omega) (by omega)
          have hu := Cv.rate_bounds (x := ⟨s, e, f, c⟩) HG.out h
          have hv : Cv.rate ⟨s, e, f, c⟩ h = f + upQ ((c - f) * (h - s)) (e - s) := by rw [Cv.rate, if_neg (show ¬ e ≤ h by omega), if_neg (show ¬ h ≤ s from k2)]
          rw [hv] at hu
          simp only at hu
          replace HV := Lib.hid (HV.out.trans hv)
          clear hv
          generalize upQ ((c - f) * (h - s)) (e - s) = U at *
          go_wp2_with fail
          go_quiet ((go_at_call 37; exact Calls.quiet_of_same (hup _)))
          go_wp2_with fail
          go_ret2
          exact ⟨ret_ints (a := f + U) HV.out.symm rfl, below_drewN hb2 _⟩
end Go.Proofs.Ytiokcoicipmkmaa
