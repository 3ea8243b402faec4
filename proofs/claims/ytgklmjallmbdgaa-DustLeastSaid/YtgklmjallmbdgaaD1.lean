/- Contracts of amount.Fee at the dust's rate, dust.Size, dust.Least and dust.Dust, and of the document's Fee, Size, Least. Conditions: the text within the reach of a row. -/
import Derived.Test.YtgklmjallmbdgaaV1
import Derived.Deep.DeepCutAuto
namespace Go.Proofs.Ytgklmjallmbdgaa
open Go.RowKit
set_option linter.unusedSimpArgs false

theorem ret_two {a b c d : Int} (h : a = c) (h' : b = d) : Ending.returned (.tuple #[.int .i64 a, .int .i64 b]) = .returned (.tuple #[.int .i64 c, .int .i64 d]) := by rw [h, h']

theorem within40 (n m : Int) (w : World) : Calls Try.prog 40 #[.int .i64 n, .int .i64 m] w fun e w' => e = .returned (.bool (decide (0 ≤ n) && decide (n ≤ m))) ∧ w' = w := by
  by_cases h : 0 ≤ n
  · go_enter Try.func40, Try.ntmps40
    go_wp2_with fail
    all_goals
      go_ret
      refine ⟨ret_bool ?_, rfl⟩
      simp [h]
  · go_enter Try.func40, Try.ntmps40
    go_wp2_with fail
    all_goals
      go_ret
      refine ⟨ret_bool ?_, rfl⟩
      first | (simp [h]; done) | (simp; omega)

theorem fee35 (n : Int) (w : World) (h0 : 0 ≤ n) (h1 : n ≤ 1000000) :
    Calls Try.prog 35 #[.int .i64 3000, .int .i64 n] w fun e w' => e = .returned (.tuple #[.int .i64 (3 * n), .int .i64 0]) ∧ w' = w := by
  go_enter Try.func35, Try.ntmps35
  go_wp2_with fail
  refine (within40 _ _ _).mono ?_
  rintro r w1 ⟨rfl, rfl⟩
  go_wp2_with fail
  refine (within40 _ _ _).mono ?_
  rintro r w1 ⟨rfl, rfl⟩
  go_wp2_with fail
  go_ret2
  exact ⟨ret_two (by omega) rfl, rfl⟩
theorem rfee36 (n : Int) (w : World) (h0 : 0 ≤ n) (h1 : n ≤ 1000000) :
    Calls Try.prog 36 #[.int .i64 3000, .int .i64 n] w fun e w' => e = .returned (.tuple #[.int .i64 (3 * n), .int .i64 0]) ∧ w' = w := by
  go_enter Try.func36, Try.ntmps36
  go_wp2_with fail
  go_ret2
  exact ⟨ret_two (by omega) rfl, rfl⟩

theorem vPut_one_size {n : Nat} (h : n ≤ 40) : (vPut n).size = 1 := by
  have : vk n = 0 := by unfold vk; rw [if_pos (by omega)]
  rw [vPut_size]; omega

theorem dsize_ok (v : Int) (s : ByteArray) (w : World) (h : s.size ≤ 40) :
    Calls Try.prog 24 #[.agg #[.int .i64 v, .string s]] w fun e w' => e = .returned (.tuple #[.int .i64 (9 + s.size), .int .i64 0]) ∧ Below w.heap.size w w' := by
  obtain ⟨X, hX⟩ : ∃ X, Hid (X = vPut s.size) := ⟨_, rfl⟩
  have hz : (X.size : Int) = 1 := by rw [hX.out, vPut_one_size h]; rfl
  have hput : ∀ wx, Calls Try.prog 29 #[.int .u64 s.size] wx fun e w' => e = .returned (.string X) ∧ Below wx.heap.size wx w' := by intro wx; rw [hX.out]; exact vput_any _ wx (by omega)
  have HP := Lib.hid hput
  clear hput
  have hb0 := (Below.refl w.heap.size w).alloc (Nat.le_refl _) (.cells #[.int .i64 v, .string s] 39)
  go_enter Try.func24, Try.ntmps24
  go_wp2_with fail
  refine (HP.out _).mono ?_
  rintro r w1 ⟨rfl, hb1⟩
  go_wp2_with fail
  go_ret2
  exact ⟨ret_two (by omega) rfl, hb0.trans (hb1.mono hb0.size)⟩
theorem dsize_long (v : Int) (s : ByteArray) (w : World) (h : 40 < s.size) (hs : s.size ≤ 140737488351232) :
    Calls Try.prog 24 #[.agg #[.int .i64 v, .string s]] w fun e w' => e = .returned (.tuple #[.int .i64 0, .int .i64 20]) ∧ Below w.heap.size w w' := by
  have hb0 := (Below.refl w.heap.size w).alloc (Nat.le_refl _) (.cells #[.int .i64 v, .string s] 39)
  go_enter Try.func24, Try.ntmps24
  go_wp2_with fail
  go_ret2
  exact ⟨rfl, hb0⟩

theorem rsize_ok (v : Int) (s : ByteArray) (w : World) (h : s.size ≤ 40) :
    Calls Try.prog 25 #[.agg #[.int .i64 v, .string s]] w fun e w' => e = .returned (.tuple #[.int .i64 (9 + s.size), .int .i64 0]) ∧ Below w.heap.size w w' := by
  obtain ⟨X, hX⟩ : ∃ X, Hid (X = vPut s.size) := ⟨_, rfl⟩
  have hz : (X.size : Int) = 1 := by rw [hX.out, vPut_one_size h]; rfl
  have hput : ∀ wx, Calls Try.prog 32 #[.int .u64 s.size] wx fun e w' => e = .returned (.string X) ∧ Below wx.heap.size wx w' := by intro wx; rw [hX.out]; exact rvput_any _ wx (by omega)
  have HP := Lib.hid hput
  clear hput
  have hb0 := (Below.refl w.heap.size w).alloc (Nat.le_refl _) (.cells #[.int .i64 v, .string s] 39)
  go_enter Try.func25, Try.ntmps25
  go_wp2_with fail
  refine (HP.out _).mono ?_
  rintro r w1 ⟨rfl, hb1⟩
  have hcell : w1.cell? ⟨w.heap.size, 1, none⟩ = some (.string s) := by rw [hb1.cell (p := ⟨w.heap.size, 1, none⟩) (by simp)]; rw [World.cell?_alloc_new]; rfl
  go_wp2_with fail
  go_ret2
  exact ⟨ret_two (by omega) rfl, hb0.trans (hb1.mono hb0.size)⟩
theorem rsize_long (v : Int) (s : ByteArray) (w : World) (h : 40 < s.size) (hs : s.size ≤ 140737488351232) :
    Calls Try.prog 25 #[.agg #[.int .i64 v, .string s]] w fun e w' => e = .returned (.tuple #[.int .i64 0, .int .i64 20]) ∧ Below w.heap.size w w' := by
  have hb0 := (Below.refl w.heap.size w).alloc (Nat.le_refl _) (.cells #[.int .i64 v, .string s] 39)
  go_enter Try.func25, Try.ntmps25
  go_wp2_with fail
  go_ret2
  exact ⟨rfl, hb0⟩

/-- the least value that an output must have -/
def dL (s : ByteArray) : Int := if s.size ≤ 40 then 228 + 3 * s.size else 0
def dE (s : ByteArray) : Int := if s.size ≤ 40 then 0 else 20
def dZ (s : ByteArray) : Int := if s.size ≤ 40 then 9 + s.size else 0
def dust (v : Int) (s : ByteArray) : Bool := decide (s.size ≤ 40 ∧ v < 228 + 3 * s.size)
theorem dL_ok {s : ByteArray} (h : s.size ≤ 40) : dL s = 228 + 3 * s.size := by unfold dL; rw [if_pos h]
theorem dE_ok {s : ByteArray} (h : s.size ≤ 40) : dE s = 0 := by unfold dE; rw [if_pos h]
theorem dZ_ok {s : ByteArray} (h : s.size ≤ 40) : dZ s = 9 + s.size := by unfold dZ; rw [if_pos h]
theorem dL_no {s : ByteArray} (h : 40 < s.size) : dL s = 0 := by unfold dL; rw [if_neg (by omega)]
theorem dE_no {s : ByteArray} (h : 40 < s.size) : dE s = 20 := by unfold dE; rw [if_neg (by omega)]
theorem dZ_no {s : ByteArray} (h : 40 < s.size) : dZ s = 0 := by unfold dZ; rw [if_neg (by omega)]
theorem dE_range (s : ByteArray) : 0 ≤ dE s ∧ dE s ≤ 20 := by unfold dE; split <;> omega
theorem dL_range (s : ByteArray) : 0 ≤ dL s ∧ dL s ≤ 348 := by unfold dL; split <;> omega
theorem dust_eq (v : Int) (s : ByteArray) : dust v s = (decide (dE s = 0) && decide (v < dL s)) := by
  unfold dust
  by_cases h : s.size ≤ 40
  · rw [dE_ok h, dL_ok h]; simp [h]
  · rw [dE_no (by omega)]; simp [h]

theorem dsize_any (v : Int) (s : ByteArray) (w : World) (hs : s.size ≤ 140737488351232) :
    Calls Try.prog 24 #[.agg #[.int .i64 v, .string s]] w fun e w' => e = .returned (.tuple #[.int .i64 (dZ s), .int .i64 (dE s)]) ∧ Below w.heap.size w w' := by
  by_cases h : s.size ≤ 40
  · rw [dZ_ok h, dE_ok h]; exact dsize_ok v s w h
  · rw [dZ_no (by omega), dE_no (by omega)]; exact dsize_long v s w (by omega) hs
theorem rsize_any (v : Int) (s : ByteArray) (w : World) (hs : s.size ≤ 140737488351232) :
    Calls Try.prog 25 #[.agg #[.int .i64 v, .string s]] w fun e w' => e = .returned (.tuple #[.int .i64 (dZ s), .int .i64 (dE s)]) ∧ Below w.heap.size w w' := by
  by_cases h : s.size ≤ 40
  · rw [dZ_ok h, dE_ok h]; exact rsize_ok v s w h
  · rw [dZ_no (by omega), dE_no (by omega)]; exact rsize_long v s w (by omega) hs

theorem least_any (v : Int) (s : ByteArray) (w : World) (hs : s.size ≤ 140737488351232) :
    Calls Try.prog 20 #[.agg #[.int .i64 v, .string s]] w fun e w' => e = .returned (.tuple #[.int .i64 (dL s), .int .i64 (dE s)]) ∧ Below w.heap.size w w' := by
  have hb0 := (Below.refl w.heap.size w).alloc (Nat.le_refl _) (.cells #[.int .i64 v, .string s] 39)
  by_cases h : s.size ≤ 40
  · rw [dL_ok h, dE_ok h]
    go_enter Try.func20, Try.ntmps20
    go_wp2_with fail
    refine (dsize_ok v s _ h).mono ?_
    rintro r w1 ⟨rfl, hb1⟩
    go_wp2_with fail
    refine (fee35 _ _ (by omega) (by omega)).mono ?_
    rintro r w2 ⟨rfl, rfl⟩
    go_wp2_with fail
    go_ret2
    exact ⟨ret_two (by omega) rfl, hb0.trans (hb1.mono hb0.size)⟩
  · rw [dL_no (by omega), dE_no (by omega)]
    go_enter Try.func20, Try.ntmps20
    go_wp2_with fail
    refine (dsize_long v s _ (by omega) hs).mono ?_
    rintro r w1 ⟨rfl, hb1⟩
    go_wp2_with fail
    go_ret2
    exact ⟨rfl, hb0.trans (hb1.mono hb0.size)⟩
theorem rleast_any (v : Int) (s : ByteArray) (w : World) (hs : s.size ≤ 140737488351232) :
    Calls Try.prog 26 #[.agg #[.int .i64 v, .string s]] w fun e w' => e = .returned (.tuple #[.int .i64 (dL s), .int .i64 (dE s)]) ∧ Below w.heap.size w w' := by
  have hb0 := (Below.refl w.heap.size w).alloc (Nat.le_refl _) (.cells #[.int .i64 v, .string s] 39)
  by_cases h : s.size ≤ 40
  · rw [dL_ok h, dE_ok h]
    go_enter Try.func26, Try.ntmps26
    go_wp2_with fail
    refine (rsize_ok v s _ h).mono ?_
    rintro r w1 ⟨rfl, hb1⟩
    go_wp2_with fail
    refine (rfee36 _ _ (by omega) (by omega)).mono ?_
    rintro r w2 ⟨rfl, rfl⟩
    go_wp2_with fail
    go_ret2
    exact ⟨ret_two (by omega) rfl, hb0.trans (hb1.mono hb0.size)⟩
  · rw [dL_no (by omega), dE_no (by omega)]
    go_enter Try.func26, Try.ntmps26
    go_wp2_with fail
    refine (rsize_long v s _ (by omega) hs).mono ?_
    rintro r w1 ⟨rfl, hb1⟩
    go_wp2_with fail
    go_ret2
    exact ⟨rfl, hb0.trans (hb1.mono hb0.size)⟩
theorem dust_any (v : Int) (s : ByteArray) (w : World) (hs : s.size ≤ 140737488351232) :
    Calls Try.prog 22 #[.agg #[.int .i64 v, .string s]] w fun e w' => e = .returned (.bool (dust v s)) ∧ Below w.heap.size w w' := by
  have hb0 := (Below.refl w.heap.size w).alloc (Nat.le_refl _) (.cells #[.int .i64 v, .string s] 39)
  obtain ⟨D, hD⟩ : ∃ D, Hid (D = dust v s) := ⟨_, rfl⟩
  rw [← hD.out]
  obtain ⟨E, hE, hE0, hE1⟩ : ∃ E, Hid (E = dE s) ∧ 0 ≤ E ∧ E ≤ 20 := ⟨_, rfl, dE_range s⟩
  obtain ⟨L, hL, hL0, hL1⟩ : ∃ L, Hid (L = dL s) ∧ 0 ≤ L ∧ L ≤ 348 := ⟨_, rfl, dL_range s⟩
  have hle : ∀ wx, Calls Try.prog 20 #[.agg #[.int .i64 v, .string s]] wx fun e w' => e = .returned (.tuple #[.int .i64 L, .int .i64 E]) ∧ Below wx.heap.size wx w' := by
    intro wx; rw [hL.out, hE.out]; exact least_any v s wx hs
  have HL := Lib.hid hle
  clear hle
  go_enter Try.func22, Try.ntmps22
  go_wp2_with fail
  refine (HL.out _).mono ?_
  rintro r w1 ⟨rfl, hb1⟩
  have hcell : w1.cell? ⟨w.heap.size, 0, none⟩ = some (.int .i64 v) := by rw [hb1.cell (p := ⟨w.heap.size, 0, none⟩) (by simp)]; rw [World.cell?_alloc_new]; rfl
  by_cases h : E = 0
  · subst h
    go_wp2_with fail
    go_ret
    refine ⟨ret_bool ?_, hb0.trans (hb1.mono hb0.size)⟩
    rw [hD.out, dust_eq, ← hE.out, ← hL.out]
    simp
  · go_wp2_with fail
    go_ret
    refine ⟨ret_bool ?_, hb0.trans (hb1.mono hb0.size)⟩
    rw [hD.out, dust_eq, ← hE.out, ← hL.out]
    simp [h]

theorem dwakes_any (w : World) : Calls Try.prog 21 #[] w fun e w' => e = .returned (.bool true) ∧ Below w.heap.size w w' := by
  have c1 : dL ⟨#[49, 50, 51, 52, 53, 54, 55, 56, 57]⟩ = 255 := by decide +kernel
  have c2 : dE ⟨#[49, 50, 51, 52, 53, 54, 55, 56, 57]⟩ = 0 := by decide +kernel
  have c3 : dust 254 ⟨#[49, 50, 51, 52, 53, 54, 55, 56, 57]⟩ = true := by decide +kernel
  have c4 : dust 255 ⟨#[49, 50, 51, 52, 53, 54, 55, 56, 57]⟩ = false := by decide +kernel
  have C := Lib.hid (And.intro c1 (And.intro c2 (And.intro c3 c4)))
  clear c1 c2 c3 c4
  go_enter Try.func21, Try.ntmps21
  go_wp2_with fail
  refine (least_any _ _ _ (by decide)).mono ?_
  rintro r w1 ⟨rfl, hb1⟩
  rw [C.out.1, C.out.2.1]
  go_wp2_with fail
  refine (dust_any _ _ _ (by decide)).mono ?_
  rintro r w2 ⟨rfl, hb2⟩
  rw [C.out.2.2.1]
  replace hb2 := hb1.trans (hb2.mono hb1.size); clear hb1
  go_wp2_with fail
  refine (dust_any _ _ _ (by decide)).mono ?_
  rintro r w3 ⟨rfl, hb3⟩
  rw [C.out.2.2.2]
  replace hb3 := hb2.trans (hb3.mono hb2.size); clear hb2
  go_wp2_with fail
  go_ret
  exact ⟨rfl, hb3⟩
end Go.Proofs.Ytgklmjallmbdgaa
