/- The walk of the law DustEdge: it returns true. Conditions: the text within the reach of a row, the number within its kind. -/
import Derived.Test.YtgklmjallmbdgaaD1
import Derived.Deep.OwnRows
import Derived.Deep.DeepCutAuto
namespace Go.Proofs.Ytgklmjallmbdgaa
open Go.RowKit Go.Deep

def zeros (c : Nat) : ByteArray := ⟨(List.replicate c (0 : UInt8)).toArray⟩
theorem zeros_size (c : Nat) : (zeros c).size = c := by
  show (List.replicate c (0 : UInt8)).toArray.size = c
  simp
theorem conv_zeros (w : World) (c : Nat) :
    (convert 40 9 (.slice (some ⟨w.heap.size, 0, none⟩) c c)).run Try.prog (w.alloc (.cells (madeCells #[.int .u8 0] c) 5)) = .ok (.string (zeros c)) (w.alloc (.cells (madeCells #[.int .u8 0] c) 5)) := by
  have h := run_convert_bytes_back (P := Try.prog) (w.alloc (.cells (madeCells #[.int .u8 0] c) 5)) 40 9 5 ⟨w.heap.size, 0, none⟩ c (List.replicate c (0 : UInt8)) Try.underlying40 Try.underlying5 Try.underlying9 (fun j hj => by
    simp at hj
    have hr := (World.rowIs_made w (.int .u8 0) c 5).cell hj
    rw [Go.WideShapes.add_plain]
    simp only [Nat.zero_add] at *
    rw [hr]
    simp)
  rw [List.length_replicate] at h
  exact h

set_option maxRecDepth 20000 in
set_option maxHeartbeats 1600000 in
theorem law7 (s : ByteArray) (m : Int) (w : World) (hs : s.size ≤ 140737488351232) (hm : 0 ≤ m ∧ m ≤ 255) :
    Calls Try.prog 7 #[.string s, .int .u8 m] w fun e w' => e = .returned (.bool true) ∧ Below w.heap.size w w' := by
  obtain ⟨S, hS, hS4⟩ : ∃ S : ByteArray, Hid (S = s.extract 0 (min s.size 40)) ∧ S.size ≤ 40 := ⟨_, rfl, by rw [ByteArray.size_extract]; omega⟩
  go_enter Try.func7, Try.ntmps7
  go_upto_region 1 with fail
  go_cut [0] (fun s0 wx => s0 = .string S ∧ wx = w)
  case first =>
    by_cases h : s.size ≤ 40
    · have e : Hid (s = S) := by rw [hS.out, show min s.size 40 = s.size from by omega, ByteArray.extract_zero_size]; exact rfl
      go_wp2_with fail
      all_goals
        go_meet
        exact ⟨congrArg Value.string e.out, rfl⟩
    · have e : Hid (s.extract 0 40 = S) := by rw [hS.out, show min s.size 40 = 40 from by omega]; exact rfl
      have h' : 40 < s.size := by omega
      clear h
      go_wp2_with fail
      all_goals
        go_meet
        exact ⟨congrArg Value.string e.out, rfl⟩
  case rest =>
    obtain ⟨rfl, rfl⟩ := hcut
    clear hS
    have hc0 : 0 ≤ m % (41 - (S.size : Int)) := Int.emod_nonneg _ (by omega)
    have hc1 : m % (41 - (S.size : Int)) < 41 - (S.size : Int) := Int.emod_lt_of_pos _ (by omega)
    obtain ⟨c, hc⟩ : ∃ c : Nat, m % (41 - (S.size : Int)) = c := ⟨(m % (41 - (S.size : Int))).toNat, by omega⟩
    rw [hc] at hc0 hc1
    have hmk := run_make_row' (P := Try.prog) 40 5 (.int .u8 0) 1 Try.underlying40 Try.info5 rfl .i64 .i64 c (by omega) (by omega)
    have hcv := fun wx => conv_zeros wx c
    obtain ⟨Z, hZ, hZc⟩ : ∃ Z, Hid (Z = zeros c) ∧ Z.size = c := ⟨_, rfl, zeros_size c⟩
    rw [← hZ.out] at hcv
    obtain ⟨T, hT⟩ : ∃ T, T = S ++ Z := ⟨_, rfl⟩
    have j := fun wx => run_string_add_sum (P := Try.prog) wx S Z (by omega)
    rw [← hT] at j
    have hTs : T.size = S.size + c := by rw [hT, ByteArray.size_append, hZc]
    have L1 : Hid (dL S = 228 + 3 * S.size ∧ dE S = 0) := ⟨dL_ok hS4, dE_ok hS4⟩
    have L2 : Hid (dL T = 228 + 3 * (S.size + c) ∧ dE T = 0) := ⟨by rw [dL_ok (by omega), hTs]; omega, dE_ok (by omega)⟩
    have D1 : Hid (dust (228 + 3 * S.size) S = false) := by unfold dust; exact decide_eq_false (by omega)
    have D2 : Hid (dust (228 + 3 * S.size - 1) S = true) := by unfold dust; exact decide_eq_true (by omega)
    clear hZc hT
    go_wp2_with fail
    refine (least_any _ _ _ (by omega)).mono ?_
    rintro r w1 ⟨rfl, hb1⟩
    rw [L1.out.1, L1.out.2]
    go_wp2_with fail
    refine (least_any _ _ _ (by omega)).mono ?_
    rintro r w2 ⟨rfl, hb2⟩
    rw [L2.out.1, L2.out.2]
    have hb3 := (hb1.alloc hb1.size (.cells (madeCells #[.int .u8 0] c) 5)).trans (hb2.mono (hb1.alloc hb1.size (.cells (madeCells #[.int .u8 0] c) 5)).size)
    clear hb1 hb2
    go_wp2_with fail
    refine (dwakes_any _).mono ?_
    rintro r w3 ⟨rfl, hb4⟩
    replace hb4 := hb3.trans (hb4.mono hb3.size); clear hb3
    go_wp2_with fail
    refine (dust_any _ _ _ (by omega)).mono ?_
    rintro r w4 ⟨rfl, hb5⟩
    rw [D1.out]
    replace hb5 := hb4.trans (hb5.mono hb4.size); clear hb4
    go_wp2_with fail
    refine (dust_any _ _ _ (by omega)).mono ?_
    rintro r w5 ⟨rfl, hb6⟩
    rw [D2.out]
    replace hb6 := hb5.trans (hb6.mono hb5.size); clear hb5
    go_wp2_with fail
    go_ret
    exact ⟨ret_bool (by rw [beq_iff_eq]; omega), hb6⟩

theorem walkDustEdge (a0 : ByteArray) (a1 : Int) (w : World) (w0 : a0.size ≤ 140737488351232) (w1 : (Lit.int .u8 a1).wf = true) :
    Calls Try.prog 7 #[.string a0, .int .u8 a1] w fun e w' => e = .returned (.bool true) ∧ Below w.heap.size w w' := by
  refine law7 a0 a1 w w0 ?_
  have := bounds_u8 w1
  omega
end Go.Proofs.Ytgklmjallmbdgaa
