/- Contract of octet.Get at every text, place and size: it returns getN and there. Conditions: the text within the reach of a row. -/
import Derived.Test.YtgklmjallmbdgaaOct2
namespace Go.Proofs.Ytgklmjallmbdgaa
open Go.RowKit

theorem ret_pair {a b : Nat} {c d : Bool} (h : a = b) (h' : c = d) : Ending.returned (.tuple #[.int .u64 a, .bool c]) = .returned (.tuple #[.int .u64 b, .bool d]) := by rw [h, h']

theorem there_yes {s : ByteArray} {i k : Int} (hk : known k = true) (h0 : 0 ≤ i) (h1 : i ≤ (s.size : Int) - k) : there s i k = true := by simp [there, hk, h0, h1]
theorem there_no1 {s : ByteArray} {i k : Int} (hk : known k = false) : there s i k = false := by simp [there, hk]
theorem there_no2 {s : ByteArray} {i k : Int} (h : i < 0 ∨ (s.size : Int) - k < i) : there s i k = false := by
  simp only [there, Bool.and_eq_false_iff, decide_eq_false_iff_not]; right; omega
theorem getN_no {s : ByteArray} {i k : Int} (h : there s i k = false) : getN s i k = 0 := by simp [getN, h]

theorem cut_length {s : ByteArray} {a k : Nat} (h : a + k ≤ s.size) : (cut s a k).length = k := by
  simp only [cut, List.length_take, List.length_drop, Array.length_toList]
  show min k (s.size - a) = k
  omega
theorem cut_head {s : ByteArray} {a k : Nat} (h : a < s.size) : cut s a (k + 1) = s[a] :: cut s (a + 1) k := by
  unfold cut
  have hl : a < s.data.toList.length := by simpa using h
  rw [List.drop_eq_getElem_cons hl, List.take_succ_cons]
  rfl
theorem leN_cut_lt {s : ByteArray} {a k : Nat} (h : a + k ≤ s.size) : leN (cut s a k) < 256 ^ k := by
  have := leN_lt (cut s a k)
  rwa [cut_length h] at this
theorem pow_le7 {j : Nat} (h : j ≤ 7) : 256 ^ j ≤ 72057594037927936 := Nat.pow_le_pow_right (n := 256) (by omega) h
/-- 'n<<8 | b' -/
theorem or_step (N b : Nat) (hN : N < 72057594037927936) (hb : b < 256) : bits BinOp.or IntKind.u64 ((N : Int) * 256) (IntKind.u64.wrap (b : Int)) = ((b + 256 * N : Nat) : Int) := by
  rw [IntWalk.u64_in (b : Int) ⟨by omega, by omega⟩]
  have h := bits_join .u64 64 (by decide) (fun n h0 h1 => IntWalk.u64_in n ⟨h0, by omega⟩) 8 ((N : Int) * 256) (b : Int) (by omega) (by omega) (by omega) (by omega) (by omega) (by omega)
  rw [h]; omega

set_option maxHeartbeats 1600000 in
theorem get_yes (s : ByteArray) (a K : Nat) (w : World) (hs : s.size ≤ 140737488351232) (hk : known K = true) (h1 : a + K ≤ s.size) :
    Calls Try.prog 18 #[.string s, .int .i64 a, .int .i64 K] w fun e w' => e = .returned (.tuple #[.int .u64 (leN (cut s a K)), .bool true]) ∧ Below w.heap.size w w' := by
  have hk' : 1 ≤ K ∧ K ≤ 8 := by have := known_cases hk; omega
  obtain ⟨hk0, hk8⟩ := hk'
  have H := Lib.hid hk; clear hk
  go_enter Try.func18, Try.ntmps18
  go_wp2_with (go_at_call 34; refine (known_any _ _).mono ?_; rintro e w1 ⟨rfl, hb1⟩; rw [H.out])
  go_loopw [8, 9] (fun v8 v9 wr => ∃ j p N : Nat, j + p = K ∧ v9 = .int .i64 ((a : Int) + p - 1) ∧ v8 = .int .u64 N ∧ Hid (N = leN (cut s (a + p) j)) ∧ Below w.heap.size w wr) (fun _ v9 _ => (intOf v9 + 1).toNat)
  case atStart => exact ⟨0, K, 0, by omega, rfl, rfl, rfl, hb1⟩
  case round =>
    obtain ⟨j, p, N, hj, rfl, rfl, HN, hnx⟩ := hrel
    by_cases hp : 1 ≤ p
    · have hN : N < 72057594037927936 := by
        have g1 := leN_cut_lt (s := s) (a := a + p) (k := j) (by omega)
        have g2 := pow_le7 (j := j) (by omega)
        rw [← HN.out] at g1
        omega
      go_wp2
      go_roundw
      case rel =>
        refine ⟨j + 1, p - 1, s[a + p - 1].toNat + 256 * N, by omega, ?_, congrArg _ (or_step _ _ hN (UInt8.toNat_lt _)), ?_, hnx⟩
        · rw [show (((p - 1 : Nat) : Int)) = (p : Int) - 1 from by omega]; go_num
        · rw [Hid, show a + (p - 1) = a + p - 1 from by omega, cut_head (by omega), leN, ← show a + p = a + p - 1 + 1 from by omega, HN.out]
      case measure => simp [intOf]; omega
    · obtain rfl : p = 0 := by omega
      obtain rfl : j = K := by omega
      go_wp2
      go_ret2
      exact ⟨ret_pair HN.out rfl, hnx⟩

theorem get_no (s : ByteArray) (i k : Int) (w : World) (hs : s.size ≤ 140737488351232) (hi : -9223372036854775808 ≤ i ∧ i ≤ 9223372036854775807) (hno : there s i k = false) :
    Calls Try.prog 18 #[.string s, .int .i64 i, .int .i64 k] w fun e w' => e = .returned (.tuple #[.int .u64 0, .bool false]) ∧ Below w.heap.size w w' := by
  by_cases hk : known k = true
  · have hk' : 1 ≤ k ∧ k ≤ 8 := by have := known_cases hk; omega
    obtain ⟨hk0, hk8⟩ := hk'
    have hc : i < 0 ∨ (s.size : Int) - k < i := by
      simp only [there, hk, Bool.true_and, decide_eq_false_iff_not] at hno; omega
    have H := Lib.hid hk; clear hk hno
    rcases hc with hc | hc
    · go_enter Try.func18, Try.ntmps18
      go_wp2_with (go_at_call 34; refine (known_any _ _).mono ?_; rintro e w1 ⟨rfl, hb1⟩; rw [H.out])
      go_ret2
      exact ⟨rfl, hb1⟩
    · go_enter Try.func18, Try.ntmps18
      go_wp2_with (go_at_call 34; refine (known_any _ _).mono ?_; rintro e w1 ⟨rfl, hb1⟩; rw [H.out])
      all_goals
        go_ret2
        exact ⟨rfl, hb1⟩
  · have hk' : known k = false := by simpa using hk
    have H := Lib.hid hk'; clear hk hk' hno
    go_enter Try.func18, Try.ntmps18
    go_wp2_with (go_at_call 34; refine (known_any _ _).mono ?_; rintro e w1 ⟨rfl, hb1⟩; rw [H.out])
    go_ret2
    exact ⟨rfl, hb1⟩

theorem there_all {s : ByteArray} {i k : Int} (h : there s i k = true) : known k = true ∧ 0 ≤ i ∧ i ≤ (s.size : Int) - k := by simpa [there] using h

theorem get_any (s : ByteArray) (i k : Int) (w : World) (hs : s.size ≤ 140737488351232) (hi : -9223372036854775808 ≤ i ∧ i ≤ 9223372036854775807) :
    Calls Try.prog 18 #[.string s, .int .i64 i, .int .i64 k] w fun e w' => e = .returned (.tuple #[.int .u64 (getN s i k), .bool (there s i k)]) ∧ Below w.heap.size w w' := by
  cases h : there s i k with
  | false => rw [getN_no h]; exact get_no s i k w hs hi h
  | true =>
    obtain ⟨h1, h2, h3⟩ := there_all h
    have hk := known_cases h1
    obtain ⟨a, rfl⟩ := Int.eq_ofNat_of_zero_le h2
    obtain ⟨K, rfl⟩ := Int.eq_ofNat_of_zero_le (show 0 ≤ k by omega)
    rw [getN, if_pos h]
    exact get_yes s a K w hs h1 (by omega)
end Go.Proofs.Ytgklmjallmbdgaa
