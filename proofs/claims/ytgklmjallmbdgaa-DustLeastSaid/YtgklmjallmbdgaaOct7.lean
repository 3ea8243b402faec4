/- Contract of octet.Get at texts of up to 2^49 bytes; what is put is got again, and what is got is put as it stood. Conditions: the size is a known one. -/
import Derived.Test.YtgklmjallmbdgaaOct6
import Derived.Lib.Strings
namespace Go.Proofs.Ytgklmjallmbdgaa
open Go.RowKit

theorem data_append (a b : ByteArray) : (a ++ b).data.toList = a.data.toList ++ b.data.toList := by rw [ByteArray.data_append, Array.toList_append]
theorem size_append (a b : ByteArray) : (a ++ b).size = a.size + b.size := ByteArray.size_append
theorem cut_mid {a p b : ByteArray} {k : Nat} (hp : p.size = k) : cut (a ++ p ++ b) a.size k = p.data.toList := by
  unfold cut
  rw [data_append, data_append, List.append_assoc, List.drop_append_of_le_length (by simp), List.drop_of_length_le (by simp), List.nil_append, List.take_append_of_le_length (by simp; omega), List.take_of_length_le (by simp; omega)]
theorem putB_data {n k : Nat} (hk : known k = true) : (putB n k).data.toList = leB k n := by unfold putB putL; rw [if_pos hk]; simp
theorem there_mid {a b : ByteArray} {n k : Nat} (hk : known k = true) : there (a ++ putB n k ++ b) a.size k = true := by
  refine there_yes hk (by omega) ?_
  rw [size_append, size_append, putB_size hk]; omega
theorem getN_mid {a b : ByteArray} {n k : Nat} (hk : known k = true) : getN (a ++ putB n k ++ b) a.size k = n % 256 ^ k := by
  unfold getN
  rw [if_pos (there_mid hk), Int.toNat_natCast, Int.toNat_natCast, cut_mid (putB_size hk), putB_data hk, leN_leB_mod]
/-- what is got, put again, is what stood there -/
theorem putB_back {s : ByteArray} {a k : Nat} (hk : known k = true) (h : a + k ≤ s.size) : putB (getN s a k) k = s.extract a (a + k) := by
  have ht : there s a k = true := there_yes hk (by omega) (by omega)
  apply ByteArray.ext
  apply Array.toList_inj.1
  rw [putB_data hk]
  unfold getN
  rw [if_pos ht, Int.toNat_natCast, Int.toNat_natCast]
  have e : (cut s a k).length = k := cut_length h
  have := leB_leN (cut s a k)
  rw [e] at this
  rw [this, Lib.extract_data]
  unfold cut
  simp

set_option maxHeartbeats 1600000 in
theorem wget_yes (s : ByteArray) (a K : Nat) (w : World) (hs : s.size ≤ 562949953421312) (hk : known K = true) (h1 : a + K ≤ s.size) :
    Calls Try.prog 18 #[.string s, .int .i64 a, .int .i64 K] w fun e w' => e = .returned (.tuple #[.int .u64 (leN (cut s a K)), .bool true]) ∧ Below w.heap.size w w' := by
  have hk' : 1 ≤ K ∧ K ≤ 8 := by have := known_cases hk; omega
  obtain ⟨hk0, hk8⟩ := hk'
  have H := Lib.hid hk; clear hk
  go_enter Try.func18, Try.ntmps18
  go_wp2_with (go_at_call 34; refine (known_any _ _).mono ?_; rintro e w1 ⟨rfl, hb1⟩; rw [H.out])
  go_loopw [8, 9] (fun v8 v9 wr => ∃ j p N : Nat, j + p = K ∧ v9 = .int .i64 ((a : Int) + p - 1) ∧ v8 = .int .u64 N ∧ Hid (N = leN (cut s (a + p) j)) ∧ Below w.heap.size w wr) (fun _ v9 _ => (intOf v9 + 1).toNat)
  case atStart => exact ⟨0, K, 0, by omega, rfl, rfl, rfl, hb1⟩
  case round =>
    obtain ⟨j, p, N, hj, rfl, rfl, HN, hnx⟩ := hrel
    by_cases hp : 1 ≤ p
    · have hN : N < 72057594037927936 := by
        have g1 := leN_cut_lt (s := s) (a := a + p) (k := j) (by omega)
        have g2 := pow_le7 (j := j) (by omega)
        rw [← HN.out] at g1
        omega
      go_wp2
      go_roundw
      case rel =>
        refine ⟨j + 1, p - 1, s[a + p - 1].toNat + 256 * N, by omega, ?_, congrArg _ (or_step _ _ hN (UInt8.toNat_lt _)), ?_, hnx⟩
        · rw [show (((p - 1 : Nat) : Int)) = (p : Int) - 1 from by omega]; go_num
        · rw [Hid, show a + (p - 1) = a + p - 1 from by omega, cut_head (by omega), leN, ← show a + p = a + p - 1 + 1 from by omega, HN.out]
      case measure => simp [intOf]; omega
    · obtain rfl : p = 0 := by omega
      obtain rfl : j = K := by omega
      go_wp2
      go_ret2
      exact ⟨ret_pair HN.out rfl, hnx⟩

theorem wget_no (s : ByteArray) (i k : Int) (w : World) (hs : s.size ≤ 562949953421312) (hi : -9223372036854775808 ≤ i ∧ i ≤ 9223372036854775807) (hno : there s i k = false) :
    Calls Try.prog 18 #[.string s, .int .i64 i, .int .i64 k] w fun e w' => e = .returned (.tuple #[.int .u64 0, .bool false]) ∧ Below w.heap.size w w' := by
  by_cases hk : known k = true
  · have hk' : 1 ≤ k ∧ k ≤ 8 := by have := known_cases hk; omega
    obtain ⟨hk0, hk8⟩ := hk'
    have hc : i < 0 ∨ (s.size : Int) - k < i := by
      simp only [there, hk, Bool.true_and, decide_eq_false_iff_not] at hno; omega
    have H := Lib.hid hk; clear hk hno
    rcases hc with hc | hc
    · go_enter Try.func18, Try.ntmps18
      go_wp2_with (go_at_call 34; refine (known_any _ _).mono ?_; rintro e w1 ⟨rfl, hb1⟩; rw [H.out])
      go_ret2
      exact ⟨rfl, hb1⟩
    · go_enter Try.func18, Try.ntmps18
      go_wp2_with (go_at_call 34; refine (known_any _ _).mono ?_; rintro e w1 ⟨rfl, hb1⟩; rw [H.out])
      all_goals
        go_ret2
        exact ⟨rfl, hb1⟩
  · have hk' : known k = false := by simpa using hk
    have H := Lib.hid hk'; clear hk hk' hno
    go_enter Try.func18, Try.ntmps18
    go_wp2_with (go_at_call 34; refine (known_any _ _).mono ?_; rintro e w1 ⟨rfl, hb1⟩; rw [H.out])
    go_ret2
    exact ⟨rfl, hb1⟩

theorem wget_any (s : ByteArray) (i k : Int) (w : World) (hs : s.size ≤ 562949953421312) (hi : -9223372036854775808 ≤ i ∧ i ≤ 9223372036854775807) :
    Calls Try.prog 18 #[.string s, .int .i64 i, .int .i64 k] w fun e w' => e = .returned (.tuple #[.int .u64 (getN s i k), .bool (there s i k)]) ∧ Below w.heap.size w w' := by
  cases h : there s i k with
  | false => rw [getN_no h]; exact wget_no s i k w hs hi h
  | true =>
    obtain ⟨h1, h2, h3⟩ := there_all h
    have hk := known_cases h1
    obtain ⟨a, rfl⟩ := Int.eq_ofNat_of_zero_le h2
    obtain ⟨K, rfl⟩ := Int.eq_ofNat_of_zero_le (show 0 ≤ k by omega)
    rw [getN, if_pos h]
    exact wget_yes s a K w hs h1 (by omega)
end Go.Proofs.Ytgklmjallmbdgaa
