/- Contract of the reference Get at every text, place and size: it returns getN and there. Conditions: the text within the reach of a row. -/
import Derived.Test.YtgklmjallmbdgaaOct3
namespace Go.Proofs.Ytgklmjallmbdgaa
open Go.RowKit

theorem rget_no (s : ByteArray) (i k : Int) (w : World) (hs : s.size ≤ 140737488351232) (hi : -9223372036854775808 ≤ i ∧ i ≤ 9223372036854775807) (hno : there s i k = false) :
    Calls Try.prog 19 #[.string s, .int .i64 i, .int .i64 k] w fun e w' => e = .returned (.tuple #[.int .u64 0, .bool false]) ∧ w = w' := by
  by_cases hk : known k = true
  · have hc : i < 0 ∨ (s.size : Int) - k < i := by
      simp only [there, hk, Bool.true_and, decide_eq_false_iff_not] at hno; omega
    clear hno
    rcases known_cases hk with rfl | rfl | rfl | rfl
    all_goals
      clear hk
      rcases hc with hc | hc
      all_goals
        go_enter Try.func19, Try.ntmps19
        go_wp2
        all_goals
          go_ret2
          exact ⟨rfl, rfl⟩
  · have hk' : known k = false := by simpa using hk
    have h1 : (k != 1) = true := by simp; exact (known_not hk').1
    have h2 : (k != 2) = true := by simp; exact (known_not hk').2.1
    have h4 : (k != 4) = true := by simp; exact (known_not hk').2.2.1
    have h8 : (k != 8) = true := by simp; exact (known_not hk').2.2.2
    clear hk hk' hno
    go_enter Try.func19, Try.ntmps19
    go_wp2
    go_ret2
    exact ⟨rfl, rfl⟩

theorem leN_cut_succ {s : ByteArray} {a j : Nat} (h : a + j < s.size) : leN (cut s a (j + 1)) = leN (cut s a j) + 256 ^ j * s[a + j].toNat := by
  have e : cut s a (j + 1) = cut s a j ++ [s[a + j]] := by
    unfold cut
    have hl : j < (s.data.toList.drop a).length := by simp only [List.length_drop, Array.length_toList]; show j < s.size - a; omega
    rw [List.take_succ_eq_append_getElem hl]
    congr 1
    rw [List.getElem_drop]
    rfl
  rw [e, leN_append, cut_length (by omega)]
  simp [leN]

theorem mul_step {N b P j : Nat} (hj : j ≤ 7) (hN : N < 256 ^ j) (hP : P = 256 ^ j) (hb : b < 256) :
    IntKind.u64.wrap ((N : Int) + IntKind.u64.wrap (IntKind.u64.wrap (b : Int) * (P : Int))) = ((N + 256 ^ j * b : Nat) : Int) := by
  have h1 : 256 ^ j * b + 256 ^ j ≤ 256 ^ (j + 1) := by
    rw [Nat.pow_succ, ← Nat.mul_succ]; exact Nat.mul_le_mul_left _ (by omega)
  have h2 : 256 ^ (j + 1) ≤ 18446744073709551616 := (Nat.pow_le_pow_right (n := 256) (by omega) (show j + 1 ≤ 8 by omega) : 256 ^ (j + 1) ≤ 256 ^ 8)
  subst hP
  rw [IntWalk.u64_in (b : Int) ⟨by omega, by omega⟩]
  have e : ((b : Int) * ((256 ^ j : Nat) : Int)) = ((256 ^ j * b : Nat) : Int) := by rw [Nat.mul_comm]; simp
  rw [e]
  generalize 256 ^ j * b = q at *
  generalize 256 ^ j = r at *
  rw [IntWalk.u64_in (q : Int) ⟨by omega, by omega⟩, IntWalk.u64_in _ ⟨by omega, by omega⟩]
  omega

theorem wrap_u64_nat (x : Int) : IntKind.u64.wrap x = (((IntKind.u64.wrap x).toNat : Nat) : Int) := by rw [IntKind.wrap_u64]; omega
theorem pow_step {P j : Nat} (hP : j ≤ 7 → P = 256 ^ j) (hj : j + 1 ≤ 7) : (IntKind.u64.wrap ((P : Int) * 256)).toNat = 256 ^ (j + 1) := by
  have h2 : 256 ^ (j + 1) ≤ 72057594037927936 := pow_le7 hj
  have e : (P : Int) * 256 = ((256 ^ (j + 1) : Nat) : Int) := by rw [hP (by omega), Nat.pow_succ]; omega
  rw [e, IntWalk.u64_in _ ⟨by omega, by omega⟩]
  omega

set_option maxHeartbeats 1600000 in
theorem rget_yes (s : ByteArray) (a K : Nat) (w : World) (hs : s.size ≤ 140737488351232) (hk : known K = true) (h1 : a + K ≤ s.size) :
    Calls Try.prog 19 #[.string s, .int .i64 a, .int .i64 K] w fun e w' => e = .returned (.tuple #[.int .u64 (leN (cut s a K)), .bool true]) ∧ w = w' := by
  have hk' : 1 ≤ K ∧ K ≤ 8 := by have := known_cases hk; omega
  obtain ⟨hk0, hk8⟩ := hk'
  have hc := known_cases hk
  clear hk
  rcases hc with hc | hc | hc | hc
  case' inl => obtain rfl : K = 1 := by omega
  case' inr.inl => obtain rfl : K = 2 := by omega
  case' inr.inr.inl => obtain rfl : K = 4 := by omega
  case' inr.inr.inr => obtain rfl : K = 8 := by omega
  case' inl => obtain ⟨K, hK1, hK2, hK8⟩ : ∃ K : Nat, (K : Int) ≤ 1 ∧ 1 ≤ (K : Int) ∧ K ≤ 8 := ⟨1, by omega⟩
  case' inr.inl => obtain ⟨K, hK1, hK2, hK8⟩ : ∃ K : Nat, (K : Int) ≤ 2 ∧ 2 ≤ (K : Int) ∧ K ≤ 8 := ⟨2, by omega⟩
  case' inr.inr.inl => obtain ⟨K, hK1, hK2, hK8⟩ : ∃ K : Nat, (K : Int) ≤ 4 ∧ 4 ≤ (K : Int) ∧ K ≤ 8 := ⟨4, by omega⟩
  case' inr.inr.inr => obtain ⟨K, hK1, hK2, hK8⟩ : ∃ K : Nat, (K : Int) ≤ 8 ∧ 8 ≤ (K : Int) ∧ K ≤ 8 := ⟨8, by omega⟩
  all_goals
    clear hc
    go_enter Try.func19, Try.ntmps19
    go_wp2
    go_loopw [8, 9, 10] (fun v8 v9 v10 wr => ∃ j N P : Nat, j ≤ K ∧ v10 = .int .i64 j ∧ v8 = .int .u64 N ∧ v9 = .int .u64 P ∧ Hid (N = leN (cut s a j)) ∧ Hid (j ≤ 7 → P = 256 ^ j) ∧ w = wr) (fun _ _ v10 _ => K - (intOf v10).toNat)
    case atStart => exact ⟨0, 0, 1, by omega, rfl, rfl, rfl, rfl, fun _ => rfl, rfl⟩
    case round =>
      obtain ⟨j, N, P, hj, rfl, rfl, rfl, HN, HP, rfl⟩ := hrel
      by_cases hlt : j < K
      · go_wp2
        go_roundw
        case rel => exact ⟨j + 1, N + 256 ^ j * s[a + j].toNat, _, by omega, by go_num, congrArg _ (mul_step (by omega) (by rw [HN.out]; exact leN_cut_lt (by omega)) (HP.out (by omega)) (UInt8.toNat_lt _)), congrArg _ (wrap_u64_nat _), by rw [Hid, HN.out]; exact (leN_cut_succ (by omega)).symm, pow_step HP.out, trivial⟩
        case measure => simp [intOf]; omega
      · obtain rfl : j = K := by omega
        go_wp2
        go_ret2
        exact ⟨ret_pair (by rw [HN.out]; congr 2; omega) rfl, rfl⟩

theorem rget_any (s : ByteArray) (i k : Int) (w : World) (hs : s.size ≤ 140737488351232) (hi : -9223372036854775808 ≤ i ∧ i ≤ 9223372036854775807) :
    Calls Try.prog 19 #[.string s, .int .i64 i, .int .i64 k] w fun e w' => e = .returned (.tuple #[.int .u64 (getN s i k), .bool (there s i k)]) ∧ Below w.heap.size w w' := by
  cases h : there s i k with
  | false => rw [getN_no h]; exact (rget_no s i k w hs hi h).mono fun e w' ⟨h1, h2⟩ => ⟨h1, h2 ▸ Below.refl _ _⟩
  | true =>
    obtain ⟨h1, h2, h3⟩ := there_all h
    have hk := known_cases h1
    obtain ⟨a, rfl⟩ := Int.eq_ofNat_of_zero_le h2
    obtain ⟨K, rfl⟩ := Int.eq_ofNat_of_zero_le (show 0 ≤ k by omega)
    rw [getN, if_pos h]
    exact (rget_yes s a K w hs h1 (by omega)).mono fun e w' ⟨h1, h2⟩ => ⟨h1, h2 ▸ Below.refl _ _⟩

theorem put_all (n : Nat) (k : Int) (w : World) (hn : n < 18446744073709551616) :
    Calls Try.prog 15 #[.int .u64 n, .int .i64 k] w fun e w' => e = .returned (.string (putB n k)) ∧ Below w.heap.size w w' := by
  cases h : known k with
  | false => exact put_none n k w h
  | true => exact put_any n k w hn h

theorem rput_all (n : Nat) (k : Int) (w : World) (hn : n < 18446744073709551616) :
    Calls Try.prog 16 #[.int .u64 n, .int .i64 k] w fun e w' => e = .returned (.string (putB n k)) ∧ Below w.heap.size w w' := by
  cases h : known k with
  | false => exact rput_none n k w h
  | true => exact rput_any n k w hn h

end Go.Proofs.Ytgklmjallmbdgaa
