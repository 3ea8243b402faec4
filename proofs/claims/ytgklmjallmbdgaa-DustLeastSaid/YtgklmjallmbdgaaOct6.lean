/- Facts on what octet.Put and Get give: sizes, joined halves, places. Conditions: the size is a known one. -/
import Derived.Test.YtgklmjallmbdgaaOct5
namespace Go.Proofs.Ytgklmjallmbdgaa
open Go.RowKit

theorem putB_size {n : Nat} {k : Nat} (hk : known k = true) : (putB n k).size = k := by
  unfold putB putL
  rw [if_pos hk]
  show (leB (k : Int).toNat n).toArray.size = k
  simp [leB_length]
theorem putB_join {n a b : Nat} (ha : known a = true) (hb : known b = true) (hab : known (a + b : Nat) = true) : putB n a ++ putB (n / 256 ^ a) b = putB n (a + b : Nat) := by
  unfold putB putL
  rw [if_pos ha, if_pos hb, if_pos hab, ByteArray.mk_append_mk, Int.toNat_natCast, Int.toNat_natCast, Int.toNat_natCast, leB_add]
theorem run_put_join {P : Program} {n a b : Nat} (ha : known a = true) (hb : known b = true) (hab : known (a + b : Nat) = true) (hle : a + b ≤ 8) (w : World) :
    (Op.stringOp .add (putB n a) (putB (n / 256 ^ a) b)).run P w = .ok (.string (putB n (a + b : Nat))) w := by
  rw [run_string_add_sum (P := P) w _ _ (by rw [putB_size ha, putB_size hb]; omega), putB_join ha hb hab]
theorem there_zero {s : ByteArray} {k : Nat} (hk : known k = true) : there s 0 k = decide ((k : Int) ≤ s.size) := by
  unfold there
  rw [hk, Bool.true_and, decide_eq_decide]
  omega
theorem there_end {s : ByteArray} {k : Nat} (hk : known k = true) : there s s.size k = false := by
  refine there_no2 (.inr ?_)
  have := known_cases hk
  omega

end Go.Proofs.Ytgklmjallmbdgaa
