/- Contracts of octet.Put at an unknown size and of the reference Put at every size. Conditions: the number is one of 64 bits. -/
import Derived.Test.YtgklmjallmbdgaaOct
import Derived.Lib.EndianBits
namespace Go.Proofs.Ytgklmjallmbdgaa
open Go.RowKit

theorem putB_not {n : Nat} {k : Int} (hk : known k = false) : putB n k = ⟨#[]⟩ := by unfold putB putL; rw [hk]; rfl

theorem put_none (n : Nat) (k : Int) (w : World) (hk : known k = false) :
    Calls Try.prog 15 #[.int .u64 n, .int .i64 k] w fun e w' => e = .returned (.string (putB n k)) ∧ Below w.heap.size w w' := by
  have H := Lib.hid hk; clear hk
  go_enter Try.func15, Try.ntmps15
  go_wp2_with (go_at_call 34; refine (known_any _ _).mono ?_; rintro e w1 ⟨rfl, hb1⟩; rw [H.out])
  go_ret
  exact ⟨ret_str (putB_not H.out).symm, hb1⟩

theorem rput_none (n : Nat) (k : Int) (w : World) (hk : known k = false) :
    Calls Try.prog 16 #[.int .u64 n, .int .i64 k] w fun e w' => e = .returned (.string (putB n k)) ∧ Below w.heap.size w w' := by
  have h1 : (k != 1) = true := by simp; exact (known_not hk).1
  have h2 : (k != 2) = true := by simp; exact (known_not hk).2.1
  have h4 : (k != 4) = true := by simp; exact (known_not hk).2.2.1
  have h8 : (k != 8) = true := by simp; exact (known_not hk).2.2.2
  have H := Lib.hid hk; clear hk
  go_enter Try.func16, Try.ntmps16
  go_wp2
  go_ret
  exact ⟨ret_str (putB_not H.out).symm, Below.refl _ _⟩


theorem str_succ {j m n : Nat} (h : m = n / 256 ^ j) (b : UInt8) (hb : (b.toNat : Int) = (m : Int) % 256) : (⟨(leB j n).toArray⟩ : ByteArray) ++ ⟨[b].toArray⟩ = ⟨(leB (j + 1) n).toArray⟩ := by
  subst h
  rw [ByteArray.mk_append_mk, leB_succ]
  have : b = (n / 256 ^ j % 256).toUInt8 := by
    apply UInt8.toNat_inj.1
    rw [toUInt8_mod]; omega
  rw [this]

theorem leB_str_size (j n : Nat) : (⟨(leB j n).toArray⟩ : ByteArray).size = j := by
  show (leB j n).toArray.size = j
  simp [leB_length]

/-- 'string([]byte{x})' -/
theorem run_string_one {P : Program} (w : World) (src dst e : TypeId) (x : Int) (b : UInt8) (hs : P.underlying src = some (.slice e)) (he : P.underlying e = some (.int .u8)) (hd : P.underlying dst = some .string) (hb : (b.toNat : Int) = x) :
    (convert src dst (.slice (some ⟨w.heap.size, 0, none⟩) 1 1)).run P (w.alloc (.cells #[.int .u8 x] e)) = .ok (.string ⟨[b].toArray⟩) (w.alloc (.cells #[.int .u8 x] e)) := by
  refine run_convert_bytes_back (l := [b]) _ src dst e _ 1 hs he hd fun j hj => ?_
  have : j = 0 := by simpa using hj
  subst this
  simp [Addr.add, World.cell?_alloc_new, hb]

set_option maxHeartbeats 1600000 in
theorem rput_any (n : Nat) (k : Int) (w : World) (hn : n < 18446744073709551616) (hk : known k = true) :
    Calls Try.prog 16 #[.int .u64 n, .int .i64 k] w fun e w' => e = .returned (.string (putB n k)) ∧ Below w.heap.size w w' := by
  rcases known_cases hk with rfl | rfl | rfl | rfl
  case' inl => obtain ⟨K, hK1, hK2, hK8⟩ : ∃ K : Nat, (K : Int) ≤ 1 ∧ 1 ≤ (K : Int) ∧ K ≤ 8 := ⟨1, by omega⟩
  case' inr.inl => obtain ⟨K, hK1, hK2, hK8⟩ : ∃ K : Nat, (K : Int) ≤ 2 ∧ 2 ≤ (K : Int) ∧ K ≤ 8 := ⟨2, by omega⟩
  case' inr.inr.inl => obtain ⟨K, hK1, hK2, hK8⟩ : ∃ K : Nat, (K : Int) ≤ 4 ∧ 4 ≤ (K : Int) ∧ K ≤ 8 := ⟨4, by omega⟩
  case' inr.inr.inr => obtain ⟨K, hK1, hK2, hK8⟩ : ∃ K : Nat, (K : Int) ≤ 8 ∧ 8 ≤ (K : Int) ∧ K ≤ 8 := ⟨8, by omega⟩
  all_goals
    have H := Lib.hid hk; clear hk
    go_enter Try.func16, Try.ntmps16
    go_wp2
    go_loopw [5, 0, 6] (fun v5 v0 v6 wr => ∃ j m : Nat, j ≤ K ∧ v6 = .int .i64 j ∧ v0 = .int .u64 m ∧ Hid (m = n / 256 ^ j) ∧ m < 18446744073709551616 ∧ v5 = .string ⟨(leB j n).toArray⟩ ∧ Below w.heap.size w wr) (fun _ _ v6 _ => K - (intOf v6).toNat)
    case atStart => exact ⟨0, n, by omega, rfl, rfl, Lib.hid (by simp), hn, rfl, Below.refl _ _⟩
    case round =>
      obtain ⟨j, m, hj, rfl, rfl, HM, hm, rfl, hnx⟩ := hrel
      by_cases hlt : j < K
      · obtain ⟨b, hb⟩ : ∃ b : UInt8, Hid ((b.toNat : Int) = (m : Int) % 256) := ⟨(m % 256).toUInt8, by rw [Hid, toUInt8_mod]; omega⟩
        have hcv := run_string_one (P := Try.prog) wr 40 9 5 ((m : Int) % 256) b Try.underlying40 Try.underlying5 Try.underlying9 hb.out
        obtain ⟨S, hS⟩ : ∃ S : ByteArray, S = ⟨(leB j n).toArray⟩ := ⟨_, rfl⟩
        have hadd := fun wx => run_string_add_sum (P := Try.prog) wx S ⟨[b].toArray⟩ (by rw [hS, leB_str_size]; show j + 1 ≤ _; omega)
        rw [← hS]
        have HS := Lib.hid hS; clear hS
        go_wp2
        go_roundw
        case rel => exact ⟨j + 1, m / 256, by omega, by go_num, by go_num, Lib.hid (div_succ HM.out), by omega, congrArg _ (by rw [HS.out]; exact str_succ HM.out b hb.out), hnx.alloc hnx.size _⟩
        case measure => simp [intOf]; omega
      · go_wp2
        go_ret
        refine ⟨ret_str ?_, hnx⟩
        unfold putB putL
        rw [H.out]
        rw [if_pos rfl]
        exact congrArg (fun i => (⟨(leB i n).toArray⟩ : ByteArray)) (by omega)
end Go.Proofs.Ytgklmjallmbdgaa
