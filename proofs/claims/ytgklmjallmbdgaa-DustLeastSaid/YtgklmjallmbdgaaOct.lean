/- Contracts of octet.known and octet.Put at a known size: they return what the plain functions known and putB say. Conditions: the number is one of 64 bits. -/
import Derived.Test.YtgklmjallmbdgaaRows
import Derived.Test.YtgklmjallmbdgaaPlain
import Derived.WalkKit
import Derived.ProofKit
import Derived.Handy
import Derived.WalkSpells
import Derived.WalkLawsBesides
import Derived.Lib.Hide
import Derived.Lib.SmallJoins
namespace Go.Proofs.Ytgklmjallmbdgaa
open Go.RowKit

theorem ret_bool {a b : Bool} (h : a = b) : Ending.returned (.bool a) = .returned (.bool b) := by rw [h]
theorem ret_str {a b : ByteArray} (h : a = b) : Ending.returned (.string a) = .returned (.string b) := by rw [h]

theorem known_any (k : Int) (w : World) : Calls Try.prog 34 #[.int .i64 k] w fun e w' => e = .returned (.bool (known k)) ∧ Below w.heap.size w w' := by
  go_enter Try.func34, Try.ntmps34
  go_wp2
  go_rounds 5
  all_goals
    go_ret
    refine ⟨ret_bool ?_, (Below.refl _ _).alloc (Nat.le_refl _) _⟩
    unfold known
    simp only [beq_iff_eq, beq_eq_false_iff_ne] at *
    simp [*]

theorem Try.info5 : (Try.prog.info? 5).map (fun i => (i.zero, i.size, i.bytes)) = some (some (.int .u8 0), 1, 1) := by kernel_rfl

/-- the cells of bytes -/
def bcells (l : List UInt8) : List Value := l.map fun b => Value.int .u8 b.toNat

/-- 'string(b)', b a row of the call's own that holds the bytes l -/
theorem run_string_own {P : Program} {w : World} {base : Nat} {v : Value} {l : List UInt8} (src dst e : TypeId) (hs : P.underlying src = some (.slice e)) (he : P.underlying e = some (.int .u8)) (hd : P.underlying dst = some .string)
    (hown : w.ownsRow base e 1 v l.length (bcells l)) (hl : 0 < l.length) : (convert src dst v).run P w = .ok (.string ⟨l.toArray⟩) w := by
  obtain ⟨g, cap, rfl⟩ := Joins.ownsRow_form hown hl
  refine run_convert_bytes_back w src dst e _ cap l hs he hd fun j hj => ?_
  have := hown.cellAt j (by omega)
  rw [show (⟨g, 0, none⟩ : Addr).add j = ⟨g, j, none⟩ from by simp only [Addr.add]; split <;> simp_all, this]
  simp [bcells, hj]

theorem bcells_succ {j m n : Nat} (h : m = n / 256 ^ j) : bcells (leB (j + 1) n) = bcells (leB j n) ++ [.int .u8 ((m : Int) % 256)] := by
  subst h
  rw [leB_succ]
  simp [bcells, Nat.toUInt8]
theorem div_succ {j m n : Nat} (h : m = n / 256 ^ j) : m / 256 = n / 256 ^ (j + 1) := by
  subst h
  rw [Nat.div_div_eq_div_mul, Nat.pow_succ]

set_option maxHeartbeats 800000 in
theorem put_any (n : Nat) (k : Int) (w : World) (hn : n < 18446744073709551616) (hk : known k = true) :
    Calls Try.prog 15 #[.int .u64 n, .int .i64 k] w fun e w' => e = .returned (.string (putB n k)) ∧ Below w.heap.size w w' := by
  obtain ⟨i0, hi, hz0, hz1, hz2⟩ := info_parts Try.info5
  have hk' : 1 ≤ k ∧ k ≤ 8 := by have := known_cases hk; omega
  have H := Lib.hid hk; clear hk
  obtain ⟨hk0, hk8⟩ := hk'
  go_enter Try.func15, Try.ntmps15
  go_wp2_with (go_at_call 34; refine (known_any _ _).mono ?_; rintro e w1 ⟨rfl, hb1⟩; rw [H.out])
  go_loopw [5, 0, 10] (fun v5 v0 v10 wr => ∃ j m : Nat, (j : Int) ≤ k ∧ v10 = .int .i64 j ∧ v0 = .int .u64 m ∧ Hid (m = n / 256 ^ j) ∧ m < 18446744073709551616 ∧
      wr.ownsRow w.heap.size 5 1 v5 j (bcells (leB j n)) ∧ Below w.heap.size w wr) (fun _ _ v10 _ => (k - intOf v10).toNat)
  case atStart => exact ⟨0, n, by omega, rfl, rfl, Lib.hid (by simp), hn, World.ownsRow_nil _ _ _ _, hb1⟩
  case round =>
    obtain ⟨j, m, hj, rfl, rfl, HM, hm, hown, hnx⟩ := hrel
    by_cases hlt : (j : Int) < k
    · go_wp2_with (first | (at_builtin; refine wpList_append_own _ rfl _ _ 40 rfl w.heap.size 5 i0 (.int .u8 0) 1 1 Try.underlying40 hi hz0 hz1 hz2 rfl (by decide) _ _ _ rfl (hown.alloc _) ⟨wr.heap.size, 0, none⟩ 1 1 [.int .u8 (m % 256)] rfl rfl ?c1 ?c2 ?c3 ?c4 ?c5 ?_))
      case c1 =>
        intro j u hj
        match j, hj with
        | 0, hj => simp at hj; subst hj; simp [Addr.add]
      case c2 => intro u hu; simp at hu; subst hu; rfl
      case c3 => unfold maxLen; omega
      case c4 => omega
      case c5 => have := hnx.size; simp; omega
      intro v' w2 hown' hgrow _
      go_wp2
      go_roundw
      case rel =>
        refine ⟨j + 1, m / 256, by omega, by go_num, by go_num, Lib.hid (div_succ HM.out), by omega, ?_, ?_⟩
        · rw [bcells_succ HM.out]; exact hown'
        · exact (hnx.alloc hnx.size _).grown hgrow (by have := hnx.size; simp; omega) (fun k hk => (hown.lt k hk).1)
      case measure => simp [intOf]; omega
    · have hjk : k = (j : Int) := by omega
      subst hjk
      have hcv := run_string_own (P := Try.prog) (w := wr) (l := leB j n) 40 9 5 Try.underlying40 Try.underlying5 Try.underlying9 (by rw [leB_length]; exact hown) (by rw [leB_length]; omega)
      clear hown
      go_wp2
      go_ret
      refine ⟨ret_str ?_, hnx⟩
      unfold putB putL
      rw [H.out]
      simp
end Go.Proofs.Ytgklmjallmbdgaa
