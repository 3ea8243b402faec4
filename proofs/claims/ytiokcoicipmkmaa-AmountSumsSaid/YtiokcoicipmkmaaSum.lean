/- Contracts of the sums of amounts: the program's and the document's are one plain function. Conditions: at most 1000 amounts. -/
import Derived.Test.YtiokcoicipmkmaaAmt2
import Derived.Test.YtiokcoicipmkmaaRow
namespace Go.Proofs.Ytiokcoicipmkmaa
open Go.RowKit

/-- a slice that reads as a list of numbers, nil let in; its cells lie below block 'B' -/
def Sl (w : World) (B : Nat) (A : Option Addr) (xs : List Int) : Prop :=
  0 < xs.length → ∃ b o, A = some ⟨b, o, none⟩ ∧ b < B ∧ ∀ j, j < xs.length → w.cell? ⟨b, o + j, none⟩ = some (.int .i64 (xs.getD j 0))
theorem Sl.later {w w' : World} {A : Option Addr} {xs : List Int} {B : Nat} (h : Sl w B A xs) (hb : Below B w w') : Sl w' B A xs := by
  intro h0
  obtain ⟨b, o, e, hl, hc⟩ := h h0
  exact ⟨b, o, e, hl, fun j hj => (hb.cell (p := ⟨b, o + j, none⟩) hl).trans (hc j hj)⟩
theorem Sl.more {w : World} {A : Option Addr} {xs : List Int} {B B' : Nat} (h : Sl w B A xs) (hb : B ≤ B') : Sl w B' A xs := by
  intro h0
  obtain ⟨b, o, e, hl, hc⟩ := h h0
  exact ⟨b, o, e, by omega, hc⟩

def sumV (xs : List Int) : Int := (sumA xs).getD 0
def sumOk (xs : List Int) : Bool := (sumA xs).isSome

theorem sumFrom_step {s : Int} {xs : List Int} {k : Nat} (h : k < xs.length) : sumFrom s (xs.drop k) = if addOk s (xs.getD k 0) then sumFrom (s + xs.getD k 0) (xs.drop (k + 1)) else none := by
  rw [List.drop_eq_getElem_cons h, sumFrom, show xs.getD k 0 = xs[k] from by simp [h]]

theorem sum_any (xs : List Int) (A : Option Addr) (cap : Nat) (w : World) (hl : xs.length ≤ 1000) (h : Sl w w.heap.size A xs) :
    Calls Try.prog 29 #[.slice A xs.length cap] w fun r w' => r = .returned (.tuple #[.int .i64 (sumV xs), .int .i64 (errA (sumOk xs))]) ∧ w' = w := by
  go_enter Try.func29, Try.ntmps29
  go_wp2_with fail
  go_loopw [4, 10] (fun v4 v10 wr => ∃ (k : Nat) (s : Int), k ≤ xs.length ∧ v4 = .int .i64 s ∧ v10 = .int .i64 k ∧ Hid (sumFrom s (xs.drop k) = sumA xs) ∧ Hid (goodA s = true) ∧ wr = w) (fun _ v10 _ => xs.length - (intOf v10).toNat)
  case atStart => exact ⟨0, 0, by omega, rfl, rfl, by rfl, (by decide : goodA 0 = true), rfl⟩
  case round =>
    obtain ⟨k, s, hk, rfl, rfl, hS, hG, rfl⟩ := hrel
    by_cases hlt : k < xs.length
    · obtain ⟨b, o, rfl, hb, hc⟩ := h (by omega)
      have hx := hc k hlt
      clear hc h
      have hst := sumFrom_step (s := s) hlt
      rw [hS.out] at hst
      have HS := Lib.hid hst
      clear hst hS
      generalize xs.getD k 0 = x at *
      by_cases ok : addOk s x = true
      · have e1 : addA s x = s + x := by unfold addA; rw [if_pos ok]
        have HN : Hid (sumFrom (s + x) (xs.drop (k + 1)) = sumA xs) := by have := HS.out; rw [if_pos ok] at this; exact this.symm
        have HG2 : Hid (goodA (s + x) = true) := by unfold addOk at ok; simp only [Bool.and_eq_true] at ok; exact ok.2
        have OK := Lib.hid ok
        have E1 := Lib.hid e1
        clear ok e1
        go_wp2_with fail
        refine (add_any _ _ _).mono ?_
        rintro r w' ⟨rfl, rfl⟩
        rw [E1.out, OK.out]
        simp only [errA, if_true]
        go_wp2_with fail
        go_roundw
        case rel => exact ⟨k + 1, s + x, by omega, rfl, by go_num, HN, HG2, trivial⟩
        case measure => simp [intOf]; omega
      · have hn : sumA xs = none := by have := HS.out; rw [if_neg ok] at this; exact this
        have HN := Lib.hid hn
        have OK := Lib.hid ok
        clear ok hn
        go_wp2_with fail
        refine (add_any _ _ _).mono ?_
        rintro r w' ⟨rfl, rfl⟩
        rw [show addOk s x = false from by simpa using OK.out]
        simp only [errA]
        go_wp2_with fail
        go_ret2
        refine ⟨?_, rfl⟩
        unfold sumV sumOk
        rw [HN.out]
        rfl
    · obtain rfl : k = xs.length := by omega
      have hn : sumA xs = some s := by have := hS.out; rw [List.drop_length, sumFrom] at this; exact this.symm
      have HN := Lib.hid hn
      clear hn hS
      go_wp2_with fail
      go_ret2
      refine ⟨?_, rfl⟩
      unfold sumV sumOk
      rw [HN.out]
      rfl

theorem rsum_any (xs : List Int) (A : Option Addr) (cap : Nat) (w : World) (hl : xs.length ≤ 1000) (h : Sl w w.heap.size A xs) :
    Calls Try.prog 30 #[.slice A xs.length cap] w fun r w' => r = .returned (.tuple #[.int .i64 (sumV xs), .int .i64 (errA (sumOk xs))]) ∧ w' = w := by
  go_enter Try.func30, Try.ntmps30
  go_wp2_with fail
  go_loopw [4, 5] (fun v4 v5 wr => ∃ (k : Nat) (s : Int), k ≤ xs.length ∧ v4 = .int .i64 s ∧ v5 = .int .i64 k ∧ Hid (sumFrom s (xs.drop k) = sumA xs) ∧ Hid (goodA s = true) ∧ wr = w) (fun _ v5 _ => xs.length - (intOf v5).toNat)
  case atStart => exact ⟨0, 0, by omega, rfl, rfl, by rfl, (by decide : goodA 0 = true), rfl⟩
  case round =>
    obtain ⟨k, s, hk, rfl, rfl, hS, hG, rfl⟩ := hrel
    by_cases hlt : k < xs.length
    · obtain ⟨b, o, rfl, hb, hc⟩ := h (by omega)
      have hx := hc k hlt
      clear hc h
      have hst := sumFrom_step (s := s) hlt
      rw [hS.out] at hst
      have HS := Lib.hid hst
      clear hst hS
      generalize xs.getD k 0 = x at *
      by_cases o1 : goodA x = true
      · have b1 := good_of o1
        have b0 := good_of hG.out
        have O1 := Lib.hid o1
        clear o1
        by_cases o2 : goodA (s + x) = true
        · have ok : addOk s x = true := by unfold addOk; rw [hG.out, O1.out, o2]; rfl
          have HN : Hid (sumFrom (s + x) (xs.drop (k + 1)) = sumA xs) := by have := HS.out; rw [if_pos ok] at this; exact this.symm
          have O2 := Lib.hid o2
          clear ok o2
          go_wp2_with fail
          refine (rgoodA_any _ _).mono ?_
          rintro r w' ⟨rfl, rfl⟩
          rw [O1.out]
          go_wp2_with fail
          refine (rgoodA_any _ _).mono ?_
          rintro r w' ⟨rfl, rfl⟩
          rw [O2.out]
          go_wp2_with fail
          go_roundw
          case rel => exact ⟨k + 1, s + x, by omega, rfl, by go_num, HN, O2, trivial⟩
          case measure => simp [intOf]; omega
        · have ok : ¬ addOk s x = true := by unfold addOk; simp only [Bool.and_eq_true]; exact fun hh => o2 hh.2
          have hn : sumA xs = none := by have := HS.out; rw [if_neg ok] at this; exact this
          have HN := Lib.hid hn
          have O2 := Lib.hid o2
          clear ok hn o2
          go_wp2_with fail
          refine (rgoodA_any _ _).mono ?_
          rintro r w' ⟨rfl, rfl⟩
          rw [O1.out]
          go_wp2_with fail
          refine (rgoodA_any _ _).mono ?_
          rintro r w' ⟨rfl, rfl⟩
          rw [show goodA (s + x) = false from by simpa using O2.out]
          go_wp2_with fail
          go_ret2
          refine ⟨?_, rfl⟩
          unfold sumV sumOk
          rw [HN.out]
          rfl
      · have ok : ¬ addOk s x = true := by unfold addOk; simp only [Bool.and_eq_true]; exact fun hh => o1 hh.1.2
        have hn : sumA xs = none := by have := HS.out; rw [if_neg ok] at this; exact this
        have HN := Lib.hid hn
        have O1 := Lib.hid o1
        clear ok hn o1
        go_wp2_with fail
        refine (rgoodA_any _ _).mono ?_
        rintro r w' ⟨rfl, rfl⟩
        rw [show goodA x = false from by simpa using O1.out]
        go_wp2_with fail
        go_ret2
        refine ⟨?_, rfl⟩
        unfold sumV sumOk
        rw [HN.out]
        rfl
    · obtain rfl : k = xs.length := by omega
      have hn : sumA xs = some s := by have := hS.out; rw [List.drop_length, sumFrom] at this; exact this.symm
      have HN := Lib.hid hn
      clear hn hS
      go_wp2_with fail
      go_ret2
      refine ⟨?_, rfl⟩
      unfold sumV sumOk
      rw [HN.out]
      rfl
end Go.Proofs.Ytiokcoicipmkmaa
