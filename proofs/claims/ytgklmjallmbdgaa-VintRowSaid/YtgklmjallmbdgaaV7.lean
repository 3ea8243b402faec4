/- The walk of the law VintRow: it returns true. Conditions: the numbers within their kind. -/
import Derived.Test.YtgklmjallmbdgaaV4
import Derived.Deep.DeepCutAuto
namespace Go.Proofs.Ytgklmjallmbdgaa
open Go.RowKit

/-- a slice that reads as a list of numbers, nil let in; its cells lie below block 'B' -/
def SlU (w : World) (B : Nat) (A : Option Addr) (xs : List Int) : Prop :=
  0 < xs.length → ∃ b o, A = some ⟨b, o, none⟩ ∧ b < B ∧ ∀ j, j < xs.length → w.cell? ⟨b, o + j, none⟩ = some (.int .u64 (xs.getD j 0))
theorem SlU.later {w w' : World} {A : Option Addr} {xs : List Int} {B : Nat} (h : SlU w B A xs) (hb : Below B w w') : SlU w' B A xs := by
  intro h0
  obtain ⟨b, o, e, hl, hc⟩ := h h0
  exact ⟨b, o, e, hl, fun j hj => (hb.cell (p := ⟨b, o + j, none⟩) hl).trans (hc j hj)⟩

/-- the bytes of numbers, one behind the other -/
def vAll : List Int → ByteArray
  | [] => ⟨#[]⟩
  | x :: r => vPut x.toNat ++ vAll r
theorem vAll_append (a b : List Int) : vAll (a ++ b) = vAll a ++ vAll b := by
  induction a with
  | nil => simp only [List.nil_append, vAll]; exact (ByteArray.empty_append).symm
  | cons x l ih => simp only [List.cons_append, vAll, ih, ByteArray.append_assoc]
theorem vAll_size (a : List Int) : (vAll a).size ≤ 9 * a.length := by
  induction a with
  | nil => simp [vAll]; rfl
  | cons x l ih => simp only [vAll, size_append, vPut_size, List.length_cons]; have := vk_cases x.toNat; omega
theorem vAll_step (xs : List Int) (k : Nat) (h : k < xs.length) : vAll (xs.take (k + 1)) = vAll (xs.take k) ++ vPut (xs.getD k 0).toNat := by
  rw [List.take_add_one, List.getElem?_eq_getElem h, vAll_append]
  simp only [Option.toList, vAll]
  congr 1
  rw [List.getD_eq_getElem?_getD, List.getElem?_eq_getElem h, Option.getD_some]
  exact ByteArray.append_empty
theorem vAll_split (xs : List Int) (k : Nat) (h : k < xs.length) : vAll xs = vAll (xs.take k) ++ vPut (xs.getD k 0).toNat ++ vAll (xs.drop (k + 1)) := by
  rw [← vAll_step xs k h, ← vAll_append, List.take_append_drop]

set_option maxRecDepth 100000 in
set_option maxHeartbeats 1600000 in
theorem law13v (A : Option Addr) (cap : Nat) (xs : List Int) (w : World) (hxs : ∀ n ∈ xs, 0 ≤ n ∧ n ≤ 18446744073709551615) (hcap : xs.length ≤ cap) (hx : SlU w w.heap.size A xs) :
    Calls Try.prog 13 #[.slice A xs.length cap] w fun e w' => e = .returned (.bool true) ∧ Below w.heap.size w w' := by
  obtain ⟨ps, hps⟩ : ∃ ps, Hid (ps = xs.take 20) := ⟨_, rfl⟩
  have hxp : SlU w w.heap.size A ps := by
    intro h0
    have hl : ps.length = min 20 xs.length := by rw [hps.out]; simp
    obtain ⟨g, o, e, hg, hc⟩ := hx (by omega)
    refine ⟨g, o, e, hg, fun j hj => ?_⟩
    rw [hc j (by omega), hps.out]
    simp [show j < xs.length by omega, show j < 20 by omega]
  have hbp : ∀ k, 0 ≤ ps.getD k 0 ∧ ps.getD k 0 ≤ 18446744073709551615 := by
    intro k
    by_cases hk : k < ps.length
    · refine hxs _ ?_
      have : ps.getD k 0 ∈ ps := by simp [hk]
      rw [hps.out] at this ⊢
      exact List.mem_of_mem_take this
    · rw [show ps.getD k 0 = 0 from by simp [show ps.length ≤ k by omega]]; omega
  have HBP := Lib.hid hbp
  have hlp : ps.length = min 20 xs.length := by rw [hps.out]; simp
  have hlen : ps.length ≤ 20 := by omega
  have HLP := Lib.hid hlp
  clear hbp hxs hx hlp
  go_enter Try.func13, Try.ntmps13
  go_upto_region 2 with fail
  go_cut [19, 20, 21] (fun s19 s20 s21 wx => s19 = .slice A ps.length cap ∧ s20 = .int .i64 ps.length ∧ s21 = .int .i64 0 ∧ wx = w)
  case first =>
    by_cases h50 : xs.length ≤ 20
    · have hl3 : Hid (ps.length = xs.length) := by have := HLP.out; show ps.length = xs.length; omega
      go_wp2_with fail
      all_goals
        go_meet
        exact ⟨by rw [hl3.out], by rw [hl3.out], rfl, rfl⟩
    · have hl3 : Hid (ps.length = 20) := by have := HLP.out; show ps.length = 20; omega
      go_wp2_with fail
      all_goals
        go_meet
        exact ⟨by rw [hl3.out], by rw [hl3.out]; rfl, rfl, rfl⟩
  case rest =>
    obtain ⟨rfl, rfl, rfl, rfl⟩ := hcut
    obtain ⟨w, rfl⟩ : ∃ w : World, w = wc := ⟨_, rfl⟩
    go_wp2_with fail
    go_loopw [3, 21] (fun v3 v21 wr => ∃ (k : Nat) (S : ByteArray), k ≤ ps.length ∧ v21 = .int .i64 k ∧ v3 = .string S ∧ Hid (S = vAll (ps.take k)) ∧ Below w.heap.size w wr) (fun _ v21 _ => ps.length - (intOf v21).toNat)
    case atStart => exact ⟨0, ⟨#[]⟩, by omega, rfl, rfl, rfl, Below.refl _ _⟩
    case round =>
      obtain ⟨k, S, hk, rfl, rfl, HS, hnx⟩ := hrel
      by_cases hlt : k < ps.length
      · have hx2 := hxp.later hnx
        obtain ⟨g, o, rfl, hgl, hc⟩ := hx2 (by omega)
        have hcell := hc k hlt
        have HST := Lib.hid (vAll_step ps k hlt)
        have hbx := HBP.out k
        have hS : S.size ≤ 180 := by rw [HS.out]; have := vAll_size (ps.take k); simp at this; omega
        clear hc hx2
        generalize ps.getD k 0 = x at *
        have hz : (vPut x.toNat).size ≤ 9 := by rw [vPut_size]; have := vk_cases x.toNat; omega
        obtain ⟨X, hX⟩ : ∃ X, Hid (vPut x.toNat = X) := ⟨_, rfl⟩
        have hput : ∀ wx, Calls Try.prog 29 #[.int .u64 x] wx fun e w' => e = .returned (.string X) ∧ Below wx.heap.size wx w' := by intro wx; rw [← hX.out]; exact vputi x wx hbx.1 hbx.2
        rw [hX.out] at hz
        obtain ⟨S', hS'⟩ : ∃ S', S' = S ++ X := ⟨_, rfl⟩
        have j := fun wx => run_string_add_sum (P := Try.prog) wx S X (by omega)
        rw [← hS'] at j
        have HS' := Lib.hid hS'
        have HP := Lib.hid hput
        clear hS' hput
        go_wp2_with fail
        refine (HP.out _).mono ?_
        rintro r w1 ⟨rfl, hb1⟩
        go_wp2_with fail
        go_roundw
        case rel => exact ⟨k + 1, S', by omega, by go_num, rfl, by rw [HST.out, HS'.out, HS.out, hX.out]; exact rfl, hnx.trans (hb1.mono hnx.size)⟩
        case measure => simp [intOf]; omega
      · obtain rfl : k = ps.length := by omega
        rw [List.take_length] at HS
        obtain ⟨w1, rfl⟩ : ∃ w1 : World, w1 = wr := ⟨_, rfl⟩
        have hS : S.size ≤ 180 := by rw [HS.out]; have := vAll_size ps; omega
        go_upto_region 8 with fail
        go_cut [34, 35, 36] (fun s34 s35 s36 wx => s34 = .slice A ps.length cap ∧ s35 = .int .i64 ps.length ∧ s36 = .int .i64 0 ∧ wx = w1)
        case first =>
          by_cases h50 : xs.length ≤ 20
          · have hl3 : Hid (ps.length = xs.length) := by have := HLP.out; show ps.length = xs.length; omega
            go_wp2_with fail
            all_goals
              go_meet
              exact ⟨by rw [hl3.out], by rw [hl3.out], rfl, rfl⟩
          · have hl3 : Hid (ps.length = 20) := by have := HLP.out; show ps.length = 20; omega
            go_wp2_with fail
            all_goals
              go_meet
              exact ⟨by rw [hl3.out], by rw [hl3.out]; rfl, rfl, rfl⟩
        case rest =>
          obtain ⟨rfl, rfl, rfl, hwc⟩ := hcut
          obtain ⟨w1, rfl⟩ : ∃ w2 : World, w2 = wc := ⟨_, rfl⟩
          subst hwc
          go_wp2_with fail
          go_loopw [6, 36] (fun v6 v36 wr => ∃ (k : Nat) (t : Int), k ≤ ps.length ∧ v36 = .int .i64 k ∧ v6 = .int .i64 t ∧ Hid (t = (vAll (ps.take k)).size) ∧ Below w.heap.size w wr) (fun _ v36 _ => ps.length - (intOf v36).toNat)
          case atStart => exact ⟨0, 0, by omega, rfl, rfl, rfl, hnx⟩
          case round =>
            obtain ⟨k, t, hk, rfl, rfl, HT, hnx⟩ := hrel
            by_cases hlt : k < ps.length
            · have hx2 := hxp.later hnx
              obtain ⟨g, o, rfl, hgl, hc⟩ := hx2 (by omega)
              have hcell := hc k hlt
              have HST := Lib.hid (vAll_step ps k hlt)
              have HSP := Lib.hid (vAll_split ps k hlt)
              have hbx := HBP.out k
              clear hc hx2
              generalize ps.getD k 0 = x at *
              obtain ⟨Z, hZ, hZ1, hZ2⟩ : ∃ Z : Int, Hid (Z = (vPut x.toNat).size) ∧ 1 ≤ Z ∧ Z ≤ 9 := ⟨_, rfl, by rw [vPut_size]; omega, by rw [vPut_size]; have := vk_cases x.toNat; omega⟩
              have ht0 : 0 ≤ t ∧ t ≤ 180 := by
                have := HT.out
                have h2 := vAll_size (ps.take k)
                simp at h2
                omega
              have hget : ∀ wx, Calls Try.prog 30 #[.string S, .int .i64 t] wx fun e w' => e = .returned (.tuple #[.int .u64 x, .int .i64 (t + Z), .int .i64 0]) ∧ Below wx.heap.size wx w' := by
                intro wx
                have h := vget_any S t wx (by omega) (by omega)
                have hn : x.toNat < 18446744073709551616 := by omega
                have m1 := mid_E (vAll (ps.take k)) (vAll (ps.drop (k + 1))) hn
                have m2 := mid_N (vAll (ps.take k)) (vAll (ps.drop (k + 1))) hn
                have m3 := mid_T (vAll (ps.take k)) (vAll (ps.drop (k + 1))) hn
                rw [← HSP.out, ← HS.out, ← HT.out] at m1 m2 m3
                rw [m1, m2, m3, Int.natCast_add, ← HT.out, ← hZ.out, show ((x.toNat : Nat) : Int) = x from by omega] at h
                exact h
              have HG := Lib.hid hget
              clear hget
              go_wp2_with fail
              refine (HG.out _).mono ?_
              rintro r w2 ⟨rfl, hb2⟩
              go_wp2_with fail
              go_roundw
              case rel => exact ⟨k + 1, t + Z, by omega, by go_num, rfl, by rw [HST.out, size_append, Int.natCast_add, ← HT.out, ← hZ.out]; exact rfl, hnx.trans (hb2.mono hnx.size)⟩
              case measure => simp [intOf]; omega
            · obtain rfl : k = ps.length := by omega
              rw [List.take_length, ← HS.out] at HT
              have ht := HT.out
              subst ht
              obtain ⟨e1, e2, e3⟩ := vE_short (s := S) (i := S.size) (by omega) (by omega) (.inl rfl)
              have hget : ∀ wx, Calls Try.prog 30 #[.string S, .int .i64 S.size] wx fun e w' => e = .returned (.tuple #[.int .u64 0, .int .i64 0, .int .i64 5]) ∧ Below wx.heap.size wx w' := by
                intro wx
                have h := vget_any S S.size wx (by omega) (by omega)
                rw [e1, e2, e3] at h
                exact h
              have HG := Lib.hid hget
              clear hget e1 e2 e3
              go_wp2_with fail
              refine (HG.out _).mono ?_
              rintro r w2 ⟨rfl, hb2⟩
              replace hb2 := hnx.trans (hb2.mono hnx.size)
              go_wp2_with fail
              refine (vwakes_any _).mono ?_
              rintro r w3 ⟨rfl, hb3⟩
              replace hb3 := hb2.trans (hb3.mono hb2.size); clear hb2
              go_wp2_with fail
              go_ret
              exact ⟨rfl, hb3⟩

theorem walkVintRow (A : Option Addr) (cap : Nat) (xs : List Int) (w : World) (hcap : xs.length ≤ cap) (hxs : ∀ n ∈ xs, (Lit.int .u64 n).wf = true) (hx : SlU w w.heap.size A xs) :
    Calls Try.prog 13 #[.slice A xs.length cap] w fun e w' => e = .returned (.bool true) ∧ Below w.heap.size w w' :=
  law13v A cap xs w (fun n hn => by have := bounds_u64 (hxs n hn); omega) hcap hx
end Go.Proofs.Ytgklmjallmbdgaa
