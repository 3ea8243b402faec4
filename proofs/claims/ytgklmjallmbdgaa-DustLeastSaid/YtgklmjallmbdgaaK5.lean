/- The walk of the law DustTx: it returns true. Conditions: the transaction lies in memory as its parts say. -/
import Derived.Test.YtgklmjallmbdgaaK3
import Derived.Test.YtgklmjallmbdgaaK4
import Derived.Deep.DeepCutAuto
namespace Go.Proofs.Ytgklmjallmbdgaa
open Go.RowKit

theorem SlS.more {w : World} {A : Option Addr} {n B B' : Nat} (h : SlS w B A n) (hb : B ≤ B') : SlS w B' A n := by
  intro h0
  obtain ⟨b, o, e, hl, hc⟩ := h h0
  exact ⟨b, o, e, by omega, hc⟩
theorem SlI.more {w : World} {A : Option Addr} {n B B' : Nat} (h : SlI w B A n) (hb : B ≤ B') : SlI w B' A n := by
  intro h0
  obtain ⟨b, o, e, hl, hc⟩ := h h0
  refine ⟨b, o, e, by omega, fun j hj => ?_⟩
  obtain ⟨s, x, q, WA, WL, WC, h1, h2, h3, h4, h5, h6, h7⟩ := hc j hj
  exact ⟨s, x, q, WA, WL, WC, h1, h2, h3, h4, h5, h6, h7.more hb⟩
theorem fdI_yes {os : List (Int × ByteArray)} (h : 0 ≤ fdI os) : fdI os = lead os ∧ fdI os < os.length := by
  unfold fdI at *
  split at h
  · rename_i h1; rw [if_pos h1]; omega
  · omega
theorem fdI_no {os : List (Int × ByteArray)} (h : ¬ 0 ≤ fdI os) : lead os = os.length ∧ fdI os = -1 := by
  unfold fdI at *
  have := lead_le os
  split at h
  · omega
  · rename_i h1; rw [if_neg h1]; omega

set_option maxRecDepth 20000 in
set_option maxHeartbeats 3200000 in
theorem law9 (x y : Int) (IA OA : Option Addr) (IL IC OL OC : Nat) (w : World) (hI : SlI w w.heap.size IA IL) (outs : List (Int × ByteArray)) (hOL : outs.length = OL) (hO : SlO w w.heap.size OA outs) (hos : ∀ p ∈ outs, p.2.size ≤ 9223372036854775807) :
    Calls Try.prog 9 #[.agg #[.int .u32 x, .slice IA IL IC, .slice OA OL OC, .int .u32 y]] w fun e w' => e = .returned (.bool true) ∧ Below w.heap.size w w' := by
  have hb0 := (Below.refl w.heap.size w).alloc (Nat.le_refl _) (.cells #[.int .u32 x, .slice IA IL IC, .slice OA OL OC, .int .u32 y] 47)
  have hcut := cut_any x y IA OA IL IC OL OC 10 (w.alloc (.cells #[.int .u32 x, .slice IA IL IC, .slice OA OL OC, .int .u32 y] 47)) (by omega) ((hI.later hb0).more hb0.size) outs hOL ((hO.later hb0).more hb0.size) hos
  have HC := Lib.hid hcut
  clear hcut hI hO hos
  go_enter Try.func9, Try.ntmps9
  go_wp2_with fail
  refine HC.out.mono ?_
  rintro e w1 ⟨⟨A, B, k, cap, capo, os, rfl, hl, h50, hcap, hs⟩, hb1⟩
  replace hb1 := hb0.trans (hb1.mono hb0.size)
  clear hb0 HC
  have hos : ∀ p ∈ os, p.2.size ≤ 140737488351232 := fun p hp => by have := h50 p hp; omega
  have hb2 := (Below.refl w1.heap.size w1).alloc (Nat.le_refl _) (.cells #[.int .u32 x, .slice A k cap, .slice B os.length capo, .int .u32 y] 47)
  have hfirst := first_any x y A B k cap capo os (w1.alloc (.cells #[.int .u32 x, .slice A k cap, .slice B os.length capo, .int .u32 y] 47)) hos hl ((hs.later hb2).more hb2.size)
  have b3 := Blk.new w1 #[.int .u32 x, .slice A k cap, .slice B os.length capo, .int .u32 y] 47
  have HF := Lib.hid hfirst
  have HOS := Lib.hid hos
  have H50 := Lib.hid h50
  have B3 := Lib.hid b3
  clear hfirst hos h50 b3
  go_wp2_with fail
  refine HF.out.mono ?_
  rintro e w2 ⟨rfl, hb3⟩
  have h2 := B3.out.later hb3 (by simp)
  have c2 := h2.cell 2 rfl
  have HS := Lib.hid ((hs.later hb2).later (hb3.mono hb2.size))
  have HB := Lib.hid (hb1.trans ((hb2.trans (hb3.mono hb2.size)).mono hb1.size))
  have hsz := hb2.trans (hb3.mono hb2.size)
  have hz := Nat.le_trans hb1.size hsz.size
  have hz1 := hsz.size
  clear hs hb1 hb2 hb3 h2 B3 HF hsz
  by_cases hp : 0 ≤ fdI os
  · obtain ⟨f1, f2⟩ := fdI_yes hp
    obtain ⟨F, hF, hF0, hF1⟩ : ∃ F : Int, Hid (fdI os = F) ∧ 0 ≤ F ∧ F < os.length := ⟨_, rfl, hp, f2⟩
    have hle : Hid (F = lead os) := by rw [← hF.out]; exact f1
    have e1 : fdP os = F := by unfold fdP; rw [if_pos hp, hF.out]
    rw [e1, decide_eq_true hp]
    clear e1 f1 f2 hp
    go_wp2_with fail
    go_loopw [39] (fun v39 wx => ∃ i : Nat, v39 = .int .i64 i ∧ i ≤ os.length ∧ Below w2.heap.size w2 wx) (fun v39 _ => (os.length - (intOf v39)).toNat)
    case atStart => exact ⟨0, rfl, by omega, Below.refl _ _⟩
    case round =>
      obtain ⟨i, rfl, hi, hbr⟩ := hrel
      by_cases hlt : (i : Int) < os.length
      · skip
        obtain ⟨b, o, rfl, hbl, hc⟩ := (HS.out.later (hbr.mono hz1)) (by omega)
        obtain ⟨p, hp⟩ : ∃ p, Hid (os[i]? = some p) := ⟨_, List.getElem?_eq_getElem (by omega)⟩
        obtain ⟨d0, d1⟩ := hc i p hp.out
        have hps : p.2.size ≤ 140737488351232 := HOS.out p (List.mem_of_getElem? hp.out)
        clear hc
        obtain ⟨wo, rfl⟩ : ∃ wo : World, wo = wr := ⟨_, rfl⟩
        have hb4 := hbr.alloc hbr.size (.cells #[.int .i64 p.1, .string p.2] 39)
        have HBR := Lib.hid hbr
        clear hbr
        have hdu := fun wx => dust_any p.1 p.2 wx hps
        rcases (by omega : (i : Int) < F ∨ (i : Int) = F ∨ F < (i : Int)) with h1 | h1 | h1
        · have hD : Hid (dust p.1 p.2 = false) := lead_before os i p (by have := hle.out; omega) hp.out
          rw [hD.out] at hdu
          go_wp2_with fail
          refine (hdu _).mono ?_
          rintro e w3 ⟨rfl, hb5⟩
          go_wp2_with fail
          go_roundw
          case rel => exact ⟨i + 1, by go_num, by omega, hb4.trans (hb5.mono hb4.size)⟩
          case measure => simp [intOf]; omega
        · have hD : Hid (dust p.1 p.2 = true) := lead_at os p (by have := hle.out; rw [show lead os = i from by omega]; exact hp.out)
          have h1' : F ≤ (i : Int) := by omega
          clear h1
          rw [hD.out] at hdu
          go_wp2_with fail
          refine (hdu _).mono ?_
          rintro e w3 ⟨rfl, hb5⟩
          go_wp2_with fail
          go_roundw
          case rel => exact ⟨i + 1, by go_num, by omega, hb4.trans (hb5.mono hb4.size)⟩
          case measure => simp [intOf]; omega
        · have hdt : dust p.1 p.2 = true ∨ dust p.1 p.2 = false := by cases dust p.1 p.2 <;> simp
          rcases hdt with hdt | hdt
          · rw [hdt] at hdu
            clear hdt
            go_wp2_with fail
            refine (hdu _).mono ?_
            rintro e w3 ⟨rfl, hb5⟩
            go_wp2_with fail
            go_roundw
            case rel => exact ⟨i + 1, by go_num, by omega, hb4.trans (hb5.mono hb4.size)⟩
            case measure => simp [intOf]; omega
          · rw [hdt] at hdu
            clear hdt
            go_wp2_with fail
            refine (hdu _).mono ?_
            rintro e w3 ⟨rfl, hb5⟩
            go_wp2_with fail
            go_roundw
            case rel => exact ⟨i + 1, by go_num, by omega, hb4.trans (hb5.mono hb4.size)⟩
            case measure => simp [intOf]; omega
      · obtain rfl : i = os.length := by omega
        go_wp2_with fail
        refine (dwakes_any _).mono ?_
        rintro e w3 ⟨rfl, hb3⟩
        go_wp2_with fail
        go_ret
        exact ⟨rfl, HB.out.trans ((hbr.trans (hb3.mono hbr.size)).mono hz)⟩
  · obtain ⟨f1, f2⟩ := fdI_no hp
    have hle : Hid (lead os = os.length) := f1
    have e1 : fdP os = 0 := by unfold fdP; rw [if_neg hp]
    rw [e1, decide_eq_false hp]
    clear e1 f1 f2 hp
    go_wp2_with fail
    go_loopw [39] (fun v39 wx => ∃ i : Nat, v39 = .int .i64 i ∧ i ≤ os.length ∧ Below w2.heap.size w2 wx) (fun v39 _ => (os.length - (intOf v39)).toNat)
    case atStart => exact ⟨0, rfl, by omega, Below.refl _ _⟩
    case round =>
      obtain ⟨i, rfl, hi, hbr⟩ := hrel
      by_cases hlt : (i : Int) < os.length
      · skip
        obtain ⟨b, o, rfl, hbl, hc⟩ := (HS.out.later (hbr.mono hz1)) (by omega)
        obtain ⟨p, hp⟩ : ∃ p, Hid (os[i]? = some p) := ⟨_, List.getElem?_eq_getElem (by omega)⟩
        obtain ⟨d0, d1⟩ := hc i p hp.out
        have hps : p.2.size ≤ 140737488351232 := HOS.out p (List.mem_of_getElem? hp.out)
        clear hc
        obtain ⟨wo, rfl⟩ : ∃ wo : World, wo = wr := ⟨_, rfl⟩
        have hb4 := hbr.alloc hbr.size (.cells #[.int .i64 p.1, .string p.2] 39)
        have HBR := Lib.hid hbr
        clear hbr
        have hdu := fun wx => dust_any p.1 p.2 wx hps
        have hD : Hid (dust p.1 p.2 = false) := lead_before os i p (by have := hle.out; omega) hp.out
        rw [hD.out] at hdu
        go_wp2_with fail
        refine (hdu _).mono ?_
        rintro e w3 ⟨rfl, hb5⟩
        go_wp2_with fail
        go_roundw
        case rel => exact ⟨i + 1, by go_num, by omega, hb4.trans (hb5.mono hb4.size)⟩
        case measure => simp [intOf]; omega
      · obtain rfl : i = os.length := by omega
        go_wp2_with fail
        refine (dwakes_any _).mono ?_
        rintro e w3 ⟨rfl, hb3⟩
        go_wp2_with fail
        go_ret
        exact ⟨rfl, HB.out.trans ((hbr.trans (hb3.mono hbr.size)).mono hz)⟩
end Go.Proofs.Ytgklmjallmbdgaa
