/- The walk of the law DustLeast: it returns true. Conditions: the transaction lies in memory as its parts say. -/
import Derived.Test.YtgklmjallmbdgaaK5
namespace Go.Proofs.Ytgklmjallmbdgaa
open Go.RowKit

set_option maxRecDepth 20000 in
set_option maxHeartbeats 3200000 in
theorem law8 (x y : Int) (IA OA : Option Addr) (IL IC OL OC : Nat) (V : Int) (w : World) (hI : SlI w w.heap.size IA IL) (outs : List (Int × ByteArray)) (hOL : outs.length = OL) (hO : SlO w w.heap.size OA outs) (hos : ∀ p ∈ outs, p.2.size ≤ 9223372036854775807) :
    Calls Try.prog 8 #[.agg #[.int .u32 x, .slice IA IL IC, .slice OA OL OC, .int .u32 y], .int .i64 V] w fun e w' => e = .returned (.bool true) ∧ Below w.heap.size w w' := by
  have hb0 := (Below.refl w.heap.size w).alloc (Nat.le_refl _) (.cells #[.int .u32 x, .slice IA IL IC, .slice OA OL OC, .int .u32 y] 47)
  have hcut := cut_any x y IA OA IL IC OL OC 12 (w.alloc (.cells #[.int .u32 x, .slice IA IL IC, .slice OA OL OC, .int .u32 y] 47)) (by omega) ((hI.later hb0).more hb0.size) outs hOL ((hO.later hb0).more hb0.size) hos
  have HC := Lib.hid hcut
  clear hcut hI hO hos
  go_enter Try.func8, Try.ntmps8
  go_wp2_with fail
  refine HC.out.mono ?_
  rintro e w1 ⟨⟨A, B, k, cap, capo, os, rfl, hl, h50, hcap, hs⟩, hb1⟩
  replace hb1 := hb0.trans (hb1.mono hb0.size)
  clear hb0 HC
  have hos : ∀ p ∈ os, p.2.size ≤ 140737488351232 := fun p hp => by have := h50 p hp; omega
  have hb2 := (Below.refl w1.heap.size w1).alloc (Nat.le_refl _) (.cells #[.int .u32 x, .slice A k cap, .slice B os.length capo, .int .u32 y] 47)
  have b3 := Blk.new w1 #[.int .u32 x, .slice A k cap, .slice B os.length capo, .int .u32 y] 47
  have HOS := Lib.hid hos
  have B3 := Lib.hid b3
  have HS := Lib.hid (hs.later hb2)
  have HB := Lib.hid (hb1.trans (hb2.mono hb1.size))
  have hz := hb1.size
  clear hos h50 b3 hs hb1 hb2
  go_wp2_with fail
  obtain ⟨W, hW⟩ : ∃ W, W = w1.alloc (.cells #[.int .u32 x, .slice A k cap, .slice B os.length capo, .int .u32 y] 47) := ⟨_, rfl⟩
  obtain ⟨n, hn⟩ : ∃ n, Hid (w1.heap.size = n) := ⟨_, rfl⟩
  rw [← hW] at B3 HS HB ⊢
  rw [hn.out] at B3 HS hz ⊢
  have hsW : n + 1 ≤ W.heap.size := by rw [hW, ← hn.out]; simp
  clear hW
  go_loopw [24] (fun v24 wx => ∃ i : Nat, v24 = .int .i64 i ∧ i ≤ os.length ∧ Below (n + 1) W wx) (fun v24 _ => (os.length - (intOf v24)).toNat)
  case atStart => exact ⟨0, rfl, by omega, Below.refl _ _⟩
  case round =>
    obtain ⟨i, rfl, hi, hbr⟩ := hrel
    by_cases hlt : (i : Int) < os.length
    · obtain ⟨b, o, rfl, hbl, hc⟩ := (HS.out.later (hbr.mono (by omega))) (by omega)
      obtain ⟨p, hp⟩ : ∃ p, Hid (os[i]? = some p) := ⟨_, List.getElem?_eq_getElem (by omega)⟩
      obtain ⟨d0, d1⟩ := hc i p hp.out
      have hps : p.2.size ≤ 140737488351232 := HOS.out p (List.mem_of_getElem? hp.out)
      clear hc
      obtain ⟨pa, pb⟩ := p
      simp only at d0 d1 hps
      obtain ⟨wo, rfl⟩ : ∃ wo : World, wo = wr := ⟨_, rfl⟩
      obtain ⟨Z, hZ⟩ : ∃ Z, Hid (dZ pb = Z) := ⟨_, rfl⟩
      obtain ⟨E, hE, hE0, hE1⟩ : ∃ E, Hid (dE pb = E) ∧ 0 ≤ E ∧ E ≤ 20 := ⟨_, rfl, dE_range pb⟩
      obtain ⟨L, hL, hL0, hL1⟩ : ∃ L, Hid (dL pb = L) ∧ 0 ≤ L ∧ L ≤ 348 := ⟨_, rfl, dL_range pb⟩
      have hsz : n + 1 ≤ wo.heap.size := by have := hbr.size; omega
      have hb4 := (Below.refl wo.heap.size wo).alloc (Nat.le_refl _) (.cells #[.int .i64 pa, .string pb] 39)
      have b7 := Blk.new wo #[.int .i64 pa, .string pb] 39
      have HBR := Lib.hid hbr
      have HB4 := Lib.hid hb4
      have B7 := Lib.hid b7
      have hb7s := hb4.size
      clear hbr hb4 b7
      go_wp2_with fail
      refine (dsize_any pa pb _ hps).mono ?_
      rintro e w3 ⟨rfl, hb5⟩
      have b7 := B7.out.later hb5 (by simp)
      have e0 := b7.cell 0 rfl
      have e1 := b7.cell 1 rfl
      have HB5 := Lib.hid (HB4.out.trans (hb5.mono HB4.out.size))
      have hs3 := b7.lt
      have B7' := Lib.hid b7
      clear b7 hb5 B7 HB4
      rw [hZ.out, hE.out]
      go_wp2_with fail
      refine (rsize_any pa pb _ hps).mono ?_
      rintro e w4 ⟨rfl, hb5⟩
      have b7 := B7'.out.later hb5 hs3
      have e0' := b7.cell 0 rfl
      have e1' := b7.cell 1 rfl
      have HB6 := Lib.hid (HB5.out.trans (hb5.mono HB5.out.size))
      have hs4 := b7.lt
      have B7 := Lib.hid b7
      clear b7 hb5 B7' HB5 e0 e1 hs3
      rw [hZ.out, hE.out]
      go_wp2_with fail
      refine (least_any pa pb _ hps).mono ?_
      rintro e w5 ⟨rfl, hb5⟩
      have b7 := B7.out.later hb5 hs4
      have e0 := b7.cell 0 rfl
      have e1 := b7.cell 1 rfl
      have HB7 := Lib.hid (HB6.out.trans (hb5.mono HB6.out.size))
      have hs5 := b7.lt
      have B7' := Lib.hid b7
      clear b7 hb5 B7 HB6 e0' e1' hs4
      rw [hL.out, hE.out]
      go_wp2_with fail
      refine (rleast_any pa pb _ hps).mono ?_
      rintro e w6 ⟨rfl, hb5⟩
      have b7 := B7'.out.later hb5 hs5
      have e0' := b7.cell 0 rfl
      have e1' := b7.cell 1 rfl
      have g0 := b7.frozen 0
      have HB8 := Lib.hid (HB7.out.trans (hb5.mono HB7.out.size))
      have hs6 := b7.lt
      have B7 := Lib.hid b7
      clear b7 hb5 B7' HB7 e0 e1 hs5
      rw [hL.out, hE.out]
      have hdu := dust_eq V pb
      rw [hE.out, hL.out] at hdu
      by_cases he : E = 0
      · subst he
        by_cases hv : V < L
        · have hdt : Hid (dust V pb = true) := by rw [Hid, hdu]; simp [hv]
          clear hdu
          go_wp2_with fail
          refine (dust_any V pb _ hps).mono ?_
          rintro e w7 ⟨rfl, hb5⟩
          have hb9 := HBR.out.trans ((((HB8.out.mono hsz).setCell (p := ⟨wo.heap.size, 0, none⟩) hsz (.int .i64 V))).trans (hb5.mono (by simp [World.setCell]; omega)))
          clear hb5
          rw [hdt.out]
          go_wp2_with fail
          go_roundw
          case rel => exact ⟨i + 1, by go_num, by omega, hb9⟩
          case measure => simp [intOf]; omega
        · have hdt : Hid (dust V pb = false) := by rw [Hid, hdu]; simp [hv]
          clear hdu
          go_wp2_with fail
          refine (dust_any V pb _ hps).mono ?_
          rintro e w7 ⟨rfl, hb5⟩
          have hb9 := HBR.out.trans ((((HB8.out.mono hsz).setCell (p := ⟨wo.heap.size, 0, none⟩) hsz (.int .i64 V))).trans (hb5.mono (by simp [World.setCell]; omega)))
          clear hb5
          rw [hdt.out]
          go_wp2_with fail
          go_roundw
          case rel => exact ⟨i + 1, by go_num, by omega, hb9⟩
          case measure => simp [intOf]; omega
      · have hdt : Hid (dust V pb = false) := by rw [Hid, hdu]; simp [he]
        clear hdu
        go_wp2_with fail
        refine (dust_any V pb _ hps).mono ?_
        rintro e w7 ⟨rfl, hb5⟩
        have hb9 := HBR.out.trans ((((HB8.out.mono hsz).setCell (p := ⟨wo.heap.size, 0, none⟩) hsz (.int .i64 V))).trans (hb5.mono (by simp [World.setCell]; omega)))
        clear hb5
        rw [hdt.out]
        go_wp2_with fail
        go_roundw
        case rel => exact ⟨i + 1, by go_num, by omega, hb9⟩
        case measure => simp [intOf]; omega
    · obtain rfl : i = os.length := by omega
      have b3 := B3.out.later hbr (by omega)
      have c0 := b3.cell 0 rfl
      have c1 := b3.cell 1 rfl
      have c2 := b3.cell 2 rfl
      have c3 := b3.cell 3 rfl
      have B3' := Lib.hid b3
      have HS' := Lib.hid ((HS.out.later (hbr.mono (by omega))))
      have hsz : n + 1 ≤ wr.heap.size := by have := hbr.size; omega
      have HBR := Lib.hid hbr
      have hf1 := first_any x y A B k cap capo os wr HOS.out hl (HS'.out.more (by omega))
      obtain ⟨w2, rfl⟩ : ∃ w2 : World, w2 = wr := ⟨_, rfl⟩
      obtain ⟨F, hF, hF0, hF1⟩ : ∃ F, Hid (fdI os = F) ∧ -1 ≤ F ∧ F ≤ 11 := ⟨_, rfl, fdI_range os hl⟩
      have hP : fdP os = if 0 ≤ F then F else 0 := by unfold fdP; rw [hF.out]
      rw [hP, hF.out] at hf1
      have HF1 := Lib.hid hf1
      clear b3 hbr hf1 hP
      go_wp2_with fail
      refine HF1.out.mono ?_
      rintro e w3 ⟨rfl, hb5⟩
      have b3 := B3'.out.later hb5 (by omega)
      have e0 := b3.cell 0 rfl
      have e1 := b3.cell 1 rfl
      have e2 := b3.cell 2 rfl
      have e3 := b3.cell 3 rfl
      have hf2 := rfirst_any x y A B k cap capo os w3 HOS.out hl ((HS'.out.later (hb5.mono (by omega))).more (by have := hb5.size; omega))
      rw [hF.out] at hf2
      have HF2 := Lib.hid hf2
      have hs3 := hb5.size
      have HB5 := Lib.hid (HBR.out.trans (hb5.mono hsz))
      clear b3 hf2 HF1 c0 c1 c2 c3 hb5
      by_cases hp : 0 ≤ F
      · rw [if_pos hp, decide_eq_true hp]
        go_wp2_with fail
        refine HF2.out.mono ?_
        rintro e w4 ⟨rfl, hb6⟩
        have HB6 := Lib.hid (HB5.out.trans (hb6.mono (by omega)))
        have hs4 := hb6.size
        clear hb6
        go_wp2_with fail
        refine (dwakes_any _).mono ?_
        rintro e w5 ⟨rfl, hb7⟩
        have HB7 := Lib.hid (HB6.out.trans (hb7.mono (by omega)))
        clear hb7
        go_wp2_with fail
        all_goals
          go_ret
          exact ⟨ret_bool (by simp <;> omega), HB.out.trans (HB7.out.mono (by omega))⟩
      · rw [if_neg hp, decide_eq_false hp]
        go_wp2_with fail
        refine HF2.out.mono ?_
        rintro e w4 ⟨rfl, hb6⟩
        have HB6 := Lib.hid (HB5.out.trans (hb6.mono (by omega)))
        have hs4 := hb6.size
        clear hb6
        go_wp2_with fail
        refine (dwakes_any _).mono ?_
        rintro e w5 ⟨rfl, hb7⟩
        have HB7 := Lib.hid (HB6.out.trans (hb7.mono (by omega)))
        clear hb7
        go_wp2_with fail
        all_goals
          go_ret
          exact ⟨ret_bool (by simp <;> omega), HB.out.trans (HB7.out.mono (by omega))⟩
end Go.Proofs.Ytgklmjallmbdgaa
