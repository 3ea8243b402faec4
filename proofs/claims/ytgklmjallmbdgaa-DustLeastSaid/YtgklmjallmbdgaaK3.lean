/- Contract of kedgeref05.Cut at a number of parts up to twelve: it hands back a transaction whose Outs are at most so many, none too long. Conditions: the transaction lies in memory as its parts say. -/
import Derived.Test.YtgklmjallmbdgaaK2
import Derived.Deep.DeepCutAuto
import Derived.Deep.RegionHeld3
import Derived.BigRegion
import Derived.OwnWalk
namespace Go.Proofs.Ytgklmjallmbdgaa
open Go.RowKit

theorem Try.info9 : (Try.prog.info? 9).map (fun i => (i.zero, i.size, i.bytes)) = some (some (.string ⟨#[]⟩), 1, 16) := by kernel_rfl
theorem Try.info71 : (Try.prog.info? 71).map (fun i => (i.zero, i.size, i.bytes)) = some (some (.agg #[.string ⟨#[]⟩, .int .u32 0, .int .u32 0, .slice none 0 0]), 4, 56) := by kernel_rfl
theorem Try.info39 : (Try.prog.info? 39).map (fun i => (i.zero, i.size, i.bytes)) = some (some (.agg #[.int .i64 0, .string ⟨#[]⟩]), 2, 24) := by kernel_rfl

set_option maxRecDepth 100000 in
set_option maxHeartbeats 3200000 in
theorem cut_any (x y : Int) (IA OA : Option Addr) (IL IC OL OC : Nat) (M : Int) (w : World) (hM : 0 ≤ M ∧ M ≤ 12) (hI : SlI w w.heap.size IA IL) (outs : List (Int × ByteArray)) (hOL : outs.length = OL) (hO : SlO w w.heap.size OA outs) (hos : ∀ p ∈ outs, p.2.size ≤ 9223372036854775807) :
    Calls Try.prog 23 #[.agg #[.int .u32 x, .slice IA IL IC, .slice OA OL OC, .int .u32 y], .int .i64 M] w fun e w' => (∃ (A B : Option Addr) (k cap capo : Nat) (os : List (Int × ByteArray)), e = .returned (.agg #[.int .u32 x, .slice A k cap, .slice B os.length capo, .int .u32 y]) ∧ os.length ≤ 12 ∧ (∀ p ∈ os, p.2.size ≤ 50) ∧ os.length ≤ capo ∧ SlO w' w'.heap.size B os) ∧ Below w.heap.size w w' := by
  obtain ⟨i9, hi9, hz90, hz91, hz92⟩ := info_parts Try.info9
  obtain ⟨i71, hi71, hz710, hz711, hz712⟩ := info_parts Try.info71
  obtain ⟨i39, hi39, hz390, hz391, hz392⟩ := info_parts Try.info39
  go_enter Try.func23, Try.ntmps23
  go_wp2_with fail
  obtain ⟨n, hn⟩ : ∃ n, Hid (w.heap.size = n) := ⟨_, rfl⟩
  rw [hn.out] at hI hO ⊢
  obtain ⟨W, hW⟩ : ∃ W, W = (((w.alloc (.cells #[.int .u32 x, .slice IA IL IC, .slice OA OL OC, .int .u32 y] 47)).alloc (.cells #[.int .u32 0, .slice none 0 0, .slice none 0 0, .int .u32 0] 47)).alloc (.cells #[.int .u32 x, .slice none 0 0, .slice none 0 0, .int .u32 y] 47)) := ⟨_, rfl⟩
  have b2 : Blk W n #[.int .u32 x, .slice IA IL IC, .slice OA OL OC, .int .u32 y] 47 := by
    rw [hW, ← hn.out]; exact ((Blk.new _ _ _).alloc _).alloc _
  have b4 : Blk W (n + 1) #[.int .u32 0, .slice none 0 0, .slice none 0 0, .int .u32 0] 47 := by
    have h := (Blk.new (w.alloc (.cells #[.int .u32 x, .slice IA IL IC, .slice OA OL OC, .int .u32 y] 47)) #[.int .u32 0, .slice none 0 0, .slice none 0 0, .int .u32 0] 47).alloc (.cells #[.int .u32 x, .slice none 0 0, .slice none 0 0, .int .u32 y] 47)
    rw [show (w.alloc (.cells #[.int .u32 x, .slice IA IL IC, .slice OA OL OC, .int .u32 y] 47)).heap.size = n + 1 from by simp [hn.out]] at h
    rw [hW]; exact h
  have b5 : Blk W (n + 2) #[.int .u32 x, .slice none 0 0, .slice none 0 0, .int .u32 y] 47 := by
    have h := Blk.new ((w.alloc (.cells #[.int .u32 x, .slice IA IL IC, .slice OA OL OC, .int .u32 y] 47)).alloc (.cells #[.int .u32 0, .slice none 0 0, .slice none 0 0, .int .u32 0] 47)) #[.int .u32 x, .slice none 0 0, .slice none 0 0, .int .u32 y] 47
    rw [show ((w.alloc (.cells #[.int .u32 x, .slice IA IL IC, .slice OA OL OC, .int .u32 y] 47)).alloc (.cells #[.int .u32 0, .slice none 0 0, .slice none 0 0, .int .u32 0] 47)).heap.size = n + 2 from by simp [hn.out]] at h
    rw [hW]; exact h
  have hbW : Below n w W := by
    rw [hW]
    exact (((Below.refl n w).alloc (by rw [hn.out]; omega) _).alloc (by simp [hn.out]) _).alloc (by simp [hn.out]; omega) _
  have hsW : W.heap.size = n + 3 := by rw [hW]; simp [hn.out]
  rw [← hW]
  clear hW
  have HI := Lib.hid (hI.later hbW)
  have HO := Lib.hid (hO.later hbW)
  have HOS := Lib.hid hos
  have HBW := Lib.hid hbW
  have B4 := Lib.hid b4
  clear hI hO hos hbW b4
  rw [show n + 1 + 1 = n + 2 from rfl]
  go_loopw [6] (fun v6 wr => ∃ (i k : Nat) (A : Option Addr) (cap : Nat) (cs : List Value), v6 = .int .i64 i ∧ k ≤ 12 ∧ k ≤ i ∧ (i : Int) ≤ M ∧ Blk wr (n + 2) #[.int .u32 x, .slice A k cap, .slice none 0 0, .int .u32 y] 47 ∧ wr.ownsRow (n + 3) 71 4 (.slice A k cap) k cs ∧ n + 3 ≤ wr.heap.size ∧ Below (n + 2) W wr) (fun v6 _ => (M - intOf v6).toNat)
  case atStart => exact ⟨0, 0, none, 0, [], rfl, by omega, by omega, by omega, b5, World.ownsRow_nil _ _ _ _, by omega, Below.refl _ _⟩
  case round =>
    obtain ⟨i, k, A, cap, cs, rfl, hk, hki, hiM, h5, hown, hsz, hbr⟩ := hrel
    have h2 := b2.later hbr (by omega)
    have c0 := h2.cell 0 rfl
    have c1 := h2.cell 1 rfl
    have c2 := h2.cell 2 rfl
    have c3 := h2.cell 3 rfl
    have HBR := Lib.hid hbr
    have HOWN := Lib.hid hown
    have H5 := Lib.hid h5
    clear h2 hbr hown h5
    by_cases hlt : (i : Int) < IL
    · by_cases hlm : (i : Int) < M
      · obtain ⟨b, o, rfl, hbl, hc⟩ := (HI.out.later (HBR.out.mono (by omega))) (by omega)
        obtain ⟨s, p, q, WA, WL, WC, d0, d1, d2, d3, hs, hWC, hWS⟩ := hc i (by omega)
        clear hc
        have HWS := Lib.hid hWS
        clear hWS
        obtain ⟨wo, rfl⟩ : ∃ wo : World, wo = wr := ⟨_, rfl⟩
        have l2 : n < wo.heap.size := by omega
        have lb : b < wo.heap.size := by omega
        go_wp2_with fail
        go_upto_region 5 with fail
        go_cut [7] (fun s7 wx => s7 = .pointer (some ⟨wo.heap.size, 0, none⟩) ∧ Blk wx wo.heap.size #[.string s, .int .u32 p, .int .u32 q, .slice none 0 0] 71 ∧ Below wo.heap.size wo wx ∧ wx.heap.size = wo.heap.size + 1)
        case first =>
          go_region
          all_goals
            go_wp2_with fail
            go_meet
            exact ⟨rfl, (Blk.new _ _ _).drew, ((Below.refl _ _).alloc (Nat.le_refl _) _).drew, by simp⟩
        case rest =>
        obtain ⟨rfl, h7, hb7, hz7⟩ := hcut
        obtain ⟨g, hg⟩ : ∃ g, Hid (wo.heap.size = g) := ⟨_, rfl⟩
        rw [hg.out] at h7 hb7 hz7 hsz l2 lb ⊢
        have e0 := h7.cell 0 rfl
        have f0 := h7.frozen 0
        have H7 := Lib.hid h7
        clear h7
        obtain ⟨wa, rfl⟩ : ∃ wa : World, wa = wc := ⟨_, rfl⟩
        go_upto_if 46 with fail
        go_cut [46] (fun _ wx => ∃ s' : ByteArray, Blk wx g #[.string s', .int .u32 p, .int .u32 q, .slice none 0 0] 71 ∧ Below g wo wx ∧ wx.heap.size = g + 1)
        case first =>
          by_cases h40 : s.size ≤ 40
          · go_wp2_with fail
            all_goals
              go_meet
              exact ⟨_, H7.out, hb7, hz7⟩
          · have h40' : 40 < s.size := by omega
            clear h40
            go_wp2_with fail
            all_goals
              go_meet
              exact ⟨_, H7.out.set 0 _, hb7.setCell (Nat.le_refl _) _, by simpa using hz7⟩
        case rest =>
        obtain ⟨s', h7, hb7, hz7⟩ := hcut
        clear e0 f0 H7
        have l5 : n + 2 < g := by omega
        have H7 := Lib.hid h7
        have HB7 := Lib.hid hb7
        clear h7 hb7
        obtain ⟨wa, rfl⟩ : ∃ wa : World, wa = wc := ⟨_, rfl⟩
        go_wp2_with fail
        go_loopw [8] (fun v8 wx => ∃ (j m : Nat) (WB : Option Addr) (wcap : Nat) (ws : List Value), v8 = .int .i64 j ∧ j ≤ 6 ∧ m ≤ j ∧ Blk wx g #[.string s', .int .u32 p, .int .u32 q, .slice WB m wcap] 71 ∧ wx.ownsRow (g + 1) 9 1 (.slice WB m wcap) m ws ∧ g + 1 ≤ wx.heap.size ∧ Below g wo wx) (fun v8 _ => 6 - (intOf v8).toNat)
        case atStart => exact ⟨0, 0, none, 0, [], rfl, by omega, by omega, H7.out, World.ownsRow_nil _ _ _ _, by omega, HB7.out⟩
        case round =>
          obtain ⟨j, m, WB, wcap, ws, rfl, hj6, hmj, h7, hownW, hszx, hbx⟩ := hrel
          have C := fun (pp : Addr) (hp : pp.block < g) => hbx.cell (p := pp) hp
          have C0 := (C ⟨n, 0, none⟩ l2).trans c0
          have C1 := (C ⟨n, 1, none⟩ l2).trans c1
          have C2 := (C ⟨n, 2, none⟩ l2).trans c2
          have C3 := (C ⟨n, 3, none⟩ l2).trans c3
          have D3 := (C ⟨b, o + i * 4 + 3, none⟩ lb).trans d3
          clear C c0 c1 c2 c3 d0 d1 d2 d3
          have e0 := h7.cell 0 rfl
          have e1 := h7.cell 1 rfl
          have e2 := h7.cell 2 rfl
          have e3 := h7.cell 3 rfl
          have HH7 := Lib.hid h7
          have HOW := Lib.hid hownW
          have HBX := Lib.hid hbx
          clear h7 hownW hbx
          by_cases hj : (j : Int) < WL
          · by_cases hj' : j < 6
            · obtain ⟨bw, ow, rfl, hbw, hcw⟩ := (HWS.out.later (HBX.out.mono (by omega))) (by omega)
              obtain ⟨z, hz, hzs⟩ := hcw j (by omega)
              clear hcw
              obtain ⟨wi, rfl⟩ : ∃ wi : World, wi = wr := ⟨_, rfl⟩
              go_upto_if 79 with fail
              go_cut [9] (fun s9 wx => ∃ z' : ByteArray, s9 = .string z' ∧ wx = wi)
              case first =>
                by_cases h90 : z.size ≤ 90
                · go_wp2_with fail
                  all_goals
                    go_meet
                    exact ⟨_, rfl, rfl⟩
                · have h90' : 90 < z.size := by omega
                  clear h90
                  go_wp2_with fail
                  all_goals
                    go_meet
                    exact ⟨_, rfl, rfl⟩
              case rest =>
              obtain ⟨z', rfl, hwi⟩ := hcut
              obtain ⟨wi, rfl⟩ : ∃ w2 : World, w2 = wc := ⟨_, rfl⟩
              subst hwi
              go_wp2_with (at_builtin; refine wpList_append_own _ rfl _ _ 69 rfl (g + 1) 9 i9 (.string ⟨#[]⟩) 1 16 Try.underlying69 hi9 hz90 hz91 hz92 rfl (by decide) _ _ _ rfl (HOW.out.alloc _) ⟨wi.heap.size, 0, none⟩ 1 1 [.string z'] rfl rfl (made_cells _ _ _) (by intro u hu; simp at hu; subst hu; rfl) (by unfold maxLen; omega) (by omega) (by simp; omega) ?_; intro v1 w1 hown1 hgrow1 _; obtain ⟨A1, cap1, rfl⟩ := row_form hown1; have k7 := (HH7.out.alloc (.cells #[.string z'] 9)).kept hgrow1 (row_not HOW.out (by omega)); have e3' := k7.cell 3 rfl; have f3' := k7.frozen 3)
              go_roundw
              case rel =>
                have hz1 : g + 1 ≤ w1.heap.size := by have := hgrow1.size; simp at this; omega
                have hbb := ((HBX.out.alloc (by omega) (.cells #[.string z'] 9)).grown hgrow1 (by simp; omega) (fun k hk => by have := (HOW.out.lt k hk).1; omega)).setCell (p := ⟨g, 3, none⟩) (Nat.le_refl _) (.slice A1 (m + 1) cap1)
                exact ⟨j + 1, m + 1, A1, cap1, ws ++ [.string z'], by go_num, by omega, by omega, k7.set 3 _, ownsRow_setCell_below hown1 (by show g < g + 1; omega) _, by simpa [World.setCell] using hz1, hbb⟩
              case measure => simp [intOf]; omega
            · obtain rfl : j = 6 := by omega
              have h5 := H5.out.later HBX.out l5
              have hrow := row_later HOWN.out (by rw [hg.out]; exact HBX.out)
              have t0 := h5.cell 0 rfl
              have t1 := h5.cell 1 rfl
              have t2 := h5.cell 2 rfl
              have t3 := h5.cell 3 rfl
              have HH5 := Lib.hid h5
              have HROW := Lib.hid hrow
              clear h5 hrow
              obtain ⟨wj, rfl⟩ : ∃ wj : World, wj = wr := ⟨_, rfl⟩
              go_wp2_with (at_builtin; refine wpList_append_own _ rfl _ _ 44 rfl (n + 3) 71 i71 (.agg #[.string ⟨#[]⟩, .int .u32 0, .int .u32 0, .slice none 0 0]) 4 56 Try.underlying44 hi71 hz710 hz711 hz712 rfl (by decide) _ _ _ rfl (HROW.out.alloc _) ⟨wj.heap.size, 0, none⟩ 1 1 [.string s', .int .u32 p, .int .u32 q, .slice WB m wcap] rfl rfl (made_cells _ _ _) (by intro u hu; simp at hu; rcases hu with rfl | rfl | rfl | rfl <;> rfl) (by unfold maxLen; omega) (by omega) (by simp; omega) ?_; intro v1 w1 hown1 hgrow1 _; obtain ⟨A1, cap1, rfl⟩ := row_form hown1; have k5 := (HH5.out.alloc (.cells #[.string s', .int .u32 p, .int .u32 q, .slice WB m wcap] 71)).kept hgrow1 (row_not HROW.out (by omega)); have e5 := k5.cell 1 rfl; have f5 := k5.frozen 1)
              go_roundw
              case rel =>
                have hz1 : n + 3 ≤ w1.heap.size := by have := hgrow1.size; simp at this; omega
                have hbb := (((HBX.out.mono (show n + 2 ≤ g by omega)).alloc (by omega) (.cells #[.string s', .int .u32 p, .int .u32 q, .slice WB m wcap] 71)).grown hgrow1 (by simp; omega) (fun kk hk => by have := (HROW.out.lt kk hk).1; omega)).setCell (p := ⟨n + 2, 1, none⟩) (Nat.le_refl _) (.slice A1 (k + 1) cap1)
                exact ⟨i + 1, k + 1, A1, cap1, _, by go_num, by omega, by omega, by omega, k5.set 1 _, ownsRow_setCell_below hown1 (by show n + 2 < n + 3; omega) _, by simpa [World.setCell] using hz1, HBR.out.trans hbb⟩
              case measure => simp [intOf]; omega
          · skip
            have h5 := H5.out.later HBX.out l5
            have hrow := row_later HOWN.out (by rw [hg.out]; exact HBX.out)
            have t0 := h5.cell 0 rfl
            have t1 := h5.cell 1 rfl
            have t2 := h5.cell 2 rfl
            have t3 := h5.cell 3 rfl
            have HH5 := Lib.hid h5
            have HROW := Lib.hid hrow
            clear h5 hrow
            obtain ⟨wj, rfl⟩ : ∃ wj : World, wj = wr := ⟨_, rfl⟩
            go_wp2_with (at_builtin; refine wpList_append_own _ rfl _ _ 44 rfl (n + 3) 71 i71 (.agg #[.string ⟨#[]⟩, .int .u32 0, .int .u32 0, .slice none 0 0]) 4 56 Try.underlying44 hi71 hz710 hz711 hz712 rfl (by decide) _ _ _ rfl (HROW.out.alloc _) ⟨wj.heap.size, 0, none⟩ 1 1 [.string s', .int .u32 p, .int .u32 q, .slice WB m wcap] rfl rfl (made_cells _ _ _) (by intro u hu; simp at hu; rcases hu with rfl | rfl | rfl | rfl <;> rfl) (by unfold maxLen; omega) (by omega) (by simp; omega) ?_; intro v1 w1 hown1 hgrow1 _; obtain ⟨A1, cap1, rfl⟩ := row_form hown1; have k5 := (HH5.out.alloc (.cells #[.string s', .int .u32 p, .int .u32 q, .slice WB m wcap] 71)).kept hgrow1 (row_not HROW.out (by omega)); have e5 := k5.cell 1 rfl; have f5 := k5.frozen 1)
            go_roundw
            case rel =>
              have hz1 : n + 3 ≤ w1.heap.size := by have := hgrow1.size; simp at this; omega
              have hbb := (((HBX.out.mono (show n + 2 ≤ g by omega)).alloc (by omega) (.cells #[.string s', .int .u32 p, .int .u32 q, .slice WB m wcap] 71)).grown hgrow1 (by simp; omega) (fun kk hk => by have := (HROW.out.lt kk hk).1; omega)).setCell (p := ⟨n + 2, 1, none⟩) (Nat.le_refl _) (.slice A1 (k + 1) cap1)
              exact ⟨i + 1, k + 1, A1, cap1, _, by go_num, by omega, by omega, by omega, k5.set 1 _, ownsRow_setCell_below hown1 (by show n + 2 < n + 3; omega) _, by simpa [World.setCell] using hz1, HBR.out.trans hbb⟩
            case measure => simp [intOf]; omega
      · skip
        obtain ⟨wl, rfl⟩ : ∃ wl : World, wl = wr := ⟨_, rfl⟩
        go_wp2_with fail
        go_loopw [10] (fun v10 wx => ∃ (i2 : Nat) (os : List (Int × ByteArray)) (A2 : Option Addr) (cap2 : Nat), v10 = .int .i64 i2 ∧ os.length ≤ i2 ∧ (i2 : Int) ≤ M ∧ Blk wx (n + 2) #[.int .u32 x, .slice A k cap, .slice A2 os.length cap2, .int .u32 y] 47 ∧ wx.ownsRow (n + 3) 39 2 (.slice A2 os.length cap2) os.length (cellsO os) ∧ Hid (∀ p ∈ os, p.2.size ≤ 50) ∧ n + 3 ≤ wx.heap.size ∧ Below (n + 2) W wx) (fun v10 _ => (M - intOf v10).toNat)
        case atStart => exact ⟨0, [], none, 0, rfl, by simp, by omega, H5.out, World.ownsRow_nil _ _ _ _, (by show ∀ p ∈ ([] : List (Int × ByteArray)), p.2.size ≤ 50; simp), by omega, HBR.out⟩
        case round =>
          clear c0 c1 c2 c3 HBR HOWN H5 hsz
          obtain ⟨i2, os, A2, cap2, rfl, hki2, hiM2, h5, hown, hos5, hsz, hbr⟩ := hrel
          have h2 := b2.later hbr (by omega)
          have h4 := B4.out.later hbr (by omega)
          have c0 := h2.cell 0 rfl
          have c1 := h2.cell 1 rfl
          have c2 := h2.cell 2 rfl
          have c3 := h2.cell 3 rfl
          have H4 := Lib.hid h4
          have HBR := Lib.hid hbr
          have HOWN := Lib.hid hown
          have H5 := Lib.hid h5
          clear h2 h4 hbr hown h5
          by_cases hl3 : i2 < OL
          · by_cases hm3 : (i2 : Int) < M
            · obtain ⟨bo, oo, rfl, hbo, hco⟩ := (HO.out.later (HBR.out.mono (by omega))) (by omega)
              obtain ⟨pv, hpv⟩ : ∃ pv, outs[i2]? = some pv := ⟨_, List.getElem?_eq_getElem (by omega)⟩
              obtain ⟨d0, d1⟩ := hco i2 pv hpv
              have hzs : pv.2.size ≤ 9223372036854775807 := HOS.out pv (List.mem_of_getElem? hpv)
              clear hco hpv
              obtain ⟨pa, pb⟩ := pv
              simp only at d0 d1 hzs
              obtain ⟨wo, rfl⟩ : ∃ wo : World, wo = wr := ⟨_, rfl⟩
              obtain ⟨g, hg⟩ : ∃ g, Hid (wo.heap.size = g) := ⟨_, rfl⟩
              have l2 : n < wo.heap.size := by omega
              have lb : bo < wo.heap.size := by omega
              go_upto_if 114 with fail
              go_cut [114] (fun _ wx => ∃ z' : ByteArray, z'.size ≤ 50 ∧ Blk wx g #[.int .i64 pa, .string z'] 39 ∧ Below g wo wx ∧ wx.heap.size = g + 1)
              case first =>
                by_cases h50 : pb.size ≤ 50
                · go_wp2_with fail
                  all_goals
                    go_meet
                    rw [← hg.out]
                    exact ⟨_, h50, Blk.new _ _ _, (Below.refl _ _).alloc (Nat.le_refl _) _, by simp⟩
                · have h50' : 50 < pb.size := by omega
                  clear h50
                  go_wp2_with fail
                  all_goals
                    go_meet
                    rw [← hg.out]
                    exact ⟨_, by rw [ByteArray.size_extract]; omega, Blk.new _ _ _, (Below.refl _ _).alloc (Nat.le_refl _) _, by simp⟩
              case rest =>
              obtain ⟨z', hz', h7, hb7, hz7⟩ := hcut
              rw [hg.out] at l2 lb hsz ⊢
              have l5 : n + 2 < g := by omega
              have e0 := h7.cell 0 rfl
              have e1 := h7.cell 1 rfl
              have h5 := H5.out.later hb7 l5
              have hrow := row_later HOWN.out (by rw [hg.out]; exact hb7)
              have t0 := h5.cell 0 rfl
              have t1 := h5.cell 1 rfl
              have t2 := h5.cell 2 rfl
              have t3 := h5.cell 3 rfl
              have HH5 := Lib.hid h5
              have HROW := Lib.hid hrow
              have HB7 := Lib.hid hb7
              clear h5 hrow h7 hb7
              obtain ⟨wj, rfl⟩ : ∃ wj : World, wj = wc := ⟨_, rfl⟩
              have hz8 : g + 1 ≤ wj.heap.size := by omega
              clear hz7
              go_wp2_with (at_builtin; go_loud (refine wpList_append_own _ rfl _ _ 45 rfl (n + 3) 39 i39 (.agg #[.int .i64 0, .string ⟨#[]⟩]) 2 24 Try.underlying45 hi39 hz390 hz391 hz392 rfl (by decide) _ _ _ rfl (HROW.out.alloc _) ⟨wj.heap.size, 0, none⟩ 1 1 [.int .i64 pa, .string z'] rfl rfl (made_cells _ _ _) (by intro u hu; simp at hu; rcases hu with rfl | rfl <;> rfl) (by unfold maxLen; omega) (by omega) (by simp; omega) ?_; intro v1 w1 hown1 hgrow1 _; obtain ⟨A1, cap1, rfl⟩ := row_form hown1; have k5 := (HH5.out.alloc (.cells #[.int .i64 pa, .string z'] 39)).kept hgrow1 (row_not HROW.out (by omega)); have e5 := k5.cell 2 rfl; have f5 := k5.frozen 2))
              go_roundw
              case rel =>
                have hz1 : n + 3 ≤ w1.heap.size := by have := hgrow1.size; simp at this; omega
                have hbb := (((HB7.out.mono (show n + 2 ≤ g by omega)).alloc (by omega) (.cells #[.int .i64 pa, .string z'] 39)).grown hgrow1 (by simp; omega) (fun kk hk => by have := (HROW.out.lt kk hk).1; omega)).setCell (p := ⟨n + 2, 2, none⟩) (Nat.le_refl _) (.slice A1 (os.length + 1) cap1)
                have ho1 := ownsRow_setCell_below hown1 (a := ⟨n + 2, 2, none⟩) (by show n + 2 < n + 3; omega) (.slice A1 (os.length + 1) cap1)
                have hk1 := k5.set 2 (.slice A1 (os.length + 1) cap1)
                have hle : os.length + 1 = (os ++ [(pa, z')]).length := by simp
                have hce : cellsO os ++ [.int .i64 pa, .string z'] = cellsO (os ++ [(pa, z')]) := by rw [cellsO_append]; rfl
                rw [hce] at ho1
                exact ⟨i2 + 1, os ++ [(pa, z')], A1, cap1, by go_num, by omega, by omega, by rw [← hle]; exact hk1, by rw [← hle]; exact ho1, (by show ∀ p ∈ os ++ [(pa, z')], p.2.size ≤ 50; intro p hp; rcases List.mem_append.1 hp with h | h; exact hos5.out p h; simp at h; subst h; exact hz'), by simpa [World.setCell] using hz1, HBR.out.trans hbb⟩
              case measure => simp [intOf]; omega
            · skip
              have k0 := H4.out.cell 0 rfl
              have k1 := H4.out.cell 1 rfl
              have k2 := H4.out.cell 2 rfl
              have k3 := H4.out.cell 3 rfl
              have q0 := H4.out.frozen 0
              have q1 := H4.out.frozen 1
              have q2 := H4.out.frozen 2
              have q3 := H4.out.frozen 3
              have t0 := H5.out.cell 0 rfl
              have t1 := H5.out.cell 1 rfl
              have t2 := H5.out.cell 2 rfl
              have t3 := H5.out.cell 3 rfl
              go_wp2_with fail
              have hfin : Blk ((((wr.setCell ⟨n + 1, 0, none⟩ (.int .u32 x)).setCell ⟨n + 1, 1, none⟩ (.slice A k cap)).setCell ⟨n + 1, 2, none⟩ (.slice A2 os.length cap2)).setCell ⟨n + 1, 3, none⟩ (.int .u32 y)) (n + 1) #[.int .u32 x, .slice A k cap, .slice A2 os.length cap2, .int .u32 y] 47 := (((H4.out.set 0 (.int .u32 x)).set 1 (.slice A k cap)).set 2 (.slice A2 os.length cap2)).set 3 (.int .u32 y)
              have hrowf := ownsRow_setCell_below (ownsRow_setCell_below (ownsRow_setCell_below (ownsRow_setCell_below HOWN.out (a := ⟨n + 1, 0, none⟩) (by show n + 1 < n + 3; omega) (.int .u32 x)) (a := ⟨n + 1, 1, none⟩) (by show n + 1 < n + 3; omega) (.slice A k cap)) (a := ⟨n + 1, 2, none⟩) (by show n + 1 < n + 3; omega) (.slice A2 os.length cap2)) (a := ⟨n + 1, 3, none⟩) (by show n + 1 < n + 3; omega) (.int .u32 y)
              have hbf := ((((HBW.out.trans (HBR.out.mono (show n ≤ n + 2 by omega))).setCell (p := ⟨n + 1, 0, none⟩) (by show n ≤ n + 1; omega) (.int .u32 x)).setCell (p := ⟨n + 1, 1, none⟩) (by show n ≤ n + 1; omega) (.slice A k cap)).setCell (p := ⟨n + 1, 2, none⟩) (by show n ≤ n + 1; omega) (.slice A2 os.length cap2)).setCell (p := ⟨n + 1, 3, none⟩) (by show n ≤ n + 1; omega) (.int .u32 y)
              refine bodyPost_ret (results_cell_row (P := Try.prog) rfl _ _ (n + 1) 47 _ (0, 0) _ rfl hfin Try.underlying47 rfl (by kernel_rfl)) rfl ?_
              refine ⟨⟨A, A2, k, cap, cap2, os, rfl, by omega, ?_, (row_SlO hrowf).2, (row_SlO hrowf).1⟩, by rw [hn.out]; exact hbf⟩
              first | exact hos5.out | (intro a b hab; exact hos5.out (a, b) hab)
          · skip
            have k0 := H4.out.cell 0 rfl
            have k1 := H4.out.cell 1 rfl
            have k2 := H4.out.cell 2 rfl
            have k3 := H4.out.cell 3 rfl
            have q0 := H4.out.frozen 0
            have q1 := H4.out.frozen 1
            have q2 := H4.out.frozen 2
            have q3 := H4.out.frozen 3
            have t0 := H5.out.cell 0 rfl
            have t1 := H5.out.cell 1 rfl
            have t2 := H5.out.cell 2 rfl
            have t3 := H5.out.cell 3 rfl
            go_wp2_with fail
            have hfin : Blk ((((wr.setCell ⟨n + 1, 0, none⟩ (.int .u32 x)).setCell ⟨n + 1, 1, none⟩ (.slice A k cap)).setCell ⟨n + 1, 2, none⟩ (.slice A2 os.length cap2)).setCell ⟨n + 1, 3, none⟩ (.int .u32 y)) (n + 1) #[.int .u32 x, .slice A k cap, .slice A2 os.length cap2, .int .u32 y] 47 := (((H4.out.set 0 (.int .u32 x)).set 1 (.slice A k cap)).set 2 (.slice A2 os.length cap2)).set 3 (.int .u32 y)
            have hrowf := ownsRow_setCell_below (ownsRow_setCell_below (ownsRow_setCell_below (ownsRow_setCell_below HOWN.out (a := ⟨n + 1, 0, none⟩) (by show n + 1 < n + 3; omega) (.int .u32 x)) (a := ⟨n + 1, 1, none⟩) (by show n + 1 < n + 3; omega) (.slice A k cap)) (a := ⟨n + 1, 2, none⟩) (by show n + 1 < n + 3; omega) (.slice A2 os.length cap2)) (a := ⟨n + 1, 3, none⟩) (by show n + 1 < n + 3; omega) (.int .u32 y)
            have hbf := ((((HBW.out.trans (HBR.out.mono (show n ≤ n + 2 by omega))).setCell (p := ⟨n + 1, 0, none⟩) (by show n ≤ n + 1; omega) (.int .u32 x)).setCell (p := ⟨n + 1, 1, none⟩) (by show n ≤ n + 1; omega) (.slice A k cap)).setCell (p := ⟨n + 1, 2, none⟩) (by show n ≤ n + 1; omega) (.slice A2 os.length cap2)).setCell (p := ⟨n + 1, 3, none⟩) (by show n ≤ n + 1; omega) (.int .u32 y)
            refine bodyPost_ret (results_cell_row (P := Try.prog) rfl _ _ (n + 1) 47 _ (0, 0) _ rfl hfin Try.underlying47 rfl (by kernel_rfl)) rfl ?_
            refine ⟨⟨A, A2, k, cap, cap2, os, rfl, by omega, ?_, (row_SlO hrowf).2, (row_SlO hrowf).1⟩, by rw [hn.out]; exact hbf⟩
            first | exact hos5.out | (intro a b hab; exact hos5.out (a, b) hab)
    · skip
      obtain ⟨wl, rfl⟩ : ∃ wl : World, wl = wr := ⟨_, rfl⟩
      go_wp2_with fail
      go_loopw [10] (fun v10 wx => ∃ (i2 : Nat) (os : List (Int × ByteArray)) (A2 : Option Addr) (cap2 : Nat), v10 = .int .i64 i2 ∧ os.length ≤ i2 ∧ (i2 : Int) ≤ M ∧ Blk wx (n + 2) #[.int .u32 x, .slice A k cap, .slice A2 os.length cap2, .int .u32 y] 47 ∧ wx.ownsRow (n + 3) 39 2 (.slice A2 os.length cap2) os.length (cellsO os) ∧ Hid (∀ p ∈ os, p.2.size ≤ 50) ∧ n + 3 ≤ wx.heap.size ∧ Below (n + 2) W wx) (fun v10 _ => (M - intOf v10).toNat)
      case atStart => exact ⟨0, [], none, 0, rfl, by simp, by omega, H5.out, World.ownsRow_nil _ _ _ _, (by show ∀ p ∈ ([] : List (Int × ByteArray)), p.2.size ≤ 50; simp), by omega, HBR.out⟩
      case round =>
        clear c0 c1 c2 c3 HBR HOWN H5 hsz
        obtain ⟨i2, os, A2, cap2, rfl, hki2, hiM2, h5, hown, hos5, hsz, hbr⟩ := hrel
        have h2 := b2.later hbr (by omega)
        have h4 := B4.out.later hbr (by omega)
        have c0 := h2.cell 0 rfl
        have c1 := h2.cell 1 rfl
        have c2 := h2.cell 2 rfl
        have c3 := h2.cell 3 rfl
        have H4 := Lib.hid h4
        have HBR := Lib.hid hbr
        have HOWN := Lib.hid hown
        have H5 := Lib.hid h5
        clear h2 h4 hbr hown h5
        by_cases hl3 : i2 < OL
        · by_cases hm3 : (i2 : Int) < M
          · obtain ⟨bo, oo, rfl, hbo, hco⟩ := (HO.out.later (HBR.out.mono (by omega))) (by omega)
            obtain ⟨pv, hpv⟩ : ∃ pv, outs[i2]? = some pv := ⟨_, List.getElem?_eq_getElem (by omega)⟩
            obtain ⟨d0, d1⟩ := hco i2 pv hpv
            have hzs : pv.2.size ≤ 9223372036854775807 := HOS.out pv (List.mem_of_getElem? hpv)
            clear hco hpv
            obtain ⟨pa, pb⟩ := pv
            simp only at d0 d1 hzs
            obtain ⟨wo, rfl⟩ : ∃ wo : World, wo = wr := ⟨_, rfl⟩
            obtain ⟨g, hg⟩ : ∃ g, Hid (wo.heap.size = g) := ⟨_, rfl⟩
            have l2 : n < wo.heap.size := by omega
            have lb : bo < wo.heap.size := by omega
            go_upto_if 114 with fail
            go_cut [114] (fun _ wx => ∃ z' : ByteArray, z'.size ≤ 50 ∧ Blk wx g #[.int .i64 pa, .string z'] 39 ∧ Below g wo wx ∧ wx.heap.size = g + 1)
            case first =>
              by_cases h50 : pb.size ≤ 50
              · go_wp2_with fail
                all_goals
                  go_meet
                  rw [← hg.out]
                  exact ⟨_, h50, Blk.new _ _ _, (Below.refl _ _).alloc (Nat.le_refl _) _, by simp⟩
              · have h50' : 50 < pb.size := by omega
                clear h50
                go_wp2_with fail
                all_goals
                  go_meet
                  rw [← hg.out]
                  exact ⟨_, by rw [ByteArray.size_extract]; omega, Blk.new _ _ _, (Below.refl _ _).alloc (Nat.le_refl _) _, by simp⟩
            case rest =>
            obtain ⟨z', hz', h7, hb7, hz7⟩ := hcut
            rw [hg.out] at l2 lb hsz ⊢
            have l5 : n + 2 < g := by omega
            have e0 := h7.cell 0 rfl
            have e1 := h7.cell 1 rfl
            have h5 := H5.out.later hb7 l5
            have hrow := row_later HOWN.out (by rw [hg.out]; exact hb7)
            have t0 := h5.cell 0 rfl
            have t1 := h5.cell 1 rfl
            have t2 := h5.cell 2 rfl
            have t3 := h5.cell 3 rfl
            have HH5 := Lib.hid h5
            have HROW := Lib.hid hrow
            have HB7 := Lib.hid hb7
            clear h5 hrow h7 hb7
            obtain ⟨wj, rfl⟩ : ∃ wj : World, wj = wc := ⟨_, rfl⟩
            have hz8 : g + 1 ≤ wj.heap.size := by omega
            clear hz7
            go_wp2_with (at_builtin; go_loud (refine wpList_append_own _ rfl _ _ 45 rfl (n + 3) 39 i39 (.agg #[.int .i64 0, .string ⟨#[]⟩]) 2 24 Try.underlying45 hi39 hz390 hz391 hz392 rfl (by decide) _ _ _ rfl (HROW.out.alloc _) ⟨wj.heap.size, 0, none⟩ 1 1 [.int .i64 pa, .string z'] rfl rfl (made_cells _ _ _) (by intro u hu; simp at hu; rcases hu with rfl | rfl <;> rfl) (by unfold maxLen; omega) (by omega) (by simp; omega) ?_; intro v1 w1 hown1 hgrow1 _; obtain ⟨A1, cap1, rfl⟩ := row_form hown1; have k5 := (HH5.out.alloc (.cells #[.int .i64 pa, .string z'] 39)).kept hgrow1 (row_not HROW.out (by omega)); have e5 := k5.cell 2 rfl; have f5 := k5.frozen 2))
            go_roundw
            case rel =>
              have hz1 : n + 3 ≤ w1.heap.size := by have := hgrow1.size; simp at this; omega
              have hbb := (((HB7.out.mono (show n + 2 ≤ g by omega)).alloc (by omega) (.cells #[.int .i64 pa, .string z'] 39)).grown hgrow1 (by simp; omega) (fun kk hk => by have := (HROW.out.lt kk hk).1; omega)).setCell (p := ⟨n + 2, 2, none⟩) (Nat.le_refl _) (.slice A1 (os.length + 1) cap1)
              have ho1 := ownsRow_setCell_below hown1 (a := ⟨n + 2, 2, none⟩) (by show n + 2 < n + 3; omega) (.slice A1 (os.length + 1) cap1)
              have hk1 := k5.set 2 (.slice A1 (os.length + 1) cap1)
              have hle : os.length + 1 = (os ++ [(pa, z')]).length := by simp
              have hce : cellsO os ++ [.int .i64 pa, .string z'] = cellsO (os ++ [(pa, z')]) := by rw [cellsO_append]; rfl
              rw [hce] at ho1
              exact ⟨i2 + 1, os ++ [(pa, z')], A1, cap1, by go_num, by omega, by omega, by rw [← hle]; exact hk1, by rw [← hle]; exact ho1, (by show ∀ p ∈ os ++ [(pa, z')], p.2.size ≤ 50; intro p hp; rcases List.mem_append.1 hp with h | h; exact hos5.out p h; simp at h; subst h; exact hz'), by simpa [World.setCell] using hz1, HBR.out.trans hbb⟩
            case measure => simp [intOf]; omega
          · skip
            have k0 := H4.out.cell 0 rfl
            have k1 := H4.out.cell 1 rfl
            have k2 := H4.out.cell 2 rfl
            have k3 := H4.out.cell 3 rfl
            have q0 := H4.out.frozen 0
            have q1 := H4.out.frozen 1
            have q2 := H4.out.frozen 2
            have q3 := H4.out.frozen 3
            have t0 := H5.out.cell 0 rfl
            have t1 := H5.out.cell 1 rfl
            have t2 := H5.out.cell 2 rfl
            have t3 := H5.out.cell 3 rfl
            go_wp2_with fail
            have hfin : Blk ((((wr.setCell ⟨n + 1, 0, none⟩ (.int .u32 x)).setCell ⟨n + 1, 1, none⟩ (.slice A k cap)).setCell ⟨n + 1, 2, none⟩ (.slice A2 os.length cap2)).setCell ⟨n + 1, 3, none⟩ (.int .u32 y)) (n + 1) #[.int .u32 x, .slice A k cap, .slice A2 os.length cap2, .int .u32 y] 47 := (((H4.out.set 0 (.int .u32 x)).set 1 (.slice A k cap)).set 2 (.slice A2 os.length cap2)).set 3 (.int .u32 y)
            have hrowf := ownsRow_setCell_below (ownsRow_setCell_below (ownsRow_setCell_below (ownsRow_setCell_below HOWN.out (a := ⟨n + 1, 0, none⟩) (by show n + 1 < n + 3; omega) (.int .u32 x)) (a := ⟨n + 1, 1, none⟩) (by show n + 1 < n + 3; omega) (.slice A k cap)) (a := ⟨n + 1, 2, none⟩) (by show n + 1 < n + 3; omega) (.slice A2 os.length cap2)) (a := ⟨n + 1, 3, none⟩) (by show n + 1 < n + 3; omega) (.int .u32 y)
            have hbf := ((((HBW.out.trans (HBR.out.mono (show n ≤ n + 2 by omega))).setCell (p := ⟨n + 1, 0, none⟩) (by show n ≤ n + 1; omega) (.int .u32 x)).setCell (p := ⟨n + 1, 1, none⟩) (by show n ≤ n + 1; omega) (.slice A k cap)).setCell (p := ⟨n + 1, 2, none⟩) (by show n ≤ n + 1; omega) (.slice A2 os.length cap2)).setCell (p := ⟨n + 1, 3, none⟩) (by show n ≤ n + 1; omega) (.int .u32 y)
            refine bodyPost_ret (results_cell_row (P := Try.prog) rfl _ _ (n + 1) 47 _ (0, 0) _ rfl hfin Try.underlying47 rfl (by kernel_rfl)) rfl ?_
            refine ⟨⟨A, A2, k, cap, cap2, os, rfl, by omega, ?_, (row_SlO hrowf).2, (row_SlO hrowf).1⟩, by rw [hn.out]; exact hbf⟩
            first | exact hos5.out | (intro a b hab; exact hos5.out (a, b) hab)
        · skip
          have k0 := H4.out.cell 0 rfl
          have k1 := H4.out.cell 1 rfl
          have k2 := H4.out.cell 2 rfl
          have k3 := H4.out.cell 3 rfl
          have q0 := H4.out.frozen 0
          have q1 := H4.out.frozen 1
          have q2 := H4.out.frozen 2
          have q3 := H4.out.frozen 3
          have t0 := H5.out.cell 0 rfl
          have t1 := H5.out.cell 1 rfl
          have t2 := H5.out.cell 2 rfl
          have t3 := H5.out.cell 3 rfl
          go_wp2_with fail
          have hfin : Blk ((((wr.setCell ⟨n + 1, 0, none⟩ (.int .u32 x)).setCell ⟨n + 1, 1, none⟩ (.slice A k cap)).setCell ⟨n + 1, 2, none⟩ (.slice A2 os.length cap2)).setCell ⟨n + 1, 3, none⟩ (.int .u32 y)) (n + 1) #[.int .u32 x, .slice A k cap, .slice A2 os.length cap2, .int .u32 y] 47 := (((H4.out.set 0 (.int .u32 x)).set 1 (.slice A k cap)).set 2 (.slice A2 os.length cap2)).set 3 (.int .u32 y)
          have hrowf := ownsRow_setCell_below (ownsRow_setCell_below (ownsRow_setCell_below (ownsRow_setCell_below HOWN.out (a := ⟨n + 1, 0, none⟩) (by show n + 1 < n + 3; omega) (.int .u32 x)) (a := ⟨n + 1, 1, none⟩) (by show n + 1 < n + 3; omega) (.slice A k cap)) (a := ⟨n + 1, 2, none⟩) (by show n + 1 < n + 3; omega) (.slice A2 os.length cap2)) (a := ⟨n + 1, 3, none⟩) (by show n + 1 < n + 3; omega) (.int .u32 y)
          have hbf := ((((HBW.out.trans (HBR.out.mono (show n ≤ n + 2 by omega))).setCell (p := ⟨n + 1, 0, none⟩) (by show n ≤ n + 1; omega) (.int .u32 x)).setCell (p := ⟨n + 1, 1, none⟩) (by show n ≤ n + 1; omega) (.slice A k cap)).setCell (p := ⟨n + 1, 2, none⟩) (by show n ≤ n + 1; omega) (.slice A2 os.length cap2)).setCell (p := ⟨n + 1, 3, none⟩) (by show n ≤ n + 1; omega) (.int .u32 y)
          refine bodyPost_ret (results_cell_row (P := Try.prog) rfl _ _ (n + 1) 47 _ (0, 0) _ rfl hfin Try.underlying47 rfl (by kernel_rfl)) rfl ?_
          refine ⟨⟨A, A2, k, cap, cap2, os, rfl, by omega, ?_, (row_SlO hrowf).2, (row_SlO hrowf).1⟩, by rw [hn.out]; exact hbf⟩
          first | exact hos5.out | (intro a b hab; exact hos5.out (a, b) hab)
end Go.Proofs.Ytgklmjallmbdgaa
