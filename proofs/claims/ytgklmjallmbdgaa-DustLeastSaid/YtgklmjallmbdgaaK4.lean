/- Contracts of slices.IndexFunc over dust.Dust, of dust.First and kedgeref09.First: the place of the first Out that is dust. Conditions: at most twelve Outs, their texts within the reach of a row. -/
import Derived.Test.YtgklmjallmbdgaaK2
import Derived.Deep.DeepCutAuto
namespace Go.Proofs.Ytgklmjallmbdgaa
open Go.RowKit

/-- how many Outs stand ahead of the first one that is dust -/
def lead : List (Int × ByteArray) → Nat
  | [] => 0
  | p :: r => if dust p.1 p.2 = true then 0 else lead r + 1
theorem lead_le : ∀ os, lead os ≤ os.length
  | [] => by simp [lead]
  | p :: r => by
    have := lead_le r
    unfold lead
    split
    · omega
    · simp; omega
theorem lead_before : ∀ (os : List (Int × ByteArray)) (j : Nat) (p : Int × ByteArray), j < lead os → os[j]? = some p → dust p.1 p.2 = false
  | [], j, p, h, hp => by simp at hp
  | q :: r, j, p, h, hp => by
    unfold lead at h
    split at h
    · omega
    · rename_i hq
      cases j with
      | zero => simp at hp; subst hp; simpa using hq
      | succ j => exact lead_before r j p (by omega) (by simpa using hp)
theorem lead_at : ∀ (os : List (Int × ByteArray)) (p : Int × ByteArray), os[lead os]? = some p → dust p.1 p.2 = true
  | [], p, hp => by simp at hp
  | q :: r, p, hp => by
    unfold lead at hp
    split at hp
    · rename_i hq; simp at hp; subst hp; exact hq
    · exact lead_at r p (by simpa using hp)
theorem lead_eq {os : List (Int × ByteArray)} {k : Nat} {p : Int × ByteArray} (hp : os[k]? = some p) (hd : dust p.1 p.2 = true) (h : k ≤ lead os) : lead os = k := by
  rcases Nat.lt_or_ge k (lead os) with h1 | h1
  · have := lead_before os k p h1 hp
    rw [this] at hd; cases hd
  · omega
theorem lead_more {os : List (Int × ByteArray)} {k : Nat} {p : Int × ByteArray} (hp : os[k]? = some p) (hd : dust p.1 p.2 = false) (h : k ≤ lead os) : k + 1 ≤ lead os := by
  rcases Nat.lt_or_ge k (lead os) with h1 | h1
  · omega
  · have e : lead os = k := by omega
    rw [← e] at hp
    have := lead_at os p hp
    rw [this] at hd; cases hd
/-- the place of the first Out that is dust; -1: there is none -/
def fdI (os : List (Int × ByteArray)) : Int := if lead os < os.length then (lead os : Int) else -1

set_option maxRecDepth 20000 in
set_option maxHeartbeats 1600000 in
theorem index_any (A : Option Addr) (cap : Nat) (os : List (Int × ByteArray)) (w : World) (hos : ∀ p ∈ os, p.2.size ≤ 140737488351232) (hlen : os.length ≤ 12) (h : SlO w w.heap.size A os) :
    Calls Try.prog 37 #[.slice A os.length cap, .func (.func 22) #[] #[]] w fun e w' => e = .returned (.int .i64 (fdI os)) ∧ Below w.heap.size w w' := by
  have H := Lib.hid h
  have HOS := Lib.hid hos
  clear h hos
  go_enter Try.func37, Try.ntmps37
  go_wp2_with fail
  go_loopw [8] (fun v8 wx => ∃ i : Nat, v8 = .int .i64 i ∧ i ≤ os.length ∧ Hid (i ≤ lead os) ∧ Below w.heap.size w wx) (fun v8 _ => (os.length - (intOf v8)).toNat)
  case atStart => exact ⟨0, rfl, by omega, Nat.zero_le _, Below.refl _ _⟩
  case round =>
    obtain ⟨i, rfl, hi, hld, hbr⟩ := hrel
    by_cases hlt : (i : Int) < os.length
    · obtain ⟨b, o, rfl, hbl, hc⟩ := (H.out.later hbr) (by omega)
      obtain ⟨p, hp⟩ : ∃ p, Hid (os[i]? = some p) := ⟨_, List.getElem?_eq_getElem (by omega)⟩
      obtain ⟨d0, d1⟩ := hc i p hp.out
      have hps : p.2.size ≤ 140737488351232 := HOS.out p (List.mem_of_getElem? hp.out)
      clear hc
      obtain ⟨wo, rfl⟩ : ∃ wo : World, wo = wr := ⟨_, rfl⟩
      have HBR := Lib.hid hbr
      clear hbr
      go_wp2_with fail
      refine (dust_any p.1 p.2 _ hps).mono ?_
      rintro e w1 ⟨rfl, hb1⟩
      have hb2 := Lib.hid (HBR.out.trans (hb1.mono HBR.out.size))
      clear hb1
      obtain ⟨D, hD⟩ : ∃ D, Hid (dust p.1 p.2 = D) := ⟨_, rfl⟩
      rw [hD.out]
      cases D with
      | true =>
        go_wp2_with fail
        go_ret
        refine ⟨?_, hb2.out⟩
        have e := lead_eq hp.out hD.out hld.out
        unfold fdI
        rw [e, if_pos (by omega)]
        rfl
      | false =>
        go_wp2_with fail
        go_roundw
        case rel => exact ⟨i + 1, by go_num, by omega, lead_more hp.out hD.out hld.out, hb2.out⟩
        case measure => simp [intOf]; omega
    · obtain rfl : i = os.length := by omega
      go_wp2_with fail
      go_ret
      refine ⟨?_, hbr⟩
      have e := lead_le os
      have e2 := hld.out
      unfold fdI
      rw [if_neg (by omega)]
      rfl
theorem fdI_range (os : List (Int × ByteArray)) (h : os.length ≤ 12) : -1 ≤ fdI os ∧ fdI os ≤ 11 := by unfold fdI; split <;> omega
theorem ret_ib {a b : Int} {c d : Bool} (h : a = b) (h' : c = d) : Ending.returned (.tuple #[.int .i64 a, .bool c]) = .returned (.tuple #[.int .i64 b, .bool d]) := by rw [h, h']
/-- what First gives for a place: not less than 0 -/
def fdP (os : List (Int × ByteArray)) : Int := if 0 ≤ fdI os then fdI os else 0
set_option maxRecDepth 20000 in
set_option maxHeartbeats 1600000 in
theorem first_any (x y : Int) (I A : Option Addr) (k c cap : Nat) (os : List (Int × ByteArray)) (w : World) (hos : ∀ p ∈ os, p.2.size ≤ 140737488351232) (hlen : os.length ≤ 12) (h : SlO w w.heap.size A os) :
    Calls Try.prog 27 #[.agg #[.int .u32 x, .slice I k c, .slice A os.length cap, .int .u32 y]] w fun e w' => e = .returned (.tuple #[.int .i64 (fdP os), .bool (decide (0 ≤ fdI os))]) ∧ Below w.heap.size w w' := by
  have hb0 := (Below.refl w.heap.size w).alloc (Nat.le_refl _) (.cells #[.int .u32 x, .slice I k c, .slice A os.length cap, .int .u32 y] 47)
  obtain ⟨F, hF, hF1, hF2⟩ : ∃ F, Hid (fdI os = F) ∧ -1 ≤ F ∧ F ≤ 11 := ⟨_, rfl, fdI_range os hlen⟩
  have hidx := index_any A cap os (w.alloc (.cells #[.int .u32 x, .slice I k c, .slice A os.length cap, .int .u32 y] 47)) hos hlen ((h.later hb0).more hb0.size)
  rw [hF.out] at hidx ⊢
  have hP : fdP os = if 0 ≤ F then F else 0 := by unfold fdP; rw [hF.out]
  have HI := Lib.hid hidx
  have HP := Lib.hid hP
  clear hidx hP h hos
  go_enter Try.func27, Try.ntmps27
  go_wp2_with fail
  refine HI.out.mono ?_
  rintro e w1 ⟨rfl, hb1⟩
  have hb2 := hb0.trans (hb1.mono hb0.size)
  clear hb0 hb1
  by_cases hp : 0 ≤ F
  · go_wp2_with fail
    all_goals
      go_ret2
      exact ⟨ret_ib (by rw [HP.out, if_pos (by omega)]) (by simp <;> omega), hb2⟩
  · go_wp2_with fail
    all_goals
      go_ret2
      exact ⟨ret_ib (by rw [HP.out, if_neg (by omega)]) (by simp <;> omega), hb2⟩
set_option maxRecDepth 20000 in
set_option maxHeartbeats 1600000 in
theorem rfirst_any (x y : Int) (I A : Option Addr) (k c cap : Nat) (os : List (Int × ByteArray)) (w : World) (hos : ∀ p ∈ os, p.2.size ≤ 140737488351232) (hlen : os.length ≤ 12) (h : SlO w w.heap.size A os) :
    Calls Try.prog 28 #[.agg #[.int .u32 x, .slice I k c, .slice A os.length cap, .int .u32 y]] w fun e w' => e = .returned (.int .i64 (fdI os)) ∧ Below w.heap.size w w' := by
  have hb0 := (Below.refl w.heap.size w).alloc (Nat.le_refl _) (.cells #[.int .u32 x, .slice I k c, .slice A os.length cap, .int .u32 y] 47)
  have b0 := Blk.new w #[.int .u32 x, .slice I k c, .slice A os.length cap, .int .u32 y] 47
  have H := Lib.hid (h.later ((Below.refl w.heap.size w).alloc (Nat.le_refl _) (.cells #[.int .u32 x, .slice I k c, .slice A os.length cap, .int .u32 y] 47)))
  have HOS := Lib.hid hos
  clear h hos
  go_enter Try.func28, Try.ntmps28
  go_wp2_with fail
  obtain ⟨n, hn⟩ : ∃ n, Hid (w.heap.size = n) := ⟨_, rfl⟩
  obtain ⟨W, hW⟩ : ∃ W, W = w.alloc (.cells #[.int .u32 x, .slice I k c, .slice A os.length cap, .int .u32 y] 47) := ⟨_, rfl⟩
  rw [← hW] at b0 H hb0 ⊢
  rw [hn.out] at b0 H hb0 ⊢
  have hsW : n + 1 ≤ W.heap.size := by rw [hW, ← hn.out]; simp
  clear hW
  go_loopw [3] (fun v3 wx => ∃ i : Nat, v3 = .int .i64 i ∧ i ≤ os.length ∧ Hid (i ≤ lead os) ∧ Below (n + 1) W wx) (fun v3 _ => (os.length - (intOf v3)).toNat)
  case atStart => exact ⟨0, rfl, by omega, Nat.zero_le _, Below.refl _ _⟩
  case round =>
    obtain ⟨i, rfl, hi, hld, hbr⟩ := hrel
    have h2 := b0.later hbr (by omega)
    have c2 := h2.cell 2 rfl
    clear h2
    by_cases hlt : (i : Int) < os.length
    · obtain ⟨b, o, rfl, hbl, hc⟩ := (H.out.later (hbr.mono (by omega))) (by omega)
      obtain ⟨p, hp⟩ : ∃ p, Hid (os[i]? = some p) := ⟨_, List.getElem?_eq_getElem (by omega)⟩
      obtain ⟨d0, d1⟩ := hc i p hp.out
      have hps : p.2.size ≤ 140737488351232 := HOS.out p (List.mem_of_getElem? hp.out)
      clear hc
      obtain ⟨wo, rfl⟩ : ∃ wo : World, wo = wr := ⟨_, rfl⟩
      have hsz : n + 1 ≤ wo.heap.size := by have := hbr.size; omega
      have HBR := Lib.hid hbr
      clear hbr
      go_wp2_with fail
      refine (rleast_any p.1 p.2 _ hps).mono ?_
      rintro e w1 ⟨rfl, hb1⟩
      have c2' := (hb1.cell (p := ⟨n, 2, none⟩) (by show n < wo.heap.size; omega)).trans c2
      have d0' := (hb1.cell (p := ⟨b, o + i * 2, none⟩) (by show b < wo.heap.size; omega)).trans d0
      obtain ⟨E, hE, hE0, hE1⟩ : ∃ E, Hid (dE p.2 = E) ∧ 0 ≤ E ∧ E ≤ 20 := ⟨_, rfl, dE_range p.2⟩
      obtain ⟨L, hL, hL0, hL1⟩ : ∃ L, Hid (dL p.2 = L) ∧ 0 ≤ L ∧ L ≤ 348 := ⟨_, rfl, dL_range p.2⟩
      have hdu := dust_eq p.1 p.2
      rw [hE.out, hL.out] at hdu ⊢
      have HDU := Lib.hid hdu
      clear hdu c2 d0 d1
      have hb2 := Lib.hid (HBR.out.trans (hb1.mono hsz))
      clear hb1
      by_cases he : E = 0
      · subst he
        by_cases hv : p.1 < L
        · have hdt : Hid (dust p.1 p.2 = true) := by rw [Hid, HDU.out]; simp [hv]
          go_wp2_with fail
          go_ret
          refine ⟨?_, by rw [hn.out]; exact hb0.trans (hb2.out.mono (by omega))⟩
          have e := lead_eq hp.out hdt.out hld.out
          unfold fdI
          rw [e, if_pos (by omega)]
          rfl
        · have hdt : Hid (dust p.1 p.2 = false) := by rw [Hid, HDU.out]; simp [hv]
          go_wp2_with fail
          go_roundw
          case rel => exact ⟨i + 1, by go_num, by omega, lead_more hp.out hdt.out hld.out, hb2.out⟩
          case measure => simp [intOf]; omega
      · have hdt : Hid (dust p.1 p.2 = false) := by rw [Hid, HDU.out]; simp [he]
        go_wp2_with fail
        go_roundw
        case rel => exact ⟨i + 1, by go_num, by omega, lead_more hp.out hdt.out hld.out, hb2.out⟩
        case measure => simp [intOf]; omega
    · obtain rfl : i = os.length := by omega
      go_wp2_with fail
      go_ret
      refine ⟨?_, by rw [hn.out]; exact hb0.trans (hbr.mono (by omega))⟩
      have e := lead_le os
      have e2 := hld.out
      unfold fdI
      rw [if_neg (by omega)]
      rfl
end Go.Proofs.Ytgklmjallmbdgaa
