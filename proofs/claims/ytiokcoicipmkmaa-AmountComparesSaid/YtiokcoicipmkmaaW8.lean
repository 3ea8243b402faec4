/- The walk of the law AmountCompares: it returns true. Conditions: the numbers within their kind. -/
import Derived.Test.YtiokcoicipmkmaaAmt2
import Derived.Test.YtiokcoicipmkmaaRcmp
import Derived.Test.YtiokcoicipmkmaaRow
import Derived.Deep.DeepCutAuto
import Derived.Deep.RegionHeld3
namespace Go.Proofs.Ytiokcoicipmkmaa
open Go.RowKit
set_option linter.unusedSimpArgs false

/-- what the region keeps: the box that it reads -/
abbrev Kept (f s o i : Int) (w w' : World) : Prop :=
  w.heap.size < w'.heap.size ∧ w'.cell? ⟨w.heap.size, 0, none⟩ = some (.int .i64 f) ∧ w'.cell? ⟨w.heap.size, 1, none⟩ = some (.int .i64 s) ∧ w'.cell? ⟨w.heap.size, 2, none⟩ = some (.int .i64 o) ∧ w'.cell? ⟨w.heap.size, 3, none⟩ = some (.int .i64 i) ∧ Below w.heap.size w w'

theorem Kept.made {f s o i : Int} {w W : World} (h : Kept f s o i w W) (b : Obj) : Kept f s o i w (W.alloc b) := by
  obtain ⟨h1, h2, h3, h4, h5, h9⟩ := h
  have hb := (Below.refl W.heap.size W).alloc (Nat.le_refl _) b
  have c := fun o => hb.cell (p := ⟨w.heap.size, o, none⟩) h1
  exact ⟨Nat.lt_of_lt_of_le h1 hb.size, (c 0).trans h2, (c 1).trans h3, (c 2).trans h4, (c 3).trans h5, h9.trans (hb.mono h9.size)⟩
theorem Kept.two (f s o i : Int) (w : World) (b : Obj) : Kept f s o i w ((w.alloc (.cells #[.int .i64 f, .int .i64 s, .int .i64 o, .int .i64 i] 46)).alloc b).drew := by
  have hbx := Boxed.made w f s o i 46
  exact Kept.made (W := (w.alloc (.cells #[.int .i64 f, .int .i64 s, .int .i64 o, .int .i64 i] 46)).drew) ⟨by simp, hbx.c0, hbx.c1, hbx.c2, hbx.c3, ((Below.refl w.heap.size w).alloc (Nat.le_refl _) (.cells #[.int .i64 f, .int .i64 s, .int .i64 o, .int .i64 i] 46)).drew⟩ b
theorem Kept.box {f s o i : Int} {w W : World} (h : Kept f s o i w W) : Boxed W w.heap.size f s o i := ⟨h.1, h.2.1, h.2.2.1, h.2.2.2.1, h.2.2.2.2.1⟩
theorem Kept.near (w : World) (b : Obj) (f s o i : Int) : Boxed ((w.alloc b).alloc (.cells #[.int .i64 f, .int .i64 s, .int .i64 o, .int .i64 i] 46)).drew (w.heap.size + 1) f s o i := by
  have h := Boxed.made (w.alloc b) f s o i 46
  rw [show (w.alloc b).heap.size = w.heap.size + 1 from by simp] at h
  exact ⟨h.lt, h.c0, h.c1, h.c2, h.c3⟩
theorem cmpA_range (f s o i : Int) : -1 ≤ cmpA f s o i ∧ cmpA f s o i ≤ 1 := by
  unfold cmpA sgn3
  split
  · split
    · omega
    · split <;> omega
  · omega
/-- 'max(0, x)' -/
def mx (x : Int) : Int := if 0 < x then x else 0
theorem mx_pos {x : Int} (h : 0 < x) : x = mx x := by unfold mx; rw [if_pos h]
theorem mx_neg {x : Int} (h : ¬ 0 < x) : 0 = mx x := by unfold mx; rw [if_neg h]

set_option maxRecDepth 100000 in
set_option maxHeartbeats 3200000 in
theorem law8 (f0 s0 o0 i0 : Int) (w : World) (hf : -9223372036854775808 ≤ f0 ∧ f0 ≤ 9223372036854775807) (ho : -9223372036854775808 ≤ o0 ∧ o0 ≤ 9223372036854775807) :
    Calls Try.prog 8 #[.agg #[.int .i64 f0, .int .i64 s0, .int .i64 o0, .int .i64 i0]] w fun e w' => e = .returned (.bool true) ∧ Below w.heap.size w w' := by
  go_enter Try.func8, Try.ntmps8
  go_upto_region 1 with fail
  go_cut [3] (fun s3 wx => ∃ (g : Nat) (F S O I : Int), s3 = .pointer (some ⟨g, 0, none⟩) ∧ Boxed wx g F S O I ∧ Boxed wx w.heap.size f0 s0 o0 i0 ∧ Below w.heap.size w wx)
  case first =>
    have hbx := Boxed.made w f0 s0 o0 i0 46
    go_wp2_with fail
    have hmf := fun wx => most_any f0 wx hf
    have hmo := fun wx => most_any o0 wx ho
    obtain ⟨F, hF⟩ : ∃ F, Hid (mostA f0 = F) := ⟨_, rfl⟩
    obtain ⟨O, hO⟩ : ∃ O, Hid (mostA o0 = O) := ⟨_, rfl⟩
    rw [hF.out] at hmf
    rw [hO.out] at hmo
    have hmf := Lib.hid hmf
    have hmo := Lib.hid hmo
    refine wp_region_held_drew (S := Kept f0 s0 o0 i0 w) (by kernel_rfl) ?_ (fun hHeld => ?_)
    · exact ⟨by simp, hbx.c0, hbx.c1, hbx.c2, hbx.c3, ((Below.refl w.heap.size w).alloc (Nat.le_refl _) (.cells #[.int .i64 f0, .int .i64 s0, .int .i64 o0, .int .i64 i0] 46)).drew⟩
    refine wpAnyH_take (i := 0) (v := ?vq1) rfl (by kernel_rfl) (by kernel_rfl) (by kernel_rfl) (fun _ _ _ h => h) (Or.inl ⟨by rfl, ?hyq1⟩) hHeld ?restq1
    case hyq1 =>
      intro w' hS
      obtain ⟨s0', s1, s2, s3, s4, s5⟩ := hS
      go_simp
      with_reducible rfl
    case restq1 =>
    try simp only [Act.put, List.setIfInBounds_toArray, List.set_cons_zero, List.set_cons_succ, List.getElem_toArray, List.getElem_cons_zero, List.getElem_cons_succ]
    refine wpAnyH_take (i := 1) (v := ?vq2) rfl (by kernel_rfl) (by kernel_rfl) (by kernel_rfl) (fun _ _ _ h => h) (Or.inl ⟨by rfl, ?hyq2⟩) hHeld ?restq2
    case hyq2 =>
      intro w' hS
      obtain ⟨s0', s1, s2, s3, s4, s5⟩ := hS
      go_simp
      with_reducible rfl
    case restq2 =>
    try simp only [Act.put, List.setIfInBounds_toArray, List.set_cons_zero, List.set_cons_succ, List.getElem_toArray, List.getElem_cons_zero, List.getElem_cons_succ]
    refine wpAnyH_take (i := 4) (v := ?vq3) rfl (by kernel_rfl) (by kernel_rfl) (by kernel_rfl) (fun _ _ _ h => h) (Or.inl ⟨by rfl, ?hyq3⟩) hHeld ?restq3
    case hyq3 =>
      intro w' hS
      obtain ⟨s0', s1, s2, s3, s4, s5⟩ := hS
      go_simp
      with_reducible rfl
    case restq3 =>
    try simp only [Act.put, List.setIfInBounds_toArray, List.set_cons_zero, List.set_cons_succ, List.getElem_toArray, List.getElem_cons_zero, List.getElem_cons_succ]
    refine wpAnyH_take (i := 5) (v := ?vq4) rfl (by kernel_rfl) (by kernel_rfl) (by kernel_rfl) (fun _ _ _ h => h) (Or.inl ⟨by rfl, ?hyq4⟩) hHeld ?restq4
    case hyq4 =>
      intro w' hS
      obtain ⟨s0', s1, s2, s3, s4, s5⟩ := hS
      go_simp
      with_reducible rfl
    case restq4 =>
    try simp only [Act.put, List.setIfInBounds_toArray, List.set_cons_zero, List.set_cons_succ, List.getElem_toArray, List.getElem_cons_zero, List.getElem_cons_succ]
    refine wpAnyH_take (i := 6) (v := .int .i64 (mx s0)) rfl (by kernel_rfl) (by kernel_rfl) (by kernel_rfl) (fun _ _ _ h => h) (Or.inl ⟨by rfl, ?hyq5⟩) hHeld ?restq5
    case hyq5 =>
      intro w' hS
      obtain ⟨s0', s1, s2, s3, s4, s5⟩ := hS
      by_cases k : 0 < s0
      · go_simp
        exact mx_pos k
      · go_simp
        exact mx_neg k
    case restq5 =>
    try simp only [Act.put, List.setIfInBounds_toArray, List.set_cons_zero, List.set_cons_succ, List.getElem_toArray, List.getElem_cons_zero, List.getElem_cons_succ]
    refine wpAnyH_take (i := 7) (v := ?vq6) rfl (by kernel_rfl) (by kernel_rfl) (by kernel_rfl) (fun _ _ _ h => h) (Or.inl ⟨by rfl, ?hyq6⟩) hHeld ?restq6
    case hyq6 =>
      intro w' hS
      obtain ⟨s0', s1, s2, s3, s4, s5⟩ := hS
      go_simp
      with_reducible rfl
    case restq6 =>
    try simp only [Act.put, List.setIfInBounds_toArray, List.set_cons_zero, List.set_cons_succ, List.getElem_toArray, List.getElem_cons_zero, List.getElem_cons_succ]
    refine wpAnyH_take (i := 8) (v := ?vq7) rfl (by kernel_rfl) (by kernel_rfl) (by kernel_rfl) (fun _ _ _ h => h) (Or.inl ⟨by rfl, ?hyq7⟩) hHeld ?restq7
    case hyq7 =>
      intro w' hS
      obtain ⟨s0', s1, s2, s3, s4, s5⟩ := hS
      go_simp
      with_reducible rfl
    case restq7 =>
    try simp only [Act.put, List.setIfInBounds_toArray, List.set_cons_zero, List.set_cons_succ, List.getElem_toArray, List.getElem_cons_zero, List.getElem_cons_succ]
    refine wpAnyH_take (i := 9) (v := ?vq8) rfl (by kernel_rfl) (by kernel_rfl) (by kernel_rfl) (fun _ _ _ h => h) (Or.inl ⟨by rfl, ?hyq8⟩) hHeld ?restq8
    case hyq8 =>
      intro w' hS
      obtain ⟨s0', s1, s2, s3, s4, s5⟩ := hS
      go_simp
      with_reducible rfl
    case restq8 =>
    try simp only [Act.put, List.setIfInBounds_toArray, List.set_cons_zero, List.set_cons_succ, List.getElem_toArray, List.getElem_cons_zero, List.getElem_cons_succ]
    refine wpAnyH_take (i := 12) (v := ?vq9) rfl (by kernel_rfl) (by kernel_rfl) (by kernel_rfl) (fun _ _ _ h => h) (Or.inl ⟨by rfl, ?hyq9⟩) hHeld ?restq9
    case hyq9 =>
      intro w' hS
      obtain ⟨s0', s1, s2, s3, s4, s5⟩ := hS
      go_simp
      with_reducible rfl
    case restq9 =>
    try simp only [Act.put, List.setIfInBounds_toArray, List.set_cons_zero, List.set_cons_succ, List.getElem_toArray, List.getElem_cons_zero, List.getElem_cons_succ]
    refine wpAnyH_take (i := 13) (v := ?vq10) rfl (by kernel_rfl) (by kernel_rfl) (by kernel_rfl) (fun _ _ _ h => h) (Or.inl ⟨by rfl, ?hyq10⟩) hHeld ?restq10
    case hyq10 =>
      intro w' hS
      obtain ⟨s0', s1, s2, s3, s4, s5⟩ := hS
      go_simp
      with_reducible rfl
    case restq10 =>
    try simp only [Act.put, List.setIfInBounds_toArray, List.set_cons_zero, List.set_cons_succ, List.getElem_toArray, List.getElem_cons_zero, List.getElem_cons_succ]
    refine wpAnyH_take (i := 14) (v := .int .i64 (mx i0)) rfl (by kernel_rfl) (by kernel_rfl) (by kernel_rfl) (fun _ _ _ h => h) (Or.inl ⟨by rfl, ?hyq11⟩) hHeld ?restq11
    case hyq11 =>
      intro w' hS
      obtain ⟨s0', s1, s2, s3, s4, s5⟩ := hS
      by_cases k : 0 < i0
      · go_simp
        exact mx_pos k
      · go_simp
        exact mx_neg k
    case restq11 =>
    try simp only [Act.put, List.setIfInBounds_toArray, List.set_cons_zero, List.set_cons_succ, List.getElem_toArray, List.getElem_cons_zero, List.getElem_cons_succ]
    refine wpAnyH_take (i := 15) (v := ?vq12) rfl (by kernel_rfl) (by kernel_rfl) (by kernel_rfl) (fun _ _ _ h => h) (Or.inl ⟨by rfl, ?hyq12⟩) hHeld ?restq12
    case hyq12 =>
      intro w' hS
      obtain ⟨s0', s1, s2, s3, s4, s5⟩ := hS
      go_simp
      with_reducible rfl
    case restq12 =>
    try simp only [Act.put, List.setIfInBounds_toArray, List.set_cons_zero, List.set_cons_succ, List.getElem_toArray, List.getElem_cons_zero, List.getElem_cons_succ]
    refine wpAnyH_ready (rs := [2, 17]) (by kernel_rfl) (by simp) ?_
    refine AllReadyH.cons rfl (fun K hK => ?_) ?_
    · skip
      go_simp
      refine (hmf.out _).mono ?_
      rintro r w' ⟨rfl, rfl⟩
      go_wp2_with fail
      refine hK.out _ _ hHeld (fun hHeld => ?_)
      clear hK K
      try simp only [Act.put, List.setIfInBounds_toArray, List.set_cons_zero, List.set_cons_succ, List.getElem_toArray, List.getElem_cons_zero, List.getElem_cons_succ]
      refine wpAnyH_take (i := 3) (v := .int .i64 (mx F)) rfl (by kernel_rfl) (by kernel_rfl) (by kernel_rfl) (fun _ _ _ h => h) (Or.inl ⟨by rfl, ?hyq13⟩) hHeld ?restq13
      case hyq13 =>
        intro w' hS
        obtain ⟨s0', s1, s2, s3, s4, s5⟩ := hS
        by_cases k : 0 < F
        · go_simp
          exact mx_pos k
        · go_simp
          exact mx_neg k
      case restq13 =>
      try simp only [Act.put, List.setIfInBounds_toArray, List.set_cons_zero, List.set_cons_succ, List.getElem_toArray, List.getElem_cons_zero, List.getElem_cons_succ]
      refine wpAnyH_ready (rs := [10, 17]) (by kernel_rfl) (by simp) ?_
      refine AllReadyH.cons rfl (fun K hK => ?_) ?_
      · skip
        go_simp
        refine (hmo.out _).mono ?_
        rintro r w' ⟨rfl, rfl⟩
        go_wp2_with fail
        refine hK.out _ _ hHeld (fun hHeld => ?_)
        clear hK K
        try simp only [Act.put, List.setIfInBounds_toArray, List.set_cons_zero, List.set_cons_succ, List.getElem_toArray, List.getElem_cons_zero, List.getElem_cons_succ]
        refine wpAnyH_take (i := 11) (v := .int .i64 (mx O)) rfl (by kernel_rfl) (by kernel_rfl) (by kernel_rfl) (fun _ _ _ h => h) (Or.inl ⟨by rfl, ?hyq14⟩) hHeld ?restq14
        case hyq14 =>
          intro w' hS
          obtain ⟨s0', s1, s2, s3, s4, s5⟩ := hS
          by_cases k : 0 < O
          · go_simp
            exact mx_pos k
          · go_simp
            exact mx_neg k
        case restq14 =>
        try simp only [Act.put, List.setIfInBounds_toArray, List.set_cons_zero, List.set_cons_succ, List.getElem_toArray, List.getElem_cons_zero, List.getElem_cons_succ]
        refine wpAnyH_take (i := 16) (v := ?vq15) rfl (by kernel_rfl) (by kernel_rfl) (by kernel_rfl) (fun _ _ _ h => h) (Or.inl ⟨by rfl, ?hyq15⟩) hHeld ?restq15
        case hyq15 =>
          intro w' hS
          obtain ⟨s0', s1, s2, s3, s4, s5⟩ := hS
          go_simp
          with_reducible rfl
        case restq15 =>
        try simp only [Act.put, List.setIfInBounds_toArray, List.set_cons_zero, List.set_cons_succ, List.getElem_toArray, List.getElem_cons_zero, List.getElem_cons_succ]
        refine wpAnyH_ready (rs := [17]) (by kernel_rfl) (by simp) ?_
        refine AllReadyH.cons rfl (fun K hK => ?_) AllReadyH.nil
        go_simp
        refine hK.out _ _ (Kept.made hHeld _) (fun hHeld => ?_)
        clear hK K
        try simp only [Act.put, List.setIfInBounds_toArray, List.set_cons_zero, List.set_cons_succ, List.getElem_toArray, List.getElem_cons_zero, List.getElem_cons_succ]
        refine wpAnyH_ready (rs := [18]) (by kernel_rfl) (by simp) ?_
        refine AllReadyH.cons rfl (fun K hK => ?_) AllReadyH.nil
        go_simp
        refine hK.out _ _ (Kept.two _ _ _ _ _ _) (fun _ => ?_)
        clear hK K
        try simp only [Act.put, List.setIfInBounds_toArray, List.set_cons_zero, List.set_cons_succ, List.getElem_toArray, List.getElem_cons_zero, List.getElem_cons_succ]
        refine wpAnyH_done (by kernel_rfl) ?_ _
        go_wp2_with fail
        go_meet
        exact ⟨_, _, _, _, _, rfl, Kept.near _ _ _ _ _ _, (Kept.two _ _ _ _ _ _).box, (Kept.two f0 s0 o0 i0 w _).2.2.2.2.2⟩
      · skip
        refine AllReadyH.cons rfl (fun K hK => ?_) AllReadyH.nil
        go_simp
        refine hK.out _ _ (Kept.made hHeld _) (fun hHeld => ?_)
        clear hK K
        try simp only [Act.put, List.setIfInBounds_toArray, List.set_cons_zero, List.set_cons_succ, List.getElem_toArray, List.getElem_cons_zero, List.getElem_cons_succ]
        refine wpAnyH_ready (rs := [10]) (by kernel_rfl) (by simp) ?_
        refine AllReadyH.cons rfl (fun K hK => ?_) AllReadyH.nil
        go_simp
        refine (hmo.out _).mono ?_
        rintro r w' ⟨rfl, rfl⟩
        go_wp2_with fail
        refine hK.out _ _ hHeld (fun hHeld => ?_)
        clear hK K
        try simp only [Act.put, List.setIfInBounds_toArray, List.set_cons_zero, List.set_cons_succ, List.getElem_toArray, List.getElem_cons_zero, List.getElem_cons_succ]
        refine wpAnyH_take (i := 11) (v := .int .i64 (mx O)) rfl (by kernel_rfl) (by kernel_rfl) (by kernel_rfl) (fun _ _ _ h => h) (Or.inl ⟨by rfl, ?hyq16⟩) hHeld ?restq16
        case hyq16 =>
          intro w' hS
          obtain ⟨s0', s1, s2, s3, s4, s5⟩ := hS
          by_cases k : 0 < O
          · go_simp
            exact mx_pos k
          · go_simp
            exact mx_neg k
        case restq16 =>
        try simp only [Act.put, List.setIfInBounds_toArray, List.set_cons_zero, List.set_cons_succ, List.getElem_toArray, List.getElem_cons_zero, List.getElem_cons_succ]
        refine wpAnyH_take (i := 16) (v := ?vq17) rfl (by kernel_rfl) (by kernel_rfl) (by kernel_rfl) (fun _ _ _ h => h) (Or.inl ⟨by rfl, ?hyq17⟩) hHeld ?restq17
        case hyq17 =>
          intro w' hS
          obtain ⟨s0', s1, s2, s3, s4, s5⟩ := hS
          go_simp
          with_reducible rfl
        case restq17 =>
        try simp only [Act.put, List.setIfInBounds_toArray, List.set_cons_zero, List.set_cons_succ, List.getElem_toArray, List.getElem_cons_zero, List.getElem_cons_succ]
        refine wpAnyH_ready (rs := [18]) (by kernel_rfl) (by simp) ?_
        refine AllReadyH.cons rfl (fun K hK => ?_) AllReadyH.nil
        go_simp
        refine hK.out _ _ (Kept.two _ _ _ _ _ _) (fun _ => ?_)
        clear hK K
        try simp only [Act.put, List.setIfInBounds_toArray, List.set_cons_zero, List.set_cons_succ, List.getElem_toArray, List.getElem_cons_zero, List.getElem_cons_succ]
        refine wpAnyH_done (by kernel_rfl) ?_ _
        go_wp2_with fail
        go_meet
        exact ⟨_, _, _, _, _, rfl, Kept.near _ _ _ _ _ _, (Kept.two _ _ _ _ _ _).box, (Kept.two f0 s0 o0 i0 w _).2.2.2.2.2⟩
    · skip
      refine AllReadyH.cons rfl (fun K hK => ?_) AllReadyH.nil
      go_simp
      refine hK.out _ _ (Kept.made hHeld _) (fun hHeld => ?_)
      clear hK K
      try simp only [Act.put, List.setIfInBounds_toArray, List.set_cons_zero, List.set_cons_succ, List.getElem_toArray, List.getElem_cons_zero, List.getElem_cons_succ]
      refine wpAnyH_ready (rs := [2]) (by kernel_rfl) (by simp) ?_
      refine AllReadyH.cons rfl (fun K hK => ?_) AllReadyH.nil
      go_simp
      refine (hmf.out _).mono ?_
      rintro r w' ⟨rfl, rfl⟩
      go_wp2_with fail
      refine hK.out _ _ hHeld (fun hHeld => ?_)
      clear hK K
      try simp only [Act.put, List.setIfInBounds_toArray, List.set_cons_zero, List.set_cons_succ, List.getElem_toArray, List.getElem_cons_zero, List.getElem_cons_succ]
      refine wpAnyH_take (i := 3) (v := .int .i64 (mx F)) rfl (by kernel_rfl) (by kernel_rfl) (by kernel_rfl) (fun _ _ _ h => h) (Or.inl ⟨by rfl, ?hyq18⟩) hHeld ?restq18
      case hyq18 =>
        intro w' hS
        obtain ⟨s0', s1, s2, s3, s4, s5⟩ := hS
        by_cases k : 0 < F
        · go_simp
          exact mx_pos k
        · go_simp
          exact mx_neg k
      case restq18 =>
      try simp only [Act.put, List.setIfInBounds_toArray, List.set_cons_zero, List.set_cons_succ, List.getElem_toArray, List.getElem_cons_zero, List.getElem_cons_succ]
      refine wpAnyH_ready (rs := [10]) (by kernel_rfl) (by simp) ?_
      refine AllReadyH.cons rfl (fun K hK => ?_) AllReadyH.nil
      go_simp
      refine (hmo.out _).mono ?_
      rintro r w' ⟨rfl, rfl⟩
      go_wp2_with fail
      refine hK.out _ _ hHeld (fun hHeld => ?_)
      clear hK K
      try simp only [Act.put, List.setIfInBounds_toArray, List.set_cons_zero, List.set_cons_succ, List.getElem_toArray, List.getElem_cons_zero, List.getElem_cons_succ]
      refine wpAnyH_take (i := 11) (v := .int .i64 (mx O)) rfl (by kernel_rfl) (by kernel_rfl) (by kernel_rfl) (fun _ _ _ h => h) (Or.inl ⟨by rfl, ?hyq19⟩) hHeld ?restq19
      case hyq19 =>
        intro w' hS
        obtain ⟨s0', s1, s2, s3, s4, s5⟩ := hS
        by_cases k : 0 < O
        · go_simp
          exact mx_pos k
        · go_simp
          exact mx_neg k
      case restq19 =>
      try simp only [Act.put, List.setIfInBounds_toArray, List.set_cons_zero, List.set_cons_succ, List.getElem_toArray, List.getElem_cons_zero, List.getElem_cons_succ]
      refine wpAnyH_take (i := 16) (v := ?vq20) rfl (by kernel_rfl) (by kernel_rfl) (by kernel_rfl) (fun _ _ _ h => h) (Or.inl ⟨by rfl, ?hyq20⟩) hHeld ?restq20
      case hyq20 =>
        intro w' hS
        obtain ⟨s0', s1, s2, s3, s4, s5⟩ := hS
        go_simp
        with_reducible rfl
      case restq20 =>
      try simp only [Act.put, List.setIfInBounds_toArray, List.set_cons_zero, List.set_cons_succ, List.getElem_toArray, List.getElem_cons_zero, List.getElem_cons_succ]
      refine wpAnyH_ready (rs := [18]) (by kernel_rfl) (by simp) ?_
      refine AllReadyH.cons rfl (fun K hK => ?_) AllReadyH.nil
      go_simp
      refine hK.out _ _ (Kept.two _ _ _ _ _ _) (fun _ => ?_)
      clear hK K
      try simp only [Act.put, List.setIfInBounds_toArray, List.set_cons_zero, List.set_cons_succ, List.getElem_toArray, List.getElem_cons_zero, List.getElem_cons_succ]
      refine wpAnyH_done (by kernel_rfl) ?_ _
      go_wp2_with fail
      go_meet
      exact ⟨_, _, _, _, _, rfl, Kept.near _ _ _ _ _ _, (Kept.two _ _ _ _ _ _).box, (Kept.two f0 s0 o0 i0 w _).2.2.2.2.2⟩
  case rest =>
    obtain ⟨g, F, S, O, I, rfl, hbx, hby, hb⟩ := hcut
    obtain ⟨v0, v1, v2, v3, v4⟩ := hbx
    obtain ⟨y0, y1, y2, y3, y4⟩ := hby
    obtain ⟨wo, rfl⟩ : ∃ wo : World, wo = wc := ⟨_, rfl⟩
    go_wp2_with fail
    go_loopw [28] (fun v28 wx => ∃ u : Nat, u ≤ 2 ∧ v28 = .int .i64 u ∧ Ints wx wo.heap.size [f0, s0, o0, i0, F, S, O, I] ∧ Below w.heap.size w wx) (fun v28 _ => 2 - (intOf v28).toNat)
    case atStart => exact ⟨0, by omega, rfl, Ints.made wo [f0, s0, o0, i0, F, S, O, I] _, hb.alloc hb.size _⟩
    case round =>
      obtain ⟨u, hu, rfl, hI, hnx⟩ := hrel
      obtain ⟨wi, rfl⟩ : ∃ wi : World, wi = wr := ⟨_, rfl⟩
      by_cases hlt : u < 2
      · have c0 := hI.at_ (u * 4) (by simp; omega)
        have c1 := hI.at_ (u * 4 + 1) (by simp; omega)
        have c2 := hI.at_ (u * 4 + 2) (by simp; omega)
        have c3 := hI.at_ (u * 4 + 3) (by simp; omega)
        generalize [f0, s0, o0, i0, F, S, O, I].getD (u * 4) 0 = p at c0
        generalize [f0, s0, o0, i0, F, S, O, I].getD (u * 4 + 1) 0 = q at c1
        generalize [f0, s0, o0, i0, F, S, O, I].getD (u * 4 + 2) 0 = r at c2
        generalize [f0, s0, o0, i0, F, S, O, I].getD (u * 4 + 3) 0 = t at c3
        clear v0 v1 v2 v3 v4 y0 y1 y2 y3 y4
        obtain ⟨C, hC, hC1, hC2⟩ : ∃ C, Hid (cmpA p q r t = C) ∧ -1 ≤ C ∧ C ≤ 1 := ⟨_, rfl, cmpA_range _ _ _ _⟩
        obtain ⟨D, hD, hD1⟩ : ∃ D, Hid (cmpA r t p q = D) ∧ D = -C := ⟨_, rfl, by rw [cmpA_turn, hC.out]⟩
        have hbx := Boxed.made wi p q r t 46
        have hb0 := (Below.refl wi.heap.size wi).alloc (Nat.le_refl _) (.cells #[.int .i64 p, .int .i64 q, .int .i64 r, .int .i64 t] 46)
        have HB := Lib.hid hbx
        clear hbx
        go_wp2_with fail
        refine (compare_any p q r t _).mono ?_
        rintro e w2 ⟨rfl, hb2⟩
        rw [hC.out]
        obtain ⟨v0, v1, v2, v3, v4⟩ := HB.out.later hb2
        replace hb2 := hb0.trans (hb2.mono hb0.size)
        clear hb0 HB
        go_wp2_with fail
        refine (rcompare_any p q r t _).mono ?_
        rintro e w3 ⟨rfl, rfl⟩
        rw [hC.out]
        go_wp2_with fail
        refine (compare_any r t p q _).mono ?_
        rintro e w3 ⟨rfl, hb3⟩
        rw [hD.out]
        subst hD1
        replace hb3 := hb2.trans (hb3.mono hb2.size)
        go_wp2_with fail
        go_roundw
        case rel => exact ⟨u + 1, by omega, by go_num, hI.later hb3, hnx.trans (hb3.mono hnx.size)⟩
        case measure => simp [intOf]; omega
      · obtain rfl : u = 2 := by omega
        go_wp2_with fail
        refine (wakes01_any _).mono ?_
        rintro x w6 ⟨rfl, hb6⟩
        go_wp2_with fail
        go_ret
        exact ⟨rfl, hnx.trans (hb6.mono hnx.size)⟩

theorem walkAmountCompares (f s o i : Int) (w : World) (hw : ∀ n ∈ [f, s, o, i], -9223372036854775808 ≤ n ∧ n ≤ 9223372036854775807) :
    Calls Try.prog 8 #[.agg #[.int .i64 f, .int .i64 s, .int .i64 o, .int .i64 i]] w fun e w' => e = .returned (.bool true) ∧ Below w.heap.size w w' :=
  law8 f s o i w (hw f (by simp)) (hw o (by simp))
end Go.Proofs.Ytiokcoicipmkmaa

