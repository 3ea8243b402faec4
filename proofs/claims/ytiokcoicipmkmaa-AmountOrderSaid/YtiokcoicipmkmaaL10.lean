/- The given statement AmountOrderSaid is proved: for every input the law returns true and each argument reads afterwards as before. Conditions: none beyond the row's own. -/
import Derived.Test.YtiokcoicipmkmaaW10
import Derived.SizedLaws
import Derived.OpenShut
import Derived.ShutString
import Derived.ChangeOld
import Derived.Below
namespace Go.Proofs.Ytiokcoicipmkmaa.lawAmountOrder
open Go.ChangeShapes Go.WideShapes Go.ChangeAt Go.RowKit
open Go.ChangeMaps (open_string shut_string)
set_option linter.unusedVariables false
set_option linter.unusedSimpArgs false

theorem own : ownKnob Try.prog.godebug = none := by kernel_rfl
theorem laidOut : laidOutB Try.prog = true := by kernel_rfl

set_option maxRecDepth 100000 in
theorem lifted (os : Os) (started : os.Started) (H : Type) (enc : TypeId × Value → H) :
    ReturnsInHanded {} Try.checked os 10 .any (Rows.amountOrderSpec.pre6 enc Try.prog Try.f10 Rows.amountOrderRow.domain false) (Rows.amountOrderSpec.post enc Try.prog Try.f10 false true false false) := by
  refine returnsInHanded_of_change_sized (C := Try.checked) own started (by kernel_rfl) Try.func10
    (ChangeSpec.witness6 (enc := enc) (C := Try.checked) false ⟨#[], #[.agg #[.int .i64 0, .int .i64 0], .agg #[.int .i64 0, .int .i64 0], .agg #[.int .i64 0, .int .i64 0]], []⟩ 8 (by kernel_rfl) (by kernel_rfl) (by kernel_rfl) (by kernel_rfl)) ?_
  intro W base args ds gs before hval0 hW hcnd hsz0 _
  have hval : ∀ (j : Nat) t v, Try.f10.params[j]? = some t → args[j]? = some v → Value.okWide Try.prog W .any base t v := hval0
  have hsz : (DataW.weightsEach Try.prog (Try.f10.params.toList ++ Rows.amountOrderSpec.plain.varTypes Try.prog) (ds ++ gs)).all (· ≤ reachBytes) = true := hsz0
  have hW' := hW
  obtain ⟨p, q, hA0, hV, rfl, hfz, hnd⟩ := hW
  have hA : DataW.TrodAll enc Try.prog W 0 (fun _ => true) true Try.f10.params.toList args.toList ds p := hA0
  rw [Try.params10] at hA hval hsz
  obtain ⟨v0, vs0, d0, ds0, p0, q0, hargs, rfl, rfl, h0, r0⟩ := trodAll_cons hA
  obtain ⟨v1, vs1, d1, ds1, p1, q1, rfl, rfl, rfl, h1, r1⟩ := trodAll_cons r0
  obtain ⟨v2, vs2, d2, ds2, p2, q2, rfl, rfl, rfl, h2, r2⟩ := trodAll_cons r1
  obtain ⟨rfl, rfl, rfl⟩ := trodAll_nil r2
  obtain rfl : args = #[v0, v1, v2] := by cases args; simp_all
  obtain ⟨rfl, rfl⟩ := trodVars_none hV
  have k0 := h0
  have lt0 : ∀ x ∈ p0, x.block < W.heap.size := by obtain ⟨m, hm⟩ := k0; exact DataW.trod_lt m _ _ _ hm
  have g0 := hval 0 50 v0 rfl rfl
  simp only [Value.okWide, Try.underlying50] at g0
  obtain ⟨l0, hl0, hv0, w0⟩ := agg_ints (E := 3) (m := 2) Try.underlying3 (by kernel_rfl) (by kernel_rfl) g0
  obtain ⟨a0_0, a0_1, rfl⟩ := list_len2 hl0
  have hv0' : v0 = .agg #[.int .i64 a0_0, .int .i64 a0_1] := hv0
  clear hv0
  subst hv0'
  have k1 := h1
  have lt1 : ∀ x ∈ p1, x.block < W.heap.size := by obtain ⟨m, hm⟩ := k1; exact DataW.trod_lt m _ _ _ hm
  have g1 := hval 1 50 v1 rfl rfl
  simp only [Value.okWide, Try.underlying50] at g1
  obtain ⟨l1, hl1, hv1, w1⟩ := agg_ints (E := 3) (m := 2) Try.underlying3 (by kernel_rfl) (by kernel_rfl) g1
  obtain ⟨a1_0, a1_1, rfl⟩ := list_len2 hl1
  have hv1' : v1 = .agg #[.int .i64 a1_0, .int .i64 a1_1] := hv1
  clear hv1
  subst hv1'
  have k2 := h2
  have lt2 : ∀ x ∈ p2, x.block < W.heap.size := by obtain ⟨m, hm⟩ := k2; exact DataW.trod_lt m _ _ _ hm
  have g2 := hval 2 50 v2 rfl rfl
  simp only [Value.okWide, Try.underlying50] at g2
  obtain ⟨l2, hl2, hv2, w2⟩ := agg_ints (E := 3) (m := 2) Try.underlying3 (by kernel_rfl) (by kernel_rfl) g2
  obtain ⟨a2_0, a2_1, rfl⟩ := list_len2 hl2
  have hv2' : v2 = .agg #[.int .i64 a2_0, .int .i64 a2_1] := hv2
  clear hv2
  subst hv2'
  clear hA0 hval0
  refine (walkAmountOrder a0_0 a0_1 a1_0 a1_1 a2_0 a2_1 W w0 w1 w2).mono fun e W' ⟨he, bel⟩ => ?_
  subst he
  exact ⟨_, rfl, _, _, _, [], _, [], hW', trodAll_mk1 (shut_bool Try.underlying4 _), (trodAll_cons_mk (Below.trod laidOut (by kernel_rfl) (of_decide_eq_true (by kernel_rfl)) k0 bel lt0) (trodAll_cons_mk (Below.trod laidOut (by kernel_rfl) (of_decide_eq_true (by kernel_rfl)) k1 bel lt1) (trodAll_cons_mk (Below.trod laidOut (by kernel_rfl) (of_decide_eq_true (by kernel_rfl)) k2 bel lt2) trodAll_mk0))), rfl, bel.frame _, fun h => by cases h⟩

theorem over : Rows.amountOrderRow.holds Try.pinned (OpenSpec.ofChange Rows.amountOrderSpec) :=
  OpenClaim.holds_of_wide 10 Try.f10 rfl rfl rfl rfl rfl rfl rfl ⟨rfl, rfl, rfl, rfl, rfl⟩ rfl rfl rfl rfl rfl (by kernel_rfl) Try.func10 (by kernel_rfl)
    (of_decide_eq_true (by kernel_rfl)) (by unfold Func.isWrapper; first | (rw [if_pos (by decide +kernel)]; kernel_rfl) | (rw [if_neg (by decide +kernel)]; exact ⟨rfl, rfl⟩))
    (fun os started H enc _ => lifted os started H enc)

/-- THE STATEMENT -/
theorem proved : Rows.AmountOrderSaid := over
#print axioms proved
end Go.Proofs.Ytiokcoicipmkmaa.lawAmountOrder
