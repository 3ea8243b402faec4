/-
  No cell of these rows narrows 'for every input' (looked for: loops, veiled, ifaces, maps, wideKeys, modest, calm, conditions, laid).
  DERIVED. THE GIVEN ROWS OF THIS SEAT. 10 by the template 'for every input the law returns true; each argument reads behind the call as it read before'; 0 by the template 'total and deterministic' (their statements: YtiokcoicipmkmaaTotals.lean).
  GIVEN WITH THE SEED: the statements are not yours to turn. If you find one false, say at which input.
  Laid BY PROGRAM, IN A SANDBOX (cutbox-rows.mjs): the forced cells as the released guide's own fill.sh prints them over the translation b84fc97034e45594… (all of the seat's roots in one cut). By AI agents, Wed Nov 11 2026. No macro, syntax, notation, axiom, sorry.
-/
import Derived.Test.YtiokcoicipmkmaaChecked
import GoSem.Claim
import GoSem.ClaimJoined
import GoSem.ClaimMapViews
import Derived.JoinedTies
import Derived.KernelRfl
namespace Go.Proofs.Ytiokcoicipmkmaa
/- THE CELL 'sum', in the pinned program and in every row, IS THE sha256 OF THE DUMP (.gsa) THAT YtiokcoicipmkmaaProg.lean LOADS. Nothing in Lean hashes anything: it is a label: what it is worth is what the hold of that sum in a sandbox is worth. -/
noncomputable def Try.pinned : Pinned := { name := "ytiokcoicipmkmaa", sum := "b84fc97034e45594cd2f0e3baffa0b6db37bc17c59ffe8dcb48aa3bcec9f3b23", checked := Try.checked }
namespace Rows
def none {H : Type} : Left H := { results := [], args := [] }

/-- 'kedgelaw22.CurveRates': WHATEVER THE INPUT: true; the input reads as it did. -/
def curveRatesSpec : ChangeSpec := { name := "curveRates", fn := fun _ => fun
  | [d1, d2, d3] => { results := [.lit (.bool true)], args := [d1, d2, d3] }
  | _ => none }
def curveRatesRow : OpenClaim := { program := "ytiokcoicipmkmaa", sum := "b84fc97034e45594cd2f0e3baffa0b6db37bc17c59ffe8dcb48aa3bcec9f3b23", func := "kedge/kedgelaw22.CurveRates", spec := "curveRates", apart := false }
def CurveRatesSaid : Prop := curveRatesRow.holds Try.pinned (OpenSpec.ofChange curveRatesSpec)

/-- ITS FALSE NEIGHBOUR: 'it returns false'. Refute it at one input. -/
def curveRatesWrong : ChangeSpec := { name := "curveRates", fn := fun _ => fun
  | [d1, d2, d3] => { results := [.lit (.bool false)], args := [d1, d2, d3] }
  | _ => none }
def CurveRatesWrongFalsely : Prop := curveRatesRow.holds Try.pinned (OpenSpec.ofChange curveRatesWrong)

/-- 'kedgelaw22.CurveReaches': WHATEVER THE INPUT: true; the input reads as it did. -/
def curveReachesSpec : ChangeSpec := { name := "curveReaches", fn := fun _ => fun
  | [d1, d2] => { results := [.lit (.bool true)], args := [d1, d2] }
  | _ => none }
def curveReachesRow : OpenClaim := { program := "ytiokcoicipmkmaa", sum := "b84fc97034e45594cd2f0e3baffa0b6db37bc17c59ffe8dcb48aa3bcec9f3b23", func := "kedge/kedgelaw22.CurveReaches", spec := "curveReaches", apart := false }
def CurveReachesSaid : Prop := curveReachesRow.holds Try.pinned (OpenSpec.ofChange curveReachesSpec)

/-- ITS FALSE NEIGHBOUR: 'it returns false'. Refute it at one input. -/
def curveReachesWrong : ChangeSpec := { name := "curveReaches", fn := fun _ => fun
  | [d1, d2] => { results := [.lit (.bool false)], args := [d1, d2] }
  | _ => none }
def CurveReachesWrongFalsely : Prop := curveReachesRow.holds Try.pinned (OpenSpec.ofChange curveReachesWrong)

/-- 'kedgelaw22.CurveRises': WHATEVER THE INPUT: true; the input reads as it did. -/
def curveRisesSpec : ChangeSpec := { name := "curveRises", fn := fun _ => fun
  | [d1, d2] => { results := [.lit (.bool true)], args := [d1, d2] }
  | _ => none }
def curveRisesRow : OpenClaim := { program := "ytiokcoicipmkmaa", sum := "b84fc97034e45594cd2f0e3baffa0b6db37bc17c59ffe8dcb48aa3bcec9f3b23", func := "kedge/kedgelaw22.CurveRises", spec := "curveRises", apart := false }
def CurveRisesSaid : Prop := curveRisesRow.holds Try.pinned (OpenSpec.ofChange curveRisesSpec)

/-- ITS FALSE NEIGHBOUR: 'it returns false'. Refute it at one input. -/
def curveRisesWrong : ChangeSpec := { name := "curveRises", fn := fun _ => fun
  | [d1, d2] => { results := [.lit (.bool false)], args := [d1, d2] }
  | _ => none }
def CurveRisesWrongFalsely : Prop := curveRisesRow.holds Try.pinned (OpenSpec.ofChange curveRisesWrong)

/-- 'kedgelaw22.CurveShift': WHATEVER THE INPUT: true; the input reads as it did. -/
def curveShiftSpec : ChangeSpec := { name := "curveShift", fn := fun _ => fun
  | [d] => { results := [.lit (.bool true)], args := [d] }
  | _ => none }
def curveShiftRow : OpenClaim := { program := "ytiokcoicipmkmaa", sum := "b84fc97034e45594cd2f0e3baffa0b6db37bc17c59ffe8dcb48aa3bcec9f3b23", func := "kedge/kedgelaw22.CurveShift", spec := "curveShift", apart := false }
def CurveShiftSaid : Prop := curveShiftRow.holds Try.pinned (OpenSpec.ofChange curveShiftSpec)

/-- ITS FALSE NEIGHBOUR: 'it returns false'. Refute it at one input. -/
def curveShiftWrong : ChangeSpec := { name := "curveShift", fn := fun _ => fun
  | [d] => { results := [.lit (.bool false)], args := [d] }
  | _ => none }
def CurveShiftWrongFalsely : Prop := curveShiftRow.holds Try.pinned (OpenSpec.ofChange curveShiftWrong)

/-- 'kedgelaw01.AmountFees': WHATEVER THE INPUT: true; the input reads as it did. -/
def amountFeesSpec : ChangeSpec := { name := "amountFees", fn := fun _ => fun
  | [d1, d2, d3] => { results := [.lit (.bool true)], args := [d1, d2, d3] }
  | _ => none }
def amountFeesRow : OpenClaim := { program := "ytiokcoicipmkmaa", sum := "b84fc97034e45594cd2f0e3baffa0b6db37bc17c59ffe8dcb48aa3bcec9f3b23", func := "kedge/kedgelaw01.AmountFees", spec := "amountFees", apart := false }
def AmountFeesSaid : Prop := amountFeesRow.holds Try.pinned (OpenSpec.ofChange amountFeesSpec)

/-- ITS FALSE NEIGHBOUR: 'it returns false'. Refute it at one input. -/
def amountFeesWrong : ChangeSpec := { name := "amountFees", fn := fun _ => fun
  | [d1, d2, d3] => { results := [.lit (.bool false)], args := [d1, d2, d3] }
  | _ => none }
def AmountFeesWrongFalsely : Prop := amountFeesRow.holds Try.pinned (OpenSpec.ofChange amountFeesWrong)

/-- 'kedgelaw01.AmountCompares': WHATEVER THE INPUT: true; the input reads as it did. -/
def amountComparesSpec : ChangeSpec := { name := "amountCompares", fn := fun _ => fun
  | [d] => { results := [.lit (.bool true)], args := [d] }
  | _ => none }
def amountComparesRow : OpenClaim := { program := "ytiokcoicipmkmaa", sum := "b84fc97034e45594cd2f0e3baffa0b6db37bc17c59ffe8dcb48aa3bcec9f3b23", func := "kedge/kedgelaw01.AmountCompares", spec := "amountCompares", apart := false }
def AmountComparesSaid : Prop := amountComparesRow.holds Try.pinned (OpenSpec.ofChange amountComparesSpec)

/-- ITS FALSE NEIGHBOUR: 'it returns false'. Refute it at one input. -/
def amountComparesWrong : ChangeSpec := { name := "amountCompares", fn := fun _ => fun
  | [d] => { results := [.lit (.bool false)], args := [d] }
  | _ => none }
def AmountComparesWrongFalsely : Prop := amountComparesRow.holds Try.pinned (OpenSpec.ofChange amountComparesWrong)

/-- 'kedgelaw01.AmountLeast': WHATEVER THE INPUT: true; the input reads as it did. -/
def amountLeastSpec : ChangeSpec := { name := "amountLeast", fn := fun _ => fun
  | [d1, d2, d3] => { results := [.lit (.bool true)], args := [d1, d2, d3] }
  | _ => none }
def amountLeastRow : OpenClaim := { program := "ytiokcoicipmkmaa", sum := "b84fc97034e45594cd2f0e3baffa0b6db37bc17c59ffe8dcb48aa3bcec9f3b23", func := "kedge/kedgelaw01.AmountLeast", spec := "amountLeast", apart := false }
def AmountLeastSaid : Prop := amountLeastRow.holds Try.pinned (OpenSpec.ofChange amountLeastSpec)

/-- ITS FALSE NEIGHBOUR: 'it returns false'. Refute it at one input. -/
def amountLeastWrong : ChangeSpec := { name := "amountLeast", fn := fun _ => fun
  | [d1, d2, d3] => { results := [.lit (.bool false)], args := [d1, d2, d3] }
  | _ => none }
def AmountLeastWrongFalsely : Prop := amountLeastRow.holds Try.pinned (OpenSpec.ofChange amountLeastWrong)

/-- 'kedgelaw01.AmountOrder': WHATEVER THE INPUT: true; the input reads as it did. -/
def amountOrderSpec : ChangeSpec := { name := "amountOrder", fn := fun _ => fun
  | [d1, d2, d3] => { results := [.lit (.bool true)], args := [d1, d2, d3] }
  | _ => none }
def amountOrderRow : OpenClaim := { program := "ytiokcoicipmkmaa", sum := "b84fc97034e45594cd2f0e3baffa0b6db37bc17c59ffe8dcb48aa3bcec9f3b23", func := "kedge/kedgelaw01.AmountOrder", spec := "amountOrder", unfollowed := true, recurses := true, apart := false }
def AmountOrderSaid : Prop := amountOrderRow.holds Try.pinned (OpenSpec.ofChange amountOrderSpec)

/-- ITS FALSE NEIGHBOUR: 'it returns false'. Refute it at one input. -/
def amountOrderWrong : ChangeSpec := { name := "amountOrder", fn := fun _ => fun
  | [d1, d2, d3] => { results := [.lit (.bool false)], args := [d1, d2, d3] }
  | _ => none }
def AmountOrderWrongFalsely : Prop := amountOrderRow.holds Try.pinned (OpenSpec.ofChange amountOrderWrong)

/-- 'kedgelaw01.AmountSums': WHATEVER THE INPUT: true; the input reads as it did. -/
def amountSumsSpec : ChangeSpec := { name := "amountSums", fn := fun _ => fun
  | [d1, d2, d3] => { results := [.lit (.bool true)], args := [d1, d2, d3] }
  | _ => none }
def amountSumsRow : OpenClaim := { program := "ytiokcoicipmkmaa", sum := "b84fc97034e45594cd2f0e3baffa0b6db37bc17c59ffe8dcb48aa3bcec9f3b23", func := "kedge/kedgelaw01.AmountSums", spec := "amountSums", apart := false }
def AmountSumsSaid : Prop := amountSumsRow.holds Try.pinned (OpenSpec.ofChange amountSumsSpec)

/-- ITS FALSE NEIGHBOUR: 'it returns false'. Refute it at one input. -/
def amountSumsWrong : ChangeSpec := { name := "amountSums", fn := fun _ => fun
  | [d1, d2, d3] => { results := [.lit (.bool false)], args := [d1, d2, d3] }
  | _ => none }
def AmountSumsWrongFalsely : Prop := amountSumsRow.holds Try.pinned (OpenSpec.ofChange amountSumsWrong)

/-- 'kedgelaw01.AmountBack': WHATEVER THE INPUT: true; the input reads as it did. -/
def amountBackSpec : ChangeSpec := { name := "amountBack", fn := fun _ => fun
  | [d1, d2, d3] => { results := [.lit (.bool true)], args := [d1, d2, d3] }
  | _ => none }
def amountBackRow : OpenClaim := { program := "ytiokcoicipmkmaa", sum := "b84fc97034e45594cd2f0e3baffa0b6db37bc17c59ffe8dcb48aa3bcec9f3b23", func := "kedge/kedgelaw01.AmountBack", spec := "amountBack", apart := false }
def AmountBackSaid : Prop := amountBackRow.holds Try.pinned (OpenSpec.ofChange amountBackSpec)

/-- ITS FALSE NEIGHBOUR: 'it returns false'. Refute it at one input. -/
def amountBackWrong : ChangeSpec := { name := "amountBack", fn := fun _ => fun
  | [d1, d2, d3] => { results := [.lit (.bool false)], args := [d1, d2, d3] }
  | _ => none }
def AmountBackWrongFalsely : Prop := amountBackRow.holds Try.pinned (OpenSpec.ofChange amountBackWrong)

/- THE SECOND FORM. 'bulk': how many values and letters a reading holds, each counted each time it is reached (what is shared counts as often as it is met; a slice's spare places count too). A statement '..UptoSaid' is the law's where the arguments, and the package variables that the reading takes, are together of bulk at most 1048576: NARROWER than '..Said'. Prove '..Said' where nothing that the law and all that it calls make is longer than what came in: it says more and counts as full. Else prove '..UptoSaid'. A law counts once. -/
mutual
def uptoBulk {H : Type} : DataW H → Nat
  | .lit (.string bytes) => bytes.length + 1
  | .lit _ => 1
  | .nil => 1
  | .ptr d => uptoBulk d + 1
  | .slice elems spare => uptoBulkAll elems + uptoBulkAll spare + 1
  | .agg parts => uptoBulkAll parts + 1
  | .iface _ d => uptoBulk d + 1
  | .map entries => uptoBulkEntries entries + 1
  | .held _ => 1
def uptoBulkAll {H : Type} : List (DataW H) → Nat
  | [] => 0
  | d :: r => uptoBulk d + uptoBulkAll r
def uptoBulkEntries {H : Type} : List (Lit × DataW H) → Nat
  | [] => 0
  | x :: r => uptoBulkEntry x + uptoBulkEntries r
def uptoBulkEntry {H : Type} : Lit × DataW H → Nat
  | (.string bytes, d) => bytes.length + uptoBulk d + 1
  | (_, d) => uptoBulk d + 1
 end
def uptoSmall : (H : Type) → List (DataW H) → Bool := fun _ ds => decide (uptoBulkAll ds ≤ 1048576)
def OpenSpec.upto (s : _root_.Go.ChangeSpec) : _root_.Go.OpenSpec := { _root_.Go.OpenSpec.ofChange s with cond := some uptoSmall }

/-- 'kedgelaw22.CurveRates', WHERE WHAT IT READS IS OF BULK AT MOST 1048576: true; the input reads as it did. -/
def curveRatesUptoRow : OpenClaim := { program := "ytiokcoicipmkmaa", sum := "b84fc97034e45594cd2f0e3baffa0b6db37bc17c59ffe8dcb48aa3bcec9f3b23", func := "kedge/kedgelaw22.CurveRates", spec := "curveRates", apart := false, narrowed := true }
def CurveRatesUptoSaid : Prop := curveRatesUptoRow.holds Try.pinned (OpenSpec.upto curveRatesSpec)

/-- 'kedgelaw22.CurveReaches', WHERE WHAT IT READS IS OF BULK AT MOST 1048576: true; the input reads as it did. -/
def curveReachesUptoRow : OpenClaim := { program := "ytiokcoicipmkmaa", sum := "b84fc97034e45594cd2f0e3baffa0b6db37bc17c59ffe8dcb48aa3bcec9f3b23", func := "kedge/kedgelaw22.CurveReaches", spec := "curveReaches", apart := false, narrowed := true }
def CurveReachesUptoSaid : Prop := curveReachesUptoRow.holds Try.pinned (OpenSpec.upto curveReachesSpec)

/-- 'kedgelaw22.CurveRises', WHERE WHAT IT READS IS OF BULK AT MOST 1048576: true; the input reads as it did. -/
def curveRisesUptoRow : OpenClaim := { program := "ytiokcoicipmkmaa", sum := "b84fc97034e45594cd2f0e3baffa0b6db37bc17c59ffe8dcb48aa3bcec9f3b23", func := "kedge/kedgelaw22.CurveRises", spec := "curveRises", apart := false, narrowed := true }
def CurveRisesUptoSaid : Prop := curveRisesUptoRow.holds Try.pinned (OpenSpec.upto curveRisesSpec)

/-- 'kedgelaw22.CurveShift', WHERE WHAT IT READS IS OF BULK AT MOST 1048576: true; the input reads as it did. -/
def curveShiftUptoRow : OpenClaim := { program := "ytiokcoicipmkmaa", sum := "b84fc97034e45594cd2f0e3baffa0b6db37bc17c59ffe8dcb48aa3bcec9f3b23", func := "kedge/kedgelaw22.CurveShift", spec := "curveShift", apart := false, narrowed := true }
def CurveShiftUptoSaid : Prop := curveShiftUptoRow.holds Try.pinned (OpenSpec.upto curveShiftSpec)

/-- 'kedgelaw01.AmountFees', WHERE WHAT IT READS IS OF BULK AT MOST 1048576: true; the input reads as it did. -/
def amountFeesUptoRow : OpenClaim := { program := "ytiokcoicipmkmaa", sum := "b84fc97034e45594cd2f0e3baffa0b6db37bc17c59ffe8dcb48aa3bcec9f3b23", func := "kedge/kedgelaw01.AmountFees", spec := "amountFees", apart := false, narrowed := true }
def AmountFeesUptoSaid : Prop := amountFeesUptoRow.holds Try.pinned (OpenSpec.upto amountFeesSpec)

/-- 'kedgelaw01.AmountCompares', WHERE WHAT IT READS IS OF BULK AT MOST 1048576: true; the input reads as it did. -/
def amountComparesUptoRow : OpenClaim := { program := "ytiokcoicipmkmaa", sum := "b84fc97034e45594cd2f0e3baffa0b6db37bc17c59ffe8dcb48aa3bcec9f3b23", func := "kedge/kedgelaw01.AmountCompares", spec := "amountCompares", apart := false, narrowed := true }
def AmountComparesUptoSaid : Prop := amountComparesUptoRow.holds Try.pinned (OpenSpec.upto amountComparesSpec)

/-- 'kedgelaw01.AmountLeast', WHERE WHAT IT READS IS OF BULK AT MOST 1048576: true; the input reads as it did. -/
def amountLeastUptoRow : OpenClaim := { program := "ytiokcoicipmkmaa", sum := "b84fc97034e45594cd2f0e3baffa0b6db37bc17c59ffe8dcb48aa3bcec9f3b23", func := "kedge/kedgelaw01.AmountLeast", spec := "amountLeast", apart := false, narrowed := true }
def AmountLeastUptoSaid : Prop := amountLeastUptoRow.holds Try.pinned (OpenSpec.upto amountLeastSpec)

/-- 'kedgelaw01.AmountOrder', WHERE WHAT IT READS IS OF BULK AT MOST 1048576: true; the input reads as it did. -/
def amountOrderUptoRow : OpenClaim := { program := "ytiokcoicipmkmaa", sum := "b84fc97034e45594cd2f0e3baffa0b6db37bc17c59ffe8dcb48aa3bcec9f3b23", func := "kedge/kedgelaw01.AmountOrder", spec := "amountOrder", unfollowed := true, recurses := true, apart := false, narrowed := true }
def AmountOrderUptoSaid : Prop := amountOrderUptoRow.holds Try.pinned (OpenSpec.upto amountOrderSpec)

/-- 'kedgelaw01.AmountSums', WHERE WHAT IT READS IS OF BULK AT MOST 1048576: true; the input reads as it did. -/
def amountSumsUptoRow : OpenClaim := { program := "ytiokcoicipmkmaa", sum := "b84fc97034e45594cd2f0e3baffa0b6db37bc17c59ffe8dcb48aa3bcec9f3b23", func := "kedge/kedgelaw01.AmountSums", spec := "amountSums", apart := false, narrowed := true }
def AmountSumsUptoSaid : Prop := amountSumsUptoRow.holds Try.pinned (OpenSpec.upto amountSumsSpec)

/-- 'kedgelaw01.AmountBack', WHERE WHAT IT READS IS OF BULK AT MOST 1048576: true; the input reads as it did. -/
def amountBackUptoRow : OpenClaim := { program := "ytiokcoicipmkmaa", sum := "b84fc97034e45594cd2f0e3baffa0b6db37bc17c59ffe8dcb48aa3bcec9f3b23", func := "kedge/kedgelaw01.AmountBack", spec := "amountBack", apart := false, narrowed := true }
def AmountBackUptoSaid : Prop := amountBackUptoRow.holds Try.pinned (OpenSpec.upto amountBackSpec)

end Rows
end Go.Proofs.Ytiokcoicipmkmaa
