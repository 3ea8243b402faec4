/-
  No cell of these rows narrows 'for every input' (looked for: loops, veiled, ifaces, maps, wideKeys, modest, calm, conditions, laid).
  DERIVED. THE GIVEN ROWS OF THIS SEAT. 11 by the template 'for every input the law returns true; each argument reads behind the call as it read before'; 0 by the template 'total and deterministic' (their statements: YtgklmjallmbdgaaTotals.lean).
  GIVEN WITH THE SEED: the statements are not yours to turn. If you find one false, say at which input.
  Laid BY PROGRAM, IN A SANDBOX (cutbox-rows.mjs): the forced cells as the released guide's own fill.sh prints them over the translation 5c69f536ff21be69… (all of the seat's roots in one cut). By AI agents, Wed Nov 11 2026. No macro, syntax, notation, axiom, sorry.
-/
import Derived.Test.YtgklmjallmbdgaaChecked
import GoSem.Claim
import GoSem.ClaimJoined
import GoSem.ClaimMapViews
import Derived.JoinedTies
import Derived.KernelRfl
namespace Go.Proofs.Ytgklmjallmbdgaa
/- THE CELL 'sum', in the pinned program and in every row, IS THE sha256 OF THE DUMP (.gsa) THAT YtgklmjallmbdgaaProg.lean LOADS. Nothing in Lean hashes anything: it is a label: what it is worth is what the hold of that sum in a sandbox is worth. -/
noncomputable def Try.pinned : Pinned := { name := "ytgklmjallmbdgaa", sum := "5c69f536ff21be69e0546580483acb117fe907ec2c1bc749838ee9c6e3dfb932", checked := Try.checked }
namespace Rows
def none {H : Type} : Left H := { results := [], args := [] }

/-- 'kedgelaw02.OctetPuts': WHATEVER THE INPUT: true; the input reads as it did. -/
def octetPutsSpec : ChangeSpec := { name := "octetPuts", fn := fun _ => fun
  | [d1, d2] => { results := [.lit (.bool true)], args := [d1, d2] }
  | _ => none }
def octetPutsRow : OpenClaim := { program := "ytgklmjallmbdgaa", sum := "5c69f536ff21be69e0546580483acb117fe907ec2c1bc749838ee9c6e3dfb932", func := "kedge/kedgelaw02.OctetPuts", spec := "octetPuts", apart := false }
def OctetPutsSaid : Prop := octetPutsRow.holds Try.pinned (OpenSpec.ofChange octetPutsSpec)

/-- ITS FALSE NEIGHBOUR: 'it returns false'. Refute it at one input. -/
def octetPutsWrong : ChangeSpec := { name := "octetPuts", fn := fun _ => fun
  | [d1, d2] => { results := [.lit (.bool false)], args := [d1, d2] }
  | _ => none }
def OctetPutsWrongFalsely : Prop := octetPutsRow.holds Try.pinned (OpenSpec.ofChange octetPutsWrong)

/-- 'kedgelaw02.OctetGets': WHATEVER THE INPUT: true; the input reads as it did. -/
def octetGetsSpec : ChangeSpec := { name := "octetGets", fn := fun _ => fun
  | [d1, d2, d3] => { results := [.lit (.bool true)], args := [d1, d2, d3] }
  | _ => none }
def octetGetsRow : OpenClaim := { program := "ytgklmjallmbdgaa", sum := "5c69f536ff21be69e0546580483acb117fe907ec2c1bc749838ee9c6e3dfb932", func := "kedge/kedgelaw02.OctetGets", spec := "octetGets", apart := false }
def OctetGetsSaid : Prop := octetGetsRow.holds Try.pinned (OpenSpec.ofChange octetGetsSpec)

/-- ITS FALSE NEIGHBOUR: 'it returns false'. Refute it at one input. -/
def octetGetsWrong : ChangeSpec := { name := "octetGets", fn := fun _ => fun
  | [d1, d2, d3] => { results := [.lit (.bool false)], args := [d1, d2, d3] }
  | _ => none }
def OctetGetsWrongFalsely : Prop := octetGetsRow.holds Try.pinned (OpenSpec.ofChange octetGetsWrong)

/-- 'kedgelaw02.OctetBack': WHATEVER THE INPUT: true; the input reads as it did. -/
def octetBackSpec : ChangeSpec := { name := "octetBack", fn := fun _ => fun
  | [d1, d2, d3] => { results := [.lit (.bool true)], args := [d1, d2, d3] }
  | _ => none }
def octetBackRow : OpenClaim := { program := "ytgklmjallmbdgaa", sum := "5c69f536ff21be69e0546580483acb117fe907ec2c1bc749838ee9c6e3dfb932", func := "kedge/kedgelaw02.OctetBack", spec := "octetBack", apart := false }
def OctetBackSaid : Prop := octetBackRow.holds Try.pinned (OpenSpec.ofChange octetBackSpec)

/-- ITS FALSE NEIGHBOUR: 'it returns false'. Refute it at one input. -/
def octetBackWrong : ChangeSpec := { name := "octetBack", fn := fun _ => fun
  | [d1, d2, d3] => { results := [.lit (.bool false)], args := [d1, d2, d3] }
  | _ => none }
def OctetBackWrongFalsely : Prop := octetBackRow.holds Try.pinned (OpenSpec.ofChange octetBackWrong)

/-- 'kedgelaw02.OctetParts': WHATEVER THE INPUT: true; the input reads as it did. -/
def octetPartsSpec : ChangeSpec := { name := "octetParts", fn := fun _ => fun
  | [d1, d2] => { results := [.lit (.bool true)], args := [d1, d2] }
  | _ => none }
def octetPartsRow : OpenClaim := { program := "ytgklmjallmbdgaa", sum := "5c69f536ff21be69e0546580483acb117fe907ec2c1bc749838ee9c6e3dfb932", func := "kedge/kedgelaw02.OctetParts", spec := "octetParts", apart := false }
def OctetPartsSaid : Prop := octetPartsRow.holds Try.pinned (OpenSpec.ofChange octetPartsSpec)

/-- ITS FALSE NEIGHBOUR: 'it returns false'. Refute it at one input. -/
def octetPartsWrong : ChangeSpec := { name := "octetParts", fn := fun _ => fun
  | [d1, d2] => { results := [.lit (.bool false)], args := [d1, d2] }
  | _ => none }
def OctetPartsWrongFalsely : Prop := octetPartsRow.holds Try.pinned (OpenSpec.ofChange octetPartsWrong)

/-- 'kedgelaw09.DustEdge': WHATEVER THE INPUT: true; the input reads as it did. -/
def dustEdgeSpec : ChangeSpec := { name := "dustEdge", fn := fun _ => fun
  | [d1, d2] => { results := [.lit (.bool true)], args := [d1, d2] }
  | _ => none }
def dustEdgeRow : OpenClaim := { program := "ytgklmjallmbdgaa", sum := "5c69f536ff21be69e0546580483acb117fe907ec2c1bc749838ee9c6e3dfb932", func := "kedge/kedgelaw09.DustEdge", spec := "dustEdge", apart := false }
def DustEdgeSaid : Prop := dustEdgeRow.holds Try.pinned (OpenSpec.ofChange dustEdgeSpec)

/-- ITS FALSE NEIGHBOUR: 'it returns false'. Refute it at one input. -/
def dustEdgeWrong : ChangeSpec := { name := "dustEdge", fn := fun _ => fun
  | [d1, d2] => { results := [.lit (.bool false)], args := [d1, d2] }
  | _ => none }
def DustEdgeWrongFalsely : Prop := dustEdgeRow.holds Try.pinned (OpenSpec.ofChange dustEdgeWrong)

/-- 'kedgelaw09.DustLeast': WHATEVER THE INPUT: true; the input reads as it did. -/
def dustLeastSpec : ChangeSpec := { name := "dustLeast", fn := fun _ => fun
  | [d1, d2] => { results := [.lit (.bool true)], args := [d1, d2] }
  | _ => none }
def dustLeastRow : OpenClaim := { program := "ytgklmjallmbdgaa", sum := "5c69f536ff21be69e0546580483acb117fe907ec2c1bc749838ee9c6e3dfb932", func := "kedge/kedgelaw09.DustLeast", spec := "dustLeast", unfollowed := true, recurses := true, apart := false }
def DustLeastSaid : Prop := dustLeastRow.holds Try.pinned (OpenSpec.ofChange dustLeastSpec)

/-- ITS FALSE NEIGHBOUR: 'it returns false'. Refute it at one input. -/
def dustLeastWrong : ChangeSpec := { name := "dustLeast", fn := fun _ => fun
  | [d1, d2] => { results := [.lit (.bool false)], args := [d1, d2] }
  | _ => none }
def DustLeastWrongFalsely : Prop := dustLeastRow.holds Try.pinned (OpenSpec.ofChange dustLeastWrong)

/-- 'kedgelaw09.DustTx': WHATEVER THE INPUT: true; the input reads as it did. -/
def dustTxSpec : ChangeSpec := { name := "dustTx", fn := fun _ => fun
  | [d] => { results := [.lit (.bool true)], args := [d] }
  | _ => none }
def dustTxRow : OpenClaim := { program := "ytgklmjallmbdgaa", sum := "5c69f536ff21be69e0546580483acb117fe907ec2c1bc749838ee9c6e3dfb932", func := "kedge/kedgelaw09.DustTx", spec := "dustTx", unfollowed := true, recurses := true, apart := false }
def DustTxSaid : Prop := dustTxRow.holds Try.pinned (OpenSpec.ofChange dustTxSpec)

/-- ITS FALSE NEIGHBOUR: 'it returns false'. Refute it at one input. -/
def dustTxWrong : ChangeSpec := { name := "dustTx", fn := fun _ => fun
  | [d] => { results := [.lit (.bool false)], args := [d] }
  | _ => none }
def DustTxWrongFalsely : Prop := dustTxRow.holds Try.pinned (OpenSpec.ofChange dustTxWrong)

/-- 'kedgelaw03.VintPuts': WHATEVER THE INPUT: true; the input reads as it did. -/
def vintPutsSpec : ChangeSpec := { name := "vintPuts", fn := fun _ => fun
  | [d1, d2, d3] => { results := [.lit (.bool true)], args := [d1, d2, d3] }
  | _ => none }
def vintPutsRow : OpenClaim := { program := "ytgklmjallmbdgaa", sum := "5c69f536ff21be69e0546580483acb117fe907ec2c1bc749838ee9c6e3dfb932", func := "kedge/kedgelaw03.VintPuts", spec := "vintPuts", apart := false }
def VintPutsSaid : Prop := vintPutsRow.holds Try.pinned (OpenSpec.ofChange vintPutsSpec)

/-- ITS FALSE NEIGHBOUR: 'it returns false'. Refute it at one input. -/
def vintPutsWrong : ChangeSpec := { name := "vintPuts", fn := fun _ => fun
  | [d1, d2, d3] => { results := [.lit (.bool false)], args := [d1, d2, d3] }
  | _ => none }
def VintPutsWrongFalsely : Prop := vintPutsRow.holds Try.pinned (OpenSpec.ofChange vintPutsWrong)

/-- 'kedgelaw03.VintGets': WHATEVER THE INPUT: true; the input reads as it did. -/
def vintGetsSpec : ChangeSpec := { name := "vintGets", fn := fun _ => fun
  | [d1, d2] => { results := [.lit (.bool true)], args := [d1, d2] }
  | _ => none }
def vintGetsRow : OpenClaim := { program := "ytgklmjallmbdgaa", sum := "5c69f536ff21be69e0546580483acb117fe907ec2c1bc749838ee9c6e3dfb932", func := "kedge/kedgelaw03.VintGets", spec := "vintGets", apart := false }
def VintGetsSaid : Prop := vintGetsRow.holds Try.pinned (OpenSpec.ofChange vintGetsSpec)

/-- ITS FALSE NEIGHBOUR: 'it returns false'. Refute it at one input. -/
def vintGetsWrong : ChangeSpec := { name := "vintGets", fn := fun _ => fun
  | [d1, d2] => { results := [.lit (.bool false)], args := [d1, d2] }
  | _ => none }
def VintGetsWrongFalsely : Prop := vintGetsRow.holds Try.pinned (OpenSpec.ofChange vintGetsWrong)

/-- 'kedgelaw03.VintOne': WHATEVER THE INPUT: true; the input reads as it did. -/
def vintOneSpec : ChangeSpec := { name := "vintOne", fn := fun _ => fun
  | [d1, d2, d3] => { results := [.lit (.bool true)], args := [d1, d2, d3] }
  | _ => none }
def vintOneRow : OpenClaim := { program := "ytgklmjallmbdgaa", sum := "5c69f536ff21be69e0546580483acb117fe907ec2c1bc749838ee9c6e3dfb932", func := "kedge/kedgelaw03.VintOne", spec := "vintOne", apart := false }
def VintOneSaid : Prop := vintOneRow.holds Try.pinned (OpenSpec.ofChange vintOneSpec)

/-- ITS FALSE NEIGHBOUR: 'it returns false'. Refute it at one input. -/
def vintOneWrong : ChangeSpec := { name := "vintOne", fn := fun _ => fun
  | [d1, d2, d3] => { results := [.lit (.bool false)], args := [d1, d2, d3] }
  | _ => none }
def VintOneWrongFalsely : Prop := vintOneRow.holds Try.pinned (OpenSpec.ofChange vintOneWrong)

/-- 'kedgelaw03.VintRow': WHATEVER THE INPUT: true; the input reads as it did. -/
def vintRowSpec : ChangeSpec := { name := "vintRow", fn := fun _ => fun
  | [d] => { results := [.lit (.bool true)], args := [d] }
  | _ => none }
def vintRowRow : OpenClaim := { program := "ytgklmjallmbdgaa", sum := "5c69f536ff21be69e0546580483acb117fe907ec2c1bc749838ee9c6e3dfb932", func := "kedge/kedgelaw03.VintRow", spec := "vintRow", apart := false }
def VintRowSaid : Prop := vintRowRow.holds Try.pinned (OpenSpec.ofChange vintRowSpec)

/-- ITS FALSE NEIGHBOUR: 'it returns false'. Refute it at one input. -/
def vintRowWrong : ChangeSpec := { name := "vintRow", fn := fun _ => fun
  | [d] => { results := [.lit (.bool false)], args := [d] }
  | _ => none }
def VintRowWrongFalsely : Prop := vintRowRow.holds Try.pinned (OpenSpec.ofChange vintRowWrong)

/- THE SECOND FORM. 'bulk': how many values and letters a reading holds, each counted each time it is reached (what is shared counts as often as it is met; a slice's spare places count too). A statement '..UptoSaid' is the law's where the arguments, and the package variables that the reading takes, are together of bulk at most 1048576: NARROWER than '..Said'. Prove '..Said' where nothing that the law and all that it calls make is longer than what came in: it says more and counts as full. Else prove '..UptoSaid'. A law counts once. -/
mutual
def uptoBulk {H : Type} : DataW H → Nat
  | .lit (.string bytes) => bytes.length + 1
  | .lit _ => 1
  | .nil => 1
  | .ptr d => uptoBulk d + 1
  | .slice elems spare => uptoBulkAll elems + uptoBulkAll spare + 1
  | .agg parts => uptoBulkAll parts + 1
  | .iface _ d => uptoBulk d + 1
  | .map entries => uptoBulkEntries entries + 1
  | .held _ => 1
def uptoBulkAll {H : Type} : List (DataW H) → Nat
  | [] => 0
  | d :: r => uptoBulk d + uptoBulkAll r
def uptoBulkEntries {H : Type} : List (Lit × DataW H) → Nat
  | [] => 0
  | x :: r => uptoBulkEntry x + uptoBulkEntries r
def uptoBulkEntry {H : Type} : Lit × DataW H → Nat
  | (.string bytes, d) => bytes.length + uptoBulk d + 1
  | (_, d) => uptoBulk d + 1
 end
def uptoSmall : (H : Type) → List (DataW H) → Bool := fun _ ds => decide (uptoBulkAll ds ≤ 1048576)
def OpenSpec.upto (s : _root_.Go.ChangeSpec) : _root_.Go.OpenSpec := { _root_.Go.OpenSpec.ofChange s with cond := some uptoSmall }

/-- 'kedgelaw02.OctetPuts', WHERE WHAT IT READS IS OF BULK AT MOST 1048576: true; the input reads as it did. -/
def octetPutsUptoRow : OpenClaim := { program := "ytgklmjallmbdgaa", sum := "5c69f536ff21be69e0546580483acb117fe907ec2c1bc749838ee9c6e3dfb932", func := "kedge/kedgelaw02.OctetPuts", spec := "octetPuts", apart := false, narrowed := true }
def OctetPutsUptoSaid : Prop := octetPutsUptoRow.holds Try.pinned (OpenSpec.upto octetPutsSpec)

/-- 'kedgelaw02.OctetGets', WHERE WHAT IT READS IS OF BULK AT MOST 1048576: true; the input reads as it did. -/
def octetGetsUptoRow : OpenClaim := { program := "ytgklmjallmbdgaa", sum := "5c69f536ff21be69e0546580483acb117fe907ec2c1bc749838ee9c6e3dfb932", func := "kedge/kedgelaw02.OctetGets", spec := "octetGets", apart := false, narrowed := true }
def OctetGetsUptoSaid : Prop := octetGetsUptoRow.holds Try.pinned (OpenSpec.upto octetGetsSpec)

/-- 'kedgelaw02.OctetBack', WHERE WHAT IT READS IS OF BULK AT MOST 1048576: true; the input reads as it did. -/
def octetBackUptoRow : OpenClaim := { program := "ytgklmjallmbdgaa", sum := "5c69f536ff21be69e0546580483acb117fe907ec2c1bc749838ee9c6e3dfb932", func := "kedge/kedgelaw02.OctetBack", spec := "octetBack", apart := false, narrowed := true }
def OctetBackUptoSaid : Prop := octetBackUptoRow.holds Try.pinned (OpenSpec.upto octetBackSpec)

/-- 'kedgelaw02.OctetParts', WHERE WHAT IT READS IS OF BULK AT MOST 1048576: true; the input reads as it did. -/
def octetPartsUptoRow : OpenClaim := { program := "ytgklmjallmbdgaa", sum := "5c69f536ff21be69e0546580483acb117fe907ec2c1bc749838ee9c6e3dfb932", func := "kedge/kedgelaw02.OctetParts", spec := "octetParts", apart := false, narrowed := true }
def OctetPartsUptoSaid : Prop := octetPartsUptoRow.holds Try.pinned (OpenSpec.upto octetPartsSpec)

/-- 'kedgelaw09.DustEdge', WHERE WHAT IT READS IS OF BULK AT MOST 1048576: true; the input reads as it did. -/
def dustEdgeUptoRow : OpenClaim := { program := "ytgklmjallmbdgaa", sum := "5c69f536ff21be69e0546580483acb117fe907ec2c1bc749838ee9c6e3dfb932", func := "kedge/kedgelaw09.DustEdge", spec := "dustEdge", apart := false, narrowed := true }
def DustEdgeUptoSaid : Prop := dustEdgeUptoRow.holds Try.pinned (OpenSpec.upto dustEdgeSpec)

/-- 'kedgelaw09.DustLeast', WHERE WHAT IT READS IS OF BULK AT MOST 1048576: true; the input reads as it did. -/
def dustLeastUptoRow : OpenClaim := { program := "ytgklmjallmbdgaa", sum := "5c69f536ff21be69e0546580483acb117fe907ec2c1bc749838ee9c6e3dfb932", func := "kedge/kedgelaw09.DustLeast", spec := "dustLeast", unfollowed := true, recurses := true, apart := false, narrowed := true }
def DustLeastUptoSaid : Prop := dustLeastUptoRow.holds Try.pinned (OpenSpec.upto dustLeastSpec)

/-- 'kedgelaw09.DustTx', WHERE WHAT IT READS IS OF BULK AT MOST 1048576: true; the input reads as it did. -/
def dustTxUptoRow : OpenClaim := { program := "ytgklmjallmbdgaa", sum := "5c69f536ff21be69e0546580483acb117fe907ec2c1bc749838ee9c6e3dfb932", func := "kedge/kedgelaw09.DustTx", spec := "dustTx", unfollowed := true, recurses := true, apart := false, narrowed := true }
def DustTxUptoSaid : Prop := dustTxUptoRow.holds Try.pinned (OpenSpec.upto dustTxSpec)

/-- 'kedgelaw03.VintPuts', WHERE WHAT IT READS IS OF BULK AT MOST 1048576: true; the input reads as it did. -/
def vintPutsUptoRow : OpenClaim := { program := "ytgklmjallmbdgaa", sum := "5c69f536ff21be69e0546580483acb117fe907ec2c1bc749838ee9c6e3dfb932", func := "kedge/kedgelaw03.VintPuts", spec := "vintPuts", apart := false, narrowed := true }
def VintPutsUptoSaid : Prop := vintPutsUptoRow.holds Try.pinned (OpenSpec.upto vintPutsSpec)

/-- 'kedgelaw03.VintGets', WHERE WHAT IT READS IS OF BULK AT MOST 1048576: true; the input reads as it did. -/
def vintGetsUptoRow : OpenClaim := { program := "ytgklmjallmbdgaa", sum := "5c69f536ff21be69e0546580483acb117fe907ec2c1bc749838ee9c6e3dfb932", func := "kedge/kedgelaw03.VintGets", spec := "vintGets", apart := false, narrowed := true }
def VintGetsUptoSaid : Prop := vintGetsUptoRow.holds Try.pinned (OpenSpec.upto vintGetsSpec)

/-- 'kedgelaw03.VintOne', WHERE WHAT IT READS IS OF BULK AT MOST 1048576: true; the input reads as it did. -/
def vintOneUptoRow : OpenClaim := { program := "ytgklmjallmbdgaa", sum := "5c69f536ff21be69e0546580483acb117fe907ec2c1bc749838ee9c6e3dfb932", func := "kedge/kedgelaw03.VintOne", spec := "vintOne", apart := false, narrowed := true }
def VintOneUptoSaid : Prop := vintOneUptoRow.holds Try.pinned (OpenSpec.upto vintOneSpec)

/-- 'kedgelaw03.VintRow', WHERE WHAT IT READS IS OF BULK AT MOST 1048576: true; the input reads as it did. -/
def vintRowUptoRow : OpenClaim := { program := "ytgklmjallmbdgaa", sum := "5c69f536ff21be69e0546580483acb117fe907ec2c1bc749838ee9c6e3dfb932", func := "kedge/kedgelaw03.VintRow", spec := "vintRow", apart := false, narrowed := true }
def VintRowUptoSaid : Prop := vintRowUptoRow.holds Try.pinned (OpenSpec.upto vintRowSpec)

end Rows
end Go.Proofs.Ytgklmjallmbdgaa
