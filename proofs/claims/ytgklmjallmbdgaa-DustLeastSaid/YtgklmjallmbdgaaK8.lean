/- The walks of the laws DustTx and DustLeast, in the form in which the laws' frames use them. Conditions: the transaction lies in memory as its parts say. -/
import Derived.Test.YtgklmjallmbdgaaK6
import Derived.Test.YtgklmjallmbdgaaK7
namespace Go.Proofs.Ytgklmjallmbdgaa
open Go.RowKit

theorem walkDustTx (x y : Int) (IA OA : Option Addr) (IL IC OL OC : Nat) (outs : List (Int × ByteArray)) (w : World) (hI : SlI w w.heap.size IA IL) (hl : outs.length = OL) (hO : SlO w w.heap.size OA outs) (hos : ∀ p ∈ outs, p.2.size ≤ 9223372036854775807) :
    Calls Try.prog 9 #[.agg #[.int .u32 x, .slice IA IL IC, .slice OA OL OC, .int .u32 y]] w fun e w' => e = .returned (.bool true) ∧ Below w.heap.size w w' :=
  law9 x y IA OA IL IC OL OC w hI outs hl hO hos
theorem walkDustLeast (x y : Int) (IA OA : Option Addr) (IL IC OL OC : Nat) (outs : List (Int × ByteArray)) (v : Int) (w : World) (hI : SlI w w.heap.size IA IL) (hl : outs.length = OL) (hO : SlO w w.heap.size OA outs) (hos : ∀ p ∈ outs, p.2.size ≤ 9223372036854775807) (_ : (Lit.int .i64 v).wf = true) :
    Calls Try.prog 8 #[.agg #[.int .u32 x, .slice IA IL IC, .slice OA OL OC, .int .u32 y], .int .i64 v] w fun e w' => e = .returned (.bool true) ∧ Below w.heap.size w w' :=
  law8 x y IA OA IL IC OL OC v w hI outs hl hO hos
end Go.Proofs.Ytgklmjallmbdgaa
