/-
  The document's examples, reckoned by Lean. No condition.
-/
import Derived.Test.YtglkahonejblpaaWrite
namespace Go.Proofs.Ytglkahonejblpaa
open Go.RowKit

set_option maxRecDepth 1000000 in
theorem gear97 : gearI 97 = 17189161910051005891 := by decide +kernel
set_option maxRecDepth 1000000 in
theorem cuts_fixed : cutsL 64 256 4 (List.replicate 1000 0) = [256, 512, 768, 1000] := by decide +kernel
def s63 : Int := (wrL 64 64 0 0 0 [] (List.replicate 63 0)).2.1
set_option maxRecDepth 1000000 in
theorem wr63 : wrL 64 64 0 0 0 [] (List.replicate 63 0) = ([], s63, 63, List.replicate 63 0) := by decide +kernel
def s65 : Int := (wrL 64 64 0 s63 63 (List.replicate 63 0) [1, 2]).2.1
set_option maxRecDepth 1000000 in
theorem wr65 : wrL 64 64 0 s63 63 (List.replicate 63 0) [1, 2] = ([List.replicate 63 0 ++ [1]], s65, 1, [2]) := by decide +kernel
end Go.Proofs.Ytglkahonejblpaa
