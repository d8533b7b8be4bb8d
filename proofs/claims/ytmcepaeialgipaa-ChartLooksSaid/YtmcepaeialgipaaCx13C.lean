/- Two of the examples that stand below. -/
import Derived.Test.YtmcepaeialgipaaCxAX21
import Derived.Test.YtmcepaeialgipaaProg
import Derived.KernelRfl
namespace Go.Proofs.Chart
open Go Go.AX Go.Proofs

set_option maxRecDepth 1000000 in
theorem aw25_run : bareRun (evFn Try.prog 400 25 [] [] []) = some ([], .bool true) := by kernel_rfl
theorem aw25 (h : AHeap) : AEq Try.prog 25 [] h (.bool true) h := evFn_bare aw25_run trivial rfl h

set_option maxRecDepth 1000000 in
theorem aw26_run : bareRun (evFn Try.prog 400 26 [] [] []) = some ([], .bool true) := by kernel_rfl
theorem aw26 (h : AHeap) : AEq Try.prog 26 [] h (.bool true) h := evFn_bare aw26_run trivial rfl h

end Go.Proofs.Chart
