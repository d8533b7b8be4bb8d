/- A frame is closed: one example. -/
import Derived.Test.YtmcepaeialgipaaCxAX21
import Derived.Test.YtmcepaeialgipaaProg
import Derived.KernelRfl
namespace Go.Proofs.Chart
open Go Go.AX Go.Proofs

def msgA : Value := .agg ⟨[.int .u8 0, .bool true, .bool false, .bool false, .int .u64 2]⟩
def closeA : Value := .tuple ⟨[.string ⟨#[225, 40, 0, 32, 0, 128, 0, 0, 0, 0, 0, 2, 0, 0, 0, 0, 0, 0, 0, 0, 0, 0, 0, 0, 0, 0, 0, 0, 0, 0, 0, 0, 0, 0, 0, 0, 0]⟩, .int .i64 0]⟩

set_option maxRecDepth 1000000 in
theorem close_run : bareRun (evFn Try.prog 400 24 [msgA, .int .u8 7] [] []) = some ([], closeA) := by kernel_rfl
theorem close_eq (h : AHeap) : AEq Try.prog 24 [msgA, .int .u8 7] h closeA h := evFn_bare close_run trivial rfl h

end Go.Proofs.Chart
