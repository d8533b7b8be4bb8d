/- The examples of the laws, one within the other. -/
import Derived.Test.YtmcepaeialgipaaCx13B
import Derived.Test.YtmcepaeialgipaaCx13C
import Derived.Test.YtmcepaeialgipaaCx13D
namespace Go.Proofs.Chart
open Go Go.AX Go.Proofs

set_option maxRecDepth 1000000 in
theorem aw20_run : bareRun (evFn Try.prog 400 20 [] [] [.call closeA [], .call (.bool true) [], .call (.bool true) []]) =
    some ([AEq Try.prog 24 [msgA, .int .u8 7] [] closeA [], AEq Try.prog 25 [] [] (.bool true) [], AEq Try.prog 26 [] [] (.bool true) []], .bool true) := by kernel_rfl
theorem aw20 (h : AHeap) : AEq Try.prog 20 [] h (.bool true) h := evFn_bare aw20_run ⟨close_eq [], aw25 [], aw26 [], trivial⟩ rfl h

set_option maxRecDepth 1000000 in
theorem aw18_run : bareRun (evFn Try.prog 400 18 [] [] [.call (.bool true) []]) = some ([AEq Try.prog 20 [] [] (.bool true) []], .bool true) := by kernel_rfl
theorem aw18 (h : AHeap) : AEq Try.prog 18 [] h (.bool true) h := evFn_bare aw18_run ⟨aw20 [], trivial⟩ rfl h

set_option maxRecDepth 1000000 in
theorem aw8_run : bareRun (evFn Try.prog 400 8 [] [] [.call (lookV [1, 9] 1 0) (lookH [1, 9]), .call (.bool true) (lookH [1, 9])]) =
    some ([AEq Try.prog 6 [.int .i64 0, .int .i64 3, .bool false] [] (lookV [1, 9] 1 0) (lookH [1, 9]), AEq Try.prog 18 [] (lookH [1, 9]) (.bool true) (lookH [1, 9])], .bool true) := by kernel_rfl
theorem aw8 (h : AHeap) : AEq Try.prog 8 [] h (.bool true) h := evFn_bare aw8_run ⟨look_0_3_0 [], aw18 _, trivial⟩ rfl h

end Go.Proofs.Chart
