/- The chart, as it is built. -/
import Derived.Test.YtmcepaeialgipaaCxAX20
import Derived.Test.YtmcepaeialgipaaProg
import Derived.KernelRfl
namespace Go.Proofs.Chart
open Go Go.AX Go.Proofs

def hb : AHeap := [.cells [.slice none 0 0, .int .i64 0, .slice none 0 0, .int .i64 0, .slice (some ⟨8, 0, none⟩) 2 2, .int .i64 3, .slice (some ⟨8, 0, none⟩) 2 2, .int .i64 3, .slice (some ⟨9, 0, none⟩) 3 3, .int .i64 3, .slice (some ⟨9, 0, none⟩) 3 3, .int .i64 3, .slice (some ⟨10, 0, none⟩) 2 2, .int .i64 1, .slice (some ⟨10, 0, none⟩) 2 2, .int .i64 1, .slice none 0 0, .int .i64 0, .slice none 0 0, .int .i64 0, .slice (some ⟨13, 0, none⟩) 3 3, .int .i64 1, .slice (some ⟨13, 0, none⟩) 3 3, .int .i64 1, .slice (some ⟨14, 0, none⟩) 3 3, .int .i64 2, .slice (some ⟨14, 0, none⟩) 3 3, .int .i64 2, .slice (some ⟨19, 0, none⟩) 2 2, .int .i64 2, .slice (some ⟨19, 0, none⟩) 2 2, .int .i64 2, .slice none 0 0, .int .i64 0, .slice none 0 0, .int .i64 0, .slice none 0 0, .int .i64 0, .slice none 0 0, .int .i64 0, .slice none 0 0, .int .i64 0, .slice none 0 0, .int .i64 0, .slice none 0 0, .int .i64 0, .slice none 0 0, .int .i64 0, .slice (some ⟨28, 0, none⟩) 1 1, .int .i64 0, .slice none 0 0, .int .i64 0, .slice (some ⟨30, 0, none⟩) 1 1, .int .i64 0, .slice (some ⟨30, 0, none⟩) 1 1, .int .i64 0, .slice none 0 0, .int .i64 1, .slice none 0 0, .int .i64 1, .slice (some ⟨8, 0, none⟩) 2 2, .int .i64 3, .slice (some ⟨8, 0, none⟩) 2 2, .int .i64 3, .slice (some ⟨9, 0, none⟩) 3 3, .int .i64 3, .slice (some ⟨9, 0, none⟩) 3 3, .int .i64 3, .slice (some ⟨10, 0, none⟩) 2 2, .int .i64 1, .slice (some ⟨10, 0, none⟩) 2 2, .int .i64 1, .slice (some ⟨12, 0, none⟩) 3 3, .int .i64 4, .slice (some ⟨12, 0, none⟩) 3 3, .int .i64 4, .slice (some ⟨13, 0, none⟩) 3 3, .int .i64 1, .slice (some ⟨13, 0, none⟩) 3 3, .int .i64 1, .slice none 0 0, .int .i64 1, .slice none 0 0, .int .i64 1, .slice none 0 0, .int .i64 1, .slice none 0 0, .int .i64 1, .slice none 0 0, .int .i64 1, .slice none 0 0, .int .i64 1, .slice none 0 0, .int .i64 1, .slice none 0 0, .int .i64 1, .slice none 0 0, .int .i64 1, .slice none 0 0, .int .i64 1, .slice none 0 0, .int .i64 1, .slice none 0 0, .int .i64 1, .slice (some ⟨28, 0, none⟩) 1 1, .int .i64 0, .slice none 0 0, .int .i64 1, .slice (some ⟨34, 0, none⟩) 1 1, .int .i64 4, .slice (some ⟨34, 0, none⟩) 1 1, .int .i64 4, .slice none 0 0, .int .i64 2, .slice (some ⟨20, 0, none⟩) 3 3, .int .i64 4, .slice (some ⟨8, 0, none⟩) 2 2, .int .i64 3, .slice (some ⟨8, 0, none⟩) 2 2, .int .i64 3, .slice (some ⟨9, 0, none⟩) 3 3, .int .i64 3, .slice (some ⟨9, 0, none⟩) 3 3, .int .i64 3, .slice (some ⟨10, 0, none⟩) 2 2, .int .i64 1, .slice (some ⟨10, 0, none⟩) 2 2, .int .i64 1, .slice none 0 0, .int .i64 2, .slice none 0 0, .int .i64 2, .slice (some ⟨13, 0, none⟩) 3 3, .int .i64 1, .slice (some ⟨13, 0, none⟩) 3 3, .int .i64 1, .slice (some ⟨18, 0, none⟩) 2 2, .int .i64 2, .slice (some ⟨16, 0, none⟩) 3 3, .int .i64 4, .slice none 0 0, .int .i64 2, .slice none 0 0, .int .i64 2, .slice none 0 0, .int .i64 2, .slice none 0 0, .int .i64 2, .slice none 0 0, .int .i64 2, .slice none 0 0, .int .i64 2, .slice none 0 0, .int .i64 2, .slice none 0 0, .int .i64 2, .slice none 0 0, .int .i64 2, .slice none 0 0, .int .i64 2, .slice (some ⟨28, 0, none⟩) 1 1, .int .i64 0, .slice none 0 0, .int .i64 2, .slice (some ⟨35, 0, none⟩) 1 1, .int .i64 4, .slice none 0 0, .int .i64 2, .slice none 0 0, .int .i64 3, .slice (some ⟨20, 0, none⟩) 3 3, .int .i64 4, .slice (some ⟨8, 0, none⟩) 2 2, .int .i64 3, .slice (some ⟨8, 0, none⟩) 2 2, .int .i64 3, .slice none 0 0, .int .i64 3, .slice none 0 0, .int .i64 3, .slice none 0 0, .int .i64 3, .slice none 0 0, .int .i64 3, .slice none 0 0, .int .i64 3, .slice none 0 0, .int .i64 3, .slice none 0 0, .int .i64 3, .slice none 0 0, .int .i64 3, .slice none 0 0, .int .i64 3, .slice none 0 0, .int .i64 3, .slice none 0 0, .int .i64 3, .slice none 0 0, .int .i64 3, .slice none 0 0, .int .i64 3, .slice none 0 0, .int .i64 3, .slice none 0 0, .int .i64 3, .slice none 0 0, .int .i64 3, .slice none 0 0, .int .i64 3, .slice none 0 0, .int .i64 3, .slice none 0 0, .int .i64 3, .slice none 0 0, .int .i64 3, .slice (some ⟨28, 0, none⟩) 1 1, .int .i64 0, .slice none 0 0, .int .i64 3, .slice (some ⟨35, 0, none⟩) 1 1, .int .i64 4, .slice none 0 0, .int .i64 3, .slice (some ⟨23, 0, none⟩) 2 2, .int .i64 0, .slice (some ⟨23, 0, none⟩) 2 2, .int .i64 0, .slice (some ⟨8, 0, none⟩) 2 2, .int .i64 3, .slice (some ⟨8, 0, none⟩) 2 2, .int .i64 3, .slice (some ⟨9, 0, none⟩) 3 3, .int .i64 3, .slice (some ⟨9, 0, none⟩) 3 3, .int .i64 3, .slice (some ⟨10, 0, none⟩) 2 2, .int .i64 1, .slice (some ⟨10, 0, none⟩) 2 2, .int .i64 1, .slice none 0 0, .int .i64 4, .slice none 0 0, .int .i64 4, .slice (some ⟨13, 0, none⟩) 3 3, .int .i64 1, .slice (some ⟨13, 0, none⟩) 3 3, .int .i64 1, .slice (some ⟨14, 0, none⟩) 3 3, .int .i64 2, .slice (some ⟨14, 0, none⟩) 3 3, .int .i64 2, .slice (some ⟨19, 0, none⟩) 2 2, .int .i64 2, .slice (some ⟨19, 0, none⟩) 2 2, .int .i64 2, .slice (some ⟨25, 0, none⟩) 2 2, .int .i64 0, .slice (some ⟨25, 0, none⟩) 2 2, .int .i64 0, .slice none 0 0, .int .i64 4, .slice none 0 0, .int .i64 4, .slice (some ⟨27, 0, none⟩) 2 2, .int .i64 0, .slice (some ⟨27, 0, none⟩) 2 2, .int .i64 0, .slice none 0 0, .int .i64 4, .slice none 0 0, .int .i64 4, .slice (some ⟨28, 0, none⟩) 1 1, .int .i64 0, .slice none 0 0, .int .i64 4, .slice (some ⟨32, 0, none⟩) 1 1, .int .i64 4, .slice (some ⟨32, 0, none⟩) 1 1, .int .i64 4] 48 280,
  .cells [.int .i64 0, .int .i64 1, .int .i64 2, .int .i64 3, .int .i64 4] 22 1,
  .cells [.int .i64 0, .int .i64 1, .int .i64 2, .int .i64 4] 22 1,
  .cells [.int .i64 0, .int .i64 4] 22 1,
  .cells [.int .i64 2, .int .i64 3] 22 1,
  .cells [.int .i64 0, .int .i64 1] 3 1,
  .cells [.int .i64 1] 3 1,
  .cells [.int .i64 0] 3 1,
  .cells [.int .i64 0, .int .i64 9] 27 1,
  .cells [.int .i64 13, .int .i64 4, .int .i64 9] 27 1,
  .cells [.int .i64 1, .int .i64 9] 27 1,
  .cells [.int .i64 1] 22 1,
  .cells [.int .i64 5, .int .i64 6, .int .i64 7] 27 1,
  .cells [.int .i64 3, .int .i64 4, .int .i64 9] 27 1,
  .cells [.int .i64 3, .int .i64 4, .int .i64 9] 27 1,
  .cells [.int .i64 2] 22 1,
  .cells [.int .i64 5, .int .i64 6, .int .i64 8] 27 1,
  .cells [.int .i64 2] 22 1,
  .cells [.int .i64 3, .int .i64 4] 27 1,
  .cells [.int .i64 2, .int .i64 9] 27 1,
  .cells [.int .i64 5, .int .i64 6, .int .i64 8] 27 1,
  .cells [.int .i64 0, .int .i64 8, .int .i64 10] 23 1,
  .cells [.int .i64 4] 22 1,
  .cells [.int .i64 10, .int .i64 9] 27 1,
  .cells [.int .i64 4] 22 1,
  .cells [.int .i64 10, .int .i64 9] 27 1,
  .cells [.int .i64 4] 22 1,
  .cells [.int .i64 10, .int .i64 9] 27 1,
  .cells [.int .i64 11] 27 1,
  .cells [.int .i64 0] 22 1,
  .cells [.int .i64 12] 27 1,
  .cells [.int .i64 4] 22 1,
  .cells [.int .i64 12] 27 1,
  .cells [.int .i64 1] 22 1,
  .cells [.int .i64 7] 27 1,
  .cells [.int .i64 8] 27 1]
def vb : Value := .pointer (some ⟨0, 0, none⟩)

set_option maxRecDepth 1000000 in
theorem build_run : evFn Try.prog 400 16 [] [] [] = some ([], vb, hb, []) := by kernel_rfl
theorem build_eq : AEq Try.prog 16 [] [] vb hb := evFn_sound build_run trivial

end Go.Proofs.Chart
