/-
  No cell of these rows narrows 'for every input' (looked for: loops, veiled, ifaces, maps, wideKeys, modest, calm, conditions, laid).
  DERIVED. THE GIVEN ROWS OF THIS SEAT. 3 by the template 'for every input the law returns true; each argument reads behind the call as it read before'; 0 by the template 'total and deterministic' (their statements: YtmcepaeialgipaaTotals.lean).
  GIVEN WITH THE SEED: the statements are not yours to turn. If you find one false, say at which input.
  Laid BY PROGRAM, IN A SANDBOX (cutbox-rows.mjs): the forced cells as the released guide's own fill.sh prints them over the translation b68e084e68368120… (all of the seat's roots in one cut). By AI agents, Wed Nov 11 2026. No macro, syntax, notation, axiom, sorry.
-/
import Derived.Test.YtmcepaeialgipaaChecked
import GoSem.Claim
import GoSem.ClaimJoined
import GoSem.ClaimMapViews
import Derived.JoinedTies
import Derived.KernelRfl
namespace Go.Proofs.Ytmcepaeialgipaa
/- THE CELL 'sum', in the pinned program and in every row, IS THE sha256 OF THE DUMP (.gsa) THAT YtmcepaeialgipaaProg.lean LOADS. Nothing in Lean hashes anything: it is a label: what it is worth is what the hold of that sum in a sandbox is worth. -/
noncomputable def Try.pinned : Pinned := { name := "ytmcepaeialgipaa", sum := "b68e084e6836812067ad9a9a509d9c455c6fc5a56b10f940acdc9347b59cc246", checked := Try.checked }
namespace Rows
def none {H : Type} : Left H := { results := [], args := [] }

/-- 'carousellaw13.ChartStays': WHATEVER THE INPUT: true; the input reads as it did. -/
def chartStaysSpec : ChangeSpec := { name := "chartStays", fn := fun _ => fun
  | [d1, d2, d3] => { results := [.lit (.bool true)], args := [d1, d2, d3] }
  | _ => none }
def chartStaysRow : OpenClaim := { program := "ytmcepaeialgipaa", sum := "b68e084e6836812067ad9a9a509d9c455c6fc5a56b10f940acdc9347b59cc246", func := "carousel/carousellaw13.ChartStays", spec := "chartStays", inPlace := ["internal/bytealg.IndexByteString"], apart := false }
def ChartStaysSaid : Prop := chartStaysRow.holds Try.pinned (OpenSpec.ofChange chartStaysSpec)

/-- ITS FALSE NEIGHBOUR: 'it returns false'. Refute it at one input. -/
def chartStaysWrong : ChangeSpec := { name := "chartStays", fn := fun _ => fun
  | [d1, d2, d3] => { results := [.lit (.bool false)], args := [d1, d2, d3] }
  | _ => none }
def ChartStaysWrongFalsely : Prop := chartStaysRow.holds Try.pinned (OpenSpec.ofChange chartStaysWrong)

/-- 'carousellaw13.ChartTurns': WHATEVER THE INPUT: true; the input reads as it did. -/
def chartTurnsSpec : ChangeSpec := { name := "chartTurns", fn := fun _ => fun
  | [d1, d2, d3] => { results := [.lit (.bool true)], args := [d1, d2, d3] }
  | _ => none }
def chartTurnsRow : OpenClaim := { program := "ytmcepaeialgipaa", sum := "b68e084e6836812067ad9a9a509d9c455c6fc5a56b10f940acdc9347b59cc246", func := "carousel/carousellaw13.ChartTurns", spec := "chartTurns", inPlace := ["internal/bytealg.IndexByteString"], apart := false }
def ChartTurnsSaid : Prop := chartTurnsRow.holds Try.pinned (OpenSpec.ofChange chartTurnsSpec)

/-- ITS FALSE NEIGHBOUR: 'it returns false'. Refute it at one input. -/
def chartTurnsWrong : ChangeSpec := { name := "chartTurns", fn := fun _ => fun
  | [d1, d2, d3] => { results := [.lit (.bool false)], args := [d1, d2, d3] }
  | _ => none }
def ChartTurnsWrongFalsely : Prop := chartTurnsRow.holds Try.pinned (OpenSpec.ofChange chartTurnsWrong)

/-- 'carousellaw13.ChartLooks': WHATEVER THE INPUT: true; the input reads as it did. -/
def chartLooksSpec : ChangeSpec := { name := "chartLooks", fn := fun _ => fun
  | [d1, d2, d3, d4] => { results := [.lit (.bool true)], args := [d1, d2, d3, d4] }
  | _ => none }
def chartLooksRow : OpenClaim := { program := "ytmcepaeialgipaa", sum := "b68e084e6836812067ad9a9a509d9c455c6fc5a56b10f940acdc9347b59cc246", func := "carousel/carousellaw13.ChartLooks", spec := "chartLooks", inPlace := ["internal/bytealg.IndexByteString"], apart := false }
def ChartLooksSaid : Prop := chartLooksRow.holds Try.pinned (OpenSpec.ofChange chartLooksSpec)

/-- ITS FALSE NEIGHBOUR: 'it returns false'. Refute it at one input. -/
def chartLooksWrong : ChangeSpec := { name := "chartLooks", fn := fun _ => fun
  | [d1, d2, d3, d4] => { results := [.lit (.bool false)], args := [d1, d2, d3, d4] }
  | _ => none }
def ChartLooksWrongFalsely : Prop := chartLooksRow.holds Try.pinned (OpenSpec.ofChange chartLooksWrong)

/- THE SECOND FORM. 'bulk': how many values and letters a reading holds, each counted each time it is reached (what is shared counts as often as it is met; a slice's spare places count too). A statement '..UptoSaid' is the law's where the arguments, and the package variables that the reading takes, are together of bulk at most 1048576: NARROWER than '..Said'. Prove '..Said' where nothing that the law and all that it calls make is longer than what came in: it says more and counts as full. Else prove '..UptoSaid'. A law counts once. -/
mutual
def uptoBulk {H : Type} : DataW H → Nat
  | .lit (.string bytes) => bytes.length + 1
  | .lit _ => 1
  | .nil => 1
  | .ptr d => uptoBulk d + 1
  | .slice elems spare => uptoBulkAll elems + uptoBulkAll spare + 1
  | .agg parts => uptoBulkAll parts + 1
  | .iface _ d => uptoBulk d + 1
  | .map entries => uptoBulkEntries entries + 1
  | .held _ => 1
def uptoBulkAll {H : Type} : List (DataW H) → Nat
  | [] => 0
  | d :: r => uptoBulk d + uptoBulkAll r
def uptoBulkEntries {H : Type} : List (Lit × DataW H) → Nat
  | [] => 0
  | x :: r => uptoBulkEntry x + uptoBulkEntries r
def uptoBulkEntry {H : Type} : Lit × DataW H → Nat
  | (.string bytes, d) => bytes.length + uptoBulk d + 1
  | (_, d) => uptoBulk d + 1
 end
def uptoSmall : (H : Type) → List (DataW H) → Bool := fun _ ds => decide (uptoBulkAll ds ≤ 1048576)
def OpenSpec.upto (s : _root_.Go.ChangeSpec) : _root_.Go.OpenSpec := { _root_.Go.OpenSpec.ofChange s with cond := some uptoSmall }

/-- 'carousellaw13.ChartStays', WHERE WHAT IT READS IS OF BULK AT MOST 1048576: true; the input reads as it did. -/
def chartStaysUptoRow : OpenClaim := { program := "ytmcepaeialgipaa", sum := "b68e084e6836812067ad9a9a509d9c455c6fc5a56b10f940acdc9347b59cc246", func := "carousel/carousellaw13.ChartStays", spec := "chartStays", inPlace := ["internal/bytealg.IndexByteString"], apart := false, narrowed := true }
def ChartStaysUptoSaid : Prop := chartStaysUptoRow.holds Try.pinned (OpenSpec.upto chartStaysSpec)

/-- 'carousellaw13.ChartTurns', WHERE WHAT IT READS IS OF BULK AT MOST 1048576: true; the input reads as it did. -/
def chartTurnsUptoRow : OpenClaim := { program := "ytmcepaeialgipaa", sum := "b68e084e6836812067ad9a9a509d9c455c6fc5a56b10f940acdc9347b59cc246", func := "carousel/carousellaw13.ChartTurns", spec := "chartTurns", inPlace := ["internal/bytealg.IndexByteString"], apart := false, narrowed := true }
def ChartTurnsUptoSaid : Prop := chartTurnsUptoRow.holds Try.pinned (OpenSpec.upto chartTurnsSpec)

/-- 'carousellaw13.ChartLooks', WHERE WHAT IT READS IS OF BULK AT MOST 1048576: true; the input reads as it did. -/
def chartLooksUptoRow : OpenClaim := { program := "ytmcepaeialgipaa", sum := "b68e084e6836812067ad9a9a509d9c455c6fc5a56b10f940acdc9347b59cc246", func := "carousel/carousellaw13.ChartLooks", spec := "chartLooks", inPlace := ["internal/bytealg.IndexByteString"], apart := false, narrowed := true }
def ChartLooksUptoSaid : Prop := chartLooksUptoRow.holds Try.pinned (OpenSpec.upto chartLooksSpec)

end Rows
end Go.Proofs.Ytmcepaeialgipaa
