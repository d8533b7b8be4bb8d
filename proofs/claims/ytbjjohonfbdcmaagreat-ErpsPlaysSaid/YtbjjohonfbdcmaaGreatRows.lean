/-
  No cell of these rows narrows 'for every input' (looked for: loops, veiled, ifaces, maps, wideKeys, modest, calm, conditions, laid).
  DERIVED. THE GIVEN ROWS OF THIS SEAT. 3 by the template 'for every input the law returns true; each argument reads behind the call as it read before'; 0 by the template 'total and deterministic' (their statements: YtbjjohonfbdcmaaGreatTotals.lean).
  GIVEN WITH THE SEED: the statements are not yours to turn. If you find one false, say at which input.
  Laid BY PROGRAM, IN A SANDBOX (cutbox-rows.mjs): the forced cells as the released guide's own fill.sh prints them over the translation 11af23c38031983c… (all of the seat's roots in one cut). By AI agents, Wed Nov 11 2026. No macro, syntax, notation, axiom, sorry.
-/
import Derived.Test.YtbjjohonfbdcmaaGreatChecked
import GoSem.Claim
import GoSem.ClaimJoined
import GoSem.ClaimMapViews
import Derived.JoinedTies
import Derived.KernelRfl
namespace Go.Proofs.YtbjjohonfbdcmaaGreat
/- THE CELL 'sum', in the pinned program and in every row, IS THE sha256 OF THE DUMP (.gsa) THAT YtbjjohonfbdcmaaGreatProg.lean LOADS. Nothing in Lean hashes anything: it is a label: what it is worth is what the hold of that sum in a sandbox is worth. -/
noncomputable def Tryz.pinned : Pinned := { name := "ytbjjohonfbdcmaagreat", sum := "11af23c38031983cc00ac6c32cef12cfa6bcf5bf435e1f440d9ab8ecdb247973", checked := Tryz.checked }
namespace Rows
def none {H : Type} : Left H := { results := [], args := [] }

/-- 'carousellaw17.ErpsOwns': WHATEVER THE INPUT: true; the input reads as it did. -/
def erpsOwnsSpec : ChangeSpec := { name := "erpsOwns", fn := fun _ => fun
  | [d1, d2, d3] => { results := [.lit (.bool true)], args := [d1, d2, d3] }
  | _ => none }
def erpsOwnsRow : OpenClaim := { program := "ytbjjohonfbdcmaagreat", sum := "11af23c38031983cc00ac6c32cef12cfa6bcf5bf435e1f440d9ab8ecdb247973", func := "carousel/carousellaw17.ErpsOwns", spec := "erpsOwns", inPlace := ["internal/bytealg.IndexByteString", "internal/abi.NoEscape", "internal/bytealg.MakeNoZero"], recurses := true, apart := false }
def ErpsOwnsSaid : Prop := erpsOwnsRow.holds Tryz.pinned (OpenSpec.ofChange erpsOwnsSpec)

/-- ITS FALSE NEIGHBOUR: 'it returns false'. Refute it at one input. -/
def erpsOwnsWrong : ChangeSpec := { name := "erpsOwns", fn := fun _ => fun
  | [d1, d2, d3] => { results := [.lit (.bool false)], args := [d1, d2, d3] }
  | _ => none }
def ErpsOwnsWrongFalsely : Prop := erpsOwnsRow.holds Tryz.pinned (OpenSpec.ofChange erpsOwnsWrong)

/-- 'carousellaw17.ErpsGuards': WHATEVER THE INPUT: true; the input reads as it did. -/
def erpsGuardsSpec : ChangeSpec := { name := "erpsGuards", fn := fun _ => fun
  | [d1, d2, d3, d4, d5] => { results := [.lit (.bool true)], args := [d1, d2, d3, d4, d5] }
  | _ => none }
def erpsGuardsRow : OpenClaim := { program := "ytbjjohonfbdcmaagreat", sum := "11af23c38031983cc00ac6c32cef12cfa6bcf5bf435e1f440d9ab8ecdb247973", func := "carousel/carousellaw17.ErpsGuards", spec := "erpsGuards", inPlace := ["internal/bytealg.IndexByteString", "internal/abi.NoEscape", "internal/bytealg.MakeNoZero"], recurses := true, apart := false }
def ErpsGuardsSaid : Prop := erpsGuardsRow.holds Tryz.pinned (OpenSpec.ofChange erpsGuardsSpec)

/-- ITS FALSE NEIGHBOUR: 'it returns false'. Refute it at one input. -/
def erpsGuardsWrong : ChangeSpec := { name := "erpsGuards", fn := fun _ => fun
  | [d1, d2, d3, d4, d5] => { results := [.lit (.bool false)], args := [d1, d2, d3, d4, d5] }
  | _ => none }
def ErpsGuardsWrongFalsely : Prop := erpsGuardsRow.holds Tryz.pinned (OpenSpec.ofChange erpsGuardsWrong)

/-- 'carousellaw17.ErpsPlays': WHATEVER THE INPUT: true; the input reads as it did. -/
def erpsPlaysSpec : ChangeSpec := { name := "erpsPlays", fn := fun _ => fun
  | [d1, d2, d3, d4] => { results := [.lit (.bool true)], args := [d1, d2, d3, d4] }
  | _ => none }
def erpsPlaysRow : OpenClaim := { program := "ytbjjohonfbdcmaagreat", sum := "11af23c38031983cc00ac6c32cef12cfa6bcf5bf435e1f440d9ab8ecdb247973", func := "carousel/carousellaw17.ErpsPlays", spec := "erpsPlays", inPlace := ["internal/bytealg.IndexByteString", "internal/abi.NoEscape", "internal/bytealg.MakeNoZero"], recurses := true, apart := false }
def ErpsPlaysSaid : Prop := erpsPlaysRow.holds Tryz.pinned (OpenSpec.ofChange erpsPlaysSpec)

/-- ITS FALSE NEIGHBOUR: 'it returns false'. Refute it at one input. -/
def erpsPlaysWrong : ChangeSpec := { name := "erpsPlays", fn := fun _ => fun
  | [d1, d2, d3, d4] => { results := [.lit (.bool false)], args := [d1, d2, d3, d4] }
  | _ => none }
def ErpsPlaysWrongFalsely : Prop := erpsPlaysRow.holds Tryz.pinned (OpenSpec.ofChange erpsPlaysWrong)

/- THE SECOND FORM. 'bulk': how many values and letters a reading holds, each counted each time it is reached (what is shared counts as often as it is met; a slice's spare places count too). A statement '..UptoSaid' is the law's where the arguments, and the package variables that the reading takes, are together of bulk at most 1048576: NARROWER than '..Said'. Prove '..Said' where nothing that the law and all that it calls make is longer than what came in: it says more and counts as full. Else prove '..UptoSaid'. A law counts once. -/
mutual
def uptoBulk {H : Type} : DataW H → Nat
  | .lit (.string bytes) => bytes.length + 1
  | .lit _ => 1
  | .nil => 1
  | .ptr d => uptoBulk d + 1
  | .slice elems spare => uptoBulkAll elems + uptoBulkAll spare + 1
  | .agg parts => uptoBulkAll parts + 1
  | .iface _ d => uptoBulk d + 1
  | .map entries => uptoBulkEntries entries + 1
  | .held _ => 1
def uptoBulkAll {H : Type} : List (DataW H) → Nat
  | [] => 0
  | d :: r => uptoBulk d + uptoBulkAll r
def uptoBulkEntries {H : Type} : List (Lit × DataW H) → Nat
  | [] => 0
  | x :: r => uptoBulkEntry x + uptoBulkEntries r
def uptoBulkEntry {H : Type} : Lit × DataW H → Nat
  | (.string bytes, d) => bytes.length + uptoBulk d + 1
  | (_, d) => uptoBulk d + 1
 end
def uptoSmall : (H : Type) → List (DataW H) → Bool := fun _ ds => decide (uptoBulkAll ds ≤ 1048576)
def OpenSpec.upto (s : _root_.Go.ChangeSpec) : _root_.Go.OpenSpec := { _root_.Go.OpenSpec.ofChange s with cond := some uptoSmall }

/-- 'carousellaw17.ErpsOwns', WHERE WHAT IT READS IS OF BULK AT MOST 1048576: true; the input reads as it did. -/
def erpsOwnsUptoRow : OpenClaim := { program := "ytbjjohonfbdcmaagreat", sum := "11af23c38031983cc00ac6c32cef12cfa6bcf5bf435e1f440d9ab8ecdb247973", func := "carousel/carousellaw17.ErpsOwns", spec := "erpsOwns", inPlace := ["internal/bytealg.IndexByteString", "internal/abi.NoEscape", "internal/bytealg.MakeNoZero"], recurses := true, apart := false, narrowed := true }
def ErpsOwnsUptoSaid : Prop := erpsOwnsUptoRow.holds Tryz.pinned (OpenSpec.upto erpsOwnsSpec)

/-- 'carousellaw17.ErpsGuards', WHERE WHAT IT READS IS OF BULK AT MOST 1048576: true; the input reads as it did. -/
def erpsGuardsUptoRow : OpenClaim := { program := "ytbjjohonfbdcmaagreat", sum := "11af23c38031983cc00ac6c32cef12cfa6bcf5bf435e1f440d9ab8ecdb247973", func := "carousel/carousellaw17.ErpsGuards", spec := "erpsGuards", inPlace := ["internal/bytealg.IndexByteString", "internal/abi.NoEscape", "internal/bytealg.MakeNoZero"], recurses := true, apart := false, narrowed := true }
def ErpsGuardsUptoSaid : Prop := erpsGuardsUptoRow.holds Tryz.pinned (OpenSpec.upto erpsGuardsSpec)

/-- 'carousellaw17.ErpsPlays', WHERE WHAT IT READS IS OF BULK AT MOST 1048576: true; the input reads as it did. -/
def erpsPlaysUptoRow : OpenClaim := { program := "ytbjjohonfbdcmaagreat", sum := "11af23c38031983cc00ac6c32cef12cfa6bcf5bf435e1f440d9ab8ecdb247973", func := "carousel/carousellaw17.ErpsPlays", spec := "erpsPlays", inPlace := ["internal/bytealg.IndexByteString", "internal/abi.NoEscape", "internal/bytealg.MakeNoZero"], recurses := true, apart := false, narrowed := true }
def ErpsPlaysUptoSaid : Prop := erpsPlaysUptoRow.holds Tryz.pinned (OpenSpec.upto erpsPlaysSpec)

end Rows
end Go.Proofs.YtbjjohonfbdcmaaGreat
