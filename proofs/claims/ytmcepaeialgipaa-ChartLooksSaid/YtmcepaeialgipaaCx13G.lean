/- From runs on abstract values to the given rows. -/
import Derived.Test.YtmcepaeialgipaaCx13F
import Derived.Test.YtmcepaeialgipaaRows
import Derived.WalkKit
import Derived.ProofKit
import Derived.OpenShut
namespace Go.Proofs.Chart
open Go Go.AX Go.Proofs Go.ChangeShapes Go.WideShapes Go.ChangeAt Go.RowKit

theorem grown_of {E E' : Go.AX.Env} {h' : AHeap} {w w' : World} (ev : Evol 0 E [] w E' h' w') : Grown w w' := by
  have hno : ∀ b, ¬ Owned E [] b := by rintro b ⟨i, o, hi, _⟩; simp at hi
  refine ⟨⟨ev.os, ev.output, fun i hi => ?_⟩, ev.tape.frozen, ev.size⟩
  have h1 := (World.keptBut_refl w (fun _ => False)).2.2 i hi
  rw [ev.frame i hi (hno i)]
  exact h1

theorem calls_of {P : Program} {k : FuncId} {args : List Value} {h' : AHeap} {b : Bool} (t : AEq P k args [] (.bool b) h') (hr : ∀ E, RepL E args args) (w : World) :
    Calls P k ⟨args⟩ w fun e w' => e = .returned (.bool b) ∧ Grown w w' := by
  have g0 : Go.AX.Good (⟨0, id, id, id, id⟩ : Go.AX.Env) [] w := ⟨rfl, fun i o hi => by simp at hi, fun i j o u hi => by simp at hi⟩
  refine (t _ w args g0 (hr _)).mono ?_
  rintro e w' ⟨v0, v', h0, F, rfl, gF, ev, rv, rfl, rfl⟩
  cases rv
  exact ⟨rfl, grown_of ev⟩

theorem own : ownKnob Try.prog.godebug = none := by kernel_rfl

end Go.Proofs.Chart
