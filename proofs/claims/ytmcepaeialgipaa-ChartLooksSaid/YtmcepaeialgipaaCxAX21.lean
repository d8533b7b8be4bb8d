/- Runs whose leavings are forgotten. -/
import Derived.Test.YtmcepaeialgipaaCxAX20
namespace Go.AX

noncomputable def bareRun (r : FRes) : Option (List Prop × Value) :=
  match r with
  | some (ob, v, _, _) =>
    match bare v with
    | true => some (ob, v)
    | false => none
  | none => none

noncomputable def trimRun (keep : List Nat) (r : FRes) : Option (List Prop × Value × AHeap) :=
  match r with
  | some (ob, v, h, _) =>
    match oneEach keep && (okIds (hasIt keep) v && keep.all fun i => decide (i < h.length) && okObj (hasIt keep) (h.getD i .gone)) with
    | true => some (ob, rnV (posOf keep) v, keptObjs keep h)
    | false => none
  | none => none

theorem evFn_bare {P : Program} {n : Nat} {k : FuncId} {args : List Value} {scr : Script} {ob : List Prop} {v : Value} (he : bareRun (evFn P n k args [] scr) = some (ob, v)) (ho : AllP ob) (ha : args.all bare = true) (h : AHeap) : AEq P k args h v h := by
  unfold bareRun at he
  split at he
  · rename_i ob1 v1 h1 s1 hr
    split at he
    · rename_i hb
      simp only [Option.some.injEq, Prod.mk.injEq] at he
      obtain ⟨rfl, rfl⟩ := he
      exact (evFn_sound hr ho).bare ha hb h
    · simp at he
  · simp at he

theorem evFn_new {P : Program} {n : Nat} {k : FuncId} {args : List Value} {scr : Script} {ob : List Prop} {v : Value} {h' : AHeap} (keep : List Nat) (he : trimRun keep (evFn P n k args [] scr) = some (ob, v, h')) (ho : AllP ob) (ha : args.all bare = true)
    (hc : (okIds (fun i => decide (i < h'.length)) v && h'.all fun o => notRo o && okObj (fun i => decide (i < h'.length)) o) = true) (h : AHeap) :
    AEq P k args h (rnV (up h.length) v) (h ++ h'.map (rnO (up h.length))) := by
  unfold trimRun at he
  split at he
  · rename_i ob1 v1 h1 s1 hr
    split at he
    · rename_i hb
      simp only [Option.some.injEq, Prod.mk.injEq] at he
      obtain ⟨rfl, rfl, rfl⟩ := he
      rw [Bool.and_eq_true, Bool.and_eq_true] at hb
      rw [Bool.and_eq_true] at hc
      exact ((evFn_sound hr ho).trim keep hb.1 hb.2.1 hb.2.2).frame ha hc.1 hc.2 h
    · simp at he
  · simp at he

end Go.AX
