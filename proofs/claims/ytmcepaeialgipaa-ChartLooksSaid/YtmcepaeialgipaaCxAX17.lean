/- The evaluator on code and on functions, and its word. -/
import Derived.Test.YtmcepaeialgipaaCxAX16
namespace Go.AX

/-- One piece of code. -/
noncomputable def evStep (P : Program) (n : Nat) (ev : Nat → Code → Tm → AHeap → Script → Res) (m : Nat) (c : Code) (ts : Tm) (h : AHeap) (scr : Script) : Res :=
  match c with
  | .rangeFunc f ps as b =>
    match scr with
    | .code ex ts' h' :: s => some ([AComes P m (.rangeFunc f ps as b) ts h ex ts' h'], ex, ts', h', s)
    | _ => none
  | .loop c =>
    match scr with
    | .code ex ts' h' :: s => some ([AComes P m (.loop c) ts h ex ts' h'], ex, ts', h', s)
    | _ => evLoop (ev m c) n ts h scr
  | .skip => some ([], .normal, ts, h, scr)
  | .ret => some ([], .ret, ts, h, scr)
  | .exit id => some ([], .exit id, ts, h, scr)
  | .seq x y =>
    match ev m x ts h scr with
    | some (ob, .normal, ts1, h1, scr1) => addObsR ob (ev m y ts1 h1 scr1)
    | r => r
  | .block id c =>
    match ev m c ts h scr with
    | some (ob, .exit i, r) => if i = id then some (ob, .normal, r) else some (ob, .exit i, r)
    | r => r
  | .cond c x y =>
    match opd ts c with
    | some (.bool b) =>
      match evCond scr b with
      | some (ob, true, s) => addObsR ob (ev m x ts h s)
      | some (ob, false, s) => addObsR ob (ev m y ts h s)
      | none => none
    | _ => none
  | .region _ ops false =>
    match evOps P ev ops ops.toList ts h scr with
    | some (ob, ts', h', s) => some (ob, .normal, ts', h', s)
    | none => none
  | .region _ ops true =>
    match evDraw P ev ops ts h scr with
    | some (ob, ts', h', s) => some (ob, .normal, ts', h', s)
    | none => none
  | _ => none

noncomputable def evCode (P : Program) (n : Nat) : Nat → Code → Tm → AHeap → Script → Res :=
  Nat.rec (fun _ _ _ _ _ => none) (fun k ih => evStep P k ih) n

noncomputable def evFn (P : Program) (n : Nat) (k : FuncId) (args : List Value) (h : AHeap) (scr : Script) : FRes :=
  if enterable P k then evFnWith P (evCode P n) k args h scr else none


section
variable {P : Program}

theorem evCode_ok (n : Nat) : EvOk P (evCode P n) := by
  induction n with
  | zero => intro m c ts h scr ob ex ts' h' scr' he; exact absurd he (by simp [evCode])
  | succ n ih =>
    intro m c ts h scr ob ex ts' h' scr' he ho
    have he' : evStep P n (evCode P n) m c ts h scr = some (ob, ex, ts', h', scr') := he
    unfold evStep at he'
    split at he'
    · split at he'
      · simp only [Option.some.injEq, Prod.mk.injEq] at he'
        obtain ⟨rfl, rfl, rfl, rfl, _⟩ := he'
        exact ho.1
      · simp at he'
    · split at he'
      · simp only [Option.some.injEq, Prod.mk.injEq] at he'
        obtain ⟨rfl, rfl, rfl, rfl, _⟩ := he'
        exact ho.1
      · exact evLoop_sound (fun ts h scr ob ex ts' h' scr' => ih m _ ts h scr ob ex ts' h' scr') n _ _ _ _ _ _ _ _ he' ho
    · simp only [Option.some.injEq, Prod.mk.injEq] at he'
      obtain ⟨rfl, rfl, rfl, rfl, _⟩ := he'
      exact ATrip.skip ⟨rfl, rfl, rfl⟩
    · simp only [Option.some.injEq, Prod.mk.injEq] at he'
      obtain ⟨rfl, rfl, rfl, rfl, _⟩ := he'
      exact ATrip.ret ⟨rfl, rfl, rfl⟩
    · simp only [Option.some.injEq, Prod.mk.injEq] at he'
      obtain ⟨rfl, rfl, rfl, rfl, _⟩ := he'
      exact ATrip.exit ⟨rfl, rfl, rfl⟩
    · rename_i x y
      refine ATrip.seq ?_
      split at he'
      · rename_i ob0 ts1 h1 scr1 hx
        obtain ⟨ob2, h2, rfl⟩ := addObsR_some he'
        obtain ⟨o1, o2⟩ := ho.append
        refine (ih _ _ _ _ _ _ _ _ _ _ hx o1).mono ?_
        rintro e t q ⟨rfl, rfl, rfl⟩
        exact ih _ _ _ _ _ _ _ _ _ _ h2 o2
      · rename_i hne
        refine (ih _ _ _ _ _ _ _ _ _ _ he' ho).mono ?_
        rintro e t q ⟨rfl, rfl, rfl⟩
        cases e with
        | normal => exact absurd he' (hne _ _ _ _)
        | _ => exact ⟨rfl, rfl, rfl⟩
    · rename_i id c
      refine ATrip.block ?_
      split at he'
      · rename_i ob0 i r hb
        obtain ⟨ts1, h1, scr1⟩ := r
        split at he'
        · rename_i hid
          simp only [Option.some.injEq, Prod.mk.injEq] at he'
          obtain ⟨rfl, rfl, rfl, rfl, rfl⟩ := he'
          refine (ih _ _ _ _ _ _ _ _ _ _ hb ho).mono ?_
          rintro e t q ⟨rfl, rfl, rfl⟩
          simp only [ABlock, hid, if_true, and_self]
        · rename_i hid
          simp only [Option.some.injEq, Prod.mk.injEq] at he'
          obtain ⟨rfl, rfl, rfl, rfl, rfl⟩ := he'
          refine (ih _ _ _ _ _ _ _ _ _ _ hb ho).mono ?_
          rintro e t q ⟨rfl, rfl, rfl⟩
          simp only [ABlock, hid, if_false, and_self]
      · rename_i hne
        refine (ih _ _ _ _ _ _ _ _ _ _ he' ho).mono ?_
        rintro e t q ⟨rfl, rfl, rfl⟩
        cases e with
        | exit i => exact absurd he' (hne _ _ _)
        | _ => exact ⟨rfl, rfl, rfl⟩
    · rename_i c x y
      split at he'
      · rename_i b hc
        split at he'
        · rename_i ob0 s hcd
          obtain ⟨ob2, h2, rfl⟩ := addObsR_some he'
          obtain ⟨o1, o2⟩ := ho.append
          have hb := evCond_sound hcd o1
          subst hb
          exact ATrip.cond hc (ih _ _ _ _ _ _ _ _ _ _ h2 o2)
        · rename_i ob0 s hcd
          obtain ⟨ob2, h2, rfl⟩ := addObsR_some he'
          obtain ⟨o1, o2⟩ := ho.append
          have hb := evCond_sound hcd o1
          subst hb
          exact ATrip.cond hc (ih _ _ _ _ _ _ _ _ _ _ h2 o2)
        · simp at he'
      · simp at he'
    · rename_i id ops
      split at he'
      · rename_i ob0 ts1 h1 s hops
        simp only [Option.some.injEq, Prod.mk.injEq] at he'
        obtain ⟨rfl, rfl, rfl, rfl, rfl⟩ := he'
        intro hm E w a g hr hd
        refine wp_region_list (evOps_sound ih ops _ _ _ _ _ _ _ _ hops ho E w a _ g hr hd ?_)
        intro E' w' a' g' ev' r' d'
        exact ⟨_, _, E', g', ev'.le (by rw [g.n]; exact hm), r', d', rfl, rfl, rfl⟩
      · simp at he'
    · rename_i id ops
      split at he'
      · rename_i ob0 ts1 h1 s hops
        simp only [Option.some.injEq, Prod.mk.injEq] at he'
        obtain ⟨rfl, rfl, rfl, rfl, rfl⟩ := he'
        exact evDraw_sound ih hops ho
      · simp at he'
    · simp at he'

/-- THE EVALUATOR's WORD ON A CALL. -/
theorem evFn_sound {n : Nat} {k : FuncId} {args : List Value} {h : AHeap} {scr scr' : Script} {ob : List Prop} {v : Value} {h' : AHeap} (he : evFn P n k args h scr = some (ob, v, h', scr')) (ho : AllP ob) : AEq P k args h v h' := by
  unfold evFn at he
  split at he
  · exact evFnWith_sound (evCode_ok n) he ho
  · simp at he

end
end Go.AX
