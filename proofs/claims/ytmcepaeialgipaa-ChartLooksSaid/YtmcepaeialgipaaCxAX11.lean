/- The evaluator: code on an abstract heap, told by a script what it cannot see; and that the model does the like. -/
import Derived.Test.YtmcepaeialgipaaCxAXE
namespace Go.AX

inductive Dir where
  | auto
  | hint (t : Nat) (h : Hint)
  | is (t : Nat) (v : Value)
  | gd (t : Nat) (b : Bool)
  | br (b : Bool)
  | lit
  | call (v : Value) (h : AHeap)
  | ext (v : Value)
  | code (ex : Exit) (ts : Tm) (h : AHeap)
  | inl
  | heap

abbrev Script := List Dir

noncomputable def putD (ts : Tm) (dst : Option Tmp) (v : Value) : Tm :=
  match dst with
  | none => ts
  | some d => ts.put d v

/-- A frame as it begins. -/
noncomputable def Tm.enter (n : Nat) (args : List Value) : Tm :=
  (args.foldl (fun (x : Tm × Nat) v => (x.1.put x.2 v, x.2 + 1)) ({ n := n, d := undef, t := .leaf }, 0)).1

/-- May a function be entered? -/
def enterable (P : Program) (k : FuncId) : Bool :=
  match P.funcs[k]? with
  | some fn => !(fn.name == "runtime.NumGoroutine") && fn.body.isSome
  | none => false

noncomputable def calleeOf (ts : Tm) (c : Call) : Option (FuncId × List Value) :=
  match c.callee with
  | .value f =>
    match opd ts f, opdL ts c.args.toList with
    | some (.func (.func k) ⟨first⟩ ⟨cap⟩), some args => some (k, (first ++ args) ++ cap)
    | _, _ => none
  | _ => none

abbrev Res := Option (List Prop × Exit × Tm × AHeap × Script)
abbrev FRes := Option (List Prop × Value × AHeap × Script)

noncomputable def evResult (P : Program) (ts : Tm) (h : AHeap) : ResultVar → Option Value
  | .tmp t => some (ts.get t)
  | .cell a t =>
    match evLoad P h .none t (ts.get a) with
    | some ([], v) => some v
    | _ => none

noncomputable def evResultL (P : Program) (ts : Tm) (h : AHeap) : List ResultVar → Option (List Value)
  | [] => some []
  | r :: rs => match evResult P ts h r, evResultL P ts h rs with
    | some v, some l => some (v :: l)
    | _, _ => none

noncomputable def evResults (P : Program) (fn : Func) (ts : Tm) (h : AHeap) : Option Value :=
  match evResultL P ts h fn.results.toList with
  | some [v] => some v
  | some l => some (.tuple ⟨l⟩)
  | none => none

noncomputable def evFnWith (P : Program) (ev : Nat → Code → Tm → AHeap → Script → Res) (k : FuncId) (args : List Value) (h : AHeap) (scr : Script) : FRes :=
  match P.funcs[k]? with
  | some fn =>
    match fn.body with
    | some c =>
      match Nat.ble args.length fn.ntmps, Nat.ble fn.ntmps 4000 with
      | true, true =>
        match ev h.length c (Tm.enter fn.ntmps args) h scr with
        | some (ob, .normal, ts, h', scr') => (evResults P fn ts h').map fun v => (ob, v, h', scr')
        | some (ob, .ret, ts, h', scr') => (evResults P fn ts h').map fun v => (ob, v, h', scr')
        | _ => none
      | _, _ => none
    | none => none
  | none => none

noncomputable def evCall (P : Program) (ev : Nat → Code → Tm → AHeap → Script → Res) (ts : Tm) (h : AHeap) (scr : Script) (c : Call) : FRes :=
  match calleeOf ts c with
  | some (k, args) =>
    match scr with
    | .ext v :: s => some ([AExt P k args v], v, h, s)
    | .call v h' :: s => if enterable P k then some ([AEq P k args h v h'], v, h', s) else none
    | .inl :: s => if enterable P k then evFnWith P ev k args h s else none
    | s =>
      if enterable P k then evFnWith P ev k args h s
      else match evExt P k args with
        | some v => some ([], v, h, s)
        | none => none
  | none => none

/-- An operation's guard: what is owed; whether it is wanted. -/
noncomputable def evGuard (ops : Array Oper) (ts : Tm) (scr : Script) : Option (Nat × Bool) → Option (List Prop × Bool × Tm × Script)
  | none => some ([], true, ts, scr)
  | some (j, want) =>
    match (ops[j]?).bind (·.dst) with
    | none => none
    | some d =>
      match ts.get d with
      | .bool b =>
        match scr with
        | .gd t c :: s =>
          if t = d then some ([b = c], c == want, ts.put d (.bool c), s)
          else match b with
            | true => some ([], true == want, ts, scr)
            | false => some ([], false == want, ts, scr)
        | _ => match b with
          | true => some ([], true == want, ts, scr)
          | false => some ([], false == want, ts, scr)
      | .tuple ⟨[]⟩ => some ([], false, ts, scr)
      | _ => none

/-- Is this a call of a function's value? -/
def isCallOp : Op → Option Call
  | .call { callee := .value f, args, argTypes } => some { callee := .value f, args, argTypes }
  | _ => none

def addObs (ob : List Prop) : Option (List Prop × Tm × AHeap × Script) → Option (List Prop × Tm × AHeap × Script)
  | some (ob2, r) => some (ob ++ ob2, r)
  | none => none

def addObsR (ob : List Prop) : Res → Res
  | some (ob2, r) => some (ob ++ ob2, r)
  | none => none

def isDst (dst : Option Tmp) (t : Nat) : Bool :=
  match dst with
  | some d => Nat.beq d t
  | none => false

/-- A value told in another way. -/
def evIs (dst : Option Tmp) (r : FRes) : FRes :=
  match r with
  | some (ob, v, h, .is t u :: s) =>
    match isDst dst t with
    | true => some (ob ++ [v = u], u, h, s)
    | false => some (ob, v, h, .is t u :: s)
  | r => r

noncomputable def evHinted (P : Program) (h : AHeap) (ts : Tm) (scr : Script) (o : Oper) : FRes :=
  match scr with
  | .hint t hi :: s =>
    match isDst o.dst t with
    | true => (evOp P h ts hi o.op).map fun x => (x.1, x.2.1, x.2.2, s)
    | false => (evOp P h ts .none o.op).map fun x => (x.1, x.2.1, x.2.2, .hint t hi :: s)
  | s => (evOp P h ts .none o.op).map fun x => (x.1, x.2.1, x.2.2, s)

noncomputable def evAny (P : Program) (ev : Nat → Code → Tm → AHeap → Script → Res) (h : AHeap) (ts : Tm) (scr : Script) (o : Oper) : FRes :=
  evIs o.dst (match isCallOp o.op with
  | some c => evCall P ev ts h scr c
  | none => evHinted P h ts scr o)

/-- One operation, and the rest. -/
noncomputable def evOne (P : Program) (ev : Nat → Code → Tm → AHeap → Script → Res) (ops : Array Oper) (o : Oper) (next : Tm → AHeap → Script → Option (List Prop × Tm × AHeap × Script)) (ts : Tm) (h : AHeap) (scr : Script) :
    Option (List Prop × Tm × AHeap × Script) :=
  match evGuard ops ts scr o.guard with
  | none => none
  | some (ob, false, ts1, scr1) => addObs ob (next (putD ts1 o.dst undef) h scr1)
  | some (ob, true, ts1, scr1) =>
    match evAny P ev h ts1 scr1 o with
    | some (ob1, v, h1, scr2) => addObs ob (addObs ob1 (next (putD ts1 o.dst v) h1 scr2))
    | none => none

noncomputable def evOps (P : Program) (ev : Nat → Code → Tm → AHeap → Script → Res) (ops : Array Oper) (l : List Oper) : Tm → AHeap → Script → Option (List Prop × Tm × AHeap × Script) :=
  List.rec (fun ts h scr => some ([], ts, h, scr)) (fun o _ ih => evOne P ev ops o ih) l

noncomputable def evLoop (f : Tm → AHeap → Script → Res) (n : Nat) : Tm → AHeap → Script → Res :=
  Nat.rec (fun _ _ _ => none) (fun _ ih ts h scr =>
    match f ts h scr with
    | some (ob, .normal, ts1, h1, scr1) => addObsR ob (ih ts1 h1 scr1)
    | r => r) n

def evCond (scr : Script) (b : Bool) : Option (List Prop × Bool × Script) :=
  match scr with
  | .br c :: s => some ([b = c], c, s)
  | .lit :: s => match b with
    | true => some ([], true, s)
    | false => some ([], false, s)
  | s => match b with
    | true => some ([], true, s)
    | false => some ([], false, s)

end Go.AX
