/- Part 2 of 6 of the proof of: ErpsPlays holds for every input, without conditions -/
import Derived.Test.YtbjjohonfbdcmaaGreatP1
import Derived.Below
import Derived.WalkKit
import Derived.ProofKit
import Derived.OpenShut
import Derived.ReadAgain
import Derived.Deep.Slices
namespace Go.AX
noncomputable def Tm.only (T : Tm) (l : List Tmp) : Tm := l.foldl (fun U k => U.put k (T.get k)) { n := T.n, d := junk, t := .leaf }
def waits (pl : List Nat) (i : Nat) (o : Oper) : Nat :=
  o.after.toList.foldl (fun s e => if Region.binds .any e then (s ||| 2 ^ e.on) ||| (if e.on < i then pl.getD e.on 0 else 0) else s) 0

def waitsAll : List Oper → Nat → List Nat → List Nat
  | [], _, pl => pl
  | o :: r, i, pl => waitsAll r (i + 1) (pl ++ [waits pl i o])

def waitsOk (pl : List Nat) : List Oper → Nat → Bool
  | [], _ => true
  | o :: r, i => (pl.getD i 0 == waits pl i o) && (o.after.all fun e => !Region.binds .any e || decide (e.on < i)) && waitsOk pl r (i + 1)
def forcedFrom (pl : List Nat) (n : Nat) (t : Nat) : Bool := (List.range n).all fun j => decide (j < t) || (pl.getD j 0 == 2 ^ j - 1)
def pureOp : Op → Bool
  | .move _ | .assign _ | .extract .. => true
  | _ => false
def pureFree (ops : Array Oper) (pl : List Nat) (i : Nat) : Bool :=
  match ops[i]? with
  | some o => pureOp o.op && (List.range ops.size).all fun j => j == i || (pl.getD i 0).testBit j || match ops[j]? with
      | some oj => oj.after.any (fun e => Region.binds .any e && e.on == i) || o.apart ops oj
      | none => true
  | none => false
def mixFrom (ops : Array Oper) (pl : List Nat) (n t : Nat) : Bool := (List.range n).all fun j => decide (j < t) || (List.range j).all fun i => (pl.getD j 0).testBit i || (decide (i < t) && pureFree ops pl i)
def tailOk (ops : Array Oper) (pl : List Nat) (t : Nat) : Bool := forcedFrom pl ops.toList.length t || (mixFrom ops pl ops.toList.length t && Region.noSelect ops)

def frontLen (pl : List Nat) : Nat := (pl.foldl (fun (x : Nat × Nat) b => (if b == 2 ^ x.2 - 1 then x.1 else x.2 + 1, x.2 + 1)) (0, 0)).1

def apartOk (ops : Array Oper) (pl : List Nat) : List Oper → Nat → Bool
  | [], _ => true
  | o :: r, j => ((ops.toList.take j).zipIdx.all fun (p, i) => (pl.getD j 0).testBit i || p.apart ops o) && apartOk ops pl r (j + 1)

def allowed (keep : Nat → Bool) : Nat → List AHeap → Nat → Bool
  | _, [], _ => false
  | k, s :: r, i => if i < s.length then keep k else allowed keep (k + 1) r (i - s.length)

def allowedId (base : Nat) (keep : Nat → Bool) (segs : List AHeap) (i : Nat) : Bool := decide (i < base) || allowed keep 0 segs (i - base)

def notRo : AObj → Bool
  | .ro .. => false
  | _ => true
def quietOp : Op → Bool
  | .load .. | .move .. | .assign .. | .pick .. | .build .. | .nilCheck .. | .binOp .. | .unOp .. | .convert .. | .makeFunc .. | .slice .. | .fieldAddr .. | .field .. | .indexAddr .. | .index .. | .extract .. => true
  | _ => false

theorem quiet_same {P : Program} {h h' : AHeap} {ts : Tm} {hint : Hint} {op : Op} {ob : List Prop} {v : Value} (hq : quietOp op = true) (he : evOp P h ts hint op = some (ob, v, h')) : h' = h := by
  cases op <;> first | exact Bool.noConfusion hq | skip
  case load =>
    obtain ⟨x, _, h2⟩ := Option.bind_eq_some_iff.1 he
    exact (pureM_some h2).2
  case convert =>
    simp only [evOp] at he
    split at he
    · exact (pureM_some he).2
    · exact (pureM_some he).2
    · simp at he
  all_goals exact (pureM_some he).2

def eqLW (f : Value → Value → Bool) : List Value → List Value → Bool
  | [], [] => true
  | a :: l, b :: m => f a b && eqLW f l m
  | _, _ => false
def eqV : Nat → Value → Value → Bool
  | 0, _, _ => false
  | d + 1, a, b =>
    match a, b with
    | .bool x, .bool y => x == y
    | .int k x, .int j y => decide (k = j) && decide (x = y)
    | .string x, .string y => x.data.toList == y.data.toList
    | .pointer x, .pointer y => decide (x = y)
    | .slice x n c, .slice y m e => decide (x = y) && Nat.beq n m && Nat.beq c e
    | .map x, .map y => decide (x = y)
    | .nilFunc, .nilFunc => true
    | .nilIface, .nilIface => true
    | .iface t x, .iface u y => Nat.beq t u && eqV d x y
    | .agg ⟨x⟩, .agg ⟨y⟩ => eqLW (eqV d) x y
    | .tuple ⟨x⟩, .tuple ⟨y⟩ => eqLW (eqV d) x y
    | .func (.func k) ⟨f⟩ ⟨c⟩, .func (.func j) ⟨f'⟩ ⟨c'⟩ => Nat.beq k j && eqLW (eqV d) f f' && eqLW (eqV d) c c'
    | _, _ => false

def eqM : List (Value × Value) → List (Value × Value) → Bool
  | [], [] => true
  | a :: l, b :: m => eqV 6 a.1 b.1 && eqV 6 a.2 b.2 && eqM l m
  | _, _ => false

def eqO : AObj → AObj → Bool
  | .cells a e s, .cells b f r => Nat.beq e f && Nat.beq s r && eqLW (eqV 6) a b
  | .row a e s, .row b f r => Nat.beq e f && Nat.beq s r && eqLW (eqV 6) a b
  | .ro a s, .ro b r => Nat.beq s r && eqLW (eqV 6) a b
  | .mp a, .mp b => eqM a b
  | .gone, .gone => true
  | _, _ => false

def eqH : AHeap → AHeap → Bool
  | [], [] => true
  | a :: l, b :: m => eqO a b && eqH l m
  | _, _ => false

theorem eqLW_eq {f : Value → Value → Bool} (hf : ∀ a b, f a b = true → a = b) : ∀ {l m : List Value}, eqLW f l m = true → l = m
  | [], [], _ => rfl
  | [], _ :: _, h => Bool.noConfusion h
  | _ :: _, [], h => Bool.noConfusion h
  | a :: l, b :: m, h => by
    simp only [eqLW, Bool.and_eq_true] at h
    rw [hf _ _ h.1, eqLW_eq hf h.2]

theorem eqV_eq : ∀ {d : Nat} {a b : Value}, eqV d a b = true → a = b
  | 0, _, _, h => Bool.noConfusion h
  | d + 1, a, b, h => by
    have ih : ∀ a b, eqV d a b = true → a = b := fun _ _ h => eqV_eq h
    unfold eqV at h
    split at h
    · rw [eq_of_beq h]
    · simp only [Bool.and_eq_true, decide_eq_true_eq] at h; rw [h.1, h.2]
    · rename_i x y
      obtain ⟨⟨x⟩⟩ := x; obtain ⟨⟨y⟩⟩ := y
      have : x = y := eq_of_beq h
      rw [this]
    · rw [of_decide_eq_true h]
    · simp only [Bool.and_eq_true, decide_eq_true_eq] at h
      rw [h.1.1, Nat.eq_of_beq_eq_true h.1.2, Nat.eq_of_beq_eq_true h.2]
    · rw [of_decide_eq_true h]
    · rfl
    · rfl
    · simp only [Bool.and_eq_true] at h
      rw [Nat.eq_of_beq_eq_true h.1, ih _ _ h.2]
    · rw [eqLW_eq ih h]
    · rw [eqLW_eq ih h]
    · simp only [Bool.and_eq_true] at h
      rw [Nat.eq_of_beq_eq_true h.1.1, eqLW_eq ih h.1.2, eqLW_eq ih h.2]
    · exact Bool.noConfusion h

theorem eqM_eq : ∀ {l m : List (Value × Value)}, eqM l m = true → l = m
  | [], [], _ => rfl
  | [], _ :: _, h => Bool.noConfusion h
  | _ :: _, [], h => Bool.noConfusion h
  | (a, a') :: l, (b, b') :: m, h => by
    simp only [eqM, Bool.and_eq_true] at h
    have h1 : a = b := eqV_eq h.1.1
    have h2 : a' = b' := eqV_eq h.1.2
    rw [h1, h2, eqM_eq h.2]

theorem eqO_eq {a b : AObj} (h : eqO a b = true) : a = b := by
  have ih : ∀ a b, eqV 6 a b = true → a = b := fun _ _ h => eqV_eq h
  unfold eqO at h
  split at h
  · simp only [Bool.and_eq_true] at h; rw [Nat.eq_of_beq_eq_true h.1.1, Nat.eq_of_beq_eq_true h.1.2, eqLW_eq ih h.2]
  · simp only [Bool.and_eq_true] at h; rw [Nat.eq_of_beq_eq_true h.1.1, Nat.eq_of_beq_eq_true h.1.2, eqLW_eq ih h.2]
  · simp only [Bool.and_eq_true] at h; rw [Nat.eq_of_beq_eq_true h.1, eqLW_eq ih h.2]
  · rw [eqM_eq h]
  · rfl
  · exact Bool.noConfusion h

theorem eqH_eq : ∀ {l m : AHeap}, eqH l m = true → l = m
  | [], [], _ => rfl
  | [], _ :: _, h => Bool.noConfusion h
  | _ :: _, [], h => Bool.noConfusion h
  | a :: l, b :: m, h => by
    simp only [eqH, Bool.and_eq_true] at h
    rw [eqO_eq h.1, eqH_eq h.2]
def sameObs (told : Bool) (x y : AHeap) : List Prop :=
  match told with
  | true => [x = y]
  | false => bs [eqH x y]

theorem sameObs_eq {t : Bool} {x y : AHeap} (h : AllP (sameObs t x y)) : x = y := by
  cases t with
  | true => exact h.1
  | false => exact eqH_eq (bs_all h).1
def stillOp : Op → Bool
  | .alloc _ | .box .. => true
  | .call { callee := .builtin .len, .. } | .call { callee := .builtin .min, .. } | .call { callee := .builtin .max, .. } => true
  | _ => false

def isStill (o : Oper) (scr : Script) : Bool :=
  match isCallOp o.op, scr with
  | some _, .callL _ [] :: _ => true
  | some _, .callN _ [] _ :: _ => true
  | none, _ => stillOp o.op
  | _, _ => false

theorem evNew_take {P : Program} {h h1 : AHeap} {e : TypeId} {x v : Value} {ob : List Prop} (he : evNew P h e x = some (ob, v, h1)) : h1.take h.length = h := by
  unfold evNew at he
  split at he
  · simp only [Option.some.injEq, Prod.mk.injEq] at he
    rw [← he.2.2]; exact List.take_left' rfl
  · simp at he

theorem still_same {P : Program} {h h1 : AHeap} {ts : Tm} {hint : Hint} {op : Op} {ob : List Prop} {v : Value} (hs : stillOp op = true) (he : evOp P h ts hint op = some (ob, v, h1)) : h1.take h.length = h := by
  have pm : ∀ {r : PRes}, pureM h r = some (ob, v, h1) → h1.take h.length = h := fun hp => by rw [(pureM_some hp).2, List.take_length]
  unfold evOp at he
  split at he
  all_goals first
    | exact Bool.noConfusion hs
    | exact pm he
    | (obtain ⟨z, _, hz⟩ := Option.bind_eq_some_iff.1 he; first | exact evNew_take hz | exact pm hz)
    | (split at he <;> first | exact pm he | (simp at he; done))

def sameQ (q told : Bool) (x y : AHeap) : List Prop :=
  match q with
  | true => []
  | false => sameObs told x y

theorem evIs_heap {dst : Option Tmp} {Q : AHeap → Prop} (r : FRes) (hr : ∀ ob v h2 s', r = some (ob, v, h2, s') → Q h2) : ∀ ob v h2 s', evIs dst r = some (ob, v, h2, s') → Q h2 := by
  intro ob v h2 s' he
  unfold evIs at he
  split at he
  · split at he <;> simp only [Option.some.injEq, Prod.mk.injEq] at he <;> obtain ⟨_, _, rfl, _⟩ := he <;> exact hr _ _ _ _ rfl
  · exact hr _ _ _ _ he

theorem evAny_still {P : Program} {ev : Nat → Code → Tm → AHeap → Script → Res} {h h1 : AHeap} {ts : Tm} {scr scr' : Script} {o : Oper} {ob : List Prop} {v : Value} (hs : isStill o scr = true) (he : evAny P ev h ts scr o = some (ob, v, h1, scr')) : h1.take h.length = h := by
  unfold isStill at hs
  split at hs
  · rename_i c v0 s hc
    unfold evAny at he
    rw [hc] at he
    refine evIs_heap (Q := fun h2 => h2.take h.length = h) _ ?_ _ _ _ _ he
    intro ob v h2 s' he
    simp only [evCall] at he
    split at he
    · split at he
      · simp only [oldL, Option.map_some, Option.some.injEq, Prod.mk.injEq, ksetL] at he
        rw [← he.2.2.1, List.take_length]
      · simp at he
    · simp at he
  · rename_i c v0 objs s hc
    unfold evAny at he
    rw [hc] at he
    refine evIs_heap (Q := fun h2 => h2.take h.length = h) _ ?_ _ _ _ _ he
    intro ob v h2 s' he
    simp only [evCall] at he
    split at he
    · split at he
      · simp only [oldL, Option.map_some, Option.some.injEq, Prod.mk.injEq, ksetL] at he
        rw [← he.2.2.1, List.take_left']
        rfl
      · simp at he
    · simp at he
  · rename_i hc
    unfold evAny at he
    rw [hc] at he
    refine evIs_heap (Q := fun h2 => h2.take h.length = h) _ ?_ _ _ _ _ he
    intro ob v h2 s' he
    simp only at he
    unfold evHinted at he
    split at he
    · split at he <;> simp only [Option.map_eq_some_iff, Prod.mk.injEq] at he <;> obtain ⟨⟨a1, a2, a3⟩, h1, rfl, rfl, rfl, rfl⟩ := he <;> exact still_same hs h1
    · split at he <;> simp only [Option.map_eq_some_iff, Prod.mk.injEq] at he <;> obtain ⟨⟨a1, a2, a3⟩, h1, rfl, rfl, rfl, rfl⟩ := he <;> exact still_same hs h1
    · simp only [Option.map_eq_some_iff, Prod.mk.injEq] at he
      obtain ⟨⟨a1, a2, a3⟩, h1, rfl, rfl, rfl, rfl⟩ := he
      exact still_same hs h1
  · simp at hs

def heapTold : Script → Bool × Script
  | .heap :: s => (true, s)
  | s => (false, s)
noncomputable def evPriv (P : Program) (ids : List Nat) (Hf : AHeap) (ts : Tm) (scr : Script) (o : Oper) : Option (List Prop × Value × PSt × Script) :=
  match ids with
  | [] => none
  | ids =>
    match isCallOp o.op with
    | some c =>
      match scr with
      | .callL v [(i, .cells vs' e' sz')] :: s =>
        match ids.any (Nat.beq · i), calleeOf ts c, lget Hf i with
        | true, some (k, args), some (.cells vs e sz) =>
          match enterable P k && (Nat.beq e e' && Nat.beq sz sz') with
          | true => some ([AOn P k args [(i, .cells vs e sz)] v [(i, .cells vs' e' sz')]], v, ⟨i, e, sz, vs, vs'⟩, s)
          | false => none
        | _, _, _ => none
      | _ => none
    | none =>
      match o.op with
      | .store t x v =>
        match opd ts x, opd ts v with
        | some (.pointer (some ⟨i, off, none⟩)), some val =>
          match vcells val, sizeT P t, lget Hf i with
          | some l, some n, some (.cells vs e sz) =>
            match Nat.beq l.length n && (l.all isCell && (ids.any (Nat.beq · i) && decide (off + n ≤ vs.length))) with
            | true => some ([], undef, ⟨i, e, sz, vs, put1 vs off l⟩, scr)
            | false => none
          | _, _, _ => none
        | _, _ => none
      | _ => none

theorem evPriv_sound {P : Program} {ev : Nat → Code → Tm → AHeap → Script → Res} (hev : EvOk P ev) {ids : List Nat} {Hf : AHeap} {ts : Tm} {scr s : Script} {o : Oper} {ob : List Prop} {v : Value} {p : PSt} (he : evPriv P ids Hf ts scr o = some (ob, v, p, s)) (hob : AllP ob) :
    Hf[p.i]? = some (.cells p.old p.e p.sz) ∧ ∀ {E : Env} {w : World} {a : Act} {h : AHeap}, RepT E ts a.tmps → Good E h w → h[p.i]? = some (.cells p.old p.e p.sz) → OpNext P E h w o a v (h.set p.i (.cells p.new p.e p.sz)) := by
  unfold evPriv at he
  split at he
  · simp at he
  · split at he
    · rename_i c hc
      split at he
      · rename_i v0 i vs' e' sz' s0
        split at he
        · rename_i k args vs e sz hi1 hcal hl
          split at he
          · rename_i hb
            simp only [Option.some.injEq, Prod.mk.injEq] at he
            obtain ⟨rfl, rfl, rfl, rfl⟩ := he
            simp only [Bool.and_eq_true] at hb
            obtain ⟨hk, h1, h2⟩ := hb
            obtain rfl := Nat.eq_of_beq_eq_true h1
            obtain rfl := Nat.eq_of_beq_eq_true h2
            refine ⟨by rw [← lget_eq]; exact hl, ?_⟩
            intro E w a h hr g hi
            refine opNext_call hev g hr (isCallOp_some hc).1 (scr := .callL v0 [(i, .cells vs' e sz)] :: s0) (scr' := s0) (ob := [AOn P k args [(i, .cells vs e sz)] v0 [(i, .cells vs' e sz)]]) ?_ hob
            simp only [evCall, hcal, hk, if_true, oldL, lget_eq]
            rw [hi]
            simp only [Option.map_some, ksetL, lset_eq]
          · simp at he
        · simp at he
      · simp at he
    · split at he
      · rename_i t x v0 hop
        split at he
        · rename_i i off val h1 h2
          split at he
          · rename_i l n vs e sz h3 h4 h5
            split at he
            · rename_i hb
              simp only [Option.some.injEq, Prod.mk.injEq] at he
              obtain ⟨rfl, rfl, rfl, rfl⟩ := he
              simp only [Bool.and_eq_true, decide_eq_true_eq] at hb
              have hl := Nat.eq_of_beq_eq_true hb.1
              refine ⟨by rw [← lget_eq]; exact h5, ?_⟩
              intro E w a h hr g hi
              have hev2 : evOp P h ts .none o.op = some (bs [decide (off + n ≤ vs.length)], undef, h.set i (.cells (put1 vs off l) e sz)) := by
                rw [hop]
                simp only [evOp, h1, h2, evStore, h3, h4, lget_eq, hi, lset_eq, hb.2.1, hl, if_true]
              refine opNext_op (evOp_sound g hr hev2 ?_)
              have : decide (off + n ≤ vs.length) = true := by
                rw [decide_eq_true_eq]; exact hb.2.2.2
              rw [this]; exact trivial
            · simp at he
          · simp at he
        · simp at he
      · simp at he

def nodupB : List Nat → Bool
  | [] => true
  | a :: l => !(l.any (Nat.beq · a)) && nodupB l

noncomputable def maskIds (ids : List Nat) (H : AHeap) : AHeap := ids.foldl (fun H i => lset H i .gone) H

theorem maskIds_get : ∀ (ids : List Nat) (H : AHeap) (i : Nat), (maskIds ids H).length = H.length ∧ (maskIds ids H)[i]? = if i ∈ ids ∧ i < H.length then some .gone else H[i]?
  | [], H, i => ⟨rfl, by simp [maskIds]⟩
  | a :: l, H, i => by
    obtain ⟨h1, h2⟩ := maskIds_get l (H.set a .gone) i
    have e : maskIds (a :: l) H = maskIds l (H.set a .gone) := by
      show maskIds l (lset H a .gone) = _
      rw [lset_eq]
    rw [e]
    refine ⟨by rw [h1]; simp, ?_⟩
    rw [h2]
    simp only [List.length_set, List.mem_cons]
    by_cases hi : i ∈ l ∧ i < H.length
    · rw [if_pos hi, if_pos ⟨.inr hi.1, hi.2⟩]
    · rw [if_neg hi, List.getElem?_set]
      by_cases ha : a = i
      · subst ha
        rw [if_pos rfl]
        by_cases hl : a < H.length
        · rw [if_pos hl, if_pos ⟨.inl rfl, hl⟩]
        · rw [if_neg hl, if_neg (fun h => hl h.2), List.getElem?_eq_none (by omega)]
      · rw [if_neg ha, if_neg]
        rintro ⟨h | h, h3⟩
        · exact ha h.symm
        · exact hi ⟨h, h3⟩
noncomputable def privSet : List FStep → AHeap → AHeap
  | [], H => H
  | s :: r, H =>
    match s.pst with
    | some p => privSet r (lset H p.i (.cells p.new p.e p.sz))
    | none => privSet r H

def privIds : List FStep → List Nat
  | [] => []
  | s :: r =>
    match s.pst with
    | some p => p.i :: privIds r
    | none => privIds r

def privChk : List FStep → Bool
  | [] => true
  | s :: r =>
    match s.pst with
    | some p => (bareL p.old && bareL p.new) && privChk r
    | none => privChk r

def eqIds : List Nat → List Nat → Bool
  | [], [] => true
  | a :: l, b :: m => Nat.beq a b && eqIds l m
  | _, _ => false

theorem eqIds_eq : ∀ {l m : List Nat}, eqIds l m = true → l = m
  | [], [], _ => rfl
  | [], _ :: _, h => Bool.noConfusion h
  | _ :: _, [], h => Bool.noConfusion h
  | a :: l, b :: m, h => by
    simp only [eqIds, Bool.and_eq_true] at h
    rw [Nat.eq_of_beq_eq_true h.1, eqIds_eq h.2]

theorem privIds_mem : ∀ {st : List FStep} {i : Nat}, i ∈ privIds st ↔ ∃ (j : Nat) (s : FStep) (p : PSt), st[j]? = some s ∧ s.pst = some p ∧ p.i = i
  | [], i => by simp [privIds]
  | s :: r, i => by
    have ih := privIds_mem (st := r) (i := i)
    unfold privIds
    cases hp : s.pst with
    | none =>
      simp only
      rw [ih]
      constructor
      · rintro ⟨j, s', p, h1, h2, h3⟩; exact ⟨j + 1, s', p, by simpa using h1, h2, h3⟩
      · rintro ⟨j, s', p, h1, h2, h3⟩
        cases j with
        | zero => simp only [List.getElem?_cons_zero, Option.some.injEq] at h1; subst h1; rw [hp] at h2; simp at h2
        | succ j => exact ⟨j, s', p, by simpa using h1, h2, h3⟩
    | some q =>
      simp only [List.mem_cons]
      rw [ih]
      constructor
      · rintro (rfl | ⟨j, s', p, h1, h2, h3⟩)
        · exact ⟨0, s, q, rfl, hp, rfl⟩
        · exact ⟨j + 1, s', p, by simpa using h1, h2, h3⟩
      · rintro ⟨j, s', p, h1, h2, h3⟩
        cases j with
        | zero =>
          simp only [List.getElem?_cons_zero, Option.some.injEq] at h1
          subst h1
          rw [hp] at h2
          simp only [Option.some.injEq] at h2
          subst h2
          exact .inl h3.symm
        | succ j => exact .inr ⟨j, s', p, by simpa using h1, h2, h3⟩

theorem privIds_one : ∀ {st : List FStep}, nodupB (privIds st) = true → ∀ {j k : Nat} {s u : FStep} {p q : PSt}, st[j]? = some s → s.pst = some p → st[k]? = some u → u.pst = some q → j ≠ k → p.i ≠ q.i
  | [], _, j, k, s, u, p, q, h, _, _, _, _ => by simp at h
  | a :: r, hn, j, k, s, u, p, q, h1, h2, h3, h4, hne => by
    unfold privIds at hn
    cases hp : a.pst with
    | none =>
      rw [hp] at hn
      simp only at hn
      cases j with
      | zero => simp only [List.getElem?_cons_zero, Option.some.injEq] at h1; subst h1; rw [hp] at h2; simp at h2
      | succ j =>
        cases k with
        | zero => simp only [List.getElem?_cons_zero, Option.some.injEq] at h3; subst h3; rw [hp] at h4; simp at h4
        | succ k => exact privIds_one hn (by simpa using h1) h2 (by simpa using h3) h4 (by omega)
    | some t =>
      rw [hp] at hn
      simp only [nodupB, Bool.and_eq_true, Bool.not_eq_true'] at hn
      have hfar : ∀ {m : Nat} {v : FStep} {x : PSt}, r[m]? = some v → v.pst = some x → x.i ≠ t.i := by
        intro m v x hm hx he
        have : t.i ∈ privIds r := privIds_mem.2 ⟨m, v, x, hm, hx, he⟩
        have h5 : (privIds r).any (Nat.beq · t.i) = true := List.any_eq_true.2 ⟨t.i, this, Nat.beq_refl _⟩
        rw [hn.1] at h5
        exact Bool.noConfusion h5
      cases j with
      | zero =>
        simp only [List.getElem?_cons_zero, Option.some.injEq] at h1
        subst h1
        rw [hp] at h2
        simp only [Option.some.injEq] at h2
        subst h2
        cases k with
        | zero => exact absurd rfl hne
        | succ k => exact fun e => hfar (by simpa using h3) h4 e.symm
      | succ j =>
        cases k with
        | zero =>
          simp only [List.getElem?_cons_zero, Option.some.injEq] at h3
          subst h3
          rw [hp] at h4
          simp only [Option.some.injEq] at h4
          subst h4
          exact hfar (by simpa using h1) h2
        | succ k => exact privIds_one hn.2 (by simpa using h1) h2 (by simpa using h3) h4 (by omega)

theorem privChk_spec : ∀ {st : List FStep}, privChk st = true → ∀ (j : Nat) (s : FStep) (p : PSt), st[j]? = some s → s.pst = some p → bareL p.old = true ∧ bareL p.new = true
  | [], _, j, s, p, h, _ => by simp at h
  | a :: r, hc, j, s, p, h1, h2 => by
    unfold privChk at hc
    cases hp : a.pst with
    | none =>
      rw [hp] at hc
      cases j with
      | zero => simp only [List.getElem?_cons_zero, Option.some.injEq] at h1; subst h1; rw [hp] at h2; simp at h2
      | succ j => exact privChk_spec hc j s p (by simpa using h1) h2
    | some t =>
      rw [hp] at hc
      simp only [Bool.and_eq_true] at hc
      cases j with
      | zero =>
        simp only [List.getElem?_cons_zero, Option.some.injEq] at h1
        subst h1
        rw [hp] at h2
        simp only [Option.some.injEq] at h2
        subst h2
        exact hc.1
      | succ j => exact privChk_spec hc.2 j s p (by simpa using h1) h2
theorem privSet_get : ∀ {st : List FStep} {H : AHeap}, nodupB (privIds st) = true → (∀ i ∈ privIds st, i < H.length) → (privSet st H).length = H.length ∧ ∀ (i : Nat) (o : AObj), (privSet st H)[i]? = some o →
    (∃ (j : Nat) (s : FStep) (p : PSt), st[j]? = some s ∧ s.pst = some p ∧ p.i = i ∧ o = .cells p.new p.e p.sz) ∨ (H[i]? = some o ∧ i ∉ privIds st)
  | [], H, _, _ => ⟨rfl, fun i o h => .inr ⟨h, by simp [privIds]⟩⟩
  | a :: r, H, hn, hc => by
    have hids : privIds (a :: r) = match a.pst with | some p => p.i :: privIds r | none => privIds r := by
      simp only [privIds]
    rw [hids] at hn hc ⊢
    unfold privSet
    cases hp : a.pst with
    | none =>
      rw [hp] at hn hc
      simp only at hn hc ⊢
      obtain ⟨h1, h2⟩ := privSet_get hn hc
      refine ⟨h1, fun i o hi => ?_⟩
      rcases h2 i o hi with ⟨j, s, p, q⟩ | q
      · exact .inl ⟨j + 1, s, p, by simpa using q⟩
      · exact .inr q
    | some t =>
      rw [hp] at hn hc
      simp only [nodupB, Bool.and_eq_true, Bool.not_eq_true', lset_eq] at hn hc ⊢
      have hfar : ∀ {i : Nat}, i ∈ privIds r → i ≠ t.i := by
        intro i hi he
        subst he
        have h5 : (privIds r).any (Nat.beq · t.i) = true := List.any_eq_true.2 ⟨t.i, hi, Nat.beq_refl _⟩
        rw [hn.1] at h5
        exact Bool.noConfusion h5
      have hlt : t.i < H.length := hc t.i (List.mem_cons_self ..)
      obtain ⟨h1, h2⟩ := privSet_get (H := H.set t.i (.cells t.new t.e t.sz)) hn.2 (fun i hi => by rw [List.length_set]; exact hc i (List.mem_cons_of_mem _ hi))
      refine ⟨by rw [h1]; simp, fun i o hi => ?_⟩
      rcases h2 i o hi with ⟨j, s, p, q1, q2, q3, q5⟩ | ⟨q1, q2⟩
      · exact .inl ⟨j + 1, s, p, by simpa using q1, q2, q3, q5⟩
      · by_cases hi' : i = t.i
        · subst hi'
          rw [List.getElem?_set_self hlt] at q1
          exact .inl ⟨0, a, t, rfl, hp, rfl, (Option.some.inj q1).symm⟩
        · rw [List.getElem?_set_ne (Ne.symm hi')] at q1
          exact .inr ⟨q1, by simp [hi', q2]⟩
noncomputable def evQuiet (P : Program) (h : AHeap) (ts : Tm) (scr : Script) (o : Oper) : Option (List Prop × Value × Script) :=
  match evIs o.dst (evHinted P h ts scr o) with
  | some (ob, v, _, s) => some (ob, v, s)
  | none => none

noncomputable def evFrontOne (P : Program) (ev : Nat → Code → Tm → AHeap → Script → Res) (ops : Array Oper) (pl ids : List Nat) (Hf H0 : AHeap) (o : Oper)
    (next : Nat → Tm → List AHeap → Script → Option (List Prop × List FStep × Tm × Script)) (j : Nat) (ts : Tm) (segs : List AHeap) (scr : Script) : Option (List Prop × List FStep × Tm × Script) :=
  match evGuard ops (ts.only (o.looksAt ops)) scr o.guard with
  | none => none
  | some (ob, false, _, scr1) =>
    match next (j + 1) (putD ts o.dst undef) (segs ++ [[]]) scr1 with
    | some (ob2, st, r) => some (ob ++ ob2, ⟨o, false, undef, [], none⟩ :: st, r)
    | none => none
  | some (ob, true, ts1, scr1) =>
    match evPriv P ids Hf ts1 scr1 o with
    | some (ob1, v, p, scr2) =>
      match evIs o.dst (some (ob1, v, [], scr2)) with
      | some (ob3, v3, _, scr3) =>
        match okIds (allowedId H0.length (fun k => Nat.beq k j || (pl.getD j 0).testBit k) (segs ++ [[]])) v3 with
        | true =>
          match next (j + 1) (putD ts o.dst v3) (segs ++ [[]]) scr3 with
          | some (ob2, st, r) => some (ob ++ (ob3 ++ ob2), ⟨o, true, v3, [], some p⟩ :: st, r)
          | none => none
        | false => none
      | none => none
    | none =>
    match quietOp o.op with
    | true =>
      match evQuiet P (H0 ++ maskSegs (fun k => (pl.getD j 0).testBit k) 0 segs) ts1 scr1 o with
      | some (ob1, v, scr2) =>
        match okIds (allowedId H0.length (fun k => Nat.beq k j || (pl.getD j 0).testBit k) (segs ++ [[]])) v with
        | true =>
          match next (j + 1) (putD ts o.dst v) (segs ++ [[]]) scr2 with
          | some (ob2, st, r) => some (ob ++ (ob1 ++ ob2), ⟨o, true, v, [], none⟩ :: st, r)
          | none => none
        | false => none
      | none => none
    | false =>
    match evAny P ev (H0 ++ maskSegs (fun k => (pl.getD j 0).testBit k) 0 segs) ts1 scr1 o with
    | some (ob1, v, h1, scr2) =>
      match next (j + 1) (putD ts o.dst v) (segs ++ [ldrop h1 (H0 ++ maskSegs (fun k => (pl.getD j 0).testBit k) 0 segs).length]) (heapTold scr2).2 with
      | some (ob2, st, r) =>
        some (ob ++ (ob1 ++ ((sameQ (isStill o scr1) (heapTold scr2).1 (h1.take (H0 ++ maskSegs (fun k => (pl.getD j 0).testBit k) 0 segs).length) (H0 ++ maskSegs (fun k => (pl.getD j 0).testBit k) 0 segs) ++
          bs [okIds (allowedId H0.length (fun k => Nat.beq k j || (pl.getD j 0).testBit k) (segs ++ [ldrop h1 (H0 ++ maskSegs (fun k => (pl.getD j 0).testBit k) 0 segs).length])) v,
          ((ldrop h1 (H0 ++ maskSegs (fun k => (pl.getD j 0).testBit k) 0 segs).length).all fun o => notRo o && okObj (allowedId H0.length (fun k => Nat.beq k j || (pl.getD j 0).testBit k) (segs ++ [ldrop h1 (H0 ++ maskSegs (fun k => (pl.getD j 0).testBit k) 0 segs).length])) o)]) ++ ob2)),
          ⟨o, true, v, ldrop h1 (H0 ++ maskSegs (fun k => (pl.getD j 0).testBit k) 0 segs).length, none⟩ :: st, r)
      | none => none
    | none => none

noncomputable def evFront (P : Program) (ev : Nat → Code → Tm → AHeap → Script → Res) (ops : Array Oper) (pl ids : List Nat) (Hf H0 : AHeap) (l : List Oper) :
    Nat → Tm → List AHeap → Script → Option (List Prop × List FStep × Tm × Script) :=
  List.rec (fun _ ts _ scr => some ([], [], ts, scr)) (fun o _ ih => evFrontOne P ev ops pl ids Hf H0 o ih) l

def cutTold (pl : List Nat) : Script → Nat × Script
  | .cut t :: s => (t, s)
  | s => (frontLen pl, s)

def privTold : Script → List Nat × Script
  | .priv ids :: s => (ids, s)
  | s => ([], s)

noncomputable def evDraw (P : Program) (ev : Nat → Code → Tm → AHeap → Script → Res) (ops : Array Oper) (ts : Tm) (h : AHeap) (scr : Script) : Option (List Prop × Tm × AHeap × Script) :=
  let pl := waitsAll ops.toList 0 []
  let t := (cutTold pl scr).1
  let s := (cutTold pl scr).2
  if P.follows .mixedOrders && waitsOk pl ops.toList 0 && tailOk ops pl t && apartOk ops pl (ops.toList.take t) 0 then
    match evFront P ev ops pl (privTold s).1 h (maskIds (privTold s).1 h) (ops.toList.take t) 0 ts [] (privTold s).2 with
    | some (ob, st, ts1, scr1) =>
      match eqIds (privIds st) (privTold s).1 && (nodupB (privIds st) && privChk st) with
      | true => addObs ob (evOps P ev ops (ops.toList.drop t) ts1 (privSet st h ++ (st.map (·.new)).flatten) scr1)
      | false => none
    | none => none
  else none

section
variable {P : Program}

theorem only_rep {E : Env} {T : Tm} {l : List Tmp} {a : Array Value} (h : ∀ x, x ∈ l → Rep E (T.get x) (a.getD x undef)) (hn : T.n = a.size) (hle : T.n ≤ 4000) : RepT E (T.only l) a := by
  suffices H : ∀ (l : List Tmp) (U : Tm), (∀ x, x ∈ l → Rep E (T.get x) (a.getD x undef)) → RepT E U a → RepT E (l.foldl (fun U k => U.put k (T.get k)) U) a by
    exact H l _ h ⟨hn, hle, fun k => by show Rep E junk _; exact .junk _⟩
  intro l
  induction l with
  | nil => intro U _ hU; exact hU
  | cons x l ih =>
    intro U hx hU
    refine ih (U.put x (T.get x)) (fun y hy => hx y (List.mem_cons_of_mem _ hy)) ?_
    refine ⟨by rw [Tm.put_n]; exact hU.n, by rw [Tm.put_n]; exact hU.le, fun k => ?_⟩
    rw [Tm.get_put _ _ _ _ hU.le]
    split
    · rename_i hk
      obtain ⟨rfl, _⟩ := hk
      exact hx k (List.mem_cons_self ..)
    · exact hU.get k

theorem offs_append : ∀ (l m : List AHeap) (k : Nat), k ≤ l.length → offs (l ++ m) k = offs l k
  | _, _, 0, _ => by simp [offs]
  | [], _, k + 1, h => by simp at h
  | s :: r, m, k + 1, h => by simp only [List.cons_append, offs]; rw [offs_append r m k (by simpa using h)]

theorem allowed_spec (keep : Nat → Bool) : ∀ (k0 : Nat) (l : List AHeap) (i : Nat), allowed keep k0 l i = true → ∃ k s, keep (k0 + k) = true ∧ l[k]? = some s ∧ offs l k ≤ i ∧ i < offs l k + s.length
  | _, [], _, h => Bool.noConfusion h
  | k0, s :: r, i, h => by
    simp only [allowed] at h
    split at h
    · rename_i hi
      exact ⟨0, s, h, by simp, by simp [offs], by simp only [offs]; omega⟩
    · rename_i hi
      obtain ⟨k, s', h1, h2, h3, h4⟩ := allowed_spec keep (k0 + 1) r _ h
      exact ⟨k + 1, s', by rw [← h1]; congr 1; omega, by simpa using h2, by simp only [offs]; omega, by simp only [offs]; omega⟩
theorem evFront_sound {ev : Nat → Code → Tm → AHeap → Script → Res} (hev : EvOk P ev) (ops : Array Oper) (pl ids : List Nat) (Hf H0 : AHeap) : ∀ (l : List Oper) (j : Nat) (ts : Tm) (segs : List AHeap) (scr : Script) (ob : List Prop) (st : List FStep) (ts' : Tm) (scr' : Script),
    evFront P ev ops pl ids Hf H0 l j ts segs scr = some (ob, st, ts', scr') → AllP ob → segs.length = j →
    st.length = l.length ∧ (∀ (i : Nat) (s : FStep), st[i]? = some s → l[i]? = some s.o) ∧
    ∃ T : Nat → Tm, T 0 = ts ∧ (∀ (i : Nat) (s : FStep), st[i]? = some s → T (i + 1) = putD (T i) s.o.dst s.v) ∧ T st.length = ts' ∧
      ∀ (i : Nat) (s : FStep), st[i]? = some s →
        (∀ (E : Env) (w : World) (a : Act), Good E (H0 ++ maskSegs (fun k => (pl.getD (j + i) 0).testBit k) 0 (segs ++ (st.map (·.new)).take i)) w → (∀ x, x ∈ s.o.looksAt ops → Rep E ((T i).get x) (a.tmps.getD x undef)) → (T i).n = a.tmps.size → (T i).n ≤ 4000 →
          Region.wanted s.o (yielded ops a.tmps) = s.go ∧
          (s.go = true → s.pst = none → OpNext P E (H0 ++ maskSegs (fun k => (pl.getD (j + i) 0).testBit k) 0 (segs ++ (st.map (·.new)).take i)) w s.o a s.v ((H0 ++ maskSegs (fun k => (pl.getD (j + i) 0).testBit k) 0 (segs ++ (st.map (·.new)).take i)) ++ s.new)) ∧
          (s.go = false → s.v = undef ∧ s.new = []) ∧ (∀ p, s.pst = some p → PrivOk P ops (T i) w s a p)) ∧
        okIds (allowedId H0.length (fun k => Nat.beq k (j + i) || (pl.getD (j + i) 0).testBit k) (segs ++ (st.map (·.new)).take (i + 1))) s.v = true ∧
        (∀ o ∈ s.new, okObj (allowedId H0.length (fun k => Nat.beq k (j + i) || (pl.getD (j + i) 0).testBit k) (segs ++ (st.map (·.new)).take (i + 1))) o = true ∧ (o.live → o.own)) ∧
        (∀ p, s.pst = some p → Hf[p.i]? = some (.cells p.old p.e p.sz))
  | [], j, ts, segs, scr, ob, st, ts', scr', he, ho, hj => by
    have he' : some (([] : List Prop), ([] : List FStep), ts, scr) = some (ob, st, ts', scr') := he
    simp only [Option.some.injEq, Prod.mk.injEq] at he'
    obtain ⟨_, rfl, rfl, _⟩ := he'
    exact ⟨rfl, by simp, fun _ => ts, rfl, by simp, rfl, by simp⟩
  | o :: l, j, ts, segs, scr, ob, st, ts', scr', he, ho, hj => by
    have he' : evFrontOne P ev ops pl ids Hf H0 o (evFront P ev ops pl ids Hf H0 l) j ts segs scr = some (ob, st, ts', scr') := he
    -- from the first step and the rest
    have join : ∀ (s0 : FStep) (st0 : List FStep) (ob2 : List Prop) (scr1 : Script), s0.o = o → st = s0 :: st0 → evFront P ev ops pl ids Hf H0 l (j + 1) (putD ts o.dst s0.v) (segs ++ [s0.new]) scr1 = some (ob2, st0, ts', scr') → AllP ob2 →
        ((∀ (E : Env) (w : World) (a : Act), Good E (H0 ++ maskSegs (fun k => (pl.getD j 0).testBit k) 0 segs) w → (∀ x, x ∈ o.looksAt ops → Rep E (ts.get x) (a.tmps.getD x undef)) → ts.n = a.tmps.size → ts.n ≤ 4000 →
          Region.wanted o (yielded ops a.tmps) = s0.go ∧
          (s0.go = true → s0.pst = none → OpNext P E (H0 ++ maskSegs (fun k => (pl.getD j 0).testBit k) 0 segs) w o a s0.v ((H0 ++ maskSegs (fun k => (pl.getD j 0).testBit k) 0 segs) ++ s0.new)) ∧
          (s0.go = false → s0.v = undef ∧ s0.new = []) ∧ (∀ p, s0.pst = some p → PrivOk P ops ts w s0 a p)) ∧
        okIds (allowedId H0.length (fun k => Nat.beq k j || (pl.getD j 0).testBit k) (segs ++ [s0.new])) s0.v = true ∧
        (∀ o ∈ s0.new, okObj (allowedId H0.length (fun k => Nat.beq k j || (pl.getD j 0).testBit k) (segs ++ [s0.new])) o = true ∧ (o.live → o.own)) ∧ (∀ p, s0.pst = some p → Hf[p.i]? = some (.cells p.old p.e p.sz))) →
        st.length = (o :: l).length ∧ (∀ (i : Nat) (s : FStep), st[i]? = some s → (o :: l)[i]? = some s.o) ∧
        ∃ T : Nat → Tm, T 0 = ts ∧ (∀ (i : Nat) (s : FStep), st[i]? = some s → T (i + 1) = putD (T i) s.o.dst s.v) ∧ T st.length = ts' ∧
          ∀ (i : Nat) (s : FStep), st[i]? = some s →
            (∀ (E : Env) (w : World) (a : Act), Good E (H0 ++ maskSegs (fun k => (pl.getD (j + i) 0).testBit k) 0 (segs ++ (st.map (·.new)).take i)) w → (∀ x, x ∈ s.o.looksAt ops → Rep E ((T i).get x) (a.tmps.getD x undef)) → (T i).n = a.tmps.size → (T i).n ≤ 4000 →
              Region.wanted s.o (yielded ops a.tmps) = s.go ∧
              (s.go = true → s.pst = none → OpNext P E (H0 ++ maskSegs (fun k => (pl.getD (j + i) 0).testBit k) 0 (segs ++ (st.map (·.new)).take i)) w s.o a s.v ((H0 ++ maskSegs (fun k => (pl.getD (j + i) 0).testBit k) 0 (segs ++ (st.map (·.new)).take i)) ++ s.new)) ∧
              (s.go = false → s.v = undef ∧ s.new = []) ∧ (∀ p, s.pst = some p → PrivOk P ops (T i) w s a p)) ∧
            okIds (allowedId H0.length (fun k => Nat.beq k (j + i) || (pl.getD (j + i) 0).testBit k) (segs ++ (st.map (·.new)).take (i + 1))) s.v = true ∧
            (∀ o ∈ s.new, okObj (allowedId H0.length (fun k => Nat.beq k (j + i) || (pl.getD (j + i) 0).testBit k) (segs ++ (st.map (·.new)).take (i + 1))) o = true ∧ (o.live → o.own)) ∧ (∀ p, s.pst = some p → Hf[p.i]? = some (.cells p.old p.e p.sz)) := by
      intro s0 st0 ob2 scr1 hso hst hrest ho2 hfact
      subst hst
      obtain ⟨r1, r2, T, t0, t1, t2, t3⟩ := evFront_sound hev ops pl ids Hf H0 l (j + 1) _ _ _ _ _ _ _ hrest ho2 (by simp [hj])
      refine ⟨by simp [r1], ?_, fun | 0 => ts | i + 1 => T i, rfl, ?_, t2, ?_⟩
      · intro i s hs
        cases i with
        | zero => simp only [List.getElem?_cons_zero, Option.some.injEq] at hs ⊢; subst hs; exact hso.symm
        | succ i => simp only [List.getElem?_cons_succ] at hs ⊢; exact r2 i s hs
      · intro i s hs
        cases i with
        | zero => simp only [List.getElem?_cons_zero, Option.some.injEq] at hs; subst hs; rw [hso]; exact t0
        | succ i => simp only [List.getElem?_cons_succ] at hs; exact t1 i s hs
      · intro i s hs
        cases i with
        | zero =>
          simp only [List.getElem?_cons_zero, Option.some.injEq] at hs
          subst hs
          simp only [Nat.add_zero, List.take_zero, List.append_nil, List.map_cons, List.take_succ_cons, hso]
          exact hfact
        | succ i =>
          simp only [List.getElem?_cons_succ] at hs
          have := t3 i s hs
          have e1 : ∀ m : List AHeap, (segs ++ [s0.new]) ++ m = segs ++ s0.new :: m := fun m => by simp
          simp only [e1] at this
          simp only [List.map_cons, List.take_succ_cons]
          rw [show j + (i + 1) = j + 1 + i by omega]
          exact this
    unfold evFrontOne at he'
    split at he'
    · simp at he'
    · rename_i ob0 ts1 scr1 hg
      split at he'
      · rename_i ob2 st0 r hnext
        simp only [Option.some.injEq, Prod.mk.injEq] at he'
        obtain ⟨rfl, rfl, rfl, rfl⟩ := he'
        obtain ⟨o1, o2⟩ := ho.append
        refine join ⟨o, false, undef, [], none⟩ st0 ob2 scr1 rfl rfl hnext o2 ⟨?_, rfl, by simp, fun p hp => by simp at hp⟩
        intro E w a g hr hn hle
        obtain ⟨w1, _⟩ := evGuard_sound (only_rep hr hn hle) hg o1
        exact ⟨w1, fun h => Bool.noConfusion h, fun _ => ⟨rfl, rfl⟩, fun p hp => by simp at hp⟩
      · simp at he'
    · rename_i ob0 ts1 scr1 hg
      split at he'
      · rename_i ob1 v p scr2 hpv
        split at he'
        · rename_i ob3 v3 x3 scr3 his
          split at he'
          · rename_i hid
            split at he'
            · rename_i ob2 st0 r hnext
              simp only [Option.some.injEq, Prod.mk.injEq] at he'
              obtain ⟨rfl, rfl, rfl, rfl⟩ := he'
              obtain ⟨o1, o2⟩ := ho.append
              obtain ⟨o3, o4⟩ := o2.append
              obtain ⟨ob0', s0', h0', ho0'⟩ := evIs_some his o3
              simp only [Option.some.injEq, Prod.mk.injEq] at h0'
              obtain ⟨rfl, rfl, rfl, rfl⟩ := h0'
              obtain ⟨k1, k2⟩ := evPriv_sound hev hpv ho0'
              refine join ⟨o, true, v, [], some p⟩ st0 ob2 scr3 rfl rfl hnext o4 ⟨?_, hid, by simp, fun q hq => by simp only [Option.some.injEq] at hq; subst hq; exact k1⟩
              intro E w a g hr hn hle
              obtain ⟨w1, _⟩ := evGuard_sound (only_rep hr hn hle) hg o1
              refine ⟨w1, fun _ hh => by simp at hh, fun h => Bool.noConfusion h, fun q hq => ?_⟩
              simp only [Option.some.injEq] at hq
              subst hq
              refine ⟨rfl, rfl, fun E2 hr2 h g2 hi => ?_⟩
              exact k2 (evGuard_sound (only_rep hr2 hn hle) hg o1).2 g2 hi
            · simp at he'
          · simp at he'
        · simp at he'
      split at he'
      · -- a quiet one
        rename_i hq
        split at he'
        · rename_i ob1 v scr2 hany
          split at he'
          · rename_i hid
            split at he'
            · rename_i ob2 st0 r hnext
              simp only [Option.some.injEq, Prod.mk.injEq] at he'
              obtain ⟨rfl, rfl, rfl, rfl⟩ := he'
              obtain ⟨o1, o2⟩ := ho.append
              obtain ⟨o3, o8⟩ := o2.append
              refine join ⟨o, true, v, [], none⟩ st0 ob2 scr2 rfl rfl hnext o8 ⟨?_, hid, by simp, fun p hp => by simp at hp⟩
              intro E w a g hr hn hle
              obtain ⟨w1, w2⟩ := evGuard_sound (only_rep hr hn hle) hg o1
              refine ⟨w1, fun _ _ => ?_, fun h => Bool.noConfusion h, fun p hp => by simp at hp⟩
              show OpNext P E _ w o a v _
              rw [List.append_nil]
              unfold evQuiet at hany
              split at hany
              · rename_i ob1' v' hx s' hev1
                simp only [Option.some.injEq, Prod.mk.injEq] at hany
                obtain ⟨rfl, rfl, rfl⟩ := hany
                obtain ⟨ob0', s0', h0', ho0'⟩ := evIs_some hev1 o3
                obtain ⟨hi, ob', h1, ho1'⟩ := evHinted_some h0' ho0'
                have := quiet_same hq h1
                subst this
                exact opNext_op (evOp_sound g w2 h1 ho1')
              · simp at hany
            · simp at he'
          · simp at he'
        · simp at he'
      split at he'
      · rename_i ob1 v h1 scr2 hany
        split at he'
        · rename_i ob2 st0 r hnext
          simp only [Option.some.injEq, Prod.mk.injEq] at he'
          obtain ⟨rfl, rfl, rfl, rfl⟩ := he'
          obtain ⟨o1, o2⟩ := ho.append
          obtain ⟨o3, o4⟩ := o2.append
          obtain ⟨o9, o8⟩ := o4.append
          obtain ⟨o5, o10⟩ := o9.append
          obtain ⟨o6, o7, _⟩ := bs_all o10
          replace o5 : h1.take (H0 ++ maskSegs (fun k => (pl.getD j 0).testBit k) 0 segs).length = H0 ++ maskSegs (fun k => (pl.getD j 0).testBit k) 0 segs := by
            cases hq : isStill o scr1 with
            | true => exact evAny_still hq hany
            | false => rw [hq] at o5; exact sameObs_eq o5
          refine join ⟨o, true, v, _, none⟩ st0 ob2 _ rfl rfl hnext o8 ⟨?_, o6, ?_, fun p hp => by simp at hp⟩
          · intro E w a g hr hn hle
            obtain ⟨w1, w2⟩ := evGuard_sound (only_rep hr hn hle) hg o1
            refine ⟨w1, fun _ _ => ?_, fun h => Bool.noConfusion h, fun p hp => by simp at hp⟩
            have hh : h1 = (H0 ++ maskSegs (fun k => (pl.getD j 0).testBit k) 0 segs) ++ ldrop h1 (H0 ++ maskSegs (fun k => (pl.getD j 0).testBit k) 0 segs).length := by
              rw [ldrop_eq]
              conv => lhs; rw [← List.take_append_drop (H0 ++ maskSegs (fun k => (pl.getD j 0).testBit k) 0 segs).length h1]
              rw [o5]
            show OpNext P E _ w o a v _
            rw [← hh]
            exact any_next hev g w2 hany o3
          · intro ob hob
            have := List.all_eq_true.1 o7 ob hob
            simp only [Bool.and_eq_true] at this
            refine ⟨this.2, fun hl => ?_⟩
            cases ob with
            | ro => exact Bool.noConfusion this.1
            | cells => exact trivial
            | row => exact hl
            | mp => exact trivial
            | gone => exact hl.elim
        · simp at he'
      · simp at he'

theorem testBit_or_fold (pl : List Nat) (i : Nat) : ∀ (l : List Edge) (s k : Nat), (l.foldl (fun s e => if Region.binds .any e then (s ||| 2 ^ e.on) ||| (if e.on < i then pl.getD e.on 0 else 0) else s) s).testBit k = true →
    s.testBit k = true ∨ ∃ e ∈ l, Region.binds .any e = true ∧ (k = e.on ∨ (e.on < i ∧ (pl.getD e.on 0).testBit k = true))
  | [], s, k, h => .inl h
  | e :: l, s, k, h => by
    simp only [List.foldl_cons] at h
    rcases testBit_or_fold pl i l _ k h with h1 | ⟨e', h1, h2, h3⟩
    · split at h1
      · rename_i hb
        rw [Nat.testBit_or, Nat.testBit_or, Bool.or_eq_true, Bool.or_eq_true] at h1
        rcases h1 with (h1 | h1) | h1
        · exact .inl h1
        · refine .inr ⟨e, List.mem_cons_self .., hb, .inl ?_⟩
          rw [Nat.testBit_two_pow] at h1
          exact (of_decide_eq_true h1).symm
        · split at h1
          · rename_i hlt
            exact .inr ⟨e, List.mem_cons_self .., hb, .inr ⟨hlt, h1⟩⟩
          · simp at h1
      · exact .inl h1
    · exact .inr ⟨e', List.mem_cons_of_mem _ h1, h2, h3⟩

theorem waitsOk_spec (pl : List Nat) : ∀ (l : List Oper) (i0 : Nat), waitsOk pl l i0 = true → ∀ (k : Nat) (o : Oper), l[k]? = some o → pl.getD (i0 + k) 0 = waits pl (i0 + k) o ∧ ∀ e ∈ o.after, Region.binds .any e = true → e.on < i0 + k
  | [], _, _, k, o, h => by simp at h
  | p :: l, i0, hok, k, o, h => by
    simp only [waitsOk, Bool.and_eq_true, beq_iff_eq] at hok
    cases k with
    | zero =>
      simp only [List.getElem?_cons_zero, Option.some.injEq] at h
      subst h
      refine ⟨by simpa using hok.1.1, fun e he hb => ?_⟩
      have := Array.all_eq_true_iff_forall_mem.1 hok.1.2 e he
      simpa [hb] using this
    | succ k =>
      simp only [List.getElem?_cons_succ] at h
      have := waitsOk_spec pl l (i0 + 1) hok.2 k o h
      rw [show i0 + (k + 1) = i0 + 1 + k by omega]
      exact this

def Closed (ops : Array Oper) (S : Nat → Bool) : Prop := ∀ (i : Nat) (o : Oper), ops[i]? = some o → S i = true → ∀ e ∈ o.after, Region.binds .any e = true → S e.on = true
theorem waits_done {ops : Array Oper} {pl : List Nat} (hok : waitsOk pl ops.toList 0 = true) {S : Nat → Bool} (hc : Closed ops S) : ∀ (i : Nat) (o : Oper), ops[i]? = some o → (∀ e ∈ o.after, Region.binds .any e = true → S e.on = true) → ∀ k, (pl.getD i 0).testBit k = true → S k = true ∧ k < i := by
  intro i
  induction i using Nat.strongRecOn with
  | _ i ih =>
    intro o ho hdir k hk
    obtain ⟨h1, h2⟩ := waitsOk_spec pl ops.toList 0 hok i o (by simpa using ho)
    simp only [Nat.zero_add] at h1 h2
    rw [h1] at hk
    unfold waits at hk
    rcases testBit_or_fold pl i _ _ k hk with h | ⟨e, q1, q2, q3⟩
    · simp at h
    · have he : e ∈ o.after := by simpa using q1
      have hlt := h2 e he q2
      rcases q3 with rfl | ⟨q3, q4⟩
      · exact ⟨hdir e he q2, hlt⟩
      · have hel : e.on < ops.size := Nat.lt_trans hlt (Array.getElem?_eq_some_iff.1 ho).1
        have := ih e.on hlt ops[e.on] (Array.getElem?_eq_getElem hel) (hc e.on _ (Array.getElem?_eq_getElem hel) (hdir e he q2)) k q4
        exact ⟨this.1, by omega⟩

theorem apartOk_spec (ops : Array Oper) (pl : List Nat) : ∀ (l : List Oper) (j0 : Nat), apartOk ops pl l j0 = true → ∀ (q : Nat) (o : Oper), l[q]? = some o → ∀ (i : Nat) (p : Oper), i < j0 + q → ops[i]? = some p → (pl.getD (j0 + q) 0).testBit i = true ∨ p.apart ops o = true
  | [], _, _, q, o, h, _, _, _, _ => by simp at h
  | x :: l, j0, hok, q, o, h, i, p, hi, hp => by
    simp only [apartOk, Bool.and_eq_true] at hok
    cases q with
    | zero =>
      simp only [List.getElem?_cons_zero, Option.some.injEq] at h
      subst h
      have hm : (p, i) ∈ (ops.toList.take j0).zipIdx := by
        rw [List.mem_zipIdx_iff_getElem?]
        simp only [List.getElem?_take]
        rw [if_pos (by omega)]
        simpa using hp
      have := List.all_eq_true.1 hok.1 _ hm
      simpa using this
    | succ q =>
      simp only [List.getElem?_cons_succ] at h
      have := apartOk_spec ops pl l (j0 + 1) hok.2 q o h i p (by omega) hp
      rw [show j0 + (q + 1) = j0 + 1 + q by omega]
      exact this

end
end Go.AX

namespace Go.AX

section
variable {P : Program}

theorem unlisted_zero {ops : Array Oper} {pl : List Nat} (hok : waitsOk pl ops.toList 0 = true) {listed : Array Bool} (hs : listed.size = ops.size) (hr : Region.ready .any ops listed = []) : ∀ (n i : Nat), i < n → i < ops.size → listed.getD i true = true
  | 0, i, h, _ => by omega
  | n + 1, i, h, hi => by
    cases hl : listed.getD i true with
    | true => rfl
    | false =>
      exfalso
      have hm : i ∈ Region.ready .any ops listed := by
        rw [mem_ready]
        refine ⟨hl, ops[i], Array.getElem?_eq_getElem hi, fun e he hb => ?_⟩
        have hlt := (waitsOk_spec pl ops.toList 0 hok i ops[i] (by simp [hi])).2 e he hb
        simp only [Nat.zero_add] at hlt
        have := unlisted_zero hok hs hr n e.on (by omega) (by omega)
        rw [Array.getD_eq_getD_getElem?] at this ⊢
        rw [Array.getElem?_eq_getElem (by omega : e.on < listed.size)] at this ⊢
        exact this
      rw [hr] at hm
      simp at hm

def SOf (listed : Array Bool) : Nat → Bool := fun i => listed.getD i false

theorem SOf_set {listed : Array Bool} {j : Nat} (hj : j < listed.size) : SOf (listed.setIfInBounds j true) = fun k => SOf listed k || Nat.beq k j := by
  funext k
  unfold SOf
  by_cases e : k = j
  · subst e
    rw [Array.getD_eq_getD_getElem?, Array.getElem?_setIfInBounds_self_of_lt hj]
    simp
  · rw [Array.getD_eq_getD_getElem?, Array.getElem?_setIfInBounds_ne (Ne.symm e), ← Array.getD_eq_getD_getElem?]
    have : Nat.beq k j = false := by
      cases hb : Nat.beq k j
      · rfl
      · exact absurd (Nat.eq_of_beq_eq_true hb) e
    simp [this]

theorem getD_tf {listed : Array Bool} {i : Nat} (h : i < listed.size) : listed.getD i true = listed.getD i false := by
  rw [Array.getD_eq_getD_getElem?, Array.getD_eq_getD_getElem?, Array.getElem?_eq_getElem h]
  rfl

theorem closed_set {ops : Array Oper} {listed : Array Bool} {j : Nat} (hs : listed.size = ops.size) (hc : Closed ops (SOf listed)) (hj : j ∈ Region.ready .any ops listed) : Closed ops (SOf (listed.setIfInBounds j true)) := by
  rw [mem_ready] at hj
  obtain ⟨h0, o, ho, hall⟩ := hj
  have hjl : j < listed.size := by rw [hs]; exact (Array.getElem?_eq_some_iff.1 ho).1
  rw [SOf_set hjl]
  intro i p hp hi e he hb
  simp only [Bool.or_eq_true] at hi ⊢
  rcases hi with hi | hi
  · exact .inl (hc i p hp hi e he hb)
  · have := Nat.eq_of_beq_eq_true hi
    subst this
    rw [ho] at hp
    obtain rfl := Option.some.inj hp
    exact .inl (hall e he hb)

theorem pow_bits {n k : Nat} (h : k < n) : (2 ^ n - 1).testBit k = true := by
  rw [Nat.testBit_two_pow_sub_one]
  simpa using h

theorem forced_spec {pl : List Nat} {n t j : Nat} (h : forcedFrom pl n t = true) (hj : j < n) (ht : t ≤ j) : pl.getD j 0 = 2 ^ j - 1 := by
  unfold forcedFrom at h
  have := List.all_eq_true.1 h j (List.mem_range.2 hj)
  simp only [Bool.or_eq_true, decide_eq_true_eq, beq_iff_eq] at this
  rcases this with h1 | h1
  · omega
  · exact h1

theorem tail_spec {ops : Array Oper} {pl : List Nat} {t : Nat} (h : tailOk ops pl t = true) : ∀ j, j < ops.size → t ≤ j → ∀ i, i < j → (pl.getD j 0).testBit i = true ∨ (i < t ∧ pureFree ops pl i = true ∧ Region.noSelect ops = true) := by
  intro j hj htj i hi
  unfold tailOk at h
  simp only [Bool.or_eq_true, Bool.and_eq_true] at h
  rcases h with h | ⟨h, hs⟩
  · left
    rw [forced_spec h (by simpa using hj) htj]
    exact pow_bits hi
  · unfold mixFrom at h
    have h1 := List.all_eq_true.1 h j (List.mem_range.2 (by simpa using hj))
    simp only [Bool.or_eq_true, decide_eq_true_eq] at h1
    rcases h1 with h1 | h1
    · omega
    · have h2 := List.all_eq_true.1 h1 i (List.mem_range.2 hi)
      simp only [Bool.or_eq_true, Bool.and_eq_true, decide_eq_true_eq] at h2
      rcases h2 with h2 | ⟨h2, h3⟩
      · exact .inl h2
      · exact .inr ⟨h2, h3, hs⟩

theorem least_missing (f : Nat → Bool) : ∀ n, (∀ k, k < n → f k = true) ∨ ∃ i, i < n ∧ f i = false ∧ ∀ k, k < i → f k = true
  | 0 => .inl fun k hk => by omega
  | n + 1 => by
    rcases least_missing f n with h | ⟨i, h1, h2, h3⟩
    · cases hn : f n with
      | true =>
        refine .inl fun k hk => ?_
        rcases Nat.lt_or_ge k n with h4 | h4
        · exact h k h4
        · rw [show k = n by omega]; exact hn
      | false => exact .inr ⟨n, by omega, hn, h⟩
    · exact .inr ⟨i, by omega, h2, h3⟩

theorem pure_run {o : Oper} (ho : pureOp o.op = true) (f : Operand → Value) : (∃ v, ∀ w, (execOp f o).run P w = .ok (.value v) w) ∨ ∀ w a K, ¬ o.upon P a K (fun _ _ _ => False) ((execOp f o).run P w) := by
  cases hop : o.op with
  | move x => exact .inl ⟨f x, fun w => by simp only [execOp, hop]; rfl⟩
  | assign x => exact .inl ⟨f x, fun w => by simp only [execOp, hop]; rfl⟩
  | extract x i =>
    cases hx : f x with
    | tuple c =>
      cases hc : c[i]? with
      | some v => exact .inl ⟨v, fun w => by simp [execOp, hop, Instr.extract, hx, hc]⟩
      | none => exact .inr fun w a K => by simp [execOp, hop, Instr.extract, hx, hc, Oper.upon, stuck]
    | _ => exact .inr fun w a K => by simp [execOp, hop, Instr.extract, hx, Oper.upon, stuck]
  | _ => rw [hop] at ho; exact Bool.noConfusion ho

theorem free_mono {ops : Array Oper} {pl : List Nat} {listed : Array Bool} {i : Nat} {o : Oper} (ho : ops[i]? = some o)
    (h : ((List.range ops.size).all fun j => j == i || (pl.getD i 0).testBit j || match ops[j]? with
      | some oj => oj.after.any (fun e => Region.binds .any e && e.on == i) || o.apart ops oj
      | none => true) = true) (hb : ∀ j, (pl.getD i 0).testBit j = true → listed.getD j true = true) : Region.free .any ops listed i = true := by
  unfold Region.free
  rw [ho]
  simp only
  rw [List.all_eq_true] at h ⊢
  intro j hj
  have h1 := h j hj
  simp only [Bool.or_eq_true] at h1 ⊢
  rcases h1 with (h1 | h1) | h1
  · exact .inl (.inl h1)
  · exact .inl (.inr (hb j h1))
  · exact .inr h1
theorem tail_any {ops : Array Oper} {pl : List Nat} (hok : waitsOk pl ops.toList 0 = true) {t : Nat} (hf : ∀ j, j < ops.size → t ≤ j → ∀ i, t ≤ i → i < j → (pl.getD j 0).testBit i = true) {Q : Exit → Act → World → Prop} :
    ∀ (d j : Nat) (listed : Array Bool) (fuel : Nat) (a : Act) (w : World), ops.size - j = d → t ≤ j → listed.size = ops.size → (∀ i, i < ops.size → listed.getD i true = decide (i < j)) → d ≤ fuel →
      wpList P ops Q (ops.toList.drop j) a w → wpAny P .any ops Q fuel listed a w
  | 0, j, listed, fuel, a, w, hd, ht, hs, hl, hfu, hw => by
    have hdrop : ops.toList.drop j = [] := by apply List.drop_eq_nil_of_le; simp; omega
    rw [hdrop] at hw
    have hr : Region.ready .any ops listed = [] := by
      apply List.eq_nil_iff_forall_not_mem.2
      intro i hi
      rw [mem_ready] at hi
      obtain ⟨h0, o, ho, _⟩ := hi
      have hil := (Array.getElem?_eq_some_iff.1 ho).1
      rw [hl i hil] at h0
      simp at h0
      omega
    cases fuel with
    | zero => exact ⟨hr, hw⟩
    | succ f => exact ⟨fun _ => hw, fun i hi => by rw [hr] at hi; simp at hi⟩
  | d + 1, j, listed, fuel, a, w, hd, ht, hs, hl, hfu, hw => by
    have hj : j < ops.size := by omega
    obtain ⟨f, rfl⟩ : ∃ f, fuel = f + 1 := ⟨fuel - 1, by omega⟩
    have hS : ∀ i, i < ops.size → (SOf listed i = true ↔ i < j) := by
      intro i hi
      unfold SOf
      rw [← getD_tf (by omega), hl i hi]
      simp
    have hc : Closed ops (SOf listed) := by
      intro i o ho hi e he hb
      have hil := (Array.getElem?_eq_some_iff.1 ho).1
      have hlt := (waitsOk_spec pl ops.toList 0 hok i o (by simpa using ho)).2 e he hb
      simp only [Nat.zero_add] at hlt
      exact (hS e.on (by omega)).2 (by have := (hS i hil).1 hi; omega)
    have hjr : j ∈ Region.ready .any ops listed := by
      rw [mem_ready]
      refine ⟨by rw [hl j hj]; simp, ops[j], Array.getElem?_eq_getElem hj, fun e he hb => ?_⟩
      have hlt := (waitsOk_spec pl ops.toList 0 hok j ops[j] (by simp [hj])).2 e he hb
      simp only [Nat.zero_add] at hlt
      exact (hS e.on (by omega)).2 hlt
    refine ⟨fun h => by rw [h] at hjr; simp at hjr, fun i hi => ?_⟩
    have hij : i = j := by
      rw [mem_ready] at hi
      obtain ⟨h0, o, ho, hall⟩ := hi
      have hil := (Array.getElem?_eq_some_iff.1 ho).1
      rw [hl i hil] at h0
      simp only [decide_eq_false_iff_not] at h0
      rcases Nat.lt_trichotomy i j with h | h | h
      · exact absurd h h0
      · exact h
      · have hb : (pl.getD i 0).testBit j = true := by
          exact hf i hil (by omega) j (by omega) h
        have := (waits_done hok hc i o ho hall j hb).1
        rw [hS j hj] at this
        omega
    subst hij
    have hcons : ops.toList.drop i = ops[i] :: ops.toList.drop (i + 1) := by
      rw [List.drop_eq_getElem_cons (by simpa using hj)]
      simp
    rw [hcons] at hw
    have hl' : ∀ k, k < ops.size → (listed.setIfInBounds i true).getD k true = decide (k < i + 1) := by
      intro k hk
      by_cases e : k = i
      · subst e
        rw [Array.getD_eq_getD_getElem?, Array.getElem?_setIfInBounds_self_of_lt (by omega)]
        simp
      · rw [getD_set_ne true (Ne.symm e), hl k hk]
        apply decide_eq_decide.2
        omega
    have ih : ∀ a w, wpList P ops Q (ops.toList.drop (i + 1)) a w → wpAny P .any ops Q f (listed.setIfInBounds i true) a w := fun a w h =>
      tail_any hok hf d (i + 1) _ f a w (by omega) (by omega) (by simpa using hs) hl' (by omega) h
    unfold wpList at hw
    unfold wpOp
    rw [Array.getElem?_eq_getElem hj]
    simp only
    split
    · rename_i hwt
      rw [if_pos hwt] at hw
      exact hw.imp (Oper.wp_mono ih) id
    · rename_i hwt
      rw [if_neg hwt] at hw
      exact ih _ _ hw

theorem maskSegs_all {keep : Nat → Bool} : ∀ (k : Nat) (l : List AHeap), (∀ i, i < l.length → keep (k + i) = true) → maskSegs keep k l = l.flatten
  | _, [], _ => rfl
  | k, s :: r, h => by
    simp only [maskSegs, List.flatten_cons]
    rw [show keep k = true from by simpa using h 0 (by simp), maskSegs_all (k + 1) r (fun i hi => by have := h (i + 1) (by simpa using hi); rwa [show k + (i + 1) = k + 1 + i by omega] at this)]
    rfl
theorem front_of {ev : Nat → Code → Tm → AHeap → Script → Res} (hev : EvOk P ev) {ops : Array Oper} {pl ids : List Nat} {T0 : Tm} {Hf H0 : AHeap} {t : Nat} {scr scr' : Script} {ob : List Prop} {st : List FStep} {ts' : Tm}
    (hok : waitsOk pl ops.toList 0 = true) (hap : apartOk ops pl (ops.toList.take t) 0 = true) (ht : t ≤ ops.size) (hn : T0.n ≤ 4000)
    (he : evFront P ev ops pl ids Hf H0 (ops.toList.take t) 0 T0 [] scr = some (ob, st, ts', scr')) (ho : AllP ob) :
    st.length = t ∧ Front P ops T0 H0 st (fun j k => decide (j < t) && (pl.getD j 0).testBit k) ∧ ∃ T : Nat → Tm, T 0 = T0 ∧ (∀ (j : Nat) (s : FStep), st[j]? = some s → T (j + 1) = putD (T j) s.o.dst s.v) ∧ T st.length = ts' ∧ (∀ (j : Nat) (s : FStep) (p : PSt), st[j]? = some s → s.pst = some p → Hf[p.i]? = some (.cells p.old p.e p.sz)) := by
  obtain ⟨r1, r2, T, t0, t1, t2, t3⟩ := evFront_sound hev ops pl ids Hf H0 _ _ _ _ _ _ _ _ _ he ho rfl
  have hlen : st.length = t := by rw [r1]; simp; omega
  have hat : ∀ (j : Nat) (s : FStep), st[j]? = some s → ops[j]? = some s.o := by
    intro j s hs
    have := r2 j s hs
    rw [List.getElem?_take] at this
    split at this
    · simpa using this
    · simp at this
  have hjt : ∀ {j : Nat} {s : FStep}, st[j]? = some s → j < t := fun h => by rw [← hlen]; exact (List.getElem?_eq_some_iff.1 h).1
  have hTn : ∀ j, j ≤ st.length → (T j).n = T0.n := by
    intro j
    induction j with
    | zero => intro _; rw [t0]
    | succ j ih =>
      intro hj
      rw [t1 j st[j] (List.getElem?_eq_getElem (by omega))]
      unfold putD
      split
      · exact ih (by omega)
      · rw [Tm.put_n]; exact ih (by omega)
  have hpl : ∀ j k, j < t → (pl.getD j 0).testBit k = true → k < j := by
    intro j k hj hk
    have hjs : j < ops.size := by omega
    exact (waits_done hok (S := fun _ => true) (fun _ _ _ _ _ _ _ => rfl) j ops[j] (Array.getElem?_eq_getElem hjs) (fun _ _ _ => rfl) k hk).2
  have hkeep : ∀ j, j < t → (fun k => decide (j < t) && (pl.getD j 0).testBit k) = fun k => (pl.getD j 0).testBit k := by
    intro j hj; funext k; simp [hj]
  refine ⟨hlen, ⟨hat, ?_, ⟨T, t0, t1, ?_⟩, hn, ?_, ?_⟩, T, t0, t1, t2, fun j s p h1 h2 => (t3 j s h1).2.2.2 p h2⟩
  · intro j k h
    simp only [Bool.and_eq_true, decide_eq_true_eq] at h
    exact hpl j k h.1 h.2
  · intro j s hs E w a g hr hsz
    have := (t3 j s hs).1
    simp only [Nat.zero_add, List.nil_append] at this
    rw [hkeep j (hjt hs)] at g ⊢
    exact this E w a g hr hsz (by rw [hTn j (Nat.le_of_lt (List.getElem?_eq_some_iff.1 hs).1)]; exact hn)
  · intro i j si sj hij hi hj
    have hji := hjt hj
    have := apartOk_spec ops pl _ 0 hap j sj.o (r2 j sj hj) i si.o (by omega) (hat i si hi)
    simpa [hji] using this
  · intro j s hs
    obtain ⟨_, q1, q2, _⟩ := t3 j s hs
    simp only [Nat.zero_add, List.nil_append] at q1 q2
    refine ⟨_, q1, q2, fun i hi => ?_⟩
    unfold allowedId at hi
    simp only [Bool.or_eq_true, decide_eq_true_eq] at hi
    by_cases hib : i < H0.length
    · exact .inl hib
    · rcases hi with h | h
      · exact absurd h hib
      · obtain ⟨k, s', h1, h2, h3, h4⟩ := allowed_spec _ 0 _ _ h
        simp only [Nat.zero_add] at h1
        have hkl : k < j + 1 := by
          have := (List.getElem?_eq_some_iff.1 h2).1
          simp only [List.length_take] at this
          omega
        rw [List.getElem?_take_of_lt hkl] at h2
        have hof : offs ((st.map (·.new)).take (j + 1)) k = offs (st.map (·.new)) k := offs_take _ _ _ (by omega)
        rw [hof] at h3 h4
        refine .inr ⟨k, s', ?_, h2, by omega, by omega⟩
        rcases Bool.or_eq_true _ _ ▸ h1 with h | h
        · exact .inl (Nat.eq_of_beq_eq_true h)
        · exact .inr (by simp [hjt hs]; exact h)

theorem unl_set {listed : Array Bool} {n j : Nat} (hj : j < n) (hs : listed.size = n) (h : listed.getD j true = false) :
    ((List.range n).filter fun i => !(listed.setIfInBounds j true).getD i true).length + 1 = ((List.range n).filter fun i => !listed.getD i true).length := by
  have : ∀ (l : List Nat), l.Nodup → j ∈ l → (l.filter fun i => !(listed.setIfInBounds j true).getD i true).length + 1 = (l.filter fun i => !listed.getD i true).length := by
    intro l
    induction l with
    | nil => intro _ h; simp at h
    | cons x l ih =>
      intro hn hm
      simp only [List.nodup_cons] at hn
      by_cases e : x = j
      · subst e
        have hx : (listed.setIfInBounds x true).getD x true = true := by
          rw [Array.getD_eq_getD_getElem?, Array.getElem?_setIfInBounds_self_of_lt (by omega)]; rfl
        have hrest : l.filter (fun i => !(listed.setIfInBounds x true).getD i true) = l.filter fun i => !listed.getD i true := by
          apply List.filter_congr
          intro i hi
          have : x ≠ i := fun e => hn.1 (e ▸ hi)
          rw [getD_set_ne true this]
        rw [List.filter_cons_of_neg (by rw [hx]; simp), List.filter_cons_of_pos (by rw [h]; rfl), hrest]
        simp
      · have hm' : j ∈ l := by
          rcases List.mem_cons.1 hm with h | h
          · exact absurd h.symm e
          · exact h
        have := ih hn.2 hm'
        have hx : (listed.setIfInBounds j true).getD x true = listed.getD x true := getD_set_ne true (Ne.symm e)
        by_cases hb : listed.getD x true = true
        · rw [List.filter_cons_of_neg (by rw [hx, hb]; simp), List.filter_cons_of_neg (by rw [hb]; simp)]
          exact this
        · have hb' : listed.getD x true = false := by simpa using hb
          rw [List.filter_cons_of_pos (by rw [hx, hb']; rfl), List.filter_cons_of_pos (by rw [hb']; rfl)]
          simp only [List.length_cons]
          omega
  exact this _ List.nodup_range (List.mem_range.2 hj)
noncomputable def frontOk (P : Program) (ops : Array Oper) (t : Nat) : Bool :=
  P.follows .mixedOrders && waitsOk (waitsAll ops.toList 0 []) ops.toList 0 && tailOk ops (waitsAll ops.toList 0 []) t && apartOk ops (waitsAll ops.toList 0 []) (ops.toList.take t) 0
theorem draw_gen {ev : Nat → Code → Tm → AHeap → Script → Res} (hev : EvOk P ev) {id m t0 : Nat} {ops : Array Oper} {ts : Tm} {h : AHeap} {scr scr1 : Script} {ob0 : List Prop} {st : List FStep} {ts1 : Tm}
    (hchk : frontOk P ops t0 = true)
    (hfr : evFront P ev ops (waitsAll ops.toList 0 []) (privTold scr).1 h (maskIds (privTold scr).1 h) (ops.toList.take t0) 0 ts [] (privTold scr).2 = some (ob0, st, ts1, scr1))
    (hpv : (eqIds (privIds st) (privTold scr).1 && (nodupB (privIds st) && privChk st)) = true) (o1 : AllP ob0) (K : Tm → AHeap → Prop)
    (rest : ∀ (E1 : Env) (w1 : World) (a1 : Act) (Q : Exit → Act → World → Prop), Good E1 (privSet st h ++ (st.map (·.new)).flatten) w1 → RepT E1 ts1 a1.tmps → a1.defers = [] →
      (∀ ts' h' E' w' a', K ts' h' → Good E' h' w' → Evol E1.n E1 (privSet st h ++ (st.map (·.new)).flatten) w1 E' h' w' → RepT E' ts' a'.tmps → a'.defers = [] → Q .normal a' w') →
      wpList P ops Q (ops.toList.drop t0) a1 w1) :
    ATrip P m (.region id ops true) ts h fun e tt k => e = .normal ∧ K tt k := by
  unfold frontOk at hchk
  generalize hpl : waitsAll ops.toList 0 [] = pl at *
  simp only [Bool.and_eq_true] at hchk
  obtain ⟨⟨⟨c1, c2⟩, c3⟩, c4⟩ := hchk
  simp only [Bool.and_eq_true] at hpv
  obtain ⟨hpv1, hpv2, hpv3⟩ := hpv
  replace hpv1 := eqIds_eq hpv1
  generalize hids : (privTold scr).1 = ids at *
  generalize hH0 : maskIds ids h = H0 at *
  have hm0 : H0.length = h.length := by rw [← hH0]; exact (maskIds_get ids h 0).1
  have hmg : ∀ {i : Nat} {o : AObj}, H0[i]? = some o → o ≠ .gone → h[i]? = some o ∧ i ∉ ids := by
    intro i o hi hg
    rw [← hH0, (maskIds_get ids h i).2] at hi
    split at hi
    · simp only [Option.some.injEq] at hi; exact absurd hi.symm hg
    · rename_i hni
      exact ⟨hi, fun hm => hni ⟨hm, (List.getElem?_eq_some_iff.1 hi).1⟩⟩
  have hpid : ∀ {j : Nat} {s : FStep} {p : PSt}, st[j]? = some s → s.pst = some p → p.i ∈ ids := fun h1 h2 => by rw [← hpv1]; exact privIds_mem.2 ⟨_, _, _, h1, h2, rfl⟩
  intro hm E w a g hr hd
  refine wp_region_any c1 ?_
  -- the front's length within the region
  obtain ⟨t, ht, htake, hdrop, c3'⟩ : ∃ t, t ≤ ops.size ∧ ops.toList.take t0 = ops.toList.take t ∧ ops.toList.drop t0 = ops.toList.drop t ∧
      ∀ j, j < ops.size → t ≤ j → ∀ i, i < j → (pl.getD j 0).testBit i = true ∨ (i < t ∧ pureFree ops pl i = true ∧ Region.noSelect ops = true) := by
    by_cases hle : t0 ≤ ops.size
    · exact ⟨t0, hle, rfl, rfl, tail_spec c3⟩
    · refine ⟨ops.size, Nat.le_refl _, ?_, ?_, ?_⟩
      · rw [List.take_of_length_le (by simp; omega), List.take_of_length_le (by simp)]
      · rw [List.drop_eq_nil_of_le (by simp; omega), List.drop_eq_nil_of_le (by simp)]
      · intro j hj htj; omega
  rw [htake] at hfr c4
  rw [hdrop] at rest
  obtain ⟨hlen, F, T, q0, q1, q2, q3⟩ := front_of hev c2 c4 ht hr.le hfr o1
  have PS : PStat st H0 h := by
    intro j s p h1 h2
    obtain ⟨r1, r2⟩ := privChk_spec hpv3 j s p h1 h2
    have r3 := q3 j s p h1 h2
    exact ⟨r3, r1, r2, by rw [hm0]; exact (List.getElem?_eq_some_iff.1 r3).1⟩
  have hEn : E.n = h.length := g.n
  -- the beginning
  have I0 : FInv st ts H0 h E w (SOf (Array.replicate ops.size false)) { E with n := H0.length + offs (st.map (·.new)) st.length } a w.drew := by
    have hSf : ∀ k, SOf (Array.replicate ops.size false) k = false := by
      intro k
      unfold SOf
      rw [Array.getD_eq_getD_getElem?, Array.getElem?_replicate]
      split <;> rfl
    have hmask : ∀ {i : Nat} {o : AObj}, (H0 ++ maskSegs (SOf (Array.replicate ops.size false)) 0 (st.map (·.new)))[i]? = some o → o ≠ .gone → h[i]? = some o := by
      intro i o hi hg
      rcases mask_cases hi hg with ⟨_, h1⟩ | ⟨k, q, s, h1, _⟩
      · exact (hmg h1 hg).1
      · rw [hSf] at h1; exact Bool.noConfusion h1
    refine ⟨rfl, ?_, ?_, ?_, ?_, fun _ _ _ => rfl, ?_, Nat.le_refl _, rfl, ⟨rfl, Nat.le_refl _, fun _ _ => rfl⟩, rfl, hr.n, ?_, ?_, hd⟩
    · intro i o hi
      by_cases hg : o = .gone
      · subst hg; trivial
      have : ({ E with n := H0.length + offs (st.map (·.new)) st.length } : Env).tr H0.length = E := by rw [hm0, ← hEn]; rfl
      rw [this]
      exact g.drew.holds i o (hmg hi hg).1
    · intro k s q o hk; rw [hSf] at hk; exact Bool.noConfusion hk
    · intro i j o u hi hj h1 h3 h4
      exact g.apart i j o u (hmask hi (live_ne (own_live h1))) (hmask hj (live_ne h3)) h1 h3 h4
    · exact ⟨Nat.le_add_right _ _, fun _ _ => rfl, fun _ _ => rfl, fun _ _ => rfl, fun _ _ => rfl⟩
    · rintro b ⟨i, o, hi, h1, rfl⟩
      exact .inr ⟨i, o, hmask hi (live_ne (own_live h1)), h1, rfl⟩
    · intro x hx
      refine .inr ⟨fun k s hk => by rw [hSf] at hk; exact Bool.noConfusion hk, ?_⟩
      have : ({ E with n := H0.length + offs (st.map (·.new)) st.length } : Env).tr H0.length = E := by rw [hm0, ← hEn]; rfl
      rw [this]
      exact hr.get x
    · intro x hx
      have : ({ E with n := H0.length + offs (st.map (·.new)) st.length } : Env).tr H0.length = E := by rw [hm0, ← hEn]; rfl
      rw [this]
      have := hr.get x
      rwa [Array.getD_eq_getD_getElem?, Array.getElem?_eq_none hx] at this
  have PI0 : PInv st (SOf (Array.replicate ops.size false)) { E with n := H0.length + offs (st.map (·.new)) st.length } w.drew (H0 ++ maskSegs (SOf (Array.replicate ops.size false)) 0 (st.map (·.new))) := by
    have hSf : ∀ k, SOf (Array.replicate ops.size false) k = false := by
      intro k
      unfold SOf
      rw [Array.getD_eq_getD_getElem?, Array.getElem?_replicate]
      split <;> rfl
    refine ⟨?_, ?_, ?_⟩
    · intro j s p h1 h2
      simp only [hSf, Bool.false_eq_true, if_false]
      obtain ⟨r1, r2, r3, r4⟩ := PS j s p h1 h2
      exact holds_bare (g.drew.holds p.i _ r1) r2 ⟨rfl, rfl, rfl, rfl⟩ rfl
    · intro j s p h1 h2 i o hi hl
      obtain ⟨r1, r2, r3, r4⟩ := PS j s p h1 h2
      rcases mask_cases hi (live_ne hl) with ⟨_, h3⟩ | ⟨k, q, s', h3, _⟩
      · obtain ⟨h4, h5⟩ := hmg h3 (live_ne hl)
        exact fun e => g.apart p.i i _ o r1 h4 trivial hl (fun e2 => h5 (by rw [← e2]; exact hpid h1 h2)) e.symm
      · rw [hSf] at h3; exact Bool.noConfusion h3
    · intro j k s u p q h1 h2 h3 h4 hne
      exact g.apart p.i q.i _ _ (PS j s p h1 h2).1 (PS k u q h3 h4).1 trivial trivial (privIds_one hpv2 h1 h2 h3 h4 hne)
  -- where the front is done
  have fin : ∀ (fuel : Nat) (listed : Array Bool) (E1 : Env) (a1 : Act) (w1 : World), FInv st ts H0 h E w (SOf listed) E1 a1 w1 → PInv st (SOf listed) E1 w1 (H0 ++ maskSegs (SOf listed) 0 (st.map (·.new))) → listed.size = ops.size → (∀ i, i < t → SOf listed i = true) → (∀ i, t ≤ i → i < ops.size → SOf listed i = false) →
      ((List.range ops.size).filter fun i => !listed.getD i true).length ≤ fuel → wpAny P .any ops (APost m E h w fun e tt k => e = .normal ∧ K tt k) fuel listed a1 w1 := by
    intro fuel listed E1 a1 w1 I PI hs hall htl hfu
    have hSi : ∀ i, i < ops.size → listed.getD i true = decide (i < t) := by
      intro i hi
      rw [getD_tf (by omega)]
      by_cases hit : i < t
      · rw [show listed.getD i false = true from hall i hit]; simp [hit]
      · rw [show listed.getD i false = false from htl i (by omega) hi]; simp [hit]
    have hcount : ops.size - t ≤ fuel := by
      refine Nat.le_trans ?_ hfu
      have hrange : List.range ops.size = List.range t ++ (List.range (ops.size - t)).map (t + ·) := by
        rw [← List.range_add]; congr 1; omega
      rw [hrange, List.filter_append, List.length_append]
      have : ((List.range (ops.size - t)).map (t + ·)).filter (fun i => !listed.getD i true) = (List.range (ops.size - t)).map (t + ·) := by
        apply List.filter_eq_self.2
        intro i hi
        obtain ⟨k, hk, rfl⟩ := List.mem_map.1 hi
        have := List.mem_range.1 hk
        rw [hSi (t + k) (by omega)]
        simp
      rw [this]
      simp
    have hHS : H0 ++ maskSegs (SOf listed) 0 (st.map (·.new)) = H0 ++ (st.map (·.new)).flatten := by
      rw [maskSegs_all 0 _ (fun i hi => by rw [Nat.zero_add]; exact hall i (by simp at hi; omega))]
    have hlenHS : (H0 ++ (st.map (·.new)).flatten).length = H0.length + offs (st.map (·.new)) st.length := by
      rw [← hHS, List.length_append, maskSegs_len, List.length_map]
    obtain ⟨hpl, hpg⟩ := privSet_get (H := h) hpv2 (fun i hi => by
      obtain ⟨j, s, p, h1, h2, rfl⟩ := privIds_mem.1 hi
      exact (List.getElem?_eq_some_iff.1 (PS j s p h1 h2).1).1)
    have agB : Env.Agree H0.length (E1.tr H0.length) E1 := ⟨by rw [I.n]; exact Nat.le_add_right _ _, fun _ _ => rfl, fun _ _ => rfl, fun _ _ => rfl, fun _ _ => rfl⟩
    -- an object behind the front: as it was before the stores, or stored into
    have cases3 : ∀ {i : Nat} {o : AObj}, (privSet st h ++ (st.map (·.new)).flatten)[i]? = some o → o ≠ .gone →
        ((H0 ++ maskSegs (SOf listed) 0 (st.map (·.new)))[i]? = some o ∧ Holds E1 w1 i o) ∨ (∃ (j : Nat) (s : FStep) (p : PSt), st[j]? = some s ∧ s.pst = some p ∧ p.i = i ∧ o = .cells p.new p.e p.sz) := by
      intro i o hi hg
      rw [List.getElem?_append] at hi
      split at hi
      · rename_i hlt
        rw [hpl] at hlt
        rcases hpg i o hi with q | ⟨q1, q2⟩
        · exact .inr q
        · rw [hpv1] at q2
          have h0 : H0[i]? = some o := by
            rw [← hH0, (maskIds_get ids h i).2, if_neg (fun h => q2 h.1)]; exact q1
          exact .inl ⟨mask_base h0, holds_agree (E := E1.tr H0.length) agB (by rw [hm0]; exact hlt) (I.base i o h0)⟩
      · rename_i hge
        rw [hpl, ← hm0] at hge hi
        have h1 : (H0 ++ maskSegs (SOf listed) 0 (st.map (·.new)))[i]? = some o := by
          rw [hHS, List.getElem?_append_right (by omega)]; exact hi
        rcases mask_cases h1 hg with ⟨k1, k2⟩ | ⟨k, q, l, k1, k2, k3, rfl⟩
        · omega
        · obtain ⟨s, k4, rfl⟩ := seg_of k2
          exact .inl ⟨h1, I.news k s q o k1 k4 k3⟩
    have stored : ∀ {j : Nat} {s : FStep} {p : PSt}, st[j]? = some s → s.pst = some p → Holds E1 w1 p.i (.cells p.new p.e p.sz) := by
      intro j s p h1 h2
      have hjl := (List.getElem?_eq_some_iff.1 h1).1
      have := PI.at_ j s p h1 h2
      rw [if_pos (hall j (by omega))] at this
      exact this
    have G : Good E1 (privSet st h ++ (st.map (·.new)).flatten) w1 := by
      refine ⟨by rw [List.length_append, hpl, ← hm0, ← List.length_append, hlenHS]; exact I.n, fun i o hi => ?_, fun i j o u hi hj k1 k2 k3 => ?_⟩
      · by_cases hg : o = .gone
        · subst hg; trivial
        · rcases cases3 hi hg with ⟨_, q⟩ | ⟨j, s, p, q1, q2, rfl, rfl⟩
          · exact q
          · exact stored q1 q2
      · rcases cases3 hi (live_ne (own_live k1)) with ⟨q, _⟩ | ⟨jj, s, p, q1, q2, rfl, rfl⟩
        · rcases cases3 hj (live_ne k2) with ⟨r, _⟩ | ⟨kk, s2, p2, r1, r2, rfl, rfl⟩
          · exact I.apart i j o u q r k1 k2 k3
          · exact PI.ap kk s2 p2 r1 r2 i o q (own_live k1)
        · rcases cases3 hj (live_ne k2) with ⟨r, _⟩ | ⟨kk, s2, p2, r1, r2, rfl, rfl⟩
          · exact fun e => PI.ap jj s p q1 q2 j u r k2 e.symm
          · refine PI.ap2 jj kk s s2 p p2 q1 q2 r1 r2 fun e => ?_
            subst e
            rw [q1] at r1
            obtain rfl := Option.some.inj r1
            rw [q2] at r2
            obtain rfl := Option.some.inj r2
            exact k3 rfl
    have R : RepT E1 ts1 a1.tmps := by
      obtain ⟨l1, l2, l3⟩ := lex_get q0 q1 F.n st.length (Nat.le_refl _)
      rw [q2] at l1 l2 l3
      refine ⟨by rw [l1]; exact I.tn, by rw [l1]; exact F.n, fun x => ?_⟩
      by_cases hx : x < a1.tmps.size
      · rcases l3 x (by rw [I.tn]; exact hx) with ⟨k, s, k1, k2, k3, k4, k5⟩ | ⟨k1, k2⟩
        · rcases I.ts x hx with ⟨k', s', p1, p2, p3, p4, p5⟩ | ⟨p1, _⟩
          · have hk' : k' < st.length := (List.getElem?_eq_some_iff.1 p2).1
            have : k' = k := by
              rcases Nat.lt_trichotomy k' k with hh | hh | hh
              · exact absurd k3 (p4 k s hh (hall k (by omega)) k2)
              · exact hh
              · exact absurd p3 (k4 k' s' hh hk' p2)
            subst this
            rw [k2] at p2
            obtain rfl := Option.some.inj p2
            rw [k5]; exact p5
          · exact absurd k3 (p1 k s (hall k (by omega)) k2)
        · rw [k2]
          rcases I.ts x hx with ⟨k', s', p1, p2, p3, _, _⟩ | ⟨_, p2⟩
          · exact absurd p3 (k1 k' s' (List.getElem?_eq_some_iff.1 p2).1 p2)
          · exact p2.mono agB
      · have hge := Nat.le_of_not_lt hx
        rw [l2 x (by rw [I.tn]; exact hge), Array.getD_eq_getD_getElem?, Array.getElem?_eq_none hge]
        exact (I.hi x hge).mono agB
    have EV : Evol m E h w E1 (privSet st h ++ (st.map (·.new)).flatten) w1 := by
      refine ⟨I.agree.le (by rw [hm0]; exact hm), I.frame, fun b hb => ?_, I.size, I.os, I.tape, I.output⟩
      obtain ⟨i, o, hi, ho', rfl⟩ := hb
      rcases cases3 hi (live_ne (own_live ho')) with ⟨q, _⟩ | ⟨jj, s, p, q1, q2, rfl, rfl⟩
      · exact I.own _ ⟨i, o, q, ho', rfl⟩
      · exact .inr ⟨p.i, _, (PS jj s p q1 q2).1, trivial, (I.agree.blk p.i (PS jj s p q1 q2).2.2.2).symm⟩
    refine tail_any c2 (fun j hj htj i hi hij => (c3' j hj htj i hij).resolve_right fun q => by have := q.1; omega) (ops.size - t) t listed fuel a1 w1 rfl (Nat.le_refl _) hs hSi hcount ?_
    refine rest E1 w1 a1 _ G R I.defers ?_
    intro ts' h' E' w' a' hk g' ev' r' d'
    exact ⟨ts', h', E', g', EV.trans ev' (by rw [I.n, hm0]; omega), r', d', rfl, hk⟩
  -- all orders
  have all : ∀ (fuel : Nat) (listed : Array Bool) (E1 : Env) (a1 : Act) (w1 : World), FInv st ts H0 h E w (SOf listed) E1 a1 w1 → PInv st (SOf listed) E1 w1 (H0 ++ maskSegs (SOf listed) 0 (st.map (·.new))) → listed.size = ops.size → Closed ops (SOf listed) → (∀ i, t ≤ i → i < ops.size → SOf listed i = false) →
      ((List.range ops.size).filter fun i => !listed.getD i true).length ≤ fuel → wpAny P .any ops (APost m E h w fun e tt k => e = .normal ∧ K tt k) fuel listed a1 w1 := by
    intro fuel
    induction fuel with
    | zero =>
      intro listed E1 a1 w1 I PI hs hc htl hfu
      refine fin 0 listed E1 a1 w1 I PI hs (fun i hi => ?_) htl hfu
      unfold SOf
      rw [← getD_tf (by omega)]
      cases hl : listed.getD i true with
      | true => rfl
      | false =>
        have : i ∈ (List.range ops.size).filter fun i => !listed.getD i true := by
          rw [List.mem_filter]; exact ⟨List.mem_range.2 (by omega), by rw [hl]; rfl⟩
        rw [List.eq_nil_of_length_eq_zero (Nat.le_zero.1 hfu)] at this
        simp at this
    | succ fuel ih =>
      intro listed E1 a1 w1 I PI hs hc htl hfu
      by_cases hall : ∀ i, i < t → SOf listed i = true
      · exact fin _ listed E1 a1 w1 I PI hs hall htl hfu
      · by_cases hB : ∃ j, j ∈ Region.ready .any ops listed ∧ t ≤ j
        · -- one behind the front is ready: the first of the front that is missing is pure, and goes first
          obtain ⟨j, hj, htj⟩ := hB
          rcases least_missing (SOf listed) t with hno | ⟨i0, hi0, hmiss, hleast⟩
          · exact absurd hno hall
          have hi0s : i0 < ops.size := by omega
          have hoi : ops[i0]? = some ops[i0] := Array.getElem?_eq_getElem hi0s
          have hr0 : i0 ∈ Region.ready .any ops listed := by
            rw [mem_ready]
            refine ⟨by rw [getD_tf (by omega)]; exact hmiss, ops[i0], hoi, fun e he hb => ?_⟩
            have hlt := (waitsOk_spec pl ops.toList 0 c2 i0 ops[i0] (by simp [hi0s])).2 e he hb
            simp only [Nat.zero_add] at hlt
            exact hleast e.on hlt
          rw [mem_ready] at hj
          obtain ⟨_, oj, hoj, hdirj⟩ := hj
          have hjl := (Array.getElem?_eq_some_iff.1 hoj).1
          obtain ⟨_, hpf, hsel⟩ := (c3' j hjl htj i0 (by omega)).resolve_left fun hb => by
            have := (waits_done c2 hc j oj hoj hdirj i0 hb).1
            rw [hmiss] at this
            exact Bool.noConfusion this
          unfold pureFree at hpf
          rw [hoi] at hpf
          rw [Bool.and_eq_true] at hpf
          obtain ⟨hpure, hfree⟩ := hpf
          have hjs : st[i0]? = some st[i0] := List.getElem?_eq_getElem (by omega)
          have hil : i0 < listed.size := by omega
          have hdir0 := (mem_ready.1 hr0).2
          obtain ⟨o0, ho0, hd0⟩ := hdir0
          have key := front_stepP F I PS PI hjs hmiss (Q := fun _ _ _ => False) (K := fun a' w' => ∃ E', FInv st ts H0 h E w (fun k => SOf listed k || Nat.beq k i0) E' a' w' ∧ PInv st (fun k => SOf listed k || Nat.beq k i0) E' w' (H0 ++ maskSegs (fun k => SOf listed k || Nat.beq k i0) 0 (st.map (·.new))))
            (fun k hk => by
              simp only [Bool.and_eq_true] at hk
              exact (waits_done c2 hc i0 o0 ho0 hd0 k hk.2).1)
            (fun k hk => by
              cases hb : (decide (k < t) && (pl.getD k 0).testBit i0) with
              | false => rfl
              | true =>
                exfalso
                simp only [Bool.and_eq_true, decide_eq_true_eq] at hb
                have hkl : k < ops.size := by omega
                have := (waits_done c2 hc k ops[k] (Array.getElem?_eq_getElem hkl) (hc k _ (Array.getElem?_eq_getElem hkl) hk) i0 hb.2).1
                rw [hmiss] at this
                exact Bool.noConfusion this)
            (fun E' a' w' h1 h2 => ⟨E', h1, h2⟩)
          obtain ⟨v, hy, E2, I2, PI2⟩ : ∃ v, Yields P ops ops[i0] v a1 ∧ ∃ E', FInv st ts H0 h E w (fun k => SOf listed k || Nat.beq k i0) E' (a1.put ops[i0].dst v) w1 ∧ PInv st (fun k => SOf listed k || Nat.beq k i0) E' w1 (H0 ++ maskSegs (fun k => SOf listed k || Nat.beq k i0) 0 (st.map (·.new))) := by
            unfold wpOp at key
            rw [hoi] at key
            simp only at key
            split at key
            · rename_i hw
              rcases key with key | ⟨_, a2, w2, hl⟩
              · unfold Oper.wp at key
                rcases pure_run (P := P) hpure a1.eval with ⟨v, hv⟩ | hno
                · rw [hv w1] at key
                  exact ⟨v, .inl ⟨hw, hv⟩, key⟩
                · exact absurd key (hno w1 _ _)
              · exact hl.elim
            · rename_i hw
              exact ⟨undef, .inr ⟨by simpa using hw, rfl⟩, key⟩
          rw [← SOf_set hil] at I2 PI2
          refine wpAny_take hoi hsel (free_mono hoi hfree fun k hk => by
            have := waits_done c2 hc i0 ops[i0] hoi (fun e he hb => by
              have hlt := (waitsOk_spec pl ops.toList 0 c2 i0 ops[i0] (by simp [hi0s])).2 e he hb
              simp only [Nat.zero_add] at hlt
              exact hleast e.on hlt) k hk
            rw [getD_tf (by omega)]; exact this.1) (by simpa using hr0) (fun c a w hq => by obtain ⟨_, _, _, _, _, _, _, he, _⟩ := hq; exact Exit.noConfusion he) hy ?_
          refine ih (listed.setIfInBounds i0 true) E2 _ w1 I2 PI2 (by simpa using hs) (closed_set hs hc hr0) ?_ ?_
          · intro i hi hil2
            rw [SOf_set hil]
            simp only [htl i hi hil2, Bool.false_or]
            cases hb : Nat.beq i i0
            · rfl
            · have := Nat.eq_of_beq_eq_true hb; omega
          · have := unl_set (n := ops.size) (by omega) hs (mem_ready.1 hr0).1
            omega
        have hnr : ∀ j, j ∈ Region.ready .any ops listed → j < t := by
          intro j hj
          rcases Nat.lt_or_ge j t with h1 | h1
          · exact h1
          · exact absurd ⟨j, hj, h1⟩ hB
        refine ⟨fun hr0 => ?_, fun j hj => ?_⟩
        · exfalso
          apply hall
          intro i hi
          unfold SOf
          rw [← getD_tf (by omega)]
          exact unlisted_zero c2 hs hr0 ops.size i (by omega) (by omega)
        · have hjt := hnr j hj
          have hj' := hj
          rw [mem_ready] at hj'
          obtain ⟨h0, o, ho', hdir⟩ := hj'
          have hjs : st[j]? = some st[j] := List.getElem?_eq_getElem (by omega)
          have hjl : j < listed.size := by omega
          have hSj : SOf listed j = false := by unfold SOf; rw [← getD_tf hjl]; exact h0
          refine front_stepP F I PS PI hjs hSj ?_ ?_ ?_
          · intro k hk
            simp only [Bool.and_eq_true] at hk
            exact (waits_done c2 hc j o ho' hdir k hk.2).1
          · intro k hk
            cases hb : (decide (k < t) && (pl.getD k 0).testBit j) with
            | false => rfl
            | true =>
              exfalso
              simp only [Bool.and_eq_true, decide_eq_true_eq] at hb
              have hkl : k < ops.size := by omega
              have := (waits_done c2 hc k ops[k] (Array.getElem?_eq_getElem hkl) (hc k _ (Array.getElem?_eq_getElem hkl) hk) j hb.2).1
              rw [hSj] at this
              exact Bool.noConfusion this
          · intro E2 a2 w2 I2 PI2
            rw [← SOf_set hjl] at I2 PI2
            refine ih (listed.setIfInBounds j true) E2 a2 w2 I2 PI2 (by simpa using hs) (closed_set hs hc hj) ?_ ?_
            · intro i hi hil
              rw [SOf_set hjl]
              simp only [htl i hi hil, Bool.false_or]
              cases hb : Nat.beq i j
              · rfl
              · have := Nat.eq_of_beq_eq_true hb; omega
            · have := unl_set (n := ops.size) (by omega) hs h0
              omega
  refine all ops.size _ _ a _ I0 PI0 (by simp) ?_ ?_ ?_
  · intro i o _ hi
    unfold SOf at hi
    rw [Array.getD_eq_getD_getElem?, Array.getElem?_replicate] at hi
    split at hi <;> exact Bool.noConfusion hi
  · intro i _ _
    unfold SOf
    rw [Array.getD_eq_getD_getElem?, Array.getElem?_replicate]
    split <;> rfl
  · exact Nat.le_trans (List.length_filter_le _ _) (by simp)

theorem evDraw_sound {ev : Nat → Code → Tm → AHeap → Script → Res} (hev : EvOk P ev) {id m : Nat} {ops : Array Oper} {ts : Tm} {h : AHeap} {scr scr' : Script} {ob : List Prop} {ts' : Tm} {h' : AHeap}
    (he : evDraw P ev ops ts h scr = some (ob, ts', h', scr')) (ho : AllP ob) : AComes P m (.region id ops true) ts h .normal ts' h' := by
  unfold evDraw at he
  simp only at he
  split at he
  · rename_i hchk
    split at he
    · rename_i ob0 st ts1 scr1 hfr
      split at he
      case h_2 => simp at he
      rename_i hpv
      obtain ⟨ob2, h2, rfl⟩ := addObs_some he
      obtain ⟨o1, o2⟩ := ho.append
      refine (draw_gen hev hchk hfr hpv o1 (fun t k => t = ts' ∧ k = h') ?_).mono fun e t k hq => hq
      intro E1 w1 a1 Q G R D hQ
      refine evOps_sound hev ops _ _ _ _ _ _ _ _ h2 o2 E1 w1 a1 _ G R D ?_
      intro E' w' a' g' ev' r' d'
      exact hQ ts' h' E' w' a' ⟨rfl, rfl⟩ g' ev' r' d'
    · simp at he
  · simp at he

end
end Go.AX

namespace Go.AX
set_option linter.unusedSimpArgs false
set_option linter.unusedVariables false
def Env.via (E : Env) (τ : Nat → Nat) (n : Nat) : Env where
  n := n
  blk := fun i => E.blk (τ i)
  off := fun i => E.off (τ i)
  csz := fun i => E.csz (τ i)
  esz := fun i => E.esz (τ i)

section
variable {E : Env} {τ : Nat → Nat} {n : Nat}

theorem via1 {v v' : Value} (ho : okId1 (fun i => decide (i < n)) v = true) (h : Rep E (rn1 τ v) v') : Rep (E.via τ n) v v' := by
  cases v with
  | pointer a =>
    cases a with
    | none => cases h; exact .nilptr
    | some a =>
      obtain ⟨b, o, sp⟩ := a
      simp only [rn1] at h
      cases h with
      | ptr i o hi => exact .ptr (E := E.via τ n) b o (show b < n by simpa [okId1] using ho)
  | slice a k c =>
    cases a with
    | none => cases h; exact .nilsl
    | some a =>
      obtain ⟨b, o, sp⟩ := a
      have hb : b < n := by simpa [okId1] using ho
      simp only [rn1] at h
      cases h with
      | slX i o n' c a' hi ha hn hc => exact .slX (E := E.via τ n) b o k c a' hb ha hn hc
      | slU i n' c' hi h0 hn hz => exact .slU (E := E.via τ n) b k c' hb h0 hn hz
      | slE i hi => exact .slE (E := E.via τ n) b hb
      | slR i o n' c' a' hi ha hn => exact .slR (E := E.via τ n) b o k c' a' hb ha hn
  | map r =>
    cases r with
    | none => cases h; exact .nilmap
    | some i => simp only [rn1] at h; cases h; exact .map (E := E.via τ n) i (show i < n by simpa [okId1] using ho)
  | bool b => cases h; exact .bool b
  | int k m => cases h; exact .int k m
  | float k m => cases h; exact .float k m
  | complex k a b => cases h
  | string s => cases h; exact .str s
  | chan r => cases h
  | nilFunc => cases h; exact .nilfunc
  | nilIface => cases h; exact .nilif
  | func => exact Bool.noConfusion ho
  | iface => exact Bool.noConfusion ho
  | agg => exact Bool.noConfusion ho
  | tuple => exact Bool.noConfusion ho

theorem viaL1 : ∀ {l l' : List Value}, l.all (okId1 fun i => decide (i < n)) = true → RepL E (l.map (rn1 τ)) l' → RepL (E.via τ n) l l'
  | [], _, _, h => by cases h; exact .nil
  | v :: l, _, ho, h => by
    simp only [List.all_cons, Bool.and_eq_true] at ho
    cases h with
    | cons _ _ _ _ hv ht => exact .cons _ _ _ _ (via1 ho.1 hv) (viaL1 ho.2 ht)

theorem via2 {v v' : Value} (ho : okId2 (fun i => decide (i < n)) v = true) (h : Rep E (rn2 τ v) v') : Rep (E.via τ n) v v' := by
  have other : okId1 (fun i => decide (i < n)) v = true → rn2 τ v = rn1 τ v → Rep (E.via τ n) v v' := fun h1 h2 => via1 h1 (h2 ▸ h)
  cases v with
  | agg c =>
    obtain ⟨l⟩ := c
    simp only [rn2] at h
    cases h with
    | agg _ c' h => exact .agg _ _ (viaL1 ho h)
  | func fn f c =>
    obtain ⟨f⟩ := f; obtain ⟨c⟩ := c
    simp only [okId2, Bool.and_eq_true] at ho
    simp only [rn2] at h
    cases h with
    | func _ _ _ f' c' hf hc => exact .func _ _ _ _ _ (viaL1 ho.1 hf) (viaL1 ho.2 hc)
  | iface t u =>
    simp only [rn2] at h
    cases h with
    | iface _ _ _ h => exact .iface _ _ _ (via1 ho h)
  | tuple => exact Bool.noConfusion ho
  | _ => exact other ho rfl

theorem viaL2 : ∀ {l l' : List Value}, l.all (okId2 fun i => decide (i < n)) = true → RepL E (l.map (rn2 τ)) l' → RepL (E.via τ n) l l'
  | [], _, _, h => by cases h; exact .nil
  | v :: l, _, ho, h => by
    simp only [List.all_cons, Bool.and_eq_true] at ho
    cases h with
    | cons _ _ _ _ hv ht => exact .cons _ _ _ _ (via2 ho.1 hv) (viaL2 ho.2 ht)

theorem viaV {v v' : Value} (ho : okIds (fun i => decide (i < n)) v = true) (h : Rep E (rnV τ v) v') : Rep (E.via τ n) v v' := by
  have other : okId2 (fun i => decide (i < n)) v = true → rnV τ v = rn2 τ v → Rep (E.via τ n) v v' := fun h1 h2 => via2 h1 (h2 ▸ h)
  cases v with
  | tuple c =>
    obtain ⟨l⟩ := c
    simp only [rnV] at h
    generalize hv : Value.tuple ⟨l.map (rn2 τ)⟩ = u at h
    cases h with
    | tuple c2 c' h =>
      simp only [Value.tuple.injEq, Array.mk.injEq] at hv
      subst hv
      exact .tuple _ _ (viaL2 ho h)
    | junk =>
      simp only [junk, Value.tuple.injEq, Array.mk.injEq] at hv
      match l, hv with
      | [], hv => simp at hv
      | _ :: _ :: _, hv => simp at hv
      | [x], hv =>
        simp only [List.map_cons, List.map_nil, List.cons.injEq, and_true] at hv
        have : x = .nilFunc := by
          cases x with
          | nilFunc => rfl
          | agg c => obtain ⟨c⟩ := c; simp [rn2] at hv
          | func fn f c => obtain ⟨f⟩ := f; obtain ⟨c⟩ := c; simp [rn2] at hv
          | pointer a => cases a <;> simp [rn2, rn1] at hv
          | slice a k c => cases a <;> simp [rn2, rn1] at hv
          | map r => cases r <;> simp [rn2, rn1] at hv
          | _ => simp [rn2, rn1] at hv
        subst this
        exact .junk _
    | _ => exact absurd hv (by simp)
  | _ => exact other ho rfl

theorem viaL : ∀ {l l' : List Value}, l.all (okIds fun i => decide (i < n)) = true → RepL E (l.map (rnV τ)) l' → RepL (E.via τ n) l l'
  | [], _, _, h => by cases h; exact .nil
  | v :: l, _, ho, h => by
    simp only [List.all_cons, Bool.and_eq_true] at ho
    cases h with
    | cons _ _ _ _ hv ht => exact .cons _ _ _ _ (viaV ho.1 hv) (viaL ho.2 ht)

theorem viaM : ∀ {l : List (Value × Value)} {l' : List MapEntry}, (l.all fun x => okIds (fun i => decide (i < n)) x.1 && okIds (fun i => decide (i < n)) x.2) = true → RepM E (l.map fun x => (rnV τ x.1, rnV τ x.2)) l' → RepM (E.via τ n) l l'
  | [], _, _, h => by cases h; exact .nil
  | (k, v) :: l, _, ho, h => by
    simp only [List.all_cons, Bool.and_eq_true] at ho
    cases h with
    | cons _ _ _ _ _ hk hv ht => exact .cons _ _ _ _ _ (viaV ho.1.1 hk) (viaV ho.1.2 hv) (viaM (by simpa using ho.2) ht)

theorem viaH {w : World} {i : Nat} {o : AObj} (ho : okObj (fun i => decide (i < n)) o = true) (h : Holds E w (τ i) (rnO τ o)) : Holds (E.via τ n) w i o := by
  cases o with
  | cells vs e sz =>
    obtain ⟨c, h1, h2, h3, h4, h5⟩ := h
    exact ⟨c, h1, h2, h3, h4, viaL ho h5⟩
  | row vs e sz =>
    refine ⟨h.1, fun hv => ?_⟩
    obtain ⟨c, h1, h2, h3, h4, h5⟩ := h.2 (by simpa using hv)
    simp only [List.length_map] at h4 h5
    exact ⟨c, h1, h2, h3, h4, viaL ho h5⟩
  | ro vs sz =>
    refine ⟨h.1, fun k v hk => ?_⟩
    obtain ⟨v', h1, h2⟩ := h.2 k (rnV τ v) (by simp [hk])
    exact ⟨v', h1, viaV (List.all_eq_true.1 ho v (List.mem_of_getElem? hk)) h2⟩
  | mp es =>
    obtain ⟨c, q, h1, h2, h3⟩ := h
    exact ⟨c, q, h1, viaM ho h2, h3⟩
  | gone => trivial
end
def lends : AObj → AObj → Prop
  | .ro vs sz, .ro us sz' => sz = sz' ∧ ∃ r, us = vs ++ r
  | .ro vs sz, .cells us _ sz' => sz = sz' ∧ ∃ r, us = vs ++ r
  | .ro vs sz, .row us _ sz' => sz = sz' ∧ ∃ r, us = vs ++ r
  | a, b => a = b

theorem lends_holds {E : Env} {w : World} {i : Nat} {a b : AObj} (h : lends a b) (hb : Holds E w i b) : Holds E w i a := by
  cases a with
  | ro vs sz =>
    have key : ∀ us, objCells [b] 0 = some us → (∃ r, us = vs ++ r) → (E.esz i = sz) → (∀ (k : Nat) (v : Value), us[k]? = some v → ∃ v', w.cell? ⟨E.blk i, E.off i + k, none⟩ = some v' ∧ Rep E v v') → Holds E w i (.ro vs sz) := by
      intro us _ ⟨r, hr⟩ hs hc
      refine ⟨hs, fun k v hk => hc k v ?_⟩
      rw [hr, List.getElem?_append_left (List.getElem?_eq_some_iff.1 hk).1]
      exact hk
    cases b with
    | ro us sz' =>
      obtain ⟨rfl, hr⟩ := h
      exact key us rfl hr hb.1 hb.2
    | cells us e sz' =>
      obtain ⟨rfl, hr⟩ := h
      obtain ⟨c, h1, h2, h3, h4, h5⟩ := hb
      refine key us rfl hr h4 fun k v hk => ?_
      obtain ⟨v', q1, q2⟩ := h5.get hk
      refine ⟨v', ?_, q2⟩
      rw [h2, Nat.zero_add, cell_of_row w _ _ _ _ _ h1]
      simpa using q1
    | row us e sz' =>
      obtain ⟨rfl, hr⟩ := h
      refine key us rfl hr hb.1 fun k v hk => ?_
      obtain ⟨c, h1, h2, h3, h4, h5⟩ := hb.2 (fun e => by subst e; simp at hk)
      obtain ⟨v', q1, q2⟩ := h5.get hk
      refine ⟨v', ?_, q2⟩
      rw [h2, Nat.zero_add, cell_of_row w _ _ _ _ _ h1]
      rw [List.getElem?_take] at q1
      split at q1
      · simpa using q1
      · simp at q1
    | mp => exact absurd h (by simp [lends])
    | gone => exact absurd h (by simp [lends])
  | cells => have : _ = b := h; subst this; exact hb
  | row => have : _ = b := h; subst this; exact hb
  | mp => have : _ = b := h; subst this; exact hb
  | gone => trivial

/-! Forgetting and renaming, within a call. -/
def AWk (m : Nat) (ts : Tm) (h : AHeap) (ts2 : Tm) (h2 : AHeap) : Prop :=
  m ≤ h.length → ∀ (E : Env) (w : World) (a : Array Value), Good E h w → RepT E ts a → ∃ E2, Good E2 h2 w ∧ RepT E2 ts2 a ∧ Evol m E h w E2 h2 w

theorem ATrip.weaken {P : Program} {m : Nat} {c : Code} {ts ts2 : Tm} {h h2 : AHeap} {Q : Exit → Tm → AHeap → Prop} (k : AWk m ts h ts2 h2) (t : ATrip P m c ts2 h2 Q) : ATrip P m c ts h Q := by
  intro hm E w a g r d
  obtain ⟨E2, g2, r2, ev⟩ := k hm E w a.tmps g r
  exact Code.wp_mono (fun _ _ _ hp => hp.step ev) (t (ev.m_le g2) E2 w a g2 r2 d)

theorem ATrip.result {P : Program} {m : Nat} {c : Code} {ts : Tm} {h : AHeap} {Q Q' : Exit → Tm → AHeap → Prop} (t : ATrip P m c ts h Q) (hq : ∀ e t k, Q e t k → ∃ t' k', AWk m t k t' k' ∧ Q' e t' k') : ATrip P m c ts h Q' := by
  intro hm E w a g r d
  refine Code.wp_mono ?_ (t hm E w a g r d)
  rintro e a' w' ⟨ts', h', E', g', ev, r', d', q⟩
  obtain ⟨t2, k2, wk, q2⟩ := hq e ts' h' q
  obtain ⟨E2, g2, r2, ev2⟩ := wk (ev.m_le g') E' w' a'.tmps g' r'
  exact ⟨t2, k2, E2, g2, ev.trans ev2 (Nat.le_refl _), r2, d', q2⟩

theorem AWk.refl {m : Nat} {ts : Tm} {h : AHeap} : AWk m ts h ts h :=
  fun hm E w a g r => ⟨E, g, r, .refl E h w (by rw [g.n]; exact hm)⟩
def Tm.keeps (τ : Nat → Nat) (ts2 ts : Tm) (l : List Tmp) : Prop := ∀ x, x ∈ l → rnV τ (ts2.get x) = ts.get x

theorem rename_good {E : Env} {h h2 : AHeap} {w : World} {m : Nat} {τ : Nat → Nat} (g : Good E h w) (hm : m ≤ h.length) (hm2 : m ≤ h2.length) (hτ : ∀ i, i < m → τ i = i)
    (hobj : ∀ (i : Nat) (o : AObj), h2[i]? = some o → o = .gone ∨ h[τ i]? = some (rnO τ o)) (hok : ∀ o ∈ h2, okObj (fun i => decide (i < h2.length)) o = true)
    (hinj : ∀ (i j : Nat) (o u : AObj), h2[i]? = some o → h2[j]? = some u → o.own → u.live → i ≠ j → τ i ≠ τ j) : Good (E.via τ h2.length) h2 w ∧ Evol m E h w (E.via τ h2.length) h2 w := by
  have hlive : ∀ {o : AObj}, o.live → (rnO τ o).live := by
    intro o ho
    cases o <;> first | exact ho | (simp only [rnO, AObj.live] at ho ⊢; simpa using ho)
  have hown : ∀ {o : AObj}, o.own → (rnO τ o).own := by
    intro o ho
    cases o <;> first | exact ho | (simp only [rnO, AObj.own] at ho ⊢; simpa using ho)
  refine ⟨⟨rfl, fun i o hi => ?_, fun i j o u hi hj ho hu hne => ?_⟩, ⟨⟨hm2, fun i hi => ?_, fun i hi => ?_, fun i hi => ?_, fun i hi => ?_⟩, fun _ _ _ => rfl, ?_, Nat.le_refl _, rfl, .refl _, rfl⟩⟩
  · rcases hobj i o hi with rfl | h1
    · trivial
    · exact viaH (hok o (List.mem_of_getElem? hi)) (g.holds _ _ h1)
  · exact g.apart _ _ _ _ ((hobj i o hi).resolve_left (live_ne (own_live ho))) ((hobj j u hj).resolve_left (live_ne hu)) (hown ho) (hlive hu) (hinj i j o u hi hj ho hu hne)
  · show E.blk (τ i) = E.blk i; rw [hτ i hi]
  · show E.off (τ i) = E.off i; rw [hτ i hi]
  · show E.csz (τ i) = E.csz i; rw [hτ i hi]
  · show E.esz (τ i) = E.esz i; rw [hτ i hi]
  · rintro b ⟨i, o, hi, ho, rfl⟩
    exact .inr ⟨τ i, _, (hobj i o hi).resolve_left (live_ne (own_live ho)), hown ho, rfl⟩

end Go.AX

namespace Go.AX

section
variable {E : Env} {τ : Nat → Nat} {n : Nat}

theorem rvia1 (hτ : ∀ i, i < n → τ i < E.n) {v v' : Value} (ho : okId1 (fun i => decide (i < n)) v = true) (h : Rep (E.via τ n) v v') : Rep E (rn1 τ v) v' := by
  cases h with
  | bool b => exact .bool b
  | int k m => exact .int k m
  | float k m => exact .float k m
  | str s => exact .str s
  | nilptr => exact .nilptr
  | ptr i o hi => exact .ptr (E := E) (τ i) o (hτ i hi)
  | nilsl => exact .nilsl
  | slX i o n' c a' hi ha hn hc => exact .slX (E := E) (τ i) o n' c a' (hτ i hi) ha hn hc
  | slU i n' c' hi h0 hn hz => exact .slU (E := E) (τ i) n' c' (hτ i hi) h0 hn hz
  | slE i hi => exact .slE (E := E) (τ i) (hτ i hi)
  | slR i o n' c' a' hi ha hn => exact .slR (E := E) (τ i) o n' c' a' (hτ i hi) ha hn
  | nilmap => exact .nilmap
  | map i hi => exact .map (E := E) (τ i) (hτ i hi)
  | nilfunc => exact .nilfunc
  | nilif => exact .nilif
  | func => exact Bool.noConfusion ho
  | iface => exact Bool.noConfusion ho
  | agg => exact Bool.noConfusion ho
  | tuple => exact Bool.noConfusion ho
  | junk => exact Bool.noConfusion ho

theorem rviaL1 (hτ : ∀ i, i < n → τ i < E.n) : ∀ {l l' : List Value}, l.all (okId1 fun i => decide (i < n)) = true → RepL (E.via τ n) l l' → RepL E (l.map (rn1 τ)) l'
  | [], _, _, h => by cases h; exact .nil
  | v :: l, _, ho, h => by
    simp only [List.all_cons, Bool.and_eq_true] at ho
    cases h with
    | cons _ _ _ _ hv ht => exact .cons _ _ _ _ (rvia1 hτ ho.1 hv) (rviaL1 hτ ho.2 ht)

theorem rvia2 (hτ : ∀ i, i < n → τ i < E.n) {v v' : Value} (ho : okId2 (fun i => decide (i < n)) v = true) (h : Rep (E.via τ n) v v') : Rep E (rn2 τ v) v' := by
  have other : okId1 (fun i => decide (i < n)) v = true → rn2 τ v = rn1 τ v → Rep E (rn2 τ v) v' := fun h1 h2 => by rw [h2]; exact rvia1 hτ h1 h
  cases v with
  | agg c =>
    obtain ⟨l⟩ := c
    cases h with
    | agg _ c' h => exact .agg _ _ (rviaL1 hτ ho h)
  | func fn f c =>
    obtain ⟨f⟩ := f; obtain ⟨c⟩ := c
    simp only [okId2, Bool.and_eq_true] at ho
    cases h with
    | func _ _ _ f' c' hf hc => exact .func _ _ _ _ _ (rviaL1 hτ ho.1 hf) (rviaL1 hτ ho.2 hc)
  | iface t u =>
    cases h with
    | iface _ _ _ h => exact .iface _ _ _ (rvia1 hτ ho h)
  | tuple => exact Bool.noConfusion ho
  | _ => exact other ho rfl

theorem rviaL2 (hτ : ∀ i, i < n → τ i < E.n) : ∀ {l l' : List Value}, l.all (okId2 fun i => decide (i < n)) = true → RepL (E.via τ n) l l' → RepL E (l.map (rn2 τ)) l'
  | [], _, _, h => by cases h; exact .nil
  | v :: l, _, ho, h => by
    simp only [List.all_cons, Bool.and_eq_true] at ho
    cases h with
    | cons _ _ _ _ hv ht => exact .cons _ _ _ _ (rvia2 hτ ho.1 hv) (rviaL2 hτ ho.2 ht)

theorem rviaV (hτ : ∀ i, i < n → τ i < E.n) {v v' : Value} (ho : okIds (fun i => decide (i < n)) v = true) (h : Rep (E.via τ n) v v') : Rep E (rnV τ v) v' := by
  have other : okId2 (fun i => decide (i < n)) v = true → rnV τ v = rn2 τ v → Rep E (rnV τ v) v' := fun h1 h2 => by rw [h2]; exact rvia2 hτ h1 h
  cases v with
  | tuple c =>
    obtain ⟨l⟩ := c
    generalize hv : Value.tuple ⟨l⟩ = u at h
    cases h with
    | tuple c2 c' h =>
      simp only [Value.tuple.injEq, Array.mk.injEq] at hv
      subst hv
      exact .tuple _ _ (rviaL2 hτ ho h)
    | junk =>
      simp only [junk, Value.tuple.injEq, Array.mk.injEq] at hv
      subst hv
      exact .junk _
    | _ => exact absurd hv (by simp)
  | _ => exact other ho rfl

theorem rviaL (hτ : ∀ i, i < n → τ i < E.n) : ∀ {l l' : List Value}, l.all (okIds fun i => decide (i < n)) = true → RepL (E.via τ n) l l' → RepL E (l.map (rnV τ)) l'
  | [], _, _, h => by cases h; exact .nil
  | v :: l, _, ho, h => by
    simp only [List.all_cons, Bool.and_eq_true] at ho
    cases h with
    | cons _ _ _ _ hv ht => exact .cons _ _ _ _ (rviaV hτ ho.1 hv) (rviaL hτ ho.2 ht)

theorem rviaM (hτ : ∀ i, i < n → τ i < E.n) : ∀ {l : List (Value × Value)} {l' : List MapEntry}, (l.all fun x => okIds (fun i => decide (i < n)) x.1 && okIds (fun i => decide (i < n)) x.2) = true → RepM (E.via τ n) l l' → RepM E (l.map fun x => (rnV τ x.1, rnV τ x.2)) l'
  | [], _, _, h => by cases h; exact .nil
  | (k, v) :: l, _, ho, h => by
    simp only [List.all_cons, Bool.and_eq_true] at ho
    cases h with
    | cons _ _ _ _ _ hk hv ht => exact .cons _ _ _ _ _ (rviaV hτ ho.1.1 hk) (rviaV hτ ho.1.2 hv) (rviaM hτ (by simpa using ho.2) ht)

theorem rviaH (hτ : ∀ i, i < n → τ i < E.n) {w : World} {i : Nat} {o : AObj} (ho : okObj (fun i => decide (i < n)) o = true) (h : Holds (E.via τ n) w i o) : Holds E w (τ i) (rnO τ o) := by
  cases o with
  | cells vs e sz =>
    obtain ⟨c, h1, h2, h3, h4, h5⟩ := h
    exact ⟨c, h1, h2, h3, h4, rviaL hτ ho h5⟩
  | row vs e sz =>
    refine ⟨h.1, fun hv => ?_⟩
    obtain ⟨c, h1, h2, h3, h4, h5⟩ := h.2 (by simpa using hv)
    refine ⟨c, h1, h2, h3, by simpa using h4, ?_⟩
    rw [List.length_map]
    exact rviaL hτ ho h5
  | ro vs sz =>
    refine ⟨h.1, fun k v hk => ?_⟩
    simp only [List.getElem?_map, Option.map_eq_some_iff] at hk
    obtain ⟨u, hu, rfl⟩ := hk
    obtain ⟨v', h1, h2⟩ := h.2 k u hu
    exact ⟨v', h1, rviaV hτ (List.all_eq_true.1 ho u (List.mem_of_getElem? hu)) h2⟩
  | mp es =>
    obtain ⟨c, q, h1, h2, h3⟩ := h
    exact ⟨c, q, h1, rviaM hτ ho h2, h3⟩
  | gone => trivial
end
def bare (v : Value) : Bool := okIds (fun _ => false) v

theorem bare_to {E F : Env} {v v' : Value} (hb : bare v = true) (h : Rep E v v') : Rep F v v' :=
  rep_on ⟨fun _ h => Bool.noConfusion h, fun _ h => Bool.noConfusion h, fun _ h => Bool.noConfusion h, fun _ h => Bool.noConfusion h, fun _ h => Bool.noConfusion h⟩ hb h

theorem bareL_to {E F : Env} : ∀ {l l' : List Value}, l.all bare = true → RepL E l l' → RepL F l l'
  | [], _, _, h => by cases h; exact .nil
  | v :: l, _, ho, h => by
    simp only [List.all_cons, Bool.and_eq_true] at ho
    cases h with
    | cons _ _ _ _ hv ht => exact .cons _ _ _ _ (bare_to ho.1 hv) (bareL_to ho.2 ht)

def Env.join (E F : Env) (N : Nat) : Env where
  n := N + F.n
  blk := fun i => if i < N then E.blk i else F.blk (i - N)
  off := fun i => if i < N then E.off i else F.off (i - N)
  csz := fun i => if i < N then E.csz i else F.csz (i - N)
  esz := fun i => if i < N then E.esz i else F.esz (i - N)

theorem join_via (E F : Env) (N : Nat) : Env.Agree F.n F ((E.join F N).via (up N) F.n) := by
  refine ⟨Nat.le_refl _, fun i hi => ?_, fun i hi => ?_, fun i hi => ?_, fun i hi => ?_⟩ <;>
    (simp only [Env.via, Env.join, up]; rw [if_neg (by omega), Nat.add_sub_cancel])

theorem join_agree (E F : Env) (N : Nat) : Env.Agree N E (E.join F N) :=
  ⟨Nat.le_add_right _ _, fun _ hi => if_pos hi, fun _ hi => if_pos hi, fun _ hi => if_pos hi, fun _ hi => if_pos hi⟩

theorem rnO_live {τ : Nat → Nat} {o : AObj} : (rnO τ o).live ↔ o.live := by
  cases o <;> simp [rnO, AObj.live]
theorem rnO_own {τ : Nat → Nat} {o : AObj} : (rnO τ o).own ↔ o.own := by
  cases o <;> simp [rnO, AObj.own]
theorem AEq.frame {P : Program} {k : FuncId} {args : List Value} {v : Value} {h' : AHeap} (t : AEq P k args [] v h') (ha : args.all bare = true) (hv : okIds (fun i => decide (i < h'.length)) v = true)
    (ho : (h'.all fun o => notRo o && okObj (fun i => decide (i < h'.length)) o) = true) (h : AHeap) : AEq P k args h (rnV (up h.length) v) (h ++ h'.map (rnO (up h.length))) := by
  intro E w args' g ra
  have g0 : Good ⟨0, E.blk, E.off, E.csz, E.esz⟩ [] w := ⟨rfl, fun i o hi => by simp at hi, fun i j o u hi => by simp at hi⟩
  refine (t _ w args' g0 (bareL_to ha ra)).mono ?_
  rintro e w' ⟨v0, v', h0, F, rfl, gF, ev, rv, rfl, rfl⟩
  have hF := gF.n
  have hno : ∀ b, ¬ Owned ⟨0, E.blk, E.off, E.csz, E.esz⟩ [] b := by rintro b ⟨i, o, hi, _⟩; simp at hi
  have hτ : ∀ i, i < F.n → up h.length i < (E.join F h.length).n := fun i hi => by simp only [up, Env.join]; omega
  have hobj : ∀ o ∈ h0, notRo o = true ∧ okObj (fun i => decide (i < F.n)) o = true := by
    intro o hm
    have := List.all_eq_true.1 ho o hm
    rw [hF]
    simpa using this
  have hlo : ∀ o ∈ h0, o.live → o.own := by
    intro o hm hl
    have := (hobj o hm).1
    cases o with
    | ro => exact Bool.noConfusion this
    | cells => exact trivial
    | row => exact hl
    | mp => exact trivial
    | gone => exact hl.elim
  have getc : ∀ {i : Nat} {o : AObj}, (h ++ h0.map (rnO (up h.length)))[i]? = some o → (i < h.length ∧ h[i]? = some o) ∨ (h.length ≤ i ∧ ∃ u, h0[i - h.length]? = some u ∧ o = rnO (up h.length) u) := by
    intro i o hi
    rw [List.getElem?_append] at hi
    split at hi
    · rename_i hlt; exact .inl ⟨hlt, hi⟩
    · rename_i hlt
      rw [List.getElem?_map, Option.map_eq_some_iff] at hi
      obtain ⟨u, h1, rfl⟩ := hi
      exact .inr ⟨by omega, u, h1, rfl⟩
  have newge : ∀ {j : Nat} {u : AObj}, h0[j]? = some u → u.live → w.heap.size ≤ F.blk j := by
    intro j u hj hl
    rcases ev.own _ ⟨j, u, hj, hlo u (List.mem_of_getElem? hj) hl, rfl⟩ with h1 | h1
    · exact h1
    · exact absurd h1 (hno _)
  have hag := join_agree E F h.length
  have hb2 : ∀ {i : Nat}, h.length ≤ i → (E.join F h.length).blk i = F.blk (i - h.length) := fun hi => if_neg (by omega)
  have hres := rviaV hτ (by rw [hF]; exact hv) (rv.mono (join_via E F h.length))
  refine ⟨_, v', _, E.join F h.length, rfl, ⟨?_, ?_, ?_⟩, ⟨hag, ?_, ?_, ev.size, ev.os, ev.tape, ev.output⟩, hres, rfl, rfl⟩
  · simp [Env.join, hF]
  · intro i o hi
    rcases getc hi with ⟨h1, h2⟩ | ⟨h1, u, h2, rfl⟩
    · exact (g.holds i o h2).mono (by rw [g.n]; exact hag) (by rw [g.n]; exact h1) (fun hl => ev.frame _ (g.block_lt h2 hl) (hno _))
    · have := rviaH hτ (hobj u (List.mem_of_getElem? h2)).2 ((gF.holds _ u h2).mono (join_via E F h.length) (gF.lt h2) (fun _ => rfl))
      simp only [up, Nat.sub_add_cancel h1] at this
      exact this
  · intro i j o u hi hj hoo hul hne
    rcases getc hi with ⟨h1, h2⟩ | ⟨h1, u1, h2, rfl⟩ <;> rcases getc hj with ⟨k1, k2⟩ | ⟨k1, u2, k2, rfl⟩
    · rw [hag.blk i h1, hag.blk j k1]; exact g.apart i j o u h2 k2 hoo hul hne
    · rw [hag.blk i h1, hb2 k1]
      exact Nat.ne_of_lt (Nat.lt_of_lt_of_le (g.block_lt h2 (own_live hoo)) (newge k2 (rnO_live.1 hul)))
    · rw [hag.blk j k1, hb2 h1]
      exact (Nat.ne_of_lt (Nat.lt_of_lt_of_le (g.block_lt k2 hul) (newge h2 (own_live (rnO_own.1 hoo))))).symm
    · rw [hb2 h1, hb2 k1]
      exact gF.apart _ _ u1 u2 h2 k2 (rnO_own.1 hoo) (rnO_live.1 hul) (by omega)
  · intro b hb _
    exact ev.frame b hb (hno b)
  · rintro b ⟨i, o, hi, hoo, rfl⟩
    rcases getc hi with ⟨h1, h2⟩ | ⟨h1, u, h2, rfl⟩
    · exact .inr ⟨i, o, h2, hoo, (hag.blk i h1).symm⟩
    · rw [hb2 h1]; exact .inl (newge h2 (own_live (rnO_own.1 hoo)))

/-! What is not kept. -/

theorem rn1_rn1 {σ τ : Nat → Nat} {p : Nat → Bool} (hp : ∀ i, p i = true → τ (σ i) = i) {v : Value} (h : okId1 p v = true) : rn1 τ (rn1 σ v) = v := by
  cases v with
  | pointer a => cases a with
    | none => rfl
    | some a => simp only [rn1, hp _ h]
  | slice a n c => cases a with
    | none => rfl
    | some a => simp only [rn1, hp _ h]
  | map a => cases a with
    | none => rfl
    | some a => simp only [rn1, hp _ h]
  | _ => rfl

theorem rnL1 {σ τ : Nat → Nat} {p : Nat → Bool} (hp : ∀ i, p i = true → τ (σ i) = i) : ∀ {l : List Value}, l.all (okId1 p) = true → (l.map (rn1 σ)).map (rn1 τ) = l
  | [], _ => rfl
  | v :: l, h => by
    simp only [List.all_cons, Bool.and_eq_true] at h
    simp only [List.map_cons, rn1_rn1 hp h.1, rnL1 hp h.2]

theorem rn2_rn2 {σ τ : Nat → Nat} {p : Nat → Bool} (hp : ∀ i, p i = true → τ (σ i) = i) {v : Value} (h : okId2 p v = true) : rn2 τ (rn2 σ v) = v := by
  have other : okId1 p v = true → rn2 τ (rn2 σ v) = rn1 τ (rn1 σ v) → rn2 τ (rn2 σ v) = v := fun h1 h2 => h2.trans (rn1_rn1 hp h1)
  cases v with
  | agg c => obtain ⟨l⟩ := c; simp only [rn2, rnL1 hp h]
  | func fn f c =>
    obtain ⟨f⟩ := f; obtain ⟨c⟩ := c
    simp only [okId2, Bool.and_eq_true] at h
    simp only [rn2, rnL1 hp h.1, rnL1 hp h.2]
  | iface t u => simp only [rn2, rn1_rn1 hp h]
  | pointer a => cases a <;> exact other h rfl
  | slice a n c => cases a <;> exact other h rfl
  | map a => cases a <;> exact other h rfl
  | tuple => exact Bool.noConfusion h
  | _ => rfl

theorem rnL2 {σ τ : Nat → Nat} {p : Nat → Bool} (hp : ∀ i, p i = true → τ (σ i) = i) : ∀ {l : List Value}, l.all (okId2 p) = true → (l.map (rn2 σ)).map (rn2 τ) = l
  | [], _ => rfl
  | v :: l, h => by
    simp only [List.all_cons, Bool.and_eq_true] at h
    simp only [List.map_cons, rn2_rn2 hp h.1, rnL2 hp h.2]

theorem rnV_rnV {σ τ : Nat → Nat} {p : Nat → Bool} (hp : ∀ i, p i = true → τ (σ i) = i) {v : Value} (h : okIds p v = true) : rnV τ (rnV σ v) = v := by
  have other : okId2 p v = true → rnV τ (rnV σ v) = rn2 τ (rn2 σ v) → rnV τ (rnV σ v) = v := fun h1 h2 => h2.trans (rn2_rn2 hp h1)
  cases v with
  | tuple c => obtain ⟨l⟩ := c; simp only [rnV, rnL2 hp h]
  | pointer a => cases a <;> exact other h rfl
  | slice a n c => cases a <;> exact other h rfl
  | map a => cases a <;> exact other h rfl
  | agg c => obtain ⟨l⟩ := c; exact other h rfl
  | func fn f c => obtain ⟨f⟩ := f; obtain ⟨c⟩ := c; exact other h rfl
  | iface t u => exact other h rfl
  | _ => rfl

theorem rnL_rnL {σ τ : Nat → Nat} {p : Nat → Bool} (hp : ∀ i, p i = true → τ (σ i) = i) : ∀ {l : List Value}, l.all (okIds p) = true → (l.map (rnV σ)).map (rnV τ) = l
  | [], _ => rfl
  | v :: l, h => by
    simp only [List.all_cons, Bool.and_eq_true] at h
    simp only [List.map_cons, rnV_rnV hp h.1, rnL_rnL hp h.2]

theorem rnM_rnM {σ τ : Nat → Nat} {p : Nat → Bool} (hp : ∀ i, p i = true → τ (σ i) = i) : ∀ {l : List (Value × Value)}, (l.all fun x => okIds p x.1 && okIds p x.2) = true → (l.map fun x => (rnV σ x.1, rnV σ x.2)).map (fun x => (rnV τ x.1, rnV τ x.2)) = l
  | [], _ => rfl
  | (k, v) :: l, h => by
    simp only [List.all_cons, Bool.and_eq_true] at h
    simp only [List.map_cons, rnV_rnV hp h.1.1, rnV_rnV hp h.1.2]
    rw [rnM_rnM hp (by simpa using h.2)]

theorem rnO_rnO {σ τ : Nat → Nat} {p : Nat → Bool} (hp : ∀ i, p i = true → τ (σ i) = i) {o : AObj} (h : okObj p o = true) : rnO τ (rnO σ o) = o := by
  cases o with
  | cells vs e sz => simp only [rnO, rnL_rnL hp h]
  | row vs e sz => simp only [rnO, rnL_rnL hp h]
  | ro vs sz => simp only [rnO, rnL_rnL hp h]
  | mp es => simp only [rnO, rnM_rnM hp h]
  | gone => rfl
theorem rnV_bare {σ : Nat → Nat} {v : Value} (h : bare v = true) : rnV σ v = v := by
  have h1 : ∀ {l : List Value}, l.all (okId1 fun _ => false) = true → l.map (rn1 σ) = l := by
    intro l hl
    refine (List.map_congr_left fun x hx => ?_).trans (List.map_id l)
    have := List.all_eq_true.1 hl x hx
    cases x with
    | pointer a => cases a with
      | none => rfl
      | some a => exact Bool.noConfusion this
    | slice a n c => cases a with
      | none => rfl
      | some a => exact Bool.noConfusion this
    | map a => cases a with
      | none => rfl
      | some a => exact Bool.noConfusion this
    | _ => rfl
  have h2 : ∀ {v : Value}, okId2 (fun _ => false) v = true → rn2 σ v = v := by
    intro x hx
    cases x with
    | agg c => obtain ⟨l⟩ := c; simp only [rn2, h1 hx]
    | func fn f c =>
      obtain ⟨f⟩ := f; obtain ⟨c⟩ := c
      simp only [okId2, Bool.and_eq_true] at hx
      simp only [rn2, h1 hx.1, h1 hx.2]
    | iface t u =>
      have := h1 (l := [u]) (by simp only [List.all_cons, List.all_nil, Bool.and_true]; exact hx)
      simp only [List.map_cons, List.map_nil, List.cons.injEq, and_true] at this
      simp only [rn2, this]
    | pointer a => cases a with
      | none => rfl
      | some a => exact Bool.noConfusion hx
    | slice a n c => cases a with
      | none => rfl
      | some a => exact Bool.noConfusion hx
    | map a => cases a with
      | none => rfl
      | some a => exact Bool.noConfusion hx
    | tuple => exact Bool.noConfusion hx
    | _ => rfl
  have other : okId2 (fun _ => false) v = true → rnV σ v = rn2 σ v → rnV σ v = v := fun k1 k2 => k2.trans (h2 k1)
  cases v with
  | tuple c =>
    obtain ⟨l⟩ := c
    have : l.map (rn2 σ) = l := (List.map_congr_left fun x hx => h2 (List.all_eq_true.1 h x hx)).trans (List.map_id l)
    simp only [rnV, this]
  | agg c => exact other h rfl
  | func fn f c => exact other h rfl
  | iface t u => exact other h rfl
  | pointer a => cases a <;> exact other h rfl
  | slice a n c => cases a <;> exact other h rfl
  | map a => cases a <;> exact other h rfl
  | _ => rfl

end Go.AX

namespace Go.AX

def posOf : List Nat → Nat → Nat
  | [], _ => 0
  | a :: l, i => if Nat.beq a i then 0 else posOf l i + 1

def hasIt (l : List Nat) (i : Nat) : Bool := l.any (Nat.beq · i)

theorem posOf_spec : ∀ {l : List Nat} {i : Nat}, hasIt l i = true → posOf l i < l.length ∧ l.getD (posOf l i) 0 = i
  | [], _, h => Bool.noConfusion h
  | a :: l, i, h => by
    unfold posOf
    split
    · rename_i hb
      exact ⟨by simp, by simpa using Nat.eq_of_beq_eq_true hb⟩
    · rename_i hb
      have h2 : hasIt l i = true := by
        simp only [hasIt, List.any_cons, Bool.or_eq_true] at h
        rcases h with h | h
        · exact absurd h hb
        · exact h
      obtain ⟨h3, h4⟩ := posOf_spec h2
      exact ⟨by simp; omega, by simpa using h4⟩

def oneEach : List Nat → Bool
  | [] => true
  | a :: l => !hasIt l a && oneEach l

theorem oneEach_nodup : ∀ {l : List Nat}, oneEach l = true → l.Nodup
  | [], _ => List.nodup_nil
  | a :: l, h => by
    simp only [oneEach, Bool.and_eq_true, Bool.not_eq_true'] at h
    refine List.nodup_cons.2 ⟨fun hm => ?_, oneEach_nodup h.2⟩
    have : hasIt l a = true := List.any_eq_true.2 ⟨a, hm, Nat.beq_refl a⟩
    rw [h.1] at this
    exact Bool.noConfusion this


theorem ok_pos1 {l : List Nat} {v : Value} (h : okId1 (hasIt l) v = true) : okId1 (fun i => decide (i < l.length)) (rn1 (posOf l) v) = true := by
  cases v with
  | pointer a => cases a with
    | none => rfl
    | some a => exact decide_eq_true (posOf_spec h).1
  | slice a n c => cases a with
    | none => rfl
    | some a => exact decide_eq_true (posOf_spec h).1
  | map a => cases a with
    | none => rfl
    | some a => exact decide_eq_true (posOf_spec h).1
  | agg => exact Bool.noConfusion h
  | tuple => exact Bool.noConfusion h
  | func => exact Bool.noConfusion h
  | iface => exact Bool.noConfusion h
  | _ => rfl

theorem ok_posL1 {l : List Nat} {c : List Value} (h : c.all (okId1 (hasIt l)) = true) : (c.map (rn1 (posOf l))).all (okId1 fun i => decide (i < l.length)) = true := by
  rw [List.all_eq_true] at h ⊢
  intro x hx
  obtain ⟨y, hy, rfl⟩ := List.mem_map.1 hx
  exact ok_pos1 (h y hy)

theorem ok_pos2 {l : List Nat} {v : Value} (h : okId2 (hasIt l) v = true) : okId2 (fun i => decide (i < l.length)) (rn2 (posOf l) v) = true := by
  have other : okId1 (hasIt l) v = true → okId2 (fun i => decide (i < l.length)) (rn2 (posOf l) v) = okId1 (fun i => decide (i < l.length)) (rn1 (posOf l) v) → okId2 (fun i => decide (i < l.length)) (rn2 (posOf l) v) = true := fun h1 h2 => h2.trans (ok_pos1 h1)
  cases v with
  | agg c => obtain ⟨c⟩ := c; exact ok_posL1 h
  | func fn f c =>
    obtain ⟨f⟩ := f; obtain ⟨c⟩ := c
    simp only [okId2, Bool.and_eq_true] at h
    show (_ && _) = true
    rw [Bool.and_eq_true]
    exact ⟨ok_posL1 h.1, ok_posL1 h.2⟩
  | iface t u => exact ok_pos1 (v := u) h
  | tuple => exact Bool.noConfusion h
  | pointer a => cases a <;> exact other h rfl
  | slice a n c => cases a <;> exact other h rfl
  | map a => cases a <;> exact other h rfl
  | _ => rfl

theorem ok_pos {l : List Nat} {v : Value} (h : okIds (hasIt l) v = true) : okIds (fun i => decide (i < l.length)) (rnV (posOf l) v) = true := by
  have other : okId2 (hasIt l) v = true → okIds (fun i => decide (i < l.length)) (rnV (posOf l) v) = okId2 (fun i => decide (i < l.length)) (rn2 (posOf l) v) → okIds (fun i => decide (i < l.length)) (rnV (posOf l) v) = true := fun h1 h2 => h2.trans (ok_pos2 h1)
  cases v with
  | tuple c =>
    obtain ⟨c⟩ := c
    show (c.map (rn2 (posOf l))).all (okId2 fun i => decide (i < l.length)) = true
    have h' : c.all (okId2 (hasIt l)) = true := h
    rw [List.all_eq_true] at h' ⊢
    intro x hx
    obtain ⟨y, hy, rfl⟩ := List.mem_map.1 hx
    exact ok_pos2 (h' y hy)
  | pointer a => cases a <;> exact other h rfl
  | slice a n c => cases a <;> exact other h rfl
  | map a => cases a <;> exact other h rfl
  | agg c => obtain ⟨c⟩ := c; exact other h rfl
  | func fn f c => obtain ⟨f⟩ := f; obtain ⟨c⟩ := c; exact other h rfl
  | iface t u => exact other h rfl
  | _ => rfl

theorem ok_posO {l : List Nat} {o : AObj} (h : okObj (hasIt l) o = true) : okObj (fun i => decide (i < l.length)) (rnO (posOf l) o) = true := by
  have lst : ∀ {c : List Value}, c.all (okIds (hasIt l)) = true → (c.map (rnV (posOf l))).all (okIds fun i => decide (i < l.length)) = true := by
    intro c h
    rw [List.all_eq_true] at h ⊢
    intro x hx
    obtain ⟨y, hy, rfl⟩ := List.mem_map.1 hx
    exact ok_pos (h y hy)
  cases o with
  | cells vs e sz => exact lst h
  | row vs e sz => exact lst h
  | ro vs sz => exact lst h
  | mp es =>
    have h' : (es.all fun x => okIds (hasIt l) x.1 && okIds (hasIt l) x.2) = true := h
    show ((es.map fun x => (rnV (posOf l) x.1, rnV (posOf l) x.2)).all fun x => _ && _) = true
    rw [List.all_eq_true] at h' ⊢
    intro x hx
    obtain ⟨y, hy, rfl⟩ := List.mem_map.1 hx
    have := h' y hy
    rw [Bool.and_eq_true] at this ⊢
    exact ⟨ok_pos this.1, ok_pos this.2⟩
  | gone => rfl

def keptObjs (keep : List Nat) (h : AHeap) : AHeap := keep.map fun i => rnO (posOf keep) (h.getD i .gone)

theorem AEq.trim {P : Program} {k : FuncId} {args : List Value} {v : Value} {h' : AHeap} (t : AEq P k args [] v h') (keep : List Nat) (hk : oneEach keep = true) (hv : okIds (hasIt keep) v = true)
    (ho : (keep.all fun i => decide (i < h'.length) && okObj (hasIt keep) (h'.getD i .gone)) = true) : AEq P k args [] (rnV (posOf keep) v) (keptObjs keep h') := by
  intro E w args' g ra
  refine (t E w args' g ra).mono ?_
  rintro e w' ⟨v0, v', h0, F, rfl, gF, ev, rv, rfl, rfl⟩
  have hp : ∀ i, hasIt keep i = true → (fun j => keep.getD j 0) (posOf keep i) = i := fun i hi => (posOf_spec hi).2
  have hlen : (keptObjs keep h0).length = keep.length := by simp [keptObjs]
  have hget : ∀ {i : Nat} {o : AObj}, (keptObjs keep h0)[i]? = some o → i < keep.length ∧ h0[keep.getD i 0]? = some (rnO (fun j => keep.getD j 0) o) ∧ okObj (fun i => decide (i < keep.length)) o = true := by
    intro i o hi
    simp only [keptObjs, List.getElem?_map, Option.map_eq_some_iff] at hi
    obtain ⟨q, hq, rfl⟩ := hi
    have hlt := (List.getElem?_eq_some_iff.1 hq).1
    have hm := List.all_eq_true.1 ho q (List.mem_of_getElem? hq)
    rw [Bool.and_eq_true, decide_eq_true_eq] at hm
    have hgq : keep.getD i 0 = q := by simp [List.getD, hq]
    refine ⟨hlt, ?_, ok_posO hm.2⟩
    rw [hgq, rnO_rnO hp hm.2, List.getD_eq_getElem?_getD, List.getElem?_eq_getElem hm.1]
    rfl
  obtain ⟨g2, ev2⟩ := rename_good (h2 := keptObjs keep h0) (m := 0) (τ := fun j => keep.getD j 0) gF (Nat.zero_le _) (Nat.zero_le _) (fun i hi => absurd hi (Nat.not_lt_zero _))
    (fun i o hi => .inr (hget hi).2.1) (fun o hm => by
      obtain ⟨i, hi⟩ := List.getElem?_of_mem hm
      rw [hlen]; exact (hget hi).2.2)
    (fun i j o u hi hj _ _ hne he => by
      have h1 := (hget hi).1
      have h2 := (hget hj).1
      have hnd := oneEach_nodup hk
      simp only [List.getD_eq_getElem?_getD, List.getElem?_eq_getElem h1, List.getElem?_eq_getElem h2, Option.getD_some] at he
      exact hne ((List.getElem_inj hnd).1 he))
  refine ⟨_, v', _, _, rfl, g2, ev.trans ev2 (Nat.le_refl _), ?_, rfl, rfl⟩
  refine viaV (by rw [hlen]; exact ok_pos hv) ?_
  rw [rnV_rnV hp hv]
  exact rv
theorem AEq.bare {P : Program} {k : FuncId} {args : List Value} {v : Value} {h' : AHeap} (t : AEq P k args [] v h') (ha : args.all bare = true) (hv : bare v = true) (h : AHeap) : AEq P k args h v h := by
  have hnone : ∀ i, hasIt [] i = false := fun _ => rfl
  have hv1 : okIds (hasIt []) v = true := by
    have : hasIt [] = fun _ => false := rfl
    rw [this]; exact hv
  have h1 := t.trim [] rfl hv1 rfl
  rw [rnV_bare hv] at h1
  have hv2 : okIds (fun i => decide (i < (keptObjs [] h').length)) v = true := by
    have : (fun i => decide (i < (keptObjs [] h').length)) = fun _ => false := by funext i; simp [keptObjs]
    rw [this]; exact hv
  have h2 := h1.frame ha hv2 rfl h
  rw [rnV_bare hv] at h2
  simpa [keptObjs] using h2

end Go.AX

namespace Go.AX

def eqNats : List Nat → List Nat → Bool
  | [], [] => true
  | a :: l, b :: m => Nat.beq a b && eqNats l m
  | _, _ => false

theorem eqNats_eq : ∀ {l m : List Nat}, eqNats l m = true → l = m
  | [], [], _ => rfl
  | [], _ :: _, h => Bool.noConfusion h
  | _ :: _, [], h => Bool.noConfusion h
  | a :: l, b :: m, h => by
    simp only [eqNats, Bool.and_eq_true] at h
    rw [Nat.eq_of_beq_eq_true h.1, eqNats_eq h.2]

noncomputable def putAll (f : Nat → Value) (l : List Tmp) (U : Tm) : Tm := l.foldl (fun U x => U.put x (f x)) U

noncomputable def gcTm (keep : List Nat) (live : List Tmp) (ts : Tm) : Tm := putAll (fun x => rnV (posOf keep) (ts.get x)) live { n := ts.n, d := junk, t := .leaf }
def bareO : AObj → Bool
  | .cells vs _ _ | .row vs _ _ | .ro vs _ => vs.all (okIds fun _ => false)
  | .mp es => es.all fun x => okIds (fun _ => false) x.1 && okIds (fun _ => false) x.2
  | .gone => true

noncomputable def gcOk (m : Nat) (keep bares : List Nat) (live : List Tmp) (ts : Tm) (h : AHeap) : Bool :=
  (oneEach keep && eqNats (keep.take m) (List.range m)) && ((keep.all fun i => decide (i < h.length) && (hasIt bares i || okObj (hasIt keep) (h.getD i .gone))) && live.all fun x => okIds (hasIt keep) (ts.get x))
noncomputable def keptB (keep bares : List Nat) (h : AHeap) : AHeap :=
  keep.map fun i => match hasIt bares i with
    | true => h.getD i .gone
    | false => rnO (posOf keep) (h.getD i .gone)

noncomputable def bareObs (bares : List Nat) (h : AHeap) : List Prop := bares.map fun i => bareO (h.getD i .gone) = true

theorem bareObs_mem {bares : List Nat} {h : AHeap} (ho : AllP (bareObs bares h)) {i : Nat} (hi : hasIt bares i = true) : bareO (h.getD i .gone) = true := by
  induction bares with
  | nil => exact Bool.noConfusion hi
  | cons a l ih =>
    simp only [hasIt, List.any_cons, Bool.or_eq_true] at hi
    rcases hi with hi | hi
    · have := Nat.eq_of_beq_eq_true hi
      subst this
      exact ho.1
    · exact ih ho.2 hi

theorem okIds_of_bare {p : Nat → Bool} {v : Value} (h : okIds (fun _ => false) v = true) : okIds p v = true := by
  have h1 : ∀ {v : Value}, okId1 (fun _ => false) v = true → okId1 p v = true := by
    intro v h
    cases v with
    | pointer a => cases a with
      | none => rfl
      | some a => exact Bool.noConfusion h
    | slice a n c => cases a with
      | none => rfl
      | some a => exact Bool.noConfusion h
    | map a => cases a with
      | none => rfl
      | some a => exact Bool.noConfusion h
    | agg => exact Bool.noConfusion h
    | tuple => exact Bool.noConfusion h
    | func => exact Bool.noConfusion h
    | iface => exact Bool.noConfusion h
    | _ => rfl
  have hL1 : ∀ {l : List Value}, l.all (okId1 fun _ => false) = true → l.all (okId1 p) = true := fun h => List.all_eq_true.2 fun x hx => h1 (List.all_eq_true.1 h x hx)
  have h2 : ∀ {v : Value}, okId2 (fun _ => false) v = true → okId2 p v = true := by
    intro v h
    have other : okId1 (fun _ => false) v = true → okId1 p v = true := h1
    cases v with
    | agg c => obtain ⟨c⟩ := c; exact hL1 h
    | func fn f c =>
      obtain ⟨f⟩ := f; obtain ⟨c⟩ := c
      simp only [okId2, Bool.and_eq_true] at h ⊢
      exact ⟨hL1 h.1, hL1 h.2⟩
    | iface t u => exact h1 (v := u) h
    | tuple => exact Bool.noConfusion h
    | pointer a => exact other h
    | slice a n c => exact other h
    | map a => exact other h
    | _ => rfl
  have other : okId2 (fun _ => false) v = true → okId2 p v = true := h2
  cases v with
  | tuple c => obtain ⟨c⟩ := c; exact List.all_eq_true.2 fun x hx => h2 (List.all_eq_true.1 h x hx)
  | agg c => exact other h
  | func fn f c => exact other h
  | iface t u => exact other h
  | pointer a => exact other h
  | slice a n c => exact other h
  | map a => exact other h
  | _ => rfl

theorem bareO_ok {p : Nat → Bool} {o : AObj} (h : bareO o = true) : okObj p o = true := by
  cases o with
  | cells vs e sz => exact List.all_eq_true.2 fun x hx => okIds_of_bare (List.all_eq_true.1 h x hx)
  | row vs e sz => exact List.all_eq_true.2 fun x hx => okIds_of_bare (List.all_eq_true.1 h x hx)
  | ro vs sz => exact List.all_eq_true.2 fun x hx => okIds_of_bare (List.all_eq_true.1 h x hx)
  | mp es =>
    refine List.all_eq_true.2 fun x hx => ?_
    have := List.all_eq_true.1 h x hx
    rw [Bool.and_eq_true] at this ⊢
    exact ⟨okIds_of_bare this.1, okIds_of_bare this.2⟩
  | gone => rfl

theorem bareO_rn {τ : Nat → Nat} {o : AObj} (h : bareO o = true) : rnO τ o = o := by
  have lst : ∀ {c : List Value}, c.all (okIds fun _ => false) = true → c.map (rnV τ) = c := by
    intro c hc
    have : c.map (rnV τ) = c.map id := List.map_congr_left fun v hv => rnV_bare (List.all_eq_true.1 hc v hv)
    rw [this, List.map_id]
  cases o with
  | cells vs e sz => exact congrArg (AObj.cells · e sz) (lst h)
  | row vs e sz => exact congrArg (AObj.row · e sz) (lst h)
  | ro vs sz => exact congrArg (AObj.ro · sz) (lst h)
  | mp es =>
    refine congrArg AObj.mp ?_
    have : es.map (fun x => (rnV τ x.1, rnV τ x.2)) = es.map id := List.map_congr_left fun x hx => by
      have := List.all_eq_true.1 h x hx
      rw [Bool.and_eq_true] at this
      rw [rnV_bare this.1, rnV_bare this.2]; rfl
    rw [this, List.map_id]
  | gone => rfl

theorem putAll_n (f : Nat → Value) : ∀ (l : List Tmp) (U : Tm), (putAll f l U).n = U.n
  | [], _ => rfl
  | x :: l, U => by
    show (putAll f l (U.put x (f x))).n = U.n
    rw [putAll_n f l, Tm.put_n]

theorem putAll_get (f : Nat → Value) : ∀ (l : List Tmp) (U : Tm) (k : Nat), U.n ≤ 4000 → (putAll f l U).get k = U.get k ∨ (k ∈ l ∧ (putAll f l U).get k = f k)
  | [], _, _, _ => .inl rfl
  | x :: l, U, k, hU => by
    show (putAll f l (U.put x (f x))).get k = U.get k ∨ (k ∈ x :: l ∧ (putAll f l (U.put x (f x))).get k = f k)
    rcases putAll_get f l (U.put x (f x)) k (by rw [Tm.put_n]; exact hU) with h | ⟨h1, h2⟩
    · rw [h, Tm.get_put _ _ _ _ hU]
      split
      · rename_i hk
        obtain ⟨rfl, _⟩ := hk
        exact .inr ⟨List.mem_cons_self .., rfl⟩
      · exact .inl rfl
    · exact .inr ⟨List.mem_cons_of_mem _ h1, h2⟩

theorem gc_awk {m : Nat} {keep bares : List Nat} {live : List Tmp} {ts : Tm} {h : AHeap} (hg : gcOk m keep bares live ts h = true) (hbo : AllP (bareObs bares h)) : AWk m ts h (gcTm keep live ts) (keptB keep bares h) := by
  intro hm E w a g r
  simp only [gcOk, Bool.and_eq_true] at hg
  obtain ⟨⟨hk, hm'⟩, ho, hv⟩ := hg
  replace hm' := eqNats_eq hm'
  have hp : ∀ i, hasIt keep i = true → (fun j => keep.getD j 0) (posOf keep i) = i := fun i hi => (posOf_spec hi).2
  have hlen : (keptB keep bares h).length = keep.length := by simp [keptB]
  have hget : ∀ {i : Nat} {o : AObj}, (keptB keep bares h)[i]? = some o → i < keep.length ∧ h[keep.getD i 0]? = some (rnO (fun j => keep.getD j 0) o) ∧ okObj (fun i => decide (i < keep.length)) o = true := by
    intro i o hi
    simp only [keptB, List.getElem?_map, Option.map_eq_some_iff] at hi
    obtain ⟨q, hq, ho1⟩ := hi
    have hlt := (List.getElem?_eq_some_iff.1 hq).1
    have hmm := List.all_eq_true.1 ho q (List.mem_of_getElem? hq)
    rw [Bool.and_eq_true, decide_eq_true_eq] at hmm
    have hgq : keep.getD i 0 = q := by simp [List.getD, hq]
    have hgd : h[q]? = some (h.getD q .gone) := by
      rw [List.getD_eq_getElem?_getD, List.getElem?_eq_getElem hmm.1]; rfl
    cases hb : hasIt bares q with
    | true =>
      rw [hb] at ho1
      simp only at ho1
      have hbr := bareObs_mem hbo hb
      subst ho1
      exact ⟨hlt, by rw [hgq, bareO_rn hbr]; exact hgd, bareO_ok hbr⟩
    | false =>
      rw [hb] at ho1
      simp only at ho1
      subst ho1
      rw [hb, Bool.false_or] at hmm
      exact ⟨hlt, by rw [hgq, rnO_rnO hp hmm.2]; exact hgd, ok_posO hmm.2⟩
  have hmk : m ≤ keep.length := by
    have := congrArg List.length hm'
    simp only [List.length_take, List.length_range] at this
    omega
  have hτ : ∀ i, i < m → (fun j => keep.getD j 0) i = i := by
    intro i hi
    have h1 : (keep.take m)[i]? = (List.range m)[i]? := by rw [hm']
    rw [List.getElem?_take, if_pos hi, List.getElem?_range hi] at h1
    simp [List.getD, h1]
  obtain ⟨g2, ev2⟩ := rename_good (h2 := keptB keep bares h) (m := m) (τ := fun j => keep.getD j 0) g hm (by rw [hlen]; exact hmk) hτ
    (fun i o hi => .inr (hget hi).2.1) (fun o hmm => by
      obtain ⟨i, hi⟩ := List.getElem?_of_mem hmm
      rw [hlen]; exact (hget hi).2.2)
    (fun i j o u hi hj _ _ hne he => by
      have h1 := (hget hi).1
      have h2 := (hget hj).1
      have hnd := oneEach_nodup hk
      simp only [List.getD_eq_getElem?_getD, List.getElem?_eq_getElem h1, List.getElem?_eq_getElem h2, Option.getD_some] at he
      exact hne ((List.getElem_inj hnd).1 he))
  refine ⟨_, g2, ⟨?_, ?_, fun k => ?_⟩, ev2⟩
  · show (putAll _ _ _).n = _
    rw [putAll_n]; exact r.n
  · show (putAll _ _ _).n ≤ _
    rw [putAll_n]; exact r.le
  · rcases putAll_get (fun x => rnV (posOf keep) (ts.get x)) live { n := ts.n, d := junk, t := .leaf } k r.le with h1 | ⟨h1, h2⟩
    · have h3 : (gcTm keep live ts).get k = junk := by
        show (putAll _ _ _).get k = junk
        rw [h1]; rfl
      rw [h3]; exact .junk _
    · have h3 : (gcTm keep live ts).get k = rnV (posOf keep) (ts.get k) := h2
      rw [h3]
      have hvk := List.all_eq_true.1 hv k h1
      refine viaV (by rw [hlen]; exact ok_pos hvk) ?_
      rw [rnV_rnV hp hvk]
      exact r.get k

end Go.AX

namespace Go.AX
noncomputable def evStep (P : Program) (n : Nat) (ev : Nat → Code → Tm → AHeap → Script → Res) (m : Nat) (c : Code) (ts : Tm) (h : AHeap) (scr : Script) : Res :=
  match c with
  | .rangeFunc f ps as b =>
    match scr with
    | .code ex ts' h' :: s => some ([AComes P m (.rangeFunc f ps as b) ts h ex ts' h'], ex, ts', h', s)
    | _ => none
  | .loop c =>
    match scr with
    | .code ex ts' h' :: s => some ([AComes P m (.loop c) ts h ex ts' h'], ex, ts', h', s)
    | .codeG keep bares live ex ts' h' :: s =>
      match gcOk m keep bares live ts h with
      | true => some (bareObs bares h ++ [AComes P m (.loop c) (gcTm keep live ts) (keptB keep bares h) ex ts' h'], ex, ts', h', s)
      | false => none
    | _ => evLoop (ev m c) n ts h scr
  | .skip => some ([], .normal, ts, h, scr)
  | .ret => some ([], .ret, ts, h, scr)
  | .exit id => some ([], .exit id, ts, h, scr)
  | .seq x y =>
    match ev m x ts h scr with
    | some (ob, .normal, ts1, h1, scr1) => addObsR ob (ev m y ts1 h1 scr1)
    | r => r
  | .block id c =>
    match scr with
    | .codeB keep bares live ex ts' h' :: s =>
      match gcOk m keep bares live ts h with
      | true => some (bareObs bares h ++ [AComes P m (.block id c) (gcTm keep live ts) (keptB keep bares h) ex ts' h'], ex, ts', h', s)
      | false => none
    | _ =>
      match ev m c ts h scr with
      | some (ob, .exit i, r) => if i = id then some (ob, .normal, r) else some (ob, .exit i, r)
      | r => r
  | .cond c x y =>
    match opd ts c with
    | some (.bool b) =>
      match evCond scr b with
      | some (ob, true, s) => addObsR ob (ev m x ts h s)
      | some (ob, false, s) => addObsR ob (ev m y ts h s)
      | none => none
    | _ => none
  | .region _ ops false =>
    match evOps P ev ops ops.toList ts h scr with
    | some (ob, ts', h', s) => some (ob, .normal, ts', h', s)
    | none => none
  | .region _ ops true =>
    match evDraw P ev ops ts h scr with
    | some (ob, ts', h', s) => some (ob, .normal, ts', h', s)
    | none => none
  | _ => none

noncomputable def evCode (P : Program) (n : Nat) : Nat → Code → Tm → AHeap → Script → Res :=
  Nat.rec (fun _ _ _ _ _ => none) (fun k ih => evStep P k ih) n

noncomputable def evFn (P : Program) (n : Nat) (k : FuncId) (args : List Value) (h : AHeap) (scr : Script) : FRes :=
  if enterable P k then evFnWith P (evCode P n) k args h scr else none


section
variable {P : Program}

theorem evCode_ok (n : Nat) : EvOk P (evCode P n) := by
  induction n with
  | zero => intro m c ts h scr ob ex ts' h' scr' he; exact absurd he (by simp [evCode])
  | succ n ih =>
    intro m c ts h scr ob ex ts' h' scr' he ho
    have he' : evStep P n (evCode P n) m c ts h scr = some (ob, ex, ts', h', scr') := he
    unfold evStep at he'
    split at he'
    · split at he'
      · simp only [Option.some.injEq, Prod.mk.injEq] at he'
        obtain ⟨rfl, rfl, rfl, rfl, _⟩ := he'
        exact ho.1
      · simp at he'
    · split at he'
      · simp only [Option.some.injEq, Prod.mk.injEq] at he'
        obtain ⟨rfl, rfl, rfl, rfl, _⟩ := he'
        exact ho.1
      · split at he'
        · rename_i hg
          simp only [Option.some.injEq, Prod.mk.injEq] at he'
          obtain ⟨rfl, rfl, rfl, rfl, _⟩ := he'
          exact ATrip.weaken (gc_awk hg ho.append.1) ho.append.2.1
        · simp at he'
      · exact evLoop_sound (fun ts h scr ob ex ts' h' scr' => ih m _ ts h scr ob ex ts' h' scr') n _ _ _ _ _ _ _ _ he' ho
    · simp only [Option.some.injEq, Prod.mk.injEq] at he'
      obtain ⟨rfl, rfl, rfl, rfl, _⟩ := he'
      exact ATrip.skip ⟨rfl, rfl, rfl⟩
    · simp only [Option.some.injEq, Prod.mk.injEq] at he'
      obtain ⟨rfl, rfl, rfl, rfl, _⟩ := he'
      exact ATrip.ret ⟨rfl, rfl, rfl⟩
    · simp only [Option.some.injEq, Prod.mk.injEq] at he'
      obtain ⟨rfl, rfl, rfl, rfl, _⟩ := he'
      exact ATrip.exit ⟨rfl, rfl, rfl⟩
    · rename_i x y
      refine ATrip.seq ?_
      split at he'
      · rename_i ob0 ts1 h1 scr1 hx
        obtain ⟨ob2, h2, rfl⟩ := addObsR_some he'
        obtain ⟨o1, o2⟩ := ho.append
        refine (ih _ _ _ _ _ _ _ _ _ _ hx o1).mono ?_
        rintro e t q ⟨rfl, rfl, rfl⟩
        exact ih _ _ _ _ _ _ _ _ _ _ h2 o2
      · rename_i hne
        refine (ih _ _ _ _ _ _ _ _ _ _ he' ho).mono ?_
        rintro e t q ⟨rfl, rfl, rfl⟩
        cases e with
        | normal => exact absurd he' (hne _ _ _ _)
        | _ => exact ⟨rfl, rfl, rfl⟩
    · rename_i id c
      split at he'
      · split at he'
        · rename_i hg
          simp only [Option.some.injEq, Prod.mk.injEq] at he'
          obtain ⟨rfl, rfl, rfl, rfl, _⟩ := he'
          exact ATrip.weaken (gc_awk hg ho.append.1) ho.append.2.1
        · simp at he'
      · refine ATrip.block ?_
        split at he'
        · rename_i ob0 i r hb
          obtain ⟨ts1, h1, scr1⟩ := r
          split at he'
          · rename_i hid
            simp only [Option.some.injEq, Prod.mk.injEq] at he'
            obtain ⟨rfl, rfl, rfl, rfl, rfl⟩ := he'
            refine (ih _ _ _ _ _ _ _ _ _ _ hb ho).mono ?_
            rintro e t q ⟨rfl, rfl, rfl⟩
            simp only [ABlock, hid, if_true, and_self]
          · rename_i hid
            simp only [Option.some.injEq, Prod.mk.injEq] at he'
            obtain ⟨rfl, rfl, rfl, rfl, rfl⟩ := he'
            refine (ih _ _ _ _ _ _ _ _ _ _ hb ho).mono ?_
            rintro e t q ⟨rfl, rfl, rfl⟩
            simp only [ABlock, hid, if_false, and_self]
        · rename_i hne
          refine (ih _ _ _ _ _ _ _ _ _ _ he' ho).mono ?_
          rintro e t q ⟨rfl, rfl, rfl⟩
          cases e with
          | exit i => exact absurd he' (hne _ _ _)
          | _ => exact ⟨rfl, rfl, rfl⟩
    · rename_i c x y
      split at he'
      · rename_i b hc
        split at he'
        · rename_i ob0 s hcd
          obtain ⟨ob2, h2, rfl⟩ := addObsR_some he'
          obtain ⟨o1, o2⟩ := ho.append
          have hb := evCond_sound hcd o1
          subst hb
          exact ATrip.cond hc (ih _ _ _ _ _ _ _ _ _ _ h2 o2)
        · rename_i ob0 s hcd
          obtain ⟨ob2, h2, rfl⟩ := addObsR_some he'
          obtain ⟨o1, o2⟩ := ho.append
          have hb := evCond_sound hcd o1
          subst hb
          exact ATrip.cond hc (ih _ _ _ _ _ _ _ _ _ _ h2 o2)
        · simp at he'
      · simp at he'
    · rename_i id ops
      split at he'
      · rename_i ob0 ts1 h1 s hops
        simp only [Option.some.injEq, Prod.mk.injEq] at he'
        obtain ⟨rfl, rfl, rfl, rfl, rfl⟩ := he'
        intro hm E w a g hr hd
        refine wp_region_list (evOps_sound ih ops _ _ _ _ _ _ _ _ hops ho E w a _ g hr hd ?_)
        intro E' w' a' g' ev' r' d'
        exact ⟨_, _, E', g', ev'.le (by rw [g.n]; exact hm), r', d', rfl, rfl, rfl⟩
      · simp at he'
    · rename_i id ops
      split at he'
      · rename_i ob0 ts1 h1 s hops
        simp only [Option.some.injEq, Prod.mk.injEq] at he'
        obtain ⟨rfl, rfl, rfl, rfl, rfl⟩ := he'
        exact evDraw_sound ih hops ho
      · simp at he'
    · simp at he'
theorem evFn_sound {n : Nat} {k : FuncId} {args : List Value} {h : AHeap} {scr scr' : Script} {ob : List Prop} {v : Value} {h' : AHeap} (he : evFn P n k args h scr = some (ob, v, h', scr')) (ho : AllP ob) : AEq P k args h v h' := by
  unfold evFn at he
  split at he
  · exact evFnWith_sound (evCode_ok n) he ho
  · simp at he

end
end Go.AX

namespace Go.AX

noncomputable def bareRun (r : FRes) : Option (List Prop × Value) :=
  match r with
  | some (ob, v, _, _) =>
    match bare v with
    | true => some (ob, v)
    | false => none
  | none => none

noncomputable def trimRun (keep : List Nat) (r : FRes) : Option (List Prop × Value × AHeap) :=
  match r with
  | some (ob, v, h, _) =>
    match oneEach keep && (okIds (hasIt keep) v && keep.all fun i => decide (i < h.length) && okObj (hasIt keep) (h.getD i .gone)) with
    | true => some (ob, rnV (posOf keep) v, keptObjs keep h)
    | false => none
  | none => none

theorem evFn_bare {P : Program} {n : Nat} {k : FuncId} {args : List Value} {scr : Script} {ob : List Prop} {v : Value} (he : bareRun (evFn P n k args [] scr) = some (ob, v)) (ho : AllP ob) (ha : args.all bare = true) (h : AHeap) : AEq P k args h v h := by
  unfold bareRun at he
  split at he
  · rename_i ob1 v1 h1 s1 hr
    split at he
    · rename_i hb
      simp only [Option.some.injEq, Prod.mk.injEq] at he
      obtain ⟨rfl, rfl⟩ := he
      exact (evFn_sound hr ho).bare ha hb h
    · simp at he
  · simp at he

theorem evFn_new {P : Program} {n : Nat} {k : FuncId} {args : List Value} {scr : Script} {ob : List Prop} {v : Value} {h' : AHeap} (keep : List Nat) (he : trimRun keep (evFn P n k args [] scr) = some (ob, v, h')) (ho : AllP ob) (ha : args.all bare = true)
    (hc : (okIds (fun i => decide (i < h'.length)) v && h'.all fun o => notRo o && okObj (fun i => decide (i < h'.length)) o) = true) (h : AHeap) :
    AEq P k args h (rnV (up h.length) v) (h ++ h'.map (rnO (up h.length))) := by
  unfold trimRun at he
  split at he
  · rename_i ob1 v1 h1 s1 hr
    split at he
    · rename_i hb
      simp only [Option.some.injEq, Prod.mk.injEq] at he
      obtain ⟨rfl, rfl, rfl⟩ := he
      rw [Bool.and_eq_true, Bool.and_eq_true] at hb
      rw [Bool.and_eq_true] at hc
      exact ((evFn_sound hr ho).trim keep hb.1 hb.2.1 hb.2.2).frame ha hc.1 hc.2 h
    · simp at he
  · simp at he

end Go.AX

namespace Go.AX

def sig (σ : Nat → Nat) (n0 N : Nat) : Nat → Nat := fun i => if i < n0 then σ i else N + (i - n0)
noncomputable def putBack (τ : Nat → Nat) : AHeap → AHeap → Nat → AHeap → AHeap
  | [], _, _, h => h
  | _ :: _, [], _, h => h
  | .ro _ _ :: r, _ :: r', i, h => putBack τ r r' (i + 1) h
  | _ :: r, o' :: r', i, h => putBack τ r r' (i + 1) (h.set (τ i) (rnO τ o'))

noncomputable def mergeH (σ : Nat → Nat) (h h0 h0' : AHeap) : AHeap :=
  putBack (sig σ h0.length h.length) h0 h0' 0 h ++ (h0'.drop h0.length).map (rnO (sig σ h0.length h.length))

theorem putBack_length (τ : Nat → Nat) : ∀ (r r' : AHeap) (i : Nat) (h : AHeap), (putBack τ r r' i h).length = h.length
  | [], _, _, _ => rfl
  | _ :: _, [], _, _ => by unfold putBack; rfl
  | o :: r, o' :: r', i, h => by
    cases o with
    | ro => simp only [putBack]; exact putBack_length τ r r' (i + 1) h
    | _ => simp only [putBack]; rw [putBack_length τ r r' (i + 1)]; simp
theorem putBack_get (τ : Nat → Nat) : ∀ (r r' : AHeap) (i0 : Nat) (h : AHeap) (p : Nat) (o : AObj), r.length ≤ r'.length → (putBack τ r r' i0 h)[p]? = some o →
    (h[p]? = some o ∧ ∀ (q : Nat) (u : AObj), r[q]? = some u → notRo u = true → τ (i0 + q) ≠ p) ∨
    (∃ (q : Nat) (u u' : AObj), r[q]? = some u ∧ notRo u = true ∧ r'[q]? = some u' ∧ τ (i0 + q) = p ∧ o = rnO τ u')
  | [], _, _, _, _, _, _, hp => .inl ⟨hp, fun q u hq => by simp at hq⟩
  | _ :: _, [], _, _, _, _, hl, _ => by simp at hl
  | a :: r, a' :: r', i0, h, p, o, hl, hp => by
    have hl' : r.length ≤ r'.length := by simpa using hl
    have shift : ∀ q, i0 + (q + 1) = i0 + 1 + q := fun q => by omega
    by_cases hn : notRo a = true
    · have hpb : putBack τ (a :: r) (a' :: r') i0 h = putBack τ r r' (i0 + 1) (h.set (τ i0) (rnO τ a')) := by
        cases a <;> first | rfl | exact Bool.noConfusion hn
      rw [hpb] at hp
      rcases putBack_get τ r r' (i0 + 1) _ p o hl' hp with ⟨h1, h2⟩ | ⟨q, u, u', h1, h2, h3, h4, h5⟩
      · by_cases he : τ i0 = p
        · subst he
          have hlt : τ i0 < h.length := by
            have := (List.getElem?_eq_some_iff.1 h1).1
            simpa using this
          rw [List.getElem?_set_self hlt] at h1
          exact .inr ⟨0, a, a', rfl, hn, rfl, by simp, (Option.some.inj h1).symm⟩
        · rw [List.getElem?_set_ne he] at h1
          refine .inl ⟨h1, fun q u hq hu => ?_⟩
          cases q with
          | zero => simpa using he
          | succ q => rw [shift]; exact h2 q u (by simpa using hq) hu
      · exact .inr ⟨q + 1, u, u', by simpa using h1, h2, by simpa using h3, by rw [shift]; exact h4, h5⟩
    · have hpb : putBack τ (a :: r) (a' :: r') i0 h = putBack τ r r' (i0 + 1) h := by
        cases a <;> first | rfl | exact absurd rfl hn
      rw [hpb] at hp
      rcases putBack_get τ r r' (i0 + 1) _ p o hl' hp with ⟨h1, h2⟩ | ⟨q, u, u', h1, h2, h3, h4, h5⟩
      · refine .inl ⟨h1, fun q u hq hu => ?_⟩
        cases q with
        | zero => simp only [List.getElem?_cons_zero, Option.some.injEq] at hq; subst hq; exact absurd hu hn
        | succ q => rw [shift]; exact h2 q u (by simpa using hq) hu
      · exact .inr ⟨q + 1, u, u', by simpa using h1, h2, by simpa using h3, by rw [shift]; exact h4, h5⟩

theorem lends_live {a b : AObj} (h : lends a b) (hl : a.live) : b.live := by
  cases a with
  | ro vs sz =>
    have hne : vs ≠ [] := hl
    cases b with
    | ro us sz' => obtain ⟨_, r, rfl⟩ := h; exact fun e => hne (List.append_eq_nil_iff.1 e).1
    | cells => trivial
    | row us e sz' => obtain ⟨_, r, rfl⟩ := h; exact fun e => hne (List.append_eq_nil_iff.1 e).1
    | mp => exact absurd h (by simp [lends])
    | gone => exact absurd h (by simp [lends])
  | cells => have : _ = b := h; subst this; exact hl
  | row => have : _ = b := h; subst this; exact hl
  | mp => have : _ = b := h; subst this; exact hl
  | gone => exact hl.elim

theorem lends_own {a b : AObj} (h : lends a b) (hl : a.own) : a = b := by
  cases a with
  | ro => exact hl.elim
  | cells => exact h
  | row => exact h
  | mp => exact h
  | gone => exact h

theorem AEq.at {P : Program} {k : FuncId} {args0 : List Value} {v0 : Value} {h0 h0' : AHeap} (t : AEq P k args0 h0 v0 h0') (σ : Nat → Nat) (h : AHeap)
    (hinj : ∀ i j, i < h0.length → j < h0.length → σ i = σ j → i = j)
    (hlend : ∀ (i : Nat) (o : AObj), h0[i]? = some o → ∃ u, h[σ i]? = some u ∧ lends (rnO σ o) u)
    (hok0 : (h0.all (okObj fun i => decide (i < h0.length))) = true) (hargs : args0.all (okIds fun i => decide (i < h0.length)) = true)
    (hres : okIds (fun i => decide (i < h0'.length)) v0 = true) (hok1 : (h0'.all (okObj fun i => decide (i < h0'.length))) = true)
    (hnew : ∀ (i : Nat) (o : AObj), h0'[i]? = some o → (∀ u, h0[i]? = some u → notRo u = true) → notRo o = true)
    (hle : h0.length ≤ h0'.length) :
    AEq P k (args0.map (rnV σ)) h (rnV (sig σ h0.length h.length) v0) (mergeH σ h h0 h0') := by
  intro E w args' g ra
  have hσlt : ∀ i, i < h0.length → σ i < E.n := by
    intro i hi
    obtain ⟨u, hu, _⟩ := hlend i h0[i] (List.getElem?_eq_getElem hi)
    exact g.lt hu
  have hobj0 : ∀ {i : Nat} {o : AObj}, h0[i]? = some o → okObj (fun i => decide (i < h0.length)) o = true := fun hi => List.all_eq_true.1 hok0 _ (List.mem_of_getElem? hi)
  have hobj1 : ∀ {i : Nat} {o : AObj}, h0'[i]? = some o → okObj (fun i => decide (i < h0'.length)) o = true := fun hi => List.all_eq_true.1 hok1 _ (List.mem_of_getElem? hi)
  have g0 : Good (E.via σ h0.length) h0 w := by
    refine ⟨rfl, fun i o hi => ?_, fun i j o u hi hj ho hu hne => ?_⟩
    · obtain ⟨b, hb, hl⟩ := hlend i o hi
      exact viaH (hobj0 hi) (lends_holds hl (g.holds _ _ hb))
    · obtain ⟨b, hb, hl⟩ := hlend i o hi
      obtain ⟨c, hc, hl2⟩ := hlend j u hj
      have e1 := lends_own hl (rnO_own.2 ho)
      subst e1
      refine g.apart _ _ _ _ hb hc (rnO_own.2 ho) (lends_live hl2 (rnO_live.2 hu)) fun he => hne (hinj i j (List.getElem?_eq_some_iff.1 hi).1 (List.getElem?_eq_some_iff.1 hj).1 he)
  refine (t _ w args' g0 (viaL hargs ra)).mono ?_
  rintro e w' ⟨vx, v', hx, F, rfl, gF, ev, rv, rfl, rfl⟩
  have hF := gF.n
  -- the new environment
  let E' : Env := ⟨h.length + (F.n - h0.length), fun p => if p < h.length then E.blk p else F.blk (h0.length + (p - h.length)), fun p => if p < h.length then E.off p else F.off (h0.length + (p - h.length)), fun p => if p < h.length then E.csz p else F.csz (h0.length + (p - h.length)), fun p => if p < h.length then E.esz p else F.esz (h0.length + (p - h.length))⟩
  have hN : E.n = h.length := g.n
  have hag : Env.Agree h.length E E' := ⟨Nat.le_add_right _ _, fun _ hi => if_pos hi, fun _ hi => if_pos hi, fun _ hi => if_pos hi, fun _ hi => if_pos hi⟩
  have hsig_old : ∀ {i}, i < h0.length → sig σ h0.length h.length i = σ i := fun hi => if_pos hi
  have hsig_new : ∀ {i}, h0.length ≤ i → sig σ h0.length h.length i = h.length + (i - h0.length) := fun hi => if_neg (by omega)
  have hvia : Env.Agree F.n F (E'.via (sig σ h0.length h.length) F.n) := by
    have key : ∀ (f : Env → Nat → Nat), (∀ p, f E' p = if p < h.length then f E p else f F (h0.length + (p - h.length))) → (∀ i, i < h0.length → f F i = f E (σ i)) → ∀ i, i < F.n → f E' (sig σ h0.length h.length i) = f F i := by
      intro f hf hold i hi
      rcases Nat.lt_or_ge i h0.length with hlt | hge
      · rw [hsig_old hlt, hf, if_pos (by rw [← hN]; exact hσlt i hlt), hold i hlt]
      · rw [hsig_new hge, hf, if_neg (by omega)]
        congr 1; omega
    exact ⟨Nat.le_refl _, key (·.blk) (fun _ => rfl) (fun i hi => ev.agree.blk i hi), key (·.off) (fun _ => rfl) (fun i hi => ev.agree.off i hi), key (·.csz) (fun _ => rfl) (fun i hi => ev.agree.csz i hi), key (·.esz) (fun _ => rfl) (fun i hi => ev.agree.esz i hi)⟩
  have hτ : ∀ i, i < F.n → sig σ h0.length h.length i < E'.n := by
    intro i hi
    rcases Nat.lt_or_ge i h0.length with hlt | hge
    · rw [hsig_old hlt]; have := hσlt i hlt; show _ < h.length + _; omega
    · rw [hsig_new hge]; show _ < h.length + (F.n - h0.length); omega
  have sinj : ∀ {i j : Nat}, i < F.n → j < F.n → sig σ h0.length h.length i = sig σ h0.length h.length j → i = j := by
    intro i j hi hj he
    rcases Nat.lt_or_ge i h0.length with h1 | h1 <;> rcases Nat.lt_or_ge j h0.length with h2 | h2
    · rw [hsig_old h1, hsig_old h2] at he; exact hinj i j h1 h2 he
    · rw [hsig_old h1, hsig_new h2] at he; have := hσlt i h1; omega
    · rw [hsig_new h1, hsig_old h2] at he; have := hσlt j h2; omega
    · rw [hsig_new h1, hsig_new h2] at he; omega
  -- the heap behind it
  have getc : ∀ {p : Nat} {o : AObj}, (mergeH σ h h0 hx)[p]? = some o →
      (p < h.length ∧ h[p]? = some o ∧ ∀ (q : Nat) (u : AObj), h0[q]? = some u → notRo u = true → σ q ≠ p) ∨
      (∃ (i : Nat) (u : AObj), hx[i]? = some u ∧ sig σ h0.length h.length i = p ∧ o = rnO (sig σ h0.length h.length) u ∧ notRo u = true) := by
    intro p o hp
    unfold mergeH at hp
    rw [List.getElem?_append, putBack_length] at hp
    split at hp
    · rename_i hlt
      rcases putBack_get _ h0 hx 0 h p o hle hp with ⟨h1, h2⟩ | ⟨q, u, u', h1, h2, h3, h4, h5⟩
      · refine .inl ⟨hlt, h1, fun q u hq hu he => h2 q u hq hu ?_⟩
        rw [Nat.zero_add, hsig_old (List.getElem?_eq_some_iff.1 hq).1]; exact he
      · rw [Nat.zero_add] at h4
        exact .inr ⟨q, u', h3, h4, h5, hnew q u' h3 fun u2 hu2 => by rw [h1] at hu2; cases hu2; exact h2⟩
    · rename_i hlt
      rw [List.getElem?_map, Option.map_eq_some_iff] at hp
      obtain ⟨u, hu, rfl⟩ := hp
      rw [List.getElem?_drop] at hu
      refine .inr ⟨_, u, hu, ?_, rfl, hnew _ u hu fun u2 hu2 => ?_⟩
      · rw [hsig_new (by omega)]; omega
      · have := (List.getElem?_eq_some_iff.1 hu2).1; omega
  have hb' : ∀ {i : Nat}, i < F.n → E'.blk (sig σ h0.length h.length i) = F.blk i := fun hi => hvia.blk _ hi
  have hlo : ∀ {u : AObj}, notRo u = true → u.live → u.own := by
    intro u hu hl
    cases u with
    | ro => exact Bool.noConfusion hu
    | cells => exact trivial
    | row => exact hl
    | mp => exact trivial
    | gone => exact hl.elim
  -- where a block of the call's stands
  have fblk : ∀ {i : Nat} {u : AObj}, hx[i]? = some u → u.own → (w.heap.size ≤ F.blk i) ∨ ∃ (q : Nat) (z : AObj), h0[q]? = some z ∧ z.own ∧ F.blk i = E.blk (σ q) ∧ ∃ z', h[σ q]? = some z' ∧ z'.own := by
    intro i u hi hu
    rcases ev.own _ ⟨i, u, hi, hu, rfl⟩ with h1 | ⟨q, z, hq, hz, he⟩
    · exact .inl h1
    · obtain ⟨b, hb, hl⟩ := hlend q z hq
      have e1 := lends_own hl (rnO_own.2 hz)
      subst e1
      exact .inr ⟨q, z, hq, hz, he.symm, _, hb, rnO_own.2 hz⟩
  have zro : ∀ {z : AObj}, z.own → notRo z = true := by
    intro z hz; cases z <;> first | rfl | exact hz.elim
  -- the old, untouched, stands apart from what the call has
  have apart1 : ∀ {p : Nat} {o : AObj}, h[p]? = some o → o.live → (∀ (q : Nat) (u : AObj), h0[q]? = some u → notRo u = true → σ q ≠ p) → ∀ {i : Nat} {u : AObj}, hx[i]? = some u → u.own → F.blk i ≠ E.blk p := by
    intro p o hp hl hno i u hi hu
    rcases fblk hi hu with h1 | ⟨q, z, hq, hz, he, z', hz', hzo⟩
    · have := g.block_lt hp hl; omega
    · rw [he]
      exact g.apart _ _ _ _ hz' hp hzo hl (hno q z hq (zro hz))
  refine ⟨_, v', _, E', rfl, ⟨?_, ?_, ?_⟩, ⟨hag, ?_, ?_, ev.size, ev.os, ev.tape, ev.output⟩, rviaV hτ (by rw [hF]; exact hres) (rv.mono hvia), rfl, rfl⟩
  · show h.length + (F.n - h0.length) = _
    unfold mergeH
    rw [List.length_append, putBack_length, List.length_map, List.length_drop, hF]
  · intro p o hp
    rcases getc hp with ⟨h1, h2, h3⟩ | ⟨i, u, h1, rfl, rfl, h4⟩
    · refine (g.holds p o h2).mono (by rw [hN]; exact hag) (by rw [hN]; exact h1) (fun hl => ev.frame _ (g.block_lt h2 hl) ?_)
      rintro ⟨q, z, hq, hz, he⟩
      obtain ⟨b, hb, hl2⟩ := hlend q z hq
      have e1 := lends_own hl2 (rnO_own.2 hz)
      subst e1
      exact g.apart _ _ _ _ hb h2 (rnO_own.2 hz) hl (h3 q z hq (zro hz)) he
    · exact rviaH hτ (by rw [hF]; exact hobj1 h1) ((gF.holds i u h1).mono hvia (gF.lt h1) (fun _ => rfl))
  · intro p q o u hp hq ho hu hne
    rcases getc hp with ⟨h1, h2, h3⟩ | ⟨i, a, h1, rfl, rfl, h4⟩ <;> rcases getc hq with ⟨k1, k2, k3⟩ | ⟨j, b, k1, rfl, rfl, k4⟩
    · rw [hag.blk p h1, hag.blk q k1]; exact g.apart p q o u h2 k2 ho hu hne
    · rw [hag.blk p h1, hb' (gF.lt k1)]
      exact (apart1 h2 (own_live ho) h3 k1 (hlo k4 (rnO_live.1 hu))).symm
    · rw [hag.blk q k1, hb' (gF.lt h1)]
      exact apart1 k2 hu k3 h1 (rnO_own.1 ho)
    · rw [hb' (gF.lt h1), hb' (gF.lt k1)]
      exact gF.apart i j a b h1 k1 (rnO_own.1 ho) (rnO_live.1 hu) (fun e => hne (by rw [e]))
  · intro b hb hno
    refine ev.frame b hb ?_
    rintro ⟨q, z, hq, hz, he⟩
    obtain ⟨c, hc, hl⟩ := hlend q z hq
    have e1 := lends_own hl (rnO_own.2 hz)
    subst e1
    exact hno ⟨σ q, _, hc, rnO_own.2 hz, he⟩
  · rintro b ⟨p, o, hp, ho, rfl⟩
    rcases getc hp with ⟨h1, h2, h3⟩ | ⟨i, u, h1, rfl, rfl, h4⟩
    · exact .inr ⟨p, o, h2, ho, (hag.blk p h1).symm⟩
    · rw [hb' (gF.lt h1)]
      rcases fblk h1 (rnO_own.1 ho) with k1 | ⟨q, z, hq, hz, he, z', hz', hzo⟩
      · exact .inl k1
      · exact .inr ⟨σ q, z', hz', hzo, he.symm⟩

end Go.AX

namespace Go.AX
set_option linter.unusedVariables false
set_option linter.unusedSimpArgs false

theorem byc {p : Prop} (b : Bool) (ht : b = true → p) (hf : b = false → p) : p := by cases b <;> simp_all
theorem ieq (k : IntKind) {a b : Int} (h : (a == b) = true) : Value.int k a = .int k b := by rw [eq_of_beq h]
theorem ieqn (k : IntKind) {a b : Int} (h : (a != b) = false) : Value.int k a = .int k b := by simp at h; rw [h]
theorem iis (k : IntKind) {a b : Int} (h : a = b) : Value.int k a = .int k b := by rw [h]
theorem bis {a b : Bool} (h : a = b) : Value.bool a = .bool b := by rw [h]

theorem wrap_in (k : IntKind) {n : Int} (h0 : k.min ≤ n) (h1 : n ≤ k.max) : k.wrap n = n := by
  cases k <;> simp [IntKind.wrap, IntKind.min, IntKind.max, IntKind.bits, IntKind.signed] at * <;> omega
theorem wr_i64 {n : Int} (h0 : -9223372036854775808 ≤ n) (h1 : n ≤ 9223372036854775807) : Value.int .i64 (IntKind.wrap .i64 n) = .int .i64 n := by rw [wrap_in .i64 h0 h1]
theorem wr_u64 {n : Int} (h0 : 0 ≤ n) (h1 : n ≤ 18446744073709551615) : Value.int .u64 (IntKind.wrap .u64 n) = .int .u64 n := by rw [wrap_in .u64 h0 h1]
theorem wr_u8 {n : Int} (h0 : 0 ≤ n) (h1 : n ≤ 255) : Value.int .u8 (IntKind.wrap .u8 n) = .int .u8 n := by rw [wrap_in .u8 h0 h1]
theorem wr_u16 {n : Int} (h0 : 0 ≤ n) (h1 : n ≤ 65535) : Value.int .u16 (IntKind.wrap .u16 n) = .int .u16 n := by rw [wrap_in .u16 h0 h1]
theorem wr_u32 {n : Int} (h0 : 0 ≤ n) (h1 : n ≤ 4294967295) : Value.int .u32 (IntKind.wrap .u32 n) = .int .u32 n := by rw [wrap_in .u32 h0 h1]

theorem okId1_mono {p q : Nat → Bool} (hpq : ∀ i, p i = true → q i = true) {v : Value} (h : okId1 p v = true) : okId1 q v = true := by
  cases v with
  | pointer a => cases a with
    | none => rfl
    | some a => exact hpq _ h
  | slice a n c => cases a with
    | none => rfl
    | some a => exact hpq _ h
  | map a => cases a with
    | none => rfl
    | some a => exact hpq _ h
  | agg => exact Bool.noConfusion h
  | tuple => exact Bool.noConfusion h
  | func => exact Bool.noConfusion h
  | iface => exact Bool.noConfusion h
  | _ => rfl
theorem okIdL1_mono {p q : Nat → Bool} (hpq : ∀ i, p i = true → q i = true) {l : List Value} (h : l.all (okId1 p) = true) : l.all (okId1 q) = true :=
  List.all_eq_true.2 fun x hx => okId1_mono hpq (List.all_eq_true.1 h x hx)
theorem okId2_mono {p q : Nat → Bool} (hpq : ∀ i, p i = true → q i = true) {v : Value} (h : okId2 p v = true) : okId2 q v = true := by
  have other : okId1 p v = true → okId1 q v = true := okId1_mono hpq
  cases v with
  | agg c => obtain ⟨c⟩ := c; exact okIdL1_mono hpq h
  | func fn f c =>
    obtain ⟨f⟩ := f; obtain ⟨c⟩ := c
    simp only [okId2, Bool.and_eq_true] at h ⊢
    exact ⟨okIdL1_mono hpq h.1, okIdL1_mono hpq h.2⟩
  | iface t u => exact okId1_mono hpq (v := u) h
  | tuple => exact Bool.noConfusion h
  | pointer a => exact other h
  | slice a n c => exact other h
  | map a => exact other h
  | _ => rfl
theorem okIds_mono {p q : Nat → Bool} (hpq : ∀ i, p i = true → q i = true) {v : Value} (h : okIds p v = true) : okIds q v = true := by
  have other : okId2 p v = true → okId2 q v = true := okId2_mono hpq
  cases v with
  | tuple c => obtain ⟨c⟩ := c; exact List.all_eq_true.2 fun x hx => okId2_mono hpq (List.all_eq_true.1 h x hx)
  | agg c => exact other h
  | func fn f c => exact other h
  | iface t u => exact other h
  | pointer a => exact other h
  | slice a n c => exact other h
  | map a => exact other h
  | _ => rfl

section
variable {P : Program}

theorem AEq.val {k : FuncId} {args : List Value} {h h' : AHeap} {v v2 : Value} (t : AEq P k args h v h') (e : v = v2) : AEq P k args h v2 h' := e ▸ t
theorem AEq.keep {k : FuncId} {args : List Value} {v : Value} {h h1 g : AHeap} (t : AEq P k args h v (h1 ++ g)) (hl : h1.length = h.length) (hv : okIds (fun i => decide (i < h1.length)) v = true)
    (ho : (h1.all (okObj fun i => decide (i < h1.length))) = true) : AEq P k args h v h1 := by
  intro E w args' g0 ra
  refine (t E w args' g0 ra).mono ?_
  rintro e w' ⟨v0, v', h0, F, rfl, gF, ev, rv, rfl, rfl⟩
  have hid1 : ∀ v : Value, rn1 (fun j => j) v = v := by
    intro v
    cases v with
    | pointer a => cases a <;> rfl
    | slice a n c => cases a <;> rfl
    | map a => cases a <;> rfl
    | _ => rfl
  have hidL1 : ∀ l : List Value, l.map (rn1 fun j => j) = l := fun l => by rw [show (rn1 fun j => j) = id from funext hid1, List.map_id]
  have hid2 : ∀ v : Value, rn2 (fun j => j) v = v := by
    intro v
    cases v with
    | agg c => obtain ⟨c⟩ := c; exact congrArg (fun l => Value.agg ⟨l⟩) (hidL1 c)
    | func fn f c => obtain ⟨f⟩ := f; obtain ⟨c⟩ := c; exact (congrArg (fun l => Value.func fn ⟨l⟩ _) (hidL1 f)).trans (congrArg (fun l => Value.func fn _ ⟨l⟩) (hidL1 c))
    | iface t v => exact congrArg (Value.iface t) (hid1 v)
    | pointer a => exact hid1 _
    | slice a n c => exact hid1 _
    | map a => exact hid1 _
    | _ => rfl
  have hidL2 : ∀ l : List Value, l.map (rn2 fun j => j) = l := fun l => by rw [show (rn2 fun j => j) = id from funext hid2, List.map_id]
  have hidV : ∀ v : Value, rnV (fun j => j) v = v := by
    intro v
    have h2 := hid2 v
    cases v with
    | tuple c => obtain ⟨c⟩ := c; exact congrArg (fun l => Value.tuple ⟨l⟩) (hidL2 c)
    | _ => exact h2
  have hidL : ∀ l : List Value, l.map (rnV fun j => j) = l := fun l => by rw [show (rnV fun j => j) = id from funext hidV, List.map_id]
  have hidO : ∀ o : AObj, rnO (fun j => j) o = o := by
    intro o
    cases o with
    | cells vs e sz => exact congrArg (AObj.cells · e sz) (hidL vs)
    | row vs e sz => exact congrArg (AObj.row · e sz) (hidL vs)
    | ro vs sz => exact congrArg (AObj.ro · sz) (hidL vs)
    | mp es =>
      refine congrArg AObj.mp ?_
      rw [show (fun x : Value × Value => (rnV (fun j => j) x.1, rnV (fun j => j) x.2)) = id from funext fun x => by rw [hidV, hidV]; rfl, List.map_id]
    | gone => rfl
  have hget : ∀ {i : Nat} {o : AObj}, h1[i]? = some o → i < h1.length ∧ (h1 ++ g)[i]? = some o := by
    intro i o hi
    have := (List.getElem?_eq_some_iff.1 hi).1
    exact ⟨this, by rw [List.getElem?_append_left this]; exact hi⟩
  obtain ⟨g2, ev2⟩ := rename_good (h2 := h1) (m := h.length) (τ := fun j => j) gF (by simp; omega) (by omega) (fun i hi => rfl)
    (fun i o hi => .inr (by rw [hidO]; exact (hget hi).2)) (fun o hm => List.all_eq_true.1 ho o hm)
    (fun i j o u hi hj _ _ hne => hne)
  refine ⟨_, v', _, _, rfl, g2, ev.trans ev2 (Nat.le_refl _), ?_, rfl, rfl⟩
  exact viaV hv (by rw [hidV]; exact rv)

noncomputable def keepRun (n : Nat) (r : FRes) : Option (List Prop × Value × AHeap) :=
  match r with
  | some (ob, v, h, _) =>
    match Nat.beq (h.take n).length n && (okIds (fun i => decide (i < n)) v && (h.take n).all (okObj fun i => decide (i < n))) with
    | true => some (ob, v, h.take n)
    | false => none
  | none => none
theorem evFn_keep {n : Nat} {k : FuncId} {args : List Value} {h : AHeap} {scr : Script} {ob : List Prop} {v : Value} {h' : AHeap} (he : keepRun h.length (evFn P n k args h scr) = some (ob, v, h')) (ho : AllP ob) : AEq P k args h v h' := by
  unfold keepRun at he
  split at he
  · rename_i ob1 v1 h1 s1 hr
    split at he
    · rename_i hb
      simp only [Option.some.injEq, Prod.mk.injEq] at he
      obtain ⟨rfl, rfl, rfl⟩ := he
      rw [Bool.and_eq_true, Bool.and_eq_true] at hb
      have hl := Nat.eq_of_beq_eq_true hb.1
      have t := evFn_sound hr ho
      rw [← List.take_append_drop h.length h1] at t
      exact t.keep hl (by rw [hl]; exact hb.2.1) (by rw [hl]; exact hb.2.2)
    · simp at he
  · simp at he
theorem AEq.at1 {k : FuncId} {args0 : List Value} {v0 : Value} {vs vs' : List Value} {e sz : Nat} (t : AEq P k args0 [.cells vs e sz] v0 [.cells vs' e sz]) (h : AHeap) (i : Nat) (hi : h[i]? = some (.cells vs e sz))
    (hv : vs.all Go.AX.bare = true) (hv' : vs'.all Go.AX.bare = true) (ha : args0.all (okIds fun i => decide (i < 1)) = true) (hr : Go.AX.bare v0 = true) : AEq P k (args0.map (rnV fun _ => i)) h v0 (h.set i (.cells vs' e sz)) := by
  have hbl : ∀ {l : List Value} (τ : Nat → Nat), l.all Go.AX.bare = true → l.map (rnV τ) = l := by
    intro l τ hl
    have : l.map (rnV τ) = l.map id := List.map_congr_left fun v hv => rnV_bare (List.all_eq_true.1 hl v hv)
    rw [this, List.map_id]
  have hok : ∀ {l : List Value}, l.all Go.AX.bare = true → okObj (fun i => decide (i < 1)) (.cells l e sz) = true := by
    intro l hl
    refine List.all_eq_true.2 fun v hv => ?_
    exact okIds_mono (fun _ h => Bool.noConfusion h) (List.all_eq_true.1 hl v hv)
  have h1 := t.at (fun _ => i) h (fun a b ha hb _ => by simp only [List.length_cons, List.length_nil] at ha hb; omega)
    (fun j o hj => by
      cases j with
      | zero =>
        simp only [List.getElem?_cons_zero, Option.some.injEq] at hj
        subst hj
        refine ⟨_, hi, ?_⟩
        show rnO _ _ = _
        simp only [rnO, hbl _ hv]
      | succ j => simp at hj)
    (by simp only [List.all_cons, List.all_nil, Bool.and_true]; exact hok hv) (by simpa using ha)
    (okIds_mono (fun _ h => Bool.noConfusion h) hr)
    (by simp only [List.all_cons, List.all_nil, Bool.and_true]; exact hok hv')
    (fun j o hj _ => by
      cases j with
      | zero =>
        simp only [List.getElem?_cons_zero, Option.some.injEq] at hj
        subst hj; rfl
      | succ j => simp at hj) (Nat.le_refl _)
  have h2 : mergeH (fun _ => i) h [.cells vs e sz] [.cells vs' e sz] = h.set i (.cells vs' e sz) := by
    simp [mergeH, putBack, sig, rnO, hbl _ hv']
  rw [h2, rnV_bare hr] at h1
  exact h1

/-! Loops. -/

noncomputable def loopsIn : Code → List Code
  | .seq x y => loopsIn x ++ loopsIn y
  | .block _ c => loopsIn c
  | .cond _ x y => loopsIn x ++ loopsIn y
  | .loop c => .loop c :: loopsIn c
  | _ => []

noncomputable def bodyOf (P : Program) (k : FuncId) : Code :=
  match P.funcs[k]? with
  | some fn => fn.body.getD .skip
  | none => .skip
noncomputable def loopAt (P : Program) (k : FuncId) (j : Nat) : Code := (loopsIn (bodyOf P k)).getD j .skip
noncomputable def roundAt (P : Program) (k : FuncId) (j : Nat) : Code :=
  match loopAt P k j with
  | .loop c => c
  | c => c

noncomputable def blocksIn : Code → List Code
  | .seq x y => blocksIn x ++ blocksIn y
  | .block i c => .block i c :: blocksIn c
  | .cond _ x y => blocksIn x ++ blocksIn y
  | .loop c => blocksIn c
  | _ => []
noncomputable def blockAt (P : Program) (k : FuncId) (j : Nat) : Code := (blocksIn (bodyOf P k)).getD j .skip
noncomputable def Tm.told (n : Nat) (l : List (Nat × Value)) : Tm := l.foldl (fun U x => U.put x.1 x.2) { n := n, d := junk, t := .leaf }

theorem AComes.pre {m : Nat} {c : Code} {ts ts2 : Tm} {h h2 : AHeap} {ex : Exit} {ts' : Tm} {h' : AHeap} (k : AWk m ts h ts2 h2) (t : AComes P m c ts2 h2 ex ts' h') : AComes P m c ts h ex ts' h' := ATrip.weaken k t

noncomputable def gcRun (m : Nat) (keep bares live : List Nat) (r : Res) : Option (List Prop × Exit × Tm × AHeap) :=
  match r with
  | some (ob, ex, ts, h, _) =>
    match gcOk m keep bares live ts h with
    | true => some (bareObs bares h ++ ob, ex, gcTm keep live ts, keptB keep bares h)
    | false => none
  | none => none

theorem evCode_gc {n m : Nat} {c : Code} {ts : Tm} {h : AHeap} {scr : Script} {keep bares live : List Nat} {ob : List Prop} {ex : Exit} {ts' : Tm} {h' : AHeap}
    (he : gcRun m keep bares live (evCode P n m c ts h scr) = some (ob, ex, ts', h')) (ho : AllP ob) : AComes P m c ts h ex ts' h' := by
  unfold gcRun at he
  split at he
  · rename_i ob1 ex1 ts1 h1 s1 hr
    split at he
    · rename_i hg
      simp only [Option.some.injEq, Prod.mk.injEq] at he
      obtain ⟨rfl, rfl, rfl, rfl⟩ := he
      refine (evCode_ok n _ _ _ _ _ _ _ _ _ _ hr ho.append.2).result ?_
      rintro e t k ⟨rfl, rfl, rfl⟩
      exact ⟨_, _, gc_awk hg ho.append.1, rfl, rfl, rfl⟩
    · simp at he
  · simp at he
theorem AComes.loop {m : Nat} {c : Code} {ex : Exit} {ts' : Tm} {h' : AHeap} (hex : ex ≠ .normal) (N : Nat) (inv : Nat → Tm × AHeap)
    (round : ∀ i, i < N → AComes P m c (inv i).1 (inv i).2 .normal (inv (i + 1)).1 (inv (i + 1)).2) (last : AComes P m c (inv N).1 (inv N).2 ex ts' h') :
    AComes P m (.loop c) (inv 0).1 (inv 0).2 ex ts' h' := by
  refine ATrip.loop (fun n ts h => ∃ i, i + n = N ∧ ts = (inv i).1 ∧ h = (inv i).2) N ⟨0, by omega, rfl, rfl⟩ ?_
  rintro n ts h ⟨i, hi, rfl, rfl⟩
  cases n with
  | zero =>
    obtain rfl : i = N := by omega
    refine last.mono ?_
    rintro e t k ⟨rfl, rfl, rfl⟩
    cases e with
    | normal => exact absurd rfl hex
    | _ => exact ⟨rfl, rfl, rfl⟩
  | succ n =>
    refine (round i (by omega)).mono ?_
    rintro e t k ⟨rfl, rfl, rfl⟩
    exact ⟨n, by omega, i + 1, by omega, rfl, rfl⟩
theorem AComes.loopS {S : Type} {m : Nat} {c : Code} {ex : Exit} (hex : ex ≠ .normal) (μ : S → Nat) (at_ : S → Tm × AHeap) (res : S → Tm × AHeap)
    (round : ∀ s, AComes P m c (at_ s).1 (at_ s).2 ex (res s).1 (res s).2 ∨ ∃ s', μ s' < μ s ∧ res s' = res s ∧ AComes P m c (at_ s).1 (at_ s).2 .normal (at_ s').1 (at_ s').2) (s : S) :
    AComes P m (.loop c) (at_ s).1 (at_ s).2 ex (res s).1 (res s).2 := by
  refine ATrip.loop (fun n ts h => ∃ s', μ s' = n ∧ res s' = res s ∧ ts = (at_ s').1 ∧ h = (at_ s').2) (μ s) ⟨s, rfl, rfl, rfl, rfl⟩ ?_
  rintro n ts h ⟨s1, rfl, hres, rfl, rfl⟩
  rcases round s1 with t | ⟨s2, hlt, hr, t⟩
  · refine t.mono ?_
    rintro e t k ⟨rfl, rfl, rfl⟩
    cases e with
    | normal => exact absurd rfl hex
    | _ => exact ⟨rfl, by rw [hres], by rw [hres]⟩
  · refine t.mono ?_
    rintro e t k ⟨rfl, rfl, rfl⟩
    exact ⟨_, hlt, s2, rfl, hr.trans hres, rfl, rfl⟩
end
end Go.AX

namespace Go.AX
set_option linter.unusedVariables false
set_option linter.unusedSimpArgs false

theorem zor {a b : Bool} : ((a || b) = true) = (a = true ∨ b = true) := by cases a <;> cases b <;> simp
theorem zand {a b : Bool} : ((a && b) = true) = (a = true ∧ b = true) := by cases a <;> cases b <;> simp
theorem zorf {a b : Bool} : ((a || b) = false) = (a = false ∧ b = false) := by cases a <;> cases b <;> simp
theorem zandf {a b : Bool} : ((a && b) = false) = (a = false ∨ b = false) := by cases a <;> cases b <;> simp
theorem znt {a : Bool} : ((!a) = true) = (a = false) := by cases a <;> simp
theorem znf {a : Bool} : ((!a) = false) = (a = true) := by cases a <;> simp
theorem zeq {a b : Int} : ((a == b) = true) = (a = b) := by simp
theorem zne {a b : Int} : ((a != b) = true) = ¬ (a = b) := by simp
theorem zeqf {a b : Int} : ((a == b) = false) = ¬ (a = b) := by simp
theorem znef {a b : Int} : ((a != b) = false) = (a = b) := by simp
theorem zd {p : Prop} [Decidable p] : (decide p = true) = p := by simp
theorem zdf {p : Prop} [Decidable p] : (decide p = false) = ¬ p := by simp
theorem hsame (H : AHeap) : H = H := rfl
theorem o0 : AllP [] := trivial
theorem o_ {p : Prop} {l : List Prop} (h : p) (t : AllP l) : AllP (p :: l) := ⟨h, t⟩

theorem oB {m l : List Prop} (h : AllP m) (t : AllP l) : AllP (m ++ l) := by
  induction m with
  | nil => exact t
  | cons p m ih => exact ⟨h.1, ih h.2⟩
def lits : Nat → Script → Script
  | 0, s => s
  | n + 1, s => .lit :: lits n s

def gds : Nat → Nat → Bool → Script → Script
  | 0, _, _, s => s
  | n + 1, t, b, s => .gd t b :: gds n t b s
def reps : Nat → Prop → List Prop → List Prop
  | 0, _, l => l
  | n + 1, p, l => p :: reps n p l
theorem oN {p : Prop} {l : List Prop} : ∀ (n : Nat) (h : p) (t : AllP l), AllP (reps n p l)
  | 0, _, t => t
  | n + 1, h, t => ⟨h, oN n h t⟩

theorem bs1 {b0 : Bool} (h : b0 = true) : AllP (bs [b0]) := by subst h; trivial
theorem bs2 {b0 b1 : Bool} (h : b0 = true) (k : b1 = true) : AllP (bs [b0, b1]) := by subst h; subst k; trivial
theorem bs3 {b0 b1 b2 : Bool} (h : b0 = true) (k : b1 = true) (l : b2 = true) : AllP (bs [b0, b1, b2]) := by subst h; subst k; subst l; trivial

theorem byIte {R : Type} {G : R → Prop} {b : Bool} {x y : R} (ht : b = true → G x) (hf : b = false → G y) : G (cond b x y) := by
  cases b
  · exact hf rfl
  · exact ht rfl
theorem bi {R : Type} {G : R → Prop} {b : Bool} {x y : R} (ht : b = true → G x) (hf : b = false → G y) : G (cond b x y) := byIte ht hf
theorem byOr {R : Type} {G : R → Prop} {a b : Bool} {x y : R} (h : G (cond a x (cond b x y))) : G (cond (a || b) x y) := by cases a <;> exact h
theorem byAnd {R : Type} {G : R → Prop} {a b : Bool} {x y : R} (h : G (cond a (cond b x y) y)) : G (cond (a && b) x y) := by cases a <;> exact h
theorem bySame {R : Type} {G : R → Prop} (b : Bool) {x : R} (h : G (cond b x x)) : G x := by cases b <;> exact h
theorem byBool {G : Bool → Prop} {c : Bool} (h : G (cond c true false)) : G c := by cases c <;> exact h
theorem byNotT {R : Type} {G : R → Prop} (b : Bool) {y : R} (hd : b = true → False) (hf : b = false → G y) : G y := by
  cases b
  · exact hf rfl
  · exact (hd rfl).elim
theorem byNotF {R : Type} {G : R → Prop} (b : Bool) {y : R} (ht : b = true → G y) (hd : b = false → False) : G y := by
  cases b
  · exact (hd rfl).elim
  · exact ht rfl

section
variable {P : Program}

theorem on0 {k : FuncId} {args : List Value} {v : Value} (n : Nat) (scr : Script) {ob : List Prop} (ho : AllP ob) (he : bareRun (evFn P n k args [] scr) = some (ob, v)) (ha : args.all Go.AX.bare = true) : AOn P k args [] v [] :=
  fun H _ => evFn_bare he ho ha H

theorem run1 {k : FuncId} {args : List Value} {o o' : AObj} {v : Value} (n : Nat) (scr : Script) {ob : List Prop} (ho : AllP ob) (he : keepRun 1 (evFn P n k args [o] scr) = some (ob, v, [o'])) : AEq P k args [o] v [o'] :=
  evFn_keep (h := [o]) he ho

theorem AEq.on1 {k : FuncId} {args0 : List Value} {v0 : Value} {vs vs' : List Value} {e sz : Nat} (t : AEq P k args0 [.cells vs e sz] v0 [.cells vs' e sz]) (i : Nat)
    (hv : vs.all Go.AX.bare = true) (hv' : vs'.all Go.AX.bare = true) (ha : args0.all (okIds fun i => decide (i < 1)) = true) (hr : Go.AX.bare v0 = true) :
    AOn P k (args0.map (rnV fun _ => i)) [(i, .cells vs e sz)] v0 [(i, .cells vs' e sz)] :=
  fun H hH => t.at1 H i hH.1 hv hv' ha hr

theorem onN {k : FuncId} {args : List Value} {v : Value} {objs : AHeap} (n : Nat) (scr : Script) (keep : List Nat) {ob : List Prop} (ho : AllP ob) (he : trimRun keep (evFn P n k args [] scr) = some (ob, v, objs)) (ha : args.all Go.AX.bare = true)
    (hc : (okIds (fun i => decide (i < objs.length)) v && objs.all fun o => notRo o && okObj (fun i => decide (i < objs.length)) o) = true) : AOnN P k args [] v [] objs :=
  fun H _ => evFn_new keep he ho ha hc H

theorem AOn.all {k : FuncId} {args : List Value} {v : Value} (t : AOn P k args [] v []) (H : AHeap) : AEq P k args H v H := t H trivial

end
end Go.AX

namespace Go.AX
set_option linter.unusedVariables false
set_option linter.unusedSimpArgs false

inductive Oc (α : Type) where
  | fail
  | leaf (a : α)
  | ite (c : Bool) (x y : Oc α)
  | owe (p : Prop) (x : Oc α)

noncomputable def Oc.bind {α β : Type} (t : Oc α) (f : α → Oc β) : Oc β := Oc.rec .fail f (fun c _ _ x y => .ite c x y) (fun p _ x => .owe p x) t

def Oc.All {α : Type} (Q : α → Prop) : Oc α → Prop
  | .fail => False
  | .leaf a => Q a
  | .ite c x y => (c = true → x.All Q) ∧ (c = false → y.All Q)
  | .owe p x => p ∧ x.All Q

theorem Oc.All.mono {α : Type} {Q R : α → Prop} (hq : ∀ a, Q a → R a) : ∀ {t : Oc α}, t.All Q → t.All R
  | .fail, h => h
  | .leaf _, h => hq _ h
  | .ite _ _ _, h => ⟨fun e => (h.1 e).mono hq, fun e => (h.2 e).mono hq⟩
  | .owe _ _, h => ⟨h.1, h.2.mono hq⟩

theorem Oc.all_bind {α β : Type} {Q : β → Prop} {f : α → Oc β} : ∀ {t : Oc α}, (t.bind f).All Q → t.All fun a => (f a).All Q
  | .fail, h => h
  | .leaf _, h => h
  | .ite _ _ _, h => ⟨fun e => Oc.all_bind (h.1 e), fun e => Oc.all_bind (h.2 e)⟩
  | .owe _ _, h => ⟨h.1, Oc.all_bind h.2⟩
theorem Oc.All.fate {α : Type} {Q : α → Prop} {C : Prop} (hq : ∀ a, Q a → C) : ∀ {t : Oc α}, t.All Q → C
  | .fail, h => h.elim
  | .leaf _, h => hq _ h
  | .ite c x y, h => by
    cases hc : c with
    | true => exact (h.1 hc).fate hq
    | false => exact (h.2 hc).fate hq
  | .owe _ _, h => h.2.fate hq

noncomputable def owes {α : Type} (l : List Prop) (t : Oc α) : Oc α := List.rec t (fun p _ ih => .owe p ih) l
theorem all_owes {α : Type} {Q : α → Prop} {t : Oc α} : ∀ {l : List Prop}, (owes l t).All Q → AllP l ∧ t.All Q
  | [], h => ⟨trivial, h⟩
  | _ :: l, h => ⟨⟨h.1, (all_owes (l := l) h.2).1⟩, (all_owes (l := l) h.2).2⟩
inductive Scr where
  | nil
  | stop
  | d (x : Dir) (s : Scr)
  | br (t : Nat) (b : Bool) (s : Scr)
  | fork (t : Nat) (x y : Scr)
  | gfork (t : Nat) (x y : Scr)
  | glit (t : Nat) (s : Scr)
  | case (c : Bool) (x y : Scr)
  | front (l : Script) (s : Scr)
  | gc (keep bares live : List Nat)

noncomputable def unCase {β : Type} (s : Scr) (k : Scr → Oc β) : Oc β :=
  Scr.rec (motive := fun _ => Oc β) (k .nil) .fail (fun x s _ => k (.d x s)) (fun t b s _ => k (.br t b s)) (fun t x y _ _ => k (.fork t x y)) (fun t x y _ _ => k (.gfork t x y)) (fun t s _ => k (.glit t s)) (fun c _ _ x y => .ite c x y) (fun l s _ => k (.front l s)) (fun a b c => k (.gc a b c)) s

theorem all_unCase {β : Type} {Q : β → Prop} {C : Prop} {k : Scr → Oc β} (hk : ∀ s, (k s).All Q → C) : ∀ {s : Scr}, (unCase s k).All Q → C
  | .nil, h => hk _ h
  | .stop, h => h.elim
  | .d _ _, h => hk _ h
  | .br _ _ _, h => hk _ h
  | .fork _ _ _, h => hk _ h
  | .gfork _ _ _, h => hk _ h
  | .glit _ _, h => hk _ h
  | .case c x y, h => by
    cases hc : c with
    | true => exact all_unCase hk (h.1 hc)
    | false => exact all_unCase hk (h.2 hc)
  | .front _ _, h => hk _ h
  | .gc _ _ _, h => hk _ h

abbrev RTr := Oc (Exit × Tm × AHeap × Scr)
abbrev FTr := Oc (Value × AHeap × Scr)

noncomputable def evFnT (P : Program) (ev : Nat → Code → Tm → AHeap → Scr → RTr) (k : FuncId) (args : List Value) (h : AHeap) (scr : Scr) : FTr :=
  match P.funcs[k]? with
  | some fn =>
    match fn.body with
    | some c =>
      match Nat.ble args.length fn.ntmps, Nat.ble fn.ntmps 4000 with
      | true, true => (ev h.length c (Tm.enter fn.ntmps args) h scr).bind fun r =>
        match r.1 with
        | .normal => match evResults P fn r.2.1 r.2.2.1 with
          | some v => .leaf (v, r.2.2.1, r.2.2.2)
          | none => .fail
        | .ret => match evResults P fn r.2.1 r.2.2.1 with
          | some v => .leaf (v, r.2.2.1, r.2.2.2)
          | none => .fail
        | _ => .fail
      | _, _ => .fail
    | none => .fail
  | none => .fail

noncomputable def evCallT (P : Program) (ev : Nat → Code → Tm → AHeap → Scr → RTr) (ts : Tm) (h : AHeap) (scr : Scr) (c : Call) : FTr :=
  match calleeOf ts c with
  | some (k, args) =>
    match scr with
    | .d (.ext v) s => .owe (AExt P k args v) (.leaf (v, h, s))
    | .d (.call v h') s => if enterable P k then .owe (AEq P k args h v h') (.leaf (v, h', s)) else .fail
    | .d (.callL v new) s => if enterable P k then match oldL h new with
      | some old => .owe (AOn P k args old v new) (.leaf (v, ksetL h new, s))
      | none => .fail
      else .fail
    | .d (.callN v new objs) s => if enterable P k then match oldL h new with
      | some old => .owe (AOnN P k args old v new objs) (.leaf (rnV (up h.length) v, ksetL h new ++ objs.map (rnO (up h.length)), s))
      | none => .fail
      else .fail
    | .d .inl s => if enterable P k then evFnT P ev k args h s else .fail
    | s =>
      if enterable P k then evFnT P ev k args h s
      else match evExt P k args with
        | some v => .leaf (v, h, s)
        | none => .fail
  | none => .fail

noncomputable def litB {β : Type} (b : Bool) (k : Bool → Oc β) : Oc β :=
  match b with
  | true => k true
  | false => k false
def gcode (d : Tmp) (dst : Option Tmp) : Nat :=
  match dst with
  | some e => d * 10000 + e
  | none => d * 10000 + 9999

noncomputable def evGuardT {β : Type} (ops : Array Oper) (ts : Tm) (scr : Scr) (dst : Option Tmp) (g : Option (Nat × Bool)) (k : Bool → Tm → Scr → Oc β) : Oc β :=
  match g with
  | none => k true ts scr
  | some (j, want) =>
    match (ops[j]?).bind (·.dst) with
    | none => .fail
    | some d =>
      match ts.get d with
      | .bool b =>
        match scr with
        | .d (.gd t c) s =>
          match Nat.beq t (gcode d dst) with
          | true => .owe (b = c) (k (c == want) (ts.put d (.bool c)) s)
          | false => litB b fun b => k (b == want) ts (.d (.gd t c) s)
        | .gfork t x y =>
          match Nat.beq t (gcode d dst) with
          | true => .ite b (k (true == want) (ts.put d (.bool true)) x) (k (false == want) (ts.put d (.bool false)) y)
          | false => litB b fun b => k (b == want) ts (.gfork t x y)
        | .glit t s =>
          match Nat.beq t (gcode d dst) with
          | true => litB b fun b => k (b == want) ts s
          | false => litB b fun b => k (b == want) ts (.glit t s)
        | s => litB b fun b => k (b == want) ts s
      | .tuple ⟨[]⟩ => k false ts scr
      | _ => .fail
noncomputable def evIsT (dst : Option Tmp) (t : FTr) : FTr := t.bind fun r =>
  match r.2.2 with
  | .d (.is t u) s =>
    match isDst dst t with
    | true => .owe (r.1 = u) (.leaf (u, r.2.1, s))
    | false => .leaf r
  | _ => .leaf r

noncomputable def opT (o : Option (List Prop × Value × AHeap)) (s : Scr) : FTr :=
  match o with
  | some (ob, v, h) => owes ob (.leaf (v, h, s))
  | none => .fail
noncomputable def opO (o : Option (List Prop × Value × AHeap)) (s : Scr) : FTr :=
  match o with
  | some (ob, v, h) => .owe (AllP ob) (.leaf (v, h, s))
  | none => .fail

noncomputable def evHintedT (P : Program) (h : AHeap) (ts : Tm) (scr : Scr) (o : Oper) : FTr :=
  match scr with
  | .d (.hint t hi) s =>
    match isDst o.dst t with
    | true => opT (evOp P h ts hi o.op) s
    | false => opT (evOp P h ts .none o.op) (.d (.hint t hi) s)
  | .d (.owe t) s =>
    match isOwe o.dst t with
    | true => opO (evOp P h ts .none o.op) s
    | false => opT (evOp P h ts .none o.op) (.d (.owe t) s)
  | s => opT (evOp P h ts .none o.op) s

noncomputable def evAnyT (P : Program) (ev : Nat → Code → Tm → AHeap → Scr → RTr) (h : AHeap) (ts : Tm) (scr : Scr) (o : Oper) : FTr :=
  evIsT o.dst (match isCallOp o.op with
  | some c => evCallT P ev ts h scr c
  | none => evHintedT P h ts scr o)

noncomputable def evOneT (P : Program) (ev : Nat → Code → Tm → AHeap → Scr → RTr) (ops : Array Oper) (o : Oper) (next : Tm → AHeap → Scr → Oc (Tm × AHeap × Scr)) (ts : Tm) (h : AHeap) (scr : Scr) : Oc (Tm × AHeap × Scr) :=
  unCase scr fun scr => evGuardT ops ts scr o.dst o.guard fun go ts1 s1 =>
    match go with
    | false => next (putD ts1 o.dst undef) h s1
    | true => (evAnyT P ev h ts1 s1 o).bind fun r => next (putD ts1 o.dst r.1) r.2.1 r.2.2

noncomputable def evOpsT (P : Program) (ev : Nat → Code → Tm → AHeap → Scr → RTr) (ops : Array Oper) (l : List Oper) : Tm → AHeap → Scr → Oc (Tm × AHeap × Scr) :=
  List.rec (fun ts h scr => .leaf (ts, h, scr)) (fun o _ ih => evOneT P ev ops o ih) l

noncomputable def evLoopT (f : Tm → AHeap → Scr → RTr) (n : Nat) : Tm → AHeap → Scr → RTr :=
  Nat.rec (fun _ _ _ => .fail) (fun _ ih ts h scr => (f ts h scr).bind fun r =>
    match r.1 with
    | .normal => ih r.2.1 r.2.2.1 r.2.2.2
    | _ => .leaf r) n

def isTmp (c : Operand) (t : Nat) : Bool :=
  match c with
  | .tmp k => Nat.beq k t
  | _ => false

noncomputable def evCondT (ts : Tm) (c : Operand) (scr : Scr) (k : Bool → Scr → RTr) : RTr :=
  match opd ts c with
  | some (.bool b) =>
    match scr with
    | .br t c' s =>
      match isTmp c t with
      | true => .owe (b = c') (k c' s)
      | false => litB b fun b => k b (.br t c' s)
    | .d .lit s => litB b fun b => k b s
    | .fork t x y =>
      match isTmp c t with
      | true => .ite b (k true x) (k false y)
      | false => litB b fun b => k b (.fork t x y)
    | s => litB b fun b => k b s
  | _ => .fail

noncomputable def drawF (P : Program) (n : Nat) (ev : Nat → Code → Tm → AHeap → Scr → RTr) (ops : Array Oper) (ts : Tm) (h : AHeap) (l0 : Script) (scr : Scr) : Oc (Tm × AHeap × Scr) :=
  let pl := waitsAll ops.toList 0 []
  let t := (cutTold pl l0).1
  let l := (cutTold pl l0).2
  match frontOk P ops t with
  | true =>
    match evFront P (evCode P n) ops pl (privTold l).1 h (maskIds (privTold l).1 h) (ops.toList.take t) 0 ts [] (privTold l).2 with
    | some (ob, st, ts1, _) =>
      match eqIds (privIds st) (privTold l).1 && (nodupB (privIds st) && privChk st) with
      | true => owes ob (evOpsT P ev ops (ops.toList.drop t) ts1 (privSet st h ++ (st.map (·.new)).flatten) scr)
      | false => .fail
    | none => .fail
  | false => .fail

noncomputable def evDrawT (P : Program) (n : Nat) (ev : Nat → Code → Tm → AHeap → Scr → RTr) (ops : Array Oper) (ts : Tm) (h : AHeap) (scr : Scr) : Oc (Tm × AHeap × Scr) :=
  match scr with
  | .front l s => drawF P n ev ops ts h l s
  | s => drawF P n ev ops ts h [] s

noncomputable def evStepT (P : Program) (n : Nat) (ev : Nat → Code → Tm → AHeap → Scr → RTr) (m : Nat) (c : Code) (ts : Tm) (h : AHeap) (scr : Scr) : RTr :=
  unCase scr fun scr =>
  match c with
  | .rangeFunc f ps as b =>
    match scr with
    | .d (.code ex ts' h') s => .owe (AComes P m (.rangeFunc f ps as b) ts h ex ts' h') (.leaf (ex, ts', h', s))
    | _ => .fail
  | .loop c =>
    match scr with
    | .d (.code ex ts' h') s => .owe (AComes P m (.loop c) ts h ex ts' h') (.leaf (ex, ts', h', s))
    | .d (.codeG keep bares live ex ts' h') s =>
      match gcOk m keep bares live ts h with
      | true => owes (bareObs bares h) (.owe (AComes P m (.loop c) (gcTm keep live ts) (keptB keep bares h) ex ts' h') (.leaf (ex, ts', h', s)))
      | false => .fail
    | s => evLoopT (ev m c) n ts h s
  | .skip => .leaf (.normal, ts, h, scr)
  | .ret => .leaf (.ret, ts, h, scr)
  | .exit id => .leaf (.exit id, ts, h, scr)
  | .seq x y => (ev m x ts h scr).bind fun r =>
    match r.1 with
    | .normal => ev m y r.2.1 r.2.2.1 r.2.2.2
    | _ => .leaf r
  | .block id c =>
    match scr with
    | .d (.codeB keep bares live ex ts' h') s =>
      match gcOk m keep bares live ts h with
      | true => owes (bareObs bares h) (.owe (AComes P m (.block id c) (gcTm keep live ts) (keptB keep bares h) ex ts' h') (.leaf (ex, ts', h', s)))
      | false => .fail
    | s => (ev m c ts h s).bind fun r =>
      match r.1 with
      | .exit i => if i = id then .leaf (.normal, r.2) else .leaf (.exit i, r.2)
      | _ => .leaf r
  | .cond c x y => evCondT ts c scr fun b s =>
    match b with
    | true => ev m x ts h s
    | false => ev m y ts h s
  | .region _ ops false => (evOpsT P ev ops ops.toList ts h scr).bind fun r => .leaf (.normal, r)
  | .region _ ops true => (evDrawT P n ev ops ts h scr).bind fun r => .leaf (.normal, r)
  | _ => .fail

noncomputable def evCodeT (P : Program) (n : Nat) : Nat → Code → Tm → AHeap → Scr → RTr :=
  Nat.rec (fun _ _ _ _ _ => .fail) (fun k ih => evStepT P n ih) n

noncomputable def evFnTr (P : Program) (n : Nat) (k : FuncId) (args : List Value) (h : AHeap) (scr : Scr) : FTr :=
  if enterable P k then evFnT P (evCodeT P n) k args h scr else .fail

section
variable {P : Program}
def EvT (P : Program) (ev : Nat → Code → Tm → AHeap → Scr → RTr) : Prop :=
  ∀ m c ts h scr (Q : Exit → Tm → AHeap → Prop), (ev m c ts h scr).All (fun r => Q r.1 r.2.1 r.2.2.1) → ATrip P m c ts h Q

theorem evFnT_sound {ev : Nat → Code → Tm → AHeap → Scr → RTr} (hev : EvT P ev) {k : FuncId} {args : List Value} {h : AHeap} {scr : Scr} {R : Value → AHeap → Prop}
    (he : (evFnT P ev k args h scr).All fun r => R r.1 r.2.1) : ACalls P k args h R := by
  unfold evFnT at he
  split at he
  · rename_i fn hf
    split at he
    · rename_i c hb
      split at he
      · rename_i b1 b2
        have hcomes := hev h.length c (Tm.enter fn.ntmps args) h scr (fun e t k => (e = .normal ∨ e = .ret) ∧ ∃ v, evResults P fn t k = some v ∧ R v k) ((Oc.all_bind he).mono (fun (r : Exit × Tm × AHeap × Scr) hr => by
          obtain ⟨e, t, k1, s⟩ := r
          have key : (match evResults P fn t k1 with
            | some v => (.leaf (v, k1, s) : FTr)
            | none => .fail).All (fun (r : Value × AHeap × Scr) => R r.1 r.2.1) → ∃ v, evResults P fn t k1 = some v ∧ R v k1 := by
            intro h
            split at h
            · rename_i v hv; exact ⟨v, hv, h⟩
            · exact h.elim
          cases e with
          | normal => exact ⟨.inl rfl, key hr⟩
          | ret => exact ⟨.inr rfl, key hr⟩
          | _ => exact hr.elim))
        intro E w args' g hr
        have hen := enter_rep hr (Nat.le_of_ble_eq_true b1) (Nat.le_of_ble_eq_true b2)
        refine calls_of_wp hf hb (Code.wp_mono ?_ (hcomes (Nat.le_refl _) E w _ g hen rfl))
        rintro e a' w' ⟨ts2, h2, E', g', ev', r', d', hex, v, hv, hR⟩
        obtain ⟨v', q1, q2⟩ := evResults_sound g' r' hv
        rcases hex with rfl | rfl
        · exact ⟨d', v', q1, v, v', h2, E', rfl, g', ev', q2, hR⟩
        · exact ⟨d', v', q1, v, v', h2, E', rfl, g', ev', q2, hR⟩
      · exact he.elim
    · exact he.elim
  · exact he.elim
def OpNextR (P : Program) (E : Env) (w : World) (h : AHeap) (o : Oper) (a : Act) (R : Value → AHeap → Prop) : Prop :=
  ∀ (next : Act → World → Prop) (Q : Exit → Act → World → Prop), (∀ v h' E' w' v', R v h' → Good E' h' w' → Evol E.n E h w E' h' w' → Rep E' v v' → next (a.put o.dst v') w') → o.wp P a w next Q

theorem OpNextR.one {E : Env} {w : World} {h h' : AHeap} {o : Oper} {a : Act} {v : Value} {R : Value → AHeap → Prop} (k : OpNext P E h w o a v h') (hR : R v h') : OpNextR P E w h o a R :=
  fun next Q hn => k next Q fun E' w' v' g ev rv => hn v h' E' w' v' hR g ev rv

theorem callT_sound {ev : Nat → Code → Tm → AHeap → Scr → RTr} (hev : EvT P ev) {E : Env} {ts : Tm} {h : AHeap} {w : World} {o : Oper} {c : Call} {a : Act} {scr : Scr} {R : Value × AHeap × Scr → Prop}
    (g : Good E h w) (hr : RepT E ts a.tmps) (ho : o.op = .call c) (he : (evCallT P ev ts h scr c).All R) : OpNextR P E w h o a fun v h' => ∃ s, R (v, h', s) := by
  unfold evCallT at he
  split at he
  · rename_i k args hcal
    obtain ⟨args', r1, r2⟩ := calleeOf_run (P := P) (t := o.type) hr hcal
    have hop : (execOp a.eval o).run P w = (callFunc k ⟨args'⟩).run P w := by
      rw [← r2 w]; simp only [execOp, ho]
    have hcall : ∀ {S : Value → AHeap → Prop}, enterable P k = true → ACalls P k args h S → OpNextR P E w h o a S := by
      intro S hk hq next Q hn
      obtain ⟨fn, cd, _, _, hen⟩ := enterable_some hk
      unfold Oper.wp
      rw [hop, hen]
      refine (hq E w args' g r1).mono ?_
      rintro e w' ⟨v0, v', h0, E', rfl, g', ev', rv, hS⟩
      exact hn v0 h0 E' w' v' hS g' (by rw [g.n]; exact ev') rv
    have hone : ∀ {v h' s}, enterable P k = true → AEq P k args h v h' → R (v, h', s) → OpNextR P E w h o a fun v h' => ∃ s, R (v, h', s) := by
      intro v h' s hk hq hR
      refine hcall hk ?_
      intro E0 w0 args0 g0 ra
      refine (hq E0 w0 args0 g0 ra).mono ?_
      rintro e w' ⟨v0, v', h0, E', rfl, g', ev', rv, rfl, rfl⟩
      exact ⟨_, v', _, E', rfl, g', ev', rv, s, hR⟩
    have hext : ∀ {v0 : Value} {s}, AExt P k args v0 → R (v0, h, s) → OpNextR P E w h o a fun v h' => ∃ s, R (v, h', s) := by
      intro v0 s hx hR next Q hn
      obtain ⟨v', q1, q2⟩ := hx E w args' r1
      unfold Oper.wp
      rw [hop, q1]
      exact hn v0 h E w v' ⟨s, hR⟩ g (.refl E h w (Nat.le_refl _)) q2
    have hfn : ∀ {s : Scr}, enterable P k = true → (evFnT P ev k args h s).All R → OpNextR P E w h o a fun v h' => ∃ s, R (v, h', s) := by
      intro s hk ha
      exact hcall hk (evFnT_sound hev (ha.mono fun r hr => ⟨r.2.2, hr⟩))
    split at he
    · exact hext he.1 he.2
    · split at he
      · rename_i hk; exact hone hk he.1 he.2
      · exact he.elim
    · split at he
      · rename_i hk
        split at he
        · rename_i old hold
          refine hone hk ?_ he.2
          rw [ksetL_eq]
          exact he.1 h (oldL_holds hold)
        · exact he.elim
      · exact he.elim
    · split at he
      · rename_i hk
        split at he
        · rename_i old hold
          refine hone hk ?_ he.2
          rw [ksetL_eq]
          exact he.1 h (oldL_holds hold)
        · exact he.elim
      · exact he.elim
    · split at he
      · rename_i hk; exact hfn hk he
      · exact he.elim
    · split at he
      · rename_i hk; exact hfn hk he
      · split at he
        · rename_i v0 hx; exact hext (evExt_sound hx) he
        · exact he.elim
  · exact he.elim

theorem opT_all {E : Env} {ts : Tm} {h : AHeap} {w : World} {o : Oper} {a : Act} {hi : Hint} {s : Scr} {R : Value × AHeap × Scr → Prop} (g : Good E h w) (hr : RepT E ts a.tmps) (he : (opT (evOp P h ts hi o.op) s).All R) :
    OpNextR P E w h o a fun v h' => ∃ s, R (v, h', s) := by
  unfold opT at he
  split at he
  · rename_i ob v h1 h2
    obtain ⟨q1, q2⟩ := all_owes he
    exact OpNextR.one (opNext_op (evOp_sound g hr h2 q1)) ⟨s, q2⟩
  · exact he.elim
theorem opO_all {E : Env} {ts : Tm} {h : AHeap} {w : World} {o : Oper} {a : Act} {hi : Hint} {s : Scr} {R : Value × AHeap × Scr → Prop} (g : Good E h w) (hr : RepT E ts a.tmps) (he : (opO (evOp P h ts hi o.op) s).All R) :
    OpNextR P E w h o a fun v h' => ∃ s, R (v, h', s) := by
  unfold opO at he
  split at he
  · rename_i ob v h1 h2
    exact OpNextR.one (opNext_op (evOp_sound g hr h2 he.1)) ⟨s, he.2⟩
  · exact he.elim

theorem anyT_sound {ev : Nat → Code → Tm → AHeap → Scr → RTr} (hev : EvT P ev) {E : Env} {ts : Tm} {h : AHeap} {w : World} {o : Oper} {a : Act} {scr : Scr} {R : Value × AHeap × Scr → Prop}
    (g : Good E h w) (hr : RepT E ts a.tmps) (he : (evAnyT P ev h ts scr o).All R) : OpNextR P E w h o a fun v h' => ∃ s, R (v, h', s) := by
  unfold evAnyT evIsT at he
  have h0 := Oc.all_bind he
  have key : ∀ r : Value × AHeap × Scr, (match r.2.2 with
      | .d (.is t u) s =>
        match isDst o.dst t with
        | true => (.owe (r.1 = u) (.leaf (u, r.2.1, s)) : FTr)
        | false => .leaf r
      | _ => .leaf r).All R → ∃ s, R (r.1, r.2.1, s) := by
    intro r hr
    split at hr
    · split at hr
      · rw [hr.1]; exact ⟨_, hr.2⟩
      · exact ⟨_, hr⟩
    · exact ⟨_, hr⟩
  have h1 := h0.mono key
  have fin : ∀ {S : Value → AHeap → Prop}, (OpNextR P E w h o a fun v h' => ∃ s : Scr, ∃ s', R (v, h', s')) → OpNextR P E w h o a fun v h' => ∃ s, R (v, h', s) := by
    intro _ k next Q hn
    exact k next Q fun v h' E' w' v' ⟨_, hs⟩ => hn v h' E' w' v' hs
  refine fin (S := fun _ _ => True) ?_
  split at h1
  · rename_i c hc
    exact callT_sound hev g hr (isCallOp_some hc).1 h1
  · unfold evHintedT at h1
    split at h1
    · split at h1 <;> exact opT_all g hr h1
    · split at h1
      · exact opO_all g hr h1
      · exact opT_all g hr h1
    · exact opT_all g hr h1

theorem litB_all {β : Type} {Q : β → Prop} {b : Bool} {k : Bool → Oc β} (h : (litB b k).All Q) : (k b).All Q := by cases b <;> exact h
theorem guardT_sound {β : Type} {Q : β → Prop} {E : Env} {ops : Array Oper} {ts : Tm} {a : Act} {scr : Scr} {o : Oper} {k : Bool → Tm → Scr → Oc β} (hr : RepT E ts a.tmps) (he : (evGuardT ops ts scr o.dst o.guard k).All Q) :
    ∃ go ts1 s1, Region.wanted o (yielded ops a.tmps) = go ∧ RepT E ts1 a.tmps ∧ (k go ts1 s1).All Q := by
  unfold Region.wanted
  cases hg : o.guard with
  | none =>
    rw [hg] at he
    exact ⟨true, ts, scr, rfl, hr, he⟩
  | some gd =>
    obtain ⟨j, want⟩ := gd
    rw [hg] at he
    simp only [evGuardT] at he
    show ∃ go ts1 s1, (yielded ops a.tmps j == some want) = go ∧ _
    split at he
    · exact he.elim
    · rename_i d hd
      have hrd := hr.get d
      have hy : ∀ b, a.tmps.getD d undef = .bool b → yielded ops a.tmps j = some b := by
        intro b hb
        unfold yielded
        rw [hd]
        have : a.tmps[d]? = some (.bool b) := by
          rw [Array.getD_eq_getD_getElem?] at hb
          cases hx : a.tmps[d]? with
          | none => rw [hx] at hb; simp [undef] at hb
          | some x => rw [hx] at hb; simp at hb; rw [hb]
        simp [this]
      have hlit : ∀ b, ts.get d = .bool b → yielded ops a.tmps j = some b := by
        intro b hb
        rw [hb] at hrd
        generalize hx : a.tmps.getD d undef = x at hrd
        cases hrd
        exact hy b hx
      split at he
      · rename_i b hb
        have hyb := hlit b hb
        have put : ∀ c, b = c → RepT E (ts.put d (.bool c)) a.tmps := by
          intro c hc
          subst hc
          refine ⟨by rw [Tm.put_n]; exact hr.n, by rw [Tm.put_n]; exact hr.le, fun k => ?_⟩
          rw [Tm.get_put _ _ _ _ hr.le]
          split
          · rename_i hk
            obtain ⟨rfl, _⟩ := hk
            have := hr.get k
            rw [hb] at this
            exact this
          · exact hr.get k
        split at he
        · split at he
          · obtain ⟨hbc, he⟩ := he
            exact ⟨_, _, _, by rw [hyb, hbc]; rfl, put _ hbc, he⟩
          · exact ⟨_, _, _, by rw [hyb]; rfl, hr, litB_all he⟩
        · split at he
          · cases hbb : b with
            | true => exact ⟨_, _, _, by rw [hyb, hbb]; rfl, put _ hbb, he.1 hbb⟩
            | false => exact ⟨_, _, _, by rw [hyb, hbb]; rfl, put _ hbb, he.2 hbb⟩
          · exact ⟨_, _, _, by rw [hyb]; rfl, hr, litB_all he⟩
        · split at he <;> exact ⟨_, _, _, by rw [hyb]; rfl, hr, litB_all he⟩
        · exact ⟨_, _, _, by rw [hyb]; rfl, hr, litB_all he⟩
      · rename_i hb
        refine ⟨false, ts, scr, ?_, hr, he⟩
        rw [hb] at hrd
        generalize hx : a.tmps.getD d undef = x at hrd
        have : yielded ops a.tmps j = none := by
          unfold yielded
          rw [hd]
          cases hrd with
          | tuple _ c' h =>
            cases h
            have : a.tmps[d]? = none ∨ a.tmps[d]? = some (.tuple ⟨[]⟩) := by
              rw [Array.getD_eq_getD_getElem?] at hx
              cases hy : a.tmps[d]? with
              | none => exact .inl rfl
              | some y => rw [hy] at hx; simp at hx; exact .inr (by rw [hx])
            rcases this with h | h <;> simp [h]
        rw [this]; rfl
      · exact he.elim

theorem opsT_sound {ev : Nat → Code → Tm → AHeap → Scr → RTr} (hev : EvT P ev) (ops : Array Oper) (K : Tm → AHeap → Prop) : ∀ (l : List Oper) (ts : Tm) (h : AHeap) (scr : Scr),
    (evOpsT P ev ops l ts h scr).All (fun r => K r.1 r.2.1) → ∀ (E : Env) (w : World) (a : Act) (Q : Exit → Act → World → Prop), Good E h w → RepT E ts a.tmps → a.defers = [] →
    (∀ ts' h' E' w' a', K ts' h' → Good E' h' w' → Evol E.n E h w E' h' w' → RepT E' ts' a'.tmps → a'.defers = [] → Q .normal a' w') → wpList P ops Q l a w
  | [], ts, h, scr, he, E, w, a, Q, g, hr, hd, hq => hq ts h E w a he g (.refl E h w (Nat.le_refl _)) hr hd
  | o :: rest, ts, h, scr, he, E, w, a, Q, g, hr, hd, hq => by
    refine all_unCase (fun scr he => ?_) (show (unCase scr fun scr => evGuardT ops ts scr o.dst o.guard fun go ts1 s1 =>
      match go with
      | false => evOpsT P ev ops rest (putD ts1 o.dst undef) h s1
      | true => (evAnyT P ev h ts1 s1 o).bind fun r => evOpsT P ev ops rest (putD ts1 o.dst r.1) r.2.1 r.2.2).All (fun r => K r.1 r.2.1) from he)
    obtain ⟨go, ts1, s1, w1, hr1, he⟩ := guardT_sound (o := o) hr he
    cases go with
    | false =>
      unfold wpList
      rw [if_neg (by rw [w1]; simp)]
      exact opsT_sound hev ops K rest _ _ _ he E w _ Q g (putD_rep hr1 (rep_undef E)) (by rw [put_defers]; exact hd) hq
    | true =>
      have h2 := anyT_sound hev g hr1 (Oc.all_bind he)
      unfold wpList
      rw [if_pos w1]
      refine .inl (h2 _ Q fun v h' E' w' v' ⟨s2, hs⟩ g' ev' rv => ?_)
      refine opsT_sound hev ops K rest _ _ _ hs E' w' _ Q g' (putD_rep (hr1.mono ev'.agree) rv) (by rw [put_defers]; exact hd) ?_
      intro ts2 h2 E2 w2 a2 hk g2 ev2 r2 d2
      exact hq ts2 h2 E2 w2 a2 hk g2 (ev'.trans ev2 ev'.agree.n) r2 d2

theorem loopT_sound {m : Nat} {c : Code} {f : Tm → AHeap → Scr → RTr} (hf : ∀ ts h scr (Q : Exit → Tm → AHeap → Prop), (f ts h scr).All (fun r => Q r.1 r.2.1 r.2.2.1) → ATrip P m c ts h Q) :
    ∀ n ts h scr (Q : Exit → Tm → AHeap → Prop), (evLoopT f n ts h scr).All (fun r => Q r.1 r.2.1 r.2.2.1) → ATrip P m (.loop c) ts h Q := by
  intro n ts h scr Q he
  refine ATrip.loop (fun k ts h => ∃ scr, (evLoopT f k ts h scr).All (fun r => Q r.1 r.2.1 r.2.2.1)) n ⟨scr, he⟩ ?_
  clear he scr
  rintro k ts h ⟨scr, he⟩
  cases k with
  | zero => exact (show (Oc.fail : RTr).All _ from he).elim
  | succ k =>
    have h0 := Oc.all_bind (show ((f ts h scr).bind fun r => match r.1 with
      | .normal => evLoopT f k r.2.1 r.2.2.1 r.2.2.2
      | _ => .leaf r).All _ from he)
    refine hf _ _ _ _ (h0.mono fun r hr => ?_)
    obtain ⟨e, t, q, s⟩ := r
    cases e with
    | normal => exact ⟨k, Nat.lt_succ_self _, s, hr⟩
    | _ => exact hr

theorem condT_sound {m : Nat} {ts : Tm} {h : AHeap} {c : Operand} {x y : Code} {scr : Scr} {k : Bool → Scr → RTr} {Q : Exit → Tm → AHeap → Prop} (hk : ∀ b s, (k b s).All (fun r => Q r.1 r.2.1 r.2.2.1) → ATrip P m (if b then x else y) ts h Q)
    (he : (evCondT ts c scr k).All fun r => Q r.1 r.2.1 r.2.2.1) : ATrip P m (.cond c x y) ts h Q := by
  unfold evCondT at he
  split at he
  · rename_i b hc
    refine ATrip.cond hc ?_
    split at he
    · split at he
      · rw [he.1]; exact hk _ _ he.2
      · exact hk _ _ (litB_all he)
    · exact hk _ _ (litB_all he)
    · split at he
      · cases hb : b with
        | true => exact hk _ _ (he.1 hb)
        | false => exact hk _ _ (he.2 hb)
      · exact hk _ _ (litB_all he)
    · exact hk _ _ (litB_all he)
  · exact he.elim

theorem drawT_sound {n : Nat} {ev : Nat → Code → Tm → AHeap → Scr → RTr} (hev : EvT P ev) {id m : Nat} {ops : Array Oper} {ts : Tm} {h : AHeap} {l : Script} {scr : Scr} {K : Tm → AHeap → Prop} (he : (drawF P n ev ops ts h l scr).All fun r => K r.1 r.2.1) :
    ATrip P m (.region id ops true) ts h fun e t k => e = .normal ∧ K t k := by
  unfold drawF at he
  simp only at he
  split at he
  · rename_i hchk
    split at he
    · rename_i ob st ts1 s1 hfr
      split at he
      · rename_i hpv
        obtain ⟨o1, h2⟩ := all_owes he
        refine draw_gen (evCode_ok n) hchk hfr hpv o1 K ?_
        intro E1 w1 a1 Q G R D hQ
        exact opsT_sound hev ops K _ _ _ _ h2 E1 w1 a1 Q G R D hQ
      · exact he.elim
    · exact he.elim
  · exact he.elim

theorem AComes.trip {m : Nat} {c : Code} {ts : Tm} {h : AHeap} {ex : Exit} {ts' : Tm} {h' : AHeap} {Q : Exit → Tm → AHeap → Prop} (t : AComes P m c ts h ex ts' h') (q : Q ex ts' h') : ATrip P m c ts h Q :=
  ATrip.mono t (by rintro e t k ⟨rfl, rfl, rfl⟩; exact q)

theorem evCodeT_ok (n : Nat) : EvT P (evCodeT P n) := by
  suffices H : ∀ j, EvT P (Nat.rec (fun _ _ _ _ _ => .fail) (fun k ih => evStepT P n ih) j : Nat → Code → Tm → AHeap → Scr → RTr) from H n
  intro j
  induction j with
  | zero => intro m c ts h scr Q he; exact he.elim
  | succ j ih =>
    intro m c ts h scr Q he
    have he0 : (evStepT P n (Nat.rec (fun _ _ _ _ _ => .fail) (fun k ih => evStepT P n ih) j) m c ts h scr).All (fun r => Q r.1 r.2.1 r.2.2.1) := he
    clear he
    generalize (Nat.rec (fun _ _ _ _ _ => .fail) (fun k ih => evStepT P n ih) j : Nat → Code → Tm → AHeap → Scr → RTr) = ev at *
    unfold evStepT at he0
    refine all_unCase (fun scr he => ?_) he0
    clear he0
    split at he
    · split at he
      · exact he.1.trip he.2
      · exact he.elim
    · split at he
      · exact he.1.trip he.2
      · split at he
        · rename_i hg
          obtain ⟨q1, q2⟩ := all_owes he
          exact ATrip.weaken (gc_awk hg q1) (q2.1.trip q2.2)
        · exact he.elim
      · exact loopT_sound (fun ts h scr Q => ih m _ ts h scr Q) n _ _ _ _ he
    · exact ATrip.skip he
    · exact ATrip.ret he
    · exact ATrip.exit he
    · rename_i x y
      refine ATrip.seq (ih _ _ _ _ _ _ ((Oc.all_bind he).mono fun r hr => ?_))
      obtain ⟨e, t, k, s⟩ := r
      cases e with
      | normal => exact ih _ _ _ _ _ _ hr
      | _ => exact hr
    · rename_i id c
      split at he
      · split at he
        · rename_i hg
          obtain ⟨q1, q2⟩ := all_owes he
          exact ATrip.weaken (gc_awk hg q1) (q2.1.trip q2.2)
        · exact he.elim
      · refine ATrip.block (ih _ _ _ _ _ _ ((Oc.all_bind he).mono fun r hr => ?_))
        obtain ⟨e, t, k, s⟩ := r
        cases e with
        | exit i =>
          simp only [ABlock] at hr ⊢
          split at hr
          · rename_i hi; rw [if_pos hi]; exact hr
          · rename_i hi; rw [if_neg hi]; exact hr
        | _ => exact hr
    · rename_i c x y
      refine condT_sound (fun b s hb => ?_) he
      cases b with
      | true => exact ih _ _ _ _ _ _ hb
      | false => exact ih _ _ _ _ _ _ hb
    · rename_i id ops
      have h0 := Oc.all_bind he
      intro hm E w a g hr hd
      refine wp_region_list (opsT_sound ih ops (fun t k => Q .normal t k) _ _ _ _ h0 E w a _ g hr hd ?_)
      intro ts' h' E' w' a' hk g' ev' r' d'
      exact ⟨_, _, E', g', ev'.le (by rw [g.n]; exact hm), r', d', hk⟩
    · rename_i id ops
      have h0 := Oc.all_bind he
      unfold evDrawT at h0
      split at h0
      · refine (drawT_sound ih (K := fun t k => Q .normal t k) h0).mono ?_
        rintro e t k ⟨rfl, hk⟩; exact hk
      · refine (drawT_sound ih (K := fun t k => Q .normal t k) h0).mono ?_
        rintro e t k ⟨rfl, hk⟩; exact hk
    · exact he.elim
theorem evFnTr_sound {n : Nat} {k : FuncId} {args : List Value} {h : AHeap} {scr : Scr} {R : Value → AHeap → Prop} (he : (evFnTr P n k args h scr).All fun r => R r.1 r.2.1) : ACalls P k args h R := by
  unfold evFnTr at he
  split at he
  · exact evFnT_sound (evCodeT_ok n) he
  · exact he.elim

end
end Go.AX

namespace Go.AX
set_option linter.unusedVariables false
set_option linter.unusedSimpArgs false

theorem Oc.All.path {α : Type} {Q : α → Prop} : ∀ {t : Oc α}, t.All Q → ∃ a, Q a ∧ t.All (fun b => b = a)
  | .fail, h => h.elim
  | .leaf a, h => ⟨a, h, rfl⟩
  | .ite c x y, h => by
    cases hc : c with
    | true =>
      obtain ⟨a, q, k⟩ := (h.1 hc).path
      exact ⟨a, q, fun _ => k, fun e => by exact Bool.noConfusion e⟩
    | false =>
      obtain ⟨a, q, k⟩ := (h.2 hc).path
      exact ⟨a, q, fun e => by exact Bool.noConfusion e, fun _ => k⟩
  | .owe p x, h => by
    obtain ⟨a, q, k⟩ := h.2.path
    exact ⟨a, q, h.1, k⟩
def K {R β : Type} (enc : R → β) (s : Scr) (t : Oc β) (r : R) : Prop := t.All fun b => b = enc r

section
variable {R β : Type} {enc : R → β} {s s1 s2 : Scr} {x y : Oc β} {a b : R}

theorem kl : K enc .nil (.leaf (enc a)) a := rfl
theorem kg (keep bares live : List Nat) {l : List Prop} (ho : AllP l) : K enc (.gc keep bares live) (owes l (.leaf (enc a))) a := by
  induction l with
  | nil => exact rfl
  | cons p l ih => exact ⟨ho.1, ih ho.2⟩
theorem kx (h : False) : K enc .stop .fail a := h.elim
theorem ki (t : Nat) {c : Bool} (h1 : c = true → K enc s1 x a) (h2 : c = false → K enc s2 y b) : K enc (.fork t s1 s2) (.ite c x y) (cond c a b) :=
  ⟨fun e => by subst e; exact h1 rfl, fun e => by subst e; exact h2 rfl⟩
theorem kj (t : Nat) {c : Bool} (h1 : c = true → K enc s1 x a) (h2 : c = false → K enc s2 y b) : K enc (.gfork t s1 s2) (.ite c x y) (cond c a b) := ki (s1 := s1) (s2 := s2) t h1 h2
theorem kjs (t : Nat) (c : Bool) (h1 : c = true → K enc s1 x a) (h2 : c = false → K enc s2 y a) : K enc (.gfork t s1 s2) (.ite c x y) a := ⟨h1, h2⟩
theorem kc {c : Bool} (h1 : c = true → K enc s1 x a) (h2 : c = false → K enc s2 y b) : K enc (.case c s1 s2) (.ite c x y) (cond c a b) :=
  ⟨fun e => by subst e; exact h1 rfl, fun e => by subst e; exact h2 rfl⟩
theorem kis (t : Nat) (c : Bool) (h1 : c = true → K enc s1 x a) (h2 : c = false → K enc s2 y a) : K enc (.fork t s1 s2) (.ite c x y) a := ⟨h1, h2⟩
theorem kcs (c : Bool) (h1 : c = true → K enc s1 x a) (h2 : c = false → K enc s2 y a) : K enc (.case c s1 s2) (.ite c x y) a := ⟨h1, h2⟩
theorem kd (d : Dir) (h : K enc s x a) : K enc (.d d s) x a := h
theorem kh (t : Nat) (h : K enc s x a) : K enc (.glit t s) x a := h
theorem kr (t : Nat) {u v : Bool} (hp : u = v) (h : K enc s x a) : K enc (.br t v s) (.owe (u = v) x) a := ⟨hp, h⟩
theorem ku (t : Nat) {u v : Bool} (hp : u = v) (h : K enc s x a) : K enc (.d (.gd t v) s) (.owe (u = v) x) a := ⟨hp, h⟩
theorem kp {p : Prop} (hp : p) (h : K enc s x a) : K enc s (.owe p x) a := ⟨hp, h⟩
theorem kv (t : Nat) {u v : Value} (hp : u = v) (h : K enc s x a) : K enc (.d (.is t v) s) (.owe (u = v) x) a := ⟨hp, h⟩
theorem kps {l : List Prop} (hp : AllP l) (h : K enc s x a) : K enc s (owes l x) a := by
  induction l with
  | nil => exact h
  | cons p l ih => exact ⟨hp.1, ih hp.2⟩
theorem kf (l : Script) {ob : List Prop} (ho : AllP ob) (h : K enc s x a) : K enc (.front l s) (owes ob x) a := kps (s := s) ho h
theorem kk {P : Program} {f : FuncId} {args : List Value} {old new : List (Nat × AObj)} {v : Value} (hp : AOn P f args old v new) (h : K enc s x a) : K enc (.d (.callL v new) s) (.owe (AOn P f args old v new) x) a := ⟨hp, h⟩
theorem kn {P : Program} {f : FuncId} {args : List Value} {old new : List (Nat × AObj)} {v : Value} {objs : AHeap} (hp : AOnN P f args old v new objs) (h : K enc s x a) : K enc (.d (.callN v new objs) s) (.owe (AOnN P f args old v new objs) x) a := ⟨hp, h⟩
theorem kq {P : Program} {f : FuncId} {args : List Value} {v : Value} {h0 h' : AHeap} (hp : AEq P f args h0 v h') (h : K enc s x a) : K enc (.d (.call v h') s) (.owe (AEq P f args h0 v h') x) a := ⟨hp, h⟩
theorem kL (keep bares live : List Nat) {P : Program} {m : Nat} {c : Code} {ts ts' : Tm} {h0 h' : AHeap} {ex : Exit} {l : List Prop} (ho : AllP l) (hl : AComes P m c ts h0 ex ts' h') (h : K enc s x a) :
    K enc (.d (.codeG keep bares live ex ts' h') s) (owes l (.owe (AComes P m c ts h0 ex ts' h') x)) a := kps (s := s) ho ⟨hl, h⟩
theorem kB (keep bares live : List Nat) {P : Program} {m : Nat} {c : Code} {ts ts' : Tm} {h0 h' : AHeap} {ex : Exit} {l : List Prop} (ho : AllP l) (hl : AComes P m c ts h0 ex ts' h') (h : K enc s x a) :
    K enc (.d (.codeB keep bares live ex ts' h') s) (owes l (.owe (AComes P m c ts h0 ex ts' h') x)) a := kps (s := s) ho ⟨hl, h⟩
theorem kor {c d : Bool} (h : K enc s x (cond c a (cond d a b))) : K enc s x (cond (c || d) a b) := by cases c <;> exact h
theorem kand {c d : Bool} (h : K enc s x (cond c (cond d a b) b)) : K enc s x (cond (c && d) a b) := by cases c <;> exact h
theorem kbool {enc : Bool → β} {c : Bool} (h : K enc s x (cond c true false)) : K enc s x c := by cases c <;> exact h
end

section
variable {P : Program}

theorem fn_path {n : Nat} {k : FuncId} {args : List Value} {h : AHeap} {s : Scr} {Q : Value × AHeap × Scr → Prop} (he : (evFnTr P n k args h s).All Q) : ∃ r, Q r ∧ AEq P k args h r.1 r.2.1 := by
  obtain ⟨r, q, t⟩ := he.path
  exact ⟨r, q, evFnTr_sound (t.mono fun b hb => by subst hb; exact ⟨rfl, rfl⟩)⟩

theorem code_path {n m : Nat} {c : Code} {ts : Tm} {h : AHeap} {s : Scr} {Q : Exit × Tm × AHeap × Scr → Prop} (he : (evCodeT P n m c ts h s).All Q) : ∃ r, Q r ∧ AComes P m c ts h r.1 r.2.1 r.2.2.1 := by
  obtain ⟨r, q, t⟩ := he.path
  exact ⟨r, q, evCodeT_ok n _ _ _ _ _ _ (t.mono fun b hb => by subst hb; exact ⟨rfl, rfl, rfl⟩)⟩

noncomputable def bareT (t : FTr) : Oc Value := t.bind fun r =>
  match Go.AX.bare r.1 with
  | true => .leaf r.1
  | false => .fail

noncomputable def keepT (n : Nat) (t : FTr) : Oc (Value × AHeap) := t.bind fun r =>
  match Nat.beq (r.2.1.take n).length n && (okIds (fun i => decide (i < n)) r.1 && (r.2.1.take n).all (okObj fun i => decide (i < n))) with
  | true => .leaf (r.1, r.2.1.take n)
  | false => .fail
noncomputable def trimT (t : FTr) : Oc (Value × AHeap) := t.bind fun r =>
  match r.2.2 with
  | .gc keep _ _ =>
    match oneEach keep && (okIds (hasIt keep) r.1 && keep.all fun i => decide (i < r.2.1.length) && okObj (hasIt keep) (r.2.1.getD i .gone)) with
    | true => .leaf (rnV (posOf keep) r.1, keptObjs keep r.2.1)
    | false => .fail
  | _ => .fail

noncomputable def gcT (m : Nat) (t : RTr) : Oc (Exit × Tm × AHeap) := t.bind fun r =>
  match r.2.2.2 with
  | .gc keep bares live =>
    match gcOk m keep bares live r.2.1 r.2.2.1 with
    | true => owes (bareObs bares r.2.2.1) (.leaf (r.1, gcTm keep live r.2.1, keptB keep bares r.2.2.1))
    | false => .fail
  | _ => .fail

theorem onT (n : Nat) {k : FuncId} {args : List Value} {R : Type} (enc : R → Value) {s : Scr} {t : Oc Value} {r : R} (hk : K enc s t r) (he : bareT (evFnTr P n k args [] s) = t) (ha : args.all Go.AX.bare = true) : AOn P k args [] (enc r) [] := by
  unfold K at hk
  rw [← he] at hk
  obtain ⟨q, h1, h2⟩ := fn_path (Oc.all_bind hk)
  split at h1
  · rename_i hb
    have h1' : q.1 = enc r := h1
    rw [h1'] at h2 hb
    exact fun H _ => h2.bare ha hb H
  · exact h1.elim
theorem ptrT (n : Nat) {k : FuncId} {args : List Value} {o : AObj} {R : Type} (enc : R → Value × AHeap) {s : Scr} {t : Oc (Value × AHeap)} {r : R} (hk : K enc s t r) (he : keepT 1 (evFnTr P n k args [o] s) = t) : AEq P k args [o] (enc r).1 (enc r).2 := by
  unfold K at hk
  rw [← he] at hk
  obtain ⟨q, h1, h2⟩ := fn_path (Oc.all_bind hk)
  split at h1
  · rename_i hb
    have h1' : (q.1, q.2.1.take 1) = enc r := h1
    rw [← h1']
    rw [Bool.and_eq_true, Bool.and_eq_true] at hb
    have hl := Nat.eq_of_beq_eq_true hb.1
    rw [← List.take_append_drop 1 q.2.1] at h2
    exact h2.keep hl (by rw [hl]; exact hb.2.1) (by rw [hl]; exact hb.2.2)
  · exact h1.elim
theorem newT (n : Nat) {k : FuncId} {args : List Value} {R : Type} (enc : R → Value × AHeap) {s : Scr} {t : Oc (Value × AHeap)} {r : R} (hk : K enc s t r) (he : trimT (evFnTr P n k args [] s) = t) (ha : args.all Go.AX.bare = true)
    (hc : (okIds (fun i => decide (i < (enc r).2.length)) (enc r).1 && (enc r).2.all fun o => notRo o && okObj (fun i => decide (i < (enc r).2.length)) o) = true) : AOnN P k args [] (enc r).1 [] (enc r).2 := by
  unfold K at hk
  rw [← he] at hk
  obtain ⟨q, h1, h2⟩ := fn_path (Oc.all_bind hk)
  split at h1
  · rename_i keep _ _ _
    split at h1
    · rename_i hb
      have h1' : (rnV (posOf keep) q.1, keptObjs keep q.2.1) = enc r := h1
      rw [Bool.and_eq_true, Bool.and_eq_true] at hb
      rw [Bool.and_eq_true] at hc
      have h3 := h2.trim keep hb.1 hb.2.1 hb.2.2
      rw [← h1'] at hc ⊢
      exact fun H _ => h3.frame ha hc.1 hc.2 H
    · exact h1.elim
  · exact h1.elim
theorem codeT (n : Nat) {m : Nat} {c : Code} {ts : Tm} {h : AHeap} {R : Type} (enc : R → Exit × Tm × AHeap) {s : Scr} {t : Oc (Exit × Tm × AHeap)} {r : R} (hk : K enc s t r) (he : gcT m (evCodeT P n m c ts h s) = t) :
    AComes P m c ts h (enc r).1 (enc r).2.1 (enc r).2.2 := by
  unfold K at hk
  rw [← he] at hk
  obtain ⟨q, h1, h2⟩ := code_path (Oc.all_bind hk)
  split at h1
  · rename_i keep bares live _
    split at h1
    · rename_i hg
      obtain ⟨o1, o2⟩ := all_owes h1
      have h1' : (q.1, gcTm keep live q.2.1, keptB keep bares q.2.2.1) = enc r := o2
      rw [← h1']
      refine h2.result ?_
      rintro e t k ⟨rfl, rfl, rfl⟩
      exact ⟨_, _, gc_awk hg o1, rfl, rfl, rfl⟩
    · exact h1.elim
  · exact h1.elim

end
end Go.AX

namespace Go.AX
set_option linter.unusedVariables false
set_option linter.unusedSimpArgs false
def stepsN {S : Type} (step : S → Bool × S) : Nat → S → S
  | 0, s => (step s).2
  | n + 1, s => bif (step s).1 then stepsN step n (step s).2 else (step s).2

theorem codeL {P : Program} {m : Nat} {c : Code} {ts : Tm} {h : AHeap} {ex : Exit} {ts' : Tm} {h' : AHeap} (n : Nat) (keep bares live : List Nat) (scr : Script) {ob : List Prop} (ho : AllP ob)
    (he : gcRun m keep bares live (evCode P n m c ts h scr) = some (ob, ex, ts', h')) : AComes P m c ts h ex ts' h' := evCode_gc he ho

theorem loopStep {P : Program} {m : Nat} {c : Code} {ex : Exit} (hex : ex ≠ .normal) {S : Type} (step : S → Bool × S) (μ : S → Nat) (at_ out : S → Tm × AHeap)
    (hμ : ∀ s, (step s).1 = true → μ (step s).2 < μ s)
    (round : ∀ s, AComes P m c (at_ s).1 (at_ s).2 (bif (step s).1 then .normal else ex) (bif (step s).1 then at_ (step s).2 else out (step s).2).1 (bif (step s).1 then at_ (step s).2 else out (step s).2).2) :
    ∀ (N : Nat) (s : S), μ s ≤ N → AComes P m (.loop c) (at_ s).1 (at_ s).2 ex (out (stepsN step N s)).1 (out (stepsN step N s)).2 := by
  intro N s hN
  have hmono : ∀ (N M : Nat) (s : S), μ s ≤ N → μ s ≤ M → stepsN step N s = stepsN step M s := by
    intro N
    induction N with
    | zero =>
      intro M s h1 _
      have hf : (step s).1 = false := by
        cases h : (step s).1 with
        | false => rfl
        | true => have := hμ s h; omega
      cases M with
      | zero => rfl
      | succ M => simp only [stepsN, hf, cond_false]
    | succ N ih =>
      intro M s h1 h2
      cases h : (step s).1 with
      | false => cases M <;> simp only [stepsN, h, cond_false]
      | true =>
        have := hμ s h
        cases M with
        | zero => omega
        | succ M =>
          simp only [stepsN, h, cond_true]
          exact ih M _ (by omega) (by omega)
  have key := AComes.loopS (P := P) (m := m) (c := c) hex μ at_ (fun s => out (stepsN step (μ s) s)) (fun s => by
    have hr := round s
    cases h : (step s).1 with
    | false =>
      rw [h] at hr
      left
      have : stepsN step (μ s) s = (step s).2 := by cases μ s <;> simp only [stepsN, h, cond_false]
      rw [this]
      exact hr
    | true =>
      rw [h] at hr
      have hlt := hμ s h
      refine .inr ⟨(step s).2, hlt, ?_, hr⟩
      have : stepsN step (μ s) s = stepsN step (μ (step s).2) (step s).2 := by
        obtain ⟨k, hk⟩ : ∃ k, μ s = k + 1 := ⟨μ s - 1, by omega⟩
        rw [hk]
        simp only [stepsN, h, cond_true]
        exact hmono _ _ _ (by omega) (Nat.le_refl _)
      rw [this]) s
  have e : stepsN step N s = stepsN step (μ s) s := hmono N (μ s) s hN (Nat.le_refl _)
  rw [e]; exact key
theorem loopStepI {P : Program} {m : Nat} {c : Code} {ex : Exit} (hex : ex ≠ .normal) {S : Type} (step : S → Bool × S) (μ : S → Nat) (at_ out : S → Tm × AHeap) (I : S → Prop)
    (hI : ∀ s, I s → (step s).1 = true → I (step s).2) (hμ : ∀ s, I s → (step s).1 = true → μ (step s).2 < μ s)
    (round : ∀ s, I s → AComes P m c (at_ s).1 (at_ s).2 (bif (step s).1 then .normal else ex) (bif (step s).1 then at_ (step s).2 else out (step s).2).1 (bif (step s).1 then at_ (step s).2 else out (step s).2).2) :
    ∀ (N : Nat) (s : S), I s → μ s ≤ N → AComes P m (.loop c) (at_ s).1 (at_ s).2 ex (out (stepsN step N s)).1 (out (stepsN step N s)).2 := by
  intro N s hs hN
  refine ATrip.loop (fun n ts h => ∃ s' N', I s' ∧ μ s' ≤ N' ∧ n = N' ∧ stepsN step N' s' = stepsN step N s ∧ ts = (at_ s').1 ∧ h = (at_ s').2) N ⟨s, N, hs, hN, rfl, rfl, rfl, rfl⟩ ?_
  rintro n ts h ⟨s1, N1, hs1, hN1, rfl, hres, rfl, rfl⟩
  have hr := round s1 hs1
  cases hb : (step s1).1 with
  | false =>
    rw [hb] at hr
    have e : stepsN step n s1 = (step s1).2 := by cases n <;> simp only [stepsN, hb, cond_false]
    rw [e] at hres
    refine hr.mono ?_
    rintro x t k ⟨rfl, rfl, rfl⟩
    cases x with
    | normal => exact absurd rfl hex
    | _ => exact ⟨rfl, by rw [← hres]; rfl, by rw [← hres]; rfl⟩
  | true =>
    rw [hb] at hr
    have hlt := hμ s1 hs1 hb
    obtain ⟨k, rfl⟩ : ∃ k, n = k + 1 := ⟨n - 1, by omega⟩
    have e : stepsN step (k + 1) s1 = stepsN step k (step s1).2 := by simp only [stepsN, hb, cond_true]
    refine hr.mono ?_
    rintro x t q ⟨rfl, rfl, rfl⟩
    exact ⟨k, Nat.lt_succ_self _, (step s1).2, k, hI s1 hs1 hb, by omega, rfl, by rw [← e]; exact hres, rfl, rfl⟩

end Go.AX

namespace Go.AX
set_option linter.unusedVariables false
set_option linter.unusedSimpArgs false

theorem AOn.ofCalls {P : Program} {k : FuncId} {args : List Value} {v : Value} (t : ∀ w, Calls P k ⟨args⟩ w fun e w' => e = .returned v ∧ Go.RowKit.Below w.heap.size w w')
    (ha : ∀ E l, RepL E args l → l = args) (hv : ∀ E, Rep E v v) : AOn P k args [] v [] := by
  intro H _ E w args' g ra
  obtain rfl := ha E args' ra
  refine (t w).mono ?_
  rintro e w' ⟨rfl, b⟩
  have hfz : ∀ a : Addr, a.block < w.heap.size → w'.frozen? a = w.frozen? a := by
    intro a h
    unfold World.frozen?
    rw [b.block _ h]
  have hg : Good E H w' := ⟨g.n, fun i o hi => (g.holds i o hi).mono (.refl _ (Nat.le_refl _)) (g.lt hi) (fun hl => b.block _ (g.block_lt hi hl)), g.apart⟩
  exact ⟨_, _, _, E, rfl, hg, ⟨.refl _ (Nat.le_of_eq g.n.symm), fun i hi _ => b.block i hi, fun _ h => .inr h, b.size, b.os, ⟨b.tape, b.size, hfz⟩, b.output⟩, hv E, rfl, rfl⟩

end Go.AX

namespace Go.AX
set_option linter.unusedVariables false
set_option linter.unusedSimpArgs false

def encs {A : Type} (enc : A → List Value) (l : List A) : List Value := (l.map enc).flatten

theorem encs_drop {A : Type} {enc : A → List Value} {n : Nat} (henc : ∀ a, (enc a).length = n) : ∀ (k : Nat) (l : List A), (encs enc l).drop (n * k) = encs enc (l.drop k)
  | 0, l => rfl
  | k + 1, [] => by simp [encs]
  | k + 1, a :: l => by
    show (enc a ++ encs enc l).drop (n * (k + 1)) = encs enc (l.drop k)
    rw [← encs_drop henc k l, List.drop_append, henc, List.drop_eq_nil_of_le (by rw [henc, Nat.mul_succ]; omega), List.nil_append]
    congr 1
    rw [Nat.mul_succ]; omega

theorem encs_part {A : Type} {enc : A → List Value} {n : Nat} (henc : ∀ a, (enc a).length = n) {l : List A} {k : Nat} {a : A} (h : l[k]? = some a) : ((encs enc l).drop (n * k)).take n = enc a := by
  rw [encs_drop henc]
  obtain ⟨hk, e⟩ := List.getElem?_eq_some_iff.1 h
  rw [List.drop_eq_getElem_cons hk, e]
  show (enc a ++ encs enc (l.drop (k + 1))).take n = enc a
  rw [← henc a, List.take_left]

theorem encs_bare {A : Type} {enc : A → List Value} {p : Value → Bool} (hb : ∀ a, (enc a).all p = true) : ∀ l : List A, (encs enc l).all p = true
  | [] => rfl
  | a :: l => by
    show (enc a ++ encs enc l).all p = true
    rw [List.all_append, hb, encs_bare hb l]; rfl

theorem encs_bareO {A : Type} {enc : A → List Value} (hb : ∀ a, (enc a).all (okIds fun _ => false) = true) (l : List A) (sz : Nat) : bareO (.ro (encs enc l) sz) = true := encs_bare hb l

theorem ptr_is {i a b : Nat} (h : a = b) : Value.pointer (some ⟨i, a, none⟩) = .pointer (some ⟨i, b, none⟩) := by rw [h]
def runL {S A R : Type} (r0 : R) (step : S → A → Bool × R × S) : List A → S → Bool × R × S
  | [], s => (false, r0, s)
  | a :: l, s => bif (step s a).1 then step s a else runL r0 step l (step s a).2.2

theorem runL_ret {S A : Type} (step : S → A → Bool × Bool × S) (h : ∀ s a, (step s a).1 = true → (step s a).2.1 = true) : ∀ (l : List A) (s : S), (runL false step l s).1 = true → (runL false step l s).2.1 = true
  | [], _, e => Bool.noConfusion e
  | a :: l, s, e => by
    unfold runL at e ⊢
    cases hb : (step s a).1 with
    | true => simp only [hb, cond_true]; exact h s a hb
    | false => rw [hb] at e; simp only [cond_false] at e ⊢; exact runL_ret step h l _ e

theorem listLoop {P : Program} {m : Nat} {c : Code} {ex ex0 : Exit} (hex : ex ≠ .normal) (hex0 : ex0 ≠ .normal) {S A R : Type} (r0 : R) (step : S → A → Bool × R × S) (at_ : Nat → S → Tm × AHeap) (fin : S → Tm × AHeap) (ret : R → Tm × AHeap) (I : S → Prop) (OK : A → Prop)
    (L : List A) (hOK : ∀ a ∈ L, OK a) (hI : ∀ s a, I s → OK a → (step s a).1 = false → I (step s a).2.2)
    (round : ∀ k s a, L[k]? = some a → I s → OK a → AComes P m c (at_ k s).1 (at_ k s).2 (bif (step s a).1 then ex else .normal) (bif (step s a).1 then ret (step s a).2.1 else at_ (k + 1) (step s a).2.2).1 (bif (step s a).1 then ret (step s a).2.1 else at_ (k + 1) (step s a).2.2).2)
    (fine : ∀ s, I s → AComes P m c (at_ L.length s).1 (at_ L.length s).2 ex0 (fin s).1 (fin s).2) (s : S) (hs : I s) :
    AComes P m (.loop c) (at_ 0 s).1 (at_ 0 s).2 (bif (runL r0 step L s).1 then ex else ex0) (bif (runL r0 step L s).1 then ret (runL r0 step L s).2.1 else fin (runL r0 step L s).2.2).1 (bif (runL r0 step L s).1 then ret (runL r0 step L s).2.1 else fin (runL r0 step L s).2.2).2 := by
  refine ATrip.loop (fun n ts h => ∃ k s', I s' ∧ k ≤ L.length ∧ n = L.length - k ∧ runL r0 step (L.drop k) s' = runL r0 step L s ∧ ts = (at_ k s').1 ∧ h = (at_ k s').2) L.length ⟨0, s, hs, Nat.zero_le _, rfl, rfl, rfl, rfl⟩ ?_
  rintro n ts h ⟨k, s1, hs1, hk, rfl, hres, rfl, rfl⟩
  rcases Nat.lt_or_ge k L.length with hlt | hge
  · have ha : L[k]? = some L[k] := List.getElem?_eq_getElem hlt
    have hok := hOK L[k] (List.getElem_mem hlt)
    have hr := round k s1 L[k] ha hs1 hok
    rw [List.drop_eq_getElem_cons hlt] at hres
    cases hb : (step s1 L[k]).1 with
    | true =>
      rw [hb] at hr
      have e : runL r0 step (L[k] :: L.drop (k + 1)) s1 = step s1 L[k] := by simp only [runL, hb, cond_true]
      rw [e] at hres
      refine hr.mono ?_
      rintro x t q ⟨rfl, rfl, rfl⟩
      rw [← hres, hb]
      cases x with
      | normal => exact absurd rfl hex
      | _ => exact ⟨rfl, rfl, rfl⟩
    | false =>
      rw [hb] at hr
      have e : runL r0 step (L[k] :: L.drop (k + 1)) s1 = runL r0 step (L.drop (k + 1)) (step s1 L[k]).2.2 := by simp only [runL, hb, cond_false]
      rw [e] at hres
      refine hr.mono ?_
      rintro x t q ⟨rfl, rfl, rfl⟩
      exact ⟨L.length - (k + 1), by omega, k + 1, _, hI s1 _ hs1 hok hb, hlt, rfl, hres, rfl, rfl⟩
  · obtain rfl : k = L.length := by omega
    have hr := fine s1 hs1
    rw [List.drop_length] at hres
    refine hr.mono ?_
    rintro x t q ⟨rfl, rfl, rfl⟩
    rw [← hres]
    cases x with
    | normal => exact absurd rfl hex0
    | _ => exact ⟨rfl, rfl, rfl⟩

theorem loopT {P : Program} {m : Nat} {c : Code} {ts : Tm} {h : AHeap} {b : Bool} {e1 e2 : Exit} {r1 r2 : Tm × AHeap} (t : AComes P m c ts h (bif b then e1 else e2) (bif b then r1 else r2).1 (bif b then r1 else r2).2) (hb : b = true) : AComes P m c ts h e1 r1.1 r1.2 := by
  subst hb; exact t
theorem loopF {P : Program} {m : Nat} {c : Code} {ts : Tm} {h : AHeap} {b : Bool} {e1 e2 : Exit} {r1 r2 : Tm × AHeap} (t : AComes P m c ts h (bif b then e1 else e2) (bif b then r1 else r2).1 (bif b then r1 else r2).2) (hb : b = false) : AComes P m c ts h e2 r2.1 r2.2 := by
  subst hb; exact t
noncomputable def headRun (r : FRes) : Option (List Prop × Value × AObj) :=
  match r with
  | some (ob, v, o :: _, _) =>
    match okIds (fun i => decide (i < 1)) v with
    | true => some (ob, v, o)
    | false => none
  | _ => none

theorem runHead {P : Program} {k : FuncId} {args : List Value} {o o' : AObj} {v : Value} (n : Nat) (scr : Script) {ob : List Prop} (hb : bareO o' = true) (ho : AllP ob)
    (he : headRun (evFn P n k args [o] scr) = some (ob, v, o')) : AEq P k args [o] v [o'] := by
  unfold headRun at he
  split at he
  · rename_i ob1 v1 o1 rest s1 hr
    split at he
    · rename_i hv
      simp only [Option.some.injEq, Prod.mk.injEq] at he
      obtain ⟨rfl, rfl, rfl⟩ := he
      exact AEq.keep (h1 := [o1]) (g := rest) (evFn_sound hr ho) rfl hv (by
        simp only [List.all_cons, List.all_nil, Bool.and_true]
        exact bareO_ok hb)
    · simp at he
  · simp at he

noncomputable def headO (t : FTr) : Oc (Value × AObj) := t.bind fun r =>
  match r.2.1 with
  | o :: _ =>
    match okIds (fun i => decide (i < 1)) r.1 with
    | true => .leaf (r.1, o)
    | false => .fail
  | _ => .fail

theorem headT (n : Nat) {P : Program} {k : FuncId} {args : List Value} {o : AObj} {R : Type} (enc : R → Value) (hb : bareO o = true) {s : Scr} {t : Oc (Value × AObj)} {r : R} (hk : K (fun r => (enc r, o)) s t r)
    (he : headO (evFnTr P n k args [o] s) = t) : AEq P k args [o] (enc r) [o] := by
  unfold K at hk
  rw [← he] at hk
  obtain ⟨⟨v, h', s'⟩, h1, h2⟩ := fn_path (Oc.all_bind hk)
  simp only at h1 h2
  split at h1
  · rename_i o1 rest
    split at h1
    · rename_i hv
      have h1' : (v, o1) = (enc r, o) := h1
      simp only [Prod.mk.injEq] at h1'
      obtain ⟨rfl, rfl⟩ := h1'
      exact AEq.keep (h1 := [o1]) (g := rest) h2 rfl hv (by
        simp only [List.all_cons, List.all_nil, Bool.and_true]
        exact bareO_ok hb)
    · exact h1.elim
  · exact h1.elim
end Go.AX

namespace Go.AX
set_option linter.unusedVariables false
set_option linter.unusedSimpArgs false
open Go Go.ChangeShapes Go.RowKit Go.WideShapes
structure Stays (W W' : World) : Prop where
  os : W'.os = W.os
  output : W'.output = W.output
  size : W.heap.size ≤ W'.heap.size
  block : ∀ b, b < W.heap.size → W'.heap[b]? = W.heap[b]?

theorem stays_of {E E' : Go.AX.Env} {h h' : AHeap} {w w' : World} {m : Nat} (ev : Evol m E h w E' h' w') (hno : ∀ o ∈ h, ¬ o.own) : Stays w w' :=
  ⟨ev.os, ev.output, ev.size, fun b hb => ev.frame b hb (by rintro ⟨i, o, hi, ho, _⟩; exact hno o (List.mem_of_getElem? hi) ho)⟩

theorem Stays.frozen {W W' : World} (s : Stays W W') {a : Addr} (h : a.block < W.heap.size) : W'.frozen? a = W.frozen? a := by
  unfold World.frozen?; rw [s.block _ h]
theorem Stays.sameAt {W W' : World} (s : Stays W W') {p : MemPlace} (h : p.block < W.heap.size) : W.sameAt W' p := by
  cases p with
  | cell b off => show W'.cell? _ = W.cell? _; unfold World.cell?; rw [s.block b h]
  | map b => exact s.block b h
theorem Stays.kept {W W' : World} (s : Stays W W') (may : MemPlace → Prop) : W.keptBut W' may := by
  refine ⟨s.os, s.output, fun i hi => ?_⟩
  have h1 := (World.keptBut_refl W may).2.2 i hi
  rw [s.block i hi]; exact h1

section
variable {H : Type} {enc : TypeId × Value → H} {P : Program}

theorem trodAll_stays {W W' : World} (s : Stays W W') {sp : Nat → Bool} {hd : Bool} : ∀ {ts : List TypeId} {vs : List Value} {ds : List (DataW H)} {ps : List MemPlace},
    DataW.TrodAll enc P W 0 sp hd ts vs ds ps → (∀ p ∈ ps, p.block < W.heap.size) → DataW.TrodAll enc P W' 0 sp hd ts vs ds ps
  | [], [], [], _, h, _ => h
  | _ :: _, _ :: _, _ :: _, _, ⟨p, q, ⟨n, hn⟩, h2, e⟩, hs => by
    subst e
    exact ⟨p, q, ⟨n, DataW.trod_carry n _ _ _ hn fun x hx => s.sameAt (hs x (List.mem_append_left _ hx))⟩, trodAll_stays s h2 (fun x hx => hs x (List.mem_append_right _ hx)), rfl⟩
theorem law_post {f : Func} {s : ChangeSpec} {apart fresh handsOn again : Bool} {W W' : World} {args : Array Value} {ds gs : List (DataW H)} {before : List MemPlace} {tb : TypeId}
    (K : Kids P (· < P.types.size)) (hz : ∀ t e, t < P.types.size → P.underlying t = some (.slice e) → 0 < P.cellsOf e) (hts : ∀ t ∈ f.params.toList, t < P.types.size)
    (hvars : s.vars = []) (hfn : s.fn H (ds ++ []) = { results := [.lit (.bool true)], args := ds }) (hres : f.resultTypes = #[tb]) (htb : P.underlying tb = some .bool)
    (hW : DataW.Whole enc P f.params.toList s.vars apart W args.toList ds gs before) (k : Stays W W') : s.post enc P f apart fresh handsOn again W args (.bool true) W' := by
  have hlt := hW.lt
  have hW' := hW
  obtain ⟨p, q, hA, hV, he, hz1, hnd⟩ := hW'
  rw [hvars] at hV
  obtain ⟨hg, hq⟩ : gs = [] ∧ q = [] := by
    cases gs with
    | nil => exact ⟨rfl, hV⟩
    | cons g gs => exact hV.elim
  subst hg; subst hq
  rw [List.append_nil] at he
  subst he
  have hread : ∀ sp : Nat → Bool, (∀ x ∈ before, sp x.block = true) → DataW.TrodAll enc P W' 0 sp true f.params.toList args.toList ds before :=
    fun sp hsp => trodAll_stays k (DataW.TrodAll.respare K hz hts hA hsp) hlt
  have hb : ∀ (b : Nat) (sp : Nat → Bool) (hd : Bool), DataW.TrodAll enc P W' b sp hd [tb] [Value.bool true] [DataW.lit (.bool true)] [] := by
    intro b sp hd
    refine ⟨[], [], ⟨1, ?_⟩, rfl, rfl⟩
    show DataW.trod enc P W' b sp hd 1 tb [Value.bool true] = _
    rw [DataW.trod_step]; unfold DataW.trodStep; rw [htb]
  have hvr : ∀ sp, DataW.TrodVars enc P W' sp s.vars ([] : List (DataW H)) [] := by intro sp; rw [hvars]; rfl
  have hres2 : f.resultTypes.size = 1 := by rw [hres]; rfl
  have hlist : f.resultTypes.toList = [tb] := by rw [hres]
  have hrl : (Value.bool true).resultList f.resultTypes.size = [Value.bool true] := by rw [hres2]; rfl
  have hold : ∀ x ∈ before, (fun b => decide (b < W.heap.size)) x.block = true := fun x hx => decide_eq_true (hlt x hx)
  unfold ChangeSpec.post
  rw [hrl, hlist]
  refine ⟨ds, [], before, [], before, [], by rw [hvars] at hW ⊢; exact hW, ?_, ?_, ?_, ?_, fun _ => ⟨?_, ?_⟩⟩
  · rw [hfn]; exact hb _ _ _
  · rw [hfn]; exact hread _ hold
  · rw [hfn]; exact hvr _
  · exact World.keptBut_mono (fun x hx => ⟨hx, .inr (.inl hx)⟩) (k.kept (· ∈ before))
  · intro j t r ht hr
    rw [hres] at ht
    cases j with
    | succ j => simp at ht
    | zero =>
      simp only [List.getElem?_toArray, List.getElem?_cons_zero, Option.some.injEq] at ht hr
      subst ht; subst hr
      exact okWide_bool_mk htb _
  · refine ⟨[DataW.lit (.bool true)] ++ ds, [], [] ++ before, ⟨[] ++ before, [], ?_, hvr _, (List.append_nil _).symm, ?_, ?_⟩, ?_⟩
    · exact ⟨[], before, ⟨1, by show DataW.trod enc P W' 0 _ _ 1 tb [Value.bool true] = _; rw [DataW.trod_step]; unfold DataW.trodStep; rw [htb]⟩, hread _ (fun _ _ => rfl), rfl⟩
    · intro b off hp
      have hp' : MemPlace.cell b off ∈ before := by simpa using hp
      rw [k.frozen (a := ⟨b, off, none⟩) (hlt _ hp')]
      exact hz1 b off hp'
    · intro ha
      have := hnd ha
      simpa using this
    · intro x hx _
      simpa using hx

/-! Values of flat types. -/

inductive Kd
  | b
  | i (k : IntKind)
  | s
def Kd.ok : Kd → Value → Prop
  | .b, v => ∃ x, v = .bool x
  | .i k, v => ∃ n, v = .int k n ∧ k.min ≤ n ∧ n ≤ k.max
  | .s, v => ∃ x : ByteArray, v = .string x ∧ x.size ≤ maxLen
def Fits : List Kd → List Value → Prop
  | [], [] => True
  | k :: ks, v :: vs => k.ok v ∧ Fits ks vs
  | _, _ => False
def rowK (P : Program) (g : TypeId → Option (List Kd)) : Nat → List Field → Option (List Kd)
  | _, [] => some []
  | o, f :: fs =>
    match g f.type, rowK P g (o + P.cellsOf f.type) fs with
    | some ks, some r => if f.offset = o ∧ ks.length = P.cellsOf f.type then some (ks ++ r) else none
    | _, _ => none
def flatK (P : Program) : Nat → TypeId → Option (List Kd)
  | 0, _ => none
  | n + 1, t =>
    match P.underlying t with
    | some .bool => some [.b]
    | some (.int k) => some [.i k]
    | some .string => some [.s]
    | some (.struct fs) =>
      match rowK P (flatK P n) 0 fs.toList with
      | some ks => if ks.length = P.cellsOf t then some ks else none
      | none => none
    | some (.array m e) =>
      match flatK P n e with
      | some ks => if ks.length = P.cellsOf e ∧ m * P.cellsOf e = P.cellsOf t then some (List.replicate m ks).flatten else none
      | none => none
    | _ => none

theorem Fits.len : ∀ {ks : List Kd} {vs : List Value}, Fits ks vs → vs.length = ks.length
  | [], [], _ => rfl
  | _ :: _, _ :: _, h => by simp [h.2.len]
  | [], _ :: _, h => h.elim
  | _ :: _, [], h => h.elim
theorem Fits.append : ∀ {ks : List Kd} {vs : List Value} {ls : List Kd} {us : List Value}, Fits ks vs → Fits ls us → Fits (ks ++ ls) (vs ++ us)
  | [], [], _, _, _, k => k
  | _ :: _, _ :: _, _, _, h, k => ⟨h.1, h.2.append k⟩
  | [], _ :: _, _, _, h, _ => h.elim
  | _ :: _, [], _, _, h, _ => h.elim

variable {w : World} {base : Nat} {spare : Nat → Bool} {held : Bool}

theorem row_fits {g : TypeId → Option (List Kd)} {r : TypeId → List Value → Option (DataW H × List MemPlace)} (hg : ∀ t ks cs x, g t = some ks → r t cs = some x → Fits ks cs) :
    ∀ (fs : List Field) (o : Nat) (ks : List Kd) (cs : List Value) (xs : List (DataW H × List MemPlace)), rowK P g o fs = some ks → (fs.mapM fun f => r f.type ((cs.drop f.offset).take (P.cellsOf f.type))) = some xs → Fits ks ((cs.drop o).take ks.length)
  | [], o, ks, cs, xs, h, _ => by
    simp only [rowK, Option.some.injEq] at h
    subst h; simp [Fits]
  | f :: fs, o, ks, cs, xs, h, hx => by
    unfold rowK at h
    split at h
    · rename_i k1 k2 e1 e2
      split at h
      · rename_i hc
        simp only [Option.some.injEq] at h
        subst h
        rw [List.mapM_cons] at hx
        cases ha : r f.type ((cs.drop f.offset).take (P.cellsOf f.type)) with
        | none => simp [ha] at hx
        | some y =>
          cases hb : fs.mapM (fun f => r f.type ((cs.drop f.offset).take (P.cellsOf f.type))) with
          | none => simp [ha, hb] at hx
          | some ys =>
            have f1 := hg _ _ _ _ e1 ha
            have f2 := row_fits hg fs _ _ cs ys e2 hb
            rw [hc.1] at f1
            have e : (cs.drop o).take (k1 ++ k2).length = (cs.drop o).take (P.cellsOf f.type) ++ ((cs.drop (o + P.cellsOf f.type)).take k2.length) := by
              rw [List.length_append, hc.2, List.take_add, List.drop_drop]
            rw [e]
            exact f1.append f2
      · simp at h
    · simp at h

theorem arr_fits {ks : List Kd} {sz : Nat} {r : List Value → Option (DataW H × List MemPlace)} (hk : ks.length = sz) (hg : ∀ cs x, r cs = some x → Fits ks cs) :
    ∀ (m o : Nat) (cs : List Value) (xs : List (DataW H × List MemPlace)), ((List.range m).mapM fun i => r ((cs.drop ((o + i) * sz)).take sz)) = some xs → Fits (List.replicate m ks).flatten ((cs.drop (o * sz)).take (m * sz))
  | 0, o, cs, xs, _ => by simp [Fits]
  | m + 1, o, cs, xs, h => by
    rw [List.range_succ_eq_map, List.mapM_cons] at h
    simp only [Nat.add_zero] at h
    cases ha : r ((cs.drop (o * sz)).take sz) with
    | none => simp [ha] at h
    | some y =>
      cases hb : ((List.range m).map Nat.succ).mapM (fun i => r ((cs.drop ((o + i) * sz)).take sz)) with
      | none => simp [ha, hb] at h
      | some ys =>
        have f1 := hg _ _ ha
        have hb' : ((List.range m).mapM fun i => r ((cs.drop ((o + 1 + i) * sz)).take sz)) = some ys := by
          rw [List.mapM_map] at hb
          rw [← hb]
          congr 1
          funext i
          show _ = r ((cs.drop ((o + (i + 1)) * sz)).take sz)
          rw [show o + 1 + i = o + (i + 1) by omega]
        have f2 := arr_fits hk hg m (o + 1) cs ys hb'
        have e : (cs.drop (o * sz)).take ((m + 1) * sz) = (cs.drop (o * sz)).take sz ++ (cs.drop ((o + 1) * sz)).take (m * sz) := by
          rw [show (m + 1) * sz = sz + m * sz by rw [Nat.succ_mul]; omega, List.take_add, List.drop_drop, show o * sz + sz = (o + 1) * sz by rw [Nat.succ_mul]]
        rw [e, List.replicate_succ, List.flatten_cons]
        exact f1.append f2

theorem flat_of : ∀ (n : Nat) (t : TypeId) (ks : List Kd) (fuel : Nat) (cs : List Value) (x : DataW H × List MemPlace), flatK P n t = some ks → DataW.trod enc P w base spare held fuel t cs = some x → Fits ks cs
  | 0, _, _, _, _, _, h, _ => by simp [flatK] at h
  | _ + 1, _, _, 0, _, _, _, h => by simp [DataW.trod] at h
  | n + 1, t, ks, fuel + 1, cs, x, h, hx => by
    rw [DataW.trod_step] at hx
    unfold flatK at h
    unfold DataW.trodStep at hx
    cases hu : P.underlying t with
    | none => rw [hu] at h; simp at h
    | some ty =>
      rw [hu] at h hx
      cases ty with
      | bool =>
        simp only [Option.some.injEq] at h
        subst h
        split at hx <;> simp_all [Fits, Kd.ok]
      | int k =>
        simp only [Option.some.injEq] at h
        subst h
        split at hx <;> simp_all [Fits, Kd.ok, Lit.wf]
      | string =>
        simp only [Option.some.injEq] at h
        subst h
        split at hx <;> simp_all [Fits, Kd.ok]
      | struct fs =>
        simp only at h
        cases hr : rowK P (flatK P n) 0 fs.toList with
        | none => rw [hr] at h; simp at h
        | some k1 =>
          rw [hr] at h
          simp only at h
          split at h
          · rename_i hl
            simp only [Option.some.injEq] at h
            subst h
            simp only at hx
            split at hx
            · rename_i hcl
              rw [Option.map_eq_some_iff] at hx
              obtain ⟨xs, hxs, _⟩ := hx
              have := row_fits (P := P) (fun t ks cs x => flat_of n t ks fuel cs x) fs.toList 0 k1 cs xs hr hxs
              rw [List.drop_zero, List.take_of_length_le (by omega)] at this
              exact this
            · simp at hx
          · simp at h
      | array m e =>
        simp only at h
        cases hr : flatK P n e with
        | none => rw [hr] at h; simp at h
        | some k1 =>
          rw [hr] at h
          simp only at h
          split at h
          · rename_i hl
            simp only [Option.some.injEq] at h
            subst h
            simp only at hx
            split at hx
            · rename_i hcl
              rw [Option.map_eq_some_iff] at hx
              obtain ⟨xs, hxs, _⟩ := hx
              have := arr_fits (r := fun cs => DataW.trod enc P w base spare held fuel e cs) hl.1 (fun cs x hx => flat_of n e k1 fuel cs x hr hx) m 0 cs xs (by simpa using hxs)
              rw [Nat.zero_mul, List.drop_zero, List.take_of_length_le (by omega)] at this
              exact this
            · simp at hx
          · simp at h
      | _ => simp at h
end
end Go.AX

namespace Go.AX
set_option linter.unusedVariables false
set_option linter.unusedSimpArgs false
open Go Go.ChangeShapes Go.RowKit Go.WideShapes Go.Deep

theorem Fits.cons {k : Kd} {ks : List Kd} {cs : List Value} (h : Fits (k :: ks) cs) : ∃ v vs, cs = v :: vs ∧ k.ok v ∧ Fits ks vs := by
  cases cs with
  | nil => exact h.elim
  | cons v vs => exact ⟨v, vs, rfl, h.1, h.2⟩
theorem Fits.nil {cs : List Value} (h : Fits [] cs) : cs = [] := by
  cases cs with
  | nil => rfl
  | cons v vs => exact h.elim
theorem Kd.rep {E : Go.AX.Env} {k : Kd} {v : Value} (h : k.ok v) : Rep E v v := by
  cases k with
  | b => obtain ⟨x, rfl⟩ := h; exact .bool _
  | i k => obtain ⟨x, rfl, _⟩ := h; exact .int _ _
  | s => obtain ⟨x, rfl, _⟩ := h; exact .str _
theorem Fits.rep {E : Go.AX.Env} : ∀ {ks : List Kd} {cs : List Value}, Fits ks cs → RepL E cs cs
  | [], [], _ => .nil
  | _ :: _, _ :: _, h => .cons _ _ _ _ (Kd.rep h.1) h.2.rep
  | [], _ :: _, h => h.elim
  | _ :: _, [], h => h.elim

theorem okWide_struct {P : Program} {W : World} {r : Reach} {b : Nat} {t : TypeId} {v : Value} {fs : Array Field} (ht : P.underlying t = some (.struct fs)) (h : Value.okWide P W r b t v) : ∃ cs : List Value, v = .agg ⟨cs⟩ := by
  unfold Value.okWide at h
  rw [ht] at h
  obtain ⟨⟨cs⟩, e, _⟩ := h
  exact ⟨cs, e⟩

theorem okWide_cells {P : Program} {W : World} {r : Reach} {b : Nat} {t e : TypeId} {v : Value} (ht : P.underlying t = some (.slice e)) (h : Value.okWide P W r b t v) : v.cells = #[v] := by
  cases v with
  | agg cs =>
    unfold Value.okWide at h
    rw [ht] at h
    simp only [Cell.okWide, ht, Cell.ok] at h
  | _ => rfl

section
variable {H : Type} {enc : TypeId × Value → H} {P : Program} {w : World} {base : Nat} {spare : Nat → Bool} {held : Bool}

theorem encs_length {A : Type} {en : A → List Value} {sz : Nat} (hen : ∀ a, (en a).length = sz) : ∀ l : List A, (encs en l).length = l.length * sz
  | [] => by simp [encs]
  | a :: l => by
    show (en a ++ encs en l).length = (l.length + 1) * sz
    rw [List.length_append, hen, encs_length hen l, Nat.succ_mul]; omega
theorem open_lent {A : Type} [Inhabited A] {en : A → List Value} {OK : A → Prop} {t e : TypeId} {sz n : Nat} {ks : List Kd} {v : Value} {fuel : Nat} {x : DataW H × List MemPlace} (ht : P.underlying t = some (.slice e)) (hfk : flatK P n e = some ks) (hsz : P.cellsOf e = sz) (hpos : 0 < sz)
    (mk : ∀ cs, Fits ks cs → ∃ a : A, cs = en a ∧ OK a) (hen : ∀ a, (en a).length = sz) (h : DataW.trod enc P w base (fun _ => true) held fuel t v.cells.toList = some x) (hv : v.cells = #[v]) :
    ∃ (l : List A) (E : Go.AX.Env), Go.AX.Good E [.ro (encs en l) sz] w ∧ Rep E (.slice (some ⟨0, 0, none⟩) l.length UNR) v ∧ (∀ a ∈ l, OK a) ∧ l.length ≤ maxLen := by
  rw [hv] at h
  rcases open_slice ht h with ⟨e0, _⟩ | ⟨a, len, cap, m, q, D, Pl, e0, hb, hl, hm, hmm, _, hx⟩
  · have e1 : v = .slice none 0 0 := by simpa using e0
    subst e1
    refine ⟨[], ⟨1, fun _ => 0, fun _ => 0, fun _ => 0, fun _ => sz⟩, ⟨rfl, ?_, ?_⟩, .slR 0 0 0 0 none (Nat.lt_succ_self 0) (fun h => absurd h (Nat.lt_irrefl 0)) (Nat.le_refl 0), fun a ha => by simp at ha, Nat.zero_le _⟩
    · intro i o hi
      cases i with
      | zero =>
        simp only [List.getElem?_cons_zero, Option.some.injEq] at hi
        subst hi
        exact ⟨rfl, fun k v hk => by simp [encs] at hk⟩
      | succ i => simp at hi
    · intro i j o u hi hj _ _ hne
      cases i <;> cases j <;> simp_all
  · have e1 : v = .slice (some a) len cap := by simpa using e0
    subst e1
    have hlm : len ≤ m := by rw [hmm]; split <;> omega
    obtain ⟨A0, hA⟩ := choose_lt (α := A) (n := len) (p := fun i y => w.cells? base (a.add (i * sz)) sz = some (en y) ∧ OK y) (fun i hi => by
      obtain ⟨cs, h1, h2⟩ := hx i (by omega)
      obtain ⟨y, rfl, hy⟩ := mk cs (flat_of n e ks q cs _ hfk h2)
      rw [hsz] at h1
      exact ⟨y, h1, hy⟩)
    have hget : ∀ (i : Nat) (y : A), ((List.range len).map A0)[i]? = some y → i < len ∧ y = A0 i := by
      intro i y hi
      obtain ⟨hlt, he⟩ := List.getElem?_eq_some_iff.1 hi
      simp at hlt he
      exact ⟨hlt, he.symm⟩
    have hcell : ∀ (k : Nat) (u : Value), (encs en ((List.range len).map A0))[k]? = some u → w.cell? ⟨a.block, a.off + k, none⟩ = some u ∧ u ∈ en (A0 (k / sz)) ∧ a.spot = none := by
      intro k u hk
      have hkl : k < len * sz := by
        have := (List.getElem?_eq_some_iff.1 hk).1
        have hlen := encs_length hen ((List.range len).map A0)
        rw [List.length_map, List.length_range] at hlen
        omega
      have hi : k / sz < len := Nat.div_lt_of_lt_mul (by rw [Nat.mul_comm]; exact hkl)
      have hy : ((List.range len).map A0)[k / sz]? = some (A0 (k / sz)) := by simp [hi]
      have hp := encs_part hen hy
      have hmod : k % sz < sz := Nat.mod_lt _ hpos
      have hku : (en (A0 (k / sz)))[k % sz]? = some u := by
        rw [← hp, List.getElem?_take, if_pos hmod, List.getElem?_drop, Nat.div_add_mod]
        exact hk
      obtain ⟨h1, _⟩ := hA (k / sz) hi
      obtain ⟨_, _, hc⟩ := World.cells?_some h1
      have hcc := hc (k % sz) hmod
      rw [hku, add_add] at hcc
      have hcc' : w.cell? (a.add (k / sz * sz + k % sz)) = some u := hcc
      rw [show k / sz * sz + k % sz = k by rw [Nat.mul_comm]; exact Nat.div_add_mod k sz] at hcc'
      have hspot : (a.add k).spot = none := by
        cases hs : (a.add k).spot with
        | none => rfl
        | some s =>
          unfold World.cell? at hcc'
          split at hcc'
          · rw [hs] at hcc'; simp at hcc'
          · simp at hcc'
      obtain ⟨ab, ao, as⟩ := a
      have : (Addr.add ⟨ab, ao, as⟩ k) = ⟨ab, ao + k, none⟩ ∧ as = none := by
        unfold Addr.add at hspot ⊢
        split
        · rename_i h0
          rw [if_pos h0] at hspot
          simp only at hspot
          subst hspot; subst h0; exact ⟨rfl, rfl⟩
        · rename_i h0
          rw [if_neg h0] at hspot
          refine ⟨rfl, ?_⟩
          have hfirst := hA 0 (Nat.lt_of_le_of_lt (Nat.zero_le _) hi)
          obtain ⟨_, _, hc0⟩ := World.cells?_some hfirst.1
          have h00 := hc0 0 hpos
          rw [Nat.zero_mul] at h00
          have ha0 : ((Addr.mk ab ao as).add 0).add 0 = ⟨ab, ao, as⟩ := by simp [Addr.add]
          rw [ha0] at h00
          cases as with
          | none => rfl
          | some s =>
            have hne : (en (A0 0))[0]? ≠ none := by
              rw [ne_eq, List.getElem?_eq_none_iff, hen]; omega
            exfalso
            apply hne
            rw [← h00]
            unfold World.cell?
            split <;> simp
      refine ⟨by rw [← this.1]; exact hcc', List.mem_of_getElem? hku, this.2⟩
    have hok : ∀ y ∈ (List.range len).map A0, OK y := by
      intro y hy
      obtain ⟨i, hi, rfl⟩ := List.mem_map.1 hy
      exact (hA i (List.mem_range.1 hi)).2
    have hlen : ((List.range len).map A0).length = len := by simp
    refine ⟨(List.range len).map A0, ⟨1, fun _ => a.block, fun _ => a.off, fun _ => 0, fun _ => sz⟩, ⟨rfl, ?_, ?_⟩, ?_, hok, by rw [hlen]; omega⟩
    · intro i o hi
      cases i with
      | zero =>
        simp only [List.getElem?_cons_zero, Option.some.injEq] at hi
        subst hi
        refine ⟨rfl, fun k u hk => ⟨u, (hcell k u hk).1, ?_⟩⟩
        have hm := (hcell k u hk).2.1
        obtain ⟨i, hi⟩ := List.getElem?_of_mem hm
        have hkl : k / sz < len := by
          have := (List.getElem?_eq_some_iff.1 hk).1
          have hl2 := encs_length hen ((List.range len).map A0)
          rw [List.length_map, List.length_range] at hl2
          exact Nat.div_lt_of_lt_mul (by rw [Nat.mul_comm]; omega)
        obtain ⟨cs, h1, h2⟩ := hx (k / sz) (by omega)
        rw [hsz] at h1
        have hf := flat_of n e ks q cs _ hfk h2
        rw [(hA (k / sz) hkl).1] at h1
        simp only [Option.some.injEq] at h1
        rw [← h1] at hf
        obtain ⟨v', hv', hr⟩ := (Fits.rep (E := ⟨1, fun _ => a.block, fun _ => a.off, fun _ => 0, fun _ => sz⟩) hf).get hi
        rw [hi] at hv'
        simp only [Option.some.injEq] at hv'
        subst hv'
        exact hr
      | succ i => simp at hi
    · intro i j o u hi hj _ _ hne
      cases i <;> cases j <;> simp_all
    · rw [hlen]
      refine .slR 0 0 len cap (some a) (Nat.lt_succ_self 0) (fun h0 => ?_) hl
      have h1 : ∃ u, (encs en ((List.range len).map A0))[0]? = some u := by
        have hy : ((List.range len).map A0)[0]? = some (A0 0) := by simp [h0]
        have hp := encs_part hen hy
        have hne : (en (A0 0))[0]? ≠ none := by
          rw [ne_eq, List.getElem?_eq_none_iff, hen]; omega
        cases hc : (en (A0 0))[0]? with
        | none => exact absurd hc hne
        | some u =>
          refine ⟨u, ?_⟩
          rw [← hp, Nat.mul_zero, List.drop_zero, List.getElem?_take, if_pos hpos] at hc
          exact hc
      obtain ⟨u, hu⟩ := h1
      have := (hcell 0 u hu).2.2
      obtain ⟨ab, ao, as⟩ := a
      simp only at this
      subst this
      rfl
end

theorem lent_calls {P : Program} {k : FuncId} {args : List Value} {b : Bool} {vs : List Value} {sz : Nat} {h' : AHeap} (t : AEq P k args [.ro vs sz] (.bool b) h') {E : Go.AX.Env} {W : World} {args' : List Value} (g : Go.AX.Good E [.ro vs sz] W) (ra : RepL E args args') :
    Calls P k ⟨args'⟩ W fun e w' => e = .returned (.bool b) ∧ Stays W w' := by
  refine (t E W args' g ra).mono ?_
  rintro e w' ⟨v0, v', h0, F, rfl, gF, ev, rv, rfl, rfl⟩
  cases rv
  exact ⟨rfl, stays_of ev (fun o ho => by rw [List.mem_singleton.1 ho]; exact id)⟩
end Go.AX
