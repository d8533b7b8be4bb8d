/- A region whose order is open: the evaluator, and that the model does the like in whatever order. -/
import Derived.Test.YtmcepaeialgipaaCxAX14
namespace Go.AX

/-- Those temporaries alone. -/
noncomputable def Tm.only (T : Tm) (l : List Tmp) : Tm := l.foldl (fun U k => U.put k (T.get k)) { n := T.n, d := junk, t := .leaf }

/-- Whom each operation waits for, through others too: as bits. -/
def waits (pl : List Nat) (i : Nat) (o : Oper) : Nat :=
  o.after.toList.foldl (fun s e => if Region.binds .any e then (s ||| 2 ^ e.on) ||| (if e.on < i then pl.getD e.on 0 else 0) else s) 0

def waitsAll : List Oper → Nat → List Nat → List Nat
  | [], _, pl => pl
  | o :: r, i, pl => waitsAll r (i + 1) (pl ++ [waits pl i o])

def waitsOk (pl : List Nat) : List Oper → Nat → Bool
  | [], _ => true
  | o :: r, i => (pl.getD i 0 == waits pl i o) && (o.after.all fun e => !Region.binds .any e || decide (e.on < i)) && waitsOk pl r (i + 1)

/-- From t on each waits for all. -/
def forcedFrom (pl : List Nat) (n : Nat) (t : Nat) : Bool := (List.range n).all fun j => decide (j < t) || (pl.getD j 0 == 2 ^ j - 1)

def frontLen (pl : List Nat) : Nat := (pl.foldl (fun (x : Nat × Nat) b => (if b == 2 ^ x.2 - 1 then x.1 else x.2 + 1, x.2 + 1)) (0, 0)).1

def apartOk (ops : Array Oper) (pl : List Nat) : List Oper → Nat → Bool
  | [], _ => true
  | o :: r, j => ((ops.toList.take j).zipIdx.all fun (p, i) => (pl.getD j 0).testBit i || p.apart ops o) && apartOk ops pl r (j + 1)

def allowed (keep : Nat → Bool) : Nat → List AHeap → Nat → Bool
  | _, [], _ => false
  | k, s :: r, i => if i < s.length then keep k else allowed keep (k + 1) r (i - s.length)

def allowedId (base : Nat) (keep : Nat → Bool) (segs : List AHeap) (i : Nat) : Bool := decide (i < base) || allowed keep 0 segs (i - base)

def notRo : AObj → Bool
  | .ro .. => false
  | _ => true

/-- Operations that make nothing. -/
def quietOp : Op → Bool
  | .load .. | .move .. | .assign .. | .pick .. | .build .. | .nilCheck .. | .binOp .. | .unOp .. | .convert .. | .makeFunc .. | .slice .. | .fieldAddr .. | .field .. | .indexAddr .. | .index .. | .extract .. => true
  | _ => false

theorem quiet_same {P : Program} {h h' : AHeap} {ts : Tm} {hint : Hint} {op : Op} {ob : List Prop} {v : Value} (hq : quietOp op = true) (he : evOp P h ts hint op = some (ob, v, h')) : h' = h := by
  cases op <;> first | exact Bool.noConfusion hq | skip
  case load =>
    obtain ⟨x, _, h2⟩ := Option.bind_eq_some_iff.1 he
    exact (pureM_some h2).2
  case convert =>
    simp only [evOp] at he
    split at he
    · exact (pureM_some he).2
    · exact (pureM_some he).2
    · simp at he
  all_goals exact (pureM_some he).2

def eqLW (f : Value → Value → Bool) : List Value → List Value → Bool
  | [], [] => true
  | a :: l, b :: m => f a b && eqLW f l m
  | _, _ => false

/-- Are two values, of little depth, one? -/
def eqV : Nat → Value → Value → Bool
  | 0, _, _ => false
  | d + 1, a, b =>
    match a, b with
    | .bool x, .bool y => x == y
    | .int k x, .int j y => decide (k = j) && decide (x = y)
    | .string x, .string y => x.data.toList == y.data.toList
    | .pointer x, .pointer y => decide (x = y)
    | .slice x n c, .slice y m e => decide (x = y) && Nat.beq n m && Nat.beq c e
    | .map x, .map y => decide (x = y)
    | .nilFunc, .nilFunc => true
    | .nilIface, .nilIface => true
    | .iface t x, .iface u y => Nat.beq t u && eqV d x y
    | .agg ⟨x⟩, .agg ⟨y⟩ => eqLW (eqV d) x y
    | .tuple ⟨x⟩, .tuple ⟨y⟩ => eqLW (eqV d) x y
    | .func (.func k) ⟨f⟩ ⟨c⟩, .func (.func j) ⟨f'⟩ ⟨c'⟩ => Nat.beq k j && eqLW (eqV d) f f' && eqLW (eqV d) c c'
    | _, _ => false

def eqM : List (Value × Value) → List (Value × Value) → Bool
  | [], [] => true
  | a :: l, b :: m => eqV 6 a.1 b.1 && eqV 6 a.2 b.2 && eqM l m
  | _, _ => false

def eqO : AObj → AObj → Bool
  | .cells a e s, .cells b f r => Nat.beq e f && Nat.beq s r && eqLW (eqV 6) a b
  | .row a e s, .row b f r => Nat.beq e f && Nat.beq s r && eqLW (eqV 6) a b
  | .ro a s, .ro b r => Nat.beq s r && eqLW (eqV 6) a b
  | .mp a, .mp b => eqM a b
  | .gone, .gone => true
  | _, _ => false

def eqH : AHeap → AHeap → Bool
  | [], [] => true
  | a :: l, b :: m => eqO a b && eqH l m
  | _, _ => false

theorem eqLW_eq {f : Value → Value → Bool} (hf : ∀ a b, f a b = true → a = b) : ∀ {l m : List Value}, eqLW f l m = true → l = m
  | [], [], _ => rfl
  | [], _ :: _, h => Bool.noConfusion h
  | _ :: _, [], h => Bool.noConfusion h
  | a :: l, b :: m, h => by
    simp only [eqLW, Bool.and_eq_true] at h
    rw [hf _ _ h.1, eqLW_eq hf h.2]

theorem eqV_eq : ∀ {d : Nat} {a b : Value}, eqV d a b = true → a = b
  | 0, _, _, h => Bool.noConfusion h
  | d + 1, a, b, h => by
    have ih : ∀ a b, eqV d a b = true → a = b := fun _ _ h => eqV_eq h
    unfold eqV at h
    split at h
    · rw [eq_of_beq h]
    · simp only [Bool.and_eq_true, decide_eq_true_eq] at h; rw [h.1, h.2]
    · rename_i x y
      obtain ⟨⟨x⟩⟩ := x; obtain ⟨⟨y⟩⟩ := y
      have : x = y := eq_of_beq h
      rw [this]
    · rw [of_decide_eq_true h]
    · simp only [Bool.and_eq_true, decide_eq_true_eq] at h
      rw [h.1.1, Nat.eq_of_beq_eq_true h.1.2, Nat.eq_of_beq_eq_true h.2]
    · rw [of_decide_eq_true h]
    · rfl
    · rfl
    · simp only [Bool.and_eq_true] at h
      rw [Nat.eq_of_beq_eq_true h.1, ih _ _ h.2]
    · rw [eqLW_eq ih h]
    · rw [eqLW_eq ih h]
    · simp only [Bool.and_eq_true] at h
      rw [Nat.eq_of_beq_eq_true h.1.1, eqLW_eq ih h.1.2, eqLW_eq ih h.2]
    · exact Bool.noConfusion h

theorem eqM_eq : ∀ {l m : List (Value × Value)}, eqM l m = true → l = m
  | [], [], _ => rfl
  | [], _ :: _, h => Bool.noConfusion h
  | _ :: _, [], h => Bool.noConfusion h
  | (a, a') :: l, (b, b') :: m, h => by
    simp only [eqM, Bool.and_eq_true] at h
    have h1 : a = b := eqV_eq h.1.1
    have h2 : a' = b' := eqV_eq h.1.2
    rw [h1, h2, eqM_eq h.2]

theorem eqO_eq {a b : AObj} (h : eqO a b = true) : a = b := by
  have ih : ∀ a b, eqV 6 a b = true → a = b := fun _ _ h => eqV_eq h
  unfold eqO at h
  split at h
  · simp only [Bool.and_eq_true] at h; rw [Nat.eq_of_beq_eq_true h.1.1, Nat.eq_of_beq_eq_true h.1.2, eqLW_eq ih h.2]
  · simp only [Bool.and_eq_true] at h; rw [Nat.eq_of_beq_eq_true h.1.1, Nat.eq_of_beq_eq_true h.1.2, eqLW_eq ih h.2]
  · simp only [Bool.and_eq_true] at h; rw [Nat.eq_of_beq_eq_true h.1, eqLW_eq ih h.2]
  · rw [eqM_eq h]
  · rfl
  · exact Bool.noConfusion h

theorem eqH_eq : ∀ {l m : AHeap}, eqH l m = true → l = m
  | [], [], _ => rfl
  | [], _ :: _, h => Bool.noConfusion h
  | _ :: _, [], h => Bool.noConfusion h
  | a :: l, b :: m, h => by
    simp only [eqH, Bool.and_eq_true] at h
    rw [eqO_eq h.1, eqH_eq h.2]

/-- Two heaps are one: reckoned, or owed where the script says so. -/
def sameObs (told : Bool) (x y : AHeap) : List Prop :=
  match told with
  | true => [x = y]
  | false => bs [eqH x y]

theorem sameObs_eq {t : Bool} {x y : AHeap} (h : AllP (sameObs t x y)) : x = y := by
  cases t with
  | true => exact h.1
  | false => exact eqH_eq (bs_all h).1

def heapTold : Script → Bool × Script
  | .heap :: s => (true, s)
  | s => (false, s)

/-- A quiet operation of the front: nothing is owed of the heap. -/
noncomputable def evQuiet (P : Program) (h : AHeap) (ts : Tm) (scr : Script) (o : Oper) : Option (List Prop × Value × Script) :=
  match evIs o.dst (evHinted P h ts scr o) with
  | some (ob, v, _, s) => some (ob, v, s)
  | none => none

noncomputable def evFrontOne (P : Program) (ev : Nat → Code → Tm → AHeap → Script → Res) (ops : Array Oper) (pl : List Nat) (H0 : AHeap) (o : Oper)
    (next : Nat → Tm → List AHeap → Script → Option (List Prop × List FStep × Tm × Script)) (j : Nat) (ts : Tm) (segs : List AHeap) (scr : Script) : Option (List Prop × List FStep × Tm × Script) :=
  match evGuard ops (ts.only (o.looksAt ops)) scr o.guard with
  | none => none
  | some (ob, false, _, scr1) =>
    match next (j + 1) (putD ts o.dst undef) (segs ++ [[]]) scr1 with
    | some (ob2, st, r) => some (ob ++ ob2, ⟨o, false, undef, []⟩ :: st, r)
    | none => none
  | some (ob, true, ts1, scr1) =>
    match quietOp o.op with
    | true =>
      match evQuiet P (H0 ++ maskSegs (fun k => (pl.getD j 0).testBit k) 0 segs) ts1 scr1 o with
      | some (ob1, v, scr2) =>
        match okIds (allowedId H0.length (fun k => Nat.beq k j || (pl.getD j 0).testBit k) (segs ++ [[]])) v with
        | true =>
          match next (j + 1) (putD ts o.dst v) (segs ++ [[]]) scr2 with
          | some (ob2, st, r) => some (ob ++ (ob1 ++ ob2), ⟨o, true, v, []⟩ :: st, r)
          | none => none
        | false => none
      | none => none
    | false =>
    match evAny P ev (H0 ++ maskSegs (fun k => (pl.getD j 0).testBit k) 0 segs) ts1 scr1 o with
    | some (ob1, v, h1, scr2) =>
      match next (j + 1) (putD ts o.dst v) (segs ++ [ldrop h1 (H0 ++ maskSegs (fun k => (pl.getD j 0).testBit k) 0 segs).length]) (heapTold scr2).2 with
      | some (ob2, st, r) =>
        some (ob ++ (ob1 ++ ((sameObs (heapTold scr2).1 (h1.take (H0 ++ maskSegs (fun k => (pl.getD j 0).testBit k) 0 segs).length) (H0 ++ maskSegs (fun k => (pl.getD j 0).testBit k) 0 segs) ++
          bs [okIds (allowedId H0.length (fun k => Nat.beq k j || (pl.getD j 0).testBit k) (segs ++ [ldrop h1 (H0 ++ maskSegs (fun k => (pl.getD j 0).testBit k) 0 segs).length])) v,
          ((ldrop h1 (H0 ++ maskSegs (fun k => (pl.getD j 0).testBit k) 0 segs).length).all fun o => notRo o && okObj (allowedId H0.length (fun k => Nat.beq k j || (pl.getD j 0).testBit k) (segs ++ [ldrop h1 (H0 ++ maskSegs (fun k => (pl.getD j 0).testBit k) 0 segs).length])) o)]) ++ ob2)),
          ⟨o, true, v, ldrop h1 (H0 ++ maskSegs (fun k => (pl.getD j 0).testBit k) 0 segs).length⟩ :: st, r)
      | none => none
    | none => none

noncomputable def evFront (P : Program) (ev : Nat → Code → Tm → AHeap → Script → Res) (ops : Array Oper) (pl : List Nat) (H0 : AHeap) (l : List Oper) :
    Nat → Tm → List AHeap → Script → Option (List Prop × List FStep × Tm × Script) :=
  List.rec (fun _ ts _ scr => some ([], [], ts, scr)) (fun o _ ih => evFrontOne P ev ops pl H0 o ih) l

noncomputable def evDraw (P : Program) (ev : Nat → Code → Tm → AHeap → Script → Res) (ops : Array Oper) (ts : Tm) (h : AHeap) (scr : Script) : Option (List Prop × Tm × AHeap × Script) :=
  let pl := waitsAll ops.toList 0 []
  let t := frontLen pl
  if P.follows .mixedOrders && waitsOk pl ops.toList 0 && forcedFrom pl ops.toList.length t && apartOk ops pl (ops.toList.take t) 0 then
    match evFront P ev ops pl h (ops.toList.take t) 0 ts [] scr with
    | some (ob, st, ts1, scr1) => addObs ob (evOps P ev ops (ops.toList.drop t) ts1 (h ++ (st.map (·.new)).flatten) scr1)
    | none => none
  else none

section
variable {P : Program}

theorem only_rep {E : Env} {T : Tm} {l : List Tmp} {a : Array Value} (h : ∀ x, x ∈ l → Rep E (T.get x) (a.getD x undef)) (hn : T.n = a.size) (hle : T.n ≤ 4000) : RepT E (T.only l) a := by
  suffices H : ∀ (l : List Tmp) (U : Tm), (∀ x, x ∈ l → Rep E (T.get x) (a.getD x undef)) → RepT E U a → RepT E (l.foldl (fun U k => U.put k (T.get k)) U) a by
    exact H l _ h ⟨hn, hle, fun k => by show Rep E junk _; exact .junk _⟩
  intro l
  induction l with
  | nil => intro U _ hU; exact hU
  | cons x l ih =>
    intro U hx hU
    refine ih (U.put x (T.get x)) (fun y hy => hx y (List.mem_cons_of_mem _ hy)) ?_
    refine ⟨by rw [Tm.put_n]; exact hU.n, by rw [Tm.put_n]; exact hU.le, fun k => ?_⟩
    rw [Tm.get_put _ _ _ _ hU.le]
    split
    · rename_i hk
      obtain ⟨rfl, _⟩ := hk
      exact hx k (List.mem_cons_self ..)
    · exact hU.get k

theorem offs_append : ∀ (l m : List AHeap) (k : Nat), k ≤ l.length → offs (l ++ m) k = offs l k
  | _, _, 0, _ => by simp [offs]
  | [], _, k + 1, h => by simp at h
  | s :: r, m, k + 1, h => by simp only [List.cons_append, offs]; rw [offs_append r m k (by simpa using h)]

theorem allowed_spec (keep : Nat → Bool) : ∀ (k0 : Nat) (l : List AHeap) (i : Nat), allowed keep k0 l i = true → ∃ k s, keep (k0 + k) = true ∧ l[k]? = some s ∧ offs l k ≤ i ∧ i < offs l k + s.length
  | _, [], _, h => Bool.noConfusion h
  | k0, s :: r, i, h => by
    simp only [allowed] at h
    split at h
    · rename_i hi
      exact ⟨0, s, h, by simp, by simp [offs], by simp only [offs]; omega⟩
    · rename_i hi
      obtain ⟨k, s', h1, h2, h3, h4⟩ := allowed_spec keep (k0 + 1) r _ h
      exact ⟨k + 1, s', by rw [← h1]; congr 1; omega, by simpa using h2, by simp only [offs]; omega, by simp only [offs]; omega⟩

/-- What the front's evaluation shows of each operation. -/
theorem evFront_sound {ev : Nat → Code → Tm → AHeap → Script → Res} (hev : EvOk P ev) (ops : Array Oper) (pl : List Nat) (H0 : AHeap) : ∀ (l : List Oper) (j : Nat) (ts : Tm) (segs : List AHeap) (scr : Script) (ob : List Prop) (st : List FStep) (ts' : Tm) (scr' : Script),
    evFront P ev ops pl H0 l j ts segs scr = some (ob, st, ts', scr') → AllP ob → segs.length = j →
    st.length = l.length ∧ (∀ (i : Nat) (s : FStep), st[i]? = some s → l[i]? = some s.o) ∧
    ∃ T : Nat → Tm, T 0 = ts ∧ (∀ (i : Nat) (s : FStep), st[i]? = some s → T (i + 1) = putD (T i) s.o.dst s.v) ∧ T st.length = ts' ∧
      ∀ (i : Nat) (s : FStep), st[i]? = some s →
        (∀ (E : Env) (w : World) (a : Act), Good E (H0 ++ maskSegs (fun k => (pl.getD (j + i) 0).testBit k) 0 (segs ++ (st.map (·.new)).take i)) w → (∀ x, x ∈ s.o.looksAt ops → Rep E ((T i).get x) (a.tmps.getD x undef)) → (T i).n = a.tmps.size → (T i).n ≤ 4000 →
          Region.wanted s.o (yielded ops a.tmps) = s.go ∧
          (s.go = true → OpNext P E (H0 ++ maskSegs (fun k => (pl.getD (j + i) 0).testBit k) 0 (segs ++ (st.map (·.new)).take i)) w s.o a s.v ((H0 ++ maskSegs (fun k => (pl.getD (j + i) 0).testBit k) 0 (segs ++ (st.map (·.new)).take i)) ++ s.new)) ∧
          (s.go = false → s.v = undef ∧ s.new = [])) ∧
        okIds (allowedId H0.length (fun k => Nat.beq k (j + i) || (pl.getD (j + i) 0).testBit k) (segs ++ (st.map (·.new)).take (i + 1))) s.v = true ∧
        ∀ o ∈ s.new, okObj (allowedId H0.length (fun k => Nat.beq k (j + i) || (pl.getD (j + i) 0).testBit k) (segs ++ (st.map (·.new)).take (i + 1))) o = true ∧ (o.live → o.own)
  | [], j, ts, segs, scr, ob, st, ts', scr', he, ho, hj => by
    have he' : some (([] : List Prop), ([] : List FStep), ts, scr) = some (ob, st, ts', scr') := he
    simp only [Option.some.injEq, Prod.mk.injEq] at he'
    obtain ⟨_, rfl, rfl, _⟩ := he'
    exact ⟨rfl, by simp, fun _ => ts, rfl, by simp, rfl, by simp⟩
  | o :: l, j, ts, segs, scr, ob, st, ts', scr', he, ho, hj => by
    have he' : evFrontOne P ev ops pl H0 o (evFront P ev ops pl H0 l) j ts segs scr = some (ob, st, ts', scr') := he
    -- from the first step and the rest
    have join : ∀ (s0 : FStep) (st0 : List FStep) (ob2 : List Prop) (scr1 : Script), s0.o = o → st = s0 :: st0 → evFront P ev ops pl H0 l (j + 1) (putD ts o.dst s0.v) (segs ++ [s0.new]) scr1 = some (ob2, st0, ts', scr') → AllP ob2 →
        ((∀ (E : Env) (w : World) (a : Act), Good E (H0 ++ maskSegs (fun k => (pl.getD j 0).testBit k) 0 segs) w → (∀ x, x ∈ o.looksAt ops → Rep E (ts.get x) (a.tmps.getD x undef)) → ts.n = a.tmps.size → ts.n ≤ 4000 →
          Region.wanted o (yielded ops a.tmps) = s0.go ∧
          (s0.go = true → OpNext P E (H0 ++ maskSegs (fun k => (pl.getD j 0).testBit k) 0 segs) w o a s0.v ((H0 ++ maskSegs (fun k => (pl.getD j 0).testBit k) 0 segs) ++ s0.new)) ∧
          (s0.go = false → s0.v = undef ∧ s0.new = [])) ∧
        okIds (allowedId H0.length (fun k => Nat.beq k j || (pl.getD j 0).testBit k) (segs ++ [s0.new])) s0.v = true ∧
        ∀ o ∈ s0.new, okObj (allowedId H0.length (fun k => Nat.beq k j || (pl.getD j 0).testBit k) (segs ++ [s0.new])) o = true ∧ (o.live → o.own)) →
        st.length = (o :: l).length ∧ (∀ (i : Nat) (s : FStep), st[i]? = some s → (o :: l)[i]? = some s.o) ∧
        ∃ T : Nat → Tm, T 0 = ts ∧ (∀ (i : Nat) (s : FStep), st[i]? = some s → T (i + 1) = putD (T i) s.o.dst s.v) ∧ T st.length = ts' ∧
          ∀ (i : Nat) (s : FStep), st[i]? = some s →
            (∀ (E : Env) (w : World) (a : Act), Good E (H0 ++ maskSegs (fun k => (pl.getD (j + i) 0).testBit k) 0 (segs ++ (st.map (·.new)).take i)) w → (∀ x, x ∈ s.o.looksAt ops → Rep E ((T i).get x) (a.tmps.getD x undef)) → (T i).n = a.tmps.size → (T i).n ≤ 4000 →
              Region.wanted s.o (yielded ops a.tmps) = s.go ∧
              (s.go = true → OpNext P E (H0 ++ maskSegs (fun k => (pl.getD (j + i) 0).testBit k) 0 (segs ++ (st.map (·.new)).take i)) w s.o a s.v ((H0 ++ maskSegs (fun k => (pl.getD (j + i) 0).testBit k) 0 (segs ++ (st.map (·.new)).take i)) ++ s.new)) ∧
              (s.go = false → s.v = undef ∧ s.new = [])) ∧
            okIds (allowedId H0.length (fun k => Nat.beq k (j + i) || (pl.getD (j + i) 0).testBit k) (segs ++ (st.map (·.new)).take (i + 1))) s.v = true ∧
            ∀ o ∈ s.new, okObj (allowedId H0.length (fun k => Nat.beq k (j + i) || (pl.getD (j + i) 0).testBit k) (segs ++ (st.map (·.new)).take (i + 1))) o = true ∧ (o.live → o.own) := by
      intro s0 st0 ob2 scr1 hso hst hrest ho2 hfact
      subst hst
      obtain ⟨r1, r2, T, t0, t1, t2, t3⟩ := evFront_sound hev ops pl H0 l (j + 1) _ _ _ _ _ _ _ hrest ho2 (by simp [hj])
      refine ⟨by simp [r1], ?_, fun | 0 => ts | i + 1 => T i, rfl, ?_, t2, ?_⟩
      · intro i s hs
        cases i with
        | zero => simp only [List.getElem?_cons_zero, Option.some.injEq] at hs ⊢; subst hs; exact hso.symm
        | succ i => simp only [List.getElem?_cons_succ] at hs ⊢; exact r2 i s hs
      · intro i s hs
        cases i with
        | zero => simp only [List.getElem?_cons_zero, Option.some.injEq] at hs; subst hs; rw [hso]; exact t0
        | succ i => simp only [List.getElem?_cons_succ] at hs; exact t1 i s hs
      · intro i s hs
        cases i with
        | zero =>
          simp only [List.getElem?_cons_zero, Option.some.injEq] at hs
          subst hs
          simp only [Nat.add_zero, List.take_zero, List.append_nil, List.map_cons, List.take_succ_cons, hso]
          exact hfact
        | succ i =>
          simp only [List.getElem?_cons_succ] at hs
          have := t3 i s hs
          have e1 : ∀ m : List AHeap, (segs ++ [s0.new]) ++ m = segs ++ s0.new :: m := fun m => by simp
          simp only [e1] at this
          simp only [List.map_cons, List.take_succ_cons]
          rw [show j + (i + 1) = j + 1 + i by omega]
          exact this
    unfold evFrontOne at he'
    split at he'
    · simp at he'
    · rename_i ob0 ts1 scr1 hg
      split at he'
      · rename_i ob2 st0 r hnext
        simp only [Option.some.injEq, Prod.mk.injEq] at he'
        obtain ⟨rfl, rfl, rfl, rfl⟩ := he'
        obtain ⟨o1, o2⟩ := ho.append
        refine join ⟨o, false, undef, []⟩ st0 ob2 scr1 rfl rfl hnext o2 ⟨?_, rfl, by simp⟩
        intro E w a g hr hn hle
        obtain ⟨w1, _⟩ := evGuard_sound (only_rep hr hn hle) hg o1
        exact ⟨w1, fun h => Bool.noConfusion h, fun _ => ⟨rfl, rfl⟩⟩
      · simp at he'
    · rename_i ob0 ts1 scr1 hg
      split at he'
      · -- a quiet one
        rename_i hq
        split at he'
        · rename_i ob1 v scr2 hany
          split at he'
          · rename_i hid
            split at he'
            · rename_i ob2 st0 r hnext
              simp only [Option.some.injEq, Prod.mk.injEq] at he'
              obtain ⟨rfl, rfl, rfl, rfl⟩ := he'
              obtain ⟨o1, o2⟩ := ho.append
              obtain ⟨o3, o8⟩ := o2.append
              refine join ⟨o, true, v, []⟩ st0 ob2 scr2 rfl rfl hnext o8 ⟨?_, hid, by simp⟩
              intro E w a g hr hn hle
              obtain ⟨w1, w2⟩ := evGuard_sound (only_rep hr hn hle) hg o1
              refine ⟨w1, fun _ => ?_, fun h => Bool.noConfusion h⟩
              show OpNext P E _ w o a v _
              rw [List.append_nil]
              unfold evQuiet at hany
              split at hany
              · rename_i ob1' v' hx s' hev1
                simp only [Option.some.injEq, Prod.mk.injEq] at hany
                obtain ⟨rfl, rfl, rfl⟩ := hany
                obtain ⟨ob0', s0', h0', ho0'⟩ := evIs_some hev1 o3
                obtain ⟨hi, h1⟩ := evHinted_some h0'
                have := quiet_same hq h1
                subst this
                exact opNext_op (evOp_sound g w2 h1 ho0')
              · simp at hany
            · simp at he'
          · simp at he'
        · simp at he'
      split at he'
      · rename_i ob1 v h1 scr2 hany
        split at he'
        · rename_i ob2 st0 r hnext
          simp only [Option.some.injEq, Prod.mk.injEq] at he'
          obtain ⟨rfl, rfl, rfl, rfl⟩ := he'
          obtain ⟨o1, o2⟩ := ho.append
          obtain ⟨o3, o4⟩ := o2.append
          obtain ⟨o9, o8⟩ := o4.append
          obtain ⟨o5, o10⟩ := o9.append
          obtain ⟨o6, o7, _⟩ := bs_all o10
          replace o5 := sameObs_eq o5
          refine join ⟨o, true, v, _⟩ st0 ob2 _ rfl rfl hnext o8 ⟨?_, o6, ?_⟩
          · intro E w a g hr hn hle
            obtain ⟨w1, w2⟩ := evGuard_sound (only_rep hr hn hle) hg o1
            refine ⟨w1, fun _ => ?_, fun h => Bool.noConfusion h⟩
            have hh : h1 = (H0 ++ maskSegs (fun k => (pl.getD j 0).testBit k) 0 segs) ++ ldrop h1 (H0 ++ maskSegs (fun k => (pl.getD j 0).testBit k) 0 segs).length := by
              rw [ldrop_eq]
              conv => lhs; rw [← List.take_append_drop (H0 ++ maskSegs (fun k => (pl.getD j 0).testBit k) 0 segs).length h1]
              rw [o5]
            show OpNext P E _ w o a v _
            rw [← hh]
            exact any_next hev g w2 hany o3
          · intro ob hob
            have := List.all_eq_true.1 o7 ob hob
            simp only [Bool.and_eq_true] at this
            refine ⟨this.2, fun hl => ?_⟩
            cases ob with
            | ro => exact Bool.noConfusion this.1
            | cells => exact trivial
            | row => exact hl
            | mp => exact trivial
            | gone => exact hl.elim
        · simp at he'
      · simp at he'

theorem testBit_or_fold (pl : List Nat) (i : Nat) : ∀ (l : List Edge) (s k : Nat), (l.foldl (fun s e => if Region.binds .any e then (s ||| 2 ^ e.on) ||| (if e.on < i then pl.getD e.on 0 else 0) else s) s).testBit k = true →
    s.testBit k = true ∨ ∃ e ∈ l, Region.binds .any e = true ∧ (k = e.on ∨ (e.on < i ∧ (pl.getD e.on 0).testBit k = true))
  | [], s, k, h => .inl h
  | e :: l, s, k, h => by
    simp only [List.foldl_cons] at h
    rcases testBit_or_fold pl i l _ k h with h1 | ⟨e', h1, h2, h3⟩
    · split at h1
      · rename_i hb
        rw [Nat.testBit_or, Nat.testBit_or, Bool.or_eq_true, Bool.or_eq_true] at h1
        rcases h1 with (h1 | h1) | h1
        · exact .inl h1
        · refine .inr ⟨e, List.mem_cons_self .., hb, .inl ?_⟩
          rw [Nat.testBit_two_pow] at h1
          exact (of_decide_eq_true h1).symm
        · split at h1
          · rename_i hlt
            exact .inr ⟨e, List.mem_cons_self .., hb, .inr ⟨hlt, h1⟩⟩
          · simp at h1
      · exact .inl h1
    · exact .inr ⟨e', List.mem_cons_of_mem _ h1, h2, h3⟩

theorem waitsOk_spec (pl : List Nat) : ∀ (l : List Oper) (i0 : Nat), waitsOk pl l i0 = true → ∀ (k : Nat) (o : Oper), l[k]? = some o → pl.getD (i0 + k) 0 = waits pl (i0 + k) o ∧ ∀ e ∈ o.after, Region.binds .any e = true → e.on < i0 + k
  | [], _, _, k, o, h => by simp at h
  | p :: l, i0, hok, k, o, h => by
    simp only [waitsOk, Bool.and_eq_true, beq_iff_eq] at hok
    cases k with
    | zero =>
      simp only [List.getElem?_cons_zero, Option.some.injEq] at h
      subst h
      refine ⟨by simpa using hok.1.1, fun e he hb => ?_⟩
      have := Array.all_eq_true_iff_forall_mem.1 hok.1.2 e he
      simpa [hb] using this
    | succ k =>
      simp only [List.getElem?_cons_succ] at h
      have := waitsOk_spec pl l (i0 + 1) hok.2 k o h
      rw [show i0 + (k + 1) = i0 + 1 + k by omega]
      exact this

def Closed (ops : Array Oper) (S : Nat → Bool) : Prop := ∀ (i : Nat) (o : Oper), ops[i]? = some o → S i = true → ∀ e ∈ o.after, Region.binds .any e = true → S e.on = true

/-- Whoever is waited for has been done. -/
theorem waits_done {ops : Array Oper} {pl : List Nat} (hok : waitsOk pl ops.toList 0 = true) {S : Nat → Bool} (hc : Closed ops S) : ∀ (i : Nat) (o : Oper), ops[i]? = some o → (∀ e ∈ o.after, Region.binds .any e = true → S e.on = true) → ∀ k, (pl.getD i 0).testBit k = true → S k = true ∧ k < i := by
  intro i
  induction i using Nat.strongRecOn with
  | _ i ih =>
    intro o ho hdir k hk
    obtain ⟨h1, h2⟩ := waitsOk_spec pl ops.toList 0 hok i o (by simpa using ho)
    simp only [Nat.zero_add] at h1 h2
    rw [h1] at hk
    unfold waits at hk
    rcases testBit_or_fold pl i _ _ k hk with h | ⟨e, q1, q2, q3⟩
    · simp at h
    · have he : e ∈ o.after := by simpa using q1
      have hlt := h2 e he q2
      rcases q3 with rfl | ⟨q3, q4⟩
      · exact ⟨hdir e he q2, hlt⟩
      · have hel : e.on < ops.size := Nat.lt_trans hlt (Array.getElem?_eq_some_iff.1 ho).1
        have := ih e.on hlt ops[e.on] (Array.getElem?_eq_getElem hel) (hc e.on _ (Array.getElem?_eq_getElem hel) (hdir e he q2)) k q4
        exact ⟨this.1, by omega⟩

theorem apartOk_spec (ops : Array Oper) (pl : List Nat) : ∀ (l : List Oper) (j0 : Nat), apartOk ops pl l j0 = true → ∀ (q : Nat) (o : Oper), l[q]? = some o → ∀ (i : Nat) (p : Oper), i < j0 + q → ops[i]? = some p → (pl.getD (j0 + q) 0).testBit i = true ∨ p.apart ops o = true
  | [], _, _, q, o, h, _, _, _, _ => by simp at h
  | x :: l, j0, hok, q, o, h, i, p, hi, hp => by
    simp only [apartOk, Bool.and_eq_true] at hok
    cases q with
    | zero =>
      simp only [List.getElem?_cons_zero, Option.some.injEq] at h
      subst h
      have hm : (p, i) ∈ (ops.toList.take j0).zipIdx := by
        rw [List.mem_zipIdx_iff_getElem?]
        simp only [List.getElem?_take]
        rw [if_pos (by omega)]
        simpa using hp
      have := List.all_eq_true.1 hok.1 _ hm
      simpa using this
    | succ q =>
      simp only [List.getElem?_cons_succ] at h
      have := apartOk_spec ops pl l (j0 + 1) hok.2 q o h i p (by omega) hp
      rw [show j0 + (q + 1) = j0 + 1 + q by omega]
      exact this

end
end Go.AX
