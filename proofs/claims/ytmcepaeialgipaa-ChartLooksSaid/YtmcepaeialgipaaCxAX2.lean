/- Operations that leave the heap alone: what they give on abstract values, what they owe, and that the model's own operations give the like. -/
import Derived.Test.YtmcepaeialgipaaCxAX1
namespace Go.AX

def okCell : Value → Bool
  | .bool _ | .int .. | .float .. | .string _ | .pointer none | .map none | .nilFunc | .nilIface | .slice none 0 0 | .func _ ⟨[]⟩ ⟨[]⟩ => true
  | _ => false

def okConst : Value → Bool
  | .agg ⟨l⟩ => l.all okCell
  | .tuple ⟨l⟩ => l.all okCell
  | v => okCell v

theorem rep_okCell {E : Env} : ∀ {v : Value}, okCell v = true → Rep E v v := by
  intro v h
  unfold okCell at h
  split at h
  case h_10 => exact .func _ [] [] [] [] .nil .nil
  case h_11 => simp at h
  all_goals constructor

theorem repL_okCell {E : Env} : ∀ {l : List Value}, l.all okCell = true → RepL E l l
  | [], _ => .nil
  | v :: l, h => by
    simp only [List.all_cons, Bool.and_eq_true] at h
    exact .cons _ _ _ _ (rep_okCell h.1) (repL_okCell h.2)

theorem rep_okConst {E : Env} {v : Value} (h : okConst v = true) : Rep E v v := by
  unfold okConst at h
  split at h
  · exact .agg _ _ (repL_okCell h)
  · exact .tuple _ _ (repL_okCell h)
  · exact rep_okCell h

theorem rep_undef (E : Env) : Rep E undef undef := .tuple [] [] .nil

/-- Temporaries: a tree by their numbers, quick for the kernel. -/
inductive Tr where
  | leaf
  | node (v : Value) (l r : Tr)
  deriving Inhabited

noncomputable def Tr.get (d : Value) (t : Tr) : Nat → Value :=
  Tr.rec (fun _ => d) (fun v _ _ gl gr k => cond (Nat.beq k 0) v (cond (Nat.beq (Nat.mod k 2) 1) (gl (Nat.div k 2)) (gr (Nat.sub (Nat.div k 2) 1)))) t

noncomputable def Tr.set (d : Value) (f : Nat) : Tr → Nat → Value → Tr :=
  Nat.rec (fun t _ _ => t) (fun _ ih t k x => Tr.rec (motive := fun _ => Tr)
    (cond (Nat.beq k 0) (Tr.node x Tr.leaf Tr.leaf) (cond (Nat.beq (Nat.mod k 2) 1) (Tr.node d (ih Tr.leaf (Nat.div k 2) x) Tr.leaf) (Tr.node d Tr.leaf (ih Tr.leaf (Nat.sub (Nat.div k 2) 1) x))))
    (fun v l r _ _ => cond (Nat.beq k 0) (Tr.node x l r) (cond (Nat.beq (Nat.mod k 2) 1) (Tr.node v (ih l (Nat.div k 2) x) r) (Tr.node v l (ih r (Nat.sub (Nat.div k 2) 1) x)))) t) f

theorem Tr.get_leaf (d : Value) (k : Nat) : Tr.get d .leaf k = d := rfl
theorem Tr.get_node (d v : Value) (l r : Tr) (k : Nat) : Tr.get d (Tr.node v l r) k = if k = 0 then v else if k % 2 = 1 then Tr.get d l (k / 2) else Tr.get d r (k / 2 - 1) := by
  show cond (Nat.beq k 0) v (cond (Nat.beq (k % 2) 1) (Tr.get d l (k / 2)) (Tr.get d r (k / 2 - 1))) = _
  by_cases h : k = 0
  · subst h; rfl
  · rw [if_neg h]
    have hb0 : Nat.beq k 0 = false := by
      cases hb : Nat.beq k 0
      · rfl
      · exact absurd (Nat.eq_of_beq_eq_true hb) h
    rw [hb0]
    by_cases h2 : k % 2 = 1
    · rw [if_pos h2, h2]; rfl
    · rw [if_neg h2]
      cases hb : Nat.beq (k % 2) 1
      · rfl
      · exact absurd (Nat.eq_of_beq_eq_true hb) h2

theorem Tr.set_leaf (d : Value) (f k : Nat) (x : Value) : Tr.set d (f + 1) .leaf k x = if k = 0 then Tr.node x Tr.leaf Tr.leaf else if k % 2 = 1 then Tr.node d (Tr.set d f .leaf (k / 2) x) .leaf else Tr.node d Tr.leaf (Tr.set d f .leaf (k / 2 - 1) x) := by
  show cond (Nat.beq k 0) (Tr.node x Tr.leaf Tr.leaf) (cond (Nat.beq (k % 2) 1) (Tr.node d (Tr.set d f .leaf (k / 2) x) Tr.leaf) (Tr.node d Tr.leaf (Tr.set d f .leaf (k / 2 - 1) x))) = _
  cases hb : Nat.beq k 0
  · rw [if_neg (Nat.ne_of_beq_eq_false hb)]
    cases hc : Nat.beq (k % 2) 1
    · rw [if_neg (Nat.ne_of_beq_eq_false hc)]; rfl
    · rw [if_pos (Nat.eq_of_beq_eq_true hc)]; rfl
  · rw [if_pos (Nat.eq_of_beq_eq_true hb)]; rfl

theorem Tr.set_node (d : Value) (f k : Nat) (x v : Value) (l r : Tr) : Tr.set d (f + 1) (Tr.node v l r) k x = if k = 0 then Tr.node x l r else if k % 2 = 1 then Tr.node v (Tr.set d f l (k / 2) x) r else Tr.node v l (Tr.set d f r (k / 2 - 1) x) := by
  show cond (Nat.beq k 0) (Tr.node x l r) (cond (Nat.beq (k % 2) 1) (Tr.node v (Tr.set d f l (k / 2) x) r) (Tr.node v l (Tr.set d f r (k / 2 - 1) x))) = _
  cases hb : Nat.beq k 0
  · rw [if_neg (Nat.ne_of_beq_eq_false hb)]
    cases hc : Nat.beq (k % 2) 1
    · rw [if_neg (Nat.ne_of_beq_eq_false hc)]; rfl
    · rw [if_pos (Nat.eq_of_beq_eq_true hc)]; rfl
  · rw [if_pos (Nat.eq_of_beq_eq_true hb)]; rfl

theorem Tr.get_set (d x : Value) : ∀ (f : Nat) (t : Tr) (k k' : Nat), k + 1 < 2 ^ f → Tr.get d (Tr.set d f t k x) k' = if k' = k then x else Tr.get d t k'
  | 0, _, k, _, h => by simp at h
  | f + 1, .leaf, k, k', h => by
    rw [Tr.set_leaf]
    have hp : 2 ^ (f + 1) = 2 * 2 ^ f := by rw [Nat.pow_succ, Nat.mul_comm]
    by_cases h0 : k = 0
    · subst h0
      simp only [if_true, Tr.get_node, Tr.get_leaf]
      split <;> simp
    · rw [if_neg h0]
      by_cases h1 : k % 2 = 1
      · rw [if_pos h1, Tr.get_node, Tr.get_set d x f .leaf (k / 2) (k' / 2) (by omega)]
        simp only [Tr.get_leaf]
        by_cases e : k' = k
        · subst e; simp [h0, h1]
        · rw [if_neg e]
          split
          · rfl
          · split
            · rw [if_neg (by omega)]
            · rfl
      · rw [if_neg h1, Tr.get_node, Tr.get_set d x f .leaf (k / 2 - 1) (k' / 2 - 1) (by omega)]
        simp only [Tr.get_leaf]
        by_cases e : k' = k
        · subst e; simp [h0, h1]
        · rw [if_neg e]
          split
          · rfl
          · split
            · rfl
            · rw [if_neg (by omega)]
  | f + 1, .node v l r, k, k', h => by
    rw [Tr.set_node]
    have hp : 2 ^ (f + 1) = 2 * 2 ^ f := by rw [Nat.pow_succ, Nat.mul_comm]
    by_cases h0 : k = 0
    · subst h0
      simp only [if_true, Tr.get_node]
      split <;> simp_all
    · rw [if_neg h0]
      by_cases h1 : k % 2 = 1
      · rw [if_pos h1, Tr.get_node, Tr.get_node, Tr.get_set d x f l (k / 2) (k' / 2) (by omega)]
        by_cases e : k' = k
        · subst e; simp [h0, h1]
        · rw [if_neg e]
          split
          · rfl
          · split
            · rw [if_neg (by omega)]
            · rfl
      · rw [if_neg h1, Tr.get_node, Tr.get_node, Tr.get_set d x f r (k / 2 - 1) (k' / 2 - 1) (by omega)]
        by_cases e : k' = k
        · subst e; simp [h0, h1]
        · rw [if_neg e]
          split
          · rfl
          · split
            · rfl
            · rw [if_neg (by omega)]

/-- The temporaries of a frame: how many; what those hold that aren't told. -/
structure Tm where
  n : Nat
  d : Value
  t : Tr

noncomputable def Tm.get (T : Tm) (k : Nat) : Value := Tr.get T.d T.t k
noncomputable def Tm.put (T : Tm) (k : Nat) (x : Value) : Tm := cond (Nat.blt k T.n) { T with t := Tr.set T.d 12 T.t k x } T

structure RepT (E : Env) (T : Tm) (a : Array Value) : Prop where
  n : T.n = a.size
  le : T.n ≤ 4000
  get : ∀ k, Rep E (T.get k) (a.getD k undef)

theorem Tm.get_put (T : Tm) (k k' : Nat) (x : Value) (hn : T.n ≤ 4000) : (T.put k x).get k' = if k' = k ∧ k < T.n then x else T.get k' := by
  unfold Tm.put
  cases hb : Nat.blt k T.n
  · have : ¬ k < T.n := fun h => by have := Nat.ble_eq_true_of_le h; unfold Nat.blt at hb; rw [this] at hb; exact Bool.noConfusion hb
    simp [this]
  · have hk : k < T.n := Nat.le_of_ble_eq_true hb
    simp only [cond_true, Tm.get]
    rw [Tr.get_set _ _ _ _ _ _ (by omega)]
    simp [hk]

theorem Tm.put_n (T : Tm) (k : Nat) (x : Value) : (T.put k x).n = T.n := by
  unfold Tm.put; cases Nat.blt k T.n <;> rfl

theorem RepT.put {E : Env} {T : Tm} {a : Array Value} (h : RepT E T a) (k : Nat) {x x' : Value} (hx : Rep E x x') : RepT E (T.put k x) (a.setIfInBounds k x') where
  n := by rw [Tm.put_n, Array.size_setIfInBounds]; exact h.n
  le := by rw [Tm.put_n]; exact h.le
  get := fun j => by
    rw [Tm.get_put _ _ _ _ h.le]
    have hg := h.get j
    by_cases hj : j = k ∧ k < T.n
    · rw [if_pos hj]
      obtain ⟨rfl, hk⟩ := hj
      rw [h.n] at hk
      rw [Array.getD_eq_getD_getElem?, Array.getElem?_setIfInBounds_self_of_lt hk]
      exact hx
    · rw [if_neg hj]
      by_cases e : j = k
      · subst e
        have : ¬ j < a.size := fun hh => hj ⟨rfl, by rw [h.n]; exact hh⟩
        rw [Array.setIfInBounds_eq_of_size_le (by omega)]
        exact hg
      · rw [Array.getD_eq_getD_getElem?] at hg ⊢
        rw [Array.getElem?_setIfInBounds_ne (Ne.symm e)]
        exact hg

theorem RepT.mono {E E' : Env} (hE : Env.Agree E.n E E') {T : Tm} {a : Array Value} (h : RepT E T a) : RepT E' T a := ⟨h.n, h.le, fun k => (h.get k).mono hE⟩

noncomputable def opd (ts : Tm) : Operand → Option Value
  | .tmp t => some (ts.get t)
  | .const v => if okConst v then some v else none
  | .func f => some (.func (.func f) ⟨[]⟩ ⟨[]⟩)
  | .global _ => none

theorem opd_sound {E : Env} {ts : Tm} {a : Act} (hr : RepT E ts a.tmps) {x : Operand} {v : Value} (h : opd ts x = some v) : Rep E v (a.eval x) := by
  cases x with
  | tmp t =>
    simp only [opd, Option.some.injEq] at h
    subst h
    exact hr.get t
  | const c =>
    simp only [opd] at h
    split at h
    · rename_i hc
      simp only [Option.some.injEq] at h
      subst h
      exact rep_okConst hc
    · simp at h
  | global g => simp [opd] at h
  | func f =>
    simp only [opd, Option.some.injEq] at h
    subst h
    exact .func _ [] [] [] [] .nil .nil

/-- What is told to an operation whose outcome the evaluator cannot see by itself. -/
inductive Hint where
  | none
  | cells (l : List Value)
  | val (v : Value)
  | str (s : ByteArray)
  | bool (b : Bool)
  deriving Inhabited

abbrev PRes := Option (List Prop × Value)

def ret (v : Value) : PRes := some ([], v)

def AllP : List Prop → Prop
  | [] => True
  | p :: l => p ∧ AllP l

/-- Owed, and decided. -/
def D (p : Prop) [Decidable p] : Prop := decide p = true
theorem D_iff {p : Prop} [Decidable p] : D p ↔ p := decide_eq_true_iff

/-- Of what is owed: what does not hold by reckoning. -/
def bs : List Bool → List Prop
  | [] => []
  | b :: l => match b with
    | true => bs l
    | false => (false = true) :: bs l

theorem bs_all : ∀ {l : List Bool}, AllP (bs l) → AllP (l.map fun b => b = true)
  | [], _ => trivial
  | true :: l, h => ⟨rfl, bs_all (l := l) h⟩
  | false :: l, h => ⟨h.1, bs_all (l := l) h.2⟩

theorem AllP.append {l m : List Prop} (h : AllP (l ++ m)) : AllP l ∧ AllP m := by
  induction l with
  | nil => exact ⟨trivial, h⟩
  | cons p l ih => exact ⟨⟨h.1, (ih h.2).1⟩, (ih h.2).2⟩

def sizeT (P : Program) (t : TypeId) : Option Nat := (P.info? t).map (·.size)
def isAggD : TypeDesc → Bool
  | .struct _ | .array _ _ => true
  | _ => false

def ibits (op : BinOp) (k : IntKind) (x y : Int) : Int :=
  let a := BitVec.ofInt k.bits x
  let b := BitVec.ofInt k.bits y
  match op with
  | .and => k.wrap (a &&& b).toNat
  | .or => k.wrap (a ||| b).toNat
  | .xor => k.wrap (a ^^^ b).toNat
  | _ => k.wrap (a &&& ~~~b).toNat

def ishl (k : IntKind) (x y : Int) : Int := k.wrap (x * 2 ^ (min y.toNat k.bits))
def ishr (k : IntKind) (x y : Int) : Int := x.fdiv (2 ^ (min y.toNat k.bits))

def evInt (op : BinOp) (k : IntKind) (a b : Int) : PRes :=
  match op with
  | .add => ret (.int k (k.wrap (a + b)))
  | .sub => ret (.int k (k.wrap (a - b)))
  | .mul => ret (.int k (k.wrap (a * b)))
  | .quo => some (bs [decide (b ≠ 0)], .int k (k.wrap (a.tdiv b)))
  | .rem => some (bs [decide (b ≠ 0)], .int k (a.tmod b))
  | .and => ret (.int k (ibits .and k a b))
  | .or => ret (.int k (ibits .or k a b))
  | .xor => ret (.int k (ibits .xor k a b))
  | .andNot => ret (.int k (ibits .andNot k a b))
  | .eql => ret (.bool (a == b))
  | .neq => ret (.bool (a != b))
  | .lss => ret (.bool (decide (a < b)))
  | .leq => ret (.bool (decide (a ≤ b)))
  | .gtr => ret (.bool (decide (a > b)))
  | .geq => ret (.bool (decide (a ≥ b)))
  | .shl => some (bs [decide (0 ≤ b)], .int k (ishl k a b))
  | .shr => some (bs [decide (0 ≤ b)], .int k (ishr k a b))

def evStr (op : BinOp) (x y : ByteArray) : PRes :=
  match op with
  | .add => some (bs [decide (x.size + y.size ≤ 9223372036854775807)], .string (x ++ y))
  | .eql => ret (.bool (x.toList == y.toList))
  | .neq => ret (.bool (!(x.toList == y.toList)))
  | .lss => ret (.bool (Op.bytesLess x.toList y.toList))
  | .leq => ret (.bool (Op.bytesLess x.toList y.toList || x.toList == y.toList))
  | .gtr => ret (.bool (!(Op.bytesLess x.toList y.toList || x.toList == y.toList)))
  | .geq => ret (.bool (!(Op.bytesLess x.toList y.toList)))
  | _ => none

/-- '==' on what holds no address but nil. -/
def evEq (d : TypeDesc) (x y : Value) : Option Bool :=
  match d, x, y with
  | .bool, .bool a, .bool b => some (a == b)
  | .pointer _, .pointer none, .pointer none => some true
  | .pointer _, .pointer none, .pointer (some _) => some false
  | .pointer _, .pointer (some _), .pointer none => some false
  | .slice _, .slice none _ _, .slice none _ _ => some true
  | .slice _, .slice none _ _, .slice (some _) n _ => if 0 < n then some false else none
  | .slice _, .slice (some _) n _, .slice none _ _ => if 0 < n then some false else none
  | .map _ _, .map none, .map none => some true
  | .map _ _, .map none, .map (some _) => some false
  | .map _ _, .map (some _), .map none => some false
  | .func _ _ _, .nilFunc, .nilFunc => some true
  | .func _ _ _, .nilFunc, .func _ _ _ => some false
  | .func _ _ _, .func _ _ _, .nilFunc => some false
  | .interface _, .nilIface, .iface _ _ => some false
  | .interface _, .iface _ _, .nilIface => some false
  | _, _, _ => none

def evBin (P : Program) (op : BinOp) (t : TypeId) (x y : Value) : PRes :=
  match x, y with
  | .int k a, .int k' b =>
    match op with
    | .shl => evInt .shl k a b
    | .shr => evInt .shr k a b
    | _ => if k = k' then evInt op k a b else none
  | .string a, .string b => evStr op a b
  | x, y =>
    match op, P.underlying t with
    | .eql, some d => (evEq d x y).map fun b => ([], .bool b)
    | .neq, some d => (evEq d x y).map fun b => ([], .bool (!b))
    | _, _ => none

theorem evInt_sound {P : Program} {op : BinOp} {t : TypeId} {k k' : IntKind} {a b : Int} {obs : List Prop} {v : Value} (w : World)
    (h : evInt op k a b = some (obs, v)) (ho : AllP obs) (hk : k = k' ∨ op = .shl ∨ op = .shr) : (binOp op t (.int k a) (.int k' b)).run P w = .ok v w := by
  cases op <;> simp only [evInt, ret, Option.some.injEq, Prod.mk.injEq] at h <;> obtain ⟨rfl, rfl⟩ := h
  case shl =>
    have := D_iff.1 (bs_all ho).1
    simp [binOp, Op.shift, ishl, Int.not_lt.2 this]
  case shr =>
    have := D_iff.1 (bs_all ho).1
    simp [binOp, Op.shift, ishr, Int.not_lt.2 this]
  all_goals
    have hk : k = k' := by simpa using hk
    subst hk
  case quo => simp [binOp, Op.intDiv, D_iff.1 (bs_all ho).1]
  case rem => simp [binOp, Op.intDiv, D_iff.1 (bs_all ho).1]
  all_goals simp [binOp, Op.intArith, Op.intBits, Op.intCmp, ibits]

theorem evStr_sound {P : Program} {op : BinOp} {t : TypeId} {a b : ByteArray} {obs : List Prop} {v : Value} (w : World)
    (h : evStr op a b = some (obs, v)) (ho : AllP obs) : (binOp op t (.string a) (.string b)).run P w = .ok v w := by
  cases op <;> simp only [evStr, ret, Option.some.injEq, Prod.mk.injEq, reduceCtorEq] at h <;> obtain ⟨rfl, rfl⟩ := h
  case add =>
    have h1 := D_iff.1 (bs_all ho).1
    have : ¬ (((a.size + b.size : Nat) : Int) > IntKind.i64.max) := by
      have e : IntKind.i64.max = 9223372036854775807 := by decide
      rw [e]; omega
    simp only [binOp, Op.stringOp]
    rw [if_neg this]
    rfl
  all_goals rfl

theorem evEq_sound {P : Program} {E : Env} {t : TypeId} {d : TypeDesc} {x y x' y' : Value} {b : Bool} (w : World) (hd : P.underlying t = some d)
    (h : evEq d x y = some b) (hx : Rep E x x') (hy : Rep E y y') : (Op.equal t x' y').run P w = .ok b w := by
  suffices H : ∀ n, (Op.equalIn (n + 1) t x' y').run P w = .ok b w from H 9999
  intro n
  unfold evEq at h
  unfold Op.equalIn
  simp only [Sem.run_bind, run_underlying hd, Result.andThen_ok]
  split at h
  case h_6 =>
    split at h
    · rename_i h0
      simp only [Option.some.injEq] at h; subst h
      cases hx; cases hy
      all_goals first | omega | (rename_i ha _ _; rw [ha h0]; rfl) | (rename_i ha _; rw [ha h0]; rfl) | rfl
    · simp at h
  case h_7 =>
    split at h
    · rename_i h0
      simp only [Option.some.injEq] at h; subst h
      cases hy; cases hx
      all_goals first | omega | (rename_i ha _ _; rw [ha h0]; rfl) | (rename_i ha _; rw [ha h0]; rfl) | rfl
    · simp at h
  all_goals (simp only [Option.some.injEq, reduceCtorEq] at h <;> subst h <;> cases hx <;> cases hy <;> rfl)

/-- Neither a number nor a text, float or complex. -/
def plainV : Value → Bool
  | .int .. | .float .. | .complex .. | .string _ => false
  | _ => true

def BothOther (x y : Value) : Prop := (x = .nilIface → y ≠ .nilIface) ∧ (∀ c, x = .agg c → ∀ d, y ≠ .agg d)

theorem evEq_form {E : Env} {d : TypeDesc} {x y x' y' : Value} {b : Bool} (h : evEq d x y = some b) (hx : Rep E x x') (hy : Rep E y y') : (plainV x' = true ∧ plainV y' = true) ∧ BothOther x' y' := by
  unfold evEq at h
  split at h <;> first | (simp at h; done) | (cases hx <;> cases hy <;> exact ⟨⟨rfl, rfl⟩, by simp [BothOther]⟩)

theorem binOp_eq {P : Program} {t : TypeId} {x y : Value} {b : Bool} (w : World) (hf : plainV x = true ∧ plainV y = true) (h : (Op.equal t x y).run P w = .ok b w) : (binOp .eql t x y).run P w = .ok (.bool b) w := by
  obtain ⟨h1, h2⟩ := hf
  cases x <;> first | (simp [plainV] at h1; done) | (cases y <;> first | (simp [plainV] at h2; done) | (simp only [binOp, Sem.run_bind, h]; rfl))

theorem binOp_ne {P : Program} {t : TypeId} {x y : Value} {b : Bool} (w : World) (hf : plainV x = true ∧ plainV y = true) (h : (Op.equal t x y).run P w = .ok b w) : (binOp .neq t x y).run P w = .ok (.bool (!b)) w := by
  obtain ⟨h1, h2⟩ := hf
  cases x <;> first | (simp [plainV] at h1; done) | (cases y <;> first | (simp [plainV] at h2; done) | (simp only [binOp, Sem.run_bind, h]; rfl))

theorem evBin_form {P : Program} {E : Env} {op : BinOp} {t : TypeId} {x y x' y' : Value} {r : List Prop × Value} (h : evBin P op t x y = some r) (hop : op = .eql ∨ op = .neq) (hx : Rep E x x') (hy : Rep E y y') : BothOther x' y' := by
  unfold evBin at h
  split at h
  · cases hx; exact ⟨by simp, by simp⟩
  · cases hx; exact ⟨by simp, by simp⟩
  · split at h
    · obtain ⟨b, hb, _⟩ := Option.map_eq_some_iff.1 h
      exact (evEq_form hb hx hy).2
    · obtain ⟨b, hb, _⟩ := Option.map_eq_some_iff.1 h
      exact (evEq_form hb hx hy).2
    · simp at h

theorem evBin_sound {P : Program} {E : Env} {op : BinOp} {t : TypeId} {x y x' y' : Value} {obs : List Prop} {v : Value} (w : World)
    (h : evBin P op t x y = some (obs, v)) (ho : AllP obs) (hx : Rep E x x') (hy : Rep E y y') : (binOp op t x' y').run P w = .ok v w ∧ Rep E v v := by
  unfold evBin at h
  split at h
  · cases hx; cases hy
    have hv : Rep E v v := by
      split at h
      · simp only [evInt, Option.some.injEq, Prod.mk.injEq] at h; obtain ⟨_, rfl⟩ := h; constructor
      · simp only [evInt, Option.some.injEq, Prod.mk.injEq] at h; obtain ⟨_, rfl⟩ := h; constructor
      · split at h
        · unfold evInt at h
          split at h <;> simp only [ret, Option.some.injEq, Prod.mk.injEq] at h <;> obtain ⟨_, rfl⟩ := h <;> constructor
        · simp at h
    refine ⟨?_, hv⟩
    split at h
    · exact evInt_sound w h ho (.inr (.inl rfl))
    · exact evInt_sound w h ho (.inr (.inr rfl))
    · split at h
      · rename_i hk
        exact evInt_sound w h ho (.inl hk)
      · simp at h
  · cases hx; cases hy
    refine ⟨evStr_sound w h ho, ?_⟩
    unfold evStr at h
    split at h <;> simp only [ret, Option.some.injEq, Prod.mk.injEq, reduceCtorEq] at h <;> obtain ⟨_, rfl⟩ := h <;> constructor
  · rename_i hne1 hne2
    split at h
    · rename_i d hd
      simp only [Option.map_eq_some_iff, Prod.mk.injEq] at h
      obtain ⟨b, hb, rfl, rfl⟩ := h
      refine ⟨?_, .bool _⟩
      have := evEq_sound (P := P) w hd hb hx hy
      exact binOp_eq w (evEq_form hb hx hy).1 this
    · rename_i d hd
      simp only [Option.map_eq_some_iff, Prod.mk.injEq] at h
      obtain ⟨b, hb, rfl, rfl⟩ := h
      refine ⟨?_, .bool _⟩
      have := evEq_sound (P := P) w hd hb hx hy
      exact binOp_ne w (evEq_form hb hx hy).1 this
    · simp at h

end Go.AX
