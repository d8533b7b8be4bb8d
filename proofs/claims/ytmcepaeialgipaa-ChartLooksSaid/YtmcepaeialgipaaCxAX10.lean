/- Calls and code on abstract heaps: what they are to mean, and the rules. -/
import Derived.Test.YtmcepaeialgipaaCxAX9
import Derived.Tactics
namespace Go.AX

/-- A call on abstract values. -/
def ACalls (P : Program) (f : FuncId) (args : List Value) (h : AHeap) (R : Value → AHeap → Prop) : Prop :=
  ∀ (E : Env) (w : World) (args' : List Value), Good E h w → RepL E args args' →
    Calls P f ⟨args'⟩ w fun e w' => ∃ v v' h' E', e = .returned v' ∧ Good E' h' w' ∧ Evol h.length E h w E' h' w' ∧ Rep E' v v' ∧ R v h'

/-- A call that gives just this. -/
def AEq (P : Program) (f : FuncId) (args : List Value) (h : AHeap) (v : Value) (h' : AHeap) : Prop := ACalls P f args h fun v1 h1 => v1 = v ∧ h1 = h'

def APost (m : Nat) (E : Env) (h : AHeap) (w : World) (Q : Exit → Tm → AHeap → Prop) (ex : Exit) (a' : Act) (w' : World) : Prop :=
  ∃ ts' h' E', Good E' h' w' ∧ Evol m E h w E' h' w' ∧ RepT E' ts' a'.tmps ∧ a'.defers = [] ∧ Q ex ts' h'

/-- Code on abstract values: the first m ids are the caller's. -/
def ATrip (P : Program) (m : Nat) (c : Code) (ts : Tm) (h : AHeap) (Q : Exit → Tm → AHeap → Prop) : Prop :=
  m ≤ h.length → ∀ (E : Env) (w : World) (a : Act), Good E h w → RepT E ts a.tmps → a.defers = [] → c.wp P (APost m E h w Q) a w

/-- Code that comes to just this. -/
def AComes (P : Program) (m : Nat) (c : Code) (ts : Tm) (h : AHeap) (ex : Exit) (ts' : Tm) (h' : AHeap) : Prop :=
  ATrip P m c ts h fun e t k => e = ex ∧ t = ts' ∧ k = h'

section
variable {P : Program} {m : Nat} {ts : Tm} {h : AHeap}

theorem Evol.m_le {E E' : Env} {h h' : AHeap} {w w' : World} (a : Evol m E h w E' h' w') (g : Good E' h' w') : m ≤ h'.length := by
  have := a.agree.n; rw [g.n] at this; exact this

/-- What comes behind a step. -/
theorem APost.step {E E1 : Env} {h1 : AHeap} {w w1 : World} {Q : Exit → Tm → AHeap → Prop} {ex : Exit} {a' : Act} {w' : World} (ev : Evol m E h w E1 h1 w1) (hp : APost m E1 h1 w1 Q ex a' w') : APost m E h w Q ex a' w' := by
  obtain ⟨ts', h', E', g, e, r, d, q⟩ := hp
  exact ⟨ts', h', E', g, ev.trans e (Nat.le_refl _), r, d, q⟩

theorem ATrip.mono {c : Code} {Q Q' : Exit → Tm → AHeap → Prop} (t : ATrip P m c ts h Q) (hq : ∀ e t k, Q e t k → Q' e t k) : ATrip P m c ts h Q' :=
  fun hm E w a g r d => Code.wp_mono (fun _ _ _ ⟨ts', h', E', g', e', r', d', q⟩ => ⟨ts', h', E', g', e', r', d', hq _ _ _ q⟩) (t hm E w a g r d)

def AThen (P : Program) (m : Nat) (c : Code) (Q : Exit → Tm → AHeap → Prop) : Exit → Tm → AHeap → Prop
  | .normal, ts, h => ATrip P m c ts h Q
  | e, ts, h => Q e ts h

theorem ATrip.seq {x y : Code} {Q : Exit → Tm → AHeap → Prop} (t : ATrip P m x ts h (AThen P m y Q)) : ATrip P m (.seq x y) ts h Q := by
  intro hm E w a g r d
  refine wp_seq (Code.wp_mono ?_ (t hm E w a g r d))
  rintro e a' w' ⟨ts', h', E', g', ev, r', d', q⟩
  cases e with
  | normal =>
    exact Code.wp_mono (fun _ _ _ hp => hp.step ev) (q (ev.m_le g') E' w' a' g' r' d')
  | _ => exact ⟨ts', h', E', g', ev, r', d', q⟩

theorem ATrip.skip {Q : Exit → Tm → AHeap → Prop} (q : Q .normal ts h) : ATrip P m .skip ts h Q :=
  fun hm E w a g r d => wp_skip ⟨ts, h, E, g, .refl E h w (by rw [g.n]; exact hm), r, d, q⟩
theorem ATrip.exit {id : Nat} {Q : Exit → Tm → AHeap → Prop} (q : Q (.exit id) ts h) : ATrip P m (.exit id) ts h Q :=
  fun hm E w a g r d => wp_exit ⟨ts, h, E, g, .refl E h w (by rw [g.n]; exact hm), r, d, q⟩
theorem ATrip.ret {Q : Exit → Tm → AHeap → Prop} (q : Q .ret ts h) : ATrip P m .ret ts h Q :=
  fun hm E w a g r d => wp_ret ⟨ts, h, E, g, .refl E h w (by rw [g.n]; exact hm), r, d, q⟩

theorem ATrip.cond {c : Operand} {x y : Code} {b : Bool} {Q : Exit → Tm → AHeap → Prop} (hc : opd ts c = some (.bool b)) (t : ATrip P m (if b then x else y) ts h Q) : ATrip P m (.cond c x y) ts h Q := by
  intro hm E w a g r d
  have e := opd_sound r hc
  generalize hv : a.eval c = v at e
  cases e
  exact wp_cond hv (t hm E w a g r d)

def ABlock (id : Nat) (Q : Exit → Tm → AHeap → Prop) : Exit → Tm → AHeap → Prop
  | .exit id', ts, h => if id' = id then Q .normal ts h else Q (.exit id') ts h
  | e, ts, h => Q e ts h

theorem ATrip.block {id : Nat} {c : Code} {Q : Exit → Tm → AHeap → Prop} (t : ATrip P m c ts h (ABlock id Q)) : ATrip P m (.block id c) ts h Q := by
  intro hm E w a g r d
  refine wp_block (Code.wp_mono ?_ (t hm E w a g r d))
  rintro e a' w' ⟨ts', h', E', g', ev, r', d', q⟩
  cases e with
  | exit id' =>
    simp only [Exit.inBlock, ABlock] at q ⊢
    split
    · rename_i hid; rw [if_pos hid] at q; exact ⟨ts', h', E', g', ev, r', d', q⟩
    · rename_i hid; rw [if_neg hid] at q; exact ⟨ts', h', E', g', ev, r', d', q⟩
  | _ => exact ⟨ts', h', E', g', ev, r', d', q⟩

/-- A loop: an invariant with a measure. -/
theorem ATrip.loop {c : Code} {Q : Exit → Tm → AHeap → Prop} (I : Nat → Tm → AHeap → Prop) (n : Nat) (h0 : I n ts h)
    (round : ∀ n ts h, I n ts h → ATrip P m c ts h fun e ts' h' => match e with | .normal => ∃ n', n' < n ∧ I n' ts' h' | e => Q e ts' h') : ATrip P m (.loop c) ts h Q := by
  intro hm E w a g r d b k cs
  have key : ∀ n ts h w0 E0 a, m ≤ h.length → I n ts h → Good E0 h w0 → RepT E0 ts a.tmps → a.defers = [] →
      ∃ e a' w', APost m E0 h w0 Q e a' w' ∧ Arrives P (lone (b.at a (.code c :: .inLoop c :: k)) cs w0) b k cs e a' w' := by
    intro n
    induction n using Nat.strongRecOn with
    | _ n ih =>
      intro ts h w0 E0 a hm hI g r d
      obtain ⟨e, a1, w1, ⟨ts', h', E', g', ev, r', d', q⟩, harr⟩ := round n ts h hI hm E0 w0 a g r d b (.inLoop c :: k) cs
      cases e with
      | normal =>
        obtain ⟨n', hlt, hI'⟩ := q
        obtain ⟨e2, a2, w2, hq2, harr2⟩ := ih n' hlt ts' h' w1 E' a1 (ev.m_le g') hI' g' r' d'
        exact ⟨e2, a2, w2, hq2.step ev, .of_steps (Steps.trans harr (.one step_inLoop)) harr2⟩
      | exit id => exact ⟨_, a1, w1, ⟨ts', h', E', g', ev, r', d', q⟩, .pass (x := .inLoop c) rfl (fun _ _ => .inl (by simp)) harr⟩
      | goto l => exact ⟨_, a1, w1, ⟨ts', h', E', g', ev, r', d', q⟩, .pass (x := .inLoop c) rfl (fun _ _ => .inl (by simp)) harr⟩
      | ret => exact ⟨_, a1, w1, ⟨ts', h', E', g', ev, r', d', q⟩, .pass (x := .inLoop c) rfl (fun _ _ => .inl (by simp)) harr⟩
      | panic ch => exact ⟨_, a1, w1, ⟨ts', h', E', g', ev, r', d', q⟩, .pass (x := .inLoop c) rfl (fun _ _ => .inl (by simp)) harr⟩
      | outgrown => exact ⟨_, a1, w1, ⟨ts', h', E', g', ev, r', d', q⟩, .pass (x := .inLoop c) rfl (fun _ _ => .inl (by simp)) harr⟩
  obtain ⟨e, a', w', hq, harr⟩ := key n ts h w E a hm h0 g r d
  exact ⟨e, a', w', hq, .of_steps (.one step_loop) harr⟩

end
end Go.AX
