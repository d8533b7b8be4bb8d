/- Part 1 of 6 of the proof of: ErpsPlays holds for every input, without conditions -/
import Derived.Orders
import Derived.Laws.Rows
import Derived.Laws.Sem
import Derived.Laws.Entries
import Derived.Laws.AppendOwn
import Derived.ChangeKeysEq
import Derived.Laws.BytesString
import Derived.Tactics
import Derived.KernelRfl
namespace Go.AX

structure Env where
  n : Nat
  blk : Nat → Nat
  off : Nat → Nat
  csz : Nat → Nat
  esz : Nat → Nat
def UNK : Nat := 18446744073709551616
def UNR : Nat := 18446744073709551617
def junk : Value := .tuple ⟨[.nilFunc]⟩

mutual
inductive Rep (E : Env) : Value → Value → Prop
  | bool (b : Bool) : Rep E (.bool b) (.bool b)
  | int (k : IntKind) (n : Int) : Rep E (.int k n) (.int k n)
  | float (k : FloatKind) (n : Nat) : Rep E (.float k n) (.float k n)
  | str (s : ByteArray) : Rep E (.string s) (.string s)
  | nilptr : Rep E (.pointer none) (.pointer none)
  | ptr (i o : Nat) (hi : i < E.n) : Rep E (.pointer (some ⟨i, o, none⟩)) (.pointer (some ⟨E.blk i, E.off i + o, none⟩))
  | nilsl : Rep E (.slice none 0 0) (.slice none 0 0)
  | slX (i o n c : Nat) (a' : Option Addr) (hi : i < E.n) (ha : 0 < n → a' = some ⟨E.blk i, E.off i + o, none⟩) (hn : n ≤ c) (hc : c < UNK) : Rep E (.slice (some ⟨i, o, none⟩) n c) (.slice a' n c)
  | slU (i n c' : Nat) (hi : i < E.n) (h0 : 0 < n) (hn : n ≤ c') (hz : E.off i + c' * E.esz i ≤ E.csz i) : Rep E (.slice (some ⟨i, 0, none⟩) n UNK) (.slice (some ⟨E.blk i, E.off i, none⟩) n c')
  | slE (i : Nat) (hi : i < E.n) : Rep E (.slice (some ⟨i, 0, none⟩) 0 UNK) (.slice none 0 0)
  | slR (i o n c' : Nat) (a' : Option Addr) (hi : i < E.n) (ha : 0 < n → a' = some ⟨E.blk i, E.off i + o, none⟩) (hn : n ≤ c') : Rep E (.slice (some ⟨i, o, none⟩) n UNR) (.slice a' n c')
  | nilmap : Rep E (.map none) (.map none)
  | map (i : Nat) (hi : i < E.n) : Rep E (.map (some i)) (.map (some (E.blk i)))
  | nilfunc : Rep E .nilFunc .nilFunc
  | func (fn : Fn) (f c f' c' : List Value) (hf : RepL E f f') (hc : RepL E c c') : Rep E (.func fn ⟨f⟩ ⟨c⟩) (.func fn ⟨f'⟩ ⟨c'⟩)
  | nilif : Rep E .nilIface .nilIface
  | iface (t : TypeId) (v v' : Value) (h : Rep E v v') : Rep E (.iface t v) (.iface t v')
  | agg (c c' : List Value) (h : RepL E c c') : Rep E (.agg ⟨c⟩) (.agg ⟨c'⟩)
  | tuple (c c' : List Value) (h : RepL E c c') : Rep E (.tuple ⟨c⟩) (.tuple ⟨c'⟩)
  | junk (v' : Value) : Rep E junk v'
inductive RepL (E : Env) : List Value → List Value → Prop
  | nil : RepL E [] []
  | cons (v v' : Value) (l l' : List Value) (h : Rep E v v') (t : RepL E l l') : RepL E (v :: l) (v' :: l')
end

section
variable {E : Env}

theorem RepL.length : ∀ {l l' : List Value}, RepL E l l' → l'.length = l.length
  | _, _, .nil => rfl
  | _, _, .cons _ _ _ _ _ t => by simp [t.length]

theorem RepL.get : ∀ {l l' : List Value}, RepL E l l' → ∀ {i : Nat} {v : Value}, l[i]? = some v → ∃ v', l'[i]? = some v' ∧ Rep E v v'
  | _, _, .nil, i, v, h => by simp at h
  | _, _, .cons a a' l l' h t, 0, v, hv => by
    simp only [List.getElem?_cons_zero, Option.some.injEq] at hv
    exact ⟨a', by simp, hv ▸ h⟩
  | _, _, .cons a a' l l' h t, i + 1, v, hv => by
    simp only [List.getElem?_cons_succ] at hv
    simpa using t.get hv

theorem RepL.of_get : ∀ {l l' : List Value}, l'.length = l.length → (∀ (i : Nat) (v : Value), l[i]? = some v → ∃ v', l'[i]? = some v' ∧ Rep E v v') → RepL E l l'
  | [], [], _, _ => .nil
  | [], _ :: _, h, _ => by simp at h
  | _ :: _, [], h, _ => by simp at h
  | a :: l, a' :: l', h, hg => by
    refine .cons _ _ _ _ ?_ (RepL.of_get (by simpa using h) fun i v hv => ?_)
    · obtain ⟨v', h1, h2⟩ := hg 0 a (by simp)
      simp only [List.getElem?_cons_zero, Option.some.injEq] at h1
      exact h1 ▸ h2
    · simpa using hg (i + 1) v (by simpa using hv)

theorem RepL.append {a a' b b' : List Value} (h : RepL E a a') (k : RepL E b b') : RepL E (a ++ b) (a' ++ b') := by
  induction a generalizing a' with
  | nil => cases h; exact k
  | cons x l ih => cases h with | cons _ y _ m hx ht => exact .cons _ _ _ _ hx (ih ht)

theorem RepL.take {a a' : List Value} (n : Nat) (h : RepL E a a') : RepL E (a.take n) (a'.take n) := by
  induction n generalizing a a' with
  | zero => simp; exact .nil
  | succ n ih =>
    cases h with
    | nil => simp; exact .nil
    | cons _ _ _ _ h t => simp only [List.take_succ_cons]; exact .cons _ _ _ _ h (ih t)

theorem RepL.drop {a a' : List Value} (n : Nat) (h : RepL E a a') : RepL E (a.drop n) (a'.drop n) := by
  induction n generalizing a a' with
  | zero => simpa using h
  | succ n ih =>
    cases h with
    | nil => simp; exact .nil
    | cons _ _ _ _ h t => simpa using ih t

theorem RepL.set {a a' : List Value} {v v' : Value} (n : Nat) (h : RepL E a a') (hv : Rep E v v') : RepL E (a.set n v) (a'.set n v') := by
  induction n generalizing a a' with
  | zero =>
    cases h with
    | nil => exact .nil
    | cons _ _ _ _ h t => exact .cons _ _ _ _ hv t
  | succ n ih =>
    cases h with
    | nil => exact .nil
    | cons _ _ _ _ h t => exact .cons _ _ _ _ h (ih t)

theorem RepL.replicate {v v' : Value} (n : Nat) (hv : Rep E v v') : RepL E (List.replicate n v) (List.replicate n v') := by
  induction n with
  | zero => exact .nil
  | succ n ih => exact .cons _ _ _ _ hv ih

theorem RepL.getD {l l' : List Value} (h : RepL E l l') (i : Nat) {d d' : Value} (hd : Rep E d d') : Rep E (l.getD i d) (l'.getD i d') := by
  cases hi : l[i]? with
  | some v =>
    obtain ⟨v', h1, h2⟩ := h.get hi
    simp only [List.getD, hi, h1, Option.getD_some]
    exact h2
  | none =>
    have : l'[i]? = none := by
      rw [List.getElem?_eq_none_iff] at hi ⊢
      rw [h.length]; exact hi
    simp only [List.getD, hi, this, Option.getD_none]
    exact hd
end

inductive AObj where
  | cells (vs : List Value) (e sz : Nat)
  | row (vs : List Value) (e sz : Nat)
  | ro (vs : List Value) (sz : Nat)
  | mp (es : List (Value × Value))
  | gone
  deriving Inhabited

abbrev AHeap := List AObj

def AObj.own : AObj → Prop
  | .cells .. | .mp _ => True
  | .row vs _ _ => vs ≠ []
  | _ => False
def AObj.live : AObj → Prop
  | .gone => False
  | .row vs _ _ | .ro vs _ => vs ≠ []
  | _ => True

inductive RepM (E : Env) : List (Value × Value) → List MapEntry → Prop
  | nil : RepM E [] []
  | cons (k v : Value) (e : MapEntry) (l : List (Value × Value)) (l' : List MapEntry) (hk : Rep E k e.key) (hv : Rep E v e.val) (t : RepM E l l') : RepM E ((k, v) :: l) (e :: l')

def Holds (E : Env) (w : World) (i : Nat) : AObj → Prop
  | .cells vs e sz => ∃ c : List Value, w.heap[E.blk i]? = some (.cells ⟨c⟩ e (0, 0)) ∧ E.off i = 0 ∧ E.csz i = c.length ∧ E.esz i = sz ∧ RepL E vs c
  | .row vs e sz => E.esz i = sz ∧ (vs ≠ [] → ∃ c : List Value, w.heap[E.blk i]? = some (.cells ⟨c⟩ e (0, 0)) ∧ E.off i = 0 ∧ E.csz i = c.length ∧ vs.length ≤ c.length ∧ RepL E vs (c.take vs.length))
  | .ro vs sz => E.esz i = sz ∧ ∀ (k : Nat) (v : Value), vs[k]? = some v → ∃ v', w.cell? ⟨E.blk i, E.off i + k, none⟩ = some v' ∧ Rep E v v'
  | .mp es => ∃ (c : List MapEntry) (clock : Nat), w.heap[E.blk i]? = some (.map ⟨c⟩ clock) ∧ RepM E es c ∧ (c.map (·.born)).Nodup ∧ ∀ e ∈ c, e.born < clock
  | .gone => True

structure Good (E : Env) (h : AHeap) (w : World) : Prop where
  n : E.n = h.length
  holds : ∀ (i : Nat) (o : AObj), h[i]? = some o → Holds E w i o
  apart : ∀ (i j : Nat) (o u : AObj), h[i]? = some o → h[j]? = some u → o.own → u.live → i ≠ j → E.blk i ≠ E.blk j

def Owned (E : Env) (h : AHeap) (b : Nat) : Prop := ∃ (i : Nat) (o : AObj), h[i]? = some o ∧ o.own ∧ E.blk i = b

structure Env.Agree (m : Nat) (E E' : Env) : Prop where
  n : m ≤ E'.n
  blk : ∀ i, i < m → E'.blk i = E.blk i
  off : ∀ i, i < m → E'.off i = E.off i
  csz : ∀ i, i < m → E'.csz i = E.csz i
  esz : ∀ i, i < m → E'.esz i = E.esz i
structure Calm (w w' : World) : Prop where
  tape : w'.tape = w.tape
  size : w.heap.size ≤ w'.heap.size
  frozen : ∀ a, a.block < w.heap.size → w'.frozen? a = w.frozen? a
theorem Calm.refl (w : World) : Calm w w := ⟨rfl, Nat.le_refl _, fun _ _ => rfl⟩
theorem Calm.trans {w w1 w2 : World} (a : Calm w w1) (b : Calm w1 w2) : Calm w w2 :=
  ⟨b.tape.trans a.tape, Nat.le_trans a.size b.size, fun x hx => (b.frozen x (Nat.lt_of_lt_of_le hx a.size)).trans (a.frozen x hx)⟩

structure Evol (m : Nat) (E : Env) (h : AHeap) (w : World) (E' : Env) (h' : AHeap) (w' : World) : Prop where
  agree : Env.Agree m E E'
  frame : ∀ b, b < w.heap.size → ¬ Owned E h b → w'.heap[b]? = w.heap[b]?
  own : ∀ b, Owned E' h' b → w.heap.size ≤ b ∨ Owned E h b
  size : w.heap.size ≤ w'.heap.size
  os : w'.os = w.os
  tape : Calm w w'
  output : w'.output = w.output

theorem Env.Agree.refl {m : Nat} (E : Env) (h : m ≤ E.n) : Env.Agree m E E := ⟨h, fun _ _ => rfl, fun _ _ => rfl, fun _ _ => rfl, fun _ _ => rfl⟩
theorem Env.Agree.trans {m j : Nat} {E F G : Env} (h : Env.Agree m E F) (k : Env.Agree j F G) (hm : m ≤ j) : Env.Agree m E G :=
  ⟨Nat.le_trans hm k.n, fun i hi => (k.blk i (by omega)).trans (h.blk i hi), fun i hi => (k.off i (by omega)).trans (h.off i hi), fun i hi => (k.csz i (by omega)).trans (h.csz i hi), fun i hi => (k.esz i (by omega)).trans (h.esz i hi)⟩
theorem Env.Agree.le {m k : Nat} {E F : Env} (h : Env.Agree m E F) (hk : k ≤ m) : Env.Agree k E F :=
  ⟨Nat.le_trans hk h.n, fun i hi => h.blk i (by omega), fun i hi => h.off i (by omega), fun i hi => h.csz i (by omega), fun i hi => h.esz i (by omega)⟩

mutual
theorem Rep.mono {E E' : Env} (hE : Env.Agree E.n E E') : ∀ {v v' : Value}, Rep E v v' → Rep E' v v'
  | _, _, .bool b => .bool b
  | _, _, .int k n => .int k n
  | _, _, .float k n => .float k n
  | _, _, .str s => .str s
  | _, _, .nilptr => .nilptr
  | _, _, .ptr i o hi => by rw [← hE.blk i hi, ← hE.off i hi]; exact .ptr i o (Nat.lt_of_lt_of_le hi hE.n)
  | _, _, .nilsl => .nilsl
  | _, _, .slX i o n c a' hi ha hn hc => .slX i o n c a' (Nat.lt_of_lt_of_le hi hE.n) (by rw [hE.blk i hi, hE.off i hi]; exact ha) hn hc
  | _, _, .slU i n c' hi h0 hn hz => by
    rw [← hE.blk i hi, ← hE.off i hi]
    exact .slU i n c' (Nat.lt_of_lt_of_le hi hE.n) h0 hn (by rw [hE.off i hi, hE.csz i hi, hE.esz i hi]; exact hz)
  | _, _, .slE i hi => .slE i (Nat.lt_of_lt_of_le hi hE.n)
  | _, _, .slR i o n c' a' hi ha hn => .slR i o n c' a' (Nat.lt_of_lt_of_le hi hE.n) (by rw [hE.blk i hi, hE.off i hi]; exact ha) hn
  | _, _, .nilmap => .nilmap
  | _, _, .map i hi => by rw [← hE.blk i hi]; exact .map i (Nat.lt_of_lt_of_le hi hE.n)
  | _, _, .nilfunc => .nilfunc
  | _, _, .func fn f c f' c' hf hc => .func fn f c f' c' (RepL.mono hE hf) (RepL.mono hE hc)
  | _, _, .nilif => .nilif
  | _, _, .iface t v v' h => .iface t v v' (Rep.mono hE h)
  | _, _, .agg c c' h => .agg c c' (RepL.mono hE h)
  | _, _, .tuple c c' h => .tuple c c' (RepL.mono hE h)
  | _, _, .junk v' => .junk v'
theorem RepL.mono {E E' : Env} (hE : Env.Agree E.n E E') : ∀ {l l' : List Value}, RepL E l l' → RepL E' l l'
  | _, _, .nil => .nil
  | _, _, .cons v v' l l' h t => .cons v v' l l' (Rep.mono hE h) (RepL.mono hE t)
end

theorem RepM.mono {E E' : Env} (hE : Env.Agree E.n E E') {l : List (Value × Value)} {l' : List MapEntry} (h : RepM E l l') : RepM E' l l' := by
  induction h with
  | nil => exact .nil
  | cons k v e l l' hk hv _ ih => exact .cons k v e l l' (hk.mono hE) (hv.mono hE) ih
theorem Holds.mono {E E' : Env} (hE : Env.Agree E.n E E') {w w' : World} {i : Nat} {o : AObj} (hi : i < E.n) (h : Holds E w i o) (hw : o.live → w'.heap[E.blk i]? = w.heap[E.blk i]?) : Holds E' w' i o := by
  cases o with
  | cells vs e sz =>
    obtain ⟨c, h1, h2, h3, h4, h5⟩ := h
    exact ⟨c, by rw [hE.blk i hi, hw trivial, h1], by rw [hE.off i hi, h2], by rw [hE.csz i hi, h3], by rw [hE.esz i hi, h4], h5.mono hE⟩
  | row vs e sz =>
    obtain ⟨hs, h⟩ := h
    refine ⟨by rw [hE.esz i hi, hs], fun hv => ?_⟩
    obtain ⟨c, h1, h2, h3, h4, h5⟩ := h hv
    exact ⟨c, by rw [hE.blk i hi, hw hv, h1], by rw [hE.off i hi, h2], by rw [hE.csz i hi, h3], h4, h5.mono hE⟩
  | ro vs sz =>
    obtain ⟨hs, h⟩ := h
    refine ⟨by rw [hE.esz i hi, hs], fun k v hk => ?_⟩
    obtain ⟨v', h1, h2⟩ := h k v hk
    refine ⟨v', ?_, h2.mono hE⟩
    rw [hE.blk i hi, hE.off i hi]
    rw [World.cell?_of_block (w := w) (hw (fun e => by subst e; simp at hk))]; exact h1
  | mp es =>
    obtain ⟨c, k, h1, h2, h3⟩ := h
    exact ⟨c, k, by rw [hE.blk i hi, hw trivial, h1], h2.mono hE, h3⟩
  | gone => trivial

theorem Owned.lt {E : Env} {h : AHeap} {w : World} (g : Good E h w) {b : Nat} (ho : Owned E h b) : b < w.heap.size := by
  obtain ⟨i, o, hi, ho, rfl⟩ := ho
  have := g.holds i o hi
  rcases Nat.lt_or_ge (E.blk i) w.heap.size with hl | hl
  · exact hl
  · have hn : w.heap[E.blk i]? = none := Array.getElem?_eq_none hl
    cases o with
    | cells vs e sz => obtain ⟨c, h1, _⟩ := this; simp [hn] at h1
    | row vs e sz => obtain ⟨c, h1, _⟩ := this.2 ho; simp [hn] at h1
    | mp es => obtain ⟨c, k, h1, _⟩ := this; simp [hn] at h1
    | ro vs sz => exact ho.elim
    | gone => exact ho.elim

theorem Evol.refl {m : Nat} (E : Env) (h : AHeap) (w : World) (hm : m ≤ E.n) : Evol m E h w E h w :=
  ⟨.refl _ hm, fun _ _ _ => rfl, fun _ h => .inr h, Nat.le_refl _, rfl, .refl _, rfl⟩

theorem Evol.le {m k : Nat} {E F : Env} {h h' : AHeap} {w w' : World} (a : Evol m E h w F h' w') (hk : k ≤ m) : Evol k E h w F h' w' :=
  ⟨a.agree.le hk, a.frame, a.own, a.size, a.os, a.tape, a.output⟩

theorem Evol.trans {m j : Nat} {E F G : Env} {h h' h'' : AHeap} {w w' w'' : World} (a : Evol m E h w F h' w') (b : Evol j F h' w' G h'' w'') (hm : m ≤ j) : Evol m E h w G h'' w'' where
  agree := a.agree.trans b.agree hm
  frame := fun x hx hn => by
    rw [b.frame x (Nat.lt_of_lt_of_le hx a.size) fun ho => by rcases a.own x ho with h1 | h1; · omega
                                                              · exact hn h1]
    exact a.frame x hx hn
  own := fun x ho => by
    rcases b.own x ho with h1 | h1
    · exact .inl (Nat.le_trans a.size h1)
    · exact a.own x h1
  size := Nat.le_trans a.size b.size
  os := b.os.trans a.os
  tape := a.tape.trans b.tape
  output := b.output.trans a.output

/-! Ids renamed. -/

def rn1 (τ : Nat → Nat) : Value → Value
  | .pointer (some a) => .pointer (some ⟨τ a.block, a.off, a.spot⟩)
  | .slice (some a) n c => .slice (some ⟨τ a.block, a.off, a.spot⟩) n c
  | .map (some i) => .map (some (τ i))
  | v => v

def rn2 (τ : Nat → Nat) : Value → Value
  | .agg ⟨l⟩ => .agg ⟨l.map (rn1 τ)⟩
  | .func fn ⟨f⟩ ⟨c⟩ => .func fn ⟨f.map (rn1 τ)⟩ ⟨c.map (rn1 τ)⟩
  | .iface t v => .iface t (rn1 τ v)
  | v => rn1 τ v

def rnV (τ : Nat → Nat) : Value → Value
  | .tuple ⟨l⟩ => .tuple ⟨l.map (rn2 τ)⟩
  | v => rn2 τ v

def rnO (τ : Nat → Nat) : AObj → AObj
  | .cells vs e sz => .cells (vs.map (rnV τ)) e sz
  | .row vs e sz => .row (vs.map (rnV τ)) e sz
  | .ro vs sz => .ro (vs.map (rnV τ)) sz
  | .mp es => .mp (es.map fun x => (rnV τ x.1, rnV τ x.2))
  | .gone => .gone

def up (N : Nat) : Nat → Nat := fun i => i + N

end Go.AX

namespace Go.AX

def okCell : Value → Bool
  | .bool _ | .int .. | .float .. | .string _ | .pointer none | .map none | .nilFunc | .nilIface | .slice none 0 0 | .func _ ⟨[]⟩ ⟨[]⟩ => true
  | _ => false

def okConst : Value → Bool
  | .agg ⟨l⟩ => l.all okCell
  | .tuple ⟨l⟩ => l.all okCell
  | v => okCell v

theorem rep_okCell {E : Env} : ∀ {v : Value}, okCell v = true → Rep E v v := by
  intro v h
  unfold okCell at h
  split at h
  case h_10 => exact .func _ [] [] [] [] .nil .nil
  case h_11 => simp at h
  all_goals constructor

theorem repL_okCell {E : Env} : ∀ {l : List Value}, l.all okCell = true → RepL E l l
  | [], _ => .nil
  | v :: l, h => by
    simp only [List.all_cons, Bool.and_eq_true] at h
    exact .cons _ _ _ _ (rep_okCell h.1) (repL_okCell h.2)

theorem rep_okConst {E : Env} {v : Value} (h : okConst v = true) : Rep E v v := by
  unfold okConst at h
  split at h
  · exact .agg _ _ (repL_okCell h)
  · exact .tuple _ _ (repL_okCell h)
  · exact rep_okCell h

theorem rep_undef (E : Env) : Rep E undef undef := .tuple [] [] .nil
inductive Tr where
  | leaf
  | node (v : Value) (l r : Tr)
  deriving Inhabited

noncomputable def Tr.get (d : Value) (t : Tr) : Nat → Value :=
  Tr.rec (fun _ => d) (fun v _ _ gl gr k => cond (Nat.beq k 0) v (cond (Nat.beq (Nat.mod k 2) 1) (gl (Nat.div k 2)) (gr (Nat.sub (Nat.div k 2) 1)))) t

noncomputable def Tr.set (d : Value) (f : Nat) : Tr → Nat → Value → Tr :=
  Nat.rec (fun t _ _ => t) (fun _ ih t k x => Tr.rec (motive := fun _ => Tr)
    (cond (Nat.beq k 0) (Tr.node x Tr.leaf Tr.leaf) (cond (Nat.beq (Nat.mod k 2) 1) (Tr.node d (ih Tr.leaf (Nat.div k 2) x) Tr.leaf) (Tr.node d Tr.leaf (ih Tr.leaf (Nat.sub (Nat.div k 2) 1) x))))
    (fun v l r _ _ => cond (Nat.beq k 0) (Tr.node x l r) (cond (Nat.beq (Nat.mod k 2) 1) (Tr.node v (ih l (Nat.div k 2) x) r) (Tr.node v l (ih r (Nat.sub (Nat.div k 2) 1) x)))) t) f

theorem Tr.get_leaf (d : Value) (k : Nat) : Tr.get d .leaf k = d := rfl
theorem Tr.get_node (d v : Value) (l r : Tr) (k : Nat) : Tr.get d (Tr.node v l r) k = if k = 0 then v else if k % 2 = 1 then Tr.get d l (k / 2) else Tr.get d r (k / 2 - 1) := by
  show cond (Nat.beq k 0) v (cond (Nat.beq (k % 2) 1) (Tr.get d l (k / 2)) (Tr.get d r (k / 2 - 1))) = _
  by_cases h : k = 0
  · subst h; rfl
  · rw [if_neg h]
    have hb0 : Nat.beq k 0 = false := by
      cases hb : Nat.beq k 0
      · rfl
      · exact absurd (Nat.eq_of_beq_eq_true hb) h
    rw [hb0]
    by_cases h2 : k % 2 = 1
    · rw [if_pos h2, h2]; rfl
    · rw [if_neg h2]
      cases hb : Nat.beq (k % 2) 1
      · rfl
      · exact absurd (Nat.eq_of_beq_eq_true hb) h2

theorem Tr.set_leaf (d : Value) (f k : Nat) (x : Value) : Tr.set d (f + 1) .leaf k x = if k = 0 then Tr.node x Tr.leaf Tr.leaf else if k % 2 = 1 then Tr.node d (Tr.set d f .leaf (k / 2) x) .leaf else Tr.node d Tr.leaf (Tr.set d f .leaf (k / 2 - 1) x) := by
  show cond (Nat.beq k 0) (Tr.node x Tr.leaf Tr.leaf) (cond (Nat.beq (k % 2) 1) (Tr.node d (Tr.set d f .leaf (k / 2) x) Tr.leaf) (Tr.node d Tr.leaf (Tr.set d f .leaf (k / 2 - 1) x))) = _
  cases hb : Nat.beq k 0
  · rw [if_neg (Nat.ne_of_beq_eq_false hb)]
    cases hc : Nat.beq (k % 2) 1
    · rw [if_neg (Nat.ne_of_beq_eq_false hc)]; rfl
    · rw [if_pos (Nat.eq_of_beq_eq_true hc)]; rfl
  · rw [if_pos (Nat.eq_of_beq_eq_true hb)]; rfl

theorem Tr.set_node (d : Value) (f k : Nat) (x v : Value) (l r : Tr) : Tr.set d (f + 1) (Tr.node v l r) k x = if k = 0 then Tr.node x l r else if k % 2 = 1 then Tr.node v (Tr.set d f l (k / 2) x) r else Tr.node v l (Tr.set d f r (k / 2 - 1) x) := by
  show cond (Nat.beq k 0) (Tr.node x l r) (cond (Nat.beq (k % 2) 1) (Tr.node v (Tr.set d f l (k / 2) x) r) (Tr.node v l (Tr.set d f r (k / 2 - 1) x))) = _
  cases hb : Nat.beq k 0
  · rw [if_neg (Nat.ne_of_beq_eq_false hb)]
    cases hc : Nat.beq (k % 2) 1
    · rw [if_neg (Nat.ne_of_beq_eq_false hc)]; rfl
    · rw [if_pos (Nat.eq_of_beq_eq_true hc)]; rfl
  · rw [if_pos (Nat.eq_of_beq_eq_true hb)]; rfl

theorem Tr.get_set (d x : Value) : ∀ (f : Nat) (t : Tr) (k k' : Nat), k + 1 < 2 ^ f → Tr.get d (Tr.set d f t k x) k' = if k' = k then x else Tr.get d t k'
  | 0, _, k, _, h => by simp at h
  | f + 1, .leaf, k, k', h => by
    rw [Tr.set_leaf]
    have hp : 2 ^ (f + 1) = 2 * 2 ^ f := by rw [Nat.pow_succ, Nat.mul_comm]
    by_cases h0 : k = 0
    · subst h0
      simp only [if_true, Tr.get_node, Tr.get_leaf]
      split <;> simp
    · rw [if_neg h0]
      by_cases h1 : k % 2 = 1
      · rw [if_pos h1, Tr.get_node, Tr.get_set d x f .leaf (k / 2) (k' / 2) (by omega)]
        simp only [Tr.get_leaf]
        by_cases e : k' = k
        · subst e; simp [h0, h1]
        · rw [if_neg e]
          split
          · rfl
          · split
            · rw [if_neg (by omega)]
            · rfl
      · rw [if_neg h1, Tr.get_node, Tr.get_set d x f .leaf (k / 2 - 1) (k' / 2 - 1) (by omega)]
        simp only [Tr.get_leaf]
        by_cases e : k' = k
        · subst e; simp [h0, h1]
        · rw [if_neg e]
          split
          · rfl
          · split
            · rfl
            · rw [if_neg (by omega)]
  | f + 1, .node v l r, k, k', h => by
    rw [Tr.set_node]
    have hp : 2 ^ (f + 1) = 2 * 2 ^ f := by rw [Nat.pow_succ, Nat.mul_comm]
    by_cases h0 : k = 0
    · subst h0
      simp only [if_true, Tr.get_node]
      split <;> simp_all
    · rw [if_neg h0]
      by_cases h1 : k % 2 = 1
      · rw [if_pos h1, Tr.get_node, Tr.get_node, Tr.get_set d x f l (k / 2) (k' / 2) (by omega)]
        by_cases e : k' = k
        · subst e; simp [h0, h1]
        · rw [if_neg e]
          split
          · rfl
          · split
            · rw [if_neg (by omega)]
            · rfl
      · rw [if_neg h1, Tr.get_node, Tr.get_node, Tr.get_set d x f r (k / 2 - 1) (k' / 2 - 1) (by omega)]
        by_cases e : k' = k
        · subst e; simp [h0, h1]
        · rw [if_neg e]
          split
          · rfl
          · split
            · rfl
            · rw [if_neg (by omega)]
structure Tm where
  n : Nat
  d : Value
  t : Tr

noncomputable def Tm.get (T : Tm) (k : Nat) : Value := Tr.get T.d T.t k
noncomputable def Tm.put (T : Tm) (k : Nat) (x : Value) : Tm := cond (Nat.blt k T.n) { T with t := Tr.set T.d 12 T.t k x } T

structure RepT (E : Env) (T : Tm) (a : Array Value) : Prop where
  n : T.n = a.size
  le : T.n ≤ 4000
  get : ∀ k, Rep E (T.get k) (a.getD k undef)

theorem Tm.get_put (T : Tm) (k k' : Nat) (x : Value) (hn : T.n ≤ 4000) : (T.put k x).get k' = if k' = k ∧ k < T.n then x else T.get k' := by
  unfold Tm.put
  cases hb : Nat.blt k T.n
  · have : ¬ k < T.n := fun h => by have := Nat.ble_eq_true_of_le h; unfold Nat.blt at hb; rw [this] at hb; exact Bool.noConfusion hb
    simp [this]
  · have hk : k < T.n := Nat.le_of_ble_eq_true hb
    simp only [cond_true, Tm.get]
    rw [Tr.get_set _ _ _ _ _ _ (by omega)]
    simp [hk]

theorem Tm.put_n (T : Tm) (k : Nat) (x : Value) : (T.put k x).n = T.n := by
  unfold Tm.put; cases Nat.blt k T.n <;> rfl

theorem RepT.put {E : Env} {T : Tm} {a : Array Value} (h : RepT E T a) (k : Nat) {x x' : Value} (hx : Rep E x x') : RepT E (T.put k x) (a.setIfInBounds k x') where
  n := by rw [Tm.put_n, Array.size_setIfInBounds]; exact h.n
  le := by rw [Tm.put_n]; exact h.le
  get := fun j => by
    rw [Tm.get_put _ _ _ _ h.le]
    have hg := h.get j
    by_cases hj : j = k ∧ k < T.n
    · rw [if_pos hj]
      obtain ⟨rfl, hk⟩ := hj
      rw [h.n] at hk
      rw [Array.getD_eq_getD_getElem?, Array.getElem?_setIfInBounds_self_of_lt hk]
      exact hx
    · rw [if_neg hj]
      by_cases e : j = k
      · subst e
        have : ¬ j < a.size := fun hh => hj ⟨rfl, by rw [h.n]; exact hh⟩
        rw [Array.setIfInBounds_eq_of_size_le (by omega)]
        exact hg
      · rw [Array.getD_eq_getD_getElem?] at hg ⊢
        rw [Array.getElem?_setIfInBounds_ne (Ne.symm e)]
        exact hg

theorem RepT.mono {E E' : Env} (hE : Env.Agree E.n E E') {T : Tm} {a : Array Value} (h : RepT E T a) : RepT E' T a := ⟨h.n, h.le, fun k => (h.get k).mono hE⟩

noncomputable def opd (ts : Tm) : Operand → Option Value
  | .tmp t => some (ts.get t)
  | .const v => if okConst v then some v else none
  | .func f => some (.func (.func f) ⟨[]⟩ ⟨[]⟩)
  | .global _ => none

theorem opd_sound {E : Env} {ts : Tm} {a : Act} (hr : RepT E ts a.tmps) {x : Operand} {v : Value} (h : opd ts x = some v) : Rep E v (a.eval x) := by
  cases x with
  | tmp t =>
    simp only [opd, Option.some.injEq] at h
    subst h
    exact hr.get t
  | const c =>
    simp only [opd] at h
    split at h
    · rename_i hc
      simp only [Option.some.injEq] at h
      subst h
      exact rep_okConst hc
    · simp at h
  | global g => simp [opd] at h
  | func f =>
    simp only [opd, Option.some.injEq] at h
    subst h
    exact .func _ [] [] [] [] .nil .nil
inductive Hint where
  | none
  | cells (l : List Value)
  | val (v : Value)
  | str (s : ByteArray)
  | bool (b : Bool)
  deriving Inhabited

abbrev PRes := Option (List Prop × Value)

def ret (v : Value) : PRes := some ([], v)

def AllP : List Prop → Prop
  | [] => True
  | p :: l => p ∧ AllP l
def D (p : Prop) [Decidable p] : Prop := decide p = true
theorem D_iff {p : Prop} [Decidable p] : D p ↔ p := decide_eq_true_iff
def bs : List Bool → List Prop
  | [] => []
  | b :: l => match b with
    | true => bs l
    | false => (false = true) :: bs l

theorem bs_all : ∀ {l : List Bool}, AllP (bs l) → AllP (l.map fun b => b = true)
  | [], _ => trivial
  | true :: l, h => ⟨rfl, bs_all (l := l) h⟩
  | false :: l, h => ⟨h.1, bs_all (l := l) h.2⟩

theorem AllP.append {l m : List Prop} (h : AllP (l ++ m)) : AllP l ∧ AllP m := by
  induction l with
  | nil => exact ⟨trivial, h⟩
  | cons p l ih => exact ⟨⟨h.1, (ih h.2).1⟩, (ih h.2).2⟩

def sizeT (P : Program) (t : TypeId) : Option Nat := (P.info? t).map (·.size)
def isAggD : TypeDesc → Bool
  | .struct _ | .array _ _ => true
  | _ => false

def ibits (op : BinOp) (k : IntKind) (x y : Int) : Int :=
  let a := BitVec.ofInt k.bits x
  let b := BitVec.ofInt k.bits y
  match op with
  | .and => k.wrap (a &&& b).toNat
  | .or => k.wrap (a ||| b).toNat
  | .xor => k.wrap (a ^^^ b).toNat
  | _ => k.wrap (a &&& ~~~b).toNat

def ishl (k : IntKind) (x y : Int) : Int := k.wrap (x * 2 ^ (min y.toNat k.bits))
def ishr (k : IntKind) (x y : Int) : Int := x.fdiv (2 ^ (min y.toNat k.bits))

def evInt (op : BinOp) (k : IntKind) (a b : Int) : PRes :=
  match op with
  | .add => ret (.int k (k.wrap (a + b)))
  | .sub => ret (.int k (k.wrap (a - b)))
  | .mul => ret (.int k (k.wrap (a * b)))
  | .quo => some (bs [decide (b ≠ 0)], .int k (k.wrap (a.tdiv b)))
  | .rem => some (bs [decide (b ≠ 0)], .int k (a.tmod b))
  | .and => ret (.int k (ibits .and k a b))
  | .or => ret (.int k (ibits .or k a b))
  | .xor => ret (.int k (ibits .xor k a b))
  | .andNot => ret (.int k (ibits .andNot k a b))
  | .eql => ret (.bool (a == b))
  | .neq => ret (.bool (a != b))
  | .lss => ret (.bool (decide (a < b)))
  | .leq => ret (.bool (decide (a ≤ b)))
  | .gtr => ret (.bool (decide (a > b)))
  | .geq => ret (.bool (decide (a ≥ b)))
  | .shl => some (bs [decide (0 ≤ b)], .int k (ishl k a b))
  | .shr => some (bs [decide (0 ≤ b)], .int k (ishr k a b))

def evStr (op : BinOp) (x y : ByteArray) : PRes :=
  match op with
  | .add => some (bs [decide (x.size + y.size ≤ 9223372036854775807)], .string (x ++ y))
  | .eql => ret (.bool (x.toList == y.toList))
  | .neq => ret (.bool (!(x.toList == y.toList)))
  | .lss => ret (.bool (Op.bytesLess x.toList y.toList))
  | .leq => ret (.bool (Op.bytesLess x.toList y.toList || x.toList == y.toList))
  | .gtr => ret (.bool (!(Op.bytesLess x.toList y.toList || x.toList == y.toList)))
  | .geq => ret (.bool (!(Op.bytesLess x.toList y.toList)))
  | _ => none
def evEq (d : TypeDesc) (x y : Value) : Option Bool :=
  match d, x, y with
  | .bool, .bool a, .bool b => some (a == b)
  | .pointer _, .pointer none, .pointer none => some true
  | .pointer _, .pointer none, .pointer (some _) => some false
  | .pointer _, .pointer (some _), .pointer none => some false
  | .slice _, .slice none _ _, .slice none _ _ => some true
  | .slice _, .slice none _ _, .slice (some _) n _ => if 0 < n then some false else none
  | .slice _, .slice (some _) n _, .slice none _ _ => if 0 < n then some false else none
  | .map _ _, .map none, .map none => some true
  | .map _ _, .map none, .map (some _) => some false
  | .map _ _, .map (some _), .map none => some false
  | .func _ _ _, .nilFunc, .nilFunc => some true
  | .func _ _ _, .nilFunc, .func _ _ _ => some false
  | .func _ _ _, .func _ _ _, .nilFunc => some false
  | .interface _, .nilIface, .iface _ _ => some false
  | .interface _, .iface _ _, .nilIface => some false
  | _, _, _ => none

def evBin (P : Program) (op : BinOp) (t : TypeId) (x y : Value) : PRes :=
  match x, y with
  | .int k a, .int k' b =>
    match op with
    | .shl => evInt .shl k a b
    | .shr => evInt .shr k a b
    | _ => if k = k' then evInt op k a b else none
  | .string a, .string b => evStr op a b
  | x, y =>
    match op, P.underlying t with
    | .eql, some d => (evEq d x y).map fun b => ([], .bool b)
    | .neq, some d => (evEq d x y).map fun b => ([], .bool (!b))
    | _, _ => none

theorem evInt_sound {P : Program} {op : BinOp} {t : TypeId} {k k' : IntKind} {a b : Int} {obs : List Prop} {v : Value} (w : World)
    (h : evInt op k a b = some (obs, v)) (ho : AllP obs) (hk : k = k' ∨ op = .shl ∨ op = .shr) : (binOp op t (.int k a) (.int k' b)).run P w = .ok v w := by
  cases op <;> simp only [evInt, ret, Option.some.injEq, Prod.mk.injEq] at h <;> obtain ⟨rfl, rfl⟩ := h
  case shl =>
    have := D_iff.1 (bs_all ho).1
    simp [binOp, Op.shift, ishl, Int.not_lt.2 this]
  case shr =>
    have := D_iff.1 (bs_all ho).1
    simp [binOp, Op.shift, ishr, Int.not_lt.2 this]
  all_goals
    have hk : k = k' := by simpa using hk
    subst hk
  case quo => simp [binOp, Op.intDiv, D_iff.1 (bs_all ho).1]
  case rem => simp [binOp, Op.intDiv, D_iff.1 (bs_all ho).1]
  all_goals simp [binOp, Op.intArith, Op.intBits, Op.intCmp, ibits]

theorem evStr_sound {P : Program} {op : BinOp} {t : TypeId} {a b : ByteArray} {obs : List Prop} {v : Value} (w : World)
    (h : evStr op a b = some (obs, v)) (ho : AllP obs) : (binOp op t (.string a) (.string b)).run P w = .ok v w := by
  cases op <;> simp only [evStr, ret, Option.some.injEq, Prod.mk.injEq, reduceCtorEq] at h <;> obtain ⟨rfl, rfl⟩ := h
  case add =>
    have h1 := D_iff.1 (bs_all ho).1
    have : ¬ (((a.size + b.size : Nat) : Int) > IntKind.i64.max) := by
      have e : IntKind.i64.max = 9223372036854775807 := by decide
      rw [e]; omega
    simp only [binOp, Op.stringOp]
    rw [if_neg this]
    rfl
  all_goals rfl

theorem evEq_at {P : Program} {E : Env} {t : TypeId} {d : TypeDesc} {x y x' y' : Value} {b : Bool} (w : World) (n : Nat) (hd : P.underlying t = some d)
    (h : evEq d x y = some b) (hx : Rep E x x') (hy : Rep E y y') : (Op.equalIn (n + 1) t x' y').run P w = .ok b w := by
  unfold evEq at h
  unfold Op.equalIn
  simp only [Sem.run_bind, run_underlying hd, Result.andThen_ok]
  split at h
  case h_6 =>
    split at h
    · rename_i h0
      simp only [Option.some.injEq] at h; subst h
      cases hx; cases hy
      all_goals first | omega | (rename_i ha _ _; rw [ha h0]; rfl) | (rename_i ha _; rw [ha h0]; rfl) | rfl
    · simp at h
  case h_7 =>
    split at h
    · rename_i h0
      simp only [Option.some.injEq] at h; subst h
      cases hy; cases hx
      all_goals first | omega | (rename_i ha _ _; rw [ha h0]; rfl) | (rename_i ha _; rw [ha h0]; rfl) | rfl
    · simp at h
  all_goals (simp only [Option.some.injEq, reduceCtorEq] at h <;> subst h <;> cases hx <;> cases hy <;> rfl)

theorem evEq_sound {P : Program} {E : Env} {t : TypeId} {d : TypeDesc} {x y x' y' : Value} {b : Bool} (w : World) (hd : P.underlying t = some d)
    (h : evEq d x y = some b) (hx : Rep E x x') (hy : Rep E y y') : (Op.equal t x' y').run P w = .ok b w := evEq_at w 9999 hd h hx hy
def plainV : Value → Bool
  | .int .. | .float .. | .complex .. | .string _ => false
  | _ => true

def BothOther (x y : Value) : Prop := (x = .nilIface → y ≠ .nilIface) ∧ (∀ c, x = .agg c → ∀ d, y ≠ .agg d)

theorem evEq_form {E : Env} {d : TypeDesc} {x y x' y' : Value} {b : Bool} (h : evEq d x y = some b) (hx : Rep E x x') (hy : Rep E y y') : (plainV x' = true ∧ plainV y' = true) ∧ BothOther x' y' := by
  unfold evEq at h
  split at h <;> first | (simp at h; done) | (cases hx <;> cases hy <;> exact ⟨⟨rfl, rfl⟩, by simp [BothOther]⟩)

theorem binOp_eq {P : Program} {t : TypeId} {x y : Value} {b : Bool} (w : World) (hf : plainV x = true ∧ plainV y = true) (h : (Op.equal t x y).run P w = .ok b w) : (binOp .eql t x y).run P w = .ok (.bool b) w := by
  obtain ⟨h1, h2⟩ := hf
  cases x <;> first | (simp [plainV] at h1; done) | (cases y <;> first | (simp [plainV] at h2; done) | (simp only [binOp, Sem.run_bind, h]; rfl))

theorem binOp_ne {P : Program} {t : TypeId} {x y : Value} {b : Bool} (w : World) (hf : plainV x = true ∧ plainV y = true) (h : (Op.equal t x y).run P w = .ok b w) : (binOp .neq t x y).run P w = .ok (.bool (!b)) w := by
  obtain ⟨h1, h2⟩ := hf
  cases x <;> first | (simp [plainV] at h1; done) | (cases y <;> first | (simp [plainV] at h2; done) | (simp only [binOp, Sem.run_bind, h]; rfl))

theorem evBin_form {P : Program} {E : Env} {op : BinOp} {t : TypeId} {x y x' y' : Value} {r : List Prop × Value} (h : evBin P op t x y = some r) (hop : op = .eql ∨ op = .neq) (hx : Rep E x x') (hy : Rep E y y') : BothOther x' y' := by
  unfold evBin at h
  split at h
  · cases hx; exact ⟨by simp, by simp⟩
  · cases hx; exact ⟨by simp, by simp⟩
  · split at h
    · obtain ⟨b, hb, _⟩ := Option.map_eq_some_iff.1 h
      exact (evEq_form hb hx hy).2
    · obtain ⟨b, hb, _⟩ := Option.map_eq_some_iff.1 h
      exact (evEq_form hb hx hy).2
    · simp at h

theorem evBin_sound {P : Program} {E : Env} {op : BinOp} {t : TypeId} {x y x' y' : Value} {obs : List Prop} {v : Value} (w : World)
    (h : evBin P op t x y = some (obs, v)) (ho : AllP obs) (hx : Rep E x x') (hy : Rep E y y') : (binOp op t x' y').run P w = .ok v w ∧ Rep E v v := by
  unfold evBin at h
  split at h
  · cases hx; cases hy
    have hv : Rep E v v := by
      split at h
      · simp only [evInt, Option.some.injEq, Prod.mk.injEq] at h; obtain ⟨_, rfl⟩ := h; constructor
      · simp only [evInt, Option.some.injEq, Prod.mk.injEq] at h; obtain ⟨_, rfl⟩ := h; constructor
      · split at h
        · unfold evInt at h
          split at h <;> simp only [ret, Option.some.injEq, Prod.mk.injEq] at h <;> obtain ⟨_, rfl⟩ := h <;> constructor
        · simp at h
    refine ⟨?_, hv⟩
    split at h
    · exact evInt_sound w h ho (.inr (.inl rfl))
    · exact evInt_sound w h ho (.inr (.inr rfl))
    · split at h
      · rename_i hk
        exact evInt_sound w h ho (.inl hk)
      · simp at h
  · cases hx; cases hy
    refine ⟨evStr_sound w h ho, ?_⟩
    unfold evStr at h
    split at h <;> simp only [ret, Option.some.injEq, Prod.mk.injEq, reduceCtorEq] at h <;> obtain ⟨_, rfl⟩ := h <;> constructor
  · rename_i hne1 hne2
    split at h
    · rename_i d hd
      simp only [Option.map_eq_some_iff, Prod.mk.injEq] at h
      obtain ⟨b, hb, rfl, rfl⟩ := h
      refine ⟨?_, .bool _⟩
      have := evEq_sound (P := P) w hd hb hx hy
      exact binOp_eq w (evEq_form hb hx hy).1 this
    · rename_i d hd
      simp only [Option.map_eq_some_iff, Prod.mk.injEq] at h
      obtain ⟨b, hb, rfl, rfl⟩ := h
      refine ⟨?_, .bool _⟩
      have := evEq_sound (P := P) w hd hb hx hy
      exact binOp_ne w (evEq_form hb hx hy).1 this
    · simp at h

end Go.AX

namespace Go.AX
set_option linter.unusedSimpArgs false
set_option linter.unusedVariables false

def evPick (hint : Hint) (c a b : Value) : PRes :=
  match c with
  | .bool t =>
    match hint with
    | .bool true => some ([t = true], a)
    | .bool false => some ([t = false], b)
    | _ =>
      match a, b with
      | .bool x, .bool y => ret (.bool (cond t x y))
      | a, b => match t with
        | true => ret a
        | false => ret b
  | _ => none

def evNil (x : Value) : PRes :=
  match x with
  | .pointer (some a) => ret (.pointer (some a))
  | _ => none

def evUn (op : UnOp) (x : Value) : PRes :=
  match op, x with
  | .neg, .int k n => ret (.int k (k.wrap (0 - n)))
  | .xor, .int k n => ret (.int k (ibits .xor k (if k.signed then -1 else k.max) n))
  | .not, .bool b => ret (.bool (!b))
  | _, _ => none

def evConv (P : Program) (s d : TypeId) (x : Value) : PRes :=
  match P.underlying s, P.underlying d, x with
  | some _, some (.int k), .int _ n => ret (.int k (k.wrap n))
  | some _, some .string, .string b => ret (.string b)
  | _, _, _ => none

def evField (P : Program) (t : TypeId) (x : Value) (f : Nat) : PRes :=
  match P.underlying t, x with
  | some (.struct fs), .agg ⟨cs⟩ =>
    match fs[f]? with
    | some fd =>
      match P.underlying fd.type, sizeT P fd.type with
      | some d, some n =>
        if isAggD d then ret (.agg ⟨(cs.drop fd.offset).take n⟩)
        else (cs[fd.offset]?).map fun v => ([], v)
      | _, _ => none
    | none => none
  | _, _ => none

def evFieldAddr (P : Program) (t : TypeId) (x : Value) (f : Nat) : PRes :=
  match P.underlying t, x with
  | some (.struct fs), .pointer (some ⟨i, o, none⟩) =>
    match fs[f]? with
    | some fd =>
      match sizeT P fd.type with
      | some n => if n = 0 then none else ret (.pointer (some ⟨i, o + fd.offset, none⟩))
      | none => none
    | none => none
  | _, _ => none

def evIndexAddr (P : Program) (t : TypeId) (x i : Value) : PRes :=
  match i, P.underlying t, x with
  | .int _ k, some (.array len e), .pointer (some ⟨b, o, none⟩) =>
    (sizeT P e).map fun n => (bs [decide (0 ≤ k ∧ k < len)], .pointer (some ⟨b, o + k.toNat * n, none⟩))
  | .int _ k, some (.slice e), .slice (some ⟨b, o, none⟩) len _ =>
    (sizeT P e).map fun n => (bs [decide (0 ≤ k ∧ k < len)], .pointer (some ⟨b, o + k.toNat * n, none⟩))
  | _, _, _ => none

def byteAt (s : ByteArray) (i : Int) : Int := ((s.data.toList.getD i.toNat 0).toNat : Int)

def evIndex (P : Program) (hint : Hint) (t : TypeId) (x i : Value) : PRes :=
  match i, P.underlying t, x with
  | .int _ k, some (.array len e), .agg ⟨cs⟩ =>
    match P.underlying e, sizeT P e with
    | some d, some n =>
      match isAggD d, hint with
      | true, .cells l => some ([D (0 ≤ k ∧ k < len), (cs.drop (k.toNat * n)).take n = l], .agg ⟨l⟩)
      | true, _ => some (bs [decide (0 ≤ k ∧ k < len)], .agg ⟨(cs.drop (k.toNat * n)).take n⟩)
      | false, .val v => some ([D (0 ≤ k ∧ k < len), cs[k.toNat * n]? = some v], v)
      | false, _ => (cs[k.toNat * n]?).map fun v => (bs [decide (0 ≤ k ∧ k < len)], v)
    | _, _ => none
  | .int _ k, some .string, .string s => some (bs [decide (0 ≤ k ∧ k < s.size)], .int .u8 (byteAt s k))
  | _, _, _ => none

def evExtract (x : Value) (i : Nat) : PRes :=
  match x with
  | .tuple ⟨c :: d :: cs⟩ => ((c :: d :: cs)[i]?).map fun v => ([], v)
  | _ => none

def optInt : Option Value → Option (Option Int)
  | none => some none
  | some (.int _ n) => some (some n)
  | _ => none

def evSliceS (s : ByteArray) (lo hi : Option Int) : PRes :=
  let l := (lo.getD 0)
  let h := (hi.getD s.size)
  some (bs [decide (0 ≤ l ∧ l ≤ h), decide (h ≤ s.size)], .string (s.extract l.toNat h.toNat))
def evSliceL (i o n c size : Nat) (lo hi mx : Option Int) : PRes :=
  let l := (lo.getD 0)
  let h := (hi.getD n)
  match mx with
  | none =>
    if c = UNK then some (bs [decide (0 ≤ l ∧ l ≤ h), decide (h ≤ n)], .slice (some ⟨i, o + l.toNat * size, none⟩) (h - l).toNat UNR)
    else if c = UNR then some (bs [decide (0 ≤ l ∧ l ≤ h), decide (h ≤ n)], .slice (some ⟨i, o + l.toNat * size, none⟩) (h - l).toNat UNR)
    else some (bs [decide (0 ≤ l ∧ l ≤ h), decide (h ≤ n)], .slice (some ⟨i, o + l.toNat * size, none⟩) (h - l).toNat (c - l.toNat))
  | some m => some (bs [decide (0 ≤ l ∧ l ≤ h), decide (h ≤ m), decide (m ≤ n), decide ((m - l).toNat < UNK), decide (hi ≠ none)], .slice (some ⟨i, o + l.toNat * size, none⟩) (h - l).toNat (m - l).toNat)

def szOf (h : AHeap) (i : Nat) : Option Nat :=
  match h[i]? with
  | some (.cells _ _ sz) | some (.row _ _ sz) | some (.ro _ sz) => some sz
  | _ => none

def evSlice (P : Program) (hp : AHeap) (t : TypeId) (x : Value) (lo hi mx : Option Value) : PRes :=
  match P.underlying t, x, optInt lo, optInt hi, optInt mx with
  | some .string, .string s, some l, some h, some none => evSliceS s l h
  | some (.slice e), .slice (some ⟨i, o, none⟩) n c, some l, some h, some m =>
    match sizeT P e, szOf hp i with
    | some size, some sz => if sz = size then evSliceL i o n c size l h m else none
    | _, _ => none
  | some (.slice e), .slice none 0 0, some l, some h, some m => (sizeT P e).map fun _ => (bs [decide (l.getD 0 = 0), decide (h.getD 0 = 0), decide (m.getD 0 = 0), decide (m ≠ none → h ≠ none)], .slice none 0 0)
  | _, _, _, _, _ => none

section
variable {P : Program} {E : Env}

theorem run_sizeOf {t : TypeId} {n : Nat} (h : sizeT P t = some n) (w : World) : (sizeOf t).run P w = .ok n w := by
  obtain ⟨i, hi, rfl⟩ := Option.map_eq_some_iff.1 h
  simp [sizeOf, typeInfo, hi]

theorem run_isAgg {t : TypeId} {d : TypeDesc} (h : P.underlying t = some d) (w : World) : (isAgg t).run P w = .ok (isAggD d) w := by
  simp only [isAgg, Sem.run_bind, run_underlying h, Result.andThen_ok]
  cases d <;> rfl

theorem evPick_sound {hint : Hint} {c a b c' a' b' : Value} {obs : List Prop} {v : Value} (w : World) (h : evPick hint c a b = some (obs, v)) (ho : AllP obs)
    (hc : Rep E c c') (ha : Rep E a a') (hb : Rep E b b') : ∃ v', ((do pure (if ← asBool c' then a' else b') : Sem Value)).run P w = .ok v' w ∧ Rep E v v' := by
  unfold evPick at h
  split at h
  · rename_i t
    cases hc
    split at h
    · simp only [Option.some.injEq, Prod.mk.injEq] at h; obtain ⟨rfl, rfl⟩ := h
      have := ho.1; subst this
      exact ⟨a', by simp [asBool], ha⟩
    · simp only [Option.some.injEq, Prod.mk.injEq] at h; obtain ⟨rfl, rfl⟩ := h
      have := ho.1; subst this
      exact ⟨b', by simp [asBool], hb⟩
    · split at h
      · simp only [ret, Option.some.injEq, Prod.mk.injEq] at h; obtain ⟨rfl, rfl⟩ := h
        cases ha; cases hb
        cases t
        · exact ⟨_, by simp [asBool], .bool _⟩
        · exact ⟨_, by simp [asBool], .bool _⟩
      · split at h <;> simp only [ret, Option.some.injEq, Prod.mk.injEq] at h <;> obtain ⟨rfl, rfl⟩ := h
        · exact ⟨a', by simp [asBool], ha⟩
        · exact ⟨b', by simp [asBool], hb⟩
  · simp at h

theorem evUn_sound {op : UnOp} {x x' v : Value} {obs : List Prop} (w : World) (h : evUn op x = some (obs, v)) (hx : Rep E x x') :
    (Op.unary op x').run P w = .ok v w ∧ Rep E v v := by
  unfold evUn at h
  split at h <;> simp only [ret, Option.some.injEq, Prod.mk.injEq, reduceCtorEq] at h <;> obtain ⟨_, rfl⟩ := h <;> cases hx
  · exact ⟨by simp [Op.unary, Op.intArith], .int _ _⟩
  · exact ⟨by simp [Op.unary, Op.intBits, ibits], .int _ _⟩
  · exact ⟨by simp [Op.unary], .bool _⟩

theorem evConv_sound {s d : TypeId} {x x' v : Value} {obs : List Prop} (w : World) (h : evConv P s d x = some (obs, v)) (hx : Rep E x x') :
    (convert s d x').run P w = .ok v w ∧ Rep E v v := by
  unfold evConv at h
  split at h <;> simp only [ret, Option.some.injEq, Prod.mk.injEq, reduceCtorEq] at h <;> obtain ⟨e1, rfl⟩ := h <;> clear e1 <;> cases hx
  · rename_i ds k n h1 h2
    refine ⟨?_, .int _ _⟩
    simp only [convert, Sem.run_bind, run_underlying h1, run_underlying h2, Result.andThen_ok]
    rfl
  · rename_i h1 h2
    refine ⟨?_, .str _⟩
    simp only [convert, Sem.run_bind, run_underlying h1, run_underlying h2, Result.andThen_ok]
    rfl

theorem part_sound {e : TypeId} {d : TypeDesc} {n off : Nat} {cs cs' : List Value} (w : World) (hd : P.underlying e = some d) (hn : sizeT P e = some n) (hc : RepL E cs cs') {v : Value}
    (hv : if isAggD d = true then v = .agg ⟨(cs.drop off).take n⟩ else cs[off]? = some v) : ∃ v', (part e ⟨cs'⟩ off).run P w = .ok v' w ∧ Rep E v v' := by
  by_cases hg : isAggD d = true
  · rw [if_pos hg] at hv
    subst hv
    refine ⟨.agg ⟨(cs'.drop off).take n⟩, ?_, .agg _ _ ((hc.drop off).take n)⟩
    simp only [part, Sem.run_bind, run_isAgg hd, Result.andThen_ok, hg, if_true, run_sizeOf hn, Sem.run_pure]
    congr 2
    apply Array.ext'
    simp [Array.toList_extract, List.extract_eq_take_drop]
  · rw [if_neg hg] at hv
    obtain ⟨v', h1, h2⟩ := hc.get hv
    refine ⟨v', ?_, h2⟩
    simp [part, run_isAgg hd, hg, h1]

theorem evField_sound {t : TypeId} {x x' v : Value} {f : Nat} {obs : List Prop} (w : World) (h : evField P t x f = some (obs, v)) (hx : Rep E x x') :
    ∃ v', (Instr.field t x' f).run P w = .ok v' w ∧ Rep E v v' := by
  unfold evField at h
  split at h
  · rename_i fs cs hu
    split at h
    · rename_i fd hf
      split at h
      · rename_i d n hd hn
        cases hx with
        | agg _ cs' hc =>
          have key := part_sound (P := P) (E := E) (e := fd.type) (n := n) (off := fd.offset) w hd hn hc (v := v) (by
            split at h
            · rename_i hg
              simp only [ret, Option.some.injEq, Prod.mk.injEq] at h
              rw [if_pos hg]; exact h.2.symm
            · rename_i hg
              simp only [Option.map_eq_some_iff, Prod.mk.injEq] at h
              obtain ⟨u, h1, _, rfl⟩ := h
              rw [if_neg hg]; exact h1)
          obtain ⟨v', h1, h2⟩ := key
          refine ⟨v', ?_, h2⟩
          simp only [Instr.field, Sem.run_bind, run_underlying hu, Result.andThen_ok, hf, asAgg, Sem.run_pure, h1]
      · simp at h
    · simp at h
  · simp at h

theorem Addr.add_none (b o n : Nat) : (⟨b, o, none⟩ : Addr).add n = ⟨b, o + n, none⟩ := by
  unfold Addr.add
  split
  · rename_i h; subst h; rfl
  · rfl

theorem evFieldAddr_sound {t : TypeId} {x x' v : Value} {f : Nat} {obs : List Prop} (w : World) (h : evFieldAddr P t x f = some (obs, v)) (hx : Rep E x x') :
    ∃ v', (Instr.fieldAt t x' f).run P w = .ok v' w ∧ Rep E v v' := by
  unfold evFieldAddr at h
  split at h
  · rename_i fs i o hu
    split at h
    · rename_i fd hf
      split at h
      · rename_i n hn
        split at h
        · simp at h
        · rename_i hn0
          simp only [ret, Option.some.injEq, Prod.mk.injEq] at h
          obtain ⟨_, rfl⟩ := h
          cases hx with
          | ptr _ _ hi =>
            refine ⟨_, ?_, .ptr i (o + fd.offset) hi⟩
            simp only [Instr.fieldAt, Sem.run_bind, run_underlying hu, Result.andThen_ok, hf, Instr.sureAddr, Sem.run_pure, fieldPlace, run_sizeOf hn, if_neg hn0, Addr.add_none, Nat.add_assoc]
      · simp at h
    · simp at h
  · simp at h

theorem evIndexAddr_sound {t : TypeId} {x x' i i' v : Value} {obs : List Prop} (w : World) (h : evIndexAddr P t x i = some (obs, v)) (ho : AllP obs) (hx : Rep E x x') (hi : Rep E i i') :
    ∃ v', (Instr.indexAt t x' i').run P w = .ok v' w ∧ Rep E v v' := by
  unfold evIndexAddr at h
  split at h
  · rename_i k len e b o hu
    simp only [Option.map_eq_some_iff, Prod.mk.injEq] at h
    obtain ⟨n, hn, rfl, rfl⟩ := h
    cases hx with
    | ptr _ _ hb =>
      cases hi
      have hk := D_iff.1 (bs_all ho).1
      refine ⟨_, ?_, .ptr b (o + k.toNat * n) hb⟩
      simp only [Instr.indexAt, asIntOf, Sem.run_bind, Sem.run_pure, run_underlying hu, Result.andThen_ok, Instr.sureAddr, if_pos hk, run_sizeOf hn, Addr.add_none, Nat.add_assoc]
  · rename_i k e b o len c hu
    simp only [Option.map_eq_some_iff, Prod.mk.injEq] at h
    obtain ⟨n, hn, rfl, rfl⟩ := h
    have hk := D_iff.1 (bs_all ho).1
    have key : ∃ c', x' = .slice (some ⟨E.blk b, E.off b + o, none⟩) len c' ∧ b < E.n := by
      cases hx with
      | slX _ _ _ _ a' hb ha hn hc => exact ⟨c, by rw [ha (by omega)], hb⟩
      | slU _ _ c' hb h0 hn hz => exact ⟨c', rfl, hb⟩
      | slE _ hb => omega
      | slR _ _ _ c' a' hb ha hn => exact ⟨c', by rw [ha (by omega)], hb⟩
    obtain ⟨c', rfl, hb⟩ := key
    cases hi
    refine ⟨_, ?_, .ptr b (o + k.toNat * n) hb⟩
    simp only [Instr.indexAt, asIntOf, Sem.run_bind, Sem.run_pure, run_underlying hu, Result.andThen_ok, if_pos hk, run_sizeOf hn, Addr.add_none, Nat.add_assoc]
  · simp at h

theorem byteAt_get {s : ByteArray} {k : Int} (h0 : 0 ≤ k) (h1 : k < s.size) : ∃ b : UInt8, s[k.toNat]? = some b ∧ byteAt s k = (b.toNat : Int) := by
  have hl : k.toNat < s.data.toList.length := by
    have : s.data.toList.length = s.size := Array.length_toList
    omega
  refine ⟨s.data.toList[k.toNat], ?_, ?_⟩
  · have hs : k.toNat < s.size := by omega
    rw [getElem?_pos s k.toNat hs]
    rfl
  · simp [byteAt, List.getD, List.getElem?_eq_getElem hl]

theorem evIndex_sound {hint : Hint} {t : TypeId} {x x' i i' v : Value} {obs : List Prop} (w : World) (h : evIndex P hint t x i = some (obs, v)) (ho : AllP obs) (hx : Rep E x x') (hi : Rep E i i') :
    ∃ v', (Instr.index t x' i').run P w = .ok v' w ∧ Rep E v v' := by
  unfold evIndex at h
  split at h
  · rename_i k len e cs hu
    cases hi
    cases hx with
    | agg _ cs' hc =>
      split at h
      · rename_i d n hd hn
        have key : ∀ {u : Value}, (0 ≤ k ∧ k < len) → (if isAggD d = true then u = .agg ⟨(cs.drop (k.toNat * n)).take n⟩ else cs[k.toNat * n]? = some u) →
            ∃ v', (Instr.index t (.agg ⟨cs'⟩) (.int ‹IntKind› k)).run P w = .ok v' w ∧ Rep E u v' := by
          intro u hk hu'
          obtain ⟨v', h1, h2⟩ := part_sound (P := P) (E := E) (e := e) w hd hn hc hu'
          refine ⟨v', ?_, h2⟩
          simp only [Instr.index, asIntOf, Sem.run_bind, Sem.run_pure, run_underlying hu, Result.andThen_ok, if_pos hk, run_sizeOf hn, h1]
        split at h
        · rename_i l hg
          simp only [Option.some.injEq, Prod.mk.injEq] at h
          obtain ⟨rfl, rfl⟩ := h
          exact key (D_iff.1 ho.1) (by rw [if_pos hg, ho.2.1])
        · rename_i hg _
          simp only [Option.some.injEq, Prod.mk.injEq] at h
          obtain ⟨rfl, rfl⟩ := h
          exact key (D_iff.1 (bs_all ho).1) (by rw [if_pos hg])
        · rename_i u hg
          simp only [Option.some.injEq, Prod.mk.injEq] at h
          obtain ⟨rfl, rfl⟩ := h
          exact key (D_iff.1 ho.1) (by rw [if_neg (by rw [hg]; exact Bool.false_ne_true), ho.2.1])
        · rename_i hg _
          simp only [Option.map_eq_some_iff, Prod.mk.injEq] at h
          obtain ⟨u, h1, rfl, rfl⟩ := h
          exact key (D_iff.1 (bs_all ho).1) (by rw [if_neg (by rw [hg]; exact Bool.false_ne_true), h1])
      · simp at h
  · rename_i k s hu
    cases hi
    cases hx
    simp only [Option.some.injEq, Prod.mk.injEq] at h
    obtain ⟨rfl, rfl⟩ := h
    have hk := D_iff.1 (bs_all ho).1
    obtain ⟨b, h1, h2⟩ := byteAt_get hk.1 hk.2
    refine ⟨_, ?_, .int _ _⟩
    simp only [Instr.index, asIntOf, Sem.run_bind, Sem.run_pure, run_underlying hu, Result.andThen_ok, if_pos hk.1, h1, h2]
  · simp at h

theorem evExtract_sound {x x' v : Value} {i : Nat} {obs : List Prop} (w : World) (h : evExtract x i = some (obs, v)) (hx : Rep E x x') :
    ∃ v', (Instr.extract x' i).run P w = .ok v' w ∧ Rep E v v' := by
  unfold evExtract at h
  split at h
  · simp only [Option.map_eq_some_iff, Prod.mk.injEq] at h
    obtain ⟨u, h1, rfl, rfl⟩ := h
    cases hx with
    | tuple _ cs' hc =>
      obtain ⟨v', h2, h3⟩ := hc.get h1
      exact ⟨v', by simp [Instr.extract, h2], h3⟩
  · simp at h

end
end Go.AX

namespace Go.AX
set_option linter.unusedSimpArgs false
set_option linter.unusedVariables false

section
variable {P : Program} {E : Env}

theorem run_sliceBound_in (k : IntKind) (i : Int) (y : Nat) (code : BoundsCode) (w : World) (h : 0 ≤ i ∧ i ≤ y) : (Instr.sliceBound (.int k i) y code).run P w = .ok i.toNat w := by
  simp only [Instr.sliceBound, asIntOf, Sem.run_bind, Sem.run_pure, Result.andThen_ok, if_pos h]
def IsBound (v : Option Value) (b : Option Int) : Prop := match v, b with
  | none, none => True
  | some (.int _ n), some m => n = m
  | _, _ => False

theorem optInt_some {x : Option Value} {b : Option Int} (h : optInt x = some b) : IsBound x b := by
  unfold optInt at h
  split at h
  · simp only [Option.some.injEq] at h; subst h; trivial
  · simp only [Option.some.injEq] at h; subst h; rfl
  · simp at h

inductive RepO (E : Env) : Option Value → Option Value → Prop
  | none : RepO E .none .none
  | some (a a' : Value) (h : Rep E a a') : RepO E (.some a) (.some a')

theorem isBound_rep {x x' : Option Value} {b : Option Int} (hb : IsBound x b) (hr : RepO E x x') : IsBound x' b := by
  unfold IsBound at hb
  cases hr with
  | none => exact hb
  | some a a' h =>
    split at hb
    · simp_all
    · rename_i h1
      simp only [Option.some.injEq] at h1
      subst h1
      cases h; exact hb
    · exact hb.elim

theorem run_sliceBounds {isSlice : Bool} {len cap : Nat} {lo hi mx : Option Value} {l h m : Option Int} (w : World) (hl : IsBound lo l) (hh : IsBound hi h) (hm : IsBound mx m)
    (h0 : 0 ≤ l.getD 0 ∧ l.getD 0 ≤ h.getD len) (h1 : h.getD len ≤ m.getD cap) (h2 : m.getD cap ≤ cap) (h3 : m ≠ none → h ≠ none) :
    (Instr.sliceBounds isSlice len cap lo hi mx).run P w = .ok ((l.getD 0).toNat, (h.getD len).toNat, (m.getD cap).toNat) w := by
  unfold Instr.sliceBounds
  cases mx with
  | none =>
    cases m with
    | some _ => simp [IsBound] at hm
    | none =>
      simp only [Option.getD_none] at h1 h2
      cases hi with
      | none =>
        cases h with
        | some _ => simp [IsBound] at hh
        | none =>
          cases lo with
          | none =>
            cases l with
            | some _ => simp [IsBound] at hl
            | none => simp
          | some lv =>
            cases l with
            | none => cases lv <;> simp [IsBound] at hl
            | some ln =>
              cases lv <;> simp [IsBound] at hl
              subst hl
              simp only [Option.getD_some, Option.getD_none] at h0
              simp [run_sliceBound_in (P := P) _ _ len _ w h0]
      | some hv =>
        cases h with
        | none => cases hv <;> simp [IsBound] at hh
        | some hn =>
          cases hv <;> simp [IsBound] at hh
          subst hh
          simp only [Option.getD_some] at h0 h1
          cases lo with
          | none =>
            cases l with
            | some _ => simp [IsBound] at hl
            | none =>
              simp only [Option.getD_none] at h0
              simp [run_sliceBound_in (P := P) _ _ cap _ w ⟨h0.2, h1⟩]
          | some lv =>
            cases l with
            | none => cases lv <;> simp [IsBound] at hl
            | some ln =>
              cases lv <;> simp [IsBound] at hl
              subst hl
              simp only [Option.getD_some] at h0
              rename_i hn' _ ln'
              simp [run_sliceBound_in (P := P) _ _ cap _ w ⟨Int.le_trans h0.1 h0.2, h1⟩, run_sliceBound_in (P := P) _ ln' hn'.toNat _ w ⟨h0.1, by omega⟩]
  | some mv =>
    cases m with
    | none => cases mv <;> simp [IsBound] at hm
    | some mn =>
      cases mv <;> simp [IsBound] at hm
      subst hm
      rename_i mn'
      simp only [Option.getD_some] at h1 h2
      cases h with
      | none => exact absurd rfl (h3 (by simp))
      | some hn =>
        cases hi with
        | none => simp [IsBound] at hh
        | some hv =>
          cases hv <;> simp [IsBound] at hh
          subst hh
          rename_i hn'
          simp only [Option.getD_some] at h0 h1
          have hm0 : 0 ≤ mn' := by omega
          cases lo with
          | none =>
            cases l with
            | some _ => simp [IsBound] at hl
            | none =>
              simp only [Option.getD_none] at h0
              simp [run_sliceBound_in (P := P) _ _ cap _ w ⟨hm0, h2⟩, run_sliceBound_in (P := P) _ hn' mn'.toNat _ w ⟨h0.2, by omega⟩]
          | some lv =>
            cases l with
            | none => cases lv <;> simp [IsBound] at hl
            | some ln =>
              cases lv <;> simp [IsBound] at hl
              subst hl
              rename_i ln'
              simp only [Option.getD_some] at h0
              simp [run_sliceBound_in (P := P) _ _ cap _ w ⟨hm0, h2⟩, run_sliceBound_in (P := P) _ hn' mn'.toNat _ w ⟨by omega, by omega⟩, run_sliceBound_in (P := P) _ ln' hn'.toNat _ w ⟨h0.1, by omega⟩]


theorem szOf_esz {hp : AHeap} {i sz : Nat} {w : World} (g : Good E hp w) (h : szOf hp i = some sz) : E.esz i = sz := by
  unfold szOf at h
  split at h
  · rename_i vs e s hi
    simp only [Option.some.injEq] at h; subst h
    obtain ⟨c, _, _, _, h4, _⟩ := g.holds i _ hi
    exact h4
  · rename_i vs e s hi
    simp only [Option.some.injEq] at h; subst h
    exact (g.holds i _ hi).1
  · rename_i vs s hi
    simp only [Option.some.injEq] at h; subst h
    exact (g.holds i _ hi).1
  · simp at h

theorem Addr.add_block (a : Addr) (n : Nat) : (a.add n).block = a.block := by unfold Addr.add; split <;> rfl
theorem Addr.add_spot (a : Addr) (n : Nat) (h : a.spot = none) : (a.add n).spot = none := by unfold Addr.add; split <;> simp [h]
theorem Addr.add_off (a : Addr) (n : Nat) : (a.add n).off = a.off + n := by unfold Addr.add; split <;> simp_all
def SlOf (E : Env) (i o n : Nat) (a' : Option Addr) (c' : Nat) : Prop := i < E.n ∧ (0 < n → a' = some ⟨E.blk i, E.off i + o, none⟩) ∧ n ≤ c'

theorem slOf_rep {i o n c : Nat} {v : Value} (h : Rep E (.slice (some ⟨i, o, none⟩) n c) v) : ∃ a' c', v = .slice a' n c' ∧ SlOf E i o n a' c' ∧ (c ≠ UNK → c ≠ UNR → c = c' ∧ c < UNK) := by
  cases h with
  | slX _ _ _ _ a' hi ha hn hc => exact ⟨a', c, rfl, ⟨hi, ha, hn⟩, fun _ _ => ⟨rfl, hc⟩⟩
  | slU _ _ c' hi h0 hn hz => exact ⟨_, c', rfl, ⟨hi, fun _ => rfl, hn⟩, fun h => absurd rfl h⟩
  | slE _ hi => exact ⟨none, 0, rfl, ⟨hi, fun h => absurd h (by omega), Nat.le_refl _⟩, fun h => absurd rfl h⟩
  | slR _ _ _ c' a' hi ha hn => exact ⟨a', c', rfl, ⟨hi, ha, hn⟩, fun _ h => absurd rfl h⟩

theorem evSliceL_rep {i o n c size : Nat} {l h m : Option Int} {obs : List Prop} {v : Value} {c' : Nat} {a' : Option Addr} (he : evSliceL i o n c size l h m = some (obs, v)) (ho : AllP obs)
    (hs : SlOf E i o n a' c') (hc : c ≠ UNK → c ≠ UNR → c = c' ∧ c < UNK) :
    (0 ≤ l.getD 0 ∧ l.getD 0 ≤ h.getD n) ∧ h.getD n ≤ m.getD c' ∧ m.getD c' ≤ c' ∧ (m ≠ none → h ≠ none) ∧
    Rep E v (.slice (if (m.getD c').toNat = (l.getD 0).toNat then a' else a'.map (·.add ((l.getD 0).toNat * size))) ((h.getD n).toNat - (l.getD 0).toNat) ((m.getD c').toNat - (l.getD 0).toNat)) := by
  obtain ⟨hi, ha, hn⟩ := hs
  have haddr : ∀ (q : Prop) [Decidable q], ¬ q → 0 < n → (if q then a' else a'.map (·.add ((l.getD 0).toNat * size))) = some ⟨E.blk i, E.off i + (o + (l.getD 0).toNat * size), none⟩ := fun q _ hq h0 => by
    rw [if_neg hq, ha h0, Option.map_some, Addr.add_none, Nat.add_assoc]
  unfold evSliceL at he
  split at he
  · have keyR : (0 ≤ l.getD 0 ∧ l.getD 0 ≤ h.getD n) → h.getD n ≤ n →
        Rep E (.slice (some ⟨i, o + (l.getD 0).toNat * size, none⟩) (h.getD n - l.getD 0).toNat UNR) (.slice (if c' = (l.getD 0).toNat then a' else a'.map (·.add ((l.getD 0).toNat * size))) ((h.getD n).toNat - (l.getD 0).toNat) (c' - (l.getD 0).toNat)) := by
      intro h1 h2
      rw [show (h.getD n - l.getD 0).toNat = (h.getD n).toNat - (l.getD 0).toNat by omega]
      exact .slR i _ _ _ _ hi (fun hp => haddr _ (by omega) (by omega)) (by omega)
    split at he
    · simp only [Option.some.injEq, Prod.mk.injEq] at he
      obtain ⟨rfl, rfl⟩ := he
      obtain ⟨h1, h2, _⟩ := bs_all ho
      replace h1 := D_iff.1 h1
      replace h2 := D_iff.1 h2
      refine ⟨h1, by simp only [Option.getD_none]; omega, Int.le_refl _, by simp, ?_⟩
      simpa using keyR h1 h2
    · rename_i hu
      split at he
      · simp only [Option.some.injEq, Prod.mk.injEq] at he
        obtain ⟨rfl, rfl⟩ := he
        obtain ⟨h1, h2, _⟩ := bs_all ho
        replace h1 := D_iff.1 h1
        replace h2 := D_iff.1 h2
        refine ⟨h1, by simp only [Option.getD_none]; omega, Int.le_refl _, by simp, ?_⟩
        simpa using keyR h1 h2
      · rename_i hr
        simp only [Option.some.injEq, Prod.mk.injEq] at he
        obtain ⟨rfl, rfl⟩ := he
        obtain ⟨h1, h2, _⟩ := bs_all ho
        replace h1 := D_iff.1 h1
        replace h2 := D_iff.1 h2
        obtain ⟨rfl, hcu⟩ := hc hu hr
        refine ⟨h1, by simp only [Option.getD_none]; omega, Int.le_refl _, by simp, ?_⟩
        simp only [Option.getD_none, Int.toNat_natCast]
        rw [show (h.getD n - l.getD 0).toNat = (h.getD n).toNat - (l.getD 0).toNat by omega]
        exact .slX i _ _ _ _ hi (fun hp => haddr _ (by omega) (by omega)) (by omega) (by omega)
  · rename_i mm
    simp only [Option.some.injEq, Prod.mk.injEq] at he
    obtain ⟨rfl, rfl⟩ := he
    obtain ⟨h1, h2, h3, h4, h5, _⟩ := bs_all ho
    replace h1 := D_iff.1 h1
    replace h2 := D_iff.1 h2
    replace h3 := D_iff.1 h3
    replace h4 := D_iff.1 h4
    replace h5 := D_iff.1 h5
    refine ⟨h1, by simpa using h2, by simp only [Option.getD_some]; omega, fun _ => h5, ?_⟩
    simp only [Option.getD_some]
    rw [show (h.getD n - l.getD 0).toNat = (h.getD n).toNat - (l.getD 0).toNat by omega, show (mm - l.getD 0).toNat = mm.toNat - (l.getD 0).toNat by omega]
    exact .slX i _ _ _ _ hi (fun hp => haddr _ (by omega) (by omega)) (by omega) (by omega)

theorem evSlice_sound {hp : AHeap} {t : TypeId} {x x' : Value} {lo lo' hi hi' mx mx' : Option Value} {obs : List Prop} {v : Value} {w : World} (g : Good E hp w)
    (h : evSlice P hp t x lo hi mx = some (obs, v)) (ho : AllP obs) (hx : Rep E x x') (hl : RepO E lo lo') (hh : RepO E hi hi') (hm : RepO E mx mx') :
    ∃ v', (Instr.sliceAt t x' lo' hi' mx').run P w = .ok v' w ∧ Rep E v v' := by
  unfold evSlice at h
  split at h
  · rename_i s l h' hu e1 e2 e3
    have b1 := isBound_rep (E := E) (optInt_some e1) hl
    have b2 := isBound_rep (E := E) (optInt_some e2) hh
    have b3 := isBound_rep (E := E) (optInt_some e3) hm
    cases hx
    simp only [evSliceS, Option.some.injEq, Prod.mk.injEq] at h
    obtain ⟨rfl, rfl⟩ := h
    obtain ⟨h1, h2, _⟩ := bs_all ho
    replace h1 := D_iff.1 h1
    replace h2 := D_iff.1 h2
    cases mx' with
    | some _ => simp [IsBound] at b3
    | none =>
      have key := run_sliceBounds (P := P) (isSlice := false) (len := s.size) (cap := s.size) w b1 b2 b3 h1 (by simpa using h2) (by simp) (by simp)
      refine ⟨_, ?_, .str _⟩
      simp only [Instr.sliceAt, Sem.run_bind, run_underlying hu, Result.andThen_ok, Instr.slice, Option.isSome_none, Bool.false_eq_true, if_false, Sem.run_pure, key]
  · rename_i e i o n c l h' m hu e1 e2 e3
    have b1 := isBound_rep (E := E) (optInt_some e1) hl
    have b2 := isBound_rep (E := E) (optInt_some e2) hh
    have b3 := isBound_rep (E := E) (optInt_some e3) hm
    split at h
    · rename_i size sz hs hz
      split at h
      · rename_i hsz
        subst hsz
        obtain ⟨a', c', rfl, q1, q2⟩ := slOf_rep hx
        obtain ⟨k1, k2, k3, k4, k5⟩ := evSliceL_rep h ho q1 q2
        have key := run_sliceBounds (P := P) (isSlice := true) (len := n) (cap := c') w b1 b2 b3 k1 k2 k3 k4
        refine ⟨_, ?_, k5⟩
        simp only [Instr.sliceAt, Sem.run_bind, run_underlying hu, Result.andThen_ok, Instr.slice, key, run_sizeOf hs, Sem.run_pure]
      · simp at h
    · simp at h
  · rename_i e l h' m hu e1 e2 e3
    have b1 := isBound_rep (E := E) (optInt_some e1) hl
    have b2 := isBound_rep (E := E) (optInt_some e2) hh
    have b3 := isBound_rep (E := E) (optInt_some e3) hm
    simp only [Option.map_eq_some_iff, Prod.mk.injEq] at h
    obtain ⟨size, hs, rfl, rfl⟩ := h
    obtain ⟨h1, h2, h3, h4, _⟩ := bs_all ho
    replace h1 := D_iff.1 h1
    replace h2 := D_iff.1 h2
    replace h3 := D_iff.1 h3
    replace h4 := D_iff.1 h4
    cases hx
    have q1 : (h'.getD ((0 : Nat) : Int)) = 0 := by simpa using h2
    have q2 : (m.getD ((0 : Nat) : Int)) = 0 := by simpa using h3
    have key := run_sliceBounds (P := P) (isSlice := true) (len := 0) (cap := 0) w b1 b2 b3 (by omega) (by omega) (by omega) h4
    refine ⟨_, ?_, .nilsl⟩
    simp only [Instr.sliceAt, Sem.run_bind, run_underlying hu, Result.andThen_ok, Instr.slice, key, run_sizeOf hs, Sem.run_pure, h1, q1, q2]
    rfl
  · simp at h

end
end Go.AX

namespace Go.AX

def evPart (P : Program) (t : TypeId) (cs : List Value) (off : Nat) : Option Value :=
  match P.underlying t, sizeT P t with
  | some d, some n =>
    match isAggD d with
    | true => some (.agg ⟨(cs.drop off).take n⟩)
    | false => cs[off]?
  | _, _ => none
def evEqAt (P : Program) (f : TypeId → Value → Value → Option Bool) (t : TypeId) (xs ys : List Value) (off : Nat) : Option Bool :=
  match evPart P t xs off, evPart P t ys off with
  | some u, some v => f t u v
  | _, _ => none

def andO : Option Bool → Option Bool → Option Bool
  | some a, some b => some (a && b)
  | _, _ => none

def evEqFs (P : Program) (f : TypeId → Value → Value → Option Bool) (xs ys : List Value) : List Field → Option Bool
  | [] => some true
  | fd :: r => if fd.name ≠ "_" then andO (evEqAt P f fd.type xs ys fd.offset) (evEqFs P f xs ys r) else evEqFs P f xs ys r

def evEqIs (P : Program) (f : TypeId → Value → Value → Option Bool) (e : TypeId) (n : Nat) (xs ys : List Value) : List Nat → Option Bool
  | [] => some true
  | i :: r => andO (evEqAt P f e xs ys (i * n)) (evEqIs P f e n xs ys r)

def evEqIn (P : Program) : Nat → TypeId → Value → Value → Option Bool
  | 0, _, _, _ => none
  | k + 1, t, x, y =>
    match P.underlying t, x, y with
    | some (.int _), .int k a, .int k' b => if k = k' then some (a == b) else none
    | some .string, .string a, .string b => some (a.toList == b.toList)
    | some (.struct fs), .agg ⟨xs⟩, .agg ⟨ys⟩ =>
      match P.stoodInHeld t with
      | false => evEqFs P (evEqIn P k) xs ys fs.toList
      | true => none
    | some (.array n e), .agg ⟨xs⟩, .agg ⟨ys⟩ =>
      match sizeT P e with
      | some sz => evEqIs P (evEqIn P k) e sz xs ys (List.range n)
      | none => none
    | some d, x, y => evEq d x y
    | none, _, _ => none

def evEqAgg (P : Program) (op : BinOp) (t : TypeId) (x y : Value) : PRes :=
  match x, y with
  | .agg xs, .agg ys =>
    match P.eqGuardType P.depth t, op with
    | false, .eql => (evEqIn P 6 t (.agg xs) (.agg ys)).map fun b => ([], .bool b)
    | false, .neq => (evEqIn P 6 t (.agg xs) (.agg ys)).map fun b => ([], .bool (!b))
    | _, _ => none
  | _, _ => none

section
variable {P : Program} {E : Env}

theorem evPart_sound {t : TypeId} {cs cs' : List Value} {off : Nat} {v : Value} (w : World) (h : evPart P t cs off = some v) (hc : RepL E cs cs') : ∃ v', (part t ⟨cs'⟩ off).run P w = .ok v' w ∧ Rep E v v' := by
  unfold evPart at h
  split at h
  · rename_i d n hd hn
    refine part_sound w hd hn hc ?_
    split at h
    · rename_i hg
      simp only [Option.some.injEq] at h
      rw [if_pos hg, h]
    · rename_i hg
      rw [if_neg (by rw [hg]; exact Bool.false_ne_true), h]
  · simp at h

def EqSound (P : Program) (E : Env) (f : TypeId → Value → Value → Option Bool) (d : Nat) : Prop :=
  ∀ (w : World) (t : TypeId) (x y x' y' : Value) (b : Bool), f t x y = some b → Rep E x x' → Rep E y y' → (Op.equalIn d t x' y').run P w = .ok b w

theorem evEqAt_sound {f : TypeId → Value → Value → Option Bool} {d : Nat} (hf : EqSound P E f d) {t : TypeId} {xs ys xs' ys' : List Value} {off : Nat} {b : Bool} (w : World) (h : evEqAt P f t xs ys off = some b) (hx : RepL E xs xs') (hy : RepL E ys ys') :
    ∃ u v, (part t ⟨xs'⟩ off).run P w = .ok u w ∧ (part t ⟨ys'⟩ off).run P w = .ok v w ∧ (Op.equalIn d t u v).run P w = .ok b w := by
  unfold evEqAt at h
  split at h
  · rename_i u v h1 h2
    obtain ⟨u', p1, p2⟩ := evPart_sound (P := P) w h1 hx
    obtain ⟨v', q1, q2⟩ := evPart_sound (P := P) w h2 hy
    exact ⟨u', v', p1, q1, hf w t u v u' v' b h p2 q2⟩
  · simp at h

theorem andO_some {a b : Option Bool} {r : Bool} (h : andO a b = some r) : ∃ x y, a = some x ∧ b = some y ∧ r = (x && y) := by
  cases a <;> cases b <;> simp [andO] at h
  exact ⟨_, _, rfl, rfl, h.symm⟩

theorem evEqFs_sound {f : TypeId → Value → Value → Option Bool} {d : Nat} (hf : EqSound P E f d) {xs ys xs' ys' : List Value} (w : World) (hx : RepL E xs xs') (hy : RepL E ys ys') : ∀ (fs : List Field) (b : Bool), evEqFs P f xs ys fs = some b →
    (Op.eqFields d ⟨xs'⟩ ⟨ys'⟩ fs).run P w = .ok b w
  | [], b, h => by simp only [evEqFs, Option.some.injEq] at h; subst h; simp [Op.eqFields]
  | fd :: r, b, h => by
    simp only [evEqFs] at h
    split at h
    · rename_i hn
      obtain ⟨b1, b2, h1, h2, rfl⟩ := andO_some h
      obtain ⟨u, v, p1, p2, p3⟩ := evEqAt_sound hf w h1 hx hy
      simp only [Op.eqFields, if_pos hn, Sem.run_bind, p1, p2, p3, Result.andThen_ok]
      cases b1
      · simp
      · simpa using evEqFs_sound hf w hx hy r b2 h2
    · rename_i hn
      simp only [Op.eqFields, if_neg hn]
      exact evEqFs_sound hf w hx hy r b h

theorem evEqIs_sound {f : TypeId → Value → Value → Option Bool} {d : Nat} (hf : EqSound P E f d) {e : TypeId} {n : Nat} {xs ys xs' ys' : List Value} (w : World) (hx : RepL E xs xs') (hy : RepL E ys ys') : ∀ (is : List Nat) (b : Bool), evEqIs P f e n xs ys is = some b →
    (Op.eqItems d e n ⟨xs'⟩ ⟨ys'⟩ is).run P w = .ok b w
  | [], b, h => by simp only [evEqIs, Option.some.injEq] at h; subst h; simp [Op.eqItems]
  | i :: r, b, h => by
    simp only [evEqIs] at h
    obtain ⟨b1, b2, h1, h2, rfl⟩ := andO_some h
    obtain ⟨u, v, p1, p2, p3⟩ := evEqAt_sound hf w h1 hx hy
    simp only [Op.eqItems, Sem.run_bind, p1, p2, p3, Result.andThen_ok]
    cases b1
    · simp
    · simpa using evEqIs_sound hf w hx hy r b2 h2

theorem evEqIn_sound : ∀ (k d : Nat), k ≤ d → EqSound P E (evEqIn P k) d
  | 0, _, _ => by intro w t x y x' y' b h; simp [evEqIn] at h
  | k + 1, 0, hd => absurd hd (by omega)
  | k + 1, d + 1, hd => by
    intro w t x y x' y' b h hx hy
    have ih : EqSound P E (evEqIn P k) d := evEqIn_sound k d (by omega)
    simp only [evEqIn] at h
    split at h
    · rename_i hu
      split at h
      · rename_i hk
        simp only [Option.some.injEq] at h
        subst h
        cases hx; cases hy
        simp only [Op.equalIn, Sem.run_bind, run_underlying hu, Result.andThen_ok, if_pos hk, Sem.run_pure]
      · simp at h
    · rename_i hu
      simp only [Option.some.injEq] at h
      subst h
      cases hx; cases hy
      simp only [Op.equalIn, Sem.run_bind, run_underlying hu, Result.andThen_ok, Sem.run_pure, beq_toListBytes]
    · rename_i fs xs ys hu
      split at h
      · rename_i hp
        cases hx with
        | agg _ xs' hxl =>
          cases hy with
          | agg _ ys' hyl =>
            have hf : P.fieldsOf t = fs := by simp [Program.fieldsOf, hu]
            rw [run_equalIn_struct (P := P) w d t ⟨xs'⟩ ⟨ys'⟩ (by rw [hf]; exact hu) hp, hf]
            exact evEqFs_sound ih w hxl hyl _ _ h
      · simp at h
    · rename_i n e xs ys hu
      split at h
      · rename_i sz hsz
        obtain ⟨i, hi, rfl⟩ := Option.map_eq_some_iff.1 hsz
        cases hx with
        | agg _ xs' hxl =>
          cases hy with
          | agg _ ys' hyl =>
            rw [run_equalIn_array (P := P) w d ⟨xs'⟩ ⟨ys'⟩ hu hi]
            have hc : P.cellsOf e = i.size := by simp [Program.cellsOf, hi]
            rw [hc]
            exact evEqIs_sound ih w hxl hyl _ _ h
      · simp at h
    · rename_i dd hu _ _ _ _
      exact evEq_at w d hu h hx hy
    · simp at h

theorem evEqAgg_sound {op : BinOp} {t : TypeId} {x y x' y' : Value} {p q : Operand} {obs : List Prop} {v : Value} (w : World) (h : evEqAgg P op t x y = some (obs, v)) (hx : Rep E x x') (hy : Rep E y y') :
    (do eqGuard op t p q x' y'; binOp op t x' y' : Sem Value).run P w = .ok v w ∧ Rep E v v := by
  unfold evEqAgg at h
  split at h
  · rename_i xs ys
    cases hx with
    | agg c c' hc =>
      cases hy with
      | agg c2 c2' hc2 =>
        split at h
        · rename_i hg
          simp only [Option.map_eq_some_iff, Prod.mk.injEq] at h
          obtain ⟨b, hb, _, rfl⟩ := h
          have := evEqIn_sound (E := E) 6 10000 (by decide) w t _ _ _ _ b hb (.agg c c' hc) (.agg c2 c2' hc2)
          exact ⟨by simp only [Sem.run_bind, run_eqGuard_agg (P := P) w _ t p q _ _ hg, Result.andThen_ok, run_eql_struct, this], .bool _⟩
        · rename_i hg
          simp only [Option.map_eq_some_iff, Prod.mk.injEq] at h
          obtain ⟨b, hb, _, rfl⟩ := h
          have := evEqIn_sound (E := E) 6 10000 (by decide) w t _ _ _ _ b hb (.agg c c' hc) (.agg c2 c2' hc2)
          exact ⟨by simp only [Sem.run_bind, run_eqGuard_agg (P := P) w _ t p q _ _ hg, Result.andThen_ok, run_neq_struct, this], .bool _⟩
        · simp at h
  · simp at h

end
end Go.AX

namespace Go.AX
def vcells : Value → Option (List Value)
  | .agg ⟨cs⟩ => some cs
  | .tuple _ => none
  | v => some [v]

def splice (vs : List Value) (off : Nat) (l : List Value) : List Value := vs.take off ++ (l ++ vs.drop (off + l.length))

def lfill (place : Nat → Option (Nat × Nat)) (cells : List Value) : List (Nat × Value) → Option (List Value)
  | [] => some cells
  | (i, v) :: rest =>
    match place i with
    | none => none
    | some (off, size) =>
      match vcells v with
      | none => none
      | some l =>
        if l.length = size then
          if off + size ≤ cells.length then lfill place (splice cells off l) rest else none
        else none

section
variable {P : Program} {E : Env}

theorem vcells_spec {v : Value} {l : List Value} (h : vcells v = some l) : v.cells = ⟨l⟩ := by
  unfold vcells at h
  split at h
  · simp only [Option.some.injEq] at h; subst h; rfl
  · simp at h
  · rename_i h1 h2
    simp only [Option.some.injEq] at h; subst h
    cases v <;> first | rfl | (rename_i c; cases c; exact absurd rfl (h1 _)) | exact absurd rfl (h2 _)

theorem vcells_rep {v v' : Value} {l : List Value} (h : Rep E v v') (hv : vcells v = some l) : ∃ l', vcells v' = some l' ∧ RepL E l l' := by
  cases h with
  | agg c c' h => simp only [vcells, Option.some.injEq] at hv; subst hv; exact ⟨c', rfl, h⟩
  | tuple => simp [vcells] at hv
  | junk => simp [vcells, junk] at hv
  | _ => simp only [vcells, Option.some.injEq] at hv; subst hv; exact ⟨_, rfl, .cons _ _ _ _ (by constructor <;> assumption) .nil⟩

theorem splice_rep {a a' b b' : List Value} (off : Nat) (h : RepL E a a') (k : RepL E b b') : RepL E (splice a off b) (splice a' off b') := by
  unfold splice
  rw [k.length]
  exact (h.take _).append (k.append (h.drop _))

theorem splice_length {a b : List Value} {off : Nat} (h : off + b.length ≤ a.length) : (splice a off b).length = a.length := by
  simp [splice]; omega

theorem splice_cons (y : Value) (t : List Value) (off : Nat) (l : List Value) : splice (y :: t) (off + 1) l = y :: splice t off l := by
  simp only [splice, List.take_succ_cons, List.cons_append]
  rw [show off + 1 + l.length = (off + l.length) + 1 by omega, List.drop_succ_cons]

theorem splice_set : ∀ (off : Nat) (a : List Value) (x : Value) (l : List Value), off + (x :: l).length ≤ a.length → splice (a.set off x) (off + 1) l = splice a off (x :: l)
  | _, [], x, l, h => by simp at h
  | 0, y :: t, x, l, h => by
    rw [List.set_cons_zero, splice_cons]
    simp [splice]
  | off + 1, y :: t, x, l, h => by
    rw [List.set_cons_succ, splice_cons, splice_cons, splice_set off t x l (by simp at h ⊢; omega)]

theorem foldl_splice (off : Nat) : ∀ (l : List Value) (k : Nat) (cs : Array Value), off + k + l.length ≤ cs.size →
    ((l.zipIdx k).foldl (fun cs (x : Value × Nat) => cs.setIfInBounds (off + x.2) x.1) cs).toList = splice cs.toList (off + k) l
  | [], k, cs, _ => by simp [splice]
  | x :: l, k, cs, h => by
    simp only [List.length_cons] at h
    simp only [List.zipIdx_cons, List.foldl_cons]
    rw [foldl_splice off l (k + 1) _ (by simp; omega)]
    rw [Array.toList_setIfInBounds, ← splice_set _ _ _ _ (by simp; omega)]
    rfl

theorem fill_eq (place : Nat → Option (Nat × Nat)) : ∀ (parts : List (Nat × Value)) (cells r : List Value), lfill place cells parts = some r → Instr.fill place ⟨cells⟩ parts = some ⟨r⟩
  | [], cells, r, h => by simp only [lfill, Option.some.injEq] at h; subst h; rfl
  | (i, v) :: rest, cells, r, h => by
    simp only [lfill] at h
    split at h
    · simp at h
    · rename_i off size hp
      split at h
      · simp at h
      · rename_i l hl
        split at h
        · rename_i hs
          split at h
          · rename_i hb
            have hc := vcells_spec hl
            have hsz : v.cells.size = size := by rw [hc]; exact hs
            simp only [Instr.fill, hp, hsz]
            have hb2 : off + size ≤ (⟨cells⟩ : Array Value).size := hb
            rw [if_neg (by rw [Bool.or_eq_true, decide_eq_true_eq, decide_eq_true_eq]; omega)]
            rw [← Array.foldl_toList, Array.toList_zipIdx, hc]
            have := foldl_splice off l 0 (⟨cells⟩ : Array Value) (by simp; omega)
            rw [show (List.foldl (fun cs x => match x with | (c, j) => cs.setIfInBounds (off + j) c) (⟨cells⟩ : Array Value) (l.zipIdx 0)) = ⟨splice cells off l⟩ from by
              apply Array.ext'
              simpa using this]
            exact fill_eq place rest _ r h
          · simp at h
        · simp at h

inductive RepP (E : Env) : List (Nat × Value) → List (Nat × Value) → Prop
  | nil : RepP E [] []
  | cons (i : Nat) (v v' : Value) (l l' : List (Nat × Value)) (h : Rep E v v') (t : RepP E l l') : RepP E ((i, v) :: l) ((i, v') :: l')

theorem lfill_rep (place : Nat → Option (Nat × Nat)) : ∀ {parts parts' : List (Nat × Value)} {cells cells' r : List Value}, RepP E parts parts' → RepL E cells cells' → lfill place cells parts = some r →
    ∃ r', lfill place cells' parts' = some r' ∧ RepL E r r'
  | _, _, cells, cells', r, .nil, hc, h => by simp only [lfill, Option.some.injEq] at h; subst h; exact ⟨cells', rfl, hc⟩
  | _, _, cells, cells', r, .cons i v v' l l' hv ht, hc, h => by
    simp only [lfill] at h
    split at h
    · simp at h
    · rename_i off size hp
      split at h
      · simp at h
      · rename_i l hl
        obtain ⟨l1, q1, q2⟩ := vcells_rep hv hl
        have hl := q2.length
        split at h
        · rename_i hs
          split at h
          · rename_i hb
            simp only [lfill, hp, q1]
            rw [if_pos (by omega), if_pos (by rw [hc.length]; omega)]
            exact lfill_rep place ht (splice_rep off hc q2) h
          · simp at h
        · simp at h

end

def zeroT (P : Program) (t : TypeId) : Option Value :=
  match (P.info? t).bind (·.zero) with
  | some v => if okConst v then some v else none
  | none => none

noncomputable def opdP (ts : Tm) : List (Nat × Operand) → Option (List (Nat × Value))
  | [] => some []
  | (i, x) :: l => match opd ts x, opdP ts l with
    | some v, some r => some ((i, v) :: r)
    | _, _ => none

noncomputable def opdL (ts : Tm) : List Operand → Option (List Value)
  | [] => some []
  | x :: l => match opd ts x, opdL ts l with
    | some v, some r => some (v :: r)
    | _, _ => none

noncomputable def opdO (ts : Tm) : Option Operand → Option (Option Value)
  | none => some none
  | some x => (opd ts x).map some

def fieldPlaces (P : Program) : List Field → Option (List (Nat × Nat))
  | [] => some []
  | f :: fs => match sizeT P f.type, fieldPlaces P fs with
    | some n, some l => some ((f.offset, n) :: l)
    | _, _ => none

def evBuild (P : Program) (t : TypeId) (parts : List (Nat × Value)) : PRes :=
  match zeroT P t, P.underlying t with
  | some z, some (.struct fs) =>
    match fieldPlaces P fs.toList, vcells z with
    | some pl, some zs => (lfill (pl[·]?) zs parts).map fun cs => ([], .agg ⟨cs⟩)
    | _, _ => none
  | some z, some (.array _ e) =>
    match sizeT P e, vcells z with
    | some n, some zs => (lfill (fun i => some (i * n, n)) zs parts).map fun cs => ([], .agg ⟨cs⟩)
    | _, _ => none
  | _, _ => none
noncomputable def evPure (P : Program) (hp : AHeap) (ts : Tm) (hint : Hint) : Op → PRes
  | .move x | .assign x => (opd ts x).bind ret
  | .pick c a b =>
    match opd ts c, opd ts a, opd ts b with
    | some c, some a, some b => evPick hint c a b
    | _, _, _ => none
  | .build t parts => (opdP ts parts.toList).bind (evBuild P t)
  | .nilCheck x => (opd ts x).bind evNil
  | .binOp op t x y _ =>
    match opd ts x, opd ts y with
    | some (.agg x), some (.agg y) => evEqAgg P op t (.agg x) (.agg y)
    | some x, some y => evBin P op t x y
    | _, _ => none
  | .unOp op _ x => (opd ts x).bind (evUn op)
  | .convert s d x => (opd ts x).bind (evConv P s d)
  | .makeFunc fn first captured =>
    match opdL ts first.toList, opdL ts captured.toList with
    | some f, some c => ret (.func fn ⟨f⟩ ⟨c⟩)
    | _, _ => none
  | .slice t x lo hi mx =>
    match opd ts x, opdO ts lo, opdO ts hi, opdO ts mx with
    | some x, some lo, some hi, some mx => evSlice P hp t x lo hi mx
    | _, _, _, _ => none
  | .fieldAddr s x f => (opd ts x).bind fun x => evFieldAddr P s x f
  | .field s x f => (opd ts x).bind fun x => evField P s x f
  | .indexAddr t x i =>
    match opd ts x, opd ts i with
    | some x, some i => evIndexAddr P t x i
    | _, _ => none
  | .index t x i =>
    match opd ts x, opd ts i with
    | some x, some i => evIndex P hint t x i
    | _, _ => none
  | .extract x i => (opd ts x).bind fun x => evExtract x i
  | _ => none

section
variable {P : Program} {E : Env}

theorem run_zeroValue {t : TypeId} {v : Value} (h : zeroT P t = some v) (w : World) : (zeroValue t).run P w = .ok v w ∧ Rep E v v := by
  unfold zeroT at h
  split at h
  · rename_i z hz
    split at h
    · rename_i hc
      simp only [Option.some.injEq] at h
      subst h
      refine ⟨?_, rep_okConst hc⟩
      obtain ⟨i, hi, hz⟩ := Option.bind_eq_some_iff.1 hz
      simp [zeroValue, typeInfo, hi, hz]
    · simp at h
  · simp at h

theorem run_fieldPlaces (w : World) : ∀ (fs : List Field) (pl : List (Nat × Nat)), fieldPlaces P fs = some pl →
    (fs.mapM (m := Sem) fun f => do pure (f.offset, ← sizeOf f.type)).run P w = .ok pl w
  | [], pl, h => by simp only [fieldPlaces, Option.some.injEq] at h; subst h; rfl
  | f :: fs, pl, h => by
    simp only [fieldPlaces] at h
    split at h
    · rename_i n l h1 h2
      simp only [Option.some.injEq] at h
      subst h
      simp only [List.mapM_cons, Sem.run_bind, run_sizeOf h1, Result.andThen_ok, Sem.run_pure, run_fieldPlaces w fs l h2]
    · simp at h

theorem evBuild_sound {t : TypeId} {parts parts' : List (Nat × Value)} {obs : List Prop} {v : Value} (w : World) (h : evBuild P t parts = some (obs, v)) (hp : RepP E parts parts') :
    ∃ v', (Instr.build t ⟨parts'⟩).run P w = .ok v' w ∧ Rep E v v' := by
  unfold evBuild at h
  split at h
  · rename_i z fs hz hu
    obtain ⟨z1, z2⟩ := run_zeroValue (E := E) hz w
    split at h
    · rename_i pl zs hpl hzs
      obtain ⟨zs', hz1, hz2⟩ := vcells_rep z2 hzs
      obtain rfl := Option.some.inj (hzs.symm.trans hz1)
      simp only [Option.map_eq_some_iff, Prod.mk.injEq] at h
      obtain ⟨cs, hcs, rfl, rfl⟩ := h
      obtain ⟨cs', h1, h2⟩ := lfill_rep (pl[·]?) hp hz2 hcs
      refine ⟨.agg ⟨cs'⟩, ?_, .agg _ _ h2⟩
      have hm : (fs.mapM (m := Sem) fun f => do pure (f.offset, ← sizeOf f.type)).run P w = .ok pl.toArray w := by
        rw [← Array.toArray_toList (xs := fs), List.mapM_toArray]
        simp only [Sem.run_map, run_fieldPlaces w fs.toList pl hpl, Result.andThen_ok]
      have hf := fill_eq (fun i => (pl.toArray)[i]?) parts' zs cs' (by simpa using h1)
      have hzc : z.cells = ⟨zs⟩ := vcells_spec hzs
      simp only [Instr.build, Sem.run_bind, z1, Result.andThen_ok, run_underlying hu, hm, hzc, hf, Sem.run_pure]
    · simp at h
  · rename_i z n e hz hu
    obtain ⟨z1, z2⟩ := run_zeroValue (E := E) hz w
    split at h
    · rename_i n zs hn hzs
      obtain ⟨zs', hz1, hz2⟩ := vcells_rep z2 hzs
      obtain rfl := Option.some.inj (hzs.symm.trans hz1)
      simp only [Option.map_eq_some_iff, Prod.mk.injEq] at h
      obtain ⟨cs, hcs, rfl, rfl⟩ := h
      obtain ⟨cs', h1, h2⟩ := lfill_rep _ hp hz2 hcs
      refine ⟨.agg ⟨cs'⟩, ?_, .agg _ _ h2⟩
      have hf := fill_eq _ parts' zs cs' h1
      have hzc : z.cells = ⟨zs⟩ := vcells_spec hzs
      simp only [Instr.build, Sem.run_bind, z1, Result.andThen_ok, run_underlying hu, run_sizeOf hn, hzc, hf, Sem.run_pure]
    · simp at h
  · simp at h

theorem opdP_sound {ts : Tm} {a : Act} (hr : RepT E ts a.tmps) : ∀ {l : List (Nat × Operand)} {r : List (Nat × Value)}, opdP ts l = some r → RepP E r (l.map fun (i, x) => (i, a.eval x))
  | [], r, h => by simp only [opdP, Option.some.injEq] at h; subst h; exact .nil
  | (i, x) :: l, r, h => by
    simp only [opdP] at h
    split at h
    · rename_i v r' h1 h2
      simp only [Option.some.injEq] at h; subst h
      exact .cons i _ _ _ _ (opd_sound hr h1) (opdP_sound hr h2)
    · simp at h

theorem opdL_sound {ts : Tm} {a : Act} (hr : RepT E ts a.tmps) : ∀ {l : List Operand} {r : List Value}, opdL ts l = some r → RepL E r (l.map a.eval)
  | [], r, h => by simp only [opdL, Option.some.injEq] at h; subst h; exact .nil
  | x :: l, r, h => by
    simp only [opdL] at h
    split at h
    · rename_i v r' h1 h2
      simp only [Option.some.injEq] at h; subst h
      exact .cons _ _ _ _ (opd_sound hr h1) (opdL_sound hr h2)
    · simp at h

theorem opdO_sound {ts : Tm} {a : Act} (hr : RepT E ts a.tmps) {x : Option Operand} {r : Option Value} (h : opdO ts x = some r) : RepO E r (x.map a.eval) := by
  cases x with
  | none => simp only [opdO, Option.some.injEq] at h; subst h; exact .none
  | some x =>
    simp only [opdO, Option.map_eq_some_iff] at h
    obtain ⟨v, h1, rfl⟩ := h
    exact .some _ _ (opd_sound hr h1)

theorem run_eqGuard {op : BinOp} {t : TypeId} {x y : Operand} {a b : Value} (w : World) (h : op = .eql ∨ op = .neq → (a = .nilIface → b ≠ .nilIface) ∧ (∀ c, a = .agg c → ∀ d, b ≠ .agg d)) :
    (eqGuard op t x y a b).run P w = .ok () w := by
  cases op
  case eql =>
    obtain ⟨h1, h2⟩ := h (.inl rfl)
    cases a <;> cases b <;> first | rfl | exact absurd rfl (h1 rfl) | exact absurd rfl (h2 _ rfl _)
  case neq =>
    obtain ⟨h1, h2⟩ := h (.inr rfl)
    cases a <;> cases b <;> first | rfl | exact absurd rfl (h1 rfl) | exact absurd rfl (h2 _ rfl _)
  all_goals rfl

theorem evPure_sound {hp : AHeap} {ts : Tm} {hint : Hint} {o : Oper} {a : Act} {obs : List Prop} {v : Value} {w : World} (g : Good E hp w) (hr : RepT E ts a.tmps)
    (h : evPure P hp ts hint o.op = some (obs, v)) (ho : AllP obs) : ∃ v', (execOp a.eval o).run P w = .ok (.value v') w ∧ Rep E v v' := by
  have V : ∀ {s : Sem Value} {v' : Value}, s.run P w = .ok v' w → (do pure (Next.value (← s)) : Sem Next).run P w = .ok (.value v') w := by
    intro s v' hs; simp [hs]
  unfold execOp
  generalize o.op = op at *
  unfold evPure at h
  split at h
  case h_1 =>
    simp only [ret, Option.bind_eq_some_iff, Option.some.injEq, Prod.mk.injEq] at h
    obtain ⟨u, h1, _, rfl⟩ := h
    exact ⟨_, by simp, opd_sound hr h1⟩
  case h_2 =>
    simp only [ret, Option.bind_eq_some_iff, Option.some.injEq, Prod.mk.injEq] at h
    obtain ⟨u, h1, _, rfl⟩ := h
    exact ⟨_, by simp, opd_sound hr h1⟩
  case h_3 c x y =>
    split at h
    · rename_i vc va vb h1 h2 h3
      obtain ⟨v', e1, e2⟩ := evPick_sound (P := P) w h ho (opd_sound hr h1) (opd_sound hr h2) (opd_sound hr h3)
      refine ⟨v', ?_, e2⟩
      simp only [Sem.run_bind] at e1 ⊢
      cases hb : Sem.run P (asBool (a.eval c)) w with
      | halt x w' => simp [hb] at e1
      | ok b w' =>
        simp only [hb, Result.andThen_ok, Sem.run_pure, Result.ok.injEq] at e1 ⊢
        exact ⟨by rw [e1.1], e1.2⟩
    · simp at h
  case h_4 t parts =>
    obtain ⟨r, h1, h2⟩ := Option.bind_eq_some_iff.1 h
    obtain ⟨v', e1, e2⟩ := evBuild_sound (P := P) w h2 (opdP_sound hr h1)
    refine ⟨v', V ?_, e2⟩
    rw [← e1]
    congr 2
    apply Array.ext'
    simp
  case h_5 x =>
    obtain ⟨r, h1, h2⟩ := Option.bind_eq_some_iff.1 h
    have e := opd_sound hr h1
    unfold evNil at h2
    split at h2
    · simp only [ret, Option.some.injEq, Prod.mk.injEq] at h2
      obtain ⟨_, rfl⟩ := h2
      refine ⟨a.eval x, ?_, e⟩
      generalize hy : a.eval x = y at e ⊢
      cases e
      simp [hy]
    · simp at h2
  case h_6 op t x y yt =>
    split at h
    · rename_i vx vy h1 h2
      obtain ⟨e1, e2⟩ := evEqAgg_sound (P := P) (p := x) (q := y) w h (opd_sound hr h1) (opd_sound hr h2)
      exact ⟨v, V e1, e2⟩
    · rename_i vx vy _ h1 h2
      have ex := opd_sound hr h1
      have ey := opd_sound hr h2
      obtain ⟨e1, e2⟩ := evBin_sound (P := P) w h ho ex ey
      refine ⟨v, V ?_, e2⟩
      have hg : (eqGuard op t x y (a.eval x) (a.eval y)).run P w = .ok () w := run_eqGuard w fun hop => evBin_form h hop ex ey
      simp only [Sem.run_bind, hg, Result.andThen_ok, e1]
    · simp at h
  case h_7 op t x =>
    obtain ⟨r, h1, h2⟩ := Option.bind_eq_some_iff.1 h
    obtain ⟨e1, e2⟩ := evUn_sound (P := P) w h2 (opd_sound hr h1)
    exact ⟨v, V e1, e2⟩
  case h_8 s d x =>
    obtain ⟨r, h1, h2⟩ := Option.bind_eq_some_iff.1 h
    obtain ⟨e1, e2⟩ := evConv_sound (P := P) w h2 (opd_sound hr h1)
    exact ⟨v, V e1, e2⟩
  case h_9 fn f c =>
    split at h
    · rename_i rf rc h1 h2
      simp only [ret, Option.some.injEq, Prod.mk.injEq] at h
      obtain ⟨_, rfl⟩ := h
      refine ⟨.func fn (f.map a.eval) (c.map a.eval), V (by simp only [Instr.makeFunc, Sem.run_pure]), ?_⟩
      have e1 := opdL_sound hr h1
      have e2 := opdL_sound hr h2
      have := Rep.func (E := E) fn rf rc _ _ e1 e2
      rw [show f.map a.eval = ⟨f.toList.map a.eval⟩ by apply Array.ext'; simp, show c.map a.eval = ⟨c.toList.map a.eval⟩ by apply Array.ext'; simp]
      exact this
    · simp at h
  case h_10 t x lo hi mx =>
    split at h
    · rename_i vx vl vh vm h1 h2 h3 h4
      obtain ⟨v', e1, e2⟩ := evSlice_sound (P := P) g h ho (opd_sound hr h1) (opdO_sound hr h2) (opdO_sound hr h3) (opdO_sound hr h4)
      exact ⟨v', V e1, e2⟩
    · simp at h
  case h_11 s x f =>
    obtain ⟨r, h1, h2⟩ := Option.bind_eq_some_iff.1 h
    obtain ⟨v', e1, e2⟩ := evFieldAddr_sound (P := P) w h2 (opd_sound hr h1)
    exact ⟨v', V e1, e2⟩
  case h_12 s x f =>
    obtain ⟨r, h1, h2⟩ := Option.bind_eq_some_iff.1 h
    obtain ⟨v', e1, e2⟩ := evField_sound (P := P) w h2 (opd_sound hr h1)
    exact ⟨v', V e1, e2⟩
  case h_13 t x i =>
    split at h
    · rename_i vx vi h1 h2
      obtain ⟨v', e1, e2⟩ := evIndexAddr_sound (P := P) w h ho (opd_sound hr h1) (opd_sound hr h2)
      exact ⟨v', V e1, e2⟩
    · simp at h
  case h_14 t x i =>
    split at h
    · rename_i vx vi h1 h2
      obtain ⟨v', e1, e2⟩ := evIndex_sound (P := P) w h ho (opd_sound hr h1) (opd_sound hr h2)
      exact ⟨v', V e1, e2⟩
    · simp at h
  case h_15 x i =>
    obtain ⟨r, h1, h2⟩ := Option.bind_eq_some_iff.1 h
    obtain ⟨v', e1, e2⟩ := evExtract_sound (P := P) w h2 (opd_sound hr h1)
    exact ⟨v', V e1, e2⟩
  case h_16 => simp at h

end
end Go.AX

namespace Go.AX
set_option linter.unusedSimpArgs false
set_option linter.unusedVariables false

def Env.push (E : Env) (b o cz ez : Nat) : Env where
  n := E.n + 1
  blk := fun i => if i = E.n then b else E.blk i
  off := fun i => if i = E.n then o else E.off i
  csz := fun i => if i = E.n then cz else E.csz i
  esz := fun i => if i = E.n then ez else E.esz i

theorem Env.push_agree (E : Env) (b o cz ez : Nat) : Env.Agree E.n E (E.push b o cz ez) :=
  ⟨Nat.le_succ _, fun i hi => if_neg (Nat.ne_of_lt hi), fun i hi => if_neg (Nat.ne_of_lt hi), fun i hi => if_neg (Nat.ne_of_lt hi), fun i hi => if_neg (Nat.ne_of_lt hi)⟩

section
variable {E : Env} {h : AHeap} {w : World}

theorem Good.lt (g : Good E h w) {i : Nat} {o : AObj} (hi : h[i]? = some o) : i < E.n := by
  rw [g.n]
  rcases Nat.lt_or_ge i h.length with h' | h'
  · exact h'
  · rw [List.getElem?_eq_none h'] at hi; exact absurd hi (by simp)
theorem Good.drew (g : Good E h w) : Good E h w.drew :=
  ⟨g.n, fun i o hi => (g.holds i o hi).mono (.refl _ (Nat.le_refl _)) (g.lt hi) (fun _ => rfl), g.apart⟩

theorem Evol.drew (E : Env) (h : AHeap) (w : World) : Evol E.n E h w E h w.drew :=
  ⟨.refl _ (Nat.le_refl _), fun _ _ _ => rfl, fun _ h => .inr h, Nat.le_refl _, rfl, ⟨rfl, Nat.le_refl _, fun _ _ => rfl⟩, rfl⟩

theorem Good.block_lt (g : Good E h w) {i : Nat} {o : AObj} (hi : h[i]? = some o) (hl : o.live) : E.blk i < w.heap.size := by
  have hH := g.holds i o hi
  rcases Nat.lt_or_ge (E.blk i) w.heap.size with h' | h'
  · exact h'
  · have hn : w.heap[E.blk i]? = none := Array.getElem?_eq_none h'
    cases o with
    | cells vs e sz => obtain ⟨c, h1, _⟩ := hH; simp [hn] at h1
    | row vs e sz => obtain ⟨c, h1, _⟩ := hH.2 hl; simp [hn] at h1
    | mp es => obtain ⟨c, k, h1, _⟩ := hH; simp [hn] at h1
    | ro vs sz =>
      cases vs with
      | nil => exact absurd rfl hl
      | cons v vs =>
        obtain ⟨v', h1, _⟩ := hH.2 0 v rfl
        simp [World.cell?, hn] at h1
    | gone => exact hl.elim

theorem own_live {o : AObj} (h : o.own) : o.live := by cases o <;> first | exact h | exact trivial | exact h.elim

theorem Good.owned_lt (g : Good E h w) {b : Nat} (ho : Owned E h b) : b < w.heap.size := Owned.lt g ho

theorem frozen_alloc (w : World) (c : Array Value) (t : TypeId) (a : Addr) : (w.alloc (.cells c t)).frozen? a = w.frozen? a := by
  by_cases h : a.block = w.heap.size
  · have e2 : w.heap[a.block]? = none := by rw [h]; simp
    have e3 : w.frozen? a = false := by unfold World.frozen?; rw [e2]
    obtain ⟨b, o, s⟩ := a
    simp only at h
    subst h
    rw [e3]
    unfold World.frozen?
    have e4 : (w.alloc (.cells c t)).heap[w.heap.size]? = some (.cells c t) := by rw [← World.alloc_eq]; simp
    simp only [e4]
    simp
  · exact World.frozen?_alloc_old _ _ _ h

theorem frozen_setRow (w : World) (b : Nat) (c : Array Value) (a : Addr) : (w.setRow b c).frozen? a = w.frozen? a := by
  unfold World.frozen? World.setRow
  simp only [Array.getElem?_modify]
  by_cases hb : b = a.block
  · rw [if_pos hb]
    cases hx : w.heap[a.block]? with
    | none => simp
    | some o => cases o <;> simp
  · rw [if_neg hb]
theorem good_new (g : Good E h w) (ob : Obj) (o : AObj) (off cz ez : Nat) (hro : o.live → o.own)
    (hh : Holds (E.push w.heap.size off cz ez) (w.alloc ob) E.n o) (hfr : ∀ a, (w.alloc ob).frozen? a = w.frozen? a := by exact frozen_alloc _ _ _) :
    Good (E.push w.heap.size off cz ez) (h ++ [o]) (w.alloc ob) ∧ Evol E.n E h w (E.push w.heap.size off cz ez) (h ++ [o]) (w.alloc ob) := by
  have hag := Env.push_agree E w.heap.size off cz ez
  have hsz : (w.alloc ob).heap.size = w.heap.size + 1 := by simp
  have hold : ∀ b, b < w.heap.size → (w.alloc ob).heap[b]? = w.heap[b]? := fun b hb => heap_alloc_old w ob b hb
  have hn := g.n
  have cases2 : ∀ {i : Nat} {o' : AObj}, (h ++ [o])[i]? = some o' → (i < E.n ∧ h[i]? = some o') ∨ (i = E.n ∧ o' = o) := by
    intro i o' hi
    rw [List.getElem?_append] at hi
    split at hi
    · exact .inl ⟨by omega, hi⟩
    · rename_i hlt
      have : i = h.length := by
        rcases Nat.lt_or_ge i (h.length + 1) with h' | h'
        · omega
        · rw [List.getElem?_eq_none (by simp; omega)] at hi; simp at hi
      subst this
      simp only [Nat.sub_self, List.getElem?_cons_zero, Option.some.injEq] at hi
      exact .inr ⟨by omega, hi.symm⟩
  have hbn : (E.push w.heap.size off cz ez).blk E.n = w.heap.size := if_pos rfl
  refine ⟨⟨?_, ?_, ?_⟩, ⟨hag, ?_, ?_, by omega, rfl, ⟨rfl, by omega, fun a _ => hfr a⟩, rfl⟩⟩
  · simp [Env.push, hn]
  · intro i o' hi
    rcases cases2 hi with ⟨h1, h2⟩ | ⟨rfl, rfl⟩
    · exact (g.holds i o' h2).mono hag h1 (fun hl => hold _ (g.block_lt h2 hl))
    · exact hh
  · intro i j o' u hi hj ho hu hij
    rcases cases2 hi with ⟨h1, h2⟩ | ⟨rfl, rfl⟩ <;> rcases cases2 hj with ⟨k1, k2⟩ | ⟨rfl, rfl⟩
    · rw [hag.blk i h1, hag.blk j k1]; exact g.apart i j o' u h2 k2 ho hu hij
    · rw [hag.blk i h1, hbn]; exact Nat.ne_of_lt (g.block_lt h2 (own_live ho))
    · rw [hag.blk j k1, hbn]; exact (Nat.ne_of_lt (g.block_lt k2 hu)).symm
    · exact absurd rfl hij
  · intro b hb _
    exact hold b hb
  · rintro b ⟨i, o', hi, ho, rfl⟩
    rcases cases2 hi with ⟨h1, h2⟩ | ⟨rfl, rfl⟩
    · exact .inr ⟨i, o', h2, ho, (hag.blk i h1).symm⟩
    · exact .inl (by rw [hbn]; exact Nat.le_refl _)
theorem good_upd (g : Good E h w) {w' : World} {i : Nat} {o o' : AObj} (hi : h[i]? = some o) (ho : o.own) (hro : o'.live → o'.own) (hh : Holds E w' i o')
    (hsz : w'.heap.size = w.heap.size) (hb : ∀ b, b ≠ E.blk i → w'.heap[b]? = w.heap[b]?) (h1 : w'.os = w.os) (h2 : Calm w w') (h3 : w'.output = w.output) :
    Good E (h.set i o') w' ∧ Evol E.n E h w E (h.set i o') w' := by
  have hlt : i < h.length := by have := g.lt hi; rw [g.n] at this; exact this
  have cases2 : ∀ {j : Nat} {u : AObj}, (h.set i o')[j]? = some u → (j ≠ i ∧ h[j]? = some u) ∨ (j = i ∧ u = o') := by
    intro j u hj
    by_cases e : j = i
    · subst e
      rw [List.getElem?_set_self hlt] at hj
      exact .inr ⟨rfl, (Option.some.inj hj).symm⟩
    · rw [List.getElem?_set_ne (Ne.symm e)] at hj
      exact .inl ⟨e, hj⟩
  refine ⟨⟨?_, ?_, ?_⟩, ⟨.refl _ (Nat.le_refl _), ?_, ?_, by omega, h1, h2, h3⟩⟩
  · simp [g.n]
  · intro j u hj
    rcases cases2 hj with ⟨k1, k2⟩ | ⟨rfl, rfl⟩
    · exact (g.holds j u k2).mono (.refl _ (Nat.le_refl _)) (g.lt k2) (fun hl => hb _ (g.apart i j o u hi k2 ho hl (Ne.symm k1)).symm)
    · exact hh
  · intro j k u v hj hk hu hv hjk
    rcases cases2 hj with ⟨p1, p2⟩ | ⟨rfl, rfl⟩ <;> rcases cases2 hk with ⟨q1, q2⟩ | ⟨rfl, rfl⟩
    · exact g.apart j k u v p2 q2 hu hv hjk
    · exact (g.apart _ _ _ _ hi p2 ho (own_live hu) (Ne.symm hjk)).symm
    · exact g.apart _ _ _ _ hi q2 ho hv hjk
    · exact absurd rfl hjk
  · intro b _ hno
    exact hb b fun e => hno ⟨i, o, hi, ho, e.symm⟩
  · rintro b ⟨j, u, hj, hu, rfl⟩
    rcases cases2 hj with ⟨p1, p2⟩ | ⟨rfl, rfl⟩
    · exact .inr ⟨j, u, p2, hu, rfl⟩
    · exact .inr ⟨_, o, hi, ho, rfl⟩
theorem good_kill (g : Good E h w) (i : Nat) : Good E (h.set i .gone) w ∧ Evol E.n E h w E (h.set i .gone) w := by
  have cases2 : ∀ {j : Nat} {u : AObj}, (h.set i .gone)[j]? = some u → (h[j]? = some u) ∨ (u = .gone) := by
    intro j u hj
    rw [List.getElem?_set] at hj
    split at hj
    · split at hj
      · exact .inr (Option.some.inj hj).symm
      · simp at hj
    · exact .inl hj
  refine ⟨⟨by simp [g.n], ?_, ?_⟩, ⟨.refl _ (Nat.le_refl _), fun _ _ _ => rfl, ?_, Nat.le_refl _, rfl, .refl _, rfl⟩⟩
  · intro j u hj
    rcases cases2 hj with k | rfl
    · exact g.holds j u k
    · trivial
  · intro j k u v hj hk hu hv hjk
    rcases cases2 hj with p | rfl
    · rcases cases2 hk with q | rfl
      · exact g.apart j k u v p q hu hv hjk
      · exact hv.elim
    · exact hu.elim
  · rintro b ⟨j, u, hj, hu, rfl⟩
    rcases cases2 hj with p | rfl
    · exact .inr ⟨j, u, p, hu, rfl⟩
    · exact hu.elim
theorem good_move (g : Good E h w) {i : Nat} {o : AObj} (hi : h[i]? = some o) (hl : o.live → o.own) :
    Good (E.push (E.blk i) (E.off i) (E.csz i) (E.esz i)) (h.set i .gone ++ [o]) w ∧ Evol E.n E h w (E.push (E.blk i) (E.off i) (E.csz i) (E.esz i)) (h.set i .gone ++ [o]) w := by
  have hag := Env.push_agree E (E.blk i) (E.off i) (E.csz i) (E.esz i)
  have hn := g.n
  have hlt : i < h.length := by have := g.lt hi; omega
  have cases2 : ∀ {j : Nat} {u : AObj}, (h.set i .gone ++ [o])[j]? = some u → (j < E.n ∧ j ≠ i ∧ h[j]? = some u) ∨ (u = .gone) ∨ (j = E.n ∧ u = o) := by
    intro j u hj
    rw [List.getElem?_append] at hj
    split at hj
    · rename_i hjl
      simp only [List.length_set] at hjl
      by_cases e : j = i
      · subst e
        rw [List.getElem?_set_self hlt] at hj
        exact .inr (.inl (Option.some.inj hj).symm)
      · rw [List.getElem?_set_ne (Ne.symm e)] at hj
        exact .inl ⟨by omega, e, hj⟩
    · rename_i hjl
      simp only [List.length_set] at hjl hj
      have : j = h.length := by
        rcases Nat.lt_or_ge j (h.length + 1) with h' | h'
        · omega
        · rw [List.getElem?_eq_none (by simp; omega)] at hj; simp at hj
      subst this
      simp only [Nat.sub_self, List.getElem?_cons_zero, Option.some.injEq] at hj
      exact .inr (.inr ⟨by omega, hj.symm⟩)
  have e1 : (E.push (E.blk i) (E.off i) (E.csz i) (E.esz i)).blk E.n = E.blk i := if_pos rfl
  have e2 : (E.push (E.blk i) (E.off i) (E.csz i) (E.esz i)).off E.n = E.off i := if_pos rfl
  have e3 : (E.push (E.blk i) (E.off i) (E.csz i) (E.esz i)).csz E.n = E.csz i := if_pos rfl
  have e4 : (E.push (E.blk i) (E.off i) (E.csz i) (E.esz i)).esz E.n = E.esz i := if_pos rfl
  refine ⟨⟨by simp [Env.push, hn], ?_, ?_⟩, ⟨hag, fun _ _ _ => rfl, ?_, Nat.le_refl _, rfl, .refl _, rfl⟩⟩
  · intro j u hj
    rcases cases2 hj with ⟨p1, p2, p3⟩ | rfl | ⟨rfl, rfl⟩
    · exact (g.holds j u p3).mono hag p1 (fun _ => rfl)
    · trivial
    · have hH := g.holds i _ hi
      generalize hEp : E.push (E.blk i) (E.off i) (E.csz i) (E.esz i) = F at *
      cases u with
      | cells vs e sz =>
        obtain ⟨c, h1, h2, h3, h4, h5⟩ := hH
        exact ⟨c, by rw [e1, h1], by rw [e2, h2], by rw [e3, h3], by rw [e4, h4], h5.mono hag⟩
      | row vs e sz =>
        refine ⟨by rw [e4, hH.1], fun hv => ?_⟩
        obtain ⟨c, h1, h2, h3, h4, h5⟩ := hH.2 hv
        exact ⟨c, by rw [e1, h1], by rw [e2, h2], by rw [e3, h3], h4, h5.mono hag⟩
      | mp es =>
        obtain ⟨c, k, h1, h2, h3⟩ := hH
        exact ⟨c, k, by rw [e1, h1], h2.mono hag, h3⟩
      | ro vs sz =>
        refine ⟨by rw [e4, hH.1], fun k v hk => ?_⟩
        obtain ⟨v', q1, q2⟩ := hH.2 k v hk
        exact ⟨v', by rw [e1, e2, q1], q2.mono hag⟩
      | gone => trivial
  · intro j k u v hj hk hu hv hjk
    rcases cases2 hj with ⟨p1, p2, p3⟩ | rfl | ⟨rfl, rfl⟩
    · rcases cases2 hk with ⟨q1, q2, q3⟩ | rfl | ⟨rfl, rfl⟩
      · rw [hag.blk j p1, hag.blk k q1]; exact g.apart j k u v p3 q3 hu hv hjk
      · exact hv.elim
      · rw [hag.blk j p1, e1]; exact g.apart j i u v p3 hi hu hv p2
    · exact hu.elim
    · rcases cases2 hk with ⟨q1, q2, q3⟩ | rfl | ⟨rfl, rfl⟩
      · rw [hag.blk k q1, e1]; exact g.apart i k u v hi q3 hu hv (Ne.symm q2)
      · exact hv.elim
      · exact absurd rfl hjk
  · rintro b ⟨j, u, hj, hu, rfl⟩
    rcases cases2 hj with ⟨p1, p2, p3⟩ | rfl | ⟨rfl, rfl⟩
    · exact .inr ⟨j, u, p3, hu, (hag.blk j p1).symm⟩
    · exact hu.elim
    · exact .inr ⟨i, u, hi, hu, e1.symm⟩

end
end Go.AX

namespace Go.AX
set_option linter.unusedSimpArgs false
set_option linter.unusedVariables false

/-! Lists, quick for the kernel. -/
noncomputable def lget {α : Type} (l : List α) : Nat → Option α := List.rec (fun _ => none) (fun v _ ih n => Nat.rec (some v) (fun k _ => ih k) n) l
noncomputable def lset {α : Type} (l : List α) : Nat → α → List α := List.rec (fun _ _ => []) (fun v t ih n x => Nat.rec (x :: t) (fun k _ => v :: ih k x) n) l
noncomputable def ltake {α : Type} (l : List α) : Nat → List α := List.rec (fun _ => []) (fun v _ ih n => Nat.rec [] (fun k _ => v :: ih k) n) l
noncomputable def ldrop {α : Type} (l : List α) : Nat → List α := List.rec (fun _ => []) (fun v t ih n => Nat.rec (v :: t) (fun k _ => ih k) n) l

theorem lget_eq {α : Type} (l : List α) (n : Nat) : lget l n = l[n]? := by
  induction l generalizing n with
  | nil => rfl
  | cons v t ih => cases n with
    | zero => rfl
    | succ k => rw [List.getElem?_cons_succ]; exact ih k
theorem lset_eq {α : Type} (l : List α) (n : Nat) (x : α) : lset l n x = l.set n x := by
  induction l generalizing n with
  | nil => rfl
  | cons v t ih => cases n with
    | zero => rfl
    | succ k => rw [List.set_cons_succ, ← ih k]; rfl
theorem ltake_eq {α : Type} (l : List α) (n : Nat) : ltake l n = l.take n := by
  induction l generalizing n with
  | nil => simp [ltake]
  | cons v t ih => cases n with
    | zero => rfl
    | succ k => rw [List.take_succ_cons, ← ih k]; rfl
theorem ldrop_eq {α : Type} (l : List α) (n : Nat) : ldrop l n = l.drop n := by
  induction l generalizing n with
  | nil => simp [ldrop]
  | cons v t ih => cases n with
    | zero => rfl
    | succ k => rw [List.drop_succ_cons, ← ih k]; rfl

def isCell : Value → Bool
  | .agg _ | .tuple _ => false
  | _ => true

abbrev MRes := Option (List Prop × Value × AHeap)

noncomputable def objCells (h : AHeap) (i : Nat) : Option (List Value) :=
  match lget h i with
  | some (.cells vs _ _) | some (.row vs _ _) | some (.ro vs _) => some vs
  | _ => none

noncomputable def evLoad (P : Program) (h : AHeap) (hint : Hint) (t : TypeId) (x : Value) : PRes :=
  match x with
  | .pointer (some ⟨i, o, none⟩) =>
    match objCells h i, P.underlying t, sizeT P t with
    | some vs, some d, some n =>
      match isAggD d, hint with
      | true, .cells l => some ([(vs.drop o).take n = l, l.length = n], .agg ⟨l⟩)
      | true, _ => if (ltake (ldrop vs o) n).length = n then ret (.agg ⟨ltake (ldrop vs o) n⟩) else none
      | false, .val v => some ([vs[o]? = some v], v)
      | false, _ => (lget vs o).map fun v => ([], v)
    | _, _, _ => none
  | _ => none

noncomputable def put1 (vs : List Value) (o : Nat) (l : List Value) : List Value :=
  match l with
  | [c] => lset vs o c
  | l => splice vs o l

noncomputable def evStore (P : Program) (h : AHeap) (t : TypeId) (x v : Value) : MRes :=
  match x with
  | .pointer (some ⟨i, o, none⟩) =>
    match vcells v, sizeT P t, lget h i with
    | some l, some n, some (.cells vs e sz) =>
      if l.length = n then
        if l.all isCell then some (bs [decide (o + n ≤ vs.length)], undef, lset h i (.cells (put1 vs o l) e sz)) else none
      else none
    | some l, some n, some (.row vs e sz) =>
      if l.length = n then
        if l.all isCell then some (bs [decide (o + n ≤ vs.length), decide (0 < vs.length)], undef, lset h i (.row (put1 vs o l) e sz)) else none
      else none
    | _, _, _ => none
  | _ => none

def evNew (P : Program) (h : AHeap) (e : TypeId) (v : Value) : MRes :=
  match vcells v, sizeT P e with
  | some l, some n => some ([], .pointer (some ⟨h.length, 0, none⟩), h ++ [.cells l e n])
  | _, _ => none

def evBuildSlice (P : Program) (h : AHeap) (t : TypeId) (len : Nat) (parts : List (Nat × Value)) : MRes :=
  match P.underlying t with
  | some (.slice e) =>
    match sizeT P e, (zeroT P e).bind vcells with
    | some n, some z =>
      if n = z.length then
        if 0 < n then
          if len * n ≤ 16777216 then
            if len < UNK then
              (lfill (fun i => some (i * n, n)) (List.flatten (List.replicate len z)) parts).map fun cs => ([], .slice (some ⟨h.length, 0, none⟩) len len, h ++ [.cells cs e n])
            else none
          else none
        else none
      else none
    | _, _ => none
  | _ => none

section
variable {P : Program} {E : Env} {h : AHeap} {w : World}

theorem isCell_rep {v v' : Value} (hr : Rep E v v') (hc : isCell v = true) : v'.oneCell' = true := by
  cases hr <;> first | rfl | simp [isCell, junk] at hc

theorem isCell_repL : ∀ {l l' : List Value}, RepL E l l' → l.all isCell = true → ∀ u ∈ l', u.oneCell' = true
  | _, _, .nil, _ => by simp
  | _, _, .cons v v' l l' hv ht, hc => by
    simp only [List.all_cons, Bool.and_eq_true] at hc
    intro u hu
    rcases List.mem_cons.1 hu with rfl | hu
    · exact isCell_rep hv hc.1
    · exact isCell_repL ht hc.2 u hu
theorem cell_of (g : Good E h w) {i : Nat} {vs : List Value} (ho : objCells h i = some vs) {k : Nat} {v : Value} (hk : vs[k]? = some v) :
    ∃ v', w.cell? ⟨E.blk i, E.off i + k, none⟩ = some v' ∧ Rep E v v' := by
  unfold objCells at ho
  rw [lget_eq] at ho
  split at ho
  · rename_i us e sz hi
    simp only [Option.some.injEq] at ho; subst ho
    obtain ⟨c, h1, h2, h3, h4, h5⟩ := g.holds i _ hi
    obtain ⟨v', q1, q2⟩ := h5.get hk
    refine ⟨v', ?_, q2⟩
    rw [h2, Nat.zero_add, cell_of_row w _ _ _ _ _ h1]
    simpa using q1
  · rename_i us e sz hi
    simp only [Option.some.injEq] at ho; subst ho
    obtain ⟨h0, h1⟩ := g.holds i _ hi
    obtain ⟨c, h1, h2, h3, h4, h5⟩ := h1 (fun e => by subst e; simp at hk)
    obtain ⟨v', q1, q2⟩ := h5.get hk
    refine ⟨v', ?_, q2⟩
    rw [h2, Nat.zero_add, cell_of_row w _ _ _ _ _ h1]
    rw [List.getElem?_take] at q1
    split at q1
    · simpa using q1
    · simp at q1
  · rename_i us sz hi
    simp only [Option.some.injEq] at ho; subst ho
    exact (g.holds i _ hi).2 k v hk
  · simp at ho
theorem cells_of (g : Good E h w) {i : Nat} {vs : List Value} (ho : objCells h i = some vs) (o n : Nat) :
    ∃ c : List Value, RepL E ((vs.drop o).take n) c ∧ ∀ (j : Nat) (u : Value), c[j]? = some u → w.cell? ((⟨E.blk i, E.off i + o, none⟩ : Addr).add j) = some u := by
  have hg : ∀ j u, ((vs.drop o).take n)[j]? = some u → ∃ v', w.cell? ⟨E.blk i, E.off i + (o + j), none⟩ = some v' ∧ Rep E u v' := by
    intro j u hj
    rw [List.getElem?_take] at hj
    split at hj
    · rw [List.getElem?_drop] at hj
      exact cell_of g ho hj
    · simp at hj
  generalize (vs.drop o).take n = l at hg
  refine ⟨(List.range l.length).map fun j => (w.cell? ⟨E.blk i, E.off i + (o + j), none⟩).getD undef, ?_, ?_⟩
  · refine .of_get (by simp) fun j v hj => ?_
    obtain ⟨v', q1, q2⟩ := hg j v hj
    have hjl : j < l.length := (List.getElem?_eq_some_iff.1 hj).1
    exact ⟨v', by simp [hjl, q1], q2⟩
  · intro j u hj
    have hjl : j < l.length := by
      have := (List.getElem?_eq_some_iff.1 hj).1
      simpa using this
    obtain ⟨v', q1, q2⟩ := hg j l[j] (List.getElem?_eq_getElem hjl)
    simp only [List.getElem?_map, List.getElem?_range hjl, Option.map_some, q1, Option.getD_some, Option.some.injEq] at hj
    rw [Addr.add_none, Nat.add_assoc, q1, hj]

theorem evLoad_sound {hint : Hint} {t : TypeId} {x x' v : Value} {obs : List Prop} (g : Good E h w) (he : evLoad P h hint t x = some (obs, v)) (ho : AllP obs) (hx : Rep E x x') :
    ∃ v', (Instr.loadAt t x').run P w = .ok v' w ∧ Rep E v v' := by
  unfold evLoad at he
  simp only [lget_eq, ltake_eq, ldrop_eq] at he
  split at he
  · rename_i i o
    cases hx with
    | ptr _ _ hi =>
      split at he
      · rename_i vs d n h1 h2 h3
        have kagg : isAggD d = true → ((vs.drop o).take n).length = n → ∃ v', (Instr.loadAt t (.pointer (some ⟨E.blk i, E.off i + o, none⟩))).run P w = .ok v' w ∧ Rep E (.agg ⟨(vs.drop o).take n⟩) v' := by
          intro hg hl
          obtain ⟨c, q1, q2⟩ := cells_of g h1 o n
          refine ⟨.agg ⟨c⟩, ?_, .agg _ _ q1⟩
          have hcl : c.length = n := by rw [q1.length, hl]
          have := run_loadCells_list (P := P) w ⟨E.blk i, E.off i + o, none⟩ c q2
          rw [hcl] at this
          simp only [Instr.loadAt, Instr.sureAddr, loadVar, Sem.run_bind, Sem.run_pure, Result.andThen_ok, run_isAgg h2, hg, if_true, run_sizeOf h3, this]
        have kcell : isAggD d = false → ∀ u, vs[o]? = some u → ∃ v', (Instr.loadAt t (.pointer (some ⟨E.blk i, E.off i + o, none⟩))).run P w = .ok v' w ∧ Rep E u v' := by
          intro hg u hu
          obtain ⟨v', q1, q2⟩ := cell_of g h1 hu
          refine ⟨v', ?_, q2⟩
          simp only [Instr.loadAt, Instr.sureAddr, loadVar, Sem.run_bind, Sem.run_pure, Result.andThen_ok, run_isAgg h2, hg, Bool.false_eq_true, if_false, run_load, q1]
        split at he
        · rename_i l hg
          simp only [Option.some.injEq, Prod.mk.injEq] at he
          obtain ⟨rfl, rfl⟩ := he
          have := kagg hg (by rw [ho.1]; exact ho.2.1)
          rwa [ho.1] at this
        · rename_i hg _
          split at he
          · rename_i hl
            simp only [ret, Option.some.injEq, Prod.mk.injEq] at he
            obtain ⟨rfl, rfl⟩ := he
            exact kagg hg hl
          · simp at he
        · rename_i u hg
          simp only [Option.some.injEq, Prod.mk.injEq] at he
          obtain ⟨rfl, rfl⟩ := he
          exact kcell hg _ ho.1
        · rename_i hg _
          simp only [Option.map_eq_some_iff, Prod.mk.injEq] at he
          obtain ⟨u, hu, rfl, rfl⟩ := he
          exact kcell hg _ hu
      · simp at he
  · simp at he

theorem match_one (vs l : List Value) (o : Nat) (h : o + l.length ≤ vs.length) : put1 vs o l = splice vs o l := by
  unfold put1
  split
  · rw [lset_eq]
    simp only [splice, List.length_cons, List.length_nil, Nat.zero_add, List.cons_append, List.nil_append]
    simp only [List.length_cons, List.length_nil, Nat.zero_add] at h
    rw [List.set_eq_take_append_cons_drop, if_pos (by omega)]
  · rfl

theorem evStore_sound {t : TypeId} {x x' v v' u : Value} {h' : AHeap} {obs : List Prop} (g : Good E h w) (he : evStore P h t x v = some (obs, u, h')) (ho : AllP obs) (hx : Rep E x x') (hv : Rep E v v') :
    ∃ w', (Instr.storeAt t x' v').run P w = .ok () w' ∧ Good E h' w' ∧ Evol E.n E h w E h' w' ∧ u = undef := by
  unfold evStore at he
  simp only [lget_eq, lset_eq] at he
  split at he
  · rename_i i o
    cases hx with
    | ptr _ _ hi =>
      split at he
      · rename_i l n vs e sz h1 h2 h3
        split at he
        · rename_i hl
          split at he
          · rename_i hc
            simp only [Option.some.injEq, Prod.mk.injEq] at he
            obtain ⟨rfl, rfl, rfl⟩ := he
            have hb := D_iff.1 (bs_all ho).1
            obtain ⟨l', q1, q2⟩ := vcells_rep hv h1
            obtain ⟨c, r1, r2, r3, r4, r5⟩ := g.holds i _ h3
            have hcl := r5.length
            have hll := q2.length
            have hrun := run_storeCells_at P (E.blk i) (E.off i + o) e l' 0 ⟨c⟩ w r1 (by simp; omega) (isCell_repL q2 hc)
            have key := good_upd g h3 (o' := .cells (put1 vs o l) e sz) trivial (fun h => h) (w' := w.setRow (E.blk i) ⟨splice c o l'⟩) ?_ (size_setRow _ _ _) (fun b hb => setRow_other w _ _ _ hb) rfl ⟨rfl, Nat.le_of_eq (size_setRow _ _ _).symm, fun a _ => frozen_setRow _ _ _ a⟩ rfl
            · refine ⟨_, ?_, key.1, key.2, rfl⟩
              simp only [Instr.storeAt, Instr.sureAddr, storeVar, Sem.run_bind, Sem.run_pure, Result.andThen_ok, run_sizeOf h2]
              have hcells := vcells_spec q1
              rw [hcells]
              rw [if_neg (by simp; omega)]
              simp only [Sem.run_pure, Result.andThen_ok]
              rw [hrun]
              congr 2
              simp [splice, r2]
            · refine ⟨splice c o l', setRow_heap w _ _ _ _ _ r1, r2, ?_, r4, ?_⟩
              · rw [splice_length (by omega), r3]
              · rw [match_one _ _ _ (by omega)]
                exact splice_rep o r5 q2
          · simp at he
        · simp at he
      · rename_i l n vs e sz h1 h2 h3
        split at he
        · rename_i hl
          split at he
          · rename_i hc
            simp only [Option.some.injEq, Prod.mk.injEq] at he
            obtain ⟨rfl, rfl, rfl⟩ := he
            have hb := D_iff.1 (bs_all ho).1
            have hne : vs ≠ [] := by
              have h0 := D_iff.1 (bs_all ho).2.1
              intro e0; rw [e0] at h0; exact absurd h0 (Nat.lt_irrefl 0)
            obtain ⟨l', q1, q2⟩ := vcells_rep hv h1
            obtain ⟨r4, hr⟩ := g.holds i _ h3
            obtain ⟨c, r1, r2, r3, r6, r5⟩ := hr hne
            have hcl := r5.length
            have hll := q2.length
            have hrun := run_storeCells_at P (E.blk i) (E.off i + o) e l' 0 ⟨c⟩ w r1 (by simp; omega) (isCell_repL q2 hc)
            have hsl : (splice vs o l).length = vs.length := splice_length (by omega)
            have key := good_upd g h3 (o' := .row (put1 vs o l) e sz) hne (fun h => h) (w' := w.setRow (E.blk i) ⟨splice c o l'⟩) ?_ (size_setRow _ _ _) (fun b hb => setRow_other w _ _ _ hb) rfl ⟨rfl, Nat.le_of_eq (size_setRow _ _ _).symm, fun a _ => frozen_setRow _ _ _ a⟩ rfl
            · refine ⟨_, ?_, key.1, key.2, rfl⟩
              simp only [Instr.storeAt, Instr.sureAddr, storeVar, Sem.run_bind, Sem.run_pure, Result.andThen_ok, run_sizeOf h2]
              have hcells := vcells_spec q1
              rw [hcells]
              rw [if_neg (by simp; omega)]
              simp only [Sem.run_pure, Result.andThen_ok]
              rw [hrun]
              congr 2
              simp [splice, r2]
            · refine ⟨r4, fun _ => ⟨splice c o l', setRow_heap w _ _ _ _ _ r1, r2, ?_, ?_, ?_⟩⟩
              · rw [splice_length (by omega), r3]
              · rw [match_one _ _ _ (by omega), splice_length (by omega), splice_length (by omega)]; exact r6
              · rw [match_one _ _ _ (by omega), hsl]
                have : (splice c o l').take vs.length = splice (c.take vs.length) o l' := by
                  unfold splice
                  rw [List.take_append, List.take_append, List.take_take, List.drop_take]
                  simp only [List.length_take]
                  rw [show min vs.length o = min o vs.length by omega, show List.take (vs.length - min o c.length) l' = l' from List.take_of_length_le (by omega)]
                  rw [List.take_take, show min o vs.length = o by omega, show vs.length - min o c.length - l'.length = vs.length - (o + l'.length) by omega]
                rw [this]
                exact splice_rep o r5 q2
          · simp at he
        · simp at he
      · simp at he
  · simp at he

theorem evNew_sound {e : TypeId} {v v' u : Value} {h' : AHeap} {obs : List Prop} (g : Good E h w) (he : evNew P h e v = some (obs, u, h')) (hv : Rep E v v') :
    ∃ E' w', (newVar e v').run P w = .ok ⟨w.heap.size, 0, none⟩ w' ∧ Good E' h' w' ∧ Evol E.n E h w E' h' w' ∧ Rep E' u (.pointer (some ⟨w.heap.size, 0, none⟩)) := by
  unfold evNew at he
  split at he
  · rename_i l n h1 h2
    simp only [Option.some.injEq, Prod.mk.injEq] at he
    obtain ⟨rfl, rfl, rfl⟩ := he
    obtain ⟨l', q1, q2⟩ := vcells_rep hv h1
    have hag := Env.push_agree E w.heap.size 0 l'.length n
    have key := good_new g (.cells ⟨l'⟩ e) (.cells l e n) 0 l'.length n (fun h => h)
      ⟨l', by simp only [Env.push, if_pos]; exact heap_alloc_new w _, by simp [Env.push], by simp [Env.push], by simp [Env.push], q2.mono hag⟩
    refine ⟨_, _, ?_, key.1, key.2, ?_⟩
    · have hcells := vcells_spec q1
      simp only [newVar, newRow, hcells, Sem.run_bind, run_newObj, Result.andThen_ok, Sem.run_pure]
      rfl
    · have := Rep.ptr (E := E.push w.heap.size 0 l'.length n) h.length 0 (by simp [Env.push, g.n])
      simpa [Env.push, g.n] using this
  · simp at he

theorem replicate_cells (z : List Value) (n len : Nat) (hn : n = z.length) (h0 : 0 < n) :
    ((Array.range (len * n)).map fun i => (⟨z⟩ : Array Value)[i % (⟨z⟩ : Array Value).size]!) = ⟨List.flatten (List.replicate len z)⟩ := by
  subst hn
  apply Array.ext'
  simp only [Array.toList_map, Array.toList_range]
  induction len with
  | zero => simp
  | succ len ih =>
    rw [List.replicate_succ', List.flatten_append, ← ih]
    rw [Nat.add_mul, Nat.one_mul, List.range_add, List.map_append]
    congr 1
    simp only [List.map_map, List.flatten_cons, List.flatten_nil, List.append_nil]
    apply List.ext_getElem?
    intro j
    by_cases hj : j < z.length
    · simp [hj, Nat.mod_eq_of_lt hj, getElem!_def]
    · simp [hj]

theorem repL_flatten {z z' : List Value} (hz : RepL E z z') (len : Nat) : RepL E (List.flatten (List.replicate len z)) (List.flatten (List.replicate len z')) := by
  induction len with
  | zero => exact .nil
  | succ len ih => rw [List.replicate_succ, List.replicate_succ, List.flatten_cons, List.flatten_cons]; exact hz.append ih

theorem evBuildSlice_sound {t : TypeId} {len : Nat} {parts parts' : List (Nat × Value)} {u : Value} {h' : AHeap} {obs : List Prop} (g : Good E h w) (he : evBuildSlice P h t len parts = some (obs, u, h')) (hp : RepP E parts parts') :
    ∃ E' w' v', (Instr.buildSlice t len ⟨parts'⟩).run P w = .ok v' w' ∧ Good E' h' w' ∧ Evol E.n E h w E' h' w' ∧ Rep E' u v' := by
  unfold evBuildSlice at he
  split at he
  · rename_i e hu
    split at he
    · rename_i n z hn hz
      split at he
      · rename_i hnz
        split at he
        · rename_i h0
          split at he
          · rename_i hb
            split at he
            · rename_i hlu
              simp only [Option.map_eq_some_iff, Prod.mk.injEq] at he
              obtain ⟨cs, hcs, rfl, rfl, rfl⟩ := he
              obtain ⟨zv, hz1, hz2⟩ := Option.bind_eq_some_iff.1 hz
              obtain ⟨z1, z2⟩ := run_zeroValue (E := E) hz1 w
              obtain ⟨z', zz1, zz2⟩ := vcells_rep z2 hz2
              obtain rfl := Option.some.inj (hz2.symm.trans zz1)
              obtain ⟨cs', f1, f2⟩ := lfill_rep _ hp (repL_flatten zz2 len) hcs
              have hag := Env.push_agree E w.heap.size 0 cs'.length n
              have key := good_new g (.cells ⟨cs'⟩ e) (.cells cs e n) 0 cs'.length n (fun h => h)
                ⟨cs', by simp only [Env.push, if_pos]; exact heap_alloc_new w _, by simp [Env.push], by simp [Env.push], by simp [Env.push], f2.mono hag⟩
              refine ⟨_, _, .slice (some ⟨w.heap.size, 0, none⟩) len len, ?_, key.1, key.2, ?_⟩
              · have hcells := vcells_spec hz2
                simp only [Instr.buildSlice, Sem.run_bind, run_underlying hu, Result.andThen_ok, run_sizeOf hn]
                rw [if_neg (by omega)]
                by_cases hl : len * n = 0
                · have hl0 : len = 0 := by
                    rcases Nat.mul_eq_zero.1 hl with h | h
                    · exact h
                    · omega
                  subst hl0
                  have f1' := fill_eq _ parts' _ cs' f1
                  simp only [List.replicate_zero, List.flatten_nil] at f1'
                  rw [if_pos hl]
                  simp only [Sem.run_bind, Sem.run_pure, Result.andThen_ok, Nat.zero_mul, show Array.range 0 = #[] from rfl, Array.map_empty, f1', newRow, run_newObj]
                  rfl
                · have f1' := fill_eq _ parts' _ cs' f1
                  rw [← replicate_cells z n len hnz h0] at f1'
                  simp only [if_neg hl, Sem.run_bind, z1, Sem.run_pure, Result.andThen_ok, hcells, f1', newRow, run_newObj]
                  rfl
              · have := Rep.slX (E := E.push w.heap.size 0 cs'.length n) h.length 0 len len (some ⟨w.heap.size, 0, none⟩) (by simp [Env.push, g.n]) (fun _ => by simp [Env.push, g.n]) (Nat.le_refl _) hlu
                exact this
            · simp at he
          · simp at he
        · simp at he
      · simp at he
    · simp at he
  · simp at he

end
end Go.AX

namespace Go.AX
set_option linter.unusedSimpArgs false
set_option linter.unusedVariables false

noncomputable def srcCells (h : AHeap) (size : Nat) (hint : Hint) (x : Value) : Option (List Prop × Nat × List Value) :=
  match x with
  | .slice none 0 0 => some ([], 0, [])
  | .slice (some ⟨i, o, none⟩) m _ =>
    match objCells h i, hint with
    | some vs, .cells l => some ([(vs.drop o).take (m * size) = l], m, l)
    | some vs, _ => some ([], m, ltake (ldrop vs o) (m * size))
    | none, _ => none
  | _ => none

def roomFor (n bytes : Nat) : Prop := n ≤ 9223372036854775807 ∧ n * bytes ≤ 140737488355328
instance (n bytes : Nat) : Decidable (roomFor n bytes) := inferInstanceAs (Decidable (_ ∧ _))

noncomputable def evAppend (P : Program) (h : AHeap) (hint : Hint) (t : TypeId) (s x : Value) : MRes :=
  match P.underlying t with
  | some (.slice e) =>
    match P.info? e with
    | some inf =>
      match inf.zero, srcCells h inf.size hint x with
      | some z, some (obs, m, news) =>
        if z.cells.size = inf.size then
          if 0 < inf.size then
            match s with
            | .slice none 0 0 =>
              some (obs ++ bs [decide (news.length = m * inf.size), news.all isCell, decide (roomFor m inf.bytes)], .slice (some ⟨h.length, 0, none⟩) m UNK, h ++ [.row news e inf.size])
            | .slice (some ⟨i, o, none⟩) n c =>
              if c = UNK then
                match o, lget h i with
                | 0, some (.row vs e' sz) =>
                  if e' = e then
                    if sz = inf.size then
                      some (obs ++ bs [decide (news.length = m * inf.size), news.all isCell, decide (roomFor (n + m) inf.bytes), decide (vs.length = n * inf.size)], .slice (some ⟨h.length, 0, none⟩) (n + m) UNK, lset h i .gone ++ [.row (vs ++ news) e inf.size])
                    else none
                  else none
                | _, _ => none
              else if c = UNR then none
              else
                match objCells h i with
                | some vs => some (obs ++ bs [decide (news.length = m * inf.size), news.all isCell, decide (roomFor (n + m) inf.bytes), decide (((vs.drop o).take (n * inf.size)).length = n * inf.size), decide (c < n + m)], .slice (some ⟨h.length, 0, none⟩) (n + m) UNK, h ++ [.row ((vs.drop o).take (n * inf.size) ++ news) e inf.size])
                | none => none
            | _ => none
          else none
        else none
      | _, _ => none
    | none => none
  | _ => none

section
variable {P : Program} {E : Env} {h : AHeap} {w : World}

theorem src_sound (g : Good E h w) {size m : Nat} {hint : Hint} {x x' : Value} {obs : List Prop} {l : List Value} (he : srcCells h size hint x = some (obs, m, l)) (ho : AllP obs) (hl : l.length = m * size) (hx : Rep E x x') :
    ∃ ao c' l', x' = .slice ao m c' ∧ RepL E l l' ∧ (0 < m → ∃ a, ao = some a ∧ ∀ (j : Nat) (u : Value), l'[j]? = some u → w.cell? (a.add j) = some u) := by
  unfold srcCells at he
  simp only [ltake_eq, ldrop_eq] at he
  split at he
  · simp only [Option.some.injEq, Prod.mk.injEq] at he
    obtain ⟨rfl, rfl, rfl⟩ := he
    cases hx
    exact ⟨none, 0, [], rfl, .nil, fun h => absurd h (by omega)⟩
  · rename_i i o m' c
    obtain ⟨a', c', rfl, q1, q2⟩ := slOf_rep hx
    have key : ∀ vs, objCells h i = some vs → (vs.drop o).take (m' * size) = l → m' = m → ∃ ao c'' l', Value.slice a' m' c' = .slice ao m c'' ∧ RepL E l l' ∧ (0 < m → ∃ a, ao = some a ∧ ∀ (j : Nat) (u : Value), l'[j]? = some u → w.cell? (a.add j) = some u) := by
      intro vs h1 h2 h3
      subst h3
      obtain ⟨l', r1, r2⟩ := cells_of g h1 o (m' * size)
      rw [h2] at r1
      exact ⟨a', c', l', rfl, r1, fun h0 => ⟨_, q1.2.1 h0, r2⟩⟩
    split at he
    · rename_i vs l1 h1
      simp only [Option.some.injEq, Prod.mk.injEq] at he
      obtain ⟨rfl, rfl, rfl⟩ := he
      exact key vs h1 ho.1 rfl
    · rename_i vs h1 _
      simp only [Option.some.injEq, Prod.mk.injEq] at he
      obtain ⟨rfl, rfl, rfl⟩ := he
      exact key _ h1 rfl rfl
    · simp at he
  · simp at he
theorem good_ghost (g : Good E h w) (o : AObj) (cz ez : Nat) (hl : ¬ o.live) (hh : Holds (E.push 0 0 cz ez) w E.n o) : Good (E.push 0 0 cz ez) (h ++ [o]) w ∧ Evol E.n E h w (E.push 0 0 cz ez) (h ++ [o]) w := by
  have hag := Env.push_agree E 0 0 cz ez
  have hn := g.n
  have hno : ¬ o.own := fun k => hl (own_live k)
  have cases2 : ∀ {i : Nat} {o' : AObj}, (h ++ [o])[i]? = some o' → (i < E.n ∧ h[i]? = some o') ∨ (i = E.n ∧ o' = o) := by
    intro i o' hi
    rw [List.getElem?_append] at hi
    split at hi
    · exact .inl ⟨by omega, hi⟩
    · rename_i hlt
      have : i = h.length := by
        rcases Nat.lt_or_ge i (h.length + 1) with h' | h'
        · omega
        · rw [List.getElem?_eq_none (by simp; omega)] at hi; simp at hi
      subst this
      simp only [Nat.sub_self, List.getElem?_cons_zero, Option.some.injEq] at hi
      exact .inr ⟨by omega, hi.symm⟩
  refine ⟨⟨by simp [Env.push, hn], ?_, ?_⟩, ⟨hag, fun _ _ _ => rfl, ?_, Nat.le_refl _, rfl, .refl _, rfl⟩⟩
  · intro i o' hi
    rcases cases2 hi with ⟨h1, h2⟩ | ⟨rfl, rfl⟩
    · exact (g.holds i o' h2).mono hag h1 (fun _ => rfl)
    · exact hh
  · intro i j o' u hi hj ho hu hij
    rcases cases2 hi with ⟨h1, h2⟩ | ⟨rfl, rfl⟩
    · rcases cases2 hj with ⟨k1, k2⟩ | ⟨rfl, rfl⟩
      · rw [hag.blk i h1, hag.blk j k1]; exact g.apart i j o' u h2 k2 ho hu hij
      · exact absurd hu hl
    · exact absurd ho hno
  · rintro b ⟨i, o', hi, ho, rfl⟩
    rcases cases2 hi with ⟨h1, h2⟩ | ⟨rfl, rfl⟩
    · exact .inr ⟨i, o', h2, ho, (hag.blk i h1).symm⟩
    · exact absurd ho hno

theorem run_append_zero (t ty e : TypeId) (i : TypeInfo) (ht : P.underlying t = some (.slice e)) (hi : P.info? e = some i) (base ao : Option Addr) (n c c' : Nat) (hn : n ≤ c) :
    (Builtin.append_ #[t, t] ty #[.slice base n c, .slice ao 0 c']).run P w = .ok (.slice base n c) w := by
  have hf : (Builtin.firstCells i.size 0 (.slice ao 0 c')).run P w = .ok #[] w := by
    cases ao <;> simp [Builtin.firstCells, loadCells, loadCellsFrom]
  simp only [Builtin.append_, List.getElem?_toArray, List.getElem?_cons_zero, List.getElem?_cons_succ, Sem.run_bind, run_underlying ht, Result.andThen_ok, sizeOf, typeInfo, run_program, hi, Sem.run_pure, Builtin.lenOf, Nat.add_zero, hn, if_true, Bool.false_eq_true, if_false, Bool.not_false, hf]
  cases base <;> simp [storeCells]
theorem good_grown (g : Good E h w) {e : TypeId} {size n : Nat} {z : Value} (hz : z.cells.size = size) (h0 : 0 < n) {vs l : List Value} (hr : RepL E vs l) (hv : vs.length = n * size) (hs : 0 < size) (cap : Nat) (hc : n ≤ cap) :
    let c := l ++ (Builtin.zeroCells z.cells (cap - n)).toList
    let E' := E.push w.heap.size 0 c.length size
    Good E' (h ++ [.row vs e size]) (w.drew.alloc (.cells ⟨c⟩ e)) ∧ Evol E.n E h w E' (h ++ [.row vs e size]) (w.drew.alloc (.cells ⟨c⟩ e)) ∧ Rep E' (.slice (some ⟨h.length, 0, none⟩) n UNK) (.slice (some ⟨w.heap.size, 0, none⟩) n cap) := by
  intro c E'
  have hag : Env.Agree E.n E E' := Env.push_agree E w.heap.size 0 c.length size
  have hcl : c.length = cap * size := by
    simp only [c, List.length_append, hr.length, hv, Array.length_toList, size_zeroCells, hz]
    rw [← Nat.add_mul, Nat.add_sub_cancel' hc]
  have key := good_new g.drew (.cells ⟨c⟩ e) (.row vs e size) 0 c.length size (fun h => h)
    ⟨by simp [Env.push], fun _ => ⟨c, by simp only [Env.push, if_pos]; exact heap_alloc_new w.drew _, by simp [Env.push], by simp [Env.push], by simp only [c, List.length_append, hr.length]; omega, by
      simp only [c]
      rw [← hr.length, List.take_left']
      · exact hr.mono hag
      · rfl⟩⟩
  refine ⟨key.1, (Evol.drew E h w).trans key.2 (Nat.le_refl _), ?_⟩
  have := Rep.slU (E := E') h.length n cap (by simp [E', Env.push, g.n]) h0 hc (by simp [E', Env.push, g.n, hcl])
  simpa [E', Env.push, g.n] using this

theorem run_append_grow0 (t ty e : TypeId) (i : TypeInfo) (z : Value) (ht : P.underlying t = some (.slice e)) (hi : P.info? e = some i) (hz : i.zero = some z)
    (base : Option Addr) (sCap : Nat) (a : Addr) (n c : Nat) (news : List Value) (hl : news.length = n * i.size) (hnews : ∀ (j : Nat) (v : Value), news[j]? = some v → w.cell? (a.add j) = some v)
    (hg : sCap < 0 + n) (h63 : ((0 + n : Nat) : Int) ≤ 9223372036854775807) (hfit : Builtin.nextslicecap (0 + n) sCap * i.bytes ≤ 281474976710656) :
    (Builtin.append_ #[t, t] ty #[.slice base 0 sCap, .slice (some a) n c]).run P w =
      .ok (.slice (some ⟨w.heap.size, 0, none⟩) (0 + n) (grownCap w (0 + n) sCap e))
        (w.drew.alloc (.cells (news.toArray ++ Builtin.zeroCells z.cells (grownCap w (0 + n) sCap e - (0 + n))) e)) := by
  cases base with
  | some b =>
    have := run_append_grow (P := P) w t ty e i z ht hi hz b 0 sCap [] (by simp) (by simp) a n c news hl hnews hg h63 hfit
    simpa using this
  | none =>
    have hn : ¬ (0 + n ≤ sCap) := by omega
    have h63' : ¬ (9223372036854775807 < (n : Int)) := by omega
    have h48' : ¬ (281474976710656 < Builtin.nextslicecap n sCap * i.bytes) := by simp only [Nat.zero_add] at hfit; omega
    have hf := run_firstCells_some (P := P) w.drew i.size n a n c news hl (by simpa using hnews)
    have hf0 := run_firstCells_none (P := P) w.drew i.size 0 0 sCap
    simp only [Nat.zero_add] at hn ⊢
    simp [Builtin.append_, run_underlying ht, sizeOf, typeInfo, zeroValue, hi, hz, Builtin.lenOf, hn, h63', h48', Question.forced, hf0, hf, newRow, grownCap]

theorem unk_inv {i o n c : Nat} {v : Value} (hr : Rep E (.slice (some ⟨i, o, none⟩) n c) v) (hc : c = UNK) :
    (n = 0 ∧ v = .slice none 0 0) ∨ (∃ c', 0 < n ∧ n ≤ c' ∧ v = .slice (some ⟨E.blk i, E.off i, none⟩) n c' ∧ E.off i + c' * E.esz i ≤ E.csz i) := by
  cases hr with
  | slX _ _ _ _ a' hi ha hn hc2 => omega
  | slU _ _ c' hi h0 hn hz => exact .inr ⟨c', h0, hn, rfl, hz⟩
  | slE _ hi => exact .inl ⟨rfl, rfl⟩
  | slR _ _ _ c' a' hi ha hn => exact absurd hc (by decide)

theorem Evol.rep {E' : Env} {h' : AHeap} {w' : World} (a : Evol E.n E h w E' h' w') {v v' : Value} (hr : Rep E v v') : Rep E' v v' := hr.mono a.agree

theorem evAppend_sound {hint : Hint} {t ty : TypeId} {s s' x x' u : Value} {h' : AHeap} {obs : List Prop} (g : Good E h w) (he : evAppend P h hint t s x = some (obs, u, h')) (ho : AllP obs) (hs : Rep E s s') (hx : Rep E x x') :
    ∃ E' w' v', (Builtin.append_ #[t, t] ty #[s', x']).run P w = .ok v' w' ∧ Good E' h' w' ∧ Evol E.n E h w E' h' w' ∧ Rep E' u v' := by
  unfold evAppend at he
  simp only [lget_eq, lset_eq] at he
  split at he
  · rename_i e hu
    split at he
    · rename_i inf hinf
      split at he
      · rename_i z obs' m news hz hsrc
        split at he
        · rename_i hzs
          split at he
          · rename_i hsz
            split at he
            · -- nil
              simp only [Option.some.injEq, Prod.mk.injEq] at he
              obtain ⟨rfl, rfl, rfl⟩ := he
              obtain ⟨o1, ho⟩ := ho.append
              obtain ⟨o2, o3, o45, _⟩ := bs_all ho
              replace o2 := D_iff.1 o2
              obtain ⟨o4, o5⟩ := D_iff.1 o45
              cases hs
              obtain ⟨ao, c', l', rfl, q2, q3⟩ := src_sound g hsrc o1 o2 hx
              by_cases hm : m = 0
              · subst hm
                have hnews : news = [] := List.eq_nil_of_length_eq_zero (by simpa using o2)
                subst hnews
                have key := good_ghost g (.row [] e inf.size) 0 inf.size (fun k => k rfl) ⟨by simp [Env.push], fun k => absurd rfl k⟩
                exact ⟨_, w, _, run_append_zero t ty e inf hu hinf none ao 0 0 c' (Nat.le_refl _), key.1, key.2, .slE _ (by simp [Env.push, g.n])⟩
              · obtain ⟨a, rfl, q4⟩ := q3 (by omega)
                have hr := run_append_nil (P := P) w t ty e inf z hu hinf hz a m c' l' (by rw [q2.length, o2]) q4 (by omega) (by omega) (by omega)
                have key := good_grown g (e := e) hzs (by omega) q2 o2 hsz (grownCap w m 0 e) (grownCap_ge w m 0 e)
                refine ⟨_, _, _, ?_, key.1, key.2.1, key.2.2⟩
                rw [hr]
                congr 4
                apply Array.ext'; simp
            · rename_i i o n c
              split at he
              · rename_i hc
                subst hc
                split at he
                · rename_i vs e' sz hi
                  split at he
                  · rename_i hee
                    subst hee
                    split at he
                    · rename_i hsz2
                      subst hsz2
                      simp only [Option.some.injEq, Prod.mk.injEq] at he
                      obtain ⟨rfl, rfl, rfl⟩ := he
                      obtain ⟨o1, ho⟩ := ho.append
                      obtain ⟨o2, o3, o45, o6, _⟩ := bs_all ho
                      replace o2 := D_iff.1 o2
                      obtain ⟨o4, o5⟩ := D_iff.1 o45
                      replace o6 := D_iff.1 o6
                      obtain ⟨ao, c', l', rfl, q2, q3⟩ := src_sound g hsrc o1 o2 hx
                      rcases unk_inv hs rfl with ⟨rfl, rfl⟩ | ⟨c2, h02, hn2, rfl, hz2⟩
                      · 
                        have hvs : vs = [] := List.eq_nil_of_length_eq_zero (by simpa using o6)
                        subst hvs
                        have gk := good_kill g i
                        simp only [Nat.zero_add] at o4 o5
                        by_cases hm : m = 0
                        · subst hm
                          have hnews : news = [] := List.eq_nil_of_length_eq_zero (by simpa using o2)
                          subst hnews
                          have key := good_ghost gk.1 (.row [] e' inf.size) 0 inf.size (fun k => k rfl) ⟨by simp [Env.push], fun k => absurd rfl k⟩
                          refine ⟨_, w, _, run_append_zero t ty e' inf hu hinf none ao 0 0 c' (Nat.le_refl _), key.1, gk.2.trans key.2 (Nat.le_refl _), ?_⟩
                          exact .slE _ (by simp [Env.push, g.n])
                        · obtain ⟨a, rfl, q4⟩ := q3 (by omega)
                          have hr := run_append_nil (P := P) w t ty e' inf z hu hinf hz a m c' l' (by rw [q2.length, o2]) q4 (by omega) (by omega) (by omega)
                          have key := good_grown gk.1 (e := e') hzs (by omega) q2 o2 hsz (grownCap w m 0 e') (grownCap_ge w m 0 e')
                          refine ⟨_, _, .slice (some ⟨w.heap.size, 0, none⟩) m (grownCap w m 0 e'), ?_, key.1, gk.2.trans key.2.1 (Nat.le_refl _), ?_⟩
                          · rw [hr]
                            congr 4
                            apply Array.ext'; simp
                          · simpa using key.2.2
                      · have hne : vs ≠ [] := fun e => by
                          subst e
                          have : 0 < n * inf.size := Nat.mul_pos h02 hsz
                          simp at o6; omega
                        obtain ⟨r0, rr⟩ := g.holds i _ hi
                        obtain ⟨cc, r1, r2, r3, r4, r5⟩ := rr hne
                        have hrl : RepL E (vs ++ news) (cc.take vs.length ++ l') := r5.append q2
                        have hvl : (vs ++ news).length = (n + m) * inf.size := by rw [List.length_append, o6, o2, Nat.add_mul]
                        by_cases hm : m = 0
                        · subst hm
                          have hnews : news = [] := List.eq_nil_of_length_eq_zero (by simpa using o2)
                          subst hnews
                          have key := good_move g hi (fun h => h)
                          refine ⟨_, w, _, run_append_zero t ty e' inf hu hinf _ ao n c2 c' hn2, by simpa using key.1, by simpa using key.2, ?_⟩
                          have := Rep.slU (E := E.push (E.blk i) (E.off i) (E.csz i) (E.esz i)) h.length n c2 (by simp [Env.push, g.n]) h02 hn2 (by simpa [Env.push, g.n] using hz2)
                          simpa [Env.push, g.n] using this
                        · obtain ⟨a, rfl, q4⟩ := q3 (by omega)
                          have hll : l'.length = m * inf.size := by rw [q2.length, o2]
                          by_cases hroom : n + m ≤ c2
                          · have hfit : n * inf.size + l'.length ≤ cc.length := by
                              rw [hll, ← Nat.add_mul, ← r3]
                              rw [r2, r0] at hz2
                              exact Nat.le_trans (Nat.mul_le_mul_right _ hroom) (by omega)
                            have hr := run_append_room (P := P) w t ty e' inf hu hinf (E.blk i) n c2 ⟨cc⟩ r1 a m c' l' hll q4 (isCell_repL q2 o3) hroom hfit
                            have hput : (cc.take (n * inf.size) ++ l' ++ cc.drop (n * inf.size + l'.length)).length = cc.length := by simp; omega
                            have ku := good_upd g hi (o' := .row (vs ++ news) e' inf.size) hne (fun h => h) (w' := w.setRow (E.blk i) ⟨cc.take (n * inf.size) ++ l' ++ cc.drop (n * inf.size + l'.length)⟩)
                              ⟨r0, fun _ => ⟨_, setRow_heap w _ _ _ _ _ r1, r2, by rw [hput, r3], by rw [hput, hvl, Nat.add_mul, ← hll]; exact hfit, by
                                rw [hvl, Nat.add_mul, ← hll]
                                rw [List.take_left' (by simp; omega), ← o6]
                                exact hrl⟩⟩ (size_setRow _ _ _) (fun b hb => setRow_other w _ _ _ hb) rfl ⟨rfl, Nat.le_of_eq (size_setRow _ _ _).symm, fun a _ => frozen_setRow _ _ _ a⟩ rfl
                            have hi2' : (h.set i (.row (vs ++ news) e' inf.size))[i]? = some (.row (vs ++ news) e' inf.size) := by
                              rw [List.getElem?_set_self]; rw [← g.n]; exact g.lt hi
                            have km := good_move ku.1 hi2' (fun h => h)
                            refine ⟨_, _, .slice (some ⟨E.blk i, 0, none⟩) (n + m) c2, ?_, by simpa using km.1, by simpa using ku.2.trans km.2 (Nat.le_refl _), ?_⟩
                            · rw [r2, hr]
                              congr 2
                              apply Array.ext'; simp
                            · have := Rep.slU (E := E.push (E.blk i) (E.off i) (E.csz i) (E.esz i)) h.length (n + m) c2 (by simp [Env.push, g.n]) (by omega) hroom (by simpa [Env.push, g.n] using hz2)
                              simpa [Env.push, g.n, r2] using this
                          · have holds : ∀ (j : Nat) (v : Value), (cc.take vs.length)[j]? = some v → w.cell? ((⟨E.blk i, E.off i, none⟩ : Addr).add j) = some v := by
                              intro j v hj
                              rw [Addr.add_none, r2, Nat.zero_add, cell_of_row w _ _ _ _ _ r1]
                              rw [List.getElem?_take] at hj
                              split at hj
                              · simpa using hj
                              · simp at hj
                            have hr := run_append_grow (P := P) w t ty e' inf z hu hinf hz ⟨E.blk i, E.off i, none⟩ n c2 (cc.take vs.length) (by rw [r5.length, o6]) holds a m c' l' hll q4 (by omega) (by omega) (growslice_fits (by omega) o5)
                            have gk := good_kill g i
                            have key := good_grown gk.1 (e := e') hzs (by omega) hrl hvl hsz (grownCap w (n + m) c2 e') (grownCap_ge w (n + m) c2 e')
                            refine ⟨_, _, .slice (some ⟨w.heap.size, 0, none⟩) (n + m) (grownCap w (n + m) c2 e'), ?_, key.1, gk.2.trans key.2.1 (Nat.le_refl _), ?_⟩
                            · rw [hr]
                              congr 4
                              apply Array.ext'; simp
                            · simpa using key.2.2
                    · simp at he
                  · simp at he
                · simp at he
              · rename_i hc
                split at he
                · simp at he
                · rename_i hc2
                  split at he
                  · rename_i vs hi
                    simp only [Option.some.injEq, Prod.mk.injEq] at he
                    obtain ⟨rfl, rfl, rfl⟩ := he
                    obtain ⟨o1, ho⟩ := ho.append
                    obtain ⟨o2, o3, o45, o6, o7, _⟩ := bs_all ho
                    replace o2 := D_iff.1 o2
                    obtain ⟨o4, o5⟩ := D_iff.1 o45
                    replace o6 := D_iff.1 o6
                    replace o7 := D_iff.1 o7
                    obtain ⟨ao, c', l', rfl, q2, q3⟩ := src_sound g hsrc o1 o2 hx
                    obtain ⟨a', c1, rfl, p1, p2⟩ := slOf_rep hs
                    obtain ⟨rfl, _⟩ := p2 hc hc2
                    have hnc := p1.2.2
                    obtain ⟨a, rfl, q4⟩ := q3 (by omega)
                    obtain ⟨olds, s1, s2⟩ := cells_of g hi o (n * inf.size)
                    have hol : olds.length = n * inf.size := by rw [s1.length, o6]
                    have hll : l'.length = m * inf.size := by rw [q2.length, o2]
                    have hrl : RepL E ((vs.drop o).take (n * inf.size) ++ news) (olds ++ l') := s1.append q2
                    have hvl : ((vs.drop o).take (n * inf.size) ++ news).length = (n + m) * inf.size := by rw [List.length_append, o6, o2, Nat.add_mul]
                    have key := good_grown g (e := e) hzs (by omega) hrl hvl hsz (grownCap w (n + m) c e) (grownCap_ge w (n + m) c e)
                    refine ⟨_, _, _, ?_, key.1, key.2.1, key.2.2⟩
                    by_cases hn0 : n = 0
                    · subst hn0
                      have holds0 : olds = [] := List.eq_nil_of_length_eq_zero (by simpa using hol)
                      subst holds0
                      have hr := run_append_grow0 (P := P) (w := w) t ty e inf z hu hinf hz a' c a m c' l' hll q4 (by omega) (by omega) (growslice_fits (by omega) o5)
                      rw [hr]
                      congr 4
                      apply Array.ext'; simp
                    · have ha := p1.2.1 (by omega)
                      subst ha
                      have hr := run_append_grow (P := P) w t ty e inf z hu hinf hz ⟨E.blk i, E.off i + o, none⟩ n c olds hol s2 a m c' l' hll q4 (by omega) (by omega) (growslice_fits (by omega) o5)
                      rw [hr]
                      congr 4
                      apply Array.ext'; simp
                  · simp at he
            · simp at he
          · simp at he
        · simp at he
      · simp at he
    · simp at he
  · simp at he

end
end Go.AX

namespace Go.AX
set_option linter.unusedSimpArgs false
set_option linter.unusedVariables false

def bstr (ns : List Int) : ByteArray := ⟨⟨ns.map fun n => UInt8.ofNat n.toNat⟩⟩

def bytesV : List Value → Option (List Int)
  | [] => some []
  | .int .u8 n :: l => (bytesV l).map (n :: ·)
  | _ => none

noncomputable def evBytesStr (P : Program) (h : AHeap) (hint : Hint) (s d : TypeId) (x : Value) : PRes :=
  match P.underlying s, P.underlying d with
  | some (.slice e), some .string =>
    match P.underlying e with
    | some (.int .u8) =>
      match x with
      | .slice none 0 0 => ret (.string ByteArray.empty)
      | .slice (some ⟨i, o, none⟩) m _ =>
        match objCells h i, hint with
        | some vs, .str st => some ([D (0 < m), D (((vs.drop o).take m).length = m), ∃ ns : List Int, (vs.drop o).take m = ns.map (Value.int .u8) ∧ st = bstr ns], .string st)
        | some vs, _ =>
          match bytesV ((vs.drop o).take m) with
          | some ns => some (bs [decide (0 < m), decide (ns.length = m)], .string (bstr ns))
          | none => none
        | none, _ => none
      | _ => none
    | _ => none
  | _, _ => none

def evMake (P : Program) (h : AHeap) (t : TypeId) (l c : Value) : MRes :=
  match P.underlying t, l, c with
  | some (.slice e), .int _ a, .int _ b =>
    match P.info? e, (zeroT P e).bind vcells with
    | some inf, some z =>
      if inf.size = z.length then
        if 0 < inf.size then
          some (bs [decide (0 ≤ a), decide (a ≤ b), decide (b < 9223372036854775808), decide (b.toNat * inf.bytes ≤ 140737488355328)], .slice (some ⟨h.length, 0, none⟩) a.toNat b.toNat, h ++ [.cells (List.flatten (List.replicate b.toNat z)) e inf.size])
        else none
      else none
    | _, _ => none
  | _, _, _ => none

def evLen (P : Program) (t : TypeId) (x : Value) : PRes :=
  match P.underlying t, x with
  | some .string, .string s => ret (.int .i64 s.size)
  | some (.array n _), _ => ret (.int .i64 n)
  | some (.slice _), .slice _ n _ => ret (.int .i64 n)
  | some (.map _ _), .map none => ret (.int .i64 0)
  | _, _ => none

def evMinMax (mx : Bool) (x y : Value) : PRes :=
  match x, y with
  | .int k a, .int _ b => ret (.int k (match mx with | true => (if b > a then b else a) | false => (if b < a then b else a)))
  | _, _ => none

def pureM (h : AHeap) (r : PRes) : MRes := r.map fun x => (x.1, x.2, h)
noncomputable def evOp (P : Program) (h : AHeap) (ts : Tm) (hint : Hint) : Op → MRes
  | .load t x => (opd ts x).bind fun x => pureM h (evLoad P h hint t x)
  | .store t x v =>
    match opd ts x, opd ts v with
    | some x, some v => evStore P h t x v
    | _, _ => none
  | .alloc e => (zeroT P e).bind fun z => evNew P h e z
  | .box e x => (opd ts x).bind fun x => evNew P h e x
  | .buildSlice t len parts => (opdP ts parts.toList).bind fun ps => evBuildSlice P h t len ps
  | .makeSlice t l c =>
    match opd ts l, opd ts c with
    | some l, some c => evMake P h t l c
    | _, _ => none
  | .convert s d x =>
    match opd ts x with
    | some (.slice a n c) => pureM h (evBytesStr P h hint s d (.slice a n c))
    | some x => pureM h (evConv P s d x)
    | none => none
  | .call { callee := .builtin .append, args := ⟨[s, x]⟩, argTypes := ⟨[t, t']⟩ } =>
    match opd ts s, opd ts x with
    | some s, some x => if t = t' then evAppend P h hint t s x else none
    | _, _ => none
  | .call { callee := .builtin .len, args := ⟨[x]⟩, argTypes := ⟨[t]⟩ } => (opd ts x).bind fun x => pureM h (evLen P t x)
  | .call { callee := .builtin .min, args := ⟨[x, y]⟩, .. } =>
    match opd ts x, opd ts y with
    | some x, some y => pureM h (evMinMax false x y)
    | _, _ => none
  | .call { callee := .builtin .max, args := ⟨[x, y]⟩, .. } =>
    match opd ts x, opd ts y with
    | some x, some y => pureM h (evMinMax true x y)
    | _, _ => none
  | o => pureM h (evPure P h ts hint o)

def OpOk (E : Env) (h : AHeap) (w : World) (r : Result Next) (v : Value) (h' : AHeap) : Prop :=
  ∃ E' w', Good E' h' w' ∧ Evol E.n E h w E' h' w' ∧ ((∃ v', r = .ok (.value v') w' ∧ Rep E' v v') ∨ (r = .ok .skip w' ∧ v = undef))

section
variable {P : Program} {E : Env} {h : AHeap} {w : World}

theorem opOk_pure (g : Good E h w) {r : Result Next} {v v' : Value} (hr : r = .ok (.value v') w) (hv : Rep E v v') : OpOk E h w r v h :=
  ⟨E, w, g, .refl E h w (Nat.le_refl _), .inl ⟨v', hr, hv⟩⟩

theorem pureM_some {r : PRes} {obs : List Prop} {v : Value} {h' : AHeap} (he : pureM h r = some (obs, v, h')) : r = some (obs, v) ∧ h' = h := by
  simp only [pureM, Option.map_eq_some_iff, Prod.mk.injEq] at he
  obtain ⟨⟨a, b⟩, h1, rfl, rfl, rfl⟩ := he
  exact ⟨h1, rfl⟩

theorem foldl_bstr (ns : List Int) : ns.foldl (fun (r : ByteArray) n => r.push (UInt8.ofNat n.toNat)) ByteArray.empty = bstr ns := by
  suffices H : ∀ (l : List Int) (r : ByteArray), l.foldl (fun (r : ByteArray) n => r.push (UInt8.ofNat n.toNat)) r = ⟨⟨r.data.toList ++ l.map fun n => UInt8.ofNat n.toNat⟩⟩ by
    have := H ns ByteArray.empty
    simpa [bstr] using this
  intro l
  induction l with
  | nil => intro r; simp
  | cons n l ih =>
    intro r
    rw [List.foldl_cons, ih]
    simp [ByteArray.push]

theorem bytesV_some : ∀ {l : List Value} {ns : List Int}, bytesV l = some ns → l = ns.map (Value.int .u8)
  | [], ns, h => by simp only [bytesV, Option.some.injEq] at h; subst h; rfl
  | v :: l, ns, h => by
    unfold bytesV at h
    split at h
    · simp_all
    · rename_i n l' hvl
      simp only [List.cons.injEq] at hvl
      obtain ⟨rfl, rfl⟩ := hvl
      obtain ⟨ms, h1, rfl⟩ := Option.map_eq_some_iff.1 h
      simp [bytesV_some h1]
    · simp at h

theorem repL_ints {k : IntKind} : ∀ {ns : List Int} {l' : List Value}, RepL E (ns.map (Value.int k)) l' → l' = ns.map (Value.int k)
  | [], _, .nil => rfl
  | n :: ns, _, .cons _ _ _ _ hv ht => by
    cases hv
    rw [repL_ints ht]; rfl

theorem evBytesStr_sound {hint : Hint} {s d : TypeId} {x x' v : Value} {obs : List Prop} (g : Good E h w) (he : evBytesStr P h hint s d x = some (obs, v)) (ho : AllP obs) (hx : Rep E x x') :
    ∃ v', (convert s d x').run P w = .ok v' w ∧ Rep E v v' := by
  unfold evBytesStr at he
  split at he
  · rename_i e hs hd
    split at he
    · rename_i hu
      split at he
      · simp only [ret, Option.some.injEq, Prod.mk.injEq] at he
        obtain ⟨_, rfl⟩ := he
        cases hx
        exact ⟨_, by rw [run_convert_bytes_string w s d e none 0 0 hs hu hd]; rfl, .str _⟩
      · rename_i i o m c
        obtain ⟨a', c', rfl, q1, q2⟩ := slOf_rep hx
        have key : ∀ (vs : List Value) (ns : List Int), objCells h i = some vs → 0 < m → ((vs.drop o).take m).length = m → (vs.drop o).take m = ns.map (Value.int .u8) →
            ∃ v', (convert s d (.slice a' m c')).run P w = .ok v' w ∧ Rep E (.string (bstr ns)) v' := by
          intro vs ns h1 h0 hl h2
          obtain ⟨l', r1, r2⟩ := cells_of g h1 o m
          have hll : l'.length = m := by rw [r1.length, hl]
          rw [h2] at r1
          obtain rfl := repL_ints r1
          have ha := q1.2.1 h0
          subst ha
          have hload := run_loadCells_list (P := P) w ⟨E.blk i, E.off i + o, none⟩ _ r2
          rw [hll] at hload
          refine ⟨.string (bstr ns), ?_, .str _⟩
          rw [run_convert_bytes_string w s d e _ m c' hs hu hd, run_bytesToString w _ m c' ns hload, foldl_bstr]
        split at he
        · rename_i vs st h1
          simp only [Option.some.injEq, Prod.mk.injEq] at he
          obtain ⟨rfl, rfl⟩ := he
          obtain ⟨o1, o2, ⟨ns, o3, rfl⟩, _⟩ := ho
          replace o1 := D_iff.1 o1
          replace o2 := D_iff.1 o2
          exact key vs ns h1 o1 o2 o3
        · rename_i vs h1 _
          split at he
          · rename_i ns hns
            simp only [Option.some.injEq, Prod.mk.injEq] at he
            obtain ⟨rfl, rfl⟩ := he
            obtain ⟨o1, o2, _⟩ := bs_all ho
            replace o1 := D_iff.1 o1
            replace o2 := D_iff.1 o2
            have hb := bytesV_some hns
            refine key _ ns h1 o1 ?_ hb
            rw [hb, List.length_map, o2]
          · simp at he
        · simp at he
      · simp at he
    · simp at he
  · simp at he

theorem wrap_i64 {n : Int} (h0 : 0 ≤ n) (h1 : n < 9223372036854775808) : IntKind.i64.wrap n = n := by
  have e : IntKind.i64.wrap n = (let m := n % (18446744073709551616 : Int); if true && decide (m ≥ (9223372036854775808 : Int)) then m - 18446744073709551616 else m) := rfl
  rw [e]
  simp only [Bool.true_and, decide_eq_true_eq]
  rw [if_neg (by omega)]
  omega

theorem evMake_sound {t : TypeId} {l c l' c' u : Value} {h' : AHeap} {obs : List Prop} (g : Good E h w) (he : evMake P h t l c = some (obs, u, h')) (ho : AllP obs) (hl : Rep E l l') (hc : Rep E c c') :
    ∃ E' w' v', (Instr.makeSlice t l' c').run P w = .ok v' w' ∧ Good E' h' w' ∧ Evol E.n E h w E' h' w' ∧ Rep E' u v' := by
  unfold evMake at he
  split at he
  · rename_i e _ a _ b hu
    cases hl; cases hc
    split at he
    · rename_i inf z hinf hz
      split at he
      · rename_i hnz
        split at he
        · rename_i h0
          simp only [Option.some.injEq, Prod.mk.injEq] at he
          obtain ⟨rfl, rfl, rfl⟩ := he
          obtain ⟨o1, o2, o3, o4, _⟩ := bs_all ho
          replace o1 := D_iff.1 o1
          replace o2 := D_iff.1 o2
          replace o3 := D_iff.1 o3
          replace o4 := D_iff.1 o4
          obtain ⟨zv, hz1, hz2⟩ := Option.bind_eq_some_iff.1 hz
          obtain ⟨z1, z2⟩ := run_zeroValue (E := E) hz1 w
          obtain ⟨z', zz1, zz2⟩ := vcells_rep z2 hz2
          obtain rfl := Option.some.inj (hz2.symm.trans zz1)
          have hrl := repL_flatten zz2 b.toNat
          have hag := Env.push_agree E w.heap.size 0 (List.flatten (List.replicate b.toNat z)).length inf.size
          have key := good_new g (.cells ⟨List.flatten (List.replicate b.toNat z)⟩ e) (.cells (List.flatten (List.replicate b.toNat z)) e inf.size) 0 (List.flatten (List.replicate b.toNat z)).length inf.size (fun h => h)
            ⟨_, by simp only [Env.push, if_pos]; exact heap_alloc_new w _, by simp [Env.push], by simp [Env.push], by simp [Env.push], hrl.mono hag⟩
          have hsz : sizeT P e = some inf.size := by simp [sizeT, hinf]
          refine ⟨_, _, .slice (some ⟨w.heap.size, 0, none⟩) a.toNat b.toNat, ?_, key.1, key.2, ?_⟩
          · have hcells := vcells_spec hz2
            have hty : (typeInfo e).run P w = .ok inf w := by simp [typeInfo, hinf]
            have wa := wrap_i64 o1 (by omega)
            have wb := wrap_i64 (show 0 ≤ b by omega) o3
            have hb2 : (inf.bytes : Int) * b ≤ 2 ^ 48 := by
              have e1 : ((b.toNat * inf.bytes : Nat) : Int) = b * inf.bytes := by rw [Int.natCast_mul, Int.toNat_of_nonneg (by omega)]
              rw [Int.mul_comm, ← e1]; omega
            have ha2 : (inf.bytes : Int) * a ≤ 2 ^ 48 := Int.le_trans (Int.mul_le_mul_of_nonneg_left o2 (Int.natCast_nonneg _)) hb2
            have t1 : ¬ (b < 0) := by omega
            have t2 : ¬ (a < 0) := by omega
            have t3 : ¬ (a > b) := by omega
            have t4 : ¬ ((inf.bytes : Int) * b > 2 ^ 48) := by omega
            simp only [Instr.makeSlice, Sem.run_bind, run_underlying hu, Result.andThen_ok, asInt, asIntOf, Sem.run_pure, hty, wa, wb, run_sizeOf hsz, run_askRoom]
            rw [if_neg (by simp only [decide_eq_true_eq, Bool.or_eq_true]; omega)]
            simp only [Sem.run_bind, run_askRoom, Result.andThen_ok, run_sizeOf hsz]
            by_cases hb0 : b.toNat * inf.size = 0
            · have hbz : b.toNat = 0 := by
                rcases Nat.mul_eq_zero.1 hb0 with h | h
                · exact h
                · omega
              rw [if_pos hb0]
              simp only [Sem.run_bind, Sem.run_pure, Result.andThen_ok, hbz, Nat.zero_mul, show Array.range 0 = #[] from rfl, Array.map_empty, newRow, run_newObj, List.replicate_zero, List.flatten_nil]
              rfl
            · rw [if_neg hb0]
              have hrc := replicate_cells z inf.size b.toNat hnz h0
              simp only [Sem.run_bind, z1, Sem.run_pure, Result.andThen_ok, hcells, hrc, newRow, run_newObj]
              rfl
          · exact .slX h.length 0 _ _ (some ⟨w.heap.size, 0, none⟩) (by simp [Env.push, g.n]) (fun _ => by simp [Env.push, g.n]) (by omega) (by unfold UNK; omega)
        · simp at he
      · simp at he
    · simp at he
  · simp at he

theorem evLen_sound {t ty : TypeId} {x x' v : Value} {obs : List Prop} (he : evLen P t x = some (obs, v)) (hx : Rep E x x') :
    (Builtin.len_ #[t] ty #[x']).run P w = .ok v w ∧ Rep E v v := by
  unfold evLen at he
  split at he
  case h_3 n m c hu =>
    simp only [ret, Option.some.injEq, Prod.mk.injEq] at he
    obtain ⟨_, rfl⟩ := he
    cases hx <;> exact ⟨by simp [Builtin.len_, run_underlying hu, goInt], .int _ _⟩
  case h_2 hu =>
    simp only [ret, Option.some.injEq, Prod.mk.injEq] at he
    obtain ⟨_, rfl⟩ := he
    exact ⟨by simp [Builtin.len_, run_underlying hu, goInt], .int _ _⟩
  all_goals (try (simp at he; done))
  all_goals
    rename_i hu
    simp only [ret, Option.some.injEq, Prod.mk.injEq] at he
    obtain ⟨_, rfl⟩ := he
    cases hx
    exact ⟨by simp [Builtin.len_, run_underlying hu, goInt], .int _ _⟩

theorem opOk_value (g : Good E h w) {s : Sem Value} {v v' : Value} (hr : s.run P w = .ok v' w) (hv : Rep E v v') : OpOk E h w ((do pure (Next.value (← s)) : Sem Next).run P w) v h :=
  opOk_pure g (by simp [hr]) hv

theorem evOp_sound {ts : Tm} {hint : Hint} {o : Oper} {a : Act} {obs : List Prop} {v : Value} {h' : AHeap} (g : Good E h w) (hr : RepT E ts a.tmps)
    (he : evOp P h ts hint o.op = some (obs, v, h')) (ho : AllP obs) : OpOk E h w ((execOp a.eval o).run P w) v h' := by
  have hpure : ∀ (op : Op), o.op = op → pureM h (evPure P h ts hint op) = some (obs, v, h') → OpOk E h w ((execOp a.eval o).run P w) v h' := by
    intro op hop hp
    obtain ⟨h1, rfl⟩ := pureM_some hp
    subst hop
    obtain ⟨v', e1, e2⟩ := evPure_sound g hr h1 ho
    exact opOk_pure g e1 e2
  unfold evOp at he
  split at he
  case h_1 t x heq =>
    obtain ⟨vx, h1, h2⟩ := Option.bind_eq_some_iff.1 he
    obtain ⟨h3, rfl⟩ := pureM_some h2
    obtain ⟨v', e1, e2⟩ := evLoad_sound g h3 ho (opd_sound hr h1)
    simp only [execOp, heq]
    exact opOk_value g e1 e2
  case h_2 t x y heq =>
    split at he
    · rename_i vx vy h1 h2
      obtain ⟨w', e1, e2, e3, rfl⟩ := evStore_sound (P := P) g he ho (opd_sound hr h1) (opd_sound hr h2)
      refine ⟨E, w', e2, e3, .inr ⟨?_, rfl⟩⟩
      simp [execOp, heq, e1]
    · simp at he
  case h_3 e heq =>
    obtain ⟨z, h1, h2⟩ := Option.bind_eq_some_iff.1 he
    obtain ⟨z1, z2⟩ := run_zeroValue (E := E) h1 w
    obtain ⟨E', w', e1, e2, e3, e4⟩ := evNew_sound (P := P) g h2 z2
    refine ⟨E', w', e2, e3, .inl ⟨_, ?_, e4⟩⟩
    simp [execOp, heq, Instr.alloc, z1, e1]
  case h_4 e x heq =>
    obtain ⟨z, h1, h2⟩ := Option.bind_eq_some_iff.1 he
    obtain ⟨E', w', e1, e2, e3, e4⟩ := evNew_sound (P := P) g h2 (opd_sound hr h1)
    refine ⟨E', w', e2, e3, .inl ⟨_, ?_, e4⟩⟩
    simp [execOp, heq, Instr.box, e1]
  case h_5 t len parts heq =>
    obtain ⟨ps, h1, h2⟩ := Option.bind_eq_some_iff.1 he
    obtain ⟨E', w', v', e1, e2, e3, e4⟩ := evBuildSlice_sound (P := P) g h2 (opdP_sound hr h1)
    refine ⟨E', w', e2, e3, .inl ⟨v', ?_, e4⟩⟩
    have hm : parts.map (fun (i, x) => (i, a.eval x)) = ⟨parts.toList.map fun (i, x) => (i, a.eval x)⟩ := by apply Array.ext'; simp
    simp only [execOp, heq, hm, Sem.run_bind, e1, Result.andThen_ok, Sem.run_pure]
  case h_6 t l c heq =>
    split at he
    · rename_i vl vc h1 h2
      obtain ⟨E', w', v', e1, e2, e3, e4⟩ := evMake_sound (P := P) g he ho (opd_sound hr h1) (opd_sound hr h2)
      refine ⟨E', w', e2, e3, .inl ⟨v', ?_, e4⟩⟩
      simp [execOp, heq, e1]
    · simp at he
  case h_7 s d x heq =>
    split at he
    · rename_i aa n c h1
      obtain ⟨h3, rfl⟩ := pureM_some he
      obtain ⟨v', e1, e2⟩ := evBytesStr_sound (P := P) g h3 ho (opd_sound hr h1)
      simp only [execOp, heq]
      exact opOk_value g e1 e2
    · rename_i vx _ h1
      obtain ⟨h3, rfl⟩ := pureM_some he
      obtain ⟨e1, e2⟩ := evConv_sound (P := P) (E := E) w h3 (opd_sound hr h1)
      simp only [execOp, heq]
      exact opOk_value g e1 e2
    · simp at he
  case h_8 s x t t' heq =>
    split at he
    · rename_i vs vx h1 h2
      split at he
      · rename_i htt
        subst htt
        obtain ⟨E', w', v', e1, e2, e3, e4⟩ := evAppend_sound (P := P) (ty := o.type) g he ho (opd_sound hr h1) (opd_sound hr h2)
        refine ⟨E', w', e2, e3, .inl ⟨v', ?_, e4⟩⟩
        simp [execOp, heq, resolve, invoke, builtin, e1]
      · simp at he
    · simp at he
  case h_9 x t heq =>
    obtain ⟨vx, h1, h2⟩ := Option.bind_eq_some_iff.1 he
    obtain ⟨h3, rfl⟩ := pureM_some h2
    obtain ⟨e1, e2⟩ := evLen_sound (P := P) (E := E) (w := w) (ty := o.type) h3 (opd_sound hr h1)
    refine opOk_pure g ?_ e2
    simp [execOp, heq, resolve, invoke, builtin, e1]
  case h_10 x y at_ heq =>
    split at he
    · rename_i vx vy h1 h2
      obtain ⟨h3, rfl⟩ := pureM_some he
      have ex := opd_sound hr h1
      have ey := opd_sound hr h2
      unfold evMinMax at h3
      split at h3
      · simp only [ret, Option.some.injEq, Prod.mk.injEq] at h3
        obtain ⟨_, rfl⟩ := h3
        generalize hx' : a.eval x = x' at ex
        generalize hy' : a.eval y = y' at ey
        cases ex; cases ey
        refine opOk_pure g ?_ (.int _ _)
        simp [execOp, heq, resolve, invoke, builtin, hx', hy', Builtin.min_, Builtin.min2]
      · simp at h3
    · simp at he
  case h_11 x y at_ heq =>
    split at he
    · rename_i vx vy h1 h2
      obtain ⟨h3, rfl⟩ := pureM_some he
      have ex := opd_sound hr h1
      have ey := opd_sound hr h2
      unfold evMinMax at h3
      split at h3
      · simp only [ret, Option.some.injEq, Prod.mk.injEq] at h3
        obtain ⟨_, rfl⟩ := h3
        generalize hx' : a.eval x = x' at ex
        generalize hy' : a.eval y = y' at ey
        cases ex; cases ey
        refine opOk_pure g ?_ (.int _ _)
        simp [execOp, heq, resolve, invoke, builtin, hx', hy', Builtin.max_, Builtin.max2]
      · simp at h3
    · simp at he
  case h_12 => exact hpure _ rfl he

end
end Go.AX

namespace Go.AX
def ACalls (P : Program) (f : FuncId) (args : List Value) (h : AHeap) (R : Value → AHeap → Prop) : Prop :=
  ∀ (E : Env) (w : World) (args' : List Value), Good E h w → RepL E args args' →
    Calls P f ⟨args'⟩ w fun e w' => ∃ v v' h' E', e = .returned v' ∧ Good E' h' w' ∧ Evol h.length E h w E' h' w' ∧ Rep E' v v' ∧ R v h'
def AEq (P : Program) (f : FuncId) (args : List Value) (h : AHeap) (v : Value) (h' : AHeap) : Prop := ACalls P f args h fun v1 h1 => v1 = v ∧ h1 = h'

def APost (m : Nat) (E : Env) (h : AHeap) (w : World) (Q : Exit → Tm → AHeap → Prop) (ex : Exit) (a' : Act) (w' : World) : Prop :=
  ∃ ts' h' E', Good E' h' w' ∧ Evol m E h w E' h' w' ∧ RepT E' ts' a'.tmps ∧ a'.defers = [] ∧ Q ex ts' h'
def ATrip (P : Program) (m : Nat) (c : Code) (ts : Tm) (h : AHeap) (Q : Exit → Tm → AHeap → Prop) : Prop :=
  m ≤ h.length → ∀ (E : Env) (w : World) (a : Act), Good E h w → RepT E ts a.tmps → a.defers = [] → c.wp P (APost m E h w Q) a w
def AComes (P : Program) (m : Nat) (c : Code) (ts : Tm) (h : AHeap) (ex : Exit) (ts' : Tm) (h' : AHeap) : Prop :=
  ATrip P m c ts h fun e t k => e = ex ∧ t = ts' ∧ k = h'

section
variable {P : Program} {m : Nat} {ts : Tm} {h : AHeap}

theorem Evol.m_le {E E' : Env} {h h' : AHeap} {w w' : World} (a : Evol m E h w E' h' w') (g : Good E' h' w') : m ≤ h'.length := by
  have := a.agree.n; rw [g.n] at this; exact this
theorem APost.step {E E1 : Env} {h1 : AHeap} {w w1 : World} {Q : Exit → Tm → AHeap → Prop} {ex : Exit} {a' : Act} {w' : World} (ev : Evol m E h w E1 h1 w1) (hp : APost m E1 h1 w1 Q ex a' w') : APost m E h w Q ex a' w' := by
  obtain ⟨ts', h', E', g, e, r, d, q⟩ := hp
  exact ⟨ts', h', E', g, ev.trans e (Nat.le_refl _), r, d, q⟩

theorem ATrip.mono {c : Code} {Q Q' : Exit → Tm → AHeap → Prop} (t : ATrip P m c ts h Q) (hq : ∀ e t k, Q e t k → Q' e t k) : ATrip P m c ts h Q' :=
  fun hm E w a g r d => Code.wp_mono (fun _ _ _ ⟨ts', h', E', g', e', r', d', q⟩ => ⟨ts', h', E', g', e', r', d', hq _ _ _ q⟩) (t hm E w a g r d)

def AThen (P : Program) (m : Nat) (c : Code) (Q : Exit → Tm → AHeap → Prop) : Exit → Tm → AHeap → Prop
  | .normal, ts, h => ATrip P m c ts h Q
  | e, ts, h => Q e ts h

theorem ATrip.seq {x y : Code} {Q : Exit → Tm → AHeap → Prop} (t : ATrip P m x ts h (AThen P m y Q)) : ATrip P m (.seq x y) ts h Q := by
  intro hm E w a g r d
  refine wp_seq (Code.wp_mono ?_ (t hm E w a g r d))
  rintro e a' w' ⟨ts', h', E', g', ev, r', d', q⟩
  cases e with
  | normal =>
    exact Code.wp_mono (fun _ _ _ hp => hp.step ev) (q (ev.m_le g') E' w' a' g' r' d')
  | _ => exact ⟨ts', h', E', g', ev, r', d', q⟩

theorem ATrip.skip {Q : Exit → Tm → AHeap → Prop} (q : Q .normal ts h) : ATrip P m .skip ts h Q :=
  fun hm E w a g r d => wp_skip ⟨ts, h, E, g, .refl E h w (by rw [g.n]; exact hm), r, d, q⟩
theorem ATrip.exit {id : Nat} {Q : Exit → Tm → AHeap → Prop} (q : Q (.exit id) ts h) : ATrip P m (.exit id) ts h Q :=
  fun hm E w a g r d => wp_exit ⟨ts, h, E, g, .refl E h w (by rw [g.n]; exact hm), r, d, q⟩
theorem ATrip.ret {Q : Exit → Tm → AHeap → Prop} (q : Q .ret ts h) : ATrip P m .ret ts h Q :=
  fun hm E w a g r d => wp_ret ⟨ts, h, E, g, .refl E h w (by rw [g.n]; exact hm), r, d, q⟩

theorem ATrip.cond {c : Operand} {x y : Code} {b : Bool} {Q : Exit → Tm → AHeap → Prop} (hc : opd ts c = some (.bool b)) (t : ATrip P m (if b then x else y) ts h Q) : ATrip P m (.cond c x y) ts h Q := by
  intro hm E w a g r d
  have e := opd_sound r hc
  generalize hv : a.eval c = v at e
  cases e
  exact wp_cond hv (t hm E w a g r d)

def ABlock (id : Nat) (Q : Exit → Tm → AHeap → Prop) : Exit → Tm → AHeap → Prop
  | .exit id', ts, h => if id' = id then Q .normal ts h else Q (.exit id') ts h
  | e, ts, h => Q e ts h

theorem ATrip.block {id : Nat} {c : Code} {Q : Exit → Tm → AHeap → Prop} (t : ATrip P m c ts h (ABlock id Q)) : ATrip P m (.block id c) ts h Q := by
  intro hm E w a g r d
  refine wp_block (Code.wp_mono ?_ (t hm E w a g r d))
  rintro e a' w' ⟨ts', h', E', g', ev, r', d', q⟩
  cases e with
  | exit id' =>
    simp only [Exit.inBlock, ABlock] at q ⊢
    split
    · rename_i hid; rw [if_pos hid] at q; exact ⟨ts', h', E', g', ev, r', d', q⟩
    · rename_i hid; rw [if_neg hid] at q; exact ⟨ts', h', E', g', ev, r', d', q⟩
  | _ => exact ⟨ts', h', E', g', ev, r', d', q⟩
theorem ATrip.loop {c : Code} {Q : Exit → Tm → AHeap → Prop} (I : Nat → Tm → AHeap → Prop) (n : Nat) (h0 : I n ts h)
    (round : ∀ n ts h, I n ts h → ATrip P m c ts h fun e ts' h' => match e with | .normal => ∃ n', n' < n ∧ I n' ts' h' | e => Q e ts' h') : ATrip P m (.loop c) ts h Q := by
  intro hm E w a g r d b k cs
  have key : ∀ n ts h w0 E0 a, m ≤ h.length → I n ts h → Good E0 h w0 → RepT E0 ts a.tmps → a.defers = [] →
      ∃ e a' w', APost m E0 h w0 Q e a' w' ∧ Arrives P (lone (b.at a (.code c :: .inLoop c :: k)) cs w0) b k cs e a' w' := by
    intro n
    induction n using Nat.strongRecOn with
    | _ n ih =>
      intro ts h w0 E0 a hm hI g r d
      obtain ⟨e, a1, w1, ⟨ts', h', E', g', ev, r', d', q⟩, harr⟩ := round n ts h hI hm E0 w0 a g r d b (.inLoop c :: k) cs
      cases e with
      | normal =>
        obtain ⟨n', hlt, hI'⟩ := q
        obtain ⟨e2, a2, w2, hq2, harr2⟩ := ih n' hlt ts' h' w1 E' a1 (ev.m_le g') hI' g' r' d'
        exact ⟨e2, a2, w2, hq2.step ev, .of_steps (Steps.trans harr (.one step_inLoop)) harr2⟩
      | exit id => exact ⟨_, a1, w1, ⟨ts', h', E', g', ev, r', d', q⟩, .pass (x := .inLoop c) rfl (fun _ _ => .inl (by simp)) harr⟩
      | goto l => exact ⟨_, a1, w1, ⟨ts', h', E', g', ev, r', d', q⟩, .pass (x := .inLoop c) rfl (fun _ _ => .inl (by simp)) harr⟩
      | ret => exact ⟨_, a1, w1, ⟨ts', h', E', g', ev, r', d', q⟩, .pass (x := .inLoop c) rfl (fun _ _ => .inl (by simp)) harr⟩
      | panic ch => exact ⟨_, a1, w1, ⟨ts', h', E', g', ev, r', d', q⟩, .pass (x := .inLoop c) rfl (fun _ _ => .inl (by simp)) harr⟩
      | outgrown => exact ⟨_, a1, w1, ⟨ts', h', E', g', ev, r', d', q⟩, .pass (x := .inLoop c) rfl (fun _ _ => .inl (by simp)) harr⟩
  obtain ⟨e, a', w', hq, harr⟩ := key n ts h w E a hm h0 g r d
  exact ⟨e, a', w', hq, .of_steps (.one step_loop) harr⟩

end
end Go.AX

namespace Go.AX
def AExt (P : Program) (k : FuncId) (args : List Value) (v : Value) : Prop :=
  ∀ (E : Env) (w : World) (args' : List Value), RepL E args args' → ∃ v', (callFunc k ⟨args'⟩).run P w = .ok (.value v') w ∧ Rep E v v'
def indexOf (c : UInt8) : Nat → List UInt8 → Int
  | _, [] => -1
  | i, b :: l => if b = c then (i : Int) else indexOf c (i + 1) l

def isExtern (P : Program) (k : FuncId) (name : String) : Bool :=
  match P.funcs[k]? with
  | some fn => fn.body.isNone && fn.name == name && fn.origin == ""
  | none => false

theorem isExtern_run {P : Program} {k : FuncId} {name : String} (h : isExtern P k name = true) {e : Array Value → Sem Value} (h1 : (name == "runtime.NumGoroutine") = false)
    (h2 : Extern.allNextRows.lookup name = none) (h2' : Extern.allNextRows.lookup "" = none) (h3 : ∀ ts ps rs, ((Extern.allGenericRows.lookup name).map (fun f => f ts ps rs) <|> (Extern.allTypedRows.lookup name).map (fun f => f ps rs) <|> Extern.allRows.lookup name) = some e) (args : Array Value) (w : World) :
    (callFunc k args).run P w = ((e args).run P w).andThen fun v w' => .ok (.value v) w' := by
  unfold isExtern at h
  split at h
  · rename_i fn hf
    simp only [Bool.and_eq_true, beq_iff_eq] at h
    obtain ⟨⟨hb, hn⟩, ho⟩ := h
    have e1 : Extern.findNext fn = none := by
      unfold Extern.findNext
      simp only [hn, ho, h2, h2']
      rfl
    have e2 : Extern.find fn = some e := by
      unfold Extern.find
      simp only [hn]
      rw [h3]
      rfl
    simp only [callFunc, Sem.run_bind, run_program, Result.andThen_ok, hf, hn]
    rw [if_neg (by rw [h1]; simp), if_pos hb]
    simp only [Sem.run_bind, run_mark, Result.andThen_ok, e1, e2]
    cases (e args).run P w <;> rfl
  · simp at h

theorem find_congr {α : Type} {p q : α → Bool} : ∀ {l : List α}, (∀ x ∈ l, p x = q x) → l.find? p = l.find? q
  | [], _ => rfl
  | x :: l, h => by
    rw [List.find?_cons, List.find?_cons, h x (List.mem_cons_self ..), find_congr (fun y hy => h y (List.mem_cons_of_mem _ hy))]

theorem indexOf_find (c : UInt8) : ∀ (l : List UInt8) (i : Nat), indexOf c i l = match (List.range' i l.length).find? (fun j => l[j - i]! == c) with | some j => (j : Int) | none => -1
  | [], i => rfl
  | b :: l, i => by
    simp only [indexOf, List.length_cons, List.range'_succ]
    by_cases hb : b = c
    · subst hb
      rw [if_pos rfl, List.find?_cons_of_pos (by simp)]
    · rw [if_neg hb, List.find?_cons_of_neg (by simpa using hb), indexOf_find c l (i + 1)]
      have : (List.range' (i + 1) l.length).find? (fun j => l[j - (i + 1)]! == c) = (List.range' (i + 1) l.length).find? (fun j => (b :: l)[j - i]! == c) := by
        apply find_congr
        intro j hj
        rw [List.mem_range'_1] at hj
        rw [show j - i = (j - (i + 1)) + 1 by omega]
        simp
      rw [this]

def evExt (P : Program) (k : FuncId) (args : List Value) : Option Value :=
  match args with
  | [.string s, .int .u8 n] =>
    if isExtern P k "internal/bytealg.IndexByteString" then some (.int .i64 (indexOf (UInt8.ofNat n.toNat) 0 s.data.toList)) else none
  | _ => none

theorem evExt_sound {P : Program} {k : FuncId} {args : List Value} {v : Value} (h : evExt P k args = some v) : AExt P k args v := by
  unfold evExt at h
  split at h
  · rename_i s n
    split at h
    · rename_i hk
      simp only [Option.some.injEq] at h
      subst h
      intro E w args' hr
      cases hr with
      | cons _ a1 _ l1 r1 t1 =>
        cases t1 with
        | cons _ a2 _ l2 r2 t2 =>
          cases t2
          cases r1; cases r2
          refine ⟨_, ?_, .int _ _⟩
          rw [isExtern_run (P := P) hk (e := Extern.BytealgIndexByte.indexByte) (by kernel_rfl) (by kernel_rfl) (by kernel_rfl) (fun _ _ _ => by kernel_rfl)]
          have hb : (List.range s.size).find? (fun i => s[i]! == UInt8.ofNat n.toNat) = (List.range' 0 s.data.toList.length).find? (fun j => s.data.toList[j - 0]! == UInt8.ofNat n.toNat) := by
            have hl : s.data.toList.length = s.size := Array.length_toList
            rw [hl, List.range_eq_range']
            apply find_congr
            intro j hj
            rw [List.mem_range'_1] at hj
            have h1 : s[j]! = s.data.toList[j]! := by
              rw [getElem!_pos s j (by omega), getElem!_pos s.data.toList j (by omega)]
              rfl
            rw [h1]; rfl
          have hidx := indexOf_find (UInt8.ofNat n.toNat) s.data.toList 0
          have hix : Extern.BytealgIndexByte.indexByte ⟨[.string s, .int .u8 n]⟩ = (match (List.range s.size).find? (fun i => s[i]! == UInt8.ofNat n.toNat) with | some i => pure (goInt i) | none => pure (goInt (-1)) : Sem Value) := rfl
          rw [hix, hidx, ← hb]
          cases (List.range s.size).find? (fun i => s[i]! == UInt8.ofNat n.toNat) <;> rfl
    · simp at h
  · simp at h

end Go.AX

namespace Go.AX

inductive Dir where
  | auto
  | hint (t : Nat) (h : Hint)
  | is (t : Nat) (v : Value)
  | gd (t : Nat) (b : Bool)
  | br (b : Bool)
  | lit
  | call (v : Value) (h : AHeap)
  | callL (v : Value) (new : List (Nat × AObj))
  | callN (v : Value) (new : List (Nat × AObj)) (objs : AHeap)
  | ext (v : Value)
  | code (ex : Exit) (ts : Tm) (h : AHeap)
  | codeG (keep bares live : List Nat) (ex : Exit) (ts : Tm) (h : AHeap)
  | codeB (keep bares live : List Nat) (ex : Exit) (ts : Tm) (h : AHeap)
  | inl
  | heap
  | priv (ids : List Nat)
  | owe (t : Nat)
  | cut (t : Nat)

abbrev Script := List Dir

noncomputable def putD (ts : Tm) (dst : Option Tmp) (v : Value) : Tm :=
  match dst with
  | none => ts
  | some d => ts.put d v
def HoldsL (H : AHeap) : List (Nat × AObj) → Prop
  | [] => True
  | (i, o) :: l => H[i]? = some o ∧ HoldsL H l
def setL (H : AHeap) : List (Nat × AObj) → AHeap
  | [] => H
  | (i, o) :: l => setL (H.set i o) l
noncomputable def ksetL (H : AHeap) : List (Nat × AObj) → AHeap
  | [] => H
  | (i, o) :: l => ksetL (lset H i o) l
theorem ksetL_eq : ∀ (l : List (Nat × AObj)) (H : AHeap), ksetL H l = setL H l
  | [], _ => rfl
  | (i, o) :: l, H => by simp only [ksetL, setL, lset_eq]; exact ksetL_eq l _
noncomputable def oldL (H : AHeap) : List (Nat × AObj) → Option (List (Nat × AObj))
  | [] => some []
  | (i, _) :: l => match lget H i, oldL H l with
    | some o, some r => some ((i, o) :: r)
    | _, _ => none
theorem oldL_holds : ∀ {l : List (Nat × AObj)} {H : AHeap} {r : List (Nat × AObj)}, oldL H l = some r → HoldsL H r
  | [], _, _, h => by simp only [oldL, Option.some.injEq] at h; subst h; trivial
  | (i, o) :: l, H, r, h => by
    unfold oldL at h
    split at h
    · rename_i o1 r1 h1 h2
      simp only [Option.some.injEq] at h
      subst h
      exact ⟨by rw [← lget_eq]; exact h1, oldL_holds h2⟩
    · simp at h
def AOn (P : Program) (f : FuncId) (args : List Value) (old : List (Nat × AObj)) (v : Value) (new : List (Nat × AObj)) : Prop := ∀ H, HoldsL H old → AEq P f args H v (setL H new)
def AOnN (P : Program) (f : FuncId) (args : List Value) (old : List (Nat × AObj)) (v : Value) (new : List (Nat × AObj)) (objs : AHeap) : Prop :=
  ∀ H, HoldsL H old → AEq P f args H (rnV (up H.length) v) (setL H new ++ objs.map (rnO (up H.length)))
noncomputable def Tm.enter (n : Nat) (args : List Value) : Tm :=
  (args.foldl (fun (x : Tm × Nat) v => (x.1.put x.2 v, x.2 + 1)) ({ n := n, d := undef, t := .leaf }, 0)).1
def enterable (P : Program) (k : FuncId) : Bool :=
  match P.funcs[k]? with
  | some fn => !(fn.name == "runtime.NumGoroutine") && fn.body.isSome
  | none => false

noncomputable def calleeOf (ts : Tm) (c : Call) : Option (FuncId × List Value) :=
  match c.callee with
  | .value f =>
    match opd ts f, opdL ts c.args.toList with
    | some (.func (.func k) ⟨first⟩ ⟨cap⟩), some args => some (k, (first ++ args) ++ cap)
    | _, _ => none
  | _ => none

abbrev Res := Option (List Prop × Exit × Tm × AHeap × Script)
abbrev FRes := Option (List Prop × Value × AHeap × Script)

noncomputable def evResult (P : Program) (ts : Tm) (h : AHeap) : ResultVar → Option Value
  | .tmp t => some (ts.get t)
  | .cell a t =>
    match evLoad P h .none t (ts.get a) with
    | some ([], v) => some v
    | _ => none

noncomputable def evResultL (P : Program) (ts : Tm) (h : AHeap) : List ResultVar → Option (List Value)
  | [] => some []
  | r :: rs => match evResult P ts h r, evResultL P ts h rs with
    | some v, some l => some (v :: l)
    | _, _ => none

noncomputable def evResults (P : Program) (fn : Func) (ts : Tm) (h : AHeap) : Option Value :=
  match evResultL P ts h fn.results.toList with
  | some [v] => some v
  | some l => some (.tuple ⟨l⟩)
  | none => none

noncomputable def evFnWith (P : Program) (ev : Nat → Code → Tm → AHeap → Script → Res) (k : FuncId) (args : List Value) (h : AHeap) (scr : Script) : FRes :=
  match P.funcs[k]? with
  | some fn =>
    match fn.body with
    | some c =>
      match Nat.ble args.length fn.ntmps, Nat.ble fn.ntmps 4000 with
      | true, true =>
        match ev h.length c (Tm.enter fn.ntmps args) h scr with
        | some (ob, .normal, ts, h', scr') => (evResults P fn ts h').map fun v => (ob, v, h', scr')
        | some (ob, .ret, ts, h', scr') => (evResults P fn ts h').map fun v => (ob, v, h', scr')
        | _ => none
      | _, _ => none
    | none => none
  | none => none

noncomputable def evCall (P : Program) (ev : Nat → Code → Tm → AHeap → Script → Res) (ts : Tm) (h : AHeap) (scr : Script) (c : Call) : FRes :=
  match calleeOf ts c with
  | some (k, args) =>
    match scr with
    | .ext v :: s => some ([AExt P k args v], v, h, s)
    | .call v h' :: s => if enterable P k then some ([AEq P k args h v h'], v, h', s) else none
    | .callL v new :: s => if enterable P k then (oldL h new).map fun old => ([AOn P k args old v new], v, ksetL h new, s) else none
    | .callN v new objs :: s => if enterable P k then (oldL h new).map fun old => ([AOnN P k args old v new objs], rnV (up h.length) v, ksetL h new ++ objs.map (rnO (up h.length)), s) else none
    | .inl :: s => if enterable P k then evFnWith P ev k args h s else none
    | s =>
      if enterable P k then evFnWith P ev k args h s
      else match evExt P k args with
        | some v => some ([], v, h, s)
        | none => none
  | none => none
noncomputable def evGuard (ops : Array Oper) (ts : Tm) (scr : Script) : Option (Nat × Bool) → Option (List Prop × Bool × Tm × Script)
  | none => some ([], true, ts, scr)
  | some (j, want) =>
    match (ops[j]?).bind (·.dst) with
    | none => none
    | some d =>
      match ts.get d with
      | .bool b =>
        match scr with
        | .gd t c :: s =>
          if t = d then some ([b = c], c == want, ts.put d (.bool c), s)
          else match b with
            | true => some ([], true == want, ts, scr)
            | false => some ([], false == want, ts, scr)
        | _ => match b with
          | true => some ([], true == want, ts, scr)
          | false => some ([], false == want, ts, scr)
      | .tuple ⟨[]⟩ => some ([], false, ts, scr)
      | _ => none
def isCallOp : Op → Option Call
  | .call { callee := .value f, args, argTypes } => some { callee := .value f, args, argTypes }
  | _ => none

def addObs (ob : List Prop) : Option (List Prop × Tm × AHeap × Script) → Option (List Prop × Tm × AHeap × Script)
  | some (ob2, r) => some (ob ++ ob2, r)
  | none => none

def addObsR (ob : List Prop) : Res → Res
  | some (ob2, r) => some (ob ++ ob2, r)
  | none => none

def isDst (dst : Option Tmp) (t : Nat) : Bool :=
  match dst with
  | some d => Nat.beq d t
  | none => false
def isOwe (dst : Option Tmp) (t : Nat) : Bool :=
  match dst with
  | some d => Nat.beq d t
  | none => Nat.beq 1000000 t
def evIs (dst : Option Tmp) (r : FRes) : FRes :=
  match r with
  | some (ob, v, h, .is t u :: s) =>
    match isDst dst t with
    | true => some (ob ++ [v = u], u, h, s)
    | false => some (ob, v, h, .is t u :: s)
  | r => r

noncomputable def evHinted (P : Program) (h : AHeap) (ts : Tm) (scr : Script) (o : Oper) : FRes :=
  match scr with
  | .hint t hi :: s =>
    match isDst o.dst t with
    | true => (evOp P h ts hi o.op).map fun x => (x.1, x.2.1, x.2.2, s)
    | false => (evOp P h ts .none o.op).map fun x => (x.1, x.2.1, x.2.2, .hint t hi :: s)
  | .owe t :: s =>
    match isOwe o.dst t with
    | true => (evOp P h ts .none o.op).map fun x => ([AllP x.1], x.2.1, x.2.2, s)
    | false => (evOp P h ts .none o.op).map fun x => (x.1, x.2.1, x.2.2, .owe t :: s)
  | s => (evOp P h ts .none o.op).map fun x => (x.1, x.2.1, x.2.2, s)

noncomputable def evAny (P : Program) (ev : Nat → Code → Tm → AHeap → Script → Res) (h : AHeap) (ts : Tm) (scr : Script) (o : Oper) : FRes :=
  evIs o.dst (match isCallOp o.op with
  | some c => evCall P ev ts h scr c
  | none => evHinted P h ts scr o)
noncomputable def evOne (P : Program) (ev : Nat → Code → Tm → AHeap → Script → Res) (ops : Array Oper) (o : Oper) (next : Tm → AHeap → Script → Option (List Prop × Tm × AHeap × Script)) (ts : Tm) (h : AHeap) (scr : Script) :
    Option (List Prop × Tm × AHeap × Script) :=
  match evGuard ops ts scr o.guard with
  | none => none
  | some (ob, false, ts1, scr1) => addObs ob (next (putD ts1 o.dst undef) h scr1)
  | some (ob, true, ts1, scr1) =>
    match evAny P ev h ts1 scr1 o with
    | some (ob1, v, h1, scr2) => addObs ob (addObs ob1 (next (putD ts1 o.dst v) h1 scr2))
    | none => none

noncomputable def evOps (P : Program) (ev : Nat → Code → Tm → AHeap → Script → Res) (ops : Array Oper) (l : List Oper) : Tm → AHeap → Script → Option (List Prop × Tm × AHeap × Script) :=
  List.rec (fun ts h scr => some ([], ts, h, scr)) (fun o _ ih => evOne P ev ops o ih) l

noncomputable def evLoop (f : Tm → AHeap → Script → Res) (n : Nat) : Tm → AHeap → Script → Res :=
  Nat.rec (fun _ _ _ => none) (fun _ ih ts h scr =>
    match f ts h scr with
    | some (ob, .normal, ts1, h1, scr1) => addObsR ob (ih ts1 h1 scr1)
    | r => r) n

def evCond (scr : Script) (b : Bool) : Option (List Prop × Bool × Script) :=
  match scr with
  | .br c :: s => some ([b = c], c, s)
  | .lit :: s => match b with
    | true => some ([], true, s)
    | false => some ([], false, s)
  | s => match b with
    | true => some ([], true, s)
    | false => some ([], false, s)

end Go.AX

namespace Go.AX

section
variable {P : Program}

theorem addObs_some {ob : List Prop} {r : Option (List Prop × Tm × AHeap × Script)} {ob2 : List Prop} {x : Tm × AHeap × Script} (h : addObs ob r = some (ob2, x)) : ∃ ob3, r = some (ob3, x) ∧ ob2 = ob ++ ob3 := by
  cases r with
  | none => simp [addObs] at h
  | some y =>
    obtain ⟨ob3, y⟩ := y
    simp only [addObs, Option.some.injEq, Prod.mk.injEq] at h
    exact ⟨ob3, by rw [h.2], h.1.symm⟩

theorem addObsR_some {ob : List Prop} {r : Res} {ob2 : List Prop} {x : Exit × Tm × AHeap × Script} (h : addObsR ob r = some (ob2, x)) : ∃ ob3, r = some (ob3, x) ∧ ob2 = ob ++ ob3 := by
  cases r with
  | none => simp [addObsR] at h
  | some y =>
    obtain ⟨ob3, y⟩ := y
    simp only [addObsR, Option.some.injEq, Prod.mk.injEq] at h
    exact ⟨ob3, by rw [h.2], h.1.symm⟩

theorem putD_rep {E : Env} {ts : Tm} {a : Act} {dst : Option Tmp} {v v' : Value} (hr : RepT E ts a.tmps) (hv : Rep E v v') : RepT E (putD ts dst v) (a.put dst v').tmps := by
  cases dst with
  | none => exact hr
  | some d => exact hr.put d hv

theorem put_defers {a : Act} {dst : Option Tmp} {v : Value} : (a.put dst v).defers = a.defers := by cases dst <;> rfl

theorem isCallOp_some {o : Op} {c : Call} (h : isCallOp o = some c) : o = .call c ∧ ∃ f, c.callee = .value f := by
  unfold isCallOp at h
  split at h
  · simp only [Option.some.injEq] at h
    subst h
    exact ⟨rfl, _, rfl⟩
  · simp at h

theorem calleeOf_run {E : Env} {ts : Tm} {a : Act} {c : Call} {k : FuncId} {args : List Value} {t : TypeId} (hr : RepT E ts a.tmps) (h : calleeOf ts c = some (k, args)) :
    ∃ args', RepL E args args' ∧ ∀ w, (do let d ← resolve a.eval c t; invoke d.target d.args : Sem Next).run P w = (callFunc k ⟨args'⟩).run P w := by
  unfold calleeOf at h
  split at h
  · rename_i f hf
    split at h
    · rename_i k' first cap args0 h1 h2
      simp only [Option.some.injEq, Prod.mk.injEq] at h
      obtain ⟨rfl, rfl⟩ := h
      have e1 := opd_sound hr h1
      have e2 := opdL_sound hr h2
      generalize hv : a.eval f = fv at e1
      cases e1 with
      | func _ _ _ f' c' r1 r2 =>
        refine ⟨(f' ++ c.args.toList.map a.eval) ++ c', (r1.append e2).append r2, fun w => ?_⟩
        have hm : c.args.map a.eval = ⟨c.args.toList.map a.eval⟩ := by apply Array.ext'; simp
        simp only [resolve, hf, hv, Deferred.ofValue, hm, Sem.run_bind, Sem.run_pure, Result.andThen_ok, invoke]
        congr 2
        apply Array.ext'
        simp
    · simp at h
  · simp at h

theorem enterable_some {k : FuncId} (h : enterable P k = true) : ∃ fn c, P.funcs[k]? = some fn ∧ fn.body = some c ∧ ∀ (args : Array Value) (w : World), (callFunc k args).run P w = .ok (.enter k args) w := by
  unfold enterable at h
  split at h
  · rename_i fn hf
    simp only [Bool.and_eq_true, Bool.not_eq_true'] at h
    obtain ⟨h1, h2⟩ := h
    obtain ⟨c, hc⟩ := Option.isSome_iff_exists.1 h2
    refine ⟨fn, c, hf, hc, fun args w => ?_⟩
    have h1' : ¬ ((fn.name == "runtime.NumGoroutine") = true) := by rw [h1]; simp
    simp only [callFunc, Sem.run_bind, run_program, Result.andThen_ok, hf]
    rw [if_neg h1', if_neg (by simp [hc])]
    rfl
  · simp at h

def rvOf (tmps : Array Value) : ResultVar → Sem Value
  | .tmp t => pure (tmps.getD t undef)
  | .cell a t => do loadVar t (← asAddr (tmps.getD a undef))

theorem results_rv (fn : Func) (tmps : Array Value) : results fn tmps = (do let vs ← fn.results.mapM (rvOf tmps); pure (if h : vs.size = 1 then vs[0] else .tuple vs)) := by
  unfold results
  congr 2

theorem evResult_sound {E : Env} {h : AHeap} {w : World} (g : Good E h w) {ts : Tm} {tmps : Array Value} (hr : RepT E ts tmps) {r : ResultVar} {v : Value} (he : evResult P ts h r = some v) :
    ∃ v', (rvOf tmps r).run P w = .ok v' w ∧ Rep E v v' := by
  unfold evResult at he
  split at he
  · rename_i t
    simp only [Option.some.injEq] at he
    subst he
    exact ⟨_, rfl, hr.get t⟩
  · rename_i a t
    split at he
    · rename_i v' hl
      simp only [Option.some.injEq] at he
      subst he
      have ha := hr.get a
      obtain ⟨u, e1, e2⟩ := evLoad_sound (P := P) g hl trivial ha
      refine ⟨u, ?_, e2⟩
      have hp : ∃ i o, ts.get a = .pointer (some ⟨i, o, none⟩) := by
        unfold evLoad at hl
        split at hl
        · rename_i hx; exact ⟨_, _, hx⟩
        · simp at hl
      obtain ⟨i, o, hp⟩ := hp
      rw [hp] at ha
      simp only [rvOf, Sem.run_bind]
      generalize tmps.getD a undef = x at *
      cases ha
      simpa [Instr.loadAt, Instr.sureAddr, asAddr] using e1
    · simp at he

theorem evResultL_sound {E : Env} {h : AHeap} {w : World} (g : Good E h w) {ts : Tm} {tmps : Array Value} (hr : RepT E ts tmps) : ∀ {rs : List ResultVar} {l : List Value}, evResultL P ts h rs = some l →
    ∃ l', (rs.mapM (rvOf tmps)).run P w = .ok l' w ∧ RepL E l l'
  | [], l, he => by simp only [evResultL, Option.some.injEq] at he; subst he; exact ⟨[], rfl, .nil⟩
  | r :: rs, l, he => by
    simp only [evResultL] at he
    split at he
    · rename_i v l1 h1 h2
      simp only [Option.some.injEq] at he
      subst he
      obtain ⟨v', e1, e2⟩ := evResult_sound g hr h1
      obtain ⟨l', f1, f2⟩ := evResultL_sound g hr h2
      refine ⟨v' :: l', ?_, .cons _ _ _ _ e2 f2⟩
      rw [List.mapM_cons]
      simp only [Sem.run_bind, e1, Result.andThen_ok, f1, Sem.run_pure]
    · simp at he

theorem evResults_sound {E : Env} {h : AHeap} {w : World} (g : Good E h w) {fn : Func} {ts : Tm} {tmps : Array Value} (hr : RepT E ts tmps) {v : Value} (he : evResults P fn ts h = some v) :
    ∃ v', (results fn tmps).run P w = .ok v' w ∧ Rep E v v' := by
  have key : ∀ {l : List Value}, evResultL P ts h fn.results.toList = some l → ∃ l', (results fn tmps).run P w = .ok (if h : (⟨l'⟩ : Array Value).size = 1 then (⟨l'⟩ : Array Value)[0] else .tuple ⟨l'⟩) w ∧ RepL E l l' := by
    intro l hl
    obtain ⟨l', e1, e2⟩ := evResultL_sound g hr hl
    refine ⟨l', ?_, e2⟩
    rw [results_rv, ← Array.toArray_toList (xs := fn.results), List.mapM_toArray]
    simp only [Sem.run_bind, Sem.run_map]
    rw [e1]
    rfl
  unfold evResults at he
  split at he
  · rename_i v0 hl
    simp only [Option.some.injEq] at he
    subst he
    obtain ⟨l', e1, e2⟩ := key hl
    cases e2 with
    | cons _ v' _ _ hv ht =>
      cases ht
      exact ⟨v', by rw [e1]; simp, hv⟩
  · rename_i l hne hl
    simp only [Option.some.injEq] at he
    subst he
    obtain ⟨l', e1, e2⟩ := key hl
    refine ⟨.tuple ⟨l'⟩, ?_, .tuple _ _ e2⟩
    rw [e1, dif_neg]
    intro h1
    have : l.length = 1 := by rw [← e2.length]; exact h1
    obtain ⟨x, rfl⟩ := List.length_eq_one_iff.1 this
    exact hne x rfl
  · simp at he

theorem enter_aux (n : Nat) (hn : n ≤ 4000) : ∀ (args : List Value) (T : Tm) (k : Nat), T.n = n → k + args.length ≤ n →
    (args.foldl (fun (x : Tm × Nat) v => (x.1.put x.2 v, x.2 + 1)) (T, k)).1.n = n ∧ (args.foldl (fun (x : Tm × Nat) v => (x.1.put x.2 v, x.2 + 1)) (T, k)).1.d = T.d ∧
    ∀ j, (args.foldl (fun (x : Tm × Nat) v => (x.1.put x.2 v, x.2 + 1)) (T, k)).1.get j = if k ≤ j ∧ j < k + args.length then args.getD (j - k) undef else T.get j
  | [], T, k, hT, _ => ⟨hT, rfl, fun j => (if_neg (fun h => by have := h.2; simp only [List.length_nil] at this; omega)).symm⟩
  | v :: args, T, k, hT, hk => by
    simp only [List.length_cons] at hk
    have hpd : (T.put k v).d = T.d := by unfold Tm.put; cases Nat.blt k T.n <;> rfl
    obtain ⟨h1, h2, h3⟩ := enter_aux n hn args (T.put k v) (k + 1) (by rw [Tm.put_n, hT]) (by omega)
    refine ⟨h1, h2.trans hpd, fun j => ?_⟩
    rw [List.foldl_cons, h3 j, Tm.get_put _ _ _ _ (by omega)]
    simp only [List.length_cons]
    by_cases e : j = k
    · subst e
      rw [if_neg (by omega), if_pos ⟨rfl, by omega⟩, if_pos (by omega)]
      simp
    · by_cases e2 : k + 1 ≤ j ∧ j < k + 1 + args.length
      · rw [if_pos e2, if_pos (by omega)]
        rw [show j - k = (j - (k + 1)) + 1 by omega]
        simp
      · rw [if_neg e2, if_neg (by omega), if_neg (by omega)]

theorem enter_rep {E : Env} {n : Nat} {args args' : List Value} (hr : RepL E args args') (h1 : args.length ≤ n) (h2 : n ≤ 4000) : RepT E (Tm.enter n args) ((⟨args'⟩ : Array Value) ++ Array.replicate (n - (⟨args'⟩ : Array Value).size) undef) := by
  obtain ⟨k1, k2, k3⟩ := enter_aux n h2 args { n := n, d := undef, t := .leaf } 0 rfl (by omega)
  have hl := hr.length
  refine ⟨?_, by unfold Tm.enter; rw [k1]; exact h2, fun j => ?_⟩
  · unfold Tm.enter
    rw [k1]
    simp; omega
  · unfold Tm.enter
    rw [k3 j]
    simp only [Nat.zero_le, Nat.zero_add, true_and, Nat.sub_zero]
    have hg : ((⟨args'⟩ : Array Value) ++ Array.replicate (n - (⟨args'⟩ : Array Value).size) undef).getD j undef = if j < args.length then args'.getD j undef else undef := by
      rw [Array.getD_eq_getD_getElem?, Array.getElem?_append]
      simp only [List.size_toArray, hl]
      split
      · simp [List.getD]
      · simp only [Array.getElem?_replicate]
        split <;> rfl
    rw [hg]
    split
    · exact hr.getD j (rep_undef E)
    · exact rep_undef E
def EvOk (P : Program) (ev : Nat → Code → Tm → AHeap → Script → Res) : Prop :=
  ∀ m c ts h scr ob ex ts' h' scr', ev m c ts h scr = some (ob, ex, ts', h', scr') → AllP ob → AComes P m c ts h ex ts' h'

theorem evFnWith_sound {ev : Nat → Code → Tm → AHeap → Script → Res} (hev : EvOk P ev) {k : FuncId} {args : List Value} {h : AHeap} {scr scr' : Script} {ob : List Prop} {v : Value} {h' : AHeap}
    (he : evFnWith P ev k args h scr = some (ob, v, h', scr')) (ho : AllP ob) : AEq P k args h v h' := by
  unfold evFnWith at he
  split at he
  · rename_i fn hf
    split at he
    · rename_i c hb
      split at he
      · rename_i b1 b2
        have key : ∀ ex ts' h1 scr1 ob1, ev h.length c (Tm.enter fn.ntmps args) h scr = some (ob1, ex, ts', h1, scr1) → (ex = .normal ∨ ex = .ret) → ((evResults P fn ts' h1).map fun v => (ob1, v, h1, scr1)) = some (ob, v, h', scr') → AEq P k args h v h' := by
          intro ex ts' h1 scr1 ob1 hc hex hres
          simp only [Option.map_eq_some_iff, Prod.mk.injEq] at hres
          obtain ⟨v0, hv, rfl, rfl, rfl, rfl⟩ := hres
          have hcomes := hev _ _ _ _ _ _ _ _ _ _ hc ho
          intro E w args' g hr
          have hen := enter_rep hr (Nat.le_of_ble_eq_true b1) (Nat.le_of_ble_eq_true b2)
          refine calls_of_wp hf hb (Code.wp_mono ?_ (hcomes (Nat.le_refl _) E w _ g hen rfl))
          rintro e a' w' ⟨ts2, h2, E', g', ev', r', d', rfl, rfl, rfl⟩
          obtain ⟨v', q1, q2⟩ := evResults_sound g' r' hv
          rcases hex with rfl | rfl
          · exact ⟨d', v', q1, v0, v', h2, E', rfl, g', ev', q2, rfl, rfl⟩
          · exact ⟨d', v', q1, v0, v', h2, E', rfl, g', ev', q2, rfl, rfl⟩
        split at he
        · rename_i hc; exact key _ _ _ _ _ hc (.inl rfl) he
        · rename_i hc; exact key _ _ _ _ _ hc (.inr rfl) he
        · simp at he
      · simp at he
    · simp at he
  · simp at he
def OpNext (P : Program) (E : Env) (h : AHeap) (w : World) (o : Oper) (a : Act) (v : Value) (h' : AHeap) : Prop :=
  ∀ (next : Act → World → Prop) (Q : Exit → Act → World → Prop), (∀ E' w' v', Good E' h' w' → Evol E.n E h w E' h' w' → Rep E' v v' → next (a.put o.dst v') w') → o.wp P a w next Q

theorem opNext_op {E : Env} {h : AHeap} {w : World} {o : Oper} {a : Act} {v : Value} {h' : AHeap} (hk : OpOk E h w ((execOp a.eval o).run P w) v h') : OpNext P E h w o a v h' := by
  intro next Q hn
  obtain ⟨E', w', g, ev, hr⟩ := hk
  unfold Oper.wp
  rcases hr with ⟨v', hr, hv⟩ | ⟨hr, rfl⟩
  · rw [hr]; exact hn E' w' v' g ev hv
  · rw [hr]; exact hn E' w' undef g ev (rep_undef E')

theorem opNext_call {ev : Nat → Code → Tm → AHeap → Script → Res} (hev : EvOk P ev) {E : Env} {ts : Tm} {h : AHeap} {w : World} {o : Oper} {c : Call} {a : Act} {scr scr' : Script} {ob : List Prop} {v : Value} {h' : AHeap}
    (g : Good E h w) (hr : RepT E ts a.tmps) (ho : o.op = .call c) (he : evCall P ev ts h scr c = some (ob, v, h', scr')) (hob : AllP ob) : OpNext P E h w o a v h' := by
  intro next Q hn
  unfold evCall at he
  split at he
  · rename_i k args hcal
    obtain ⟨args', r1, r2⟩ := calleeOf_run (P := P) (t := o.type) hr hcal
    have hop : (execOp a.eval o).run P w = (callFunc k ⟨args'⟩).run P w := by
      rw [← r2 w]; simp only [execOp, ho]
    have hcall : enterable P k = true → AEq P k args h v h' → o.wp P a w next Q := by
      intro hk hq
      obtain ⟨fn, cd, _, _, hen⟩ := enterable_some hk
      unfold Oper.wp
      rw [hop, hen]
      refine (hq E w args' g r1).mono ?_
      rintro e w' ⟨v0, v', h0, E', rfl, g', ev', rv, rfl, rfl⟩
      exact hn E' w' v' g' (by rw [g.n]; exact ev') rv
    have hext : ∀ {v0 : Value}, AExt P k args v0 → h = h → (∀ E' w' v', Good E' h w' → Evol E.n E h w E' h w' → Rep E' v0 v' → next (a.put o.dst v') w') → o.wp P a w next Q := by
      intro v0 hx _ hn'
      obtain ⟨v', q1, q2⟩ := hx E w args' r1
      unfold Oper.wp
      rw [hop, q1]
      exact hn' E w v' g (.refl E h w (Nat.le_refl _)) q2
    split at he
    · simp only [Option.some.injEq, Prod.mk.injEq] at he
      obtain ⟨rfl, rfl, rfl, rfl⟩ := he
      exact hext hob.1 rfl hn
    · split at he
      · rename_i hk
        simp only [Option.some.injEq, Prod.mk.injEq] at he
        obtain ⟨rfl, rfl, rfl, rfl⟩ := he
        exact hcall hk hob.1
      · simp at he
    · split at he
      · rename_i hk
        obtain ⟨old, hold, he⟩ := Option.map_eq_some_iff.1 he
        simp only [Prod.mk.injEq] at he
        obtain ⟨rfl, rfl, rfl, rfl⟩ := he
        refine hcall hk ?_
        rw [ksetL_eq]
        exact hob.1 h (oldL_holds hold)
      · simp at he
    · split at he
      · rename_i hk
        obtain ⟨old, hold, he⟩ := Option.map_eq_some_iff.1 he
        simp only [Prod.mk.injEq] at he
        obtain ⟨rfl, rfl, rfl, rfl⟩ := he
        refine hcall hk ?_
        rw [ksetL_eq]
        exact hob.1 h (oldL_holds hold)
      · simp at he
    · split at he
      · rename_i hk
        exact hcall hk (evFnWith_sound hev he hob)
      · simp at he
    · split at he
      · rename_i hk
        exact hcall hk (evFnWith_sound hev he hob)
      · split at he
        · rename_i v0 hx
          simp only [Option.some.injEq, Prod.mk.injEq] at he
          obtain ⟨_, rfl, rfl, _⟩ := he
          exact hext (evExt_sound hx) rfl hn
        · simp at he
  · simp at he

theorem evIs_some {dst : Option Tmp} {r : FRes} {ob : List Prop} {v : Value} {h : AHeap} {scr : Script} (he : evIs dst r = some (ob, v, h, scr)) (ho : AllP ob) : ∃ ob0 s, r = some (ob0, v, h, s) ∧ AllP ob0 := by
  unfold evIs at he
  split at he
  · split at he
    · simp only [Option.some.injEq, Prod.mk.injEq] at he
      obtain ⟨rfl, rfl, rfl, rfl⟩ := he
      obtain ⟨o1, o2, _⟩ := ho.append
      subst o2
      exact ⟨_, _, rfl, o1⟩
    · simp only [Option.some.injEq, Prod.mk.injEq] at he
      obtain ⟨rfl, rfl, rfl, rfl⟩ := he
      exact ⟨_, _, rfl, ho⟩
  · exact ⟨_, _, he, ho⟩

theorem evHinted_some {h h' : AHeap} {ts : Tm} {scr scr' : Script} {o : Oper} {ob : List Prop} {v : Value} (he : evHinted P h ts scr o = some (ob, v, h', scr')) (ho : AllP ob) : ∃ hi ob', evOp P h ts hi o.op = some (ob', v, h') ∧ AllP ob' := by
  unfold evHinted at he
  split at he
  · split at he <;> simp only [Option.map_eq_some_iff, Prod.mk.injEq] at he <;> obtain ⟨⟨a1, a2, a3⟩, h1, rfl, rfl, rfl, rfl⟩ := he <;> exact ⟨_, _, h1, ho⟩
  · split at he <;> simp only [Option.map_eq_some_iff, Prod.mk.injEq] at he <;> obtain ⟨⟨a1, a2, a3⟩, h1, rfl, rfl, rfl, rfl⟩ := he
    · exact ⟨_, _, h1, ho.1⟩
    · exact ⟨_, _, h1, ho⟩
  · simp only [Option.map_eq_some_iff, Prod.mk.injEq] at he
    obtain ⟨⟨a1, a2, a3⟩, h1, rfl, rfl, rfl, rfl⟩ := he
    exact ⟨_, _, h1, ho⟩

theorem any_next {ev : Nat → Code → Tm → AHeap → Script → Res} (hev : EvOk P ev) {E : Env} {ts : Tm} {h : AHeap} {w : World} {o : Oper} {a : Act} {scr scr' : Script} {ob : List Prop} {v : Value} {h' : AHeap}
    (g : Good E h w) (hr : RepT E ts a.tmps) (he : evAny P ev h ts scr o = some (ob, v, h', scr')) (hob : AllP ob) : OpNext P E h w o a v h' := by
  obtain ⟨ob0, s, h0, ho0⟩ := evIs_some he hob
  split at h0
  · rename_i c hc
    exact opNext_call hev g hr (isCallOp_some hc).1 h0 ho0
  · obtain ⟨hi, ob', h1, h2⟩ := evHinted_some h0 ho0
    exact opNext_op (evOp_sound g hr h1 h2)

theorem evGuard_sound {E : Env} {ops : Array Oper} {ts ts1 : Tm} {a : Act} {scr scr1 : Script} {o : Oper} {ob : List Prop} {go : Bool} (hr : RepT E ts a.tmps) (he : evGuard ops ts scr o.guard = some (ob, go, ts1, scr1)) (ho : AllP ob) :
    Region.wanted o (yielded ops a.tmps) = go ∧ RepT E ts1 a.tmps := by
  unfold Region.wanted
  cases hg : o.guard with
  | none =>
    rw [hg] at he
    simp only [evGuard, Option.some.injEq, Prod.mk.injEq] at he
    obtain ⟨_, rfl, rfl, _⟩ := he
    exact ⟨rfl, hr⟩
  | some gd =>
    obtain ⟨j, want⟩ := gd
    rw [hg] at he
    simp only [evGuard] at he
    show (yielded ops a.tmps j == some want) = go ∧ _
    split at he
    · simp at he
    · rename_i d hd
      have hrd := hr.get d
      have hy : ∀ b, a.tmps.getD d undef = .bool b → yielded ops a.tmps j = some b := by
        intro b hb
        unfold yielded
        rw [hd]
        have : a.tmps[d]? = some (.bool b) := by
          rw [Array.getD_eq_getD_getElem?] at hb
          cases hx : a.tmps[d]? with
          | none => rw [hx] at hb; simp [undef] at hb
          | some x => rw [hx] at hb; simp at hb; rw [hb]
        simp [this]
      have hlit : ∀ b, ts.get d = .bool b → yielded ops a.tmps j = some b := by
        intro b hb
        rw [hb] at hrd
        generalize hx : a.tmps.getD d undef = x at hrd
        cases hrd
        exact hy b hx
      split at he
      · rename_i b hb
        have hyb := hlit b hb
        split at he
        · rename_i t c s
          split at he
          · rename_i ht
            subst ht
            simp only [Option.some.injEq, Prod.mk.injEq] at he
            obtain ⟨rfl, rfl, rfl, rfl⟩ := he
            have hbc := ho.1
            subst hbc
            refine ⟨by rw [hyb]; rfl, ?_⟩
            refine ⟨by rw [Tm.put_n]; exact hr.n, by rw [Tm.put_n]; exact hr.le, fun k => ?_⟩
            rw [Tm.get_put _ _ _ _ hr.le]
            split
            · rename_i hk
              obtain ⟨rfl, _⟩ := hk
              have := hr.get k
              rw [hb] at this
              exact this
            · exact hr.get k
          · split at he <;> simp only [Option.some.injEq, Prod.mk.injEq] at he <;> obtain ⟨rfl, rfl, rfl, rfl⟩ := he <;> exact ⟨by rw [hyb]; rfl, hr⟩
        · split at he <;> simp only [Option.some.injEq, Prod.mk.injEq] at he <;> obtain ⟨rfl, rfl, rfl, rfl⟩ := he <;> exact ⟨by rw [hyb]; rfl, hr⟩
      · rename_i hb
        simp only [Option.some.injEq, Prod.mk.injEq] at he
        obtain ⟨rfl, rfl, rfl, rfl⟩ := he
        refine ⟨?_, hr⟩
        rw [hb] at hrd
        generalize hx : a.tmps.getD d undef = x at hrd
        have : yielded ops a.tmps j = none := by
          unfold yielded
          rw [hd]
          cases hrd with
          | tuple _ c' h =>
            cases h
            have : a.tmps[d]? = none ∨ a.tmps[d]? = some (.tuple ⟨[]⟩) := by
              rw [Array.getD_eq_getD_getElem?] at hx
              cases hy : a.tmps[d]? with
              | none => exact .inl rfl
              | some y => rw [hy] at hx; simp at hx; exact .inr (by rw [hx])
            rcases this with h | h <;> simp [h]
        rw [this]; rfl
      · simp at he

theorem evOps_sound {ev : Nat → Code → Tm → AHeap → Script → Res} (hev : EvOk P ev) (ops : Array Oper) : ∀ (l : List Oper) (ts : Tm) (h : AHeap) (scr : Script) (ob : List Prop) (ts' : Tm) (h' : AHeap) (scr' : Script),
    evOps P ev ops l ts h scr = some (ob, ts', h', scr') → AllP ob → ∀ (E : Env) (w : World) (a : Act) (Q : Exit → Act → World → Prop), Good E h w → RepT E ts a.tmps → a.defers = [] →
    (∀ E' w' a', Good E' h' w' → Evol E.n E h w E' h' w' → RepT E' ts' a'.tmps → a'.defers = [] → Q .normal a' w') → wpList P ops Q l a w
  | [], ts, h, scr, ob, ts', h', scr', he, ho, E, w, a, Q, g, hr, hd, hq => by
    have he' : some (([] : List Prop), ts, h, scr) = some (ob, ts', h', scr') := he
    simp only [Option.some.injEq, Prod.mk.injEq] at he'
    obtain ⟨_, rfl, rfl, _⟩ := he'
    exact hq E w a g (.refl E h w (Nat.le_refl _)) hr hd
  | o :: rest, ts, h, scr, ob, ts', h', scr', he, ho, E, w, a, Q, g, hr, hd, hq => by
    have he' : evOne P ev ops o (evOps P ev ops rest) ts h scr = some (ob, ts', h', scr') := he
    unfold evOne at he'
    split at he'
    · simp at he'
    · rename_i ob0 ts1 scr1 hg
      obtain ⟨ob2, h2, rfl⟩ := addObs_some he'
      obtain ⟨o1, o2⟩ := ho.append
      obtain ⟨w1, w2⟩ := evGuard_sound hr hg o1
      unfold wpList
      rw [if_neg (by rw [w1]; simp)]
      exact evOps_sound hev ops rest _ _ _ _ _ _ _ h2 o2 E w _ Q g (putD_rep w2 (rep_undef E)) (by rw [put_defers]; exact hd) hq
    · rename_i ob0 ts1 scr1 hg
      have key : ∀ v h1 scr2 ob1, OpNext P E h w o a v h1 → addObs ob0 (addObs ob1 (evOps P ev ops rest (putD ts1 o.dst v) h1 scr2)) = some (ob, ts', h', scr') → AllP ob0 → (AllP ob1 → OpNext P E h w o a v h1) → RepT E ts1 a.tmps → Region.wanted o (yielded ops a.tmps) = true → wpList P ops Q (o :: rest) a w := by
        intro v h1 scr2 ob1 hnx hadd _ _ hr1 hw1
        obtain ⟨ob2, h2, rfl⟩ := addObs_some hadd
        obtain ⟨ob3, h3, rfl⟩ := addObs_some h2
        obtain ⟨o1, o2⟩ := ho.append
        obtain ⟨o3, o4⟩ := o2.append
        unfold wpList
        rw [if_pos hw1]
        refine .inl (hnx _ Q fun E' w' v' g' ev' rv => ?_)
        refine evOps_sound hev ops rest _ _ _ _ _ _ _ h3 o4 E' w' _ Q g' (putD_rep (hr1.mono ev'.agree) rv) (by rw [put_defers]; exact hd) ?_
        intro E2 w2 a2 g2 ev2 r2 d2
        exact hq E2 w2 a2 g2 (ev'.trans ev2 ev'.agree.n) r2 d2
      have fin : ∀ v h1 scr2 ob1, (AllP ob1 → OpNext P E h w o a v h1) → addObs ob0 (addObs ob1 (evOps P ev ops rest (putD ts1 o.dst v) h1 scr2)) = some (ob, ts', h', scr') → wpList P ops Q (o :: rest) a w := by
        intro v h1 scr2 ob1 hnx hadd
        obtain ⟨ob2, h2, e2⟩ := addObs_some hadd
        obtain ⟨ob3, h3, e3⟩ := addObs_some h2
        rw [e2, e3] at ho
        obtain ⟨o1, o2⟩ := ho.append
        obtain ⟨o3, o4⟩ := o2.append
        obtain ⟨w1, w2⟩ := evGuard_sound hr hg o1
        exact key v h1 scr2 ob1 (hnx o3) hadd o1 hnx w2 w1
      have hr1 : ∀ {ob9 : List Prop}, AllP (ob0 ++ ob9) → RepT E ts1 a.tmps := fun ha => (evGuard_sound hr hg ha.append.1).2
      split at he'
      · rename_i ob1 v h1 scr2 hany
        refine fin v h1 scr2 ob1 (fun ho1 => any_next hev g ?_ hany ho1) he'
        obtain ⟨ob2, h2, e2⟩ := addObs_some he'
        rw [e2] at ho
        exact hr1 ho
      · simp at he'

theorem evCond_sound {scr s : Script} {b c : Bool} {ob : List Prop} (he : evCond scr b = some (ob, c, s)) (ho : AllP ob) : b = c := by
  unfold evCond at he
  split at he
  · simp only [Option.some.injEq, Prod.mk.injEq] at he
    obtain ⟨rfl, rfl, _⟩ := he
    exact ho.1
  all_goals split at he <;> simp only [Option.some.injEq, Prod.mk.injEq] at he <;> exact he.2.1

theorem evLoop_sound {m : Nat} {c : Code} {f : Tm → AHeap → Script → Res} (hf : ∀ ts h scr ob ex ts' h' scr', f ts h scr = some (ob, ex, ts', h', scr') → AllP ob → AComes P m c ts h ex ts' h') :
    ∀ n ts h scr ob ex ts' h' scr', evLoop f n ts h scr = some (ob, ex, ts', h', scr') → AllP ob → AComes P m (.loop c) ts h ex ts' h' := by
  intro n ts h scr ob ex ts' h' scr' he ho
  refine ATrip.loop (fun k ts h => ∃ scr ob scr', evLoop f k ts h scr = some (ob, ex, ts', h', scr') ∧ AllP ob) n ⟨scr, ob, scr', he, ho⟩ ?_
  clear he ho scr ob scr'
  rintro k ts h ⟨scr, ob, scr', he, ho⟩
  cases k with
  | zero => exact absurd he (by simp [evLoop])
  | succ k =>
    have he' : (match f ts h scr with | some (ob, .normal, ts1, h1, scr1) => addObsR ob (evLoop f k ts1 h1 scr1) | r => r) = some (ob, ex, ts', h', scr') := he
    split at he'
    · rename_i ob0 ts1 h1 scr1 hb
      obtain ⟨ob2, h2, rfl⟩ := addObsR_some he'
      obtain ⟨o1, o2⟩ := ho.append
      refine (hf _ _ _ _ _ _ _ _ hb o1).mono ?_
      rintro e t q ⟨rfl, rfl, rfl⟩
      exact ⟨k, Nat.lt_succ_self _, scr1, ob2, scr', h2, o2⟩
    · rename_i hne
      refine (hf _ _ _ _ _ _ _ _ he' ho).mono ?_
      rintro e t q ⟨rfl, rfl, rfl⟩
      cases e with
      | normal => exact absurd he' (hne _ _ _ _)
      | _ => exact ⟨rfl, rfl, rfl⟩

end
end Go.AX

namespace Go.AX

def okId1 (p : Nat → Bool) : Value → Bool
  | .pointer (some a) => p a.block
  | .slice (some a) _ _ => p a.block
  | .map (some i) => p i
  | .agg _ | .tuple _ | .func .. | .iface .. => false
  | _ => true

def okId2 (p : Nat → Bool) : Value → Bool
  | .agg ⟨l⟩ => l.all (okId1 p)
  | .func _ ⟨f⟩ ⟨c⟩ => f.all (okId1 p) && c.all (okId1 p)
  | .iface _ v => okId1 p v
  | v => okId1 p v

def okIds (p : Nat → Bool) : Value → Bool
  | .tuple ⟨l⟩ => l.all (okId2 p)
  | v => okId2 p v

def okObj (p : Nat → Bool) : AObj → Bool
  | .cells vs _ _ | .row vs _ _ | .ro vs _ => vs.all (okIds p)
  | .mp es => es.all fun x => okIds p x.1 && okIds p x.2
  | .gone => true
structure Env.On (p : Nat → Bool) (E F : Env) : Prop where
  n : ∀ i, p i = true → i < F.n
  blk : ∀ i, p i = true → F.blk i = E.blk i
  off : ∀ i, p i = true → F.off i = E.off i
  csz : ∀ i, p i = true → F.csz i = E.csz i
  esz : ∀ i, p i = true → F.esz i = E.esz i

section
variable {E F : Env} {p : Nat → Bool}

theorem rep_on1 (hE : Env.On p E F) {v v' : Value} (ho : okId1 p v = true) (h : Rep E v v') : Rep F v v' := by
  cases h with
  | ptr i o hi => have hp : p i = true := ho; rw [← hE.blk i hp, ← hE.off i hp]; exact .ptr i o (hE.n i hp)
  | slX i o n c a' hi ha hn hc => have hp : p i = true := ho; exact .slX i o n c a' (hE.n i hp) (by rw [hE.blk i hp, hE.off i hp]; exact ha) hn hc
  | slU i n c' hi h0 hn hz =>
    have hp : p i = true := ho
    rw [← hE.blk i hp, ← hE.off i hp]
    exact .slU i n c' (hE.n i hp) h0 hn (by rw [hE.off i hp, hE.csz i hp, hE.esz i hp]; exact hz)
  | slE i hi => have hp : p i = true := ho; exact .slE i (hE.n i hp)
  | slR i o n c' a' hi ha hn => have hp : p i = true := ho; exact .slR i o n c' a' (hE.n i hp) (by rw [hE.blk i hp, hE.off i hp]; exact ha) hn
  | map i hi => have hp : p i = true := ho; rw [← hE.blk i hp]; exact .map i (hE.n i hp)
  | func => exact Bool.noConfusion ho
  | iface => exact Bool.noConfusion ho
  | agg => exact Bool.noConfusion ho
  | tuple => exact Bool.noConfusion ho
  | junk => exact .junk _
  | _ => constructor

theorem repL_on1 (hE : Env.On p E F) : ∀ {l l' : List Value}, l.all (okId1 p) = true → RepL E l l' → RepL F l l'
  | _, _, _, .nil => .nil
  | _, _, ho, .cons _ _ _ _ h t => by
    simp only [List.all_cons, Bool.and_eq_true] at ho
    exact .cons _ _ _ _ (rep_on1 hE ho.1 h) (repL_on1 hE ho.2 t)

theorem rep_on2 (hE : Env.On p E F) {v v' : Value} (ho : okId2 p v = true) (h : Rep E v v') : Rep F v v' := by
  cases h with
  | func fn f c f' c' hf hc =>
    simp only [okId2, Bool.and_eq_true] at ho
    exact .func fn f c f' c' (repL_on1 hE ho.1 hf) (repL_on1 hE ho.2 hc)
  | iface t v v' h => exact .iface t v v' (rep_on1 hE ho h)
  | agg c c' h => exact .agg c c' (repL_on1 hE ho h)
  | tuple => exact Bool.noConfusion ho
  | junk => exact .junk _
  | ptr i o hi => exact rep_on1 hE (v := .pointer (some ⟨i, o, none⟩)) ho (.ptr i o hi)
  | slX i o n c a' hi ha hn hc => exact rep_on1 hE (v := .slice (some ⟨i, o, none⟩) n c) ho (.slX i o n c a' hi ha hn hc)
  | slU i n c' hi h0 hn hz => exact rep_on1 hE (v := .slice (some ⟨i, 0, none⟩) n UNK) ho (.slU i n c' hi h0 hn hz)
  | slE i hi => exact rep_on1 hE (v := .slice (some ⟨i, 0, none⟩) 0 UNK) ho (.slE i hi)
  | slR i o n c' a' hi ha hn => exact rep_on1 hE (v := .slice (some ⟨i, o, none⟩) n UNR) ho (.slR i o n c' a' hi ha hn)
  | map i hi => exact rep_on1 hE (v := .map (some i)) ho (.map i hi)
  | _ => constructor

theorem repL_on2 (hE : Env.On p E F) : ∀ {l l' : List Value}, l.all (okId2 p) = true → RepL E l l' → RepL F l l'
  | _, _, _, .nil => .nil
  | _, _, ho, .cons _ _ _ _ h t => by
    simp only [List.all_cons, Bool.and_eq_true] at ho
    exact .cons _ _ _ _ (rep_on2 hE ho.1 h) (repL_on2 hE ho.2 t)

theorem rep_on (hE : Env.On p E F) {v v' : Value} (ho : okIds p v = true) (h : Rep E v v') : Rep F v v' := by
  have other : okId2 p v = true → Rep F v v' := fun h2 => rep_on2 hE h2 h
  cases v with
  | tuple c =>
    obtain ⟨l⟩ := c
    have hl : l.all (okId2 p) = true := ho
    generalize hv : Value.tuple ⟨l⟩ = u at h
    cases h with
    | tuple c c' h =>
      simp only [Value.tuple.injEq, Array.mk.injEq] at hv
      subst hv
      exact .tuple _ _ (repL_on2 hE hl h)
    | junk => exact .junk _
    | _ => exact absurd hv (by simp)
  | _ => exact other ho

theorem repL_on (hE : Env.On p E F) : ∀ {l l' : List Value}, l.all (okIds p) = true → RepL E l l' → RepL F l l'
  | _, _, _, .nil => .nil
  | _, _, ho, .cons _ _ _ _ h t => by
    simp only [List.all_cons, Bool.and_eq_true] at ho
    exact .cons _ _ _ _ (rep_on hE ho.1 h) (repL_on hE ho.2 t)

theorem repM_on (hE : Env.On p E F) {l : List (Value × Value)} {l' : List MapEntry} (ho : (l.all fun x => okIds p x.1 && okIds p x.2) = true) (h : RepM E l l') : RepM F l l' := by
  induction h with
  | nil => exact .nil
  | cons k v e l l' hk hv _ ih =>
    simp only [List.all_cons, Bool.and_eq_true] at ho
    exact .cons k v e l l' (rep_on hE ho.1.1 hk) (rep_on hE ho.1.2 hv) (ih (by simpa using ho.2))
theorem holds_on (hE : Env.On p E F) {w w' : World} {i : Nat} {o : AObj} (hi : F.blk i = E.blk i ∧ F.off i = E.off i ∧ F.csz i = E.csz i ∧ F.esz i = E.esz i) (ho : okObj p o = true) (h : Holds E w i o)
    (hw : o.live → w'.heap[E.blk i]? = w.heap[E.blk i]?) : Holds F w' i o := by
  obtain ⟨e1, e2, e3, e4⟩ := hi
  cases o with
  | cells vs e sz =>
    obtain ⟨c, h1, h2, h3, h4, h5⟩ := h
    exact ⟨c, by rw [e1, hw trivial, h1], by rw [e2, h2], by rw [e3, h3], by rw [e4, h4], repL_on hE ho h5⟩
  | row vs e sz =>
    refine ⟨by rw [e4, h.1], fun hv => ?_⟩
    obtain ⟨c, h1, h2, h3, h4, h5⟩ := h.2 hv
    exact ⟨c, by rw [e1, hw hv, h1], by rw [e2, h2], by rw [e3, h3], h4, repL_on hE ho h5⟩
  | ro vs sz =>
    refine ⟨by rw [e4, h.1], fun k v hk => ?_⟩
    obtain ⟨v', h1, h2⟩ := h.2 k v hk
    have hv : vs ≠ [] := fun e => by subst e; simp at hk
    refine ⟨v', ?_, rep_on hE (List.all_eq_true.1 ho v (List.mem_of_getElem? hk)) h2⟩
    rw [e1, e2, World.cell?_of_block (w := w) (hw hv)]; exact h1
  | mp es =>
    obtain ⟨c, k, h1, h2, h3⟩ := h
    exact ⟨c, k, by rw [e1, hw trivial, h1], repM_on hE ho h2, h3⟩
  | gone => trivial
end

def Env.tr (E : Env) (m : Nat) : Env := { E with n := m }

mutual
theorem Rep.tr {E F : Env} : ∀ {v v' u : Value}, Rep E v v' → Rep F v u → Rep (E.tr F.n) v v'
  | _, _, _, .bool b, _ => .bool b
  | _, _, _, .int k n, _ => .int k n
  | _, _, _, .float k n, _ => .float k n
  | _, _, _, .str s, _ => .str s
  | _, _, _, .nilptr, _ => .nilptr
  | _, _, _, .ptr i o hi, h => .ptr (E := E.tr F.n) i o (by cases h; assumption)
  | _, _, _, .nilsl, _ => .nilsl
  | _, _, _, .slX i o n c a' hi ha hn hc, h => .slX (E := E.tr F.n) i o n c a' (by cases h <;> assumption) ha hn hc
  | _, _, _, .slU i n c' hi h0 hn hz, h => .slU (E := E.tr F.n) i n c' (by obtain ⟨_, _, _, q, _⟩ := slOf_rep h; exact q.1) h0 hn hz
  | _, _, _, .slE i hi, h => .slE (E := E.tr F.n) i (by obtain ⟨_, _, _, q, _⟩ := slOf_rep h; exact q.1)
  | _, _, _, .slR i o n c' a' hi ha hn, h => .slR (E := E.tr F.n) i o n c' a' (by obtain ⟨_, _, _, q, _⟩ := slOf_rep h; exact q.1) ha hn
  | _, _, _, .nilmap, _ => .nilmap
  | _, _, _, .map i hi, h => .map (E := E.tr F.n) i (by cases h; assumption)
  | _, _, _, .nilfunc, _ => .nilfunc
  | _, _, _, .func fn f c f' c' hf hc, h => by
    cases h with
    | func _ _ _ f2 c2 hf2 hc2 => exact .func fn f c f' c' (RepL.tr hf hf2) (RepL.tr hc hc2)
  | _, _, _, .nilif, _ => .nilif
  | _, _, _, .iface t v v' h1, h => by
    cases h with
    | iface _ _ _ h2 => exact .iface t v v' (Rep.tr h1 h2)
  | _, _, _, .agg c c' h1, h => by
    cases h with
    | agg _ _ h2 => exact .agg c c' (RepL.tr h1 h2)
  | _, _, _, .tuple c c' h1, h => by
    generalize hv : Value.tuple ⟨c⟩ = v at h
    cases h with
    | tuple c2 _ h2 =>
      simp only [Value.tuple.injEq, Array.mk.injEq] at hv
      subst hv
      exact .tuple c c' (RepL.tr h1 h2)
    | junk =>
      simp only [junk, Value.tuple.injEq, Array.mk.injEq] at hv
      subst hv
      exact .junk _
    | _ => exact absurd hv (by simp)
  | _, _, _, .junk v', _ => .junk v'
theorem RepL.tr {E F : Env} : ∀ {l l' m : List Value}, RepL E l l' → RepL F l m → RepL (E.tr F.n) l l'
  | _, _, _, .nil, _ => .nil
  | _, _, _, .cons v v' l l' h t, k => by
    cases k with
    | cons _ _ _ _ h2 t2 => exact .cons v v' l l' (Rep.tr h h2) (RepL.tr t t2)
end

theorem RepM.tr {E F : Env} {l : List (Value × Value)} {l' m : List MapEntry} (h : RepM E l l') (k : RepM F l m) : RepM (E.tr F.n) l l' := by
  induction h generalizing m with
  | nil => exact .nil
  | cons a v e l l' hk hv _ ih =>
    cases k with
    | cons _ _ e2 _ m2 hk2 hv2 t2 => exact .cons a v e l l' (hk.tr hk2) (hv.tr hv2) (ih t2)

theorem Holds.tr {E F : Env} {w w0 : World} {i j : Nat} {o : AObj} (h : Holds E w i o) (k : Holds F w0 j o) : Holds (E.tr F.n) w i o := by
  cases o with
  | cells vs e sz =>
    obtain ⟨c, h1, h2, h3, h4, h5⟩ := h
    obtain ⟨c2, _, _, _, _, k5⟩ := k
    exact ⟨c, h1, h2, h3, h4, h5.tr k5⟩
  | row vs e sz =>
    refine ⟨h.1, fun hv => ?_⟩
    obtain ⟨c, h1, h2, h3, h4, h5⟩ := h.2 hv
    obtain ⟨c2, _, _, _, _, k5⟩ := k.2 hv
    exact ⟨c, h1, h2, h3, h4, h5.tr k5⟩
  | ro vs sz =>
    refine ⟨h.1, fun q v hq => ?_⟩
    obtain ⟨v', h1, h2⟩ := h.2 q v hq
    obtain ⟨u, _, k2⟩ := k.2 q v hq
    exact ⟨v', h1, h2.tr k2⟩
  | mp es =>
    obtain ⟨c, q, h1, h2, h3⟩ := h
    obtain ⟨c2, _, _, k2, _⟩ := k
    exact ⟨c, q, h1, h2.tr k2, h3⟩
  | gone => trivial
theorem holds_agree {E F : Env} {w : World} {i : Nat} {o : AObj} (hE : Env.Agree E.n E F) (hi : i < E.n) (h : Holds E w i o) : Holds F w i o := h.mono hE hi (fun _ => rfl)

end Go.AX

namespace Go.AX
structure PSt where
  i : Nat
  e : Nat
  sz : Nat
  old : List Value
  new : List Value
structure FStep where
  o : Oper
  go : Bool
  v : Value
  new : AHeap
  pst : Option PSt

def maskOne (b : Bool) (s : AHeap) : AHeap :=
  match b with
  | true => s
  | false => s.map fun _ => AObj.gone

theorem maskOne_length (b : Bool) (s : AHeap) : (maskOne b s).length = s.length := by cases b <;> simp [maskOne]

def maskSegs (keep : Nat → Bool) : Nat → List AHeap → AHeap
  | _, [] => []
  | k, s :: r => maskOne (keep k) s ++ maskSegs keep (k + 1) r

def offs : List AHeap → Nat → Nat
  | _, 0 => 0
  | [], _ + 1 => 0
  | s :: r, k + 1 => s.length + offs r k

theorem maskSegs_length (keep keep' : Nat → Bool) : ∀ (k k' : Nat) (l : List AHeap), (maskSegs keep k l).length = (maskSegs keep' k' l).length
  | _, _, [] => rfl
  | k, k', s :: r => by
    simp only [maskSegs, List.length_append, maskOne_length]
    rw [maskSegs_length keep keep' (k + 1) (k' + 1) r]

theorem maskSegs_len (keep : Nat → Bool) : ∀ (k : Nat) (l : List AHeap), (maskSegs keep k l).length = offs l l.length
  | _, [] => rfl
  | k, s :: r => by
    simp only [maskSegs, List.length_append, List.length_cons, offs, maskSegs_len keep (k + 1) r, maskOne_length]
theorem maskSegs_get (keep : Nat → Bool) : ∀ (k0 : Nat) (l : List AHeap) (i : Nat) (o : AObj), (maskSegs keep k0 l)[i]? = some o → o = .gone ∨
    ∃ k q s, keep (k0 + k) = true ∧ l[k]? = some s ∧ s[q]? = some o ∧ i = offs l k + q
  | _, [], i, o, h => by simp [maskSegs] at h
  | k0, s :: r, i, o, h => by
    simp only [maskSegs, List.getElem?_append, maskOne_length] at h
    split at h
    · rename_i hi
      cases hk : keep k0 with
      | true =>
        rw [hk] at h
        exact .inr ⟨0, i, s, by simpa using hk, by simp, h, by simp [offs]⟩
      | false =>
        rw [hk] at h
        simp only [maskOne, List.getElem?_map] at h
        cases hs : s[i]? with
        | none => rw [hs] at h; simp at h
        | some x => rw [hs] at h; simp at h; exact .inl h.symm
    · rename_i hi
      rcases maskSegs_get keep (k0 + 1) r _ o h with e | ⟨k, q, s', h1, h2, h3, h4⟩
      · exact .inl e
      · exact .inr ⟨k + 1, q, s', by rw [← h1]; congr 1; omega, by simpa using h2, h3, by simp only [offs]; omega⟩

theorem maskSegs_at (keep : Nat → Bool) : ∀ (k0 : Nat) (l : List AHeap) (k q : Nat) (s : AHeap) (o : AObj), keep (k0 + k) = true → l[k]? = some s → s[q]? = some o → (maskSegs keep k0 l)[offs l k + q]? = some o
  | _, [], k, q, s, o, _, h, _ => by simp at h
  | k0, t :: r, 0, q, s, o, hk, hs, ho => by
    simp only [List.getElem?_cons_zero, Option.some.injEq] at hs
    subst hs
    simp only [maskSegs, offs, Nat.zero_add]
    rw [show keep k0 = true from hk, List.getElem?_append_left (by rw [maskOne_length]; exact (List.getElem?_eq_some_iff.1 ho).1)]
    exact ho
  | k0, t :: r, k + 1, q, s, o, hk, hs, ho => by
    simp only [List.getElem?_cons_succ] at hs
    have hlen := maskOne_length (keep k0) t
    simp only [maskSegs, offs]
    rw [List.getElem?_append_right (by rw [hlen]; omega), hlen, show t.length + offs r k + q - t.length = offs r k + q by omega]
    exact maskSegs_at keep (k0 + 1) r k q s o (by rw [← hk]; congr 1; omega) hs ho

theorem offs_mono : ∀ (l : List AHeap) (j k : Nat), j ≤ k → offs l j ≤ offs l k
  | [], 0, _, _ => by simp [offs]
  | [], j + 1, 0, h => by omega
  | [], j + 1, k + 1, _ => by simp [offs]
  | _ :: _, 0, _, _ => by simp [offs]
  | s :: r, j + 1, 0, h => by omega
  | s :: r, j + 1, k + 1, h => by simp only [offs]; have := offs_mono r j k (by omega); omega

theorem offs_succ : ∀ (l : List AHeap) (k : Nat) (s : AHeap), l[k]? = some s → offs l (k + 1) = offs l k + s.length
  | [], k, s, h => by simp at h
  | t :: r, 0, s, h => by simp only [List.getElem?_cons_zero, Option.some.injEq] at h; subst h; simp [offs]
  | t :: r, k + 1, s, h => by
    simp only [List.getElem?_cons_succ] at h
    have := offs_succ r k s h
    simp only [offs] at this ⊢
    omega

theorem offs_take : ∀ (l : List AHeap) (j k : Nat), k ≤ j → offs (l.take j) k = offs l k
  | _, _, 0, _ => by simp [offs]
  | [], j, k + 1, _ => by simp [offs]
  | s :: r, 0, k + 1, h => by omega
  | s :: r, j + 1, k + 1, h => by simp only [List.take_succ_cons, offs]; rw [offs_take r j k (by omega)]
def ownerOf (base : Nat) (segs : List AHeap) (i k : Nat) (s : AHeap) : Prop := segs[k]? = some s ∧ base + offs segs k ≤ i ∧ i < base + offs segs k + s.length

theorem ownerOf_eq {base : Nat} {segs : List AHeap} {i k k' : Nat} {s s' : AHeap} (h : ownerOf base segs i k s) (h' : ownerOf base segs i k' s') : k = k' := by
  rcases Nat.lt_trichotomy k k' with e | e | e
  · have h1 := offs_succ segs k s h.1
    have h2 := offs_mono segs (k + 1) k' e
    have := h.2.2; have := h'.2.1
    omega
  · exact e
  · have h1 := offs_succ segs k' s' h'.1
    have h2 := offs_mono segs (k' + 1) k e
    have := h'.2.2; have := h.2.1
    omega
def PrivOk (P : Program) (ops : Array Oper) (T : Tm) (w : World) (s : FStep) (a : Act) (p : PSt) : Prop :=
  s.go = true ∧ s.new = [] ∧
  ∀ (E : Env), (∀ x, x ∈ s.o.looksAt ops → Rep E (T.get x) (a.tmps.getD x undef)) → ∀ (h : AHeap), Good E h w → h[p.i]? = some (.cells p.old p.e p.sz) → OpNext P E h w s.o a s.v (h.set p.i (.cells p.new p.e p.sz))
structure Front (P : Program) (ops : Array Oper) (T0 : Tm) (H0 : AHeap) (st : List FStep) (pre : Nat → Nat → Bool) : Prop where
  at_ : ∀ (j : Nat) (s : FStep), st[j]? = some s → ops[j]? = some s.o
  lt : ∀ j k, pre j k = true → k < j
  lex : ∃ T : Nat → Tm, T 0 = T0 ∧ (∀ (j : Nat) (s : FStep), st[j]? = some s → T (j + 1) = putD (T j) s.o.dst s.v) ∧
    ∀ (j : Nat) (s : FStep), st[j]? = some s → ∀ (E : Env) (w : World) (a : Act),
      Good E (H0 ++ maskSegs (pre j) 0 ((st.map (·.new)).take j)) w → (∀ x, x ∈ s.o.looksAt ops → Rep E ((T j).get x) (a.tmps.getD x undef)) → (T j).n = a.tmps.size →
      Region.wanted s.o (yielded ops a.tmps) = s.go ∧
      (s.go = true → s.pst = none → OpNext P E (H0 ++ maskSegs (pre j) 0 ((st.map (·.new)).take j)) w s.o a s.v ((H0 ++ maskSegs (pre j) 0 ((st.map (·.new)).take j)) ++ s.new)) ∧
      (s.go = false → s.v = undef ∧ s.new = []) ∧ (∀ p, s.pst = some p → PrivOk P ops (T j) w s a p)
  n : T0.n ≤ 4000
  apart : ∀ (i j : Nat) (si sj : FStep), i < j → st[i]? = some si → st[j]? = some sj → pre j i = true ∨ si.o.apart ops sj.o = true
  ids : ∀ (j : Nat) (s : FStep), st[j]? = some s → ∃ p : Nat → Bool, okIds p s.v = true ∧ (∀ o ∈ s.new, okObj p o = true ∧ (o.live → o.own)) ∧
    ∀ i, p i = true → i < H0.length ∨ ∃ k sk, (k = j ∨ pre j k = true) ∧ ownerOf H0.length (st.map (·.new)) i k sk
structure FInv (st : List FStep) (T0 : Tm) (H0 Hf : AHeap) (E0 : Env) (w0 : World) (S : Nat → Bool) (E : Env) (a : Act) (w : World) : Prop where
  n : E.n = H0.length + offs (st.map (·.new)) st.length
  base : ∀ (i : Nat) (o : AObj), H0[i]? = some o → Holds (E.tr H0.length) w i o
  news : ∀ (k : Nat) (s : FStep) (q : Nat) (o : AObj), S k = true → st[k]? = some s → s.new[q]? = some o → Holds E w (H0.length + offs (st.map (·.new)) k + q) o
  apart : ∀ (i j : Nat) (o u : AObj), (H0 ++ maskSegs S 0 (st.map (·.new)))[i]? = some o → (H0 ++ maskSegs S 0 (st.map (·.new)))[j]? = some u → o.own → u.live → i ≠ j → E.blk i ≠ E.blk j
  agree : Env.Agree H0.length E0 E
  frame : ∀ b, b < w0.heap.size → ¬ Owned E0 Hf b → w.heap[b]? = w0.heap[b]?
  own : ∀ b, Owned E (H0 ++ maskSegs S 0 (st.map (·.new))) b → w0.heap.size ≤ b ∨ Owned E0 Hf b
  size : w0.heap.size ≤ w.heap.size
  os : w.os = w0.os
  tape : Calm w0 w
  output : w.output = w0.output
  tn : T0.n = a.tmps.size
  ts : ∀ x, x < a.tmps.size → (∃ (k : Nat) (s : FStep), S k = true ∧ st[k]? = some s ∧ s.o.dst = some x ∧ (∀ (k' : Nat) (s' : FStep), k < k' → S k' = true → st[k']? = some s' → s'.o.dst ≠ some x) ∧ Rep E s.v (a.tmps.getD x undef)) ∨
    ((∀ (k : Nat) (s : FStep), S k = true → st[k]? = some s → s.o.dst ≠ some x) ∧ Rep (E.tr H0.length) (T0.get x) (a.tmps.getD x undef))
  hi : ∀ x, a.tmps.size ≤ x → Rep (E.tr H0.length) (T0.get x) undef
  defers : a.defers = []

section
variable {P : Program} {ops : Array Oper} {T0 : Tm} {H0 Hf : AHeap} {st : List FStep} {pre : Nat → Nat → Bool}
theorem lex_get {T : Nat → Tm} (h0 : T 0 = T0) (h1 : ∀ (j : Nat) (s : FStep), st[j]? = some s → T (j + 1) = putD (T j) s.o.dst s.v) (hn : T0.n ≤ 4000) : ∀ (j : Nat), j ≤ st.length → (T j).n = T0.n ∧ (∀ x, T0.n ≤ x → (T j).get x = T0.get x) ∧ ∀ x, x < T0.n →
    (∃ (k : Nat) (s : FStep), k < j ∧ st[k]? = some s ∧ s.o.dst = some x ∧ (∀ (k' : Nat) (s' : FStep), k < k' → k' < j → st[k']? = some s' → s'.o.dst ≠ some x) ∧ (T j).get x = s.v) ∨ ((∀ (k : Nat) (s : FStep), k < j → st[k]? = some s → s.o.dst ≠ some x) ∧ (T j).get x = T0.get x)
  | 0, _ => ⟨by rw [h0], fun x _ => by rw [h0], fun x _ => .inr ⟨fun k s h => absurd h (by omega), by rw [h0]⟩⟩
  | j + 1, hj => by
    have hs : st[j]? = some st[j] := List.getElem?_eq_getElem (by omega)
    obtain ⟨ih1, ih0, ih2⟩ := lex_get h0 h1 hn j (by omega)
    rw [h1 j _ hs]
    refine ⟨?_, fun x hx => ?_, fun x hx => ?_⟩
    · unfold putD
      split
      · exact ih1
      · rw [Tm.put_n]; exact ih1
    · unfold putD
      split
      · exact ih0 x hx
      · rw [Tm.get_put _ _ _ _ (by omega), if_neg (by omega)]; exact ih0 x hx
    · by_cases hd : st[j].o.dst = some x
      · refine .inl ⟨j, st[j], by omega, hs, hd, fun k' s' q1 q2 => absurd q1 (by omega), ?_⟩
        rw [hd]
        simp only [putD]
        rw [Tm.get_put _ _ _ _ (by omega), if_pos ⟨rfl, by omega⟩]
      · have hg : (putD (T j) st[j].o.dst st[j].v).get x = (T j).get x := by
          unfold putD
          split
          · rfl
          · rename_i d hd2
            rw [Tm.get_put _ _ _ _ (by omega), if_neg (fun h => hd (by rw [hd2, h.1]))]
        rw [hg]
        rcases ih2 x hx with ⟨k, s, q1, q2, q3, q4, q5⟩ | ⟨q1, q2⟩
        · refine .inl ⟨k, s, by omega, q2, q3, fun k' s' r1 r2 r3 => ?_, q5⟩
          by_cases e : k' = j
          · subst e
            rw [hs] at r3
            rw [← Option.some.inj r3]; exact hd
          · exact q4 k' s' r1 (by omega) r3
        · refine .inr ⟨fun k s r1 r2 => ?_, q2⟩
          by_cases e : k = j
          · subst e
            rw [hs] at r2
            rw [← Option.some.inj r2]; exact hd
          · exact q1 k s (by omega) r2
theorem mask_cases {S : Nat → Bool} {l : List AHeap} {i : Nat} {o : AObj} (h : (H0 ++ maskSegs S 0 l)[i]? = some o) (hl : o ≠ .gone) :
    (i < H0.length ∧ H0[i]? = some o) ∨ ∃ k q s, S k = true ∧ l[k]? = some s ∧ s[q]? = some o ∧ i = H0.length + offs l k + q := by
  rw [List.getElem?_append] at h
  split at h
  · rename_i hi; exact .inl ⟨hi, h⟩
  · rename_i hi
    rcases maskSegs_get S 0 l _ o h with e | ⟨k, q, s, h1, h2, h3, h4⟩
    · exact absurd e hl
    · exact .inr ⟨k, q, s, by simpa using h1, h2, h3, by omega⟩

theorem mask_base {S : Nat → Bool} {l : List AHeap} {i : Nat} {o : AObj} (h : H0[i]? = some o) : (H0 ++ maskSegs S 0 l)[i]? = some o := by
  rw [List.getElem?_append_left (List.getElem?_eq_some_iff.1 h).1]; exact h

theorem mask_new {S : Nat → Bool} {l : List AHeap} {k q : Nat} {s : AHeap} {o : AObj} (hk : S k = true) (hs : l[k]? = some s) (ho : s[q]? = some o) : (H0 ++ maskSegs S 0 l)[H0.length + offs l k + q]? = some o := by
  rw [List.getElem?_append_right (by omega), show H0.length + offs l k + q - H0.length = offs l k + q by omega]
  exact maskSegs_at S 0 l k q s o (by simpa using hk) hs ho

theorem live_ne {o : AObj} (h : o.live) : o ≠ .gone := fun e => by subst e; exact h

theorem holds_lt {E : Env} {w : World} {i : Nat} {o : AObj} (hH : Holds E w i o) (hl : o.live) : E.blk i < w.heap.size := by
  rcases Nat.lt_or_ge (E.blk i) w.heap.size with h' | h'
  · exact h'
  · have hn : w.heap[E.blk i]? = none := Array.getElem?_eq_none h'
    cases o with
    | cells vs e sz => obtain ⟨c, h1, _⟩ := hH; simp [hn] at h1
    | row vs e sz => obtain ⟨c, h1, _⟩ := hH.2 hl; simp [hn] at h1
    | mp es => obtain ⟨c, k, h1, _⟩ := hH; simp [hn] at h1
    | ro vs sz =>
      cases vs with
      | nil => exact absurd rfl hl
      | cons v vs =>
        obtain ⟨v', h1, _⟩ := hH.2 0 v rfl
        simp [World.cell?, hn] at h1
    | gone => exact hl.elim

theorem seg_at {k : Nat} {s : FStep} (h : st[k]? = some s) : (st.map (·.new))[k]? = some s.new := by simp [h]

theorem seg_of {k : Nat} {l : AHeap} (h : (st.map (·.new))[k]? = some l) : ∃ s, st[k]? = some s ∧ s.new = l := by
  simp only [List.getElem?_map, Option.map_eq_some_iff] at h
  exact h
def hmOf (H0 : AHeap) (st : List FStep) (pre : Nat → Nat → Bool) (j : Nat) : AHeap := H0 ++ maskSegs (pre j) 0 ((st.map (·.new)).take j)

theorem hm_length {j : Nat} (hj : j ≤ st.length) : (hmOf H0 st pre j).length = H0.length + offs (st.map (·.new)) j := by
  unfold hmOf
  rw [List.length_append, maskSegs_len, List.length_take, List.length_map, Nat.min_eq_left hj, offs_take _ _ _ (Nat.le_refl _)]

theorem hm_cases (F : Front P ops T0 H0 st pre) {j i : Nat} {o : AObj} (h : (hmOf H0 st pre j)[i]? = some o) (hl : o ≠ .gone) :
    (i < H0.length ∧ H0[i]? = some o) ∨ ∃ k q s, k < j ∧ pre j k = true ∧ st[k]? = some s ∧ s.new[q]? = some o ∧ i = H0.length + offs (st.map (·.new)) k + q := by
  rcases mask_cases h hl with h1 | ⟨k, q, l, h1, h2, h3, h4⟩
  · exact .inl h1
  · have hk := F.lt _ _ h1
    rw [List.getElem?_take_of_lt hk] at h2
    obtain ⟨s, q1, rfl⟩ := seg_of h2
    exact .inr ⟨k, q, s, hk, h1, q1, h3, by rw [offs_take _ _ _ (by omega)] at h4; exact h4⟩

theorem hm_in (F : Front P ops T0 H0 st pre) {S : Nat → Bool} {j i : Nat} {o : AObj} (hpre : ∀ k, pre j k = true → S k = true) (h : (hmOf H0 st pre j)[i]? = some o) (hl : o ≠ .gone) : (H0 ++ maskSegs S 0 (st.map (·.new)))[i]? = some o := by
  rcases hm_cases F h hl with ⟨_, h1⟩ | ⟨k, q, s, h0, h1, h2, h3, rfl⟩
  · exact mask_base h1
  · exact mask_new (hpre k h1) (seg_at h2) h3

theorem hm_at {j k q : Nat} {s : FStep} {o : AObj} (hk : k < j) (hp : pre j k = true) (hs : st[k]? = some s) (ho : s.new[q]? = some o) : (hmOf H0 st pre j)[H0.length + offs (st.map (·.new)) k + q]? = some o := by
  have := mask_new (H0 := H0) (S := pre j) (l := (st.map (·.new)).take j) (k := k) (q := q) (s := s.new) (o := o) hp (by rw [List.getElem?_take_of_lt hk]; exact seg_at hs) ho
  rw [offs_take _ _ _ (by omega)] at this
  exact this
theorem ids_lt (F : Front P ops T0 H0 st pre) {k : Nat} {p : Nat → Bool} (hp : ∀ i, p i = true → i < H0.length ∨ ∃ k' sk, (k' = k ∨ pre k k' = true) ∧ ownerOf H0.length (st.map (·.new)) i k' sk) {i : Nat} (hi : p i = true) (j : Nat) (hj : k < j) :
    i < H0.length + offs (st.map (·.new)) j := by
  rcases hp i hi with h | ⟨k', sk, h1, h2⟩
  · omega
  · have hk' : k' ≤ k := by
      rcases h1 with h | h
      · omega
      · exact Nat.le_of_lt (F.lt _ _ h)
    have e1 := offs_succ _ _ _ h2.1
    have e2 := offs_mono (st.map (·.new)) (k' + 1) j (by omega)
    have := h2.2.2
    omega

theorem good_hm (F : Front P ops T0 H0 st pre) {E0 : Env} {w0 : World} {S : Nat → Bool} {E : Env} {a : Act} {w : World} (I : FInv st T0 H0 Hf E0 w0 S E a w) {j : Nat} (hj : j < st.length)
    (hpre : ∀ k, pre j k = true → S k = true) : Good (E.tr (H0.length + offs (st.map (·.new)) j)) (hmOf H0 st pre j) w := by
  refine ⟨(hm_length (Nat.le_of_lt hj)).symm, fun i o hi => ?_, fun i i' o u hi hi' ho hu hne => ?_⟩
  · by_cases hg : o = .gone
    · subst hg; trivial
    · rcases hm_cases F hi hg with ⟨h1, h2⟩ | ⟨k, q, s, h0, h1, h2, h3, rfl⟩
      · exact holds_agree (E := E.tr H0.length) ⟨Nat.le_add_right _ _, fun _ _ => rfl, fun _ _ => rfl, fun _ _ => rfl, fun _ _ => rfl⟩ h1 (I.base i o h2)
      · obtain ⟨p, p1, p2, p3⟩ := F.ids k s h2
        have hH := I.news k s q o (hpre k h1) h2 h3
        exact holds_on (E := E) (F := E.tr (H0.length + offs (st.map (·.new)) j)) ⟨fun i hi => ids_lt F p3 hi j h0, fun _ _ => rfl, fun _ _ => rfl, fun _ _ => rfl, fun _ _ => rfl⟩ ⟨rfl, rfl, rfl, rfl⟩ (p2 o (List.mem_of_getElem? h3)).1 hH (fun _ => rfl)
  · exact I.apart i i' o u (hm_in F hpre hi (live_ne (own_live ho))) (hm_in F hpre hi' (live_ne hu)) ho hu hne

def mergeE (E E' : Env) (lo hi : Nat) : Env where
  n := E.n
  blk := fun i => if lo ≤ i ∧ i < hi then E'.blk i else E.blk i
  off := fun i => if lo ≤ i ∧ i < hi then E'.off i else E.off i
  csz := fun i => if lo ≤ i ∧ i < hi then E'.csz i else E.csz i
  esz := fun i => if lo ≤ i ∧ i < hi then E'.esz i else E.esz i

theorem mergeE_out {E E' : Env} {lo hi i : Nat} (h : ¬ (lo ≤ i ∧ i < hi)) : (mergeE E E' lo hi).blk i = E.blk i ∧ (mergeE E E' lo hi).off i = E.off i ∧ (mergeE E E' lo hi).csz i = E.csz i ∧ (mergeE E E' lo hi).esz i = E.esz i := by
  simp [mergeE, h]

theorem mergeE_in {E E' : Env} {lo hi i : Nat} (h : lo ≤ i ∧ i < hi) : (mergeE E E' lo hi).blk i = E'.blk i ∧ (mergeE E E' lo hi).off i = E'.off i ∧ (mergeE E E' lo hi).csz i = E'.csz i ∧ (mergeE E E' lo hi).esz i = E'.esz i := by
  simp [mergeE, h]

theorem front_add (F : Front P ops T0 H0 st pre) {E0 : Env} {w0 : World} {S : Nat → Bool} {E : Env} {a : Act} {w : World} (I : FInv st T0 H0 Hf E0 w0 S E a w) {j : Nat} {s : FStep} (hj : st[j]? = some s) (hS : S j = false)
    (hpre : ∀ k, pre j k = true → S k = true) (hclosed : ∀ k, S k = true → pre k j = false) {E' : Env} {w' : World} {v' : Value} (g' : Good E' (hmOf H0 st pre j ++ s.new) w')
    (ev : Evol (H0.length + offs (st.map (·.new)) j) (E.tr (H0.length + offs (st.map (·.new)) j)) (hmOf H0 st pre j) w E' (hmOf H0 st pre j ++ s.new) w') (rv : Rep E' s.v v') :
    FInv st T0 H0 Hf E0 w0 (fun k => S k || Nat.beq k j) (mergeE E E' (H0.length + offs (st.map (·.new)) j) (H0.length + offs (st.map (·.new)) j + s.new.length)) (a.put s.o.dst v') w' := by
  have hjl : j < st.length := (List.getElem?_eq_some_iff.1 hj).1
  have ghm := good_hm F I hjl hpre
  have hml := hm_length (H0 := H0) (pre := pre) (Nat.le_of_lt hjl)
  have hjs := seg_at hj
  have hos := offs_succ _ _ _ hjs
  have hol := offs_mono (st.map (·.new)) (j + 1) st.length hjl
  generalize hpj : H0.length + offs (st.map (·.new)) j = pj at *
  generalize hM : mergeE E E' pj (pj + s.new.length) = M at *
  have hE'n : E'.n = pj + s.new.length := by rw [g'.n, List.length_append, hml]
  have hMn : M.n = E.n := by rw [← hM]; rfl
  have hEn := I.n
  have hag : ∀ i, i < pj → E'.blk i = E.blk i ∧ E'.off i = E.off i ∧ E'.csz i = E.csz i ∧ E'.esz i = E.esz i := fun i hi => ⟨ev.agree.blk i hi, ev.agree.off i hi, ev.agree.csz i hi, ev.agree.esz i hi⟩
  have hMo : ∀ i, ¬ (pj ≤ i ∧ i < pj + s.new.length) → M.blk i = E.blk i ∧ M.off i = E.off i ∧ M.csz i = E.csz i ∧ M.esz i = E.esz i := fun i hi => by rw [← hM]; exact mergeE_out hi
  have hMi : ∀ i, i < pj + s.new.length → M.blk i = E'.blk i ∧ M.off i = E'.off i ∧ M.csz i = E'.csz i ∧ M.esz i = E'.esz i := fun i hi => by
    by_cases h : pj ≤ i
    · rw [← hM]; exact mergeE_in ⟨h, hi⟩
    · obtain ⟨a1, a2, a3, a4⟩ := hMo i (by omega)
      obtain ⟨b1, b2, b3, b4⟩ := hag i (by omega)
      exact ⟨a1.trans b1.symm, a2.trans b2.symm, a3.trans b3.symm, a4.trans b4.symm⟩
  have hbase : H0.length ≤ pj := by omega
  have agM : Env.Agree E'.n E' M := ⟨by omega, fun i hi => (hMi i (by omega)).1, fun i hi => (hMi i (by omega)).2.1, fun i hi => (hMi i (by omega)).2.2.1, fun i hi => (hMi i (by omega)).2.2.2⟩
  have agB : Env.Agree H0.length (E.tr H0.length) (M.tr H0.length) := ⟨Nat.le_refl _, fun i hi => (hMo i (by omega)).1, fun i hi => (hMo i (by omega)).2.1, fun i hi => (hMo i (by omega)).2.2.1, fun i hi => (hMo i (by omega)).2.2.2⟩
  have idx_out : ∀ {k q : Nat} {sk : FStep} {o : AObj}, k ≠ j → st[k]? = some sk → sk.new[q]? = some o → ¬ (pj ≤ H0.length + offs (st.map (·.new)) k + q ∧ H0.length + offs (st.map (·.new)) k + q < pj + s.new.length) := by
    intro k q sk o hk hs ho hc
    have hq := (List.getElem?_eq_some_iff.1 ho).1
    exact hk (ownerOf_eq (base := H0.length) (segs := st.map (·.new)) (i := H0.length + offs (st.map (·.new)) k + q) ⟨seg_at hs, by omega, by omega⟩ ⟨hjs, by omega, by omega⟩)
  have onM : ∀ {k : Nat} {p : Nat → Bool}, S k = true → k < st.length → (∀ i, p i = true → i < H0.length ∨ ∃ k' sk, (k' = k ∨ pre k k' = true) ∧ ownerOf H0.length (st.map (·.new)) i k' sk) → Env.On p E M := by
    intro k p hk hkl hp
    have hout : ∀ i, p i = true → ¬ (pj ≤ i ∧ i < pj + s.new.length) := by
      intro i hi hc
      rcases hp i hi with h | ⟨k', sk, h1, h2⟩
      · omega
      · have := ownerOf_eq h2 (⟨hjs, by omega, by omega⟩ : ownerOf H0.length (st.map (·.new)) i j s.new)
        subst this
        rcases h1 with rfl | h1
        · rw [hS] at hk; exact Bool.noConfusion hk
        · rw [hclosed k hk] at h1; exact Bool.noConfusion h1
    refine ⟨fun i hi => ?_, fun i hi => (hMo i (hout i hi)).1, fun i hi => (hMo i (hout i hi)).2.1, fun i hi => (hMo i (hout i hi)).2.2.1, fun i hi => (hMo i (hout i hi)).2.2.2⟩
    have := ids_lt F hp hi (k + 1) (Nat.lt_succ_self _)
    have := offs_mono (st.map (·.new)) (k + 1) st.length hkl
    omega
  have hm' : ∀ {i : Nat} {o : AObj}, (hmOf H0 st pre j)[i]? = some o → (hmOf H0 st pre j ++ s.new)[i]? = some o := fun h => by
    rw [List.getElem?_append_left (List.getElem?_eq_some_iff.1 h).1]; exact h
  have hnew : ∀ {q : Nat} {o : AObj}, s.new[q]? = some o → (hmOf H0 st pre j ++ s.new)[pj + q]? = some o := fun h => by
    rw [List.getElem?_append_right (by omega), hml, Nat.add_sub_cancel_left]; exact h
  -- what is there now
  have look : ∀ {i : Nat} {o : AObj}, (H0 ++ maskSegs (fun k => S k || Nat.beq k j) 0 (st.map (·.new)))[i]? = some o → o ≠ .gone →
      ((H0 ++ maskSegs S 0 (st.map (·.new)))[i]? = some o ∧ M.blk i = E.blk i ∧ (i < H0.length ∨ ∃ k q sk, S k = true ∧ st[k]? = some sk ∧ sk.new[q]? = some o ∧ i = H0.length + offs (st.map (·.new)) k + q)) ∨ (∃ q, s.new[q]? = some o ∧ i = pj + q ∧ M.blk i = E'.blk i) := by
    intro i o hi hg
    rcases mask_cases hi hg with ⟨h1, h2⟩ | ⟨k, q, l, h1, h2, h3, h4⟩
    · exact .inl ⟨mask_base h2, (hMo i (by omega)).1, .inl h1⟩
    · obtain ⟨sk, q1, rfl⟩ := seg_of h2
      by_cases hk : k = j
      · subst hk
        rw [hj] at q1
        obtain rfl := Option.some.inj q1
        have hq := (List.getElem?_eq_some_iff.1 h3).1
        exact .inr ⟨q, h3, by omega, (hMi i (by omega)).1⟩
      · have hSk : S k = true := by
          rcases Bool.or_eq_true _ _ ▸ h1 with h | h
          · exact h
          · exact absurd (Nat.eq_of_beq_eq_true h) hk
        refine .inl ⟨?_, ?_, .inr ⟨k, q, sk, hSk, q1, h3, h4⟩⟩
        · rw [h4]; exact mask_new hSk h2 h3
        · rw [h4]; exact (hMo _ (idx_out hk q1 h3)).1
  have owned_hm : ∀ {b : Nat}, Owned (E.tr pj) (hmOf H0 st pre j) b → Owned E (H0 ++ maskSegs S 0 (st.map (·.new))) b := fun ⟨i, o, h1, h2, h3⟩ => ⟨i, o, hm_in F hpre h1 (live_ne (own_live h2)), h2, h3⟩
  -- a live object of another operation that j doesn't wait for stays as it is
  have stays : ∀ {i : Nat} {o : AObj}, (H0 ++ maskSegs S 0 (st.map (·.new)))[i]? = some o → o.live → Holds E w i o → (∀ o', (hmOf H0 st pre j)[i]? = some o' → o' = .gone) → w'.heap[E.blk i]? = w.heap[E.blk i]? := by
    intro i o hi hl hH hno
    refine ev.frame _ (holds_lt hH hl) ?_
    rintro ⟨i', o', h1, h2, h3⟩
    by_cases e : i' = i
    · subst e
      exact live_ne (own_live h2) (hno o' h1)
    · exact I.apart i' i o' o (hm_in F hpre h1 (live_ne (own_live h2))) hi h2 hl e h3
  have hm_none : ∀ {k q : Nat} {sk : FStep} {o : AObj}, k ≠ j → pre j k = false → st[k]? = some sk → sk.new[q]? = some o → ∀ o', (hmOf H0 st pre j)[H0.length + offs (st.map (·.new)) k + q]? = some o' → o' = .gone := by
    intro k q sk o hk hp hs ho o' h
    by_cases hg : o' = .gone
    · exact hg
    · exfalso
      have hq := (List.getElem?_eq_some_iff.1 ho).1
      rcases hm_cases F h hg with ⟨h1, _⟩ | ⟨k', q', s', h0, h1, h2, h3, h4⟩
      · omega
      · have hq' := (List.getElem?_eq_some_iff.1 h3).1
        have := ownerOf_eq (base := H0.length) (segs := st.map (·.new)) (i := H0.length + offs (st.map (·.new)) k + q) ⟨seg_at hs, by omega, by omega⟩ (⟨seg_at h2, by omega, by omega⟩ : ownerOf H0.length (st.map (·.new)) _ k' s'.new)
        subst this
        rw [hp] at h1; exact Bool.noConfusion h1
  have newown : ∀ {q : Nat} {o : AObj}, s.new[q]? = some o → o.live → o.own := by
    intro q o h
    obtain ⟨p, _, p2, _⟩ := F.ids j s hj
    exact (p2 o (List.mem_of_getElem? h)).2
  refine ⟨by rw [hMn]; exact I.n, ?_, ?_, ?_, ?_, ?_, ?_, Nat.le_trans I.size ev.size, ev.os.trans I.os, I.tape.trans ev.tape, ev.output.trans I.output, ?_, ?_, ?_, ?_⟩
  · -- base
    intro i o hi
    have hil : i < H0.length := (List.getElem?_eq_some_iff.1 hi).1
    have h1 := g'.holds i o (hm' (mask_base hi))
    have h2 := h1.tr (I.base i o hi)
    exact holds_agree (E := E'.tr H0.length) ⟨Nat.le_refl _, fun i hi => (hMi i (by simp only [Env.tr] at hi; omega)).1, fun i hi => (hMi i (by simp only [Env.tr] at hi; omega)).2.1, fun i hi => (hMi i (by simp only [Env.tr] at hi; omega)).2.2.1, fun i hi => (hMi i (by simp only [Env.tr] at hi; omega)).2.2.2⟩ hil h2
  · -- news
    intro k sk q o hk hs ho
    by_cases hkj : k = j
    · subst hkj
      rw [hj] at hs
      obtain rfl := Option.some.inj hs
      have hq := (List.getElem?_eq_some_iff.1 ho).1
      rw [hpj]
      exact holds_agree agM (by omega) (g'.holds _ o (hnew ho))
    · have hSk : S k = true := by
        rcases Bool.or_eq_true _ _ ▸ hk with h | h
        · exact h
        · exact absurd (Nat.eq_of_beq_eq_true h) hkj
      have hkl : k < st.length := (List.getElem?_eq_some_iff.1 hs).1
      cases hp : pre j k with
      | true =>
        have hkj2 := F.lt _ _ hp
        have h1 := hm_at (H0 := H0) (pre := pre) hkj2 hp hs ho
        have hl : H0.length + offs (st.map (·.new)) k + q < pj := by
          have := (List.getElem?_eq_some_iff.1 h1).1; omega
        exact holds_agree agM (by omega) (g'.holds _ o (hm' h1))
      | false =>
        have hH := I.news k sk q o hSk hs ho
        obtain ⟨p, p1, p2, p3⟩ := F.ids k sk hs
        exact holds_on (onM hSk hkl p3) (hMo _ (idx_out hkj hs ho)) (p2 o (List.mem_of_getElem? ho)).1 hH (fun hl => stays (mask_new hSk (seg_at hs) ho) hl hH (hm_none hkj hp hs ho))
  · -- apart
    intro i i' o u hi hi' ho hu hne
    rcases look hi (live_ne (own_live ho)) with ⟨a1, a2, a3⟩ | ⟨q, a1, rfl, a2⟩
    · rcases look hi' (live_ne hu) with ⟨b1, b2, b3⟩ | ⟨q', b1, rfl, b2⟩
      · rw [a2, b2]; exact I.apart i i' o u a1 b1 ho hu hne
      · rw [a2, b2]
        intro he
        by_cases hin : (hmOf H0 st pre j)[i]? = some o
        · have hl : i < pj := by have := (List.getElem?_eq_some_iff.1 hin).1; omega
          exact g'.apart i (pj + q') o u (hm' hin) (hnew b1) ho hu (by omega) ((hag i hl).1.trans he)
        · -- not met by j
          have hH : Holds E w i o := by
            rcases a3 with h | ⟨k, q, sk, h1, h2, h3, rfl⟩
            · rw [List.getElem?_append_left h] at a1
              exact absurd (mask_base a1) hin
            · exact I.news k sk q o h1 h2 h3
          have hbl := holds_lt hH (own_live ho)
          rcases ev.own _ ⟨pj + q', u, hnew b1, newown b1 hu, rfl⟩ with h | ⟨i2, o2, h1, h2, h3⟩
          · omega
          · have hl2 : i2 < pj := by have := (List.getElem?_eq_some_iff.1 h1).1; omega
            exact g'.apart i2 (pj + q') o2 u (hm' h1) (hnew b1) h2 hu (by omega) ((hag i2 hl2).1.trans h3)
    · rcases look hi' (live_ne hu) with ⟨b1, b2, b3⟩ | ⟨q', b1, rfl, b2⟩
      · rw [a2, b2]
        intro he
        by_cases hin : (hmOf H0 st pre j)[i']? = some u
        · have hl : i' < pj := by have := (List.getElem?_eq_some_iff.1 hin).1; omega
          exact g'.apart (pj + q) i' o u (hnew a1) (hm' hin) ho hu (by omega) (he.trans (hag i' hl).1.symm)
        · have hH : Holds E w i' u := by
            rcases b3 with h | ⟨k, q, sk, h1, h2, h3, rfl⟩
            · rw [List.getElem?_append_left h] at b1
              exact absurd (mask_base b1) hin
            · exact I.news k sk q u h1 h2 h3
          have hbl := holds_lt hH hu
          rcases ev.own _ ⟨pj + q, o, hnew a1, ho, rfl⟩ with h | ⟨i2, o2, h1, h2, h3⟩
          · omega
          · have hl2 : i2 < pj := by have := (List.getElem?_eq_some_iff.1 h1).1; omega
            exact g'.apart i2 (pj + q) o2 o (hm' h1) (hnew a1) h2 (own_live ho) (by omega) ((hag i2 hl2).1.trans h3)
      · rw [a2, b2]; exact g'.apart _ _ o u (hnew a1) (hnew b1) ho hu hne
  · -- agree
    refine ⟨by omega, fun i hi => ?_, fun i hi => ?_, fun i hi => ?_, fun i hi => ?_⟩
    · exact (hMo i (by omega)).1.trans (I.agree.blk i hi)
    · exact (hMo i (by omega)).2.1.trans (I.agree.off i hi)
    · exact (hMo i (by omega)).2.2.1.trans (I.agree.csz i hi)
    · exact (hMo i (by omega)).2.2.2.trans (I.agree.esz i hi)
  · -- frame
    intro b hb hno
    rw [ev.frame b (Nat.lt_of_lt_of_le hb I.size) fun h => by
      rcases I.own b (owned_hm h) with h1 | h1
      · omega
      · exact hno h1]
    exact I.frame b hb hno
  · -- own
    rintro b ⟨i, o, hi, ho, rfl⟩
    rcases look hi (live_ne (own_live ho)) with ⟨a1, a2, a3⟩ | ⟨q, a1, rfl, a2⟩
    · rw [a2]; exact I.own _ ⟨i, o, a1, ho, rfl⟩
    · rw [a2]
      rcases ev.own _ ⟨pj + q, o, hnew a1, ho, rfl⟩ with h | h
      · exact .inl (Nat.le_trans I.size h)
      · exact I.own _ (owned_hm h)
  · -- tn
    rw [I.tn]; cases s.o.dst <;> simp [Act.put]
  · -- ts
    have hsz : (a.put s.o.dst v').tmps.size = a.tmps.size := by cases s.o.dst <;> simp [Act.put]
    intro x hx
    rw [hsz] at hx
    by_cases hd : s.o.dst = some x
    · refine .inl ⟨j, s, by simp, hj, hd, fun k' s' h1 h2 h3 hd' => ?_, ?_⟩
      · have hSk : S k' = true := by
          rcases Bool.or_eq_true _ _ ▸ h2 with h | h
          · exact h
          · have := Nat.eq_of_beq_eq_true h; omega
        rcases F.apart j k' s s' h1 hj h3 with h | h
        · rw [hclosed k' hSk] at h; exact Bool.noConfusion h
        · exact (Oper.apart_spec h).2.1 x hd hd'
      · have : (a.put s.o.dst v').tmps.getD x undef = v' := by
          rw [hd]
          simp only [Act.put, Array.getD_eq_getD_getElem?, Array.getElem?_setIfInBounds_self_of_lt hx, Option.getD_some]
        rw [this]
        exact rv.mono agM
    · have hget : (a.put s.o.dst v').tmps.getD x undef = a.tmps.getD x undef := by
        cases hdd : s.o.dst with
        | none => rfl
        | some d =>
          have : d ≠ x := fun e => hd (by rw [hdd, e])
          simp only [Act.put, Array.getD_eq_getD_getElem?, Array.getElem?_setIfInBounds_ne this]
      rw [hget]
      rcases I.ts x hx with ⟨k, sk, h1, h2, h3, h4, h5⟩ | ⟨h1, h2⟩
      · refine .inl ⟨k, sk, by simp [h1], h2, h3, fun k' s' q1 q2 q3 => ?_, ?_⟩
        · by_cases e : k' = j
          · subst e
            rw [hj] at q3
            obtain rfl := Option.some.inj q3
            exact hd
          · have hSk : S k' = true := by
              rcases Bool.or_eq_true _ _ ▸ q2 with h | h
              · exact h
              · exact absurd (Nat.eq_of_beq_eq_true h) e
            exact h4 k' s' q1 hSk q3
        · obtain ⟨p, p1, p2, p3⟩ := F.ids k sk h2
          exact rep_on (onM h1 (List.getElem?_eq_some_iff.1 h2).1 p3) p1 h5
      · refine .inr ⟨fun k sk q1 q2 => ?_, h2.mono agB⟩
        by_cases e : k = j
        · subst e
          rw [hj] at q2
          obtain rfl := Option.some.inj q2
          exact hd
        · have hSk : S k = true := by
            rcases Bool.or_eq_true _ _ ▸ q1 with h | h
            · exact h
            · exact absurd (Nat.eq_of_beq_eq_true h) e
          exact h1 k sk hSk q2
  · -- hi
    have hsz : (a.put s.o.dst v').tmps.size = a.tmps.size := by cases s.o.dst <;> simp [Act.put]
    intro x hx
    exact (I.hi x (by omega)).mono agB
  · rw [put_defers]; exact I.defers
theorem front_reads (F : Front P ops T0 H0 st pre) {T : Nat → Tm} (h0 : T 0 = T0) (h1 : ∀ (j : Nat) (s : FStep), st[j]? = some s → T (j + 1) = putD (T j) s.o.dst s.v)
    {E0 : Env} {w0 : World} {S : Nat → Bool} {E : Env} {a : Act} {w : World} (I : FInv st T0 H0 Hf E0 w0 S E a w) {j : Nat} {s : FStep} (hj : st[j]? = some s) (hS : S j = false)
    (hpre : ∀ k, pre j k = true → S k = true) (hclosed : ∀ k, S k = true → pre k j = false) {x : Tmp} (hx : x ∈ s.o.looksAt ops) : Rep (E.tr (H0.length + offs (st.map (·.new)) j)) ((T j).get x) (a.tmps.getD x undef) := by
  have hjl : j < st.length := (List.getElem?_eq_some_iff.1 hj).1
  obtain ⟨l1, l2, l3⟩ := lex_get h0 h1 F.n j (Nat.le_of_lt hjl)
  have agB : Env.Agree H0.length (E.tr H0.length) (E.tr (H0.length + offs (st.map (·.new)) j)) := ⟨Nat.le_add_right _ _, fun _ _ => rfl, fun _ _ => rfl, fun _ _ => rfl, fun _ _ => rfl⟩
  have after : ∀ k2 s2, S k2 = true → st[k2]? = some s2 → s2.o.dst = some x → k2 < j := by
    intro k2 s2 h1 h2 h3
    rcases Nat.lt_trichotomy k2 j with h | h | h
    · exact h
    · subst h; rw [hS] at h1; exact Bool.noConfusion h1
    · rcases F.apart j k2 s s2 h hj h2 with q | q
      · rw [hclosed k2 h1] at q; exact Bool.noConfusion q
      · exact absurd hx ((Oper.apart_spec q).2.2 x h3)
  by_cases hlt : x < a.tmps.size
  · rcases l3 x (by rw [I.tn]; exact hlt) with ⟨k, sk, q1, q2, q3, q4, q5⟩ | ⟨q1, q2⟩
    · have hp : pre j k = true := by
        rcases F.apart k j sk s q1 q2 hj with h | h
        · exact h
        · exact absurd hx ((Oper.apart_spec h).1 x q3)
      have hSk := hpre k hp
      rcases I.ts x hlt with ⟨k2, s2, r1, r2, r3, r4, r5⟩ | ⟨r1, _⟩
      · have hk2 := after k2 s2 r1 r2 r3
        have : k2 = k := by
          rcases Nat.lt_trichotomy k2 k with h | h | h
          · exact absurd q3 (r4 k sk h hSk q2)
          · exact h
          · exact absurd r3 (q4 k2 s2 h hk2 r2)
        subst this
        rw [q2] at r2
        obtain rfl := Option.some.inj r2
        rw [q5]
        obtain ⟨p, p1, p2, p3⟩ := F.ids k2 sk q2
        exact rep_on (E := E) (F := E.tr (H0.length + offs (st.map (·.new)) j)) ⟨fun i hi => ids_lt F p3 hi j q1, fun _ _ => rfl, fun _ _ => rfl, fun _ _ => rfl, fun _ _ => rfl⟩ p1 r5
      · exact absurd q3 (r1 k sk hSk q2)
    · rw [q2]
      rcases I.ts x hlt with ⟨k2, s2, r1, r2, r3, _, _⟩ | ⟨_, r2⟩
      · exact absurd r3 (q1 k2 s2 (after k2 s2 r1 r2 r3) r2)
      · exact r2.mono agB
  · have hge := Nat.le_of_not_lt hlt
    rw [l2 x (by rw [I.tn]; exact hge), Array.getD_eq_getD_getElem?, Array.getElem?_eq_none hge]
    exact (I.hi x hge).mono agB
theorem front_step (F : Front P ops T0 H0 st pre) {E0 : Env} {w0 : World} {S : Nat → Bool} {E : Env} {a : Act} {w : World} (I : FInv st T0 H0 Hf E0 w0 S E a w) {j : Nat} {s : FStep} (hj : st[j]? = some s) (hS : S j = false)
    (hp0 : s.pst = none) (hpre : ∀ k, pre j k = true → S k = true) (hclosed : ∀ k, S k = true → pre k j = false) {Q : Exit → Act → World → Prop} {K : Act → World → Prop}
    (hK : ∀ E' a' w', FInv st T0 H0 Hf E0 w0 (fun k => S k || Nat.beq k j) E' a' w' → K a' w') : wpOp P ops Q j K a w := by
  have hjl : j < st.length := (List.getElem?_eq_some_iff.1 hj).1
  obtain ⟨T, h0, h1, hf⟩ := F.lex
  obtain ⟨l1, l2, l3⟩ := lex_get h0 h1 F.n j (Nat.le_of_lt hjl)
  have ghm := good_hm F I hjl hpre
  obtain ⟨f1, f2, f3, _⟩ := hf j s hj _ w a ghm (fun x hx => front_reads F h0 h1 I hj hS hpre hclosed hx) (by rw [l1]; exact I.tn)
  unfold wpOp
  rw [F.at_ j s hj]
  simp only [f1]
  cases hgo : s.go with
  | true =>
    simp only [if_true]
    exact .inl (f2 hgo hp0 K Q fun E' w' v' g' ev rv => hK _ _ _ (front_add F I hj hS hpre hclosed g' ev rv))
  | false =>
    simp only [Bool.false_eq_true, if_false]
    obtain ⟨hv, hn⟩ := f3 hgo
    have key := front_add F I hj hS hpre hclosed (E' := E.tr (H0.length + offs (st.map (·.new)) j)) (w' := w) (v' := undef) (by rw [hn, List.append_nil]; exact ghm) (by rw [hn, List.append_nil]; exact .refl _ _ _ (Nat.le_refl _)) (by rw [hv]; exact rep_undef _)
    exact hK _ _ _ key

end
end Go.AX

namespace Go.AX
set_option linter.unusedVariables false
set_option linter.unusedSimpArgs false

def bareL (l : List Value) : Bool := l.all (okIds fun _ => false)
def PStat (st : List FStep) (H0 Hf : AHeap) : Prop :=
  ∀ (j : Nat) (s : FStep) (p : PSt), st[j]? = some s → s.pst = some p →
    Hf[p.i]? = some (.cells p.old p.e p.sz) ∧ bareL p.old = true ∧ bareL p.new = true ∧ p.i < H0.length
structure PInv (st : List FStep) (S : Nat → Bool) (E : Env) (w : World) (H : AHeap) : Prop where
  at_ : ∀ (j : Nat) (s : FStep) (p : PSt), st[j]? = some s → s.pst = some p → Holds E w p.i (.cells (if S j then p.new else p.old) p.e p.sz)
  ap : ∀ (j : Nat) (s : FStep) (p : PSt), st[j]? = some s → s.pst = some p → ∀ (i : Nat) (o : AObj), H[i]? = some o → o.live → E.blk i ≠ E.blk p.i
  ap2 : ∀ (j k : Nat) (s u : FStep) (p q : PSt), st[j]? = some s → s.pst = some p → st[k]? = some u → u.pst = some q → j ≠ k → E.blk p.i ≠ E.blk q.i

theorem holds_bare {E F : Env} {w w' : World} {i : Nat} {vs : List Value} {e sz : Nat} (h : Holds E w i (.cells vs e sz)) (hb : bareL vs = true) (hF : F.blk i = E.blk i ∧ F.off i = E.off i ∧ F.csz i = E.csz i ∧ F.esz i = E.esz i)
    (hw : w'.heap[E.blk i]? = w.heap[E.blk i]?) : Holds F w' i (.cells vs e sz) :=
  holds_on (p := fun _ => false) ⟨fun i hi => Bool.noConfusion hi, fun i hi => Bool.noConfusion hi, fun i hi => Bool.noConfusion hi, fun i hi => Bool.noConfusion hi, fun i hi => Bool.noConfusion hi⟩ hF hb h (fun _ => hw)

theorem maskSegs_congr {K K' : Nat → Bool} : ∀ (k0 : Nat) (l : List AHeap), (∀ k s, l[k]? = some s → s = [] ∨ K (k0 + k) = K' (k0 + k)) → maskSegs K k0 l = maskSegs K' k0 l
  | _, [], _ => rfl
  | k0, s :: r, h => by
    simp only [maskSegs]
    have h1 : maskOne (K k0) s = maskOne (K' k0) s := by
      rcases h 0 s rfl with rfl | h1
      · cases K k0 <;> cases K' k0 <;> rfl
      · rw [Nat.add_zero] at h1; rw [h1]
    rw [h1, maskSegs_congr (k0 + 1) r fun k s' hs => by
      have := h (k + 1) s' (by simpa using hs)
      rw [show k0 + 1 + k = k0 + (k + 1) by omega]; exact this]

section
variable {P : Program} {ops : Array Oper} {T0 : Tm} {H0 Hf : AHeap} {st : List FStep} {pre : Nat → Nat → Bool}

theorem pinv_add (F : Front P ops T0 H0 st pre) {E0 : Env} {w0 : World} {S : Nat → Bool} {E : Env} {a : Act} {w : World} (I : FInv st T0 H0 Hf E0 w0 S E a w) (PS : PStat st H0 Hf) (PI : PInv st S E w (H0 ++ maskSegs S 0 (st.map (·.new))))
    {j : Nat} {s : FStep} (hj : st[j]? = some s) (hS : S j = false) (hp0 : s.pst = none)
    (hpre : ∀ k, pre j k = true → S k = true) {E' : Env} {w' : World} (g' : Good E' (hmOf H0 st pre j ++ s.new) w')
    (ev : Evol (H0.length + offs (st.map (·.new)) j) (E.tr (H0.length + offs (st.map (·.new)) j)) (hmOf H0 st pre j) w E' (hmOf H0 st pre j ++ s.new) w') :
    PInv st (fun k => S k || Nat.beq k j) (mergeE E E' (H0.length + offs (st.map (·.new)) j) (H0.length + offs (st.map (·.new)) j + s.new.length)) w' (H0 ++ maskSegs (fun k => S k || Nat.beq k j) 0 (st.map (·.new))) := by
  have hjl : j < st.length := (List.getElem?_eq_some_iff.1 hj).1
  have hml := hm_length (H0 := H0) (pre := pre) (Nat.le_of_lt hjl)
  have hjs := seg_at hj
  have hos := offs_succ _ _ _ hjs
  generalize hpj : H0.length + offs (st.map (·.new)) j = pj at *
  generalize hM : mergeE E E' pj (pj + s.new.length) = M at *
  have hMo : ∀ i, ¬ (pj ≤ i ∧ i < pj + s.new.length) → M.blk i = E.blk i ∧ M.off i = E.off i ∧ M.csz i = E.csz i ∧ M.esz i = E.esz i := fun i hi => by rw [← hM]; exact mergeE_out hi
  have hbase : H0.length ≤ pj := by omega
  have hne : ∀ {k : Nat} {u : FStep} {p : PSt}, st[k]? = some u → u.pst = some p → k ≠ j := by
    intro k u p hk hp e
    subst e
    rw [hj] at hk
    obtain rfl := Option.some.inj hk
    rw [hp0] at hp; simp at hp
  have hSk : ∀ {k : Nat}, k ≠ j → (S k || Nat.beq k j) = S k := by
    intro k hk
    have : Nat.beq k j = false := by
      cases hb : Nat.beq k j
      · rfl
      · exact absurd (Nat.eq_of_beq_eq_true hb) hk
    rw [this, Bool.or_false]
  have hold : ∀ {k : Nat} {u : FStep} {p : PSt}, st[k]? = some u → u.pst = some p → E.blk p.i < w.heap.size ∧ M.blk p.i = E.blk p.i ∧ M.off p.i = E.off p.i ∧ M.csz p.i = E.csz p.i ∧ M.esz p.i = E.esz p.i ∧ ¬ Owned (E.tr pj) (hmOf H0 st pre j) (E.blk p.i) := by
    intro k u p hk hp
    obtain ⟨h1, h2, h4, h5⟩ := PS k u p hk hp
    have hH := PI.at_ k u p hk hp
    obtain ⟨m1, m2, m3, m4⟩ := hMo p.i (by omega)
    refine ⟨holds_lt hH trivial, m1, m2, m3, m4, ?_⟩
    rintro ⟨i, o, q1, q2, q3⟩
    exact PI.ap k u p hk hp i o (hm_in F hpre q1 (live_ne (own_live q2))) (own_live q2) q3
  refine ⟨?_, ?_, ?_⟩
  · intro k u p hk hp
    obtain ⟨q1, m1, m2, m3, m4, q2⟩ := hold hk hp
    obtain ⟨h1, h2, h4, h5⟩ := PS k u p hk hp
    have hH := PI.at_ k u p hk hp
    show Holds M w' p.i (.cells (if (S k || Nat.beq k j) = true then _ else _) p.e p.sz)
    rw [hSk (hne hk hp)]
    refine holds_bare hH ?_ ⟨m1, m2, m3, m4⟩ (ev.frame _ q1 q2)
    split
    · exact h4
    · exact h2
  · intro k u p hk hp i o hi hl
    obtain ⟨q1, m1, m2, m3, m4, q2⟩ := hold hk hp
    rw [m1]
    rcases mask_cases hi (live_ne hl) with ⟨h1, h2⟩ | ⟨k', q, l, h1, h2, h3, h4⟩
    · rw [(hMo i (by omega)).1]
      exact PI.ap k u p hk hp i o (mask_base h2) hl
    · obtain ⟨sk, r1, rfl⟩ := seg_of h2
      by_cases hk' : k' = j
      · subst hk'
        rw [hj] at r1
        obtain rfl := Option.some.inj r1
        have hq := (List.getElem?_eq_some_iff.1 h3).1
        have hi' : i = pj + q := by omega
        subst hi'
        have hMi : M.blk (pj + q) = E'.blk (pj + q) := by rw [← hM]; exact (mergeE_in ⟨by omega, by omega⟩).1
        rw [hMi]
        obtain ⟨pp, p1, p2, p3⟩ := F.ids k' s hj
        have hown := (p2 o (List.mem_of_getElem? h3)).2 hl
        intro he
        rcases ev.own (E'.blk (pj + q)) ⟨pj + q, o, by rw [List.getElem?_append_right (by omega), hml, Nat.add_sub_cancel_left]; exact h3, hown, rfl⟩ with hh | hh
        · rw [he] at hh; omega
        · rw [he] at hh; exact q2 hh
      · have hSk' : S k' = true := by rw [← hSk hk']; exact h1
        have hout : ¬ (pj ≤ i ∧ i < pj + s.new.length) := by
          have hq := (List.getElem?_eq_some_iff.1 h3).1
          have hos' := offs_succ _ _ _ h2
          rcases Nat.lt_or_ge k' j with hlt | hge
          · have := offs_mono (st.map (·.new)) (k' + 1) j hlt; omega
          · have := offs_mono (st.map (·.new)) (j + 1) k' (by omega); omega
        rw [(hMo i hout).1]
        exact PI.ap k u p hk hp i o (by rw [h4]; exact mask_new hSk' h2 h3) hl
  · intro k k' u u' p q hk hp hk' hq hne'
    obtain ⟨_, m1, _⟩ := hold hk hp
    obtain ⟨_, m1', _⟩ := hold hk' hq
    rw [m1, m1']
    exact PI.ap2 k k' u u' p q hk hp hk' hq hne'
theorem front_stepP (F : Front P ops T0 H0 st pre) {E0 : Env} {w0 : World} {S : Nat → Bool} {E : Env} {a : Act} {w : World} (I : FInv st T0 H0 Hf E0 w0 S E a w) (PS : PStat st H0 Hf) (PI : PInv st S E w (H0 ++ maskSegs S 0 (st.map (·.new))))
    {j : Nat} {s : FStep} (hj : st[j]? = some s) (hS : S j = false)
    (hpre : ∀ k, pre j k = true → S k = true) (hclosed : ∀ k, S k = true → pre k j = false) {Q : Exit → Act → World → Prop} {K : Act → World → Prop}
    (hK : ∀ E' a' w', FInv st T0 H0 Hf E0 w0 (fun k => S k || Nat.beq k j) E' a' w' → PInv st (fun k => S k || Nat.beq k j) E' w' (H0 ++ maskSegs (fun k => S k || Nat.beq k j) 0 (st.map (·.new))) → K a' w') : wpOp P ops Q j K a w := by
  have hjl : j < st.length := (List.getElem?_eq_some_iff.1 hj).1
  obtain ⟨T, h0, h1, hf⟩ := F.lex
  obtain ⟨l1, l2, l3⟩ := lex_get h0 h1 F.n j (Nat.le_of_lt hjl)
  have ghm := good_hm F I hjl hpre
  have hrd := fun x hx => front_reads F h0 h1 I hj hS hpre hclosed (x := x) hx
  obtain ⟨f1, f2, f3, f4⟩ := hf j s hj _ w a ghm hrd (by rw [l1]; exact I.tn)
  unfold wpOp
  rw [F.at_ j s hj]
  simp only [f1]
  cases hps : s.pst with
  | none =>
    cases hgo : s.go with
    | true =>
      simp only [if_true]
      exact .inl (f2 hgo hps K Q fun E' w' v' g' ev rv => hK _ _ _ (front_add F I hj hS hpre hclosed g' ev rv) (pinv_add F I PS PI hj hS hps hpre g' ev))
    | false =>
      simp only [Bool.false_eq_true, if_false]
      obtain ⟨hv, hn⟩ := f3 hgo
      have g2 : Good (E.tr (H0.length + offs (st.map (·.new)) j)) (hmOf H0 st pre j ++ s.new) w := by rw [hn, List.append_nil]; exact ghm
      have ev2 : Evol (H0.length + offs (st.map (·.new)) j) (E.tr (H0.length + offs (st.map (·.new)) j)) (hmOf H0 st pre j) w (E.tr (H0.length + offs (st.map (·.new)) j)) (hmOf H0 st pre j ++ s.new) w := by rw [hn, List.append_nil]; exact .refl _ _ _ (Nat.le_refl _)
      have key := front_add F I hj hS hpre hclosed (E' := E.tr (H0.length + offs (st.map (·.new)) j)) (w' := w) (v' := undef) g2 ev2 (by rw [hv]; exact rep_undef _)
      exact hK _ _ _ key (pinv_add F I PS PI hj hS hps hpre g2 ev2)
  | some p =>
    obtain ⟨c1, c2, c4, c5⟩ := PS j s p hj hps
    obtain ⟨hgo, hn, _⟩ := f4 p hps
    simp only [hgo, if_true]
    have hpi := PI.at_ j s p hj hps
    simp only [hS, Bool.false_eq_true, if_false] at hpi
    have hEn : p.i < E.n := by rw [I.n]; omega
    -- the object alone
    have gS : ∀ {E2 : Env} {w2 : World} {o : AObj}, E2.n = E.n → Holds E2 w2 p.i o → Good E2 ((List.replicate E.n AObj.gone).set p.i o) w2 := by
      intro E2 w2 o hn2 hH
      have look : ∀ {i : Nat} {u : AObj}, ((List.replicate E.n AObj.gone).set p.i o)[i]? = some u → u = .gone ∨ (i = p.i ∧ u = o) := by
        intro i u hi
        rw [List.getElem?_set] at hi
        split at hi
        · rename_i hip
          split at hi
          · simp only [Option.some.injEq] at hi; exact .inr ⟨hip.symm, hi.symm⟩
          · simp at hi
        · rw [List.getElem?_replicate] at hi
          split at hi
          · simp only [Option.some.injEq] at hi; exact .inl hi.symm
          · simp at hi
      refine ⟨by simp [hn2], fun i u hi => ?_, fun i k u t hi hk ho hl hne => ?_⟩
      · rcases look hi with rfl | ⟨rfl, rfl⟩
        · trivial
        · exact hH
      · rcases look hi with rfl | ⟨rfl, rfl⟩
        · exact ho.elim
        · rcases look hk with rfl | ⟨rfl, rfl⟩
          · exact hl.elim
          · exact absurd rfl hne
    -- what the step says of any heap is asked of this one, under the whole environment
    have gAll := gS rfl hpi
    have hb0 : E.blk p.i < w.heap.size := holds_lt hpi trivial
    have hrdA : ∀ x, x ∈ s.o.looksAt ops → Rep E ((T j).get x) (a.tmps.getD x undef) := by
      intro x hx
      have hag : Env.Agree (E.tr (H0.length + offs (st.map (·.new)) j)).n (E.tr (H0.length + offs (st.map (·.new)) j)) E := by
        have := offs_mono (st.map (·.new)) j st.length (Nat.le_of_lt hjl)
        exact ⟨by rw [I.n]; show H0.length + offs (st.map (·.new)) j ≤ _; omega, fun _ _ => rfl, fun _ _ => rfl, fun _ _ => rfl, fun _ _ => rfl⟩
      exact (hrd x hx).mono hag
    obtain ⟨_, _, hop⟩ := f4 p hps
    have hl0 : (hmOf H0 st pre j).length = H0.length + offs (st.map (·.new)) j := hm_length (Nat.le_of_lt hjl)
    refine .inl (hop E (fun x hx => hrdA x hx) ((List.replicate E.n AObj.gone).set p.i (.cells p.old p.e p.sz)) gAll (by rw [List.getElem?_set_self (by simpa using hEn)]) K Q ?_)
    intro E' w' v' g' ev rv
    have hE'n : E'.n = E.n := by rw [g'.n]; simp
    have hag : ∀ i, i < E.n → E'.blk i = E.blk i ∧ E'.off i = E.off i ∧ E'.csz i = E.csz i ∧ E'.esz i = E.esz i := fun i hi => ⟨ev.agree.blk i hi, ev.agree.off i hi, ev.agree.csz i hi, ev.agree.esz i hi⟩
    have hout : ∀ b, b < w.heap.size → b ≠ E.blk p.i → w'.heap[b]? = w.heap[b]? := by
      intro b hb hne
      refine ev.frame b hb ?_
      rintro ⟨i, o, h1, h2, h3⟩
      rw [List.getElem?_set] at h1
      split at h1
      · rename_i hip
        subst hip
        exact hne h3.symm
      · rw [List.getElem?_replicate] at h1
        split at h1
        · simp only [Option.some.injEq] at h1; subst h1; exact h2.elim
        · simp at h1
    have rvE : Rep E s.v v' := rv.mono ⟨by rw [hE'n]; exact Nat.le_refl _, fun i hi => (hag i (by omega)).1.symm, fun i hi => (hag i (by omega)).2.1.symm, fun i hi => (hag i (by omega)).2.2.1.symm, fun i hi => (hag i (by omega)).2.2.2.symm⟩
    have hnew : Holds E w' p.i (.cells p.new p.e p.sz) := by
      have h1 := g'.holds p.i (.cells p.new p.e p.sz) (by rw [List.set_set, List.getElem?_set_self (by simpa using hEn)])
      obtain ⟨m1, m2, m3, m4⟩ := hag p.i hEn
      exact holds_bare h1 c4 ⟨m1.symm, m2.symm, m3.symm, m4.symm⟩ rfl
    have hmask : maskSegs (fun k => S k || Nat.beq k j) 0 (st.map (·.new)) = maskSegs S 0 (st.map (·.new)) := by
      refine maskSegs_congr 0 _ fun k l hk => ?_
      obtain ⟨sk, r1, rfl⟩ := seg_of hk
      by_cases e1 : k = j
      · subst e1
        rw [hj] at r1
        obtain rfl := Option.some.inj r1
        exact .inl hn
      · right
        have : Nat.beq (0 + k) j = false := by
          cases hb : Nat.beq (0 + k) j
          · rfl
          · exact absurd (by have := Nat.eq_of_beq_eq_true hb; omega) e1
        simp only [this, Bool.or_false]
    have hkeep : ∀ {i : Nat} {o : AObj} {E2 : Env}, (H0 ++ maskSegs S 0 (st.map (·.new)))[i]? = some o → o.live → Holds E2 w i o → E2.blk i = E.blk i → w'.heap[E2.blk i]? = w.heap[E2.blk i]? := by
      intro i o E2 hi hl hH he
      refine hout _ (holds_lt hH hl) ?_
      rw [he]
      exact PI.ap j s p hj hps i o hi hl
    have hsz : (a.put s.o.dst v').tmps.size = a.tmps.size := by cases s.o.dst <;> simp [Act.put]
    refine hK E (a.put s.o.dst v') w' ?_ ?_
    · refine ⟨I.n, ?_, ?_, ?_, I.agree, ?_, ?_, Nat.le_trans I.size ev.size, ev.os.trans I.os, I.tape.trans ev.tape, ev.output.trans I.output, by rw [I.tn]; cases s.o.dst <;> simp [Act.put], ?_, fun x hx => I.hi x (by rw [hsz] at hx; exact hx), by rw [put_defers]; exact I.defers⟩
      · intro i o hi
        by_cases hl : o.live
        · exact (I.base i o hi).mono (.refl _ (Nat.le_refl _)) (List.getElem?_eq_some_iff.1 hi).1 fun _ => hkeep (E2 := E.tr H0.length) (mask_base hi) hl (I.base i o hi) rfl
        · exact (I.base i o hi).mono (.refl _ (Nat.le_refl _)) (List.getElem?_eq_some_iff.1 hi).1 fun h => absurd h hl
      · intro k u q o hk hu hq
        have hkj : k ≠ j := by
          intro e1; subst e1
          rw [hj] at hu
          obtain rfl := Option.some.inj hu
          rw [hn] at hq; simp at hq
        have hSk : S k = true := by
          rcases Bool.or_eq_true _ _ ▸ hk with h | h
          · exact h
          · exact absurd (Nat.eq_of_beq_eq_true h) hkj
        have hH := I.news k u q o hSk hu hq
        have hin : (H0 ++ maskSegs S 0 (st.map (·.new)))[H0.length + offs (st.map (·.new)) k + q]? = some o := mask_new hSk (seg_at hu) hq
        have hlt : H0.length + offs (st.map (·.new)) k + q < E.n := by
          have := (List.getElem?_eq_some_iff.1 hin).1
          rw [List.length_append, maskSegs_len, List.length_map] at this
          rw [I.n]; exact this
        by_cases hl : o.live
        · exact hH.mono (.refl _ (Nat.le_refl _)) hlt fun _ => hkeep (E2 := E) hin hl hH rfl
        · exact hH.mono (.refl _ (Nat.le_refl _)) hlt fun h => absurd h hl
      · rw [hmask]; exact I.apart
      · intro b hb hno
        rw [hout b (Nat.lt_of_lt_of_le hb I.size) ?_]
        · exact I.frame b hb hno
        · rintro rfl
          refine hno ⟨p.i, _, c1, trivial, ?_⟩
          exact (I.agree.blk p.i c5).symm
      · rw [hmask]; exact I.own
      · intro x hx
        rw [hsz] at hx
        by_cases hd : s.o.dst = some x
        · refine .inl ⟨j, s, by simp, hj, hd, fun k' s' h1 h2 h3 hd' => ?_, ?_⟩
          · have hSk : S k' = true := by
              rcases Bool.or_eq_true _ _ ▸ h2 with h | h
              · exact h
              · have := Nat.eq_of_beq_eq_true h; omega
            rcases F.apart j k' s s' h1 hj h3 with h | h
            · rw [hclosed k' hSk] at h; exact Bool.noConfusion h
            · exact (Oper.apart_spec h).2.1 x hd hd'
          · have : (a.put s.o.dst v').tmps.getD x undef = v' := by
              rw [hd]
              simp only [Act.put, Array.getD_eq_getD_getElem?, Array.getElem?_setIfInBounds_self_of_lt hx, Option.getD_some]
            rw [this]
            exact rvE
        · have hget : (a.put s.o.dst v').tmps.getD x undef = a.tmps.getD x undef := by
            cases hdd : s.o.dst with
            | none => rfl
            | some d =>
              have : d ≠ x := fun e => hd (by rw [hdd, e])
              simp only [Act.put, Array.getD_eq_getD_getElem?, Array.getElem?_setIfInBounds_ne this]
          rw [hget]
          rcases I.ts x hx with ⟨k, sk, q1, q2, q3, q4, q5⟩ | ⟨q1, q2⟩
          · refine .inl ⟨k, sk, by simp [q1], q2, q3, fun k' s' r1 r2 r3 => ?_, q5⟩
            by_cases e1 : k' = j
            · subst e1
              rw [hj] at r3
              obtain rfl := Option.some.inj r3
              exact hd
            · have hSk : S k' = true := by
                rcases Bool.or_eq_true _ _ ▸ r2 with h | h
                · exact h
                · exact absurd (Nat.eq_of_beq_eq_true h) e1
              exact q4 k' s' r1 hSk r3
          · refine .inr ⟨fun k sk r1 r2 => ?_, q2⟩
            by_cases e1 : k = j
            · subst e1
              rw [hj] at r2
              obtain rfl := Option.some.inj r2
              exact hd
            · have hSk : S k = true := by
                rcases Bool.or_eq_true _ _ ▸ r1 with h | h
                · exact h
                · exact absurd (Nat.eq_of_beq_eq_true h) e1
              exact q1 k sk hSk r2
    · rw [hmask]
      refine ⟨?_, fun k u q hk hq i o hi hl => PI.ap k u q hk hq i o hi hl, PI.ap2⟩
      intro k u q hk hq
      by_cases e1 : k = j
      · subst e1
        rw [hj] at hk
        obtain rfl := Option.some.inj hk
        rw [hps] at hq
        obtain rfl := Option.some.inj hq
        simp only [Nat.beq_refl, Bool.or_true, if_true]
        exact hnew
      · have hb : Nat.beq k j = false := by
          cases hb : Nat.beq k j
          · rfl
          · exact absurd (Nat.eq_of_beq_eq_true hb) e1
        simp only [hb, Bool.or_false]
        have hH := PI.at_ k u q hk hq
        obtain ⟨d1, d2, d4, d5⟩ := PS k u q hk hq
        refine holds_bare hH ?_ ⟨rfl, rfl, rfl, rfl⟩ (hout _ (holds_lt hH trivial) (PI.ap2 k j u s q p hk hq hj hps e1))
        split
        · exact d4
        · exact d2
end
end Go.AX
