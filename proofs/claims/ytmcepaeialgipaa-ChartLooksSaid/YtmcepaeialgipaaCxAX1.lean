/- The abstract heap: values of the model's own type with ids in the place of block numbers; what a world must hold to stand for it; how it goes on. -/
import Derived.Orders
import Derived.Laws.Rows
import Derived.Laws.Sem
import Derived.Laws.Entries
import Derived.Laws.AppendOwn
namespace Go.AX

structure Env where
  /-- how many ids there are -/
  n : Nat
  blk : Nat → Nat
  off : Nat → Nat
  csz : Nat → Nat
  esz : Nat → Nat

/-- 'The capacity is not known': of what append gave. -/
def UNK : Nat := 18446744073709551616
/-- 'The capacity is not known, nor is it asked': of what is read. -/
def UNR : Nat := 18446744073709551617
/-- What stands for any value. -/
def junk : Value := .tuple ⟨[.nilFunc]⟩

mutual
inductive Rep (E : Env) : Value → Value → Prop
  | bool (b : Bool) : Rep E (.bool b) (.bool b)
  | int (k : IntKind) (n : Int) : Rep E (.int k n) (.int k n)
  | float (k : FloatKind) (n : Nat) : Rep E (.float k n) (.float k n)
  | str (s : ByteArray) : Rep E (.string s) (.string s)
  | nilptr : Rep E (.pointer none) (.pointer none)
  | ptr (i o : Nat) (hi : i < E.n) : Rep E (.pointer (some ⟨i, o, none⟩)) (.pointer (some ⟨E.blk i, E.off i + o, none⟩))
  | nilsl : Rep E (.slice none 0 0) (.slice none 0 0)
  /-- the capacity is told -/
  | slX (i o n c : Nat) (a' : Option Addr) (hi : i < E.n) (ha : 0 < n → a' = some ⟨E.blk i, E.off i + o, none⟩) (hn : n ≤ c) (hc : c < UNK) : Rep E (.slice (some ⟨i, o, none⟩) n c) (.slice a' n c)
  | slU (i n c' : Nat) (hi : i < E.n) (h0 : 0 < n) (hn : n ≤ c') (hz : E.off i + c' * E.esz i ≤ E.csz i) : Rep E (.slice (some ⟨i, 0, none⟩) n UNK) (.slice (some ⟨E.blk i, E.off i, none⟩) n c')
  | slE (i : Nat) (hi : i < E.n) : Rep E (.slice (some ⟨i, 0, none⟩) 0 UNK) (.slice none 0 0)
  | slR (i o n c' : Nat) (a' : Option Addr) (hi : i < E.n) (ha : 0 < n → a' = some ⟨E.blk i, E.off i + o, none⟩) (hn : n ≤ c') : Rep E (.slice (some ⟨i, o, none⟩) n UNR) (.slice a' n c')
  | nilmap : Rep E (.map none) (.map none)
  | map (i : Nat) (hi : i < E.n) : Rep E (.map (some i)) (.map (some (E.blk i)))
  | nilfunc : Rep E .nilFunc .nilFunc
  | func (fn : Fn) (f c f' c' : List Value) (hf : RepL E f f') (hc : RepL E c c') : Rep E (.func fn ⟨f⟩ ⟨c⟩) (.func fn ⟨f'⟩ ⟨c'⟩)
  | nilif : Rep E .nilIface .nilIface
  | iface (t : TypeId) (v v' : Value) (h : Rep E v v') : Rep E (.iface t v) (.iface t v')
  | agg (c c' : List Value) (h : RepL E c c') : Rep E (.agg ⟨c⟩) (.agg ⟨c'⟩)
  | tuple (c c' : List Value) (h : RepL E c c') : Rep E (.tuple ⟨c⟩) (.tuple ⟨c'⟩)
  | junk (v' : Value) : Rep E junk v'
inductive RepL (E : Env) : List Value → List Value → Prop
  | nil : RepL E [] []
  | cons (v v' : Value) (l l' : List Value) (h : Rep E v v') (t : RepL E l l') : RepL E (v :: l) (v' :: l')
end

section
variable {E : Env}

theorem RepL.length : ∀ {l l' : List Value}, RepL E l l' → l'.length = l.length
  | _, _, .nil => rfl
  | _, _, .cons _ _ _ _ _ t => by simp [t.length]

theorem RepL.get : ∀ {l l' : List Value}, RepL E l l' → ∀ {i : Nat} {v : Value}, l[i]? = some v → ∃ v', l'[i]? = some v' ∧ Rep E v v'
  | _, _, .nil, i, v, h => by simp at h
  | _, _, .cons a a' l l' h t, 0, v, hv => by
    simp only [List.getElem?_cons_zero, Option.some.injEq] at hv
    exact ⟨a', by simp, hv ▸ h⟩
  | _, _, .cons a a' l l' h t, i + 1, v, hv => by
    simp only [List.getElem?_cons_succ] at hv
    simpa using t.get hv

theorem RepL.of_get : ∀ {l l' : List Value}, l'.length = l.length → (∀ (i : Nat) (v : Value), l[i]? = some v → ∃ v', l'[i]? = some v' ∧ Rep E v v') → RepL E l l'
  | [], [], _, _ => .nil
  | [], _ :: _, h, _ => by simp at h
  | _ :: _, [], h, _ => by simp at h
  | a :: l, a' :: l', h, hg => by
    refine .cons _ _ _ _ ?_ (RepL.of_get (by simpa using h) fun i v hv => ?_)
    · obtain ⟨v', h1, h2⟩ := hg 0 a (by simp)
      simp only [List.getElem?_cons_zero, Option.some.injEq] at h1
      exact h1 ▸ h2
    · simpa using hg (i + 1) v (by simpa using hv)

theorem RepL.append {a a' b b' : List Value} (h : RepL E a a') (k : RepL E b b') : RepL E (a ++ b) (a' ++ b') := by
  induction a generalizing a' with
  | nil => cases h; exact k
  | cons x l ih => cases h with | cons _ y _ m hx ht => exact .cons _ _ _ _ hx (ih ht)

theorem RepL.take {a a' : List Value} (n : Nat) (h : RepL E a a') : RepL E (a.take n) (a'.take n) := by
  induction n generalizing a a' with
  | zero => simp; exact .nil
  | succ n ih =>
    cases h with
    | nil => simp; exact .nil
    | cons _ _ _ _ h t => simp only [List.take_succ_cons]; exact .cons _ _ _ _ h (ih t)

theorem RepL.drop {a a' : List Value} (n : Nat) (h : RepL E a a') : RepL E (a.drop n) (a'.drop n) := by
  induction n generalizing a a' with
  | zero => simpa using h
  | succ n ih =>
    cases h with
    | nil => simp; exact .nil
    | cons _ _ _ _ h t => simpa using ih t

theorem RepL.set {a a' : List Value} {v v' : Value} (n : Nat) (h : RepL E a a') (hv : Rep E v v') : RepL E (a.set n v) (a'.set n v') := by
  induction n generalizing a a' with
  | zero =>
    cases h with
    | nil => exact .nil
    | cons _ _ _ _ h t => exact .cons _ _ _ _ hv t
  | succ n ih =>
    cases h with
    | nil => exact .nil
    | cons _ _ _ _ h t => exact .cons _ _ _ _ h (ih t)

theorem RepL.replicate {v v' : Value} (n : Nat) (hv : Rep E v v') : RepL E (List.replicate n v) (List.replicate n v') := by
  induction n with
  | zero => exact .nil
  | succ n ih => exact .cons _ _ _ _ hv ih

theorem RepL.getD {l l' : List Value} (h : RepL E l l') (i : Nat) {d d' : Value} (hd : Rep E d d') : Rep E (l.getD i d) (l'.getD i d') := by
  cases hi : l[i]? with
  | some v =>
    obtain ⟨v', h1, h2⟩ := h.get hi
    simp only [List.getD, hi, h1, Option.getD_some]
    exact h2
  | none =>
    have : l'[i]? = none := by
      rw [List.getElem?_eq_none_iff] at hi ⊢
      rw [h.length]; exact hi
    simp only [List.getD, hi, this, Option.getD_none]
    exact hd
end

inductive AObj where
  /-- a block, whole -/
  | cells (vs : List Value) (e sz : Nat)
  /-- a slice's array of the call's own: its first cells; what lies behind is not known -/
  | row (vs : List Value) (e sz : Nat)
  /-- cells that are read, and not written -/
  | ro (vs : List Value) (sz : Nat)
  | mp (es : List (Value × Value))
  | gone
  deriving Inhabited

abbrev AHeap := List AObj

def AObj.own : AObj → Prop
  | .cells .. | .mp _ => True
  | .row vs _ _ => vs ≠ []
  | _ => False
def AObj.live : AObj → Prop
  | .gone => False
  | .row vs _ _ | .ro vs _ => vs ≠ []
  | _ => True

inductive RepM (E : Env) : List (Value × Value) → List MapEntry → Prop
  | nil : RepM E [] []
  | cons (k v : Value) (e : MapEntry) (l : List (Value × Value)) (l' : List MapEntry) (hk : Rep E k e.key) (hv : Rep E v e.val) (t : RepM E l l') : RepM E ((k, v) :: l) (e :: l')

def Holds (E : Env) (w : World) (i : Nat) : AObj → Prop
  | .cells vs e sz => ∃ c : List Value, w.heap[E.blk i]? = some (.cells ⟨c⟩ e (0, 0)) ∧ E.off i = 0 ∧ E.csz i = c.length ∧ E.esz i = sz ∧ RepL E vs c
  | .row vs e sz => E.esz i = sz ∧ (vs ≠ [] → ∃ c : List Value, w.heap[E.blk i]? = some (.cells ⟨c⟩ e (0, 0)) ∧ E.off i = 0 ∧ E.csz i = c.length ∧ vs.length ≤ c.length ∧ RepL E vs (c.take vs.length))
  | .ro vs sz => E.esz i = sz ∧ ∀ (k : Nat) (v : Value), vs[k]? = some v → ∃ v', w.cell? ⟨E.blk i, E.off i + k, none⟩ = some v' ∧ Rep E v v'
  | .mp es => ∃ (c : List MapEntry) (clock : Nat), w.heap[E.blk i]? = some (.map ⟨c⟩ clock) ∧ RepM E es c ∧ (c.map (·.born)).Nodup ∧ ∀ e ∈ c, e.born < clock
  | .gone => True

structure Good (E : Env) (h : AHeap) (w : World) : Prop where
  n : E.n = h.length
  holds : ∀ (i : Nat) (o : AObj), h[i]? = some o → Holds E w i o
  apart : ∀ (i j : Nat) (o u : AObj), h[i]? = some o → h[j]? = some u → o.own → u.live → i ≠ j → E.blk i ≠ E.blk j

def Owned (E : Env) (h : AHeap) (b : Nat) : Prop := ∃ (i : Nat) (o : AObj), h[i]? = some o ∧ o.own ∧ E.blk i = b

structure Env.Agree (m : Nat) (E E' : Env) : Prop where
  n : m ≤ E'.n
  blk : ∀ i, i < m → E'.blk i = E.blk i
  off : ∀ i, i < m → E'.off i = E.off i
  csz : ∀ i, i < m → E'.csz i = E.csz i
  esz : ∀ i, i < m → E'.esz i = E.esz i

/-- Draws and frozen cells stay. -/
structure Calm (w w' : World) : Prop where
  tape : w'.tape = w.tape
  frozen : ∀ a, w'.frozen? a = w.frozen? a
theorem Calm.refl (w : World) : Calm w w := ⟨rfl, fun _ => rfl⟩
theorem Calm.trans {w w1 w2 : World} (a : Calm w w1) (b : Calm w1 w2) : Calm w w2 := ⟨b.tape.trans a.tape, fun x => (b.frozen x).trans (a.frozen x)⟩

structure Evol (m : Nat) (E : Env) (h : AHeap) (w : World) (E' : Env) (h' : AHeap) (w' : World) : Prop where
  agree : Env.Agree m E E'
  frame : ∀ b, b < w.heap.size → ¬ Owned E h b → w'.heap[b]? = w.heap[b]?
  own : ∀ b, Owned E' h' b → w.heap.size ≤ b ∨ Owned E h b
  size : w.heap.size ≤ w'.heap.size
  os : w'.os = w.os
  tape : Calm w w'
  output : w'.output = w.output

theorem Env.Agree.refl {m : Nat} (E : Env) (h : m ≤ E.n) : Env.Agree m E E := ⟨h, fun _ _ => rfl, fun _ _ => rfl, fun _ _ => rfl, fun _ _ => rfl⟩
theorem Env.Agree.trans {m j : Nat} {E F G : Env} (h : Env.Agree m E F) (k : Env.Agree j F G) (hm : m ≤ j) : Env.Agree m E G :=
  ⟨Nat.le_trans hm k.n, fun i hi => (k.blk i (by omega)).trans (h.blk i hi), fun i hi => (k.off i (by omega)).trans (h.off i hi), fun i hi => (k.csz i (by omega)).trans (h.csz i hi), fun i hi => (k.esz i (by omega)).trans (h.esz i hi)⟩
theorem Env.Agree.le {m k : Nat} {E F : Env} (h : Env.Agree m E F) (hk : k ≤ m) : Env.Agree k E F :=
  ⟨Nat.le_trans hk h.n, fun i hi => h.blk i (by omega), fun i hi => h.off i (by omega), fun i hi => h.csz i (by omega), fun i hi => h.esz i (by omega)⟩

mutual
theorem Rep.mono {E E' : Env} (hE : Env.Agree E.n E E') : ∀ {v v' : Value}, Rep E v v' → Rep E' v v'
  | _, _, .bool b => .bool b
  | _, _, .int k n => .int k n
  | _, _, .float k n => .float k n
  | _, _, .str s => .str s
  | _, _, .nilptr => .nilptr
  | _, _, .ptr i o hi => by rw [← hE.blk i hi, ← hE.off i hi]; exact .ptr i o (Nat.lt_of_lt_of_le hi hE.n)
  | _, _, .nilsl => .nilsl
  | _, _, .slX i o n c a' hi ha hn hc => .slX i o n c a' (Nat.lt_of_lt_of_le hi hE.n) (by rw [hE.blk i hi, hE.off i hi]; exact ha) hn hc
  | _, _, .slU i n c' hi h0 hn hz => by
    rw [← hE.blk i hi, ← hE.off i hi]
    exact .slU i n c' (Nat.lt_of_lt_of_le hi hE.n) h0 hn (by rw [hE.off i hi, hE.csz i hi, hE.esz i hi]; exact hz)
  | _, _, .slE i hi => .slE i (Nat.lt_of_lt_of_le hi hE.n)
  | _, _, .slR i o n c' a' hi ha hn => .slR i o n c' a' (Nat.lt_of_lt_of_le hi hE.n) (by rw [hE.blk i hi, hE.off i hi]; exact ha) hn
  | _, _, .nilmap => .nilmap
  | _, _, .map i hi => by rw [← hE.blk i hi]; exact .map i (Nat.lt_of_lt_of_le hi hE.n)
  | _, _, .nilfunc => .nilfunc
  | _, _, .func fn f c f' c' hf hc => .func fn f c f' c' (RepL.mono hE hf) (RepL.mono hE hc)
  | _, _, .nilif => .nilif
  | _, _, .iface t v v' h => .iface t v v' (Rep.mono hE h)
  | _, _, .agg c c' h => .agg c c' (RepL.mono hE h)
  | _, _, .tuple c c' h => .tuple c c' (RepL.mono hE h)
  | _, _, .junk v' => .junk v'
theorem RepL.mono {E E' : Env} (hE : Env.Agree E.n E E') : ∀ {l l' : List Value}, RepL E l l' → RepL E' l l'
  | _, _, .nil => .nil
  | _, _, .cons v v' l l' h t => .cons v v' l l' (Rep.mono hE h) (RepL.mono hE t)
end

theorem RepM.mono {E E' : Env} (hE : Env.Agree E.n E E') {l : List (Value × Value)} {l' : List MapEntry} (h : RepM E l l') : RepM E' l l' := by
  induction h with
  | nil => exact .nil
  | cons k v e l l' hk hv _ ih => exact .cons k v e l l' (hk.mono hE) (hv.mono hE) ih

/-- What an object says is said of its block alone, and of the ids in it. -/
theorem Holds.mono {E E' : Env} (hE : Env.Agree E.n E E') {w w' : World} {i : Nat} {o : AObj} (hi : i < E.n) (h : Holds E w i o) (hw : o.live → w'.heap[E.blk i]? = w.heap[E.blk i]?) : Holds E' w' i o := by
  cases o with
  | cells vs e sz =>
    obtain ⟨c, h1, h2, h3, h4, h5⟩ := h
    exact ⟨c, by rw [hE.blk i hi, hw trivial, h1], by rw [hE.off i hi, h2], by rw [hE.csz i hi, h3], by rw [hE.esz i hi, h4], h5.mono hE⟩
  | row vs e sz =>
    obtain ⟨hs, h⟩ := h
    refine ⟨by rw [hE.esz i hi, hs], fun hv => ?_⟩
    obtain ⟨c, h1, h2, h3, h4, h5⟩ := h hv
    exact ⟨c, by rw [hE.blk i hi, hw hv, h1], by rw [hE.off i hi, h2], by rw [hE.csz i hi, h3], h4, h5.mono hE⟩
  | ro vs sz =>
    obtain ⟨hs, h⟩ := h
    refine ⟨by rw [hE.esz i hi, hs], fun k v hk => ?_⟩
    obtain ⟨v', h1, h2⟩ := h k v hk
    refine ⟨v', ?_, h2.mono hE⟩
    rw [hE.blk i hi, hE.off i hi]
    rw [World.cell?_of_block (w := w) (hw (fun e => by subst e; simp at hk))]; exact h1
  | mp es =>
    obtain ⟨c, k, h1, h2, h3⟩ := h
    exact ⟨c, k, by rw [hE.blk i hi, hw trivial, h1], h2.mono hE, h3⟩
  | gone => trivial

theorem Owned.lt {E : Env} {h : AHeap} {w : World} (g : Good E h w) {b : Nat} (ho : Owned E h b) : b < w.heap.size := by
  obtain ⟨i, o, hi, ho, rfl⟩ := ho
  have := g.holds i o hi
  rcases Nat.lt_or_ge (E.blk i) w.heap.size with hl | hl
  · exact hl
  · have hn : w.heap[E.blk i]? = none := Array.getElem?_eq_none hl
    cases o with
    | cells vs e sz => obtain ⟨c, h1, _⟩ := this; simp [hn] at h1
    | row vs e sz => obtain ⟨c, h1, _⟩ := this.2 ho; simp [hn] at h1
    | mp es => obtain ⟨c, k, h1, _⟩ := this; simp [hn] at h1
    | ro vs sz => exact ho.elim
    | gone => exact ho.elim

theorem Evol.refl {m : Nat} (E : Env) (h : AHeap) (w : World) (hm : m ≤ E.n) : Evol m E h w E h w :=
  ⟨.refl _ hm, fun _ _ _ => rfl, fun _ h => .inr h, Nat.le_refl _, rfl, .refl _, rfl⟩

theorem Evol.le {m k : Nat} {E F : Env} {h h' : AHeap} {w w' : World} (a : Evol m E h w F h' w') (hk : k ≤ m) : Evol k E h w F h' w' :=
  ⟨a.agree.le hk, a.frame, a.own, a.size, a.os, a.tape, a.output⟩

theorem Evol.trans {m j : Nat} {E F G : Env} {h h' h'' : AHeap} {w w' w'' : World} (a : Evol m E h w F h' w') (b : Evol j F h' w' G h'' w'') (hm : m ≤ j) : Evol m E h w G h'' w'' where
  agree := a.agree.trans b.agree hm
  frame := fun x hx hn => by
    rw [b.frame x (Nat.lt_of_lt_of_le hx a.size) fun ho => by rcases a.own x ho with h1 | h1; · omega
                                                              · exact hn h1]
    exact a.frame x hx hn
  own := fun x ho => by
    rcases b.own x ho with h1 | h1
    · exact .inl (Nat.le_trans a.size h1)
    · exact a.own x h1
  size := Nat.le_trans a.size b.size
  os := b.os.trans a.os
  tape := a.tape.trans b.tape
  output := b.output.trans a.output

end Go.AX
