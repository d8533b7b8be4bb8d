/- A region whose order is open: operations that only add; then, in a forced order, the others. -/
import Derived.Test.YtmcepaeialgipaaCxAX12
namespace Go.AX

def okId1 (p : Nat → Bool) : Value → Bool
  | .pointer (some a) => p a.block
  | .slice (some a) _ _ => p a.block
  | .map (some i) => p i
  | .agg _ | .tuple _ | .func .. | .iface .. => false
  | _ => true

def okId2 (p : Nat → Bool) : Value → Bool
  | .agg ⟨l⟩ => l.all (okId1 p)
  | .func _ ⟨f⟩ ⟨c⟩ => f.all (okId1 p) && c.all (okId1 p)
  | .iface _ v => okId1 p v
  | v => okId1 p v

def okIds (p : Nat → Bool) : Value → Bool
  | .tuple ⟨l⟩ => l.all (okId2 p)
  | v => okId2 p v

def okObj (p : Nat → Bool) : AObj → Bool
  | .cells vs _ _ | .row vs _ _ | .ro vs _ => vs.all (okIds p)
  | .mp es => es.all fun x => okIds p x.1 && okIds p x.2
  | .gone => true

/-- Two environments that are one where it is asked. -/
structure Env.On (p : Nat → Bool) (E F : Env) : Prop where
  n : ∀ i, p i = true → i < F.n
  blk : ∀ i, p i = true → F.blk i = E.blk i
  off : ∀ i, p i = true → F.off i = E.off i
  csz : ∀ i, p i = true → F.csz i = E.csz i
  esz : ∀ i, p i = true → F.esz i = E.esz i

section
variable {E F : Env} {p : Nat → Bool}

theorem rep_on1 (hE : Env.On p E F) {v v' : Value} (ho : okId1 p v = true) (h : Rep E v v') : Rep F v v' := by
  cases h with
  | ptr i o hi => have hp : p i = true := ho; rw [← hE.blk i hp, ← hE.off i hp]; exact .ptr i o (hE.n i hp)
  | slX i o n c a' hi ha hn hc => have hp : p i = true := ho; exact .slX i o n c a' (hE.n i hp) (by rw [hE.blk i hp, hE.off i hp]; exact ha) hn hc
  | slU i n c' hi h0 hn hz =>
    have hp : p i = true := ho
    rw [← hE.blk i hp, ← hE.off i hp]
    exact .slU i n c' (hE.n i hp) h0 hn (by rw [hE.off i hp, hE.csz i hp, hE.esz i hp]; exact hz)
  | slE i hi => have hp : p i = true := ho; exact .slE i (hE.n i hp)
  | slR i o n c' a' hi ha hn => have hp : p i = true := ho; exact .slR i o n c' a' (hE.n i hp) (by rw [hE.blk i hp, hE.off i hp]; exact ha) hn
  | map i hi => have hp : p i = true := ho; rw [← hE.blk i hp]; exact .map i (hE.n i hp)
  | func => exact Bool.noConfusion ho
  | iface => exact Bool.noConfusion ho
  | agg => exact Bool.noConfusion ho
  | tuple => exact Bool.noConfusion ho
  | junk => exact .junk _
  | _ => constructor

theorem repL_on1 (hE : Env.On p E F) : ∀ {l l' : List Value}, l.all (okId1 p) = true → RepL E l l' → RepL F l l'
  | _, _, _, .nil => .nil
  | _, _, ho, .cons _ _ _ _ h t => by
    simp only [List.all_cons, Bool.and_eq_true] at ho
    exact .cons _ _ _ _ (rep_on1 hE ho.1 h) (repL_on1 hE ho.2 t)

theorem rep_on2 (hE : Env.On p E F) {v v' : Value} (ho : okId2 p v = true) (h : Rep E v v') : Rep F v v' := by
  cases h with
  | func fn f c f' c' hf hc =>
    simp only [okId2, Bool.and_eq_true] at ho
    exact .func fn f c f' c' (repL_on1 hE ho.1 hf) (repL_on1 hE ho.2 hc)
  | iface t v v' h => exact .iface t v v' (rep_on1 hE ho h)
  | agg c c' h => exact .agg c c' (repL_on1 hE ho h)
  | tuple => exact Bool.noConfusion ho
  | junk => exact .junk _
  | ptr i o hi => exact rep_on1 hE (v := .pointer (some ⟨i, o, none⟩)) ho (.ptr i o hi)
  | slX i o n c a' hi ha hn hc => exact rep_on1 hE (v := .slice (some ⟨i, o, none⟩) n c) ho (.slX i o n c a' hi ha hn hc)
  | slU i n c' hi h0 hn hz => exact rep_on1 hE (v := .slice (some ⟨i, 0, none⟩) n UNK) ho (.slU i n c' hi h0 hn hz)
  | slE i hi => exact rep_on1 hE (v := .slice (some ⟨i, 0, none⟩) 0 UNK) ho (.slE i hi)
  | slR i o n c' a' hi ha hn => exact rep_on1 hE (v := .slice (some ⟨i, o, none⟩) n UNR) ho (.slR i o n c' a' hi ha hn)
  | map i hi => exact rep_on1 hE (v := .map (some i)) ho (.map i hi)
  | _ => constructor

theorem repL_on2 (hE : Env.On p E F) : ∀ {l l' : List Value}, l.all (okId2 p) = true → RepL E l l' → RepL F l l'
  | _, _, _, .nil => .nil
  | _, _, ho, .cons _ _ _ _ h t => by
    simp only [List.all_cons, Bool.and_eq_true] at ho
    exact .cons _ _ _ _ (rep_on2 hE ho.1 h) (repL_on2 hE ho.2 t)

theorem rep_on (hE : Env.On p E F) {v v' : Value} (ho : okIds p v = true) (h : Rep E v v') : Rep F v v' := by
  have other : okId2 p v = true → Rep F v v' := fun h2 => rep_on2 hE h2 h
  cases v with
  | tuple c =>
    obtain ⟨l⟩ := c
    have hl : l.all (okId2 p) = true := ho
    generalize hv : Value.tuple ⟨l⟩ = u at h
    cases h with
    | tuple c c' h =>
      simp only [Value.tuple.injEq, Array.mk.injEq] at hv
      subst hv
      exact .tuple _ _ (repL_on2 hE hl h)
    | junk => exact .junk _
    | _ => exact absurd hv (by simp)
  | _ => exact other ho

theorem repL_on (hE : Env.On p E F) : ∀ {l l' : List Value}, l.all (okIds p) = true → RepL E l l' → RepL F l l'
  | _, _, _, .nil => .nil
  | _, _, ho, .cons _ _ _ _ h t => by
    simp only [List.all_cons, Bool.and_eq_true] at ho
    exact .cons _ _ _ _ (rep_on hE ho.1 h) (repL_on hE ho.2 t)

theorem repM_on (hE : Env.On p E F) {l : List (Value × Value)} {l' : List MapEntry} (ho : (l.all fun x => okIds p x.1 && okIds p x.2) = true) (h : RepM E l l') : RepM F l l' := by
  induction h with
  | nil => exact .nil
  | cons k v e l l' hk hv _ ih =>
    simp only [List.all_cons, Bool.and_eq_true] at ho
    exact .cons k v e l l' (rep_on hE ho.1.1 hk) (rep_on hE ho.1.2 hv) (ih (by simpa using ho.2))

/-- What holds of an object, in another world where its block is the same, under another environment that is the same at its ids. -/
theorem holds_on (hE : Env.On p E F) {w w' : World} {i : Nat} {o : AObj} (hi : F.blk i = E.blk i ∧ F.off i = E.off i ∧ F.csz i = E.csz i ∧ F.esz i = E.esz i) (ho : okObj p o = true) (h : Holds E w i o)
    (hw : o.live → w'.heap[E.blk i]? = w.heap[E.blk i]?) : Holds F w' i o := by
  obtain ⟨e1, e2, e3, e4⟩ := hi
  cases o with
  | cells vs e sz =>
    obtain ⟨c, h1, h2, h3, h4, h5⟩ := h
    exact ⟨c, by rw [e1, hw trivial, h1], by rw [e2, h2], by rw [e3, h3], by rw [e4, h4], repL_on hE ho h5⟩
  | row vs e sz =>
    refine ⟨by rw [e4, h.1], fun hv => ?_⟩
    obtain ⟨c, h1, h2, h3, h4, h5⟩ := h.2 hv
    exact ⟨c, by rw [e1, hw hv, h1], by rw [e2, h2], by rw [e3, h3], h4, repL_on hE ho h5⟩
  | ro vs sz =>
    refine ⟨by rw [e4, h.1], fun k v hk => ?_⟩
    obtain ⟨v', h1, h2⟩ := h.2 k v hk
    have hv : vs ≠ [] := fun e => by subst e; simp at hk
    refine ⟨v', ?_, rep_on hE (List.all_eq_true.1 ho v (List.mem_of_getElem? hk)) h2⟩
    rw [e1, e2, World.cell?_of_block (w := w) (hw hv)]; exact h1
  | mp es =>
    obtain ⟨c, k, h1, h2, h3⟩ := h
    exact ⟨c, k, by rw [e1, hw trivial, h1], repM_on hE ho h2, h3⟩
  | gone => trivial
end

def Env.tr (E : Env) (m : Nat) : Env := { E with n := m }

mutual
theorem Rep.tr {E F : Env} : ∀ {v v' u : Value}, Rep E v v' → Rep F v u → Rep (E.tr F.n) v v'
  | _, _, _, .bool b, _ => .bool b
  | _, _, _, .int k n, _ => .int k n
  | _, _, _, .float k n, _ => .float k n
  | _, _, _, .str s, _ => .str s
  | _, _, _, .nilptr, _ => .nilptr
  | _, _, _, .ptr i o hi, h => .ptr (E := E.tr F.n) i o (by cases h; assumption)
  | _, _, _, .nilsl, _ => .nilsl
  | _, _, _, .slX i o n c a' hi ha hn hc, h => .slX (E := E.tr F.n) i o n c a' (by cases h <;> assumption) ha hn hc
  | _, _, _, .slU i n c' hi h0 hn hz, h => .slU (E := E.tr F.n) i n c' (by obtain ⟨_, _, _, q, _⟩ := slOf_rep h; exact q.1) h0 hn hz
  | _, _, _, .slE i hi, h => .slE (E := E.tr F.n) i (by obtain ⟨_, _, _, q, _⟩ := slOf_rep h; exact q.1)
  | _, _, _, .slR i o n c' a' hi ha hn, h => .slR (E := E.tr F.n) i o n c' a' (by obtain ⟨_, _, _, q, _⟩ := slOf_rep h; exact q.1) ha hn
  | _, _, _, .nilmap, _ => .nilmap
  | _, _, _, .map i hi, h => .map (E := E.tr F.n) i (by cases h; assumption)
  | _, _, _, .nilfunc, _ => .nilfunc
  | _, _, _, .func fn f c f' c' hf hc, h => by
    cases h with
    | func _ _ _ f2 c2 hf2 hc2 => exact .func fn f c f' c' (RepL.tr hf hf2) (RepL.tr hc hc2)
  | _, _, _, .nilif, _ => .nilif
  | _, _, _, .iface t v v' h1, h => by
    cases h with
    | iface _ _ _ h2 => exact .iface t v v' (Rep.tr h1 h2)
  | _, _, _, .agg c c' h1, h => by
    cases h with
    | agg _ _ h2 => exact .agg c c' (RepL.tr h1 h2)
  | _, _, _, .tuple c c' h1, h => by
    generalize hv : Value.tuple ⟨c⟩ = v at h
    cases h with
    | tuple c2 _ h2 =>
      simp only [Value.tuple.injEq, Array.mk.injEq] at hv
      subst hv
      exact .tuple c c' (RepL.tr h1 h2)
    | junk =>
      simp only [junk, Value.tuple.injEq, Array.mk.injEq] at hv
      subst hv
      exact .junk _
    | _ => exact absurd hv (by simp)
  | _, _, _, .junk v', _ => .junk v'
theorem RepL.tr {E F : Env} : ∀ {l l' m : List Value}, RepL E l l' → RepL F l m → RepL (E.tr F.n) l l'
  | _, _, _, .nil, _ => .nil
  | _, _, _, .cons v v' l l' h t, k => by
    cases k with
    | cons _ _ _ _ h2 t2 => exact .cons v v' l l' (Rep.tr h h2) (RepL.tr t t2)
end

theorem RepM.tr {E F : Env} {l : List (Value × Value)} {l' m : List MapEntry} (h : RepM E l l') (k : RepM F l m) : RepM (E.tr F.n) l l' := by
  induction h generalizing m with
  | nil => exact .nil
  | cons a v e l l' hk hv _ ih =>
    cases k with
    | cons _ _ e2 _ m2 hk2 hv2 t2 => exact .cons a v e l l' (hk.tr hk2) (hv.tr hv2) (ih t2)

theorem Holds.tr {E F : Env} {w w0 : World} {i j : Nat} {o : AObj} (h : Holds E w i o) (k : Holds F w0 j o) : Holds (E.tr F.n) w i o := by
  cases o with
  | cells vs e sz =>
    obtain ⟨c, h1, h2, h3, h4, h5⟩ := h
    obtain ⟨c2, _, _, _, _, k5⟩ := k
    exact ⟨c, h1, h2, h3, h4, h5.tr k5⟩
  | row vs e sz =>
    refine ⟨h.1, fun hv => ?_⟩
    obtain ⟨c, h1, h2, h3, h4, h5⟩ := h.2 hv
    obtain ⟨c2, _, _, _, _, k5⟩ := k.2 hv
    exact ⟨c, h1, h2, h3, h4, h5.tr k5⟩
  | ro vs sz =>
    refine ⟨h.1, fun q v hq => ?_⟩
    obtain ⟨v', h1, h2⟩ := h.2 q v hq
    obtain ⟨u, _, k2⟩ := k.2 q v hq
    exact ⟨v', h1, h2.tr k2⟩
  | mp es =>
    obtain ⟨c, q, h1, h2, h3⟩ := h
    obtain ⟨c2, _, _, k2, _⟩ := k
    exact ⟨c, q, h1, h2.tr k2, h3⟩
  | gone => trivial

/-- Nothing but the number of ids and what is beyond it may differ. -/
theorem holds_agree {E F : Env} {w : World} {i : Nat} {o : AObj} (hE : Env.Agree E.n E F) (hi : i < E.n) (h : Holds E w i o) : Holds F w i o := h.mono hE hi (fun _ => rfl)

end Go.AX
