/- Ids renamed, things forgotten: what is known stays known; a call's contract on a heap of its own serves in every heap that holds the like. -/
import Derived.Test.YtmcepaeialgipaaCxAX17
namespace Go.AX
set_option linter.unusedSimpArgs false
set_option linter.unusedVariables false

def rn1 (τ : Nat → Nat) : Value → Value
  | .pointer (some a) => .pointer (some ⟨τ a.block, a.off, a.spot⟩)
  | .slice (some a) n c => .slice (some ⟨τ a.block, a.off, a.spot⟩) n c
  | .map (some i) => .map (some (τ i))
  | v => v

def rn2 (τ : Nat → Nat) : Value → Value
  | .agg ⟨l⟩ => .agg ⟨l.map (rn1 τ)⟩
  | .func fn ⟨f⟩ ⟨c⟩ => .func fn ⟨f.map (rn1 τ)⟩ ⟨c.map (rn1 τ)⟩
  | .iface t v => .iface t (rn1 τ v)
  | v => rn1 τ v

def rnV (τ : Nat → Nat) : Value → Value
  | .tuple ⟨l⟩ => .tuple ⟨l.map (rn2 τ)⟩
  | v => rn2 τ v

def rnO (τ : Nat → Nat) : AObj → AObj
  | .cells vs e sz => .cells (vs.map (rnV τ)) e sz
  | .row vs e sz => .row (vs.map (rnV τ)) e sz
  | .ro vs sz => .ro (vs.map (rnV τ)) sz
  | .mp es => .mp (es.map fun x => (rnV τ x.1, rnV τ x.2))
  | .gone => .gone

/-- An environment seen through a renaming. -/
def Env.via (E : Env) (τ : Nat → Nat) (n : Nat) : Env where
  n := n
  blk := fun i => E.blk (τ i)
  off := fun i => E.off (τ i)
  csz := fun i => E.csz (τ i)
  esz := fun i => E.esz (τ i)

section
variable {E : Env} {τ : Nat → Nat} {n : Nat}

theorem via1 {v v' : Value} (ho : okId1 (fun i => decide (i < n)) v = true) (h : Rep E (rn1 τ v) v') : Rep (E.via τ n) v v' := by
  cases v with
  | pointer a =>
    cases a with
    | none => cases h; exact .nilptr
    | some a =>
      obtain ⟨b, o, sp⟩ := a
      simp only [rn1] at h
      cases h with
      | ptr i o hi => exact .ptr (E := E.via τ n) b o (show b < n by simpa [okId1] using ho)
  | slice a k c =>
    cases a with
    | none => cases h; exact .nilsl
    | some a =>
      obtain ⟨b, o, sp⟩ := a
      have hb : b < n := by simpa [okId1] using ho
      simp only [rn1] at h
      cases h with
      | slX i o n' c a' hi ha hn hc => exact .slX (E := E.via τ n) b o k c a' hb ha hn hc
      | slU i n' c' hi h0 hn hz => exact .slU (E := E.via τ n) b k c' hb h0 hn hz
      | slE i hi => exact .slE (E := E.via τ n) b hb
      | slR i o n' c' a' hi ha hn => exact .slR (E := E.via τ n) b o k c' a' hb ha hn
  | map r =>
    cases r with
    | none => cases h; exact .nilmap
    | some i => simp only [rn1] at h; cases h; exact .map (E := E.via τ n) i (show i < n by simpa [okId1] using ho)
  | bool b => cases h; exact .bool b
  | int k m => cases h; exact .int k m
  | float k m => cases h; exact .float k m
  | complex k a b => cases h
  | string s => cases h; exact .str s
  | chan r => cases h
  | nilFunc => cases h; exact .nilfunc
  | nilIface => cases h; exact .nilif
  | func => exact Bool.noConfusion ho
  | iface => exact Bool.noConfusion ho
  | agg => exact Bool.noConfusion ho
  | tuple => exact Bool.noConfusion ho

theorem viaL1 : ∀ {l l' : List Value}, l.all (okId1 fun i => decide (i < n)) = true → RepL E (l.map (rn1 τ)) l' → RepL (E.via τ n) l l'
  | [], _, _, h => by cases h; exact .nil
  | v :: l, _, ho, h => by
    simp only [List.all_cons, Bool.and_eq_true] at ho
    cases h with
    | cons _ _ _ _ hv ht => exact .cons _ _ _ _ (via1 ho.1 hv) (viaL1 ho.2 ht)

theorem via2 {v v' : Value} (ho : okId2 (fun i => decide (i < n)) v = true) (h : Rep E (rn2 τ v) v') : Rep (E.via τ n) v v' := by
  have other : okId1 (fun i => decide (i < n)) v = true → rn2 τ v = rn1 τ v → Rep (E.via τ n) v v' := fun h1 h2 => via1 h1 (h2 ▸ h)
  cases v with
  | agg c =>
    obtain ⟨l⟩ := c
    simp only [rn2] at h
    cases h with
    | agg _ c' h => exact .agg _ _ (viaL1 ho h)
  | func fn f c =>
    obtain ⟨f⟩ := f; obtain ⟨c⟩ := c
    simp only [okId2, Bool.and_eq_true] at ho
    simp only [rn2] at h
    cases h with
    | func _ _ _ f' c' hf hc => exact .func _ _ _ _ _ (viaL1 ho.1 hf) (viaL1 ho.2 hc)
  | iface t u =>
    simp only [rn2] at h
    cases h with
    | iface _ _ _ h => exact .iface _ _ _ (via1 ho h)
  | tuple => exact Bool.noConfusion ho
  | _ => exact other ho rfl

theorem viaL2 : ∀ {l l' : List Value}, l.all (okId2 fun i => decide (i < n)) = true → RepL E (l.map (rn2 τ)) l' → RepL (E.via τ n) l l'
  | [], _, _, h => by cases h; exact .nil
  | v :: l, _, ho, h => by
    simp only [List.all_cons, Bool.and_eq_true] at ho
    cases h with
    | cons _ _ _ _ hv ht => exact .cons _ _ _ _ (via2 ho.1 hv) (viaL2 ho.2 ht)

theorem viaV {v v' : Value} (ho : okIds (fun i => decide (i < n)) v = true) (h : Rep E (rnV τ v) v') : Rep (E.via τ n) v v' := by
  have other : okId2 (fun i => decide (i < n)) v = true → rnV τ v = rn2 τ v → Rep (E.via τ n) v v' := fun h1 h2 => via2 h1 (h2 ▸ h)
  cases v with
  | tuple c =>
    obtain ⟨l⟩ := c
    simp only [rnV] at h
    generalize hv : Value.tuple ⟨l.map (rn2 τ)⟩ = u at h
    cases h with
    | tuple c2 c' h =>
      simp only [Value.tuple.injEq, Array.mk.injEq] at hv
      subst hv
      exact .tuple _ _ (viaL2 ho h)
    | junk =>
      simp only [junk, Value.tuple.injEq, Array.mk.injEq] at hv
      match l, hv with
      | [], hv => simp at hv
      | _ :: _ :: _, hv => simp at hv
      | [x], hv =>
        simp only [List.map_cons, List.map_nil, List.cons.injEq, and_true] at hv
        have : x = .nilFunc := by
          cases x with
          | nilFunc => rfl
          | agg c => obtain ⟨c⟩ := c; simp [rn2] at hv
          | func fn f c => obtain ⟨f⟩ := f; obtain ⟨c⟩ := c; simp [rn2] at hv
          | pointer a => cases a <;> simp [rn2, rn1] at hv
          | slice a k c => cases a <;> simp [rn2, rn1] at hv
          | map r => cases r <;> simp [rn2, rn1] at hv
          | _ => simp [rn2, rn1] at hv
        subst this
        exact .junk _
    | _ => exact absurd hv (by simp)
  | _ => exact other ho rfl

theorem viaL : ∀ {l l' : List Value}, l.all (okIds fun i => decide (i < n)) = true → RepL E (l.map (rnV τ)) l' → RepL (E.via τ n) l l'
  | [], _, _, h => by cases h; exact .nil
  | v :: l, _, ho, h => by
    simp only [List.all_cons, Bool.and_eq_true] at ho
    cases h with
    | cons _ _ _ _ hv ht => exact .cons _ _ _ _ (viaV ho.1 hv) (viaL ho.2 ht)

theorem viaM : ∀ {l : List (Value × Value)} {l' : List MapEntry}, (l.all fun x => okIds (fun i => decide (i < n)) x.1 && okIds (fun i => decide (i < n)) x.2) = true → RepM E (l.map fun x => (rnV τ x.1, rnV τ x.2)) l' → RepM (E.via τ n) l l'
  | [], _, _, h => by cases h; exact .nil
  | (k, v) :: l, _, ho, h => by
    simp only [List.all_cons, Bool.and_eq_true] at ho
    cases h with
    | cons _ _ _ _ _ hk hv ht => exact .cons _ _ _ _ _ (viaV ho.1.1 hk) (viaV ho.1.2 hv) (viaM (by simpa using ho.2) ht)

theorem viaH {w : World} {i : Nat} {o : AObj} (ho : okObj (fun i => decide (i < n)) o = true) (h : Holds E w (τ i) (rnO τ o)) : Holds (E.via τ n) w i o := by
  cases o with
  | cells vs e sz =>
    obtain ⟨c, h1, h2, h3, h4, h5⟩ := h
    exact ⟨c, h1, h2, h3, h4, viaL ho h5⟩
  | row vs e sz =>
    refine ⟨h.1, fun hv => ?_⟩
    obtain ⟨c, h1, h2, h3, h4, h5⟩ := h.2 (by simpa using hv)
    simp only [List.length_map] at h4 h5
    exact ⟨c, h1, h2, h3, h4, viaL ho h5⟩
  | ro vs sz =>
    refine ⟨h.1, fun k v hk => ?_⟩
    obtain ⟨v', h1, h2⟩ := h.2 k (rnV τ v) (by simp [hk])
    exact ⟨v', h1, viaV (List.all_eq_true.1 ho v (List.mem_of_getElem? hk)) h2⟩
  | mp es =>
    obtain ⟨c, q, h1, h2, h3⟩ := h
    exact ⟨c, q, h1, viaM ho h2, h3⟩
  | gone => trivial
end

/-- Of a row, a block or cells that are read: what is read of it. -/
def lends : AObj → AObj → Prop
  | .ro vs sz, .ro us sz' => sz = sz' ∧ ∃ r, us = vs ++ r
  | .ro vs sz, .cells us _ sz' => sz = sz' ∧ ∃ r, us = vs ++ r
  | .ro vs sz, .row us _ sz' => sz = sz' ∧ ∃ r, us = vs ++ r
  | a, b => a = b

theorem lends_holds {E : Env} {w : World} {i : Nat} {a b : AObj} (h : lends a b) (hb : Holds E w i b) : Holds E w i a := by
  cases a with
  | ro vs sz =>
    have key : ∀ us, objCells [b] 0 = some us → (∃ r, us = vs ++ r) → (E.esz i = sz) → (∀ (k : Nat) (v : Value), us[k]? = some v → ∃ v', w.cell? ⟨E.blk i, E.off i + k, none⟩ = some v' ∧ Rep E v v') → Holds E w i (.ro vs sz) := by
      intro us _ ⟨r, hr⟩ hs hc
      refine ⟨hs, fun k v hk => hc k v ?_⟩
      rw [hr, List.getElem?_append_left (List.getElem?_eq_some_iff.1 hk).1]
      exact hk
    cases b with
    | ro us sz' =>
      obtain ⟨rfl, hr⟩ := h
      exact key us rfl hr hb.1 hb.2
    | cells us e sz' =>
      obtain ⟨rfl, hr⟩ := h
      obtain ⟨c, h1, h2, h3, h4, h5⟩ := hb
      refine key us rfl hr h4 fun k v hk => ?_
      obtain ⟨v', q1, q2⟩ := h5.get hk
      refine ⟨v', ?_, q2⟩
      rw [h2, Nat.zero_add, cell_of_row w _ _ _ _ _ h1]
      simpa using q1
    | row us e sz' =>
      obtain ⟨rfl, hr⟩ := h
      refine key us rfl hr hb.1 fun k v hk => ?_
      obtain ⟨c, h1, h2, h3, h4, h5⟩ := hb.2 (fun e => by subst e; simp at hk)
      obtain ⟨v', q1, q2⟩ := h5.get hk
      refine ⟨v', ?_, q2⟩
      rw [h2, Nat.zero_add, cell_of_row w _ _ _ _ _ h1]
      rw [List.getElem?_take] at q1
      split at q1
      · simpa using q1
      · simp at q1
    | mp => exact absurd h (by simp [lends])
    | gone => exact absurd h (by simp [lends])
  | cells => have : _ = b := h; subst this; exact hb
  | row => have : _ = b := h; subst this; exact hb
  | mp => have : _ = b := h; subst this; exact hb
  | gone => trivial

/-! Forgetting and renaming, within a call. -/

/-- What is known in the first way is known in the second. -/
def AWk (m : Nat) (ts : Tm) (h : AHeap) (ts2 : Tm) (h2 : AHeap) : Prop :=
  m ≤ h.length → ∀ (E : Env) (w : World) (a : Array Value), Good E h w → RepT E ts a → ∃ E2, Good E2 h2 w ∧ RepT E2 ts2 a ∧ Evol m E h w E2 h2 w

theorem ATrip.weaken {P : Program} {m : Nat} {c : Code} {ts ts2 : Tm} {h h2 : AHeap} {Q : Exit → Tm → AHeap → Prop} (k : AWk m ts h ts2 h2) (t : ATrip P m c ts2 h2 Q) : ATrip P m c ts h Q := by
  intro hm E w a g r d
  obtain ⟨E2, g2, r2, ev⟩ := k hm E w a.tmps g r
  exact Code.wp_mono (fun _ _ _ hp => hp.step ev) (t (ev.m_le g2) E2 w a g2 r2 d)

theorem ATrip.result {P : Program} {m : Nat} {c : Code} {ts : Tm} {h : AHeap} {Q Q' : Exit → Tm → AHeap → Prop} (t : ATrip P m c ts h Q) (hq : ∀ e t k, Q e t k → ∃ t' k', AWk m t k t' k' ∧ Q' e t' k') : ATrip P m c ts h Q' := by
  intro hm E w a g r d
  refine Code.wp_mono ?_ (t hm E w a g r d)
  rintro e a' w' ⟨ts', h', E', g', ev, r', d', q⟩
  obtain ⟨t2, k2, wk, q2⟩ := hq e ts' h' q
  obtain ⟨E2, g2, r2, ev2⟩ := wk (ev.m_le g') E' w' a'.tmps g' r'
  exact ⟨t2, k2, E2, g2, ev.trans ev2 (Nat.le_refl _), r2, d', q2⟩

theorem AWk.refl {m : Nat} {ts : Tm} {h : AHeap} : AWk m ts h ts h :=
  fun hm E w a g r => ⟨E, g, r, .refl E h w (by rw [g.n]; exact hm)⟩

/-- Temporaries that one still tells of. -/
def Tm.keeps (τ : Nat → Nat) (ts2 ts : Tm) (l : List Tmp) : Prop := ∀ x, x ∈ l → rnV τ (ts2.get x) = ts.get x

theorem rename_good {E : Env} {h h2 : AHeap} {w : World} {m : Nat} {τ : Nat → Nat} (g : Good E h w) (hm : m ≤ h.length) (hm2 : m ≤ h2.length) (hτ : ∀ i, i < m → τ i = i)
    (hobj : ∀ (i : Nat) (o : AObj), h2[i]? = some o → o = .gone ∨ h[τ i]? = some (rnO τ o)) (hok : ∀ o ∈ h2, okObj (fun i => decide (i < h2.length)) o = true)
    (hinj : ∀ (i j : Nat) (o u : AObj), h2[i]? = some o → h2[j]? = some u → o.own → u.live → i ≠ j → τ i ≠ τ j) : Good (E.via τ h2.length) h2 w ∧ Evol m E h w (E.via τ h2.length) h2 w := by
  have hlive : ∀ {o : AObj}, o.live → (rnO τ o).live := by
    intro o ho
    cases o <;> first | exact ho | (simp only [rnO, AObj.live] at ho ⊢; simpa using ho)
  have hown : ∀ {o : AObj}, o.own → (rnO τ o).own := by
    intro o ho
    cases o <;> first | exact ho | (simp only [rnO, AObj.own] at ho ⊢; simpa using ho)
  refine ⟨⟨rfl, fun i o hi => ?_, fun i j o u hi hj ho hu hne => ?_⟩, ⟨⟨hm2, fun i hi => ?_, fun i hi => ?_, fun i hi => ?_, fun i hi => ?_⟩, fun _ _ _ => rfl, ?_, Nat.le_refl _, rfl, .refl _, rfl⟩⟩
  · rcases hobj i o hi with rfl | h1
    · trivial
    · exact viaH (hok o (List.mem_of_getElem? hi)) (g.holds _ _ h1)
  · exact g.apart _ _ _ _ ((hobj i o hi).resolve_left (live_ne (own_live ho))) ((hobj j u hj).resolve_left (live_ne hu)) (hown ho) (hlive hu) (hinj i j o u hi hj ho hu hne)
  · show E.blk (τ i) = E.blk i; rw [hτ i hi]
  · show E.off (τ i) = E.off i; rw [hτ i hi]
  · show E.csz (τ i) = E.csz i; rw [hτ i hi]
  · show E.esz (τ i) = E.esz i; rw [hτ i hi]
  · rintro b ⟨i, o, hi, ho, rfl⟩
    exact .inr ⟨τ i, _, (hobj i o hi).resolve_left (live_ne (own_live ho)), hown ho, rfl⟩

end Go.AX
