/- A call's contract on a small heap serves in every heap that holds the like. -/
import Derived.Test.YtmcepaeialgipaaCxAX21
namespace Go.AX

def sig (σ : Nat → Nat) (n0 N : Nat) : Nat → Nat := fun i => if i < n0 then σ i else N + (i - n0)

/-- What the call has turned is put back. -/
noncomputable def putBack (τ : Nat → Nat) : AHeap → AHeap → Nat → AHeap → AHeap
  | [], _, _, h => h
  | _ :: _, [], _, h => h
  | .ro _ _ :: r, _ :: r', i, h => putBack τ r r' (i + 1) h
  | _ :: r, o' :: r', i, h => putBack τ r r' (i + 1) (h.set (τ i) (rnO τ o'))

noncomputable def mergeH (σ : Nat → Nat) (h h0 h0' : AHeap) : AHeap :=
  putBack (sig σ h0.length h.length) h0 h0' 0 h ++ (h0'.drop h0.length).map (rnO (sig σ h0.length h.length))

theorem putBack_length (τ : Nat → Nat) : ∀ (r r' : AHeap) (i : Nat) (h : AHeap), (putBack τ r r' i h).length = h.length
  | [], _, _, _ => rfl
  | _ :: _, [], _, _ => by unfold putBack; rfl
  | o :: r, o' :: r', i, h => by
    cases o with
    | ro => simp only [putBack]; exact putBack_length τ r r' (i + 1) h
    | _ => simp only [putBack]; rw [putBack_length τ r r' (i + 1)]; simp

/-- A place of the heap behind it: as it was, or one that was put back. -/
theorem putBack_get (τ : Nat → Nat) : ∀ (r r' : AHeap) (i0 : Nat) (h : AHeap) (p : Nat) (o : AObj), r.length ≤ r'.length → (putBack τ r r' i0 h)[p]? = some o →
    (h[p]? = some o ∧ ∀ (q : Nat) (u : AObj), r[q]? = some u → notRo u = true → τ (i0 + q) ≠ p) ∨
    (∃ (q : Nat) (u u' : AObj), r[q]? = some u ∧ notRo u = true ∧ r'[q]? = some u' ∧ τ (i0 + q) = p ∧ o = rnO τ u')
  | [], _, _, _, _, _, _, hp => .inl ⟨hp, fun q u hq => by simp at hq⟩
  | _ :: _, [], _, _, _, _, hl, _ => by simp at hl
  | a :: r, a' :: r', i0, h, p, o, hl, hp => by
    have hl' : r.length ≤ r'.length := by simpa using hl
    have shift : ∀ q, i0 + (q + 1) = i0 + 1 + q := fun q => by omega
    by_cases hn : notRo a = true
    · have hpb : putBack τ (a :: r) (a' :: r') i0 h = putBack τ r r' (i0 + 1) (h.set (τ i0) (rnO τ a')) := by
        cases a <;> first | rfl | exact Bool.noConfusion hn
      rw [hpb] at hp
      rcases putBack_get τ r r' (i0 + 1) _ p o hl' hp with ⟨h1, h2⟩ | ⟨q, u, u', h1, h2, h3, h4, h5⟩
      · by_cases he : τ i0 = p
        · subst he
          have hlt : τ i0 < h.length := by
            have := (List.getElem?_eq_some_iff.1 h1).1
            simpa using this
          rw [List.getElem?_set_self hlt] at h1
          exact .inr ⟨0, a, a', rfl, hn, rfl, by simp, (Option.some.inj h1).symm⟩
        · rw [List.getElem?_set_ne he] at h1
          refine .inl ⟨h1, fun q u hq hu => ?_⟩
          cases q with
          | zero => simpa using he
          | succ q => rw [shift]; exact h2 q u (by simpa using hq) hu
      · exact .inr ⟨q + 1, u, u', by simpa using h1, h2, by simpa using h3, by rw [shift]; exact h4, h5⟩
    · have hpb : putBack τ (a :: r) (a' :: r') i0 h = putBack τ r r' (i0 + 1) h := by
        cases a <;> first | rfl | exact absurd rfl hn
      rw [hpb] at hp
      rcases putBack_get τ r r' (i0 + 1) _ p o hl' hp with ⟨h1, h2⟩ | ⟨q, u, u', h1, h2, h3, h4, h5⟩
      · refine .inl ⟨h1, fun q u hq hu => ?_⟩
        cases q with
        | zero => simp only [List.getElem?_cons_zero, Option.some.injEq] at hq; subst hq; exact absurd hu hn
        | succ q => rw [shift]; exact h2 q u (by simpa using hq) hu
      · exact .inr ⟨q + 1, u, u', by simpa using h1, h2, by simpa using h3, by rw [shift]; exact h4, h5⟩

theorem lends_live {a b : AObj} (h : lends a b) (hl : a.live) : b.live := by
  cases a with
  | ro vs sz =>
    have hne : vs ≠ [] := hl
    cases b with
    | ro us sz' => obtain ⟨_, r, rfl⟩ := h; exact fun e => hne (List.append_eq_nil_iff.1 e).1
    | cells => trivial
    | row us e sz' => obtain ⟨_, r, rfl⟩ := h; exact fun e => hne (List.append_eq_nil_iff.1 e).1
    | mp => exact absurd h (by simp [lends])
    | gone => exact absurd h (by simp [lends])
  | cells => have : _ = b := h; subst this; exact hl
  | row => have : _ = b := h; subst this; exact hl
  | mp => have : _ = b := h; subst this; exact hl
  | gone => exact hl.elim

theorem lends_own {a b : AObj} (h : lends a b) (hl : a.own) : a = b := by
  cases a with
  | ro => exact hl.elim
  | cells => exact h
  | row => exact h
  | mp => exact h
  | gone => exact h

theorem AEq.at {P : Program} {k : FuncId} {args0 : List Value} {v0 : Value} {h0 h0' : AHeap} (t : AEq P k args0 h0 v0 h0') (σ : Nat → Nat) (h : AHeap)
    (hinj : ∀ i j, i < h0.length → j < h0.length → σ i = σ j → i = j)
    (hlend : ∀ (i : Nat) (o : AObj), h0[i]? = some o → ∃ u, h[σ i]? = some u ∧ lends (rnO σ o) u)
    (hok0 : (h0.all (okObj fun i => decide (i < h0.length))) = true) (hargs : args0.all (okIds fun i => decide (i < h0.length)) = true)
    (hres : okIds (fun i => decide (i < h0'.length)) v0 = true) (hok1 : (h0'.all (okObj fun i => decide (i < h0'.length))) = true)
    (hnew : ∀ (i : Nat) (o : AObj), h0'[i]? = some o → (∀ u, h0[i]? = some u → notRo u = true) → notRo o = true)
    (hle : h0.length ≤ h0'.length) :
    AEq P k (args0.map (rnV σ)) h (rnV (sig σ h0.length h.length) v0) (mergeH σ h h0 h0') := by
  intro E w args' g ra
  have hσlt : ∀ i, i < h0.length → σ i < E.n := by
    intro i hi
    obtain ⟨u, hu, _⟩ := hlend i h0[i] (List.getElem?_eq_getElem hi)
    exact g.lt hu
  have hobj0 : ∀ {i : Nat} {o : AObj}, h0[i]? = some o → okObj (fun i => decide (i < h0.length)) o = true := fun hi => List.all_eq_true.1 hok0 _ (List.mem_of_getElem? hi)
  have hobj1 : ∀ {i : Nat} {o : AObj}, h0'[i]? = some o → okObj (fun i => decide (i < h0'.length)) o = true := fun hi => List.all_eq_true.1 hok1 _ (List.mem_of_getElem? hi)
  have g0 : Good (E.via σ h0.length) h0 w := by
    refine ⟨rfl, fun i o hi => ?_, fun i j o u hi hj ho hu hne => ?_⟩
    · obtain ⟨b, hb, hl⟩ := hlend i o hi
      exact viaH (hobj0 hi) (lends_holds hl (g.holds _ _ hb))
    · obtain ⟨b, hb, hl⟩ := hlend i o hi
      obtain ⟨c, hc, hl2⟩ := hlend j u hj
      have e1 := lends_own hl (rnO_own.2 ho)
      subst e1
      refine g.apart _ _ _ _ hb hc (rnO_own.2 ho) (lends_live hl2 (rnO_live.2 hu)) fun he => hne (hinj i j (List.getElem?_eq_some_iff.1 hi).1 (List.getElem?_eq_some_iff.1 hj).1 he)
  refine (t _ w args' g0 (viaL hargs ra)).mono ?_
  rintro e w' ⟨vx, v', hx, F, rfl, gF, ev, rv, rfl, rfl⟩
  have hF := gF.n
  -- the new environment
  let E' : Env := ⟨h.length + (F.n - h0.length), fun p => if p < h.length then E.blk p else F.blk (h0.length + (p - h.length)), fun p => if p < h.length then E.off p else F.off (h0.length + (p - h.length)), fun p => if p < h.length then E.csz p else F.csz (h0.length + (p - h.length)), fun p => if p < h.length then E.esz p else F.esz (h0.length + (p - h.length))⟩
  have hN : E.n = h.length := g.n
  have hag : Env.Agree h.length E E' := ⟨Nat.le_add_right _ _, fun _ hi => if_pos hi, fun _ hi => if_pos hi, fun _ hi => if_pos hi, fun _ hi => if_pos hi⟩
  have hsig_old : ∀ {i}, i < h0.length → sig σ h0.length h.length i = σ i := fun hi => if_pos hi
  have hsig_new : ∀ {i}, h0.length ≤ i → sig σ h0.length h.length i = h.length + (i - h0.length) := fun hi => if_neg (by omega)
  have hvia : Env.Agree F.n F (E'.via (sig σ h0.length h.length) F.n) := by
    have key : ∀ (f : Env → Nat → Nat), (∀ p, f E' p = if p < h.length then f E p else f F (h0.length + (p - h.length))) → (∀ i, i < h0.length → f F i = f E (σ i)) → ∀ i, i < F.n → f E' (sig σ h0.length h.length i) = f F i := by
      intro f hf hold i hi
      rcases Nat.lt_or_ge i h0.length with hlt | hge
      · rw [hsig_old hlt, hf, if_pos (by rw [← hN]; exact hσlt i hlt), hold i hlt]
      · rw [hsig_new hge, hf, if_neg (by omega)]
        congr 1; omega
    exact ⟨Nat.le_refl _, key (·.blk) (fun _ => rfl) (fun i hi => ev.agree.blk i hi), key (·.off) (fun _ => rfl) (fun i hi => ev.agree.off i hi), key (·.csz) (fun _ => rfl) (fun i hi => ev.agree.csz i hi), key (·.esz) (fun _ => rfl) (fun i hi => ev.agree.esz i hi)⟩
  have hτ : ∀ i, i < F.n → sig σ h0.length h.length i < E'.n := by
    intro i hi
    rcases Nat.lt_or_ge i h0.length with hlt | hge
    · rw [hsig_old hlt]; have := hσlt i hlt; show _ < h.length + _; omega
    · rw [hsig_new hge]; show _ < h.length + (F.n - h0.length); omega
  have sinj : ∀ {i j : Nat}, i < F.n → j < F.n → sig σ h0.length h.length i = sig σ h0.length h.length j → i = j := by
    intro i j hi hj he
    rcases Nat.lt_or_ge i h0.length with h1 | h1 <;> rcases Nat.lt_or_ge j h0.length with h2 | h2
    · rw [hsig_old h1, hsig_old h2] at he; exact hinj i j h1 h2 he
    · rw [hsig_old h1, hsig_new h2] at he; have := hσlt i h1; omega
    · rw [hsig_new h1, hsig_old h2] at he; have := hσlt j h2; omega
    · rw [hsig_new h1, hsig_new h2] at he; omega
  -- the heap behind it
  have getc : ∀ {p : Nat} {o : AObj}, (mergeH σ h h0 hx)[p]? = some o →
      (p < h.length ∧ h[p]? = some o ∧ ∀ (q : Nat) (u : AObj), h0[q]? = some u → notRo u = true → σ q ≠ p) ∨
      (∃ (i : Nat) (u : AObj), hx[i]? = some u ∧ sig σ h0.length h.length i = p ∧ o = rnO (sig σ h0.length h.length) u ∧ notRo u = true) := by
    intro p o hp
    unfold mergeH at hp
    rw [List.getElem?_append, putBack_length] at hp
    split at hp
    · rename_i hlt
      rcases putBack_get _ h0 hx 0 h p o hle hp with ⟨h1, h2⟩ | ⟨q, u, u', h1, h2, h3, h4, h5⟩
      · refine .inl ⟨hlt, h1, fun q u hq hu he => h2 q u hq hu ?_⟩
        rw [Nat.zero_add, hsig_old (List.getElem?_eq_some_iff.1 hq).1]; exact he
      · rw [Nat.zero_add] at h4
        exact .inr ⟨q, u', h3, h4, h5, hnew q u' h3 fun u2 hu2 => by rw [h1] at hu2; cases hu2; exact h2⟩
    · rename_i hlt
      rw [List.getElem?_map, Option.map_eq_some_iff] at hp
      obtain ⟨u, hu, rfl⟩ := hp
      rw [List.getElem?_drop] at hu
      refine .inr ⟨_, u, hu, ?_, rfl, hnew _ u hu fun u2 hu2 => ?_⟩
      · rw [hsig_new (by omega)]; omega
      · have := (List.getElem?_eq_some_iff.1 hu2).1; omega
  have hb' : ∀ {i : Nat}, i < F.n → E'.blk (sig σ h0.length h.length i) = F.blk i := fun hi => hvia.blk _ hi
  have hlo : ∀ {u : AObj}, notRo u = true → u.live → u.own := by
    intro u hu hl
    cases u with
    | ro => exact Bool.noConfusion hu
    | cells => exact trivial
    | row => exact hl
    | mp => exact trivial
    | gone => exact hl.elim
  -- where a block of the call's stands
  have fblk : ∀ {i : Nat} {u : AObj}, hx[i]? = some u → u.own → (w.heap.size ≤ F.blk i) ∨ ∃ (q : Nat) (z : AObj), h0[q]? = some z ∧ z.own ∧ F.blk i = E.blk (σ q) ∧ ∃ z', h[σ q]? = some z' ∧ z'.own := by
    intro i u hi hu
    rcases ev.own _ ⟨i, u, hi, hu, rfl⟩ with h1 | ⟨q, z, hq, hz, he⟩
    · exact .inl h1
    · obtain ⟨b, hb, hl⟩ := hlend q z hq
      have e1 := lends_own hl (rnO_own.2 hz)
      subst e1
      exact .inr ⟨q, z, hq, hz, he.symm, _, hb, rnO_own.2 hz⟩
  have zro : ∀ {z : AObj}, z.own → notRo z = true := by
    intro z hz; cases z <;> first | rfl | exact hz.elim
  -- the old, untouched, stands apart from what the call has
  have apart1 : ∀ {p : Nat} {o : AObj}, h[p]? = some o → o.live → (∀ (q : Nat) (u : AObj), h0[q]? = some u → notRo u = true → σ q ≠ p) → ∀ {i : Nat} {u : AObj}, hx[i]? = some u → u.own → F.blk i ≠ E.blk p := by
    intro p o hp hl hno i u hi hu
    rcases fblk hi hu with h1 | ⟨q, z, hq, hz, he, z', hz', hzo⟩
    · have := g.block_lt hp hl; omega
    · rw [he]
      exact g.apart _ _ _ _ hz' hp hzo hl (hno q z hq (zro hz))
  refine ⟨_, v', _, E', rfl, ⟨?_, ?_, ?_⟩, ⟨hag, ?_, ?_, ev.size, ev.os, ev.tape, ev.output⟩, rviaV hτ (by rw [hF]; exact hres) (rv.mono hvia), rfl, rfl⟩
  · show h.length + (F.n - h0.length) = _
    unfold mergeH
    rw [List.length_append, putBack_length, List.length_map, List.length_drop, hF]
  · intro p o hp
    rcases getc hp with ⟨h1, h2, h3⟩ | ⟨i, u, h1, rfl, rfl, h4⟩
    · refine (g.holds p o h2).mono (by rw [hN]; exact hag) (by rw [hN]; exact h1) (fun hl => ev.frame _ (g.block_lt h2 hl) ?_)
      rintro ⟨q, z, hq, hz, he⟩
      obtain ⟨b, hb, hl2⟩ := hlend q z hq
      have e1 := lends_own hl2 (rnO_own.2 hz)
      subst e1
      exact g.apart _ _ _ _ hb h2 (rnO_own.2 hz) hl (h3 q z hq (zro hz)) he
    · exact rviaH hτ (by rw [hF]; exact hobj1 h1) ((gF.holds i u h1).mono hvia (gF.lt h1) (fun _ => rfl))
  · intro p q o u hp hq ho hu hne
    rcases getc hp with ⟨h1, h2, h3⟩ | ⟨i, a, h1, rfl, rfl, h4⟩ <;> rcases getc hq with ⟨k1, k2, k3⟩ | ⟨j, b, k1, rfl, rfl, k4⟩
    · rw [hag.blk p h1, hag.blk q k1]; exact g.apart p q o u h2 k2 ho hu hne
    · rw [hag.blk p h1, hb' (gF.lt k1)]
      exact (apart1 h2 (own_live ho) h3 k1 (hlo k4 (rnO_live.1 hu))).symm
    · rw [hag.blk q k1, hb' (gF.lt h1)]
      exact apart1 k2 hu k3 h1 (rnO_own.1 ho)
    · rw [hb' (gF.lt h1), hb' (gF.lt k1)]
      exact gF.apart i j a b h1 k1 (rnO_own.1 ho) (rnO_live.1 hu) (fun e => hne (by rw [e]))
  · intro b hb hno
    refine ev.frame b hb ?_
    rintro ⟨q, z, hq, hz, he⟩
    obtain ⟨c, hc, hl⟩ := hlend q z hq
    have e1 := lends_own hl (rnO_own.2 hz)
    subst e1
    exact hno ⟨σ q, _, hc, rnO_own.2 hz, he⟩
  · rintro b ⟨p, o, hp, ho, rfl⟩
    rcases getc hp with ⟨h1, h2, h3⟩ | ⟨i, u, h1, rfl, rfl, h4⟩
    · exact .inr ⟨p, o, h2, ho, (hag.blk p h1).symm⟩
    · rw [hb' (gF.lt h1)]
      rcases fblk h1 (rnO_own.1 ho) with k1 | ⟨q, z, hq, hz, he, z', hz', hzo⟩
      · exact .inl k1
      · exact .inr ⟨σ q, z', hz', hzo, he.symm⟩

end Go.AX
