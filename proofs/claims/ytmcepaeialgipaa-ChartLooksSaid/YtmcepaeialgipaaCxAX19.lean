/- A call that needs nothing of the heap, known on the empty heap, is known on every heap; what is not reached is forgotten. -/
import Derived.Test.YtmcepaeialgipaaCxAX18
namespace Go.AX

section
variable {E : Env} {τ : Nat → Nat} {n : Nat}

theorem rvia1 (hτ : ∀ i, i < n → τ i < E.n) {v v' : Value} (ho : okId1 (fun i => decide (i < n)) v = true) (h : Rep (E.via τ n) v v') : Rep E (rn1 τ v) v' := by
  cases h with
  | bool b => exact .bool b
  | int k m => exact .int k m
  | float k m => exact .float k m
  | str s => exact .str s
  | nilptr => exact .nilptr
  | ptr i o hi => exact .ptr (E := E) (τ i) o (hτ i hi)
  | nilsl => exact .nilsl
  | slX i o n' c a' hi ha hn hc => exact .slX (E := E) (τ i) o n' c a' (hτ i hi) ha hn hc
  | slU i n' c' hi h0 hn hz => exact .slU (E := E) (τ i) n' c' (hτ i hi) h0 hn hz
  | slE i hi => exact .slE (E := E) (τ i) (hτ i hi)
  | slR i o n' c' a' hi ha hn => exact .slR (E := E) (τ i) o n' c' a' (hτ i hi) ha hn
  | nilmap => exact .nilmap
  | map i hi => exact .map (E := E) (τ i) (hτ i hi)
  | nilfunc => exact .nilfunc
  | nilif => exact .nilif
  | func => exact Bool.noConfusion ho
  | iface => exact Bool.noConfusion ho
  | agg => exact Bool.noConfusion ho
  | tuple => exact Bool.noConfusion ho
  | junk => exact Bool.noConfusion ho

theorem rviaL1 (hτ : ∀ i, i < n → τ i < E.n) : ∀ {l l' : List Value}, l.all (okId1 fun i => decide (i < n)) = true → RepL (E.via τ n) l l' → RepL E (l.map (rn1 τ)) l'
  | [], _, _, h => by cases h; exact .nil
  | v :: l, _, ho, h => by
    simp only [List.all_cons, Bool.and_eq_true] at ho
    cases h with
    | cons _ _ _ _ hv ht => exact .cons _ _ _ _ (rvia1 hτ ho.1 hv) (rviaL1 hτ ho.2 ht)

theorem rvia2 (hτ : ∀ i, i < n → τ i < E.n) {v v' : Value} (ho : okId2 (fun i => decide (i < n)) v = true) (h : Rep (E.via τ n) v v') : Rep E (rn2 τ v) v' := by
  have other : okId1 (fun i => decide (i < n)) v = true → rn2 τ v = rn1 τ v → Rep E (rn2 τ v) v' := fun h1 h2 => by rw [h2]; exact rvia1 hτ h1 h
  cases v with
  | agg c =>
    obtain ⟨l⟩ := c
    cases h with
    | agg _ c' h => exact .agg _ _ (rviaL1 hτ ho h)
  | func fn f c =>
    obtain ⟨f⟩ := f; obtain ⟨c⟩ := c
    simp only [okId2, Bool.and_eq_true] at ho
    cases h with
    | func _ _ _ f' c' hf hc => exact .func _ _ _ _ _ (rviaL1 hτ ho.1 hf) (rviaL1 hτ ho.2 hc)
  | iface t u =>
    cases h with
    | iface _ _ _ h => exact .iface _ _ _ (rvia1 hτ ho h)
  | tuple => exact Bool.noConfusion ho
  | _ => exact other ho rfl

theorem rviaL2 (hτ : ∀ i, i < n → τ i < E.n) : ∀ {l l' : List Value}, l.all (okId2 fun i => decide (i < n)) = true → RepL (E.via τ n) l l' → RepL E (l.map (rn2 τ)) l'
  | [], _, _, h => by cases h; exact .nil
  | v :: l, _, ho, h => by
    simp only [List.all_cons, Bool.and_eq_true] at ho
    cases h with
    | cons _ _ _ _ hv ht => exact .cons _ _ _ _ (rvia2 hτ ho.1 hv) (rviaL2 hτ ho.2 ht)

theorem rviaV (hτ : ∀ i, i < n → τ i < E.n) {v v' : Value} (ho : okIds (fun i => decide (i < n)) v = true) (h : Rep (E.via τ n) v v') : Rep E (rnV τ v) v' := by
  have other : okId2 (fun i => decide (i < n)) v = true → rnV τ v = rn2 τ v → Rep E (rnV τ v) v' := fun h1 h2 => by rw [h2]; exact rvia2 hτ h1 h
  cases v with
  | tuple c =>
    obtain ⟨l⟩ := c
    generalize hv : Value.tuple ⟨l⟩ = u at h
    cases h with
    | tuple c2 c' h =>
      simp only [Value.tuple.injEq, Array.mk.injEq] at hv
      subst hv
      exact .tuple _ _ (rviaL2 hτ ho h)
    | junk =>
      simp only [junk, Value.tuple.injEq, Array.mk.injEq] at hv
      subst hv
      exact .junk _
    | _ => exact absurd hv (by simp)
  | _ => exact other ho rfl

theorem rviaL (hτ : ∀ i, i < n → τ i < E.n) : ∀ {l l' : List Value}, l.all (okIds fun i => decide (i < n)) = true → RepL (E.via τ n) l l' → RepL E (l.map (rnV τ)) l'
  | [], _, _, h => by cases h; exact .nil
  | v :: l, _, ho, h => by
    simp only [List.all_cons, Bool.and_eq_true] at ho
    cases h with
    | cons _ _ _ _ hv ht => exact .cons _ _ _ _ (rviaV hτ ho.1 hv) (rviaL hτ ho.2 ht)

theorem rviaM (hτ : ∀ i, i < n → τ i < E.n) : ∀ {l : List (Value × Value)} {l' : List MapEntry}, (l.all fun x => okIds (fun i => decide (i < n)) x.1 && okIds (fun i => decide (i < n)) x.2) = true → RepM (E.via τ n) l l' → RepM E (l.map fun x => (rnV τ x.1, rnV τ x.2)) l'
  | [], _, _, h => by cases h; exact .nil
  | (k, v) :: l, _, ho, h => by
    simp only [List.all_cons, Bool.and_eq_true] at ho
    cases h with
    | cons _ _ _ _ _ hk hv ht => exact .cons _ _ _ _ _ (rviaV hτ ho.1.1 hk) (rviaV hτ ho.1.2 hv) (rviaM hτ (by simpa using ho.2) ht)

theorem rviaH (hτ : ∀ i, i < n → τ i < E.n) {w : World} {i : Nat} {o : AObj} (ho : okObj (fun i => decide (i < n)) o = true) (h : Holds (E.via τ n) w i o) : Holds E w (τ i) (rnO τ o) := by
  cases o with
  | cells vs e sz =>
    obtain ⟨c, h1, h2, h3, h4, h5⟩ := h
    exact ⟨c, h1, h2, h3, h4, rviaL hτ ho h5⟩
  | row vs e sz =>
    refine ⟨h.1, fun hv => ?_⟩
    obtain ⟨c, h1, h2, h3, h4, h5⟩ := h.2 (by simpa using hv)
    refine ⟨c, h1, h2, h3, by simpa using h4, ?_⟩
    rw [List.length_map]
    exact rviaL hτ ho h5
  | ro vs sz =>
    refine ⟨h.1, fun k v hk => ?_⟩
    simp only [List.getElem?_map, Option.map_eq_some_iff] at hk
    obtain ⟨u, hu, rfl⟩ := hk
    obtain ⟨v', h1, h2⟩ := h.2 k u hu
    exact ⟨v', h1, rviaV hτ (List.all_eq_true.1 ho u (List.mem_of_getElem? hu)) h2⟩
  | mp es =>
    obtain ⟨c, q, h1, h2, h3⟩ := h
    exact ⟨c, q, h1, rviaM hτ ho h2, h3⟩
  | gone => trivial
end

/-- Nothing of the heap in it. -/
def bare (v : Value) : Bool := okIds (fun _ => false) v

theorem bare_to {E F : Env} {v v' : Value} (hb : bare v = true) (h : Rep E v v') : Rep F v v' :=
  rep_on ⟨fun _ h => Bool.noConfusion h, fun _ h => Bool.noConfusion h, fun _ h => Bool.noConfusion h, fun _ h => Bool.noConfusion h, fun _ h => Bool.noConfusion h⟩ hb h

theorem bareL_to {E F : Env} : ∀ {l l' : List Value}, l.all bare = true → RepL E l l' → RepL F l l'
  | [], _, _, h => by cases h; exact .nil
  | v :: l, _, ho, h => by
    simp only [List.all_cons, Bool.and_eq_true] at ho
    cases h with
    | cons _ _ _ _ hv ht => exact .cons _ _ _ _ (bare_to ho.1 hv) (bareL_to ho.2 ht)

/-- Ids further on. -/
def up (N : Nat) : Nat → Nat := fun i => i + N

def Env.join (E F : Env) (N : Nat) : Env where
  n := N + F.n
  blk := fun i => if i < N then E.blk i else F.blk (i - N)
  off := fun i => if i < N then E.off i else F.off (i - N)
  csz := fun i => if i < N then E.csz i else F.csz (i - N)
  esz := fun i => if i < N then E.esz i else F.esz (i - N)

theorem join_via (E F : Env) (N : Nat) : Env.Agree F.n F ((E.join F N).via (up N) F.n) := by
  refine ⟨Nat.le_refl _, fun i hi => ?_, fun i hi => ?_, fun i hi => ?_, fun i hi => ?_⟩ <;>
    (simp only [Env.via, Env.join, up]; rw [if_neg (by omega), Nat.add_sub_cancel])

theorem join_agree (E F : Env) (N : Nat) : Env.Agree N E (E.join F N) :=
  ⟨Nat.le_add_right _ _, fun _ hi => if_pos hi, fun _ hi => if_pos hi, fun _ hi => if_pos hi, fun _ hi => if_pos hi⟩

theorem rnO_live {τ : Nat → Nat} {o : AObj} : (rnO τ o).live ↔ o.live := by
  cases o <;> simp [rnO, AObj.live]
theorem rnO_own {τ : Nat → Nat} {o : AObj} : (rnO τ o).own ↔ o.own := by
  cases o <;> simp [rnO, AObj.own]

/-- A CALL THAT NEEDS NOTHING OF THE HEAP. -/
theorem AEq.frame {P : Program} {k : FuncId} {args : List Value} {v : Value} {h' : AHeap} (t : AEq P k args [] v h') (ha : args.all bare = true) (hv : okIds (fun i => decide (i < h'.length)) v = true)
    (ho : (h'.all fun o => notRo o && okObj (fun i => decide (i < h'.length)) o) = true) (h : AHeap) : AEq P k args h (rnV (up h.length) v) (h ++ h'.map (rnO (up h.length))) := by
  intro E w args' g ra
  have g0 : Good ⟨0, E.blk, E.off, E.csz, E.esz⟩ [] w := ⟨rfl, fun i o hi => by simp at hi, fun i j o u hi => by simp at hi⟩
  refine (t _ w args' g0 (bareL_to ha ra)).mono ?_
  rintro e w' ⟨v0, v', h0, F, rfl, gF, ev, rv, rfl, rfl⟩
  have hF := gF.n
  have hno : ∀ b, ¬ Owned ⟨0, E.blk, E.off, E.csz, E.esz⟩ [] b := by rintro b ⟨i, o, hi, _⟩; simp at hi
  have hτ : ∀ i, i < F.n → up h.length i < (E.join F h.length).n := fun i hi => by simp only [up, Env.join]; omega
  have hobj : ∀ o ∈ h0, notRo o = true ∧ okObj (fun i => decide (i < F.n)) o = true := by
    intro o hm
    have := List.all_eq_true.1 ho o hm
    rw [hF]
    simpa using this
  have hlo : ∀ o ∈ h0, o.live → o.own := by
    intro o hm hl
    have := (hobj o hm).1
    cases o with
    | ro => exact Bool.noConfusion this
    | cells => exact trivial
    | row => exact hl
    | mp => exact trivial
    | gone => exact hl.elim
  have getc : ∀ {i : Nat} {o : AObj}, (h ++ h0.map (rnO (up h.length)))[i]? = some o → (i < h.length ∧ h[i]? = some o) ∨ (h.length ≤ i ∧ ∃ u, h0[i - h.length]? = some u ∧ o = rnO (up h.length) u) := by
    intro i o hi
    rw [List.getElem?_append] at hi
    split at hi
    · rename_i hlt; exact .inl ⟨hlt, hi⟩
    · rename_i hlt
      rw [List.getElem?_map, Option.map_eq_some_iff] at hi
      obtain ⟨u, h1, rfl⟩ := hi
      exact .inr ⟨by omega, u, h1, rfl⟩
  have newge : ∀ {j : Nat} {u : AObj}, h0[j]? = some u → u.live → w.heap.size ≤ F.blk j := by
    intro j u hj hl
    rcases ev.own _ ⟨j, u, hj, hlo u (List.mem_of_getElem? hj) hl, rfl⟩ with h1 | h1
    · exact h1
    · exact absurd h1 (hno _)
  have hag := join_agree E F h.length
  have hb2 : ∀ {i : Nat}, h.length ≤ i → (E.join F h.length).blk i = F.blk (i - h.length) := fun hi => if_neg (by omega)
  have hres := rviaV hτ (by rw [hF]; exact hv) (rv.mono (join_via E F h.length))
  refine ⟨_, v', _, E.join F h.length, rfl, ⟨?_, ?_, ?_⟩, ⟨hag, ?_, ?_, ev.size, ev.os, ev.tape, ev.output⟩, hres, rfl, rfl⟩
  · simp [Env.join, hF]
  · intro i o hi
    rcases getc hi with ⟨h1, h2⟩ | ⟨h1, u, h2, rfl⟩
    · exact (g.holds i o h2).mono (by rw [g.n]; exact hag) (by rw [g.n]; exact h1) (fun hl => ev.frame _ (g.block_lt h2 hl) (hno _))
    · have := rviaH hτ (hobj u (List.mem_of_getElem? h2)).2 ((gF.holds _ u h2).mono (join_via E F h.length) (gF.lt h2) (fun _ => rfl))
      simp only [up, Nat.sub_add_cancel h1] at this
      exact this
  · intro i j o u hi hj hoo hul hne
    rcases getc hi with ⟨h1, h2⟩ | ⟨h1, u1, h2, rfl⟩ <;> rcases getc hj with ⟨k1, k2⟩ | ⟨k1, u2, k2, rfl⟩
    · rw [hag.blk i h1, hag.blk j k1]; exact g.apart i j o u h2 k2 hoo hul hne
    · rw [hag.blk i h1, hb2 k1]
      exact Nat.ne_of_lt (Nat.lt_of_lt_of_le (g.block_lt h2 (own_live hoo)) (newge k2 (rnO_live.1 hul)))
    · rw [hag.blk j k1, hb2 h1]
      exact (Nat.ne_of_lt (Nat.lt_of_lt_of_le (g.block_lt k2 hul) (newge h2 (own_live (rnO_own.1 hoo))))).symm
    · rw [hb2 h1, hb2 k1]
      exact gF.apart _ _ u1 u2 h2 k2 (rnO_own.1 hoo) (rnO_live.1 hul) (by omega)
  · intro b hb _
    exact ev.frame b hb (hno b)
  · rintro b ⟨i, o, hi, hoo, rfl⟩
    rcases getc hi with ⟨h1, h2⟩ | ⟨h1, u, h2, rfl⟩
    · exact .inr ⟨i, o, h2, hoo, (hag.blk i h1).symm⟩
    · rw [hb2 h1]; exact .inl (newge h2 (own_live (rnO_own.1 hoo)))

/-! What is not kept. -/

theorem rn1_rn1 {σ τ : Nat → Nat} {p : Nat → Bool} (hp : ∀ i, p i = true → τ (σ i) = i) {v : Value} (h : okId1 p v = true) : rn1 τ (rn1 σ v) = v := by
  cases v with
  | pointer a => cases a with
    | none => rfl
    | some a => simp only [rn1, hp _ h]
  | slice a n c => cases a with
    | none => rfl
    | some a => simp only [rn1, hp _ h]
  | map a => cases a with
    | none => rfl
    | some a => simp only [rn1, hp _ h]
  | _ => rfl

theorem rnL1 {σ τ : Nat → Nat} {p : Nat → Bool} (hp : ∀ i, p i = true → τ (σ i) = i) : ∀ {l : List Value}, l.all (okId1 p) = true → (l.map (rn1 σ)).map (rn1 τ) = l
  | [], _ => rfl
  | v :: l, h => by
    simp only [List.all_cons, Bool.and_eq_true] at h
    simp only [List.map_cons, rn1_rn1 hp h.1, rnL1 hp h.2]

theorem rn2_rn2 {σ τ : Nat → Nat} {p : Nat → Bool} (hp : ∀ i, p i = true → τ (σ i) = i) {v : Value} (h : okId2 p v = true) : rn2 τ (rn2 σ v) = v := by
  have other : okId1 p v = true → rn2 τ (rn2 σ v) = rn1 τ (rn1 σ v) → rn2 τ (rn2 σ v) = v := fun h1 h2 => h2.trans (rn1_rn1 hp h1)
  cases v with
  | agg c => obtain ⟨l⟩ := c; simp only [rn2, rnL1 hp h]
  | func fn f c =>
    obtain ⟨f⟩ := f; obtain ⟨c⟩ := c
    simp only [okId2, Bool.and_eq_true] at h
    simp only [rn2, rnL1 hp h.1, rnL1 hp h.2]
  | iface t u => simp only [rn2, rn1_rn1 hp h]
  | pointer a => cases a <;> exact other h rfl
  | slice a n c => cases a <;> exact other h rfl
  | map a => cases a <;> exact other h rfl
  | tuple => exact Bool.noConfusion h
  | _ => rfl

theorem rnL2 {σ τ : Nat → Nat} {p : Nat → Bool} (hp : ∀ i, p i = true → τ (σ i) = i) : ∀ {l : List Value}, l.all (okId2 p) = true → (l.map (rn2 σ)).map (rn2 τ) = l
  | [], _ => rfl
  | v :: l, h => by
    simp only [List.all_cons, Bool.and_eq_true] at h
    simp only [List.map_cons, rn2_rn2 hp h.1, rnL2 hp h.2]

theorem rnV_rnV {σ τ : Nat → Nat} {p : Nat → Bool} (hp : ∀ i, p i = true → τ (σ i) = i) {v : Value} (h : okIds p v = true) : rnV τ (rnV σ v) = v := by
  have other : okId2 p v = true → rnV τ (rnV σ v) = rn2 τ (rn2 σ v) → rnV τ (rnV σ v) = v := fun h1 h2 => h2.trans (rn2_rn2 hp h1)
  cases v with
  | tuple c => obtain ⟨l⟩ := c; simp only [rnV, rnL2 hp h]
  | pointer a => cases a <;> exact other h rfl
  | slice a n c => cases a <;> exact other h rfl
  | map a => cases a <;> exact other h rfl
  | agg c => obtain ⟨l⟩ := c; exact other h rfl
  | func fn f c => obtain ⟨f⟩ := f; obtain ⟨c⟩ := c; exact other h rfl
  | iface t u => exact other h rfl
  | _ => rfl

theorem rnL_rnL {σ τ : Nat → Nat} {p : Nat → Bool} (hp : ∀ i, p i = true → τ (σ i) = i) : ∀ {l : List Value}, l.all (okIds p) = true → (l.map (rnV σ)).map (rnV τ) = l
  | [], _ => rfl
  | v :: l, h => by
    simp only [List.all_cons, Bool.and_eq_true] at h
    simp only [List.map_cons, rnV_rnV hp h.1, rnL_rnL hp h.2]

theorem rnM_rnM {σ τ : Nat → Nat} {p : Nat → Bool} (hp : ∀ i, p i = true → τ (σ i) = i) : ∀ {l : List (Value × Value)}, (l.all fun x => okIds p x.1 && okIds p x.2) = true → (l.map fun x => (rnV σ x.1, rnV σ x.2)).map (fun x => (rnV τ x.1, rnV τ x.2)) = l
  | [], _ => rfl
  | (k, v) :: l, h => by
    simp only [List.all_cons, Bool.and_eq_true] at h
    simp only [List.map_cons, rnV_rnV hp h.1.1, rnV_rnV hp h.1.2]
    rw [rnM_rnM hp (by simpa using h.2)]

theorem rnO_rnO {σ τ : Nat → Nat} {p : Nat → Bool} (hp : ∀ i, p i = true → τ (σ i) = i) {o : AObj} (h : okObj p o = true) : rnO τ (rnO σ o) = o := by
  cases o with
  | cells vs e sz => simp only [rnO, rnL_rnL hp h]
  | row vs e sz => simp only [rnO, rnL_rnL hp h]
  | ro vs sz => simp only [rnO, rnL_rnL hp h]
  | mp es => simp only [rnO, rnM_rnM hp h]
  | gone => rfl

/-- A value without these ids is what it is. -/
theorem rnV_bare {σ : Nat → Nat} {v : Value} (h : bare v = true) : rnV σ v = v := by
  have h1 : ∀ {l : List Value}, l.all (okId1 fun _ => false) = true → l.map (rn1 σ) = l := by
    intro l hl
    refine (List.map_congr_left fun x hx => ?_).trans (List.map_id l)
    have := List.all_eq_true.1 hl x hx
    cases x with
    | pointer a => cases a with
      | none => rfl
      | some a => exact Bool.noConfusion this
    | slice a n c => cases a with
      | none => rfl
      | some a => exact Bool.noConfusion this
    | map a => cases a with
      | none => rfl
      | some a => exact Bool.noConfusion this
    | _ => rfl
  have h2 : ∀ {v : Value}, okId2 (fun _ => false) v = true → rn2 σ v = v := by
    intro x hx
    cases x with
    | agg c => obtain ⟨l⟩ := c; simp only [rn2, h1 hx]
    | func fn f c =>
      obtain ⟨f⟩ := f; obtain ⟨c⟩ := c
      simp only [okId2, Bool.and_eq_true] at hx
      simp only [rn2, h1 hx.1, h1 hx.2]
    | iface t u =>
      have := h1 (l := [u]) (by simp only [List.all_cons, List.all_nil, Bool.and_true]; exact hx)
      simp only [List.map_cons, List.map_nil, List.cons.injEq, and_true] at this
      simp only [rn2, this]
    | pointer a => cases a with
      | none => rfl
      | some a => exact Bool.noConfusion hx
    | slice a n c => cases a with
      | none => rfl
      | some a => exact Bool.noConfusion hx
    | map a => cases a with
      | none => rfl
      | some a => exact Bool.noConfusion hx
    | tuple => exact Bool.noConfusion hx
    | _ => rfl
  have other : okId2 (fun _ => false) v = true → rnV σ v = rn2 σ v → rnV σ v = v := fun k1 k2 => k2.trans (h2 k1)
  cases v with
  | tuple c =>
    obtain ⟨l⟩ := c
    have : l.map (rn2 σ) = l := (List.map_congr_left fun x hx => h2 (List.all_eq_true.1 h x hx)).trans (List.map_id l)
    simp only [rnV, this]
  | agg c => exact other h rfl
  | func fn f c => exact other h rfl
  | iface t u => exact other h rfl
  | pointer a => cases a <;> exact other h rfl
  | slice a n c => cases a <;> exact other h rfl
  | map a => cases a <;> exact other h rfl
  | _ => rfl

end Go.AX
