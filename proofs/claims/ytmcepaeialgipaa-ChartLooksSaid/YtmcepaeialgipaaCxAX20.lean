/- What a call leaves and nobody reaches is forgotten. -/
import Derived.Test.YtmcepaeialgipaaCxAX19
namespace Go.AX

def posOf : List Nat → Nat → Nat
  | [], _ => 0
  | a :: l, i => if Nat.beq a i then 0 else posOf l i + 1

def hasIt (l : List Nat) (i : Nat) : Bool := l.any (Nat.beq · i)

theorem posOf_spec : ∀ {l : List Nat} {i : Nat}, hasIt l i = true → posOf l i < l.length ∧ l.getD (posOf l i) 0 = i
  | [], _, h => Bool.noConfusion h
  | a :: l, i, h => by
    unfold posOf
    split
    · rename_i hb
      exact ⟨by simp, by simpa using Nat.eq_of_beq_eq_true hb⟩
    · rename_i hb
      have h2 : hasIt l i = true := by
        simp only [hasIt, List.any_cons, Bool.or_eq_true] at h
        rcases h with h | h
        · exact absurd h hb
        · exact h
      obtain ⟨h3, h4⟩ := posOf_spec h2
      exact ⟨by simp; omega, by simpa using h4⟩

def oneEach : List Nat → Bool
  | [] => true
  | a :: l => !hasIt l a && oneEach l

theorem oneEach_nodup : ∀ {l : List Nat}, oneEach l = true → l.Nodup
  | [], _ => List.nodup_nil
  | a :: l, h => by
    simp only [oneEach, Bool.and_eq_true, Bool.not_eq_true'] at h
    refine List.nodup_cons.2 ⟨fun hm => ?_, oneEach_nodup h.2⟩
    have : hasIt l a = true := List.any_eq_true.2 ⟨a, hm, Nat.beq_refl a⟩
    rw [h.1] at this
    exact Bool.noConfusion this


theorem ok_pos1 {l : List Nat} {v : Value} (h : okId1 (hasIt l) v = true) : okId1 (fun i => decide (i < l.length)) (rn1 (posOf l) v) = true := by
  cases v with
  | pointer a => cases a with
    | none => rfl
    | some a => exact decide_eq_true (posOf_spec h).1
  | slice a n c => cases a with
    | none => rfl
    | some a => exact decide_eq_true (posOf_spec h).1
  | map a => cases a with
    | none => rfl
    | some a => exact decide_eq_true (posOf_spec h).1
  | agg => exact Bool.noConfusion h
  | tuple => exact Bool.noConfusion h
  | func => exact Bool.noConfusion h
  | iface => exact Bool.noConfusion h
  | _ => rfl

theorem ok_posL1 {l : List Nat} {c : List Value} (h : c.all (okId1 (hasIt l)) = true) : (c.map (rn1 (posOf l))).all (okId1 fun i => decide (i < l.length)) = true := by
  rw [List.all_eq_true] at h ⊢
  intro x hx
  obtain ⟨y, hy, rfl⟩ := List.mem_map.1 hx
  exact ok_pos1 (h y hy)

theorem ok_pos2 {l : List Nat} {v : Value} (h : okId2 (hasIt l) v = true) : okId2 (fun i => decide (i < l.length)) (rn2 (posOf l) v) = true := by
  have other : okId1 (hasIt l) v = true → okId2 (fun i => decide (i < l.length)) (rn2 (posOf l) v) = okId1 (fun i => decide (i < l.length)) (rn1 (posOf l) v) → okId2 (fun i => decide (i < l.length)) (rn2 (posOf l) v) = true := fun h1 h2 => h2.trans (ok_pos1 h1)
  cases v with
  | agg c => obtain ⟨c⟩ := c; exact ok_posL1 h
  | func fn f c =>
    obtain ⟨f⟩ := f; obtain ⟨c⟩ := c
    simp only [okId2, Bool.and_eq_true] at h
    show (_ && _) = true
    rw [Bool.and_eq_true]
    exact ⟨ok_posL1 h.1, ok_posL1 h.2⟩
  | iface t u => exact ok_pos1 (v := u) h
  | tuple => exact Bool.noConfusion h
  | pointer a => cases a <;> exact other h rfl
  | slice a n c => cases a <;> exact other h rfl
  | map a => cases a <;> exact other h rfl
  | _ => rfl

theorem ok_pos {l : List Nat} {v : Value} (h : okIds (hasIt l) v = true) : okIds (fun i => decide (i < l.length)) (rnV (posOf l) v) = true := by
  have other : okId2 (hasIt l) v = true → okIds (fun i => decide (i < l.length)) (rnV (posOf l) v) = okId2 (fun i => decide (i < l.length)) (rn2 (posOf l) v) → okIds (fun i => decide (i < l.length)) (rnV (posOf l) v) = true := fun h1 h2 => h2.trans (ok_pos2 h1)
  cases v with
  | tuple c =>
    obtain ⟨c⟩ := c
    show (c.map (rn2 (posOf l))).all (okId2 fun i => decide (i < l.length)) = true
    have h' : c.all (okId2 (hasIt l)) = true := h
    rw [List.all_eq_true] at h' ⊢
    intro x hx
    obtain ⟨y, hy, rfl⟩ := List.mem_map.1 hx
    exact ok_pos2 (h' y hy)
  | pointer a => cases a <;> exact other h rfl
  | slice a n c => cases a <;> exact other h rfl
  | map a => cases a <;> exact other h rfl
  | agg c => obtain ⟨c⟩ := c; exact other h rfl
  | func fn f c => obtain ⟨f⟩ := f; obtain ⟨c⟩ := c; exact other h rfl
  | iface t u => exact other h rfl
  | _ => rfl

theorem ok_posO {l : List Nat} {o : AObj} (h : okObj (hasIt l) o = true) : okObj (fun i => decide (i < l.length)) (rnO (posOf l) o) = true := by
  have lst : ∀ {c : List Value}, c.all (okIds (hasIt l)) = true → (c.map (rnV (posOf l))).all (okIds fun i => decide (i < l.length)) = true := by
    intro c h
    rw [List.all_eq_true] at h ⊢
    intro x hx
    obtain ⟨y, hy, rfl⟩ := List.mem_map.1 hx
    exact ok_pos (h y hy)
  cases o with
  | cells vs e sz => exact lst h
  | row vs e sz => exact lst h
  | ro vs sz => exact lst h
  | mp es =>
    have h' : (es.all fun x => okIds (hasIt l) x.1 && okIds (hasIt l) x.2) = true := h
    show ((es.map fun x => (rnV (posOf l) x.1, rnV (posOf l) x.2)).all fun x => _ && _) = true
    rw [List.all_eq_true] at h' ⊢
    intro x hx
    obtain ⟨y, hy, rfl⟩ := List.mem_map.1 hx
    have := h' y hy
    rw [Bool.and_eq_true] at this ⊢
    exact ⟨ok_pos this.1, ok_pos this.2⟩
  | gone => rfl

def keptObjs (keep : List Nat) (h : AHeap) : AHeap := keep.map fun i => rnO (posOf keep) (h.getD i .gone)

theorem AEq.trim {P : Program} {k : FuncId} {args : List Value} {v : Value} {h' : AHeap} (t : AEq P k args [] v h') (keep : List Nat) (hk : oneEach keep = true) (hv : okIds (hasIt keep) v = true)
    (ho : (keep.all fun i => decide (i < h'.length) && okObj (hasIt keep) (h'.getD i .gone)) = true) : AEq P k args [] (rnV (posOf keep) v) (keptObjs keep h') := by
  intro E w args' g ra
  refine (t E w args' g ra).mono ?_
  rintro e w' ⟨v0, v', h0, F, rfl, gF, ev, rv, rfl, rfl⟩
  have hp : ∀ i, hasIt keep i = true → (fun j => keep.getD j 0) (posOf keep i) = i := fun i hi => (posOf_spec hi).2
  have hlen : (keptObjs keep h0).length = keep.length := by simp [keptObjs]
  have hget : ∀ {i : Nat} {o : AObj}, (keptObjs keep h0)[i]? = some o → i < keep.length ∧ h0[keep.getD i 0]? = some (rnO (fun j => keep.getD j 0) o) ∧ okObj (fun i => decide (i < keep.length)) o = true := by
    intro i o hi
    simp only [keptObjs, List.getElem?_map, Option.map_eq_some_iff] at hi
    obtain ⟨q, hq, rfl⟩ := hi
    have hlt := (List.getElem?_eq_some_iff.1 hq).1
    have hm := List.all_eq_true.1 ho q (List.mem_of_getElem? hq)
    rw [Bool.and_eq_true, decide_eq_true_eq] at hm
    have hgq : keep.getD i 0 = q := by simp [List.getD, hq]
    refine ⟨hlt, ?_, ok_posO hm.2⟩
    rw [hgq, rnO_rnO hp hm.2, List.getD_eq_getElem?_getD, List.getElem?_eq_getElem hm.1]
    rfl
  obtain ⟨g2, ev2⟩ := rename_good (h2 := keptObjs keep h0) (m := 0) (τ := fun j => keep.getD j 0) gF (Nat.zero_le _) (Nat.zero_le _) (fun i hi => absurd hi (Nat.not_lt_zero _))
    (fun i o hi => .inr (hget hi).2.1) (fun o hm => by
      obtain ⟨i, hi⟩ := List.getElem?_of_mem hm
      rw [hlen]; exact (hget hi).2.2)
    (fun i j o u hi hj _ _ hne he => by
      have h1 := (hget hi).1
      have h2 := (hget hj).1
      have hnd := oneEach_nodup hk
      simp only [List.getD_eq_getElem?_getD, List.getElem?_eq_getElem h1, List.getElem?_eq_getElem h2, Option.getD_some] at he
      exact hne ((List.getElem_inj hnd).1 he))
  refine ⟨_, v', _, _, rfl, g2, ev.trans ev2 (Nat.le_refl _), ?_, rfl, rfl⟩
  refine viaV (by rw [hlen]; exact ok_pos hv) ?_
  rw [rnV_rnV hp hv]
  exact rv

/-- A call without the heap that gives a bare value. -/
theorem AEq.bare {P : Program} {k : FuncId} {args : List Value} {v : Value} {h' : AHeap} (t : AEq P k args [] v h') (ha : args.all bare = true) (hv : bare v = true) (h : AHeap) : AEq P k args h v h := by
  have hnone : ∀ i, hasIt [] i = false := fun _ => rfl
  have hv1 : okIds (hasIt []) v = true := by
    have : hasIt [] = fun _ => false := rfl
    rw [this]; exact hv
  have h1 := t.trim [] rfl hv1 rfl
  rw [rnV_bare hv] at h1
  have hv2 : okIds (fun i => decide (i < (keptObjs [] h').length)) v = true := by
    have : (fun i => decide (i < (keptObjs [] h').length)) = fun _ => false := by funext i; simp [keptObjs]
    rw [this]; exact hv
  have h2 := h1.frame ha hv2 rfl h
  rw [rnV_bare hv] at h2
  simpa [keptObjs] using h2

end Go.AX
