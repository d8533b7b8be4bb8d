/- How a world and its abstract heap go on together: a new block, a block written, a block let go, a block renamed. -/
import Derived.Test.YtmcepaeialgipaaCxAX5
import Derived.Laws.AppendOwn
import Derived.Laws.BytesString
namespace Go.AX
set_option linter.unusedSimpArgs false
set_option linter.unusedVariables false

def Env.push (E : Env) (b o cz ez : Nat) : Env where
  n := E.n + 1
  blk := fun i => if i = E.n then b else E.blk i
  off := fun i => if i = E.n then o else E.off i
  csz := fun i => if i = E.n then cz else E.csz i
  esz := fun i => if i = E.n then ez else E.esz i

theorem Env.push_agree (E : Env) (b o cz ez : Nat) : Env.Agree E.n E (E.push b o cz ez) :=
  ⟨Nat.le_succ _, fun i hi => if_neg (Nat.ne_of_lt hi), fun i hi => if_neg (Nat.ne_of_lt hi), fun i hi => if_neg (Nat.ne_of_lt hi), fun i hi => if_neg (Nat.ne_of_lt hi)⟩

section
variable {E : Env} {h : AHeap} {w : World}

theorem Good.lt (g : Good E h w) {i : Nat} {o : AObj} (hi : h[i]? = some o) : i < E.n := by
  rw [g.n]
  rcases Nat.lt_or_ge i h.length with h' | h'
  · exact h'
  · rw [List.getElem?_eq_none h'] at hi; exact absurd hi (by simp)

/-- The world draws: nothing turns. -/
theorem Good.drew (g : Good E h w) : Good E h w.drew :=
  ⟨g.n, fun i o hi => (g.holds i o hi).mono (.refl _ (Nat.le_refl _)) (g.lt hi) (fun _ => rfl), g.apart⟩

theorem Evol.drew (E : Env) (h : AHeap) (w : World) : Evol E.n E h w E h w.drew :=
  ⟨.refl _ (Nat.le_refl _), fun _ _ _ => rfl, fun _ h => .inr h, Nat.le_refl _, rfl, ⟨rfl, fun _ => rfl⟩, rfl⟩

theorem Good.block_lt (g : Good E h w) {i : Nat} {o : AObj} (hi : h[i]? = some o) (hl : o.live) : E.blk i < w.heap.size := by
  have hH := g.holds i o hi
  rcases Nat.lt_or_ge (E.blk i) w.heap.size with h' | h'
  · exact h'
  · have hn : w.heap[E.blk i]? = none := Array.getElem?_eq_none h'
    cases o with
    | cells vs e sz => obtain ⟨c, h1, _⟩ := hH; simp [hn] at h1
    | row vs e sz => obtain ⟨c, h1, _⟩ := hH.2 hl; simp [hn] at h1
    | mp es => obtain ⟨c, k, h1, _⟩ := hH; simp [hn] at h1
    | ro vs sz =>
      cases vs with
      | nil => exact absurd rfl hl
      | cons v vs =>
        obtain ⟨v', h1, _⟩ := hH.2 0 v rfl
        simp [World.cell?, hn] at h1
    | gone => exact hl.elim

theorem own_live {o : AObj} (h : o.own) : o.live := by cases o <;> first | exact h | exact trivial | exact h.elim

theorem Good.owned_lt (g : Good E h w) {b : Nat} (ho : Owned E h b) : b < w.heap.size := Owned.lt g ho

theorem frozen_alloc (w : World) (c : Array Value) (t : TypeId) (a : Addr) : (w.alloc (.cells c t)).frozen? a = w.frozen? a := by
  by_cases h : a.block = w.heap.size
  · have e2 : w.heap[a.block]? = none := by rw [h]; simp
    have e3 : w.frozen? a = false := by unfold World.frozen?; rw [e2]
    obtain ⟨b, o, s⟩ := a
    simp only at h
    subst h
    rw [e3]
    unfold World.frozen?
    have e4 : (w.alloc (.cells c t)).heap[w.heap.size]? = some (.cells c t) := by rw [← World.alloc_eq]; simp
    simp only [e4]
    simp
  · exact World.frozen?_alloc_old _ _ _ h

theorem frozen_setRow (w : World) (b : Nat) (c : Array Value) (a : Addr) : (w.setRow b c).frozen? a = w.frozen? a := by
  unfold World.frozen? World.setRow
  simp only [Array.getElem?_modify]
  by_cases hb : b = a.block
  · rw [if_pos hb]
    cases hx : w.heap[a.block]? with
    | none => simp
    | some o => cases o <;> simp
  · rw [if_neg hb]

/-- A new block. -/
theorem good_new (g : Good E h w) (ob : Obj) (o : AObj) (off cz ez : Nat) (hro : o.live → o.own)
    (hh : Holds (E.push w.heap.size off cz ez) (w.alloc ob) E.n o) (hfr : ∀ a, (w.alloc ob).frozen? a = w.frozen? a := by exact frozen_alloc _ _ _) :
    Good (E.push w.heap.size off cz ez) (h ++ [o]) (w.alloc ob) ∧ Evol E.n E h w (E.push w.heap.size off cz ez) (h ++ [o]) (w.alloc ob) := by
  have hag := Env.push_agree E w.heap.size off cz ez
  have hsz : (w.alloc ob).heap.size = w.heap.size + 1 := by simp
  have hold : ∀ b, b < w.heap.size → (w.alloc ob).heap[b]? = w.heap[b]? := fun b hb => heap_alloc_old w ob b hb
  have hn := g.n
  have cases2 : ∀ {i : Nat} {o' : AObj}, (h ++ [o])[i]? = some o' → (i < E.n ∧ h[i]? = some o') ∨ (i = E.n ∧ o' = o) := by
    intro i o' hi
    rw [List.getElem?_append] at hi
    split at hi
    · exact .inl ⟨by omega, hi⟩
    · rename_i hlt
      have : i = h.length := by
        rcases Nat.lt_or_ge i (h.length + 1) with h' | h'
        · omega
        · rw [List.getElem?_eq_none (by simp; omega)] at hi; simp at hi
      subst this
      simp only [Nat.sub_self, List.getElem?_cons_zero, Option.some.injEq] at hi
      exact .inr ⟨by omega, hi.symm⟩
  have hbn : (E.push w.heap.size off cz ez).blk E.n = w.heap.size := if_pos rfl
  refine ⟨⟨?_, ?_, ?_⟩, ⟨hag, ?_, ?_, by omega, rfl, ⟨rfl, hfr⟩, rfl⟩⟩
  · simp [Env.push, hn]
  · intro i o' hi
    rcases cases2 hi with ⟨h1, h2⟩ | ⟨rfl, rfl⟩
    · exact (g.holds i o' h2).mono hag h1 (fun hl => hold _ (g.block_lt h2 hl))
    · exact hh
  · intro i j o' u hi hj ho hu hij
    rcases cases2 hi with ⟨h1, h2⟩ | ⟨rfl, rfl⟩ <;> rcases cases2 hj with ⟨k1, k2⟩ | ⟨rfl, rfl⟩
    · rw [hag.blk i h1, hag.blk j k1]; exact g.apart i j o' u h2 k2 ho hu hij
    · rw [hag.blk i h1, hbn]; exact Nat.ne_of_lt (g.block_lt h2 (own_live ho))
    · rw [hag.blk j k1, hbn]; exact (Nat.ne_of_lt (g.block_lt k2 hu)).symm
    · exact absurd rfl hij
  · intro b hb _
    exact hold b hb
  · rintro b ⟨i, o', hi, ho, rfl⟩
    rcases cases2 hi with ⟨h1, h2⟩ | ⟨rfl, rfl⟩
    · exact .inr ⟨i, o', h2, ho, (hag.blk i h1).symm⟩
    · exact .inl (by rw [hbn]; exact Nat.le_refl _)

/-- An owned block is written, or what is told of it is; the others stay. -/
theorem good_upd (g : Good E h w) {w' : World} {i : Nat} {o o' : AObj} (hi : h[i]? = some o) (ho : o.own) (hro : o'.live → o'.own) (hh : Holds E w' i o')
    (hsz : w'.heap.size = w.heap.size) (hb : ∀ b, b ≠ E.blk i → w'.heap[b]? = w.heap[b]?) (h1 : w'.os = w.os) (h2 : Calm w w') (h3 : w'.output = w.output) :
    Good E (h.set i o') w' ∧ Evol E.n E h w E (h.set i o') w' := by
  have hlt : i < h.length := by have := g.lt hi; rw [g.n] at this; exact this
  have cases2 : ∀ {j : Nat} {u : AObj}, (h.set i o')[j]? = some u → (j ≠ i ∧ h[j]? = some u) ∨ (j = i ∧ u = o') := by
    intro j u hj
    by_cases e : j = i
    · subst e
      rw [List.getElem?_set_self hlt] at hj
      exact .inr ⟨rfl, (Option.some.inj hj).symm⟩
    · rw [List.getElem?_set_ne (Ne.symm e)] at hj
      exact .inl ⟨e, hj⟩
  refine ⟨⟨?_, ?_, ?_⟩, ⟨.refl _ (Nat.le_refl _), ?_, ?_, by omega, h1, h2, h3⟩⟩
  · simp [g.n]
  · intro j u hj
    rcases cases2 hj with ⟨k1, k2⟩ | ⟨rfl, rfl⟩
    · exact (g.holds j u k2).mono (.refl _ (Nat.le_refl _)) (g.lt k2) (fun hl => hb _ (g.apart i j o u hi k2 ho hl (Ne.symm k1)).symm)
    · exact hh
  · intro j k u v hj hk hu hv hjk
    rcases cases2 hj with ⟨p1, p2⟩ | ⟨rfl, rfl⟩ <;> rcases cases2 hk with ⟨q1, q2⟩ | ⟨rfl, rfl⟩
    · exact g.apart j k u v p2 q2 hu hv hjk
    · exact (g.apart _ _ _ _ hi p2 ho (own_live hu) (Ne.symm hjk)).symm
    · exact g.apart _ _ _ _ hi q2 ho hv hjk
    · exact absurd rfl hjk
  · intro b _ hno
    exact hb b fun e => hno ⟨i, o, hi, ho, e.symm⟩
  · rintro b ⟨j, u, hj, hu, rfl⟩
    rcases cases2 hj with ⟨p1, p2⟩ | ⟨rfl, rfl⟩
    · exact .inr ⟨j, u, p2, hu, rfl⟩
    · exact .inr ⟨_, o, hi, ho, rfl⟩

/-- A block is let go. -/
theorem good_kill (g : Good E h w) (i : Nat) : Good E (h.set i .gone) w ∧ Evol E.n E h w E (h.set i .gone) w := by
  have cases2 : ∀ {j : Nat} {u : AObj}, (h.set i .gone)[j]? = some u → (h[j]? = some u) ∨ (u = .gone) := by
    intro j u hj
    rw [List.getElem?_set] at hj
    split at hj
    · split at hj
      · exact .inr (Option.some.inj hj).symm
      · simp at hj
    · exact .inl hj
  refine ⟨⟨by simp [g.n], ?_, ?_⟩, ⟨.refl _ (Nat.le_refl _), fun _ _ _ => rfl, ?_, Nat.le_refl _, rfl, .refl _, rfl⟩⟩
  · intro j u hj
    rcases cases2 hj with k | rfl
    · exact g.holds j u k
    · trivial
  · intro j k u v hj hk hu hv hjk
    rcases cases2 hj with p | rfl
    · rcases cases2 hk with q | rfl
      · exact g.apart j k u v p q hu hv hjk
      · exact hv.elim
    · exact hu.elim
  · rintro b ⟨j, u, hj, hu, rfl⟩
    rcases cases2 hj with p | rfl
    · exact .inr ⟨j, u, p, hu, rfl⟩
    · exact hu.elim

/-- An owned block gets another id. -/
theorem good_move (g : Good E h w) {i : Nat} {o : AObj} (hi : h[i]? = some o) (hl : o.live → o.own) :
    Good (E.push (E.blk i) (E.off i) (E.csz i) (E.esz i)) (h.set i .gone ++ [o]) w ∧ Evol E.n E h w (E.push (E.blk i) (E.off i) (E.csz i) (E.esz i)) (h.set i .gone ++ [o]) w := by
  have hag := Env.push_agree E (E.blk i) (E.off i) (E.csz i) (E.esz i)
  have hn := g.n
  have hlt : i < h.length := by have := g.lt hi; omega
  have cases2 : ∀ {j : Nat} {u : AObj}, (h.set i .gone ++ [o])[j]? = some u → (j < E.n ∧ j ≠ i ∧ h[j]? = some u) ∨ (u = .gone) ∨ (j = E.n ∧ u = o) := by
    intro j u hj
    rw [List.getElem?_append] at hj
    split at hj
    · rename_i hjl
      simp only [List.length_set] at hjl
      by_cases e : j = i
      · subst e
        rw [List.getElem?_set_self hlt] at hj
        exact .inr (.inl (Option.some.inj hj).symm)
      · rw [List.getElem?_set_ne (Ne.symm e)] at hj
        exact .inl ⟨by omega, e, hj⟩
    · rename_i hjl
      simp only [List.length_set] at hjl hj
      have : j = h.length := by
        rcases Nat.lt_or_ge j (h.length + 1) with h' | h'
        · omega
        · rw [List.getElem?_eq_none (by simp; omega)] at hj; simp at hj
      subst this
      simp only [Nat.sub_self, List.getElem?_cons_zero, Option.some.injEq] at hj
      exact .inr (.inr ⟨by omega, hj.symm⟩)
  have e1 : (E.push (E.blk i) (E.off i) (E.csz i) (E.esz i)).blk E.n = E.blk i := if_pos rfl
  have e2 : (E.push (E.blk i) (E.off i) (E.csz i) (E.esz i)).off E.n = E.off i := if_pos rfl
  have e3 : (E.push (E.blk i) (E.off i) (E.csz i) (E.esz i)).csz E.n = E.csz i := if_pos rfl
  have e4 : (E.push (E.blk i) (E.off i) (E.csz i) (E.esz i)).esz E.n = E.esz i := if_pos rfl
  refine ⟨⟨by simp [Env.push, hn], ?_, ?_⟩, ⟨hag, fun _ _ _ => rfl, ?_, Nat.le_refl _, rfl, .refl _, rfl⟩⟩
  · intro j u hj
    rcases cases2 hj with ⟨p1, p2, p3⟩ | rfl | ⟨rfl, rfl⟩
    · exact (g.holds j u p3).mono hag p1 (fun _ => rfl)
    · trivial
    · have hH := g.holds i _ hi
      generalize hEp : E.push (E.blk i) (E.off i) (E.csz i) (E.esz i) = F at *
      cases u with
      | cells vs e sz =>
        obtain ⟨c, h1, h2, h3, h4, h5⟩ := hH
        exact ⟨c, by rw [e1, h1], by rw [e2, h2], by rw [e3, h3], by rw [e4, h4], h5.mono hag⟩
      | row vs e sz =>
        refine ⟨by rw [e4, hH.1], fun hv => ?_⟩
        obtain ⟨c, h1, h2, h3, h4, h5⟩ := hH.2 hv
        exact ⟨c, by rw [e1, h1], by rw [e2, h2], by rw [e3, h3], h4, h5.mono hag⟩
      | mp es =>
        obtain ⟨c, k, h1, h2, h3⟩ := hH
        exact ⟨c, k, by rw [e1, h1], h2.mono hag, h3⟩
      | ro vs sz =>
        refine ⟨by rw [e4, hH.1], fun k v hk => ?_⟩
        obtain ⟨v', q1, q2⟩ := hH.2 k v hk
        exact ⟨v', by rw [e1, e2, q1], q2.mono hag⟩
      | gone => trivial
  · intro j k u v hj hk hu hv hjk
    rcases cases2 hj with ⟨p1, p2, p3⟩ | rfl | ⟨rfl, rfl⟩
    · rcases cases2 hk with ⟨q1, q2, q3⟩ | rfl | ⟨rfl, rfl⟩
      · rw [hag.blk j p1, hag.blk k q1]; exact g.apart j k u v p3 q3 hu hv hjk
      · exact hv.elim
      · rw [hag.blk j p1, e1]; exact g.apart j i u v p3 hi hu hv p2
    · exact hu.elim
    · rcases cases2 hk with ⟨q1, q2, q3⟩ | rfl | ⟨rfl, rfl⟩
      · rw [hag.blk k q1, e1]; exact g.apart i k u v hi q3 hu hv (Ne.symm q2)
      · exact hv.elim
      · exact absurd rfl hjk
  · rintro b ⟨j, u, hj, hu, rfl⟩
    rcases cases2 hj with ⟨p1, p2, p3⟩ | rfl | ⟨rfl, rfl⟩
    · exact .inr ⟨j, u, p3, hu, (hag.blk j p1).symm⟩
    · exact hu.elim
    · exact .inr ⟨i, u, hi, hu, e1.symm⟩

end
end Go.AX
