/- A region whose order is open: what its first operations leave, in whatever order. -/
import Derived.Test.YtmcepaeialgipaaCxAX13
namespace Go.AX

/-- What one operation gives, and makes. -/
structure FStep where
  o : Oper
  go : Bool
  v : Value
  new : AHeap

def maskOne (b : Bool) (s : AHeap) : AHeap :=
  match b with
  | true => s
  | false => s.map fun _ => AObj.gone

theorem maskOne_length (b : Bool) (s : AHeap) : (maskOne b s).length = s.length := by cases b <;> simp [maskOne]

def maskSegs (keep : Nat → Bool) : Nat → List AHeap → AHeap
  | _, [] => []
  | k, s :: r => maskOne (keep k) s ++ maskSegs keep (k + 1) r

def offs : List AHeap → Nat → Nat
  | _, 0 => 0
  | [], _ + 1 => 0
  | s :: r, k + 1 => s.length + offs r k

theorem maskSegs_length (keep keep' : Nat → Bool) : ∀ (k k' : Nat) (l : List AHeap), (maskSegs keep k l).length = (maskSegs keep' k' l).length
  | _, _, [] => rfl
  | k, k', s :: r => by
    simp only [maskSegs, List.length_append, maskOne_length]
    rw [maskSegs_length keep keep' (k + 1) (k' + 1) r]

theorem maskSegs_len (keep : Nat → Bool) : ∀ (k : Nat) (l : List AHeap), (maskSegs keep k l).length = offs l l.length
  | _, [] => rfl
  | k, s :: r => by
    simp only [maskSegs, List.length_append, List.length_cons, offs, maskSegs_len keep (k + 1) r, maskOne_length]

/-- What is there, and live, is of one that is kept. -/
theorem maskSegs_get (keep : Nat → Bool) : ∀ (k0 : Nat) (l : List AHeap) (i : Nat) (o : AObj), (maskSegs keep k0 l)[i]? = some o → o = .gone ∨
    ∃ k q s, keep (k0 + k) = true ∧ l[k]? = some s ∧ s[q]? = some o ∧ i = offs l k + q
  | _, [], i, o, h => by simp [maskSegs] at h
  | k0, s :: r, i, o, h => by
    simp only [maskSegs, List.getElem?_append, maskOne_length] at h
    split at h
    · rename_i hi
      cases hk : keep k0 with
      | true =>
        rw [hk] at h
        exact .inr ⟨0, i, s, by simpa using hk, by simp, h, by simp [offs]⟩
      | false =>
        rw [hk] at h
        simp only [maskOne, List.getElem?_map] at h
        cases hs : s[i]? with
        | none => rw [hs] at h; simp at h
        | some x => rw [hs] at h; simp at h; exact .inl h.symm
    · rename_i hi
      rcases maskSegs_get keep (k0 + 1) r _ o h with e | ⟨k, q, s', h1, h2, h3, h4⟩
      · exact .inl e
      · exact .inr ⟨k + 1, q, s', by rw [← h1]; congr 1; omega, by simpa using h2, h3, by simp only [offs]; omega⟩

theorem maskSegs_at (keep : Nat → Bool) : ∀ (k0 : Nat) (l : List AHeap) (k q : Nat) (s : AHeap) (o : AObj), keep (k0 + k) = true → l[k]? = some s → s[q]? = some o → (maskSegs keep k0 l)[offs l k + q]? = some o
  | _, [], k, q, s, o, _, h, _ => by simp at h
  | k0, t :: r, 0, q, s, o, hk, hs, ho => by
    simp only [List.getElem?_cons_zero, Option.some.injEq] at hs
    subst hs
    simp only [maskSegs, offs, Nat.zero_add]
    rw [show keep k0 = true from hk, List.getElem?_append_left (by rw [maskOne_length]; exact (List.getElem?_eq_some_iff.1 ho).1)]
    exact ho
  | k0, t :: r, k + 1, q, s, o, hk, hs, ho => by
    simp only [List.getElem?_cons_succ] at hs
    have hlen := maskOne_length (keep k0) t
    simp only [maskSegs, offs]
    rw [List.getElem?_append_right (by rw [hlen]; omega), hlen, show t.length + offs r k + q - t.length = offs r k + q by omega]
    exact maskSegs_at keep (k0 + 1) r k q s o (by rw [← hk]; congr 1; omega) hs ho

theorem offs_mono : ∀ (l : List AHeap) (j k : Nat), j ≤ k → offs l j ≤ offs l k
  | [], 0, _, _ => by simp [offs]
  | [], j + 1, 0, h => by omega
  | [], j + 1, k + 1, _ => by simp [offs]
  | _ :: _, 0, _, _ => by simp [offs]
  | s :: r, j + 1, 0, h => by omega
  | s :: r, j + 1, k + 1, h => by simp only [offs]; have := offs_mono r j k (by omega); omega

theorem offs_succ : ∀ (l : List AHeap) (k : Nat) (s : AHeap), l[k]? = some s → offs l (k + 1) = offs l k + s.length
  | [], k, s, h => by simp at h
  | t :: r, 0, s, h => by simp only [List.getElem?_cons_zero, Option.some.injEq] at h; subst h; simp [offs]
  | t :: r, k + 1, s, h => by
    simp only [List.getElem?_cons_succ] at h
    have := offs_succ r k s h
    simp only [offs] at this ⊢
    omega

theorem offs_take : ∀ (l : List AHeap) (j k : Nat), k ≤ j → offs (l.take j) k = offs l k
  | _, _, 0, _ => by simp [offs]
  | [], j, k + 1, _ => by simp [offs]
  | s :: r, 0, k + 1, h => by omega
  | s :: r, j + 1, k + 1, h => by simp only [List.take_succ_cons, offs]; rw [offs_take r j k (by omega)]

/-- Whose an id is: 'none': of what was there; 'some k': of operation k. -/
def ownerOf (base : Nat) (segs : List AHeap) (i k : Nat) (s : AHeap) : Prop := segs[k]? = some s ∧ base + offs segs k ≤ i ∧ i < base + offs segs k + s.length

theorem ownerOf_eq {base : Nat} {segs : List AHeap} {i k k' : Nat} {s s' : AHeap} (h : ownerOf base segs i k s) (h' : ownerOf base segs i k' s') : k = k' := by
  rcases Nat.lt_trichotomy k k' with e | e | e
  · have h1 := offs_succ segs k s h.1
    have h2 := offs_mono segs (k + 1) k' e
    have := h.2.2; have := h'.2.1
    omega
  · exact e
  · have h1 := offs_succ segs k' s' h'.1
    have h2 := offs_mono segs (k' + 1) k e
    have := h'.2.2; have := h.2.1
    omega

/-- The front of a region: its operations, what each gives, whom each waits for. -/
structure Front (P : Program) (ops : Array Oper) (T0 : Tm) (H0 : AHeap) (st : List FStep) (pre : Nat → Nat → Bool) : Prop where
  at_ : ∀ (j : Nat) (s : FStep), st[j]? = some s → ops[j]? = some s.o
  lt : ∀ j k, pre j k = true → k < j
  /-- the temporaries, as the text goes -/
  lex : ∃ T : Nat → Tm, T 0 = T0 ∧ (∀ (j : Nat) (s : FStep), st[j]? = some s → T (j + 1) = putD (T j) s.o.dst s.v) ∧
    ∀ (j : Nat) (s : FStep), st[j]? = some s → ∀ (E : Env) (w : World) (a : Act),
      Good E (H0 ++ maskSegs (pre j) 0 ((st.map (·.new)).take j)) w → (∀ x, x ∈ s.o.looksAt ops → Rep E ((T j).get x) (a.tmps.getD x undef)) → (T j).n = a.tmps.size →
      Region.wanted s.o (yielded ops a.tmps) = s.go ∧
      (s.go = true → OpNext P E (H0 ++ maskSegs (pre j) 0 ((st.map (·.new)).take j)) w s.o a s.v ((H0 ++ maskSegs (pre j) 0 ((st.map (·.new)).take j)) ++ s.new)) ∧
      (s.go = false → s.v = undef ∧ s.new = [])
  n : T0.n ≤ 4000
  /-- operations that touch one temporary wait for each other -/
  apart : ∀ (i j : Nat) (si sj : FStep), i < j → st[i]? = some si → st[j]? = some sj → pre j i = true ∨ si.o.apart ops sj.o = true
  ids : ∀ (j : Nat) (s : FStep), st[j]? = some s → ∃ p : Nat → Bool, okIds p s.v = true ∧ (∀ o ∈ s.new, okObj p o = true ∧ (o.live → o.own)) ∧
    ∀ i, p i = true → i < H0.length ∨ ∃ k sk, (k = j ∨ pre j k = true) ∧ ownerOf H0.length (st.map (·.new)) i k sk

/-- What holds when some of them have been done. -/
structure FInv (st : List FStep) (T0 : Tm) (H0 : AHeap) (E0 : Env) (w0 : World) (S : Nat → Bool) (E : Env) (a : Act) (w : World) : Prop where
  n : E.n = H0.length + offs (st.map (·.new)) st.length
  base : ∀ (i : Nat) (o : AObj), H0[i]? = some o → Holds (E.tr H0.length) w i o
  news : ∀ (k : Nat) (s : FStep) (q : Nat) (o : AObj), S k = true → st[k]? = some s → s.new[q]? = some o → Holds E w (H0.length + offs (st.map (·.new)) k + q) o
  apart : ∀ (i j : Nat) (o u : AObj), (H0 ++ maskSegs S 0 (st.map (·.new)))[i]? = some o → (H0 ++ maskSegs S 0 (st.map (·.new)))[j]? = some u → o.own → u.live → i ≠ j → E.blk i ≠ E.blk j
  agree : Env.Agree H0.length E0 E
  frame : ∀ b, b < w0.heap.size → ¬ Owned E0 H0 b → w.heap[b]? = w0.heap[b]?
  own : ∀ b, Owned E (H0 ++ maskSegs S 0 (st.map (·.new))) b → w0.heap.size ≤ b ∨ Owned E0 H0 b
  size : w0.heap.size ≤ w.heap.size
  os : w.os = w0.os
  tape : Calm w0 w
  output : w.output = w0.output
  tn : T0.n = a.tmps.size
  ts : ∀ x, x < a.tmps.size → (∃ (k : Nat) (s : FStep), S k = true ∧ st[k]? = some s ∧ s.o.dst = some x ∧ (∀ (k' : Nat) (s' : FStep), k < k' → S k' = true → st[k']? = some s' → s'.o.dst ≠ some x) ∧ Rep E s.v (a.tmps.getD x undef)) ∨
    ((∀ (k : Nat) (s : FStep), S k = true → st[k]? = some s → s.o.dst ≠ some x) ∧ Rep (E.tr H0.length) (T0.get x) (a.tmps.getD x undef))
  hi : ∀ x, a.tmps.size ≤ x → Rep (E.tr H0.length) (T0.get x) undef
  defers : a.defers = []

section
variable {P : Program} {ops : Array Oper} {T0 : Tm} {H0 : AHeap} {st : List FStep} {pre : Nat → Nat → Bool}

/-- The temporaries as the text goes: who wrote them last. -/
theorem lex_get {T : Nat → Tm} (h0 : T 0 = T0) (h1 : ∀ (j : Nat) (s : FStep), st[j]? = some s → T (j + 1) = putD (T j) s.o.dst s.v) (hn : T0.n ≤ 4000) : ∀ (j : Nat), j ≤ st.length → (T j).n = T0.n ∧ (∀ x, T0.n ≤ x → (T j).get x = T0.get x) ∧ ∀ x, x < T0.n →
    (∃ (k : Nat) (s : FStep), k < j ∧ st[k]? = some s ∧ s.o.dst = some x ∧ (∀ (k' : Nat) (s' : FStep), k < k' → k' < j → st[k']? = some s' → s'.o.dst ≠ some x) ∧ (T j).get x = s.v) ∨ ((∀ (k : Nat) (s : FStep), k < j → st[k]? = some s → s.o.dst ≠ some x) ∧ (T j).get x = T0.get x)
  | 0, _ => ⟨by rw [h0], fun x _ => by rw [h0], fun x _ => .inr ⟨fun k s h => absurd h (by omega), by rw [h0]⟩⟩
  | j + 1, hj => by
    have hs : st[j]? = some st[j] := List.getElem?_eq_getElem (by omega)
    obtain ⟨ih1, ih0, ih2⟩ := lex_get h0 h1 hn j (by omega)
    rw [h1 j _ hs]
    refine ⟨?_, fun x hx => ?_, fun x hx => ?_⟩
    · unfold putD
      split
      · exact ih1
      · rw [Tm.put_n]; exact ih1
    · unfold putD
      split
      · exact ih0 x hx
      · rw [Tm.get_put _ _ _ _ (by omega), if_neg (by omega)]; exact ih0 x hx
    · by_cases hd : st[j].o.dst = some x
      · refine .inl ⟨j, st[j], by omega, hs, hd, fun k' s' q1 q2 => absurd q1 (by omega), ?_⟩
        rw [hd]
        simp only [putD]
        rw [Tm.get_put _ _ _ _ (by omega), if_pos ⟨rfl, by omega⟩]
      · have hg : (putD (T j) st[j].o.dst st[j].v).get x = (T j).get x := by
          unfold putD
          split
          · rfl
          · rename_i d hd2
            rw [Tm.get_put _ _ _ _ (by omega), if_neg (fun h => hd (by rw [hd2, h.1]))]
        rw [hg]
        rcases ih2 x hx with ⟨k, s, q1, q2, q3, q4, q5⟩ | ⟨q1, q2⟩
        · refine .inl ⟨k, s, by omega, q2, q3, fun k' s' r1 r2 r3 => ?_, q5⟩
          by_cases e : k' = j
          · subst e
            rw [hs] at r3
            rw [← Option.some.inj r3]; exact hd
          · exact q4 k' s' r1 (by omega) r3
        · refine .inr ⟨fun k s r1 r2 => ?_, q2⟩
          by_cases e : k = j
          · subst e
            rw [hs] at r2
            rw [← Option.some.inj r2]; exact hd
          · exact q1 k s (by omega) r2

/-- What stands where in a heap of which some is masked. -/
theorem mask_cases {S : Nat → Bool} {l : List AHeap} {i : Nat} {o : AObj} (h : (H0 ++ maskSegs S 0 l)[i]? = some o) (hl : o ≠ .gone) :
    (i < H0.length ∧ H0[i]? = some o) ∨ ∃ k q s, S k = true ∧ l[k]? = some s ∧ s[q]? = some o ∧ i = H0.length + offs l k + q := by
  rw [List.getElem?_append] at h
  split at h
  · rename_i hi; exact .inl ⟨hi, h⟩
  · rename_i hi
    rcases maskSegs_get S 0 l _ o h with e | ⟨k, q, s, h1, h2, h3, h4⟩
    · exact absurd e hl
    · exact .inr ⟨k, q, s, by simpa using h1, h2, h3, by omega⟩

theorem mask_base {S : Nat → Bool} {l : List AHeap} {i : Nat} {o : AObj} (h : H0[i]? = some o) : (H0 ++ maskSegs S 0 l)[i]? = some o := by
  rw [List.getElem?_append_left (List.getElem?_eq_some_iff.1 h).1]; exact h

theorem mask_new {S : Nat → Bool} {l : List AHeap} {k q : Nat} {s : AHeap} {o : AObj} (hk : S k = true) (hs : l[k]? = some s) (ho : s[q]? = some o) : (H0 ++ maskSegs S 0 l)[H0.length + offs l k + q]? = some o := by
  rw [List.getElem?_append_right (by omega), show H0.length + offs l k + q - H0.length = offs l k + q by omega]
  exact maskSegs_at S 0 l k q s o (by simpa using hk) hs ho

theorem live_ne {o : AObj} (h : o.live) : o ≠ .gone := fun e => by subst e; exact h

theorem holds_lt {E : Env} {w : World} {i : Nat} {o : AObj} (hH : Holds E w i o) (hl : o.live) : E.blk i < w.heap.size := by
  rcases Nat.lt_or_ge (E.blk i) w.heap.size with h' | h'
  · exact h'
  · have hn : w.heap[E.blk i]? = none := Array.getElem?_eq_none h'
    cases o with
    | cells vs e sz => obtain ⟨c, h1, _⟩ := hH; simp [hn] at h1
    | row vs e sz => obtain ⟨c, h1, _⟩ := hH.2 hl; simp [hn] at h1
    | mp es => obtain ⟨c, k, h1, _⟩ := hH; simp [hn] at h1
    | ro vs sz =>
      cases vs with
      | nil => exact absurd rfl hl
      | cons v vs =>
        obtain ⟨v', h1, _⟩ := hH.2 0 v rfl
        simp [World.cell?, hn] at h1
    | gone => exact hl.elim

theorem seg_at {k : Nat} {s : FStep} (h : st[k]? = some s) : (st.map (·.new))[k]? = some s.new := by simp [h]

theorem seg_of {k : Nat} {l : AHeap} (h : (st.map (·.new))[k]? = some l) : ∃ s, st[k]? = some s ∧ s.new = l := by
  simp only [List.getElem?_map, Option.map_eq_some_iff] at h
  exact h

/-- The heap that operation j meets. -/
def hmOf (H0 : AHeap) (st : List FStep) (pre : Nat → Nat → Bool) (j : Nat) : AHeap := H0 ++ maskSegs (pre j) 0 ((st.map (·.new)).take j)

theorem hm_length {j : Nat} (hj : j ≤ st.length) : (hmOf H0 st pre j).length = H0.length + offs (st.map (·.new)) j := by
  unfold hmOf
  rw [List.length_append, maskSegs_len, List.length_take, List.length_map, Nat.min_eq_left hj, offs_take _ _ _ (Nat.le_refl _)]

theorem hm_cases (F : Front P ops T0 H0 st pre) {j i : Nat} {o : AObj} (h : (hmOf H0 st pre j)[i]? = some o) (hl : o ≠ .gone) :
    (i < H0.length ∧ H0[i]? = some o) ∨ ∃ k q s, k < j ∧ pre j k = true ∧ st[k]? = some s ∧ s.new[q]? = some o ∧ i = H0.length + offs (st.map (·.new)) k + q := by
  rcases mask_cases h hl with h1 | ⟨k, q, l, h1, h2, h3, h4⟩
  · exact .inl h1
  · have hk := F.lt _ _ h1
    rw [List.getElem?_take_of_lt hk] at h2
    obtain ⟨s, q1, rfl⟩ := seg_of h2
    exact .inr ⟨k, q, s, hk, h1, q1, h3, by rw [offs_take _ _ _ (by omega)] at h4; exact h4⟩

theorem hm_in (F : Front P ops T0 H0 st pre) {S : Nat → Bool} {j i : Nat} {o : AObj} (hpre : ∀ k, pre j k = true → S k = true) (h : (hmOf H0 st pre j)[i]? = some o) (hl : o ≠ .gone) : (H0 ++ maskSegs S 0 (st.map (·.new)))[i]? = some o := by
  rcases hm_cases F h hl with ⟨_, h1⟩ | ⟨k, q, s, h0, h1, h2, h3, rfl⟩
  · exact mask_base h1
  · exact mask_new (hpre k h1) (seg_at h2) h3

theorem hm_at {j k q : Nat} {s : FStep} {o : AObj} (hk : k < j) (hp : pre j k = true) (hs : st[k]? = some s) (ho : s.new[q]? = some o) : (hmOf H0 st pre j)[H0.length + offs (st.map (·.new)) k + q]? = some o := by
  have := mask_new (H0 := H0) (S := pre j) (l := (st.map (·.new)).take j) (k := k) (q := q) (s := s.new) (o := o) hp (by rw [List.getElem?_take_of_lt hk]; exact seg_at hs) ho
  rw [offs_take _ _ _ (by omega)] at this
  exact this

/-- The ids of what an operation gave are of those that came before it, or its own. -/
theorem ids_lt (F : Front P ops T0 H0 st pre) {k : Nat} {p : Nat → Bool} (hp : ∀ i, p i = true → i < H0.length ∨ ∃ k' sk, (k' = k ∨ pre k k' = true) ∧ ownerOf H0.length (st.map (·.new)) i k' sk) {i : Nat} (hi : p i = true) (j : Nat) (hj : k < j) :
    i < H0.length + offs (st.map (·.new)) j := by
  rcases hp i hi with h | ⟨k', sk, h1, h2⟩
  · omega
  · have hk' : k' ≤ k := by
      rcases h1 with h | h
      · omega
      · exact Nat.le_of_lt (F.lt _ _ h)
    have e1 := offs_succ _ _ _ h2.1
    have e2 := offs_mono (st.map (·.new)) (k' + 1) j (by omega)
    have := h2.2.2
    omega

theorem good_hm (F : Front P ops T0 H0 st pre) {E0 : Env} {w0 : World} {S : Nat → Bool} {E : Env} {a : Act} {w : World} (I : FInv st T0 H0 E0 w0 S E a w) {j : Nat} (hj : j < st.length)
    (hpre : ∀ k, pre j k = true → S k = true) : Good (E.tr (H0.length + offs (st.map (·.new)) j)) (hmOf H0 st pre j) w := by
  refine ⟨(hm_length (Nat.le_of_lt hj)).symm, fun i o hi => ?_, fun i i' o u hi hi' ho hu hne => ?_⟩
  · by_cases hg : o = .gone
    · subst hg; trivial
    · rcases hm_cases F hi hg with ⟨h1, h2⟩ | ⟨k, q, s, h0, h1, h2, h3, rfl⟩
      · exact holds_agree (E := E.tr H0.length) ⟨Nat.le_add_right _ _, fun _ _ => rfl, fun _ _ => rfl, fun _ _ => rfl, fun _ _ => rfl⟩ h1 (I.base i o h2)
      · obtain ⟨p, p1, p2, p3⟩ := F.ids k s h2
        have hH := I.news k s q o (hpre k h1) h2 h3
        exact holds_on (E := E) (F := E.tr (H0.length + offs (st.map (·.new)) j)) ⟨fun i hi => ids_lt F p3 hi j h0, fun _ _ => rfl, fun _ _ => rfl, fun _ _ => rfl, fun _ _ => rfl⟩ ⟨rfl, rfl, rfl, rfl⟩ (p2 o (List.mem_of_getElem? h3)).1 hH (fun _ => rfl)
  · exact I.apart i i' o u (hm_in F hpre hi (live_ne (own_live ho))) (hm_in F hpre hi' (live_ne hu)) ho hu hne

def mergeE (E E' : Env) (lo hi : Nat) : Env where
  n := E.n
  blk := fun i => if lo ≤ i ∧ i < hi then E'.blk i else E.blk i
  off := fun i => if lo ≤ i ∧ i < hi then E'.off i else E.off i
  csz := fun i => if lo ≤ i ∧ i < hi then E'.csz i else E.csz i
  esz := fun i => if lo ≤ i ∧ i < hi then E'.esz i else E.esz i

theorem mergeE_out {E E' : Env} {lo hi i : Nat} (h : ¬ (lo ≤ i ∧ i < hi)) : (mergeE E E' lo hi).blk i = E.blk i ∧ (mergeE E E' lo hi).off i = E.off i ∧ (mergeE E E' lo hi).csz i = E.csz i ∧ (mergeE E E' lo hi).esz i = E.esz i := by
  simp [mergeE, h]

theorem mergeE_in {E E' : Env} {lo hi i : Nat} (h : lo ≤ i ∧ i < hi) : (mergeE E E' lo hi).blk i = E'.blk i ∧ (mergeE E E' lo hi).off i = E'.off i ∧ (mergeE E E' lo hi).csz i = E'.csz i ∧ (mergeE E E' lo hi).esz i = E'.esz i := by
  simp [mergeE, h]

theorem front_add (F : Front P ops T0 H0 st pre) {E0 : Env} {w0 : World} {S : Nat → Bool} {E : Env} {a : Act} {w : World} (I : FInv st T0 H0 E0 w0 S E a w) {j : Nat} {s : FStep} (hj : st[j]? = some s) (hS : S j = false)
    (hpre : ∀ k, pre j k = true → S k = true) (hclosed : ∀ k, S k = true → pre k j = false) {E' : Env} {w' : World} {v' : Value} (g' : Good E' (hmOf H0 st pre j ++ s.new) w')
    (ev : Evol (H0.length + offs (st.map (·.new)) j) (E.tr (H0.length + offs (st.map (·.new)) j)) (hmOf H0 st pre j) w E' (hmOf H0 st pre j ++ s.new) w') (rv : Rep E' s.v v') :
    FInv st T0 H0 E0 w0 (fun k => S k || Nat.beq k j) (mergeE E E' (H0.length + offs (st.map (·.new)) j) (H0.length + offs (st.map (·.new)) j + s.new.length)) (a.put s.o.dst v') w' := by
  have hjl : j < st.length := (List.getElem?_eq_some_iff.1 hj).1
  have ghm := good_hm F I hjl hpre
  have hml := hm_length (H0 := H0) (pre := pre) (Nat.le_of_lt hjl)
  have hjs := seg_at hj
  have hos := offs_succ _ _ _ hjs
  have hol := offs_mono (st.map (·.new)) (j + 1) st.length hjl
  generalize hpj : H0.length + offs (st.map (·.new)) j = pj at *
  generalize hM : mergeE E E' pj (pj + s.new.length) = M at *
  have hE'n : E'.n = pj + s.new.length := by rw [g'.n, List.length_append, hml]
  have hMn : M.n = E.n := by rw [← hM]; rfl
  have hEn := I.n
  have hag : ∀ i, i < pj → E'.blk i = E.blk i ∧ E'.off i = E.off i ∧ E'.csz i = E.csz i ∧ E'.esz i = E.esz i := fun i hi => ⟨ev.agree.blk i hi, ev.agree.off i hi, ev.agree.csz i hi, ev.agree.esz i hi⟩
  have hMo : ∀ i, ¬ (pj ≤ i ∧ i < pj + s.new.length) → M.blk i = E.blk i ∧ M.off i = E.off i ∧ M.csz i = E.csz i ∧ M.esz i = E.esz i := fun i hi => by rw [← hM]; exact mergeE_out hi
  have hMi : ∀ i, i < pj + s.new.length → M.blk i = E'.blk i ∧ M.off i = E'.off i ∧ M.csz i = E'.csz i ∧ M.esz i = E'.esz i := fun i hi => by
    by_cases h : pj ≤ i
    · rw [← hM]; exact mergeE_in ⟨h, hi⟩
    · obtain ⟨a1, a2, a3, a4⟩ := hMo i (by omega)
      obtain ⟨b1, b2, b3, b4⟩ := hag i (by omega)
      exact ⟨a1.trans b1.symm, a2.trans b2.symm, a3.trans b3.symm, a4.trans b4.symm⟩
  have hbase : H0.length ≤ pj := by omega
  have agM : Env.Agree E'.n E' M := ⟨by omega, fun i hi => (hMi i (by omega)).1, fun i hi => (hMi i (by omega)).2.1, fun i hi => (hMi i (by omega)).2.2.1, fun i hi => (hMi i (by omega)).2.2.2⟩
  have agB : Env.Agree H0.length (E.tr H0.length) (M.tr H0.length) := ⟨Nat.le_refl _, fun i hi => (hMo i (by omega)).1, fun i hi => (hMo i (by omega)).2.1, fun i hi => (hMo i (by omega)).2.2.1, fun i hi => (hMo i (by omega)).2.2.2⟩
  have idx_out : ∀ {k q : Nat} {sk : FStep} {o : AObj}, k ≠ j → st[k]? = some sk → sk.new[q]? = some o → ¬ (pj ≤ H0.length + offs (st.map (·.new)) k + q ∧ H0.length + offs (st.map (·.new)) k + q < pj + s.new.length) := by
    intro k q sk o hk hs ho hc
    have hq := (List.getElem?_eq_some_iff.1 ho).1
    exact hk (ownerOf_eq (base := H0.length) (segs := st.map (·.new)) (i := H0.length + offs (st.map (·.new)) k + q) ⟨seg_at hs, by omega, by omega⟩ ⟨hjs, by omega, by omega⟩)
  have onM : ∀ {k : Nat} {p : Nat → Bool}, S k = true → k < st.length → (∀ i, p i = true → i < H0.length ∨ ∃ k' sk, (k' = k ∨ pre k k' = true) ∧ ownerOf H0.length (st.map (·.new)) i k' sk) → Env.On p E M := by
    intro k p hk hkl hp
    have hout : ∀ i, p i = true → ¬ (pj ≤ i ∧ i < pj + s.new.length) := by
      intro i hi hc
      rcases hp i hi with h | ⟨k', sk, h1, h2⟩
      · omega
      · have := ownerOf_eq h2 (⟨hjs, by omega, by omega⟩ : ownerOf H0.length (st.map (·.new)) i j s.new)
        subst this
        rcases h1 with rfl | h1
        · rw [hS] at hk; exact Bool.noConfusion hk
        · rw [hclosed k hk] at h1; exact Bool.noConfusion h1
    refine ⟨fun i hi => ?_, fun i hi => (hMo i (hout i hi)).1, fun i hi => (hMo i (hout i hi)).2.1, fun i hi => (hMo i (hout i hi)).2.2.1, fun i hi => (hMo i (hout i hi)).2.2.2⟩
    have := ids_lt F hp hi (k + 1) (Nat.lt_succ_self _)
    have := offs_mono (st.map (·.new)) (k + 1) st.length hkl
    omega
  have hm' : ∀ {i : Nat} {o : AObj}, (hmOf H0 st pre j)[i]? = some o → (hmOf H0 st pre j ++ s.new)[i]? = some o := fun h => by
    rw [List.getElem?_append_left (List.getElem?_eq_some_iff.1 h).1]; exact h
  have hnew : ∀ {q : Nat} {o : AObj}, s.new[q]? = some o → (hmOf H0 st pre j ++ s.new)[pj + q]? = some o := fun h => by
    rw [List.getElem?_append_right (by omega), hml, Nat.add_sub_cancel_left]; exact h
  -- what is there now
  have look : ∀ {i : Nat} {o : AObj}, (H0 ++ maskSegs (fun k => S k || Nat.beq k j) 0 (st.map (·.new)))[i]? = some o → o ≠ .gone →
      ((H0 ++ maskSegs S 0 (st.map (·.new)))[i]? = some o ∧ M.blk i = E.blk i ∧ (i < H0.length ∨ ∃ k q sk, S k = true ∧ st[k]? = some sk ∧ sk.new[q]? = some o ∧ i = H0.length + offs (st.map (·.new)) k + q)) ∨ (∃ q, s.new[q]? = some o ∧ i = pj + q ∧ M.blk i = E'.blk i) := by
    intro i o hi hg
    rcases mask_cases hi hg with ⟨h1, h2⟩ | ⟨k, q, l, h1, h2, h3, h4⟩
    · exact .inl ⟨mask_base h2, (hMo i (by omega)).1, .inl h1⟩
    · obtain ⟨sk, q1, rfl⟩ := seg_of h2
      by_cases hk : k = j
      · subst hk
        rw [hj] at q1
        obtain rfl := Option.some.inj q1
        have hq := (List.getElem?_eq_some_iff.1 h3).1
        exact .inr ⟨q, h3, by omega, (hMi i (by omega)).1⟩
      · have hSk : S k = true := by
          rcases Bool.or_eq_true _ _ ▸ h1 with h | h
          · exact h
          · exact absurd (Nat.eq_of_beq_eq_true h) hk
        refine .inl ⟨?_, ?_, .inr ⟨k, q, sk, hSk, q1, h3, h4⟩⟩
        · rw [h4]; exact mask_new hSk h2 h3
        · rw [h4]; exact (hMo _ (idx_out hk q1 h3)).1
  have owned_hm : ∀ {b : Nat}, Owned (E.tr pj) (hmOf H0 st pre j) b → Owned E (H0 ++ maskSegs S 0 (st.map (·.new))) b := fun ⟨i, o, h1, h2, h3⟩ => ⟨i, o, hm_in F hpre h1 (live_ne (own_live h2)), h2, h3⟩
  -- a live object of another operation that j doesn't wait for stays as it is
  have stays : ∀ {i : Nat} {o : AObj}, (H0 ++ maskSegs S 0 (st.map (·.new)))[i]? = some o → o.live → Holds E w i o → (∀ o', (hmOf H0 st pre j)[i]? = some o' → o' = .gone) → w'.heap[E.blk i]? = w.heap[E.blk i]? := by
    intro i o hi hl hH hno
    refine ev.frame _ (holds_lt hH hl) ?_
    rintro ⟨i', o', h1, h2, h3⟩
    by_cases e : i' = i
    · subst e
      exact live_ne (own_live h2) (hno o' h1)
    · exact I.apart i' i o' o (hm_in F hpre h1 (live_ne (own_live h2))) hi h2 hl e h3
  have hm_none : ∀ {k q : Nat} {sk : FStep} {o : AObj}, k ≠ j → pre j k = false → st[k]? = some sk → sk.new[q]? = some o → ∀ o', (hmOf H0 st pre j)[H0.length + offs (st.map (·.new)) k + q]? = some o' → o' = .gone := by
    intro k q sk o hk hp hs ho o' h
    by_cases hg : o' = .gone
    · exact hg
    · exfalso
      have hq := (List.getElem?_eq_some_iff.1 ho).1
      rcases hm_cases F h hg with ⟨h1, _⟩ | ⟨k', q', s', h0, h1, h2, h3, h4⟩
      · omega
      · have hq' := (List.getElem?_eq_some_iff.1 h3).1
        have := ownerOf_eq (base := H0.length) (segs := st.map (·.new)) (i := H0.length + offs (st.map (·.new)) k + q) ⟨seg_at hs, by omega, by omega⟩ (⟨seg_at h2, by omega, by omega⟩ : ownerOf H0.length (st.map (·.new)) _ k' s'.new)
        subst this
        rw [hp] at h1; exact Bool.noConfusion h1
  have newown : ∀ {q : Nat} {o : AObj}, s.new[q]? = some o → o.live → o.own := by
    intro q o h
    obtain ⟨p, _, p2, _⟩ := F.ids j s hj
    exact (p2 o (List.mem_of_getElem? h)).2
  refine ⟨by rw [hMn]; exact I.n, ?_, ?_, ?_, ?_, ?_, ?_, Nat.le_trans I.size ev.size, ev.os.trans I.os, I.tape.trans ev.tape, ev.output.trans I.output, ?_, ?_, ?_, ?_⟩
  · -- base
    intro i o hi
    have hil : i < H0.length := (List.getElem?_eq_some_iff.1 hi).1
    have h1 := g'.holds i o (hm' (mask_base hi))
    have h2 := h1.tr (I.base i o hi)
    exact holds_agree (E := E'.tr H0.length) ⟨Nat.le_refl _, fun i hi => (hMi i (by simp only [Env.tr] at hi; omega)).1, fun i hi => (hMi i (by simp only [Env.tr] at hi; omega)).2.1, fun i hi => (hMi i (by simp only [Env.tr] at hi; omega)).2.2.1, fun i hi => (hMi i (by simp only [Env.tr] at hi; omega)).2.2.2⟩ hil h2
  · -- news
    intro k sk q o hk hs ho
    by_cases hkj : k = j
    · subst hkj
      rw [hj] at hs
      obtain rfl := Option.some.inj hs
      have hq := (List.getElem?_eq_some_iff.1 ho).1
      rw [hpj]
      exact holds_agree agM (by omega) (g'.holds _ o (hnew ho))
    · have hSk : S k = true := by
        rcases Bool.or_eq_true _ _ ▸ hk with h | h
        · exact h
        · exact absurd (Nat.eq_of_beq_eq_true h) hkj
      have hkl : k < st.length := (List.getElem?_eq_some_iff.1 hs).1
      cases hp : pre j k with
      | true =>
        have hkj2 := F.lt _ _ hp
        have h1 := hm_at (H0 := H0) (pre := pre) hkj2 hp hs ho
        have hl : H0.length + offs (st.map (·.new)) k + q < pj := by
          have := (List.getElem?_eq_some_iff.1 h1).1; omega
        exact holds_agree agM (by omega) (g'.holds _ o (hm' h1))
      | false =>
        have hH := I.news k sk q o hSk hs ho
        obtain ⟨p, p1, p2, p3⟩ := F.ids k sk hs
        exact holds_on (onM hSk hkl p3) (hMo _ (idx_out hkj hs ho)) (p2 o (List.mem_of_getElem? ho)).1 hH (fun hl => stays (mask_new hSk (seg_at hs) ho) hl hH (hm_none hkj hp hs ho))
  · -- apart
    intro i i' o u hi hi' ho hu hne
    rcases look hi (live_ne (own_live ho)) with ⟨a1, a2, a3⟩ | ⟨q, a1, rfl, a2⟩
    · rcases look hi' (live_ne hu) with ⟨b1, b2, b3⟩ | ⟨q', b1, rfl, b2⟩
      · rw [a2, b2]; exact I.apart i i' o u a1 b1 ho hu hne
      · rw [a2, b2]
        intro he
        by_cases hin : (hmOf H0 st pre j)[i]? = some o
        · have hl : i < pj := by have := (List.getElem?_eq_some_iff.1 hin).1; omega
          exact g'.apart i (pj + q') o u (hm' hin) (hnew b1) ho hu (by omega) ((hag i hl).1.trans he)
        · -- not met by j
          have hH : Holds E w i o := by
            rcases a3 with h | ⟨k, q, sk, h1, h2, h3, rfl⟩
            · rw [List.getElem?_append_left h] at a1
              exact absurd (mask_base a1) hin
            · exact I.news k sk q o h1 h2 h3
          have hbl := holds_lt hH (own_live ho)
          rcases ev.own _ ⟨pj + q', u, hnew b1, newown b1 hu, rfl⟩ with h | ⟨i2, o2, h1, h2, h3⟩
          · omega
          · have hl2 : i2 < pj := by have := (List.getElem?_eq_some_iff.1 h1).1; omega
            exact g'.apart i2 (pj + q') o2 u (hm' h1) (hnew b1) h2 hu (by omega) ((hag i2 hl2).1.trans h3)
    · rcases look hi' (live_ne hu) with ⟨b1, b2, b3⟩ | ⟨q', b1, rfl, b2⟩
      · rw [a2, b2]
        intro he
        by_cases hin : (hmOf H0 st pre j)[i']? = some u
        · have hl : i' < pj := by have := (List.getElem?_eq_some_iff.1 hin).1; omega
          exact g'.apart (pj + q) i' o u (hnew a1) (hm' hin) ho hu (by omega) (he.trans (hag i' hl).1.symm)
        · have hH : Holds E w i' u := by
            rcases b3 with h | ⟨k, q, sk, h1, h2, h3, rfl⟩
            · rw [List.getElem?_append_left h] at b1
              exact absurd (mask_base b1) hin
            · exact I.news k sk q u h1 h2 h3
          have hbl := holds_lt hH hu
          rcases ev.own _ ⟨pj + q, o, hnew a1, ho, rfl⟩ with h | ⟨i2, o2, h1, h2, h3⟩
          · omega
          · have hl2 : i2 < pj := by have := (List.getElem?_eq_some_iff.1 h1).1; omega
            exact g'.apart i2 (pj + q) o2 o (hm' h1) (hnew a1) h2 (own_live ho) (by omega) ((hag i2 hl2).1.trans h3)
      · rw [a2, b2]; exact g'.apart _ _ o u (hnew a1) (hnew b1) ho hu hne
  · -- agree
    refine ⟨by omega, fun i hi => ?_, fun i hi => ?_, fun i hi => ?_, fun i hi => ?_⟩
    · exact (hMo i (by omega)).1.trans (I.agree.blk i hi)
    · exact (hMo i (by omega)).2.1.trans (I.agree.off i hi)
    · exact (hMo i (by omega)).2.2.1.trans (I.agree.csz i hi)
    · exact (hMo i (by omega)).2.2.2.trans (I.agree.esz i hi)
  · -- frame
    intro b hb hno
    rw [ev.frame b (Nat.lt_of_lt_of_le hb I.size) fun h => by
      rcases I.own b (owned_hm h) with h1 | h1
      · omega
      · exact hno h1]
    exact I.frame b hb hno
  · -- own
    rintro b ⟨i, o, hi, ho, rfl⟩
    rcases look hi (live_ne (own_live ho)) with ⟨a1, a2, a3⟩ | ⟨q, a1, rfl, a2⟩
    · rw [a2]; exact I.own _ ⟨i, o, a1, ho, rfl⟩
    · rw [a2]
      rcases ev.own _ ⟨pj + q, o, hnew a1, ho, rfl⟩ with h | h
      · exact .inl (Nat.le_trans I.size h)
      · exact I.own _ (owned_hm h)
  · -- tn
    rw [I.tn]; cases s.o.dst <;> simp [Act.put]
  · -- ts
    have hsz : (a.put s.o.dst v').tmps.size = a.tmps.size := by cases s.o.dst <;> simp [Act.put]
    intro x hx
    rw [hsz] at hx
    by_cases hd : s.o.dst = some x
    · refine .inl ⟨j, s, by simp, hj, hd, fun k' s' h1 h2 h3 hd' => ?_, ?_⟩
      · have hSk : S k' = true := by
          rcases Bool.or_eq_true _ _ ▸ h2 with h | h
          · exact h
          · have := Nat.eq_of_beq_eq_true h; omega
        rcases F.apart j k' s s' h1 hj h3 with h | h
        · rw [hclosed k' hSk] at h; exact Bool.noConfusion h
        · exact (Oper.apart_spec h).2.1 x hd hd'
      · have : (a.put s.o.dst v').tmps.getD x undef = v' := by
          rw [hd]
          simp only [Act.put, Array.getD_eq_getD_getElem?, Array.getElem?_setIfInBounds_self_of_lt hx, Option.getD_some]
        rw [this]
        exact rv.mono agM
    · have hget : (a.put s.o.dst v').tmps.getD x undef = a.tmps.getD x undef := by
        cases hdd : s.o.dst with
        | none => rfl
        | some d =>
          have : d ≠ x := fun e => hd (by rw [hdd, e])
          simp only [Act.put, Array.getD_eq_getD_getElem?, Array.getElem?_setIfInBounds_ne this]
      rw [hget]
      rcases I.ts x hx with ⟨k, sk, h1, h2, h3, h4, h5⟩ | ⟨h1, h2⟩
      · refine .inl ⟨k, sk, by simp [h1], h2, h3, fun k' s' q1 q2 q3 => ?_, ?_⟩
        · by_cases e : k' = j
          · subst e
            rw [hj] at q3
            obtain rfl := Option.some.inj q3
            exact hd
          · have hSk : S k' = true := by
              rcases Bool.or_eq_true _ _ ▸ q2 with h | h
              · exact h
              · exact absurd (Nat.eq_of_beq_eq_true h) e
            exact h4 k' s' q1 hSk q3
        · obtain ⟨p, p1, p2, p3⟩ := F.ids k sk h2
          exact rep_on (onM h1 (List.getElem?_eq_some_iff.1 h2).1 p3) p1 h5
      · refine .inr ⟨fun k sk q1 q2 => ?_, h2.mono agB⟩
        by_cases e : k = j
        · subst e
          rw [hj] at q2
          obtain rfl := Option.some.inj q2
          exact hd
        · have hSk : S k = true := by
            rcases Bool.or_eq_true _ _ ▸ q1 with h | h
            · exact h
            · exact absurd (Nat.eq_of_beq_eq_true h) e
          exact h1 k sk hSk q2
  · -- hi
    have hsz : (a.put s.o.dst v').tmps.size = a.tmps.size := by cases s.o.dst <;> simp [Act.put]
    intro x hx
    exact (I.hi x (by omega)).mono agB
  · rw [put_defers]; exact I.defers

/-- What operation j reads is what the text's order would have it read. -/
theorem front_reads (F : Front P ops T0 H0 st pre) {T : Nat → Tm} (h0 : T 0 = T0) (h1 : ∀ (j : Nat) (s : FStep), st[j]? = some s → T (j + 1) = putD (T j) s.o.dst s.v)
    {E0 : Env} {w0 : World} {S : Nat → Bool} {E : Env} {a : Act} {w : World} (I : FInv st T0 H0 E0 w0 S E a w) {j : Nat} {s : FStep} (hj : st[j]? = some s) (hS : S j = false)
    (hpre : ∀ k, pre j k = true → S k = true) (hclosed : ∀ k, S k = true → pre k j = false) {x : Tmp} (hx : x ∈ s.o.looksAt ops) : Rep (E.tr (H0.length + offs (st.map (·.new)) j)) ((T j).get x) (a.tmps.getD x undef) := by
  have hjl : j < st.length := (List.getElem?_eq_some_iff.1 hj).1
  obtain ⟨l1, l2, l3⟩ := lex_get h0 h1 F.n j (Nat.le_of_lt hjl)
  have agB : Env.Agree H0.length (E.tr H0.length) (E.tr (H0.length + offs (st.map (·.new)) j)) := ⟨Nat.le_add_right _ _, fun _ _ => rfl, fun _ _ => rfl, fun _ _ => rfl, fun _ _ => rfl⟩
  have after : ∀ k2 s2, S k2 = true → st[k2]? = some s2 → s2.o.dst = some x → k2 < j := by
    intro k2 s2 h1 h2 h3
    rcases Nat.lt_trichotomy k2 j with h | h | h
    · exact h
    · subst h; rw [hS] at h1; exact Bool.noConfusion h1
    · rcases F.apart j k2 s s2 h hj h2 with q | q
      · rw [hclosed k2 h1] at q; exact Bool.noConfusion q
      · exact absurd hx ((Oper.apart_spec q).2.2 x h3)
  by_cases hlt : x < a.tmps.size
  · rcases l3 x (by rw [I.tn]; exact hlt) with ⟨k, sk, q1, q2, q3, q4, q5⟩ | ⟨q1, q2⟩
    · have hp : pre j k = true := by
        rcases F.apart k j sk s q1 q2 hj with h | h
        · exact h
        · exact absurd hx ((Oper.apart_spec h).1 x q3)
      have hSk := hpre k hp
      rcases I.ts x hlt with ⟨k2, s2, r1, r2, r3, r4, r5⟩ | ⟨r1, _⟩
      · have hk2 := after k2 s2 r1 r2 r3
        have : k2 = k := by
          rcases Nat.lt_trichotomy k2 k with h | h | h
          · exact absurd q3 (r4 k sk h hSk q2)
          · exact h
          · exact absurd r3 (q4 k2 s2 h hk2 r2)
        subst this
        rw [q2] at r2
        obtain rfl := Option.some.inj r2
        rw [q5]
        obtain ⟨p, p1, p2, p3⟩ := F.ids k2 sk q2
        exact rep_on (E := E) (F := E.tr (H0.length + offs (st.map (·.new)) j)) ⟨fun i hi => ids_lt F p3 hi j q1, fun _ _ => rfl, fun _ _ => rfl, fun _ _ => rfl, fun _ _ => rfl⟩ p1 r5
      · exact absurd q3 (r1 k sk hSk q2)
    · rw [q2]
      rcases I.ts x hlt with ⟨k2, s2, r1, r2, r3, _, _⟩ | ⟨_, r2⟩
      · exact absurd r3 (q1 k2 s2 (after k2 s2 r1 r2 r3) r2)
      · exact r2.mono agB
  · have hge := Nat.le_of_not_lt hlt
    rw [l2 x (by rw [I.tn]; exact hge), Array.getD_eq_getD_getElem?, Array.getElem?_eq_none hge]
    exact (I.hi x hge).mono agB

/-- One more of them is done. -/
theorem front_step (F : Front P ops T0 H0 st pre) {E0 : Env} {w0 : World} {S : Nat → Bool} {E : Env} {a : Act} {w : World} (I : FInv st T0 H0 E0 w0 S E a w) {j : Nat} {s : FStep} (hj : st[j]? = some s) (hS : S j = false)
    (hpre : ∀ k, pre j k = true → S k = true) (hclosed : ∀ k, S k = true → pre k j = false) {Q : Exit → Act → World → Prop} {K : Act → World → Prop}
    (hK : ∀ E' a' w', FInv st T0 H0 E0 w0 (fun k => S k || Nat.beq k j) E' a' w' → K a' w') : wpOp P ops Q j K a w := by
  have hjl : j < st.length := (List.getElem?_eq_some_iff.1 hj).1
  obtain ⟨T, h0, h1, hf⟩ := F.lex
  obtain ⟨l1, l2, l3⟩ := lex_get h0 h1 F.n j (Nat.le_of_lt hjl)
  have ghm := good_hm F I hjl hpre
  obtain ⟨f1, f2, f3⟩ := hf j s hj _ w a ghm (fun x hx => front_reads F h0 h1 I hj hS hpre hclosed hx) (by rw [l1]; exact I.tn)
  unfold wpOp
  rw [F.at_ j s hj]
  simp only [f1]
  cases hgo : s.go with
  | true =>
    simp only [if_true]
    exact .inl (f2 hgo K Q fun E' w' v' g' ev rv => hK _ _ _ (front_add F I hj hS hpre hclosed g' ev rv))
  | false =>
    simp only [Bool.false_eq_true, if_false]
    obtain ⟨hv, hn⟩ := f3 hgo
    have key := front_add F I hj hS hpre hclosed (E' := E.tr (H0.length + offs (st.map (·.new)) j)) (w' := w) (v' := undef) (by rw [hn, List.append_nil]; exact ghm) (by rw [hn, List.append_nil]; exact .refl _ _ _ (Nat.le_refl _)) (by rw [hv]; exact rep_undef _)
    exact hK _ _ _ key

end
end Go.AX
