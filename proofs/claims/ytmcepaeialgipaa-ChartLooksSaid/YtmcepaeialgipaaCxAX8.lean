/- 'append' on slices of the call's own. -/
import Derived.Test.YtmcepaeialgipaaCxAX7
namespace Go.AX
set_option linter.unusedSimpArgs false
set_option linter.unusedVariables false

noncomputable def srcCells (h : AHeap) (size : Nat) (hint : Hint) (x : Value) : Option (List Prop × Nat × List Value) :=
  match x with
  | .slice none 0 0 => some ([], 0, [])
  | .slice (some ⟨i, o, none⟩) m _ =>
    match objCells h i, hint with
    | some vs, .cells l => some ([(vs.drop o).take (m * size) = l], m, l)
    | some vs, _ => some ([], m, ltake (ldrop vs o) (m * size))
    | none, _ => none
  | _ => none

def roomFor (n bytes : Nat) : Prop := n ≤ 9223372036854775807 ∧ n * bytes ≤ 140737488355328
instance (n bytes : Nat) : Decidable (roomFor n bytes) := inferInstanceAs (Decidable (_ ∧ _))

noncomputable def evAppend (P : Program) (h : AHeap) (hint : Hint) (t : TypeId) (s x : Value) : MRes :=
  match P.underlying t with
  | some (.slice e) =>
    match P.info? e with
    | some inf =>
      match inf.zero, srcCells h inf.size hint x with
      | some z, some (obs, m, news) =>
        if z.cells.size = inf.size then
          if 0 < inf.size then
            match s with
            | .slice none 0 0 =>
              some (obs ++ bs [decide (news.length = m * inf.size), news.all isCell, decide (roomFor m inf.bytes)], .slice (some ⟨h.length, 0, none⟩) m UNK, h ++ [.row news e inf.size])
            | .slice (some ⟨i, o, none⟩) n c =>
              if c = UNK then
                match o, lget h i with
                | 0, some (.row vs e' sz) =>
                  if e' = e then
                    if sz = inf.size then
                      some (obs ++ bs [decide (news.length = m * inf.size), news.all isCell, decide (roomFor (n + m) inf.bytes), decide (vs.length = n * inf.size)], .slice (some ⟨h.length, 0, none⟩) (n + m) UNK, lset h i .gone ++ [.row (vs ++ news) e inf.size])
                    else none
                  else none
                | _, _ => none
              else if c = UNR then none
              else
                match objCells h i with
                | some vs => some (obs ++ bs [decide (news.length = m * inf.size), news.all isCell, decide (roomFor (n + m) inf.bytes), decide (((vs.drop o).take (n * inf.size)).length = n * inf.size), decide (c < n + m)], .slice (some ⟨h.length, 0, none⟩) (n + m) UNK, h ++ [.row ((vs.drop o).take (n * inf.size) ++ news) e inf.size])
                | none => none
            | _ => none
          else none
        else none
      | _, _ => none
    | none => none
  | _ => none

section
variable {P : Program} {E : Env} {h : AHeap} {w : World}

theorem src_sound (g : Good E h w) {size m : Nat} {hint : Hint} {x x' : Value} {obs : List Prop} {l : List Value} (he : srcCells h size hint x = some (obs, m, l)) (ho : AllP obs) (hl : l.length = m * size) (hx : Rep E x x') :
    ∃ ao c' l', x' = .slice ao m c' ∧ RepL E l l' ∧ (0 < m → ∃ a, ao = some a ∧ ∀ (j : Nat) (u : Value), l'[j]? = some u → w.cell? (a.add j) = some u) := by
  unfold srcCells at he
  simp only [ltake_eq, ldrop_eq] at he
  split at he
  · simp only [Option.some.injEq, Prod.mk.injEq] at he
    obtain ⟨rfl, rfl, rfl⟩ := he
    cases hx
    exact ⟨none, 0, [], rfl, .nil, fun h => absurd h (by omega)⟩
  · rename_i i o m' c
    obtain ⟨a', c', rfl, q1, q2⟩ := slOf_rep hx
    have key : ∀ vs, objCells h i = some vs → (vs.drop o).take (m' * size) = l → m' = m → ∃ ao c'' l', Value.slice a' m' c' = .slice ao m c'' ∧ RepL E l l' ∧ (0 < m → ∃ a, ao = some a ∧ ∀ (j : Nat) (u : Value), l'[j]? = some u → w.cell? (a.add j) = some u) := by
      intro vs h1 h2 h3
      subst h3
      obtain ⟨l', r1, r2⟩ := cells_of g h1 o (m' * size)
      rw [h2] at r1
      exact ⟨a', c', l', rfl, r1, fun h0 => ⟨_, q1.2.1 h0, r2⟩⟩
    split at he
    · rename_i vs l1 h1
      simp only [Option.some.injEq, Prod.mk.injEq] at he
      obtain ⟨rfl, rfl, rfl⟩ := he
      exact key vs h1 ho.1 rfl
    · rename_i vs h1 _
      simp only [Option.some.injEq, Prod.mk.injEq] at he
      obtain ⟨rfl, rfl, rfl⟩ := he
      exact key _ h1 rfl rfl
    · simp at he
  · simp at he

/-- An id for what isn't there. -/
theorem good_ghost (g : Good E h w) (o : AObj) (cz ez : Nat) (hl : ¬ o.live) (hh : Holds (E.push 0 0 cz ez) w E.n o) : Good (E.push 0 0 cz ez) (h ++ [o]) w ∧ Evol E.n E h w (E.push 0 0 cz ez) (h ++ [o]) w := by
  have hag := Env.push_agree E 0 0 cz ez
  have hn := g.n
  have hno : ¬ o.own := fun k => hl (own_live k)
  have cases2 : ∀ {i : Nat} {o' : AObj}, (h ++ [o])[i]? = some o' → (i < E.n ∧ h[i]? = some o') ∨ (i = E.n ∧ o' = o) := by
    intro i o' hi
    rw [List.getElem?_append] at hi
    split at hi
    · exact .inl ⟨by omega, hi⟩
    · rename_i hlt
      have : i = h.length := by
        rcases Nat.lt_or_ge i (h.length + 1) with h' | h'
        · omega
        · rw [List.getElem?_eq_none (by simp; omega)] at hi; simp at hi
      subst this
      simp only [Nat.sub_self, List.getElem?_cons_zero, Option.some.injEq] at hi
      exact .inr ⟨by omega, hi.symm⟩
  refine ⟨⟨by simp [Env.push, hn], ?_, ?_⟩, ⟨hag, fun _ _ _ => rfl, ?_, Nat.le_refl _, rfl, .refl _, rfl⟩⟩
  · intro i o' hi
    rcases cases2 hi with ⟨h1, h2⟩ | ⟨rfl, rfl⟩
    · exact (g.holds i o' h2).mono hag h1 (fun _ => rfl)
    · exact hh
  · intro i j o' u hi hj ho hu hij
    rcases cases2 hi with ⟨h1, h2⟩ | ⟨rfl, rfl⟩
    · rcases cases2 hj with ⟨k1, k2⟩ | ⟨rfl, rfl⟩
      · rw [hag.blk i h1, hag.blk j k1]; exact g.apart i j o' u h2 k2 ho hu hij
      · exact absurd hu hl
    · exact absurd ho hno
  · rintro b ⟨i, o', hi, ho, rfl⟩
    rcases cases2 hi with ⟨h1, h2⟩ | ⟨rfl, rfl⟩
    · exact .inr ⟨i, o', h2, ho, (hag.blk i h1).symm⟩
    · exact absurd ho hno

theorem run_append_zero (t ty e : TypeId) (i : TypeInfo) (ht : P.underlying t = some (.slice e)) (hi : P.info? e = some i) (base ao : Option Addr) (n c c' : Nat) (hn : n ≤ c) :
    (Builtin.append_ #[t, t] ty #[.slice base n c, .slice ao 0 c']).run P w = .ok (.slice base n c) w := by
  have hf : (Builtin.firstCells i.size 0 (.slice ao 0 c')).run P w = .ok #[] w := by
    cases ao <;> simp [Builtin.firstCells, loadCells, loadCellsFrom]
  simp only [Builtin.append_, List.getElem?_toArray, List.getElem?_cons_zero, List.getElem?_cons_succ, Sem.run_bind, run_underlying ht, Result.andThen_ok, sizeOf, typeInfo, run_program, hi, Sem.run_pure, Builtin.lenOf, Nat.add_zero, hn, if_true, Bool.false_eq_true, if_false, Bool.not_false, hf]
  cases base <;> simp [storeCells]

/-- The block of a grown slice. -/
theorem good_grown (g : Good E h w) {e : TypeId} {size n : Nat} {z : Value} (hz : z.cells.size = size) (h0 : 0 < n) {vs l : List Value} (hr : RepL E vs l) (hv : vs.length = n * size) (hs : 0 < size) (cap : Nat) (hc : n ≤ cap) :
    let c := l ++ (Builtin.zeroCells z.cells (cap - n)).toList
    let E' := E.push w.heap.size 0 c.length size
    Good E' (h ++ [.row vs e size]) (w.drew.alloc (.cells ⟨c⟩ e)) ∧ Evol E.n E h w E' (h ++ [.row vs e size]) (w.drew.alloc (.cells ⟨c⟩ e)) ∧ Rep E' (.slice (some ⟨h.length, 0, none⟩) n UNK) (.slice (some ⟨w.heap.size, 0, none⟩) n cap) := by
  intro c E'
  have hag : Env.Agree E.n E E' := Env.push_agree E w.heap.size 0 c.length size
  have hcl : c.length = cap * size := by
    simp only [c, List.length_append, hr.length, hv, Array.length_toList, size_zeroCells, hz]
    rw [← Nat.add_mul, Nat.add_sub_cancel' hc]
  have key := good_new g.drew (.cells ⟨c⟩ e) (.row vs e size) 0 c.length size (fun h => h)
    ⟨by simp [Env.push], fun _ => ⟨c, by simp only [Env.push, if_pos]; exact heap_alloc_new w.drew _, by simp [Env.push], by simp [Env.push], by simp only [c, List.length_append, hr.length]; omega, by
      simp only [c]
      rw [← hr.length, List.take_left']
      · exact hr.mono hag
      · rfl⟩⟩
  refine ⟨key.1, (Evol.drew E h w).trans key.2 (Nat.le_refl _), ?_⟩
  have := Rep.slU (E := E') h.length n cap (by simp [E', Env.push, g.n]) h0 hc (by simp [E', Env.push, g.n, hcl])
  simpa [E', Env.push, g.n] using this

theorem run_append_grow0 (t ty e : TypeId) (i : TypeInfo) (z : Value) (ht : P.underlying t = some (.slice e)) (hi : P.info? e = some i) (hz : i.zero = some z)
    (base : Option Addr) (sCap : Nat) (a : Addr) (n c : Nat) (news : List Value) (hl : news.length = n * i.size) (hnews : ∀ (j : Nat) (v : Value), news[j]? = some v → w.cell? (a.add j) = some v)
    (hg : sCap < 0 + n) (h63 : ((0 + n : Nat) : Int) ≤ 9223372036854775807) (hfit : Builtin.nextslicecap (0 + n) sCap * i.bytes ≤ 281474976710656) :
    (Builtin.append_ #[t, t] ty #[.slice base 0 sCap, .slice (some a) n c]).run P w =
      .ok (.slice (some ⟨w.heap.size, 0, none⟩) (0 + n) (grownCap w (0 + n) sCap e))
        (w.drew.alloc (.cells (news.toArray ++ Builtin.zeroCells z.cells (grownCap w (0 + n) sCap e - (0 + n))) e)) := by
  cases base with
  | some b =>
    have := run_append_grow (P := P) w t ty e i z ht hi hz b 0 sCap [] (by simp) (by simp) a n c news hl hnews hg h63 hfit
    simpa using this
  | none =>
    have hn : ¬ (0 + n ≤ sCap) := by omega
    have h63' : ¬ (9223372036854775807 < (n : Int)) := by omega
    have h48' : ¬ (281474976710656 < Builtin.nextslicecap n sCap * i.bytes) := by simp only [Nat.zero_add] at hfit; omega
    have hf := run_firstCells_some (P := P) w.drew i.size n a n c news hl (by simpa using hnews)
    have hf0 := run_firstCells_none (P := P) w.drew i.size 0 0 sCap
    simp only [Nat.zero_add] at hn ⊢
    simp [Builtin.append_, run_underlying ht, sizeOf, typeInfo, zeroValue, hi, hz, Builtin.lenOf, hn, h63', h48', Question.forced, hf0, hf, newRow, grownCap]

theorem unk_inv {i o n c : Nat} {v : Value} (hr : Rep E (.slice (some ⟨i, o, none⟩) n c) v) (hc : c = UNK) :
    (n = 0 ∧ v = .slice none 0 0) ∨ (∃ c', 0 < n ∧ n ≤ c' ∧ v = .slice (some ⟨E.blk i, E.off i, none⟩) n c' ∧ E.off i + c' * E.esz i ≤ E.csz i) := by
  cases hr with
  | slX _ _ _ _ a' hi ha hn hc2 => omega
  | slU _ _ c' hi h0 hn hz => exact .inr ⟨c', h0, hn, rfl, hz⟩
  | slE _ hi => exact .inl ⟨rfl, rfl⟩
  | slR _ _ _ c' a' hi ha hn => exact absurd hc (by decide)

theorem Evol.rep {E' : Env} {h' : AHeap} {w' : World} (a : Evol E.n E h w E' h' w') {v v' : Value} (hr : Rep E v v') : Rep E' v v' := hr.mono a.agree

theorem evAppend_sound {hint : Hint} {t ty : TypeId} {s s' x x' u : Value} {h' : AHeap} {obs : List Prop} (g : Good E h w) (he : evAppend P h hint t s x = some (obs, u, h')) (ho : AllP obs) (hs : Rep E s s') (hx : Rep E x x') :
    ∃ E' w' v', (Builtin.append_ #[t, t] ty #[s', x']).run P w = .ok v' w' ∧ Good E' h' w' ∧ Evol E.n E h w E' h' w' ∧ Rep E' u v' := by
  unfold evAppend at he
  simp only [lget_eq, lset_eq] at he
  split at he
  · rename_i e hu
    split at he
    · rename_i inf hinf
      split at he
      · rename_i z obs' m news hz hsrc
        split at he
        · rename_i hzs
          split at he
          · rename_i hsz
            split at he
            · -- nil
              simp only [Option.some.injEq, Prod.mk.injEq] at he
              obtain ⟨rfl, rfl, rfl⟩ := he
              obtain ⟨o1, ho⟩ := ho.append
              obtain ⟨o2, o3, o45, _⟩ := bs_all ho
              replace o2 := D_iff.1 o2
              obtain ⟨o4, o5⟩ := D_iff.1 o45
              cases hs
              obtain ⟨ao, c', l', rfl, q2, q3⟩ := src_sound g hsrc o1 o2 hx
              by_cases hm : m = 0
              · subst hm
                have hnews : news = [] := List.eq_nil_of_length_eq_zero (by simpa using o2)
                subst hnews
                have key := good_ghost g (.row [] e inf.size) 0 inf.size (fun k => k rfl) ⟨by simp [Env.push], fun k => absurd rfl k⟩
                exact ⟨_, w, _, run_append_zero t ty e inf hu hinf none ao 0 0 c' (Nat.le_refl _), key.1, key.2, .slE _ (by simp [Env.push, g.n])⟩
              · obtain ⟨a, rfl, q4⟩ := q3 (by omega)
                have hr := run_append_nil (P := P) w t ty e inf z hu hinf hz a m c' l' (by rw [q2.length, o2]) q4 (by omega) (by omega) (by omega)
                have key := good_grown g (e := e) hzs (by omega) q2 o2 hsz (grownCap w m 0 e) (grownCap_ge w m 0 e)
                refine ⟨_, _, _, ?_, key.1, key.2.1, key.2.2⟩
                rw [hr]
                congr 4
                apply Array.ext'; simp
            · rename_i i o n c
              split at he
              · rename_i hc
                subst hc
                split at he
                · rename_i vs e' sz hi
                  split at he
                  · rename_i hee
                    subst hee
                    split at he
                    · rename_i hsz2
                      subst hsz2
                      simp only [Option.some.injEq, Prod.mk.injEq] at he
                      obtain ⟨rfl, rfl, rfl⟩ := he
                      obtain ⟨o1, ho⟩ := ho.append
                      obtain ⟨o2, o3, o45, o6, _⟩ := bs_all ho
                      replace o2 := D_iff.1 o2
                      obtain ⟨o4, o5⟩ := D_iff.1 o45
                      replace o6 := D_iff.1 o6
                      obtain ⟨ao, c', l', rfl, q2, q3⟩ := src_sound g hsrc o1 o2 hx
                      rcases unk_inv hs rfl with ⟨rfl, rfl⟩ | ⟨c2, h02, hn2, rfl, hz2⟩
                      · 
                        have hvs : vs = [] := List.eq_nil_of_length_eq_zero (by simpa using o6)
                        subst hvs
                        have gk := good_kill g i
                        simp only [Nat.zero_add] at o4 o5
                        by_cases hm : m = 0
                        · subst hm
                          have hnews : news = [] := List.eq_nil_of_length_eq_zero (by simpa using o2)
                          subst hnews
                          have key := good_ghost gk.1 (.row [] e' inf.size) 0 inf.size (fun k => k rfl) ⟨by simp [Env.push], fun k => absurd rfl k⟩
                          refine ⟨_, w, _, run_append_zero t ty e' inf hu hinf none ao 0 0 c' (Nat.le_refl _), key.1, gk.2.trans key.2 (Nat.le_refl _), ?_⟩
                          exact .slE _ (by simp [Env.push, g.n])
                        · obtain ⟨a, rfl, q4⟩ := q3 (by omega)
                          have hr := run_append_nil (P := P) w t ty e' inf z hu hinf hz a m c' l' (by rw [q2.length, o2]) q4 (by omega) (by omega) (by omega)
                          have key := good_grown gk.1 (e := e') hzs (by omega) q2 o2 hsz (grownCap w m 0 e') (grownCap_ge w m 0 e')
                          refine ⟨_, _, .slice (some ⟨w.heap.size, 0, none⟩) m (grownCap w m 0 e'), ?_, key.1, gk.2.trans key.2.1 (Nat.le_refl _), ?_⟩
                          · rw [hr]
                            congr 4
                            apply Array.ext'; simp
                          · simpa using key.2.2
                      · have hne : vs ≠ [] := fun e => by
                          subst e
                          have : 0 < n * inf.size := Nat.mul_pos h02 hsz
                          simp at o6; omega
                        obtain ⟨r0, rr⟩ := g.holds i _ hi
                        obtain ⟨cc, r1, r2, r3, r4, r5⟩ := rr hne
                        have hrl : RepL E (vs ++ news) (cc.take vs.length ++ l') := r5.append q2
                        have hvl : (vs ++ news).length = (n + m) * inf.size := by rw [List.length_append, o6, o2, Nat.add_mul]
                        by_cases hm : m = 0
                        · subst hm
                          have hnews : news = [] := List.eq_nil_of_length_eq_zero (by simpa using o2)
                          subst hnews
                          have key := good_move g hi (fun h => h)
                          refine ⟨_, w, _, run_append_zero t ty e' inf hu hinf _ ao n c2 c' hn2, by simpa using key.1, by simpa using key.2, ?_⟩
                          have := Rep.slU (E := E.push (E.blk i) (E.off i) (E.csz i) (E.esz i)) h.length n c2 (by simp [Env.push, g.n]) h02 hn2 (by simpa [Env.push, g.n] using hz2)
                          simpa [Env.push, g.n] using this
                        · obtain ⟨a, rfl, q4⟩ := q3 (by omega)
                          have hll : l'.length = m * inf.size := by rw [q2.length, o2]
                          by_cases hroom : n + m ≤ c2
                          · have hfit : n * inf.size + l'.length ≤ cc.length := by
                              rw [hll, ← Nat.add_mul, ← r3]
                              rw [r2, r0] at hz2
                              exact Nat.le_trans (Nat.mul_le_mul_right _ hroom) (by omega)
                            have hr := run_append_room (P := P) w t ty e' inf hu hinf (E.blk i) n c2 ⟨cc⟩ r1 a m c' l' hll q4 (isCell_repL q2 o3) hroom hfit
                            have hput : (cc.take (n * inf.size) ++ l' ++ cc.drop (n * inf.size + l'.length)).length = cc.length := by simp; omega
                            have ku := good_upd g hi (o' := .row (vs ++ news) e' inf.size) hne (fun h => h) (w' := w.setRow (E.blk i) ⟨cc.take (n * inf.size) ++ l' ++ cc.drop (n * inf.size + l'.length)⟩)
                              ⟨r0, fun _ => ⟨_, setRow_heap w _ _ _ _ _ r1, r2, by rw [hput, r3], by rw [hput, hvl, Nat.add_mul, ← hll]; exact hfit, by
                                rw [hvl, Nat.add_mul, ← hll]
                                rw [List.take_left' (by simp; omega), ← o6]
                                exact hrl⟩⟩ (size_setRow _ _ _) (fun b hb => setRow_other w _ _ _ hb) rfl ⟨rfl, frozen_setRow _ _ _⟩ rfl
                            have hi2' : (h.set i (.row (vs ++ news) e' inf.size))[i]? = some (.row (vs ++ news) e' inf.size) := by
                              rw [List.getElem?_set_self]; rw [← g.n]; exact g.lt hi
                            have km := good_move ku.1 hi2' (fun h => h)
                            refine ⟨_, _, .slice (some ⟨E.blk i, 0, none⟩) (n + m) c2, ?_, by simpa using km.1, by simpa using ku.2.trans km.2 (Nat.le_refl _), ?_⟩
                            · rw [r2, hr]
                              congr 2
                              apply Array.ext'; simp
                            · have := Rep.slU (E := E.push (E.blk i) (E.off i) (E.csz i) (E.esz i)) h.length (n + m) c2 (by simp [Env.push, g.n]) (by omega) hroom (by simpa [Env.push, g.n] using hz2)
                              simpa [Env.push, g.n, r2] using this
                          · have holds : ∀ (j : Nat) (v : Value), (cc.take vs.length)[j]? = some v → w.cell? ((⟨E.blk i, E.off i, none⟩ : Addr).add j) = some v := by
                              intro j v hj
                              rw [Addr.add_none, r2, Nat.zero_add, cell_of_row w _ _ _ _ _ r1]
                              rw [List.getElem?_take] at hj
                              split at hj
                              · simpa using hj
                              · simp at hj
                            have hr := run_append_grow (P := P) w t ty e' inf z hu hinf hz ⟨E.blk i, E.off i, none⟩ n c2 (cc.take vs.length) (by rw [r5.length, o6]) holds a m c' l' hll q4 (by omega) (by omega) (growslice_fits (by omega) o5)
                            have gk := good_kill g i
                            have key := good_grown gk.1 (e := e') hzs (by omega) hrl hvl hsz (grownCap w (n + m) c2 e') (grownCap_ge w (n + m) c2 e')
                            refine ⟨_, _, .slice (some ⟨w.heap.size, 0, none⟩) (n + m) (grownCap w (n + m) c2 e'), ?_, key.1, gk.2.trans key.2.1 (Nat.le_refl _), ?_⟩
                            · rw [hr]
                              congr 4
                              apply Array.ext'; simp
                            · simpa using key.2.2
                    · simp at he
                  · simp at he
                · simp at he
              · rename_i hc
                split at he
                · simp at he
                · rename_i hc2
                  split at he
                  · rename_i vs hi
                    simp only [Option.some.injEq, Prod.mk.injEq] at he
                    obtain ⟨rfl, rfl, rfl⟩ := he
                    obtain ⟨o1, ho⟩ := ho.append
                    obtain ⟨o2, o3, o45, o6, o7, _⟩ := bs_all ho
                    replace o2 := D_iff.1 o2
                    obtain ⟨o4, o5⟩ := D_iff.1 o45
                    replace o6 := D_iff.1 o6
                    replace o7 := D_iff.1 o7
                    obtain ⟨ao, c', l', rfl, q2, q3⟩ := src_sound g hsrc o1 o2 hx
                    obtain ⟨a', c1, rfl, p1, p2⟩ := slOf_rep hs
                    obtain ⟨rfl, _⟩ := p2 hc hc2
                    have hnc := p1.2.2
                    obtain ⟨a, rfl, q4⟩ := q3 (by omega)
                    obtain ⟨olds, s1, s2⟩ := cells_of g hi o (n * inf.size)
                    have hol : olds.length = n * inf.size := by rw [s1.length, o6]
                    have hll : l'.length = m * inf.size := by rw [q2.length, o2]
                    have hrl : RepL E ((vs.drop o).take (n * inf.size) ++ news) (olds ++ l') := s1.append q2
                    have hvl : ((vs.drop o).take (n * inf.size) ++ news).length = (n + m) * inf.size := by rw [List.length_append, o6, o2, Nat.add_mul]
                    have key := good_grown g (e := e) hzs (by omega) hrl hvl hsz (grownCap w (n + m) c e) (grownCap_ge w (n + m) c e)
                    refine ⟨_, _, _, ?_, key.1, key.2.1, key.2.2⟩
                    by_cases hn0 : n = 0
                    · subst hn0
                      have holds0 : olds = [] := List.eq_nil_of_length_eq_zero (by simpa using hol)
                      subst holds0
                      have hr := run_append_grow0 (P := P) (w := w) t ty e inf z hu hinf hz a' c a m c' l' hll q4 (by omega) (by omega) (growslice_fits (by omega) o5)
                      rw [hr]
                      congr 4
                      apply Array.ext'; simp
                    · have ha := p1.2.1 (by omega)
                      subst ha
                      have hr := run_append_grow (P := P) w t ty e inf z hu hinf hz ⟨E.blk i, E.off i + o, none⟩ n c olds hol s2 a m c' l' hll q4 (by omega) (by omega) (growslice_fits (by omega) o5)
                      rw [hr]
                      congr 4
                      apply Array.ext'; simp
                  · simp at he
            · simp at he
          · simp at he
        · simp at he
      · simp at he
    · simp at he
  · simp at he

end
end Go.AX
