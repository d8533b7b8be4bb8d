/- Operations that read, write and make memory. -/
import Derived.Test.YtmcepaeialgipaaCxAX6
namespace Go.AX
set_option linter.unusedSimpArgs false
set_option linter.unusedVariables false

/-! Lists, quick for the kernel. -/
noncomputable def lget {α : Type} (l : List α) : Nat → Option α := List.rec (fun _ => none) (fun v _ ih n => Nat.rec (some v) (fun k _ => ih k) n) l
noncomputable def lset {α : Type} (l : List α) : Nat → α → List α := List.rec (fun _ _ => []) (fun v t ih n x => Nat.rec (x :: t) (fun k _ => v :: ih k x) n) l
noncomputable def ltake {α : Type} (l : List α) : Nat → List α := List.rec (fun _ => []) (fun v _ ih n => Nat.rec [] (fun k _ => v :: ih k) n) l
noncomputable def ldrop {α : Type} (l : List α) : Nat → List α := List.rec (fun _ => []) (fun v t ih n => Nat.rec (v :: t) (fun k _ => ih k) n) l

theorem lget_eq {α : Type} (l : List α) (n : Nat) : lget l n = l[n]? := by
  induction l generalizing n with
  | nil => rfl
  | cons v t ih => cases n with
    | zero => rfl
    | succ k => rw [List.getElem?_cons_succ]; exact ih k
theorem lset_eq {α : Type} (l : List α) (n : Nat) (x : α) : lset l n x = l.set n x := by
  induction l generalizing n with
  | nil => rfl
  | cons v t ih => cases n with
    | zero => rfl
    | succ k => rw [List.set_cons_succ, ← ih k]; rfl
theorem ltake_eq {α : Type} (l : List α) (n : Nat) : ltake l n = l.take n := by
  induction l generalizing n with
  | nil => simp [ltake]
  | cons v t ih => cases n with
    | zero => rfl
    | succ k => rw [List.take_succ_cons, ← ih k]; rfl
theorem ldrop_eq {α : Type} (l : List α) (n : Nat) : ldrop l n = l.drop n := by
  induction l generalizing n with
  | nil => simp [ldrop]
  | cons v t ih => cases n with
    | zero => rfl
    | succ k => rw [List.drop_succ_cons, ← ih k]; rfl

def isCell : Value → Bool
  | .agg _ | .tuple _ => false
  | _ => true

abbrev MRes := Option (List Prop × Value × AHeap)

noncomputable def objCells (h : AHeap) (i : Nat) : Option (List Value) :=
  match lget h i with
  | some (.cells vs _ _) | some (.row vs _ _) | some (.ro vs _) => some vs
  | _ => none

noncomputable def evLoad (P : Program) (h : AHeap) (hint : Hint) (t : TypeId) (x : Value) : PRes :=
  match x with
  | .pointer (some ⟨i, o, none⟩) =>
    match objCells h i, P.underlying t, sizeT P t with
    | some vs, some d, some n =>
      match isAggD d, hint with
      | true, .cells l => some ([(vs.drop o).take n = l, l.length = n], .agg ⟨l⟩)
      | true, _ => if (ltake (ldrop vs o) n).length = n then ret (.agg ⟨ltake (ldrop vs o) n⟩) else none
      | false, .val v => some ([vs[o]? = some v], v)
      | false, _ => (lget vs o).map fun v => ([], v)
    | _, _, _ => none
  | _ => none

noncomputable def put1 (vs : List Value) (o : Nat) (l : List Value) : List Value :=
  match l with
  | [c] => lset vs o c
  | l => splice vs o l

noncomputable def evStore (P : Program) (h : AHeap) (t : TypeId) (x v : Value) : MRes :=
  match x with
  | .pointer (some ⟨i, o, none⟩) =>
    match vcells v, sizeT P t, lget h i with
    | some l, some n, some (.cells vs e sz) =>
      if l.length = n then
        if l.all isCell then some (bs [decide (o + n ≤ vs.length)], undef, lset h i (.cells (put1 vs o l) e sz)) else none
      else none
    | some l, some n, some (.row vs e sz) =>
      if l.length = n then
        if l.all isCell then some (bs [decide (o + n ≤ vs.length), decide (0 < vs.length)], undef, lset h i (.row (put1 vs o l) e sz)) else none
      else none
    | _, _, _ => none
  | _ => none

def evNew (P : Program) (h : AHeap) (e : TypeId) (v : Value) : MRes :=
  match vcells v, sizeT P e with
  | some l, some n => some ([], .pointer (some ⟨h.length, 0, none⟩), h ++ [.cells l e n])
  | _, _ => none

def evBuildSlice (P : Program) (h : AHeap) (t : TypeId) (len : Nat) (parts : List (Nat × Value)) : MRes :=
  match P.underlying t with
  | some (.slice e) =>
    match sizeT P e, (zeroT P e).bind vcells with
    | some n, some z =>
      if n = z.length then
        if 0 < n then
          if len * n ≤ 16777216 then
            if len < UNK then
              (lfill (fun i => some (i * n, n)) (List.flatten (List.replicate len z)) parts).map fun cs => ([], .slice (some ⟨h.length, 0, none⟩) len len, h ++ [.cells cs e n])
            else none
          else none
        else none
      else none
    | _, _ => none
  | _ => none

section
variable {P : Program} {E : Env} {h : AHeap} {w : World}

theorem isCell_rep {v v' : Value} (hr : Rep E v v') (hc : isCell v = true) : v'.oneCell' = true := by
  cases hr <;> first | rfl | simp [isCell, junk] at hc

theorem isCell_repL : ∀ {l l' : List Value}, RepL E l l' → l.all isCell = true → ∀ u ∈ l', u.oneCell' = true
  | _, _, .nil, _ => by simp
  | _, _, .cons v v' l l' hv ht, hc => by
    simp only [List.all_cons, Bool.and_eq_true] at hc
    intro u hu
    rcases List.mem_cons.1 hu with rfl | hu
    · exact isCell_rep hv hc.1
    · exact isCell_repL ht hc.2 u hu

/-- A cell of what is told of a block. -/
theorem cell_of (g : Good E h w) {i : Nat} {vs : List Value} (ho : objCells h i = some vs) {k : Nat} {v : Value} (hk : vs[k]? = some v) :
    ∃ v', w.cell? ⟨E.blk i, E.off i + k, none⟩ = some v' ∧ Rep E v v' := by
  unfold objCells at ho
  rw [lget_eq] at ho
  split at ho
  · rename_i us e sz hi
    simp only [Option.some.injEq] at ho; subst ho
    obtain ⟨c, h1, h2, h3, h4, h5⟩ := g.holds i _ hi
    obtain ⟨v', q1, q2⟩ := h5.get hk
    refine ⟨v', ?_, q2⟩
    rw [h2, Nat.zero_add, cell_of_row w _ _ _ _ _ h1]
    simpa using q1
  · rename_i us e sz hi
    simp only [Option.some.injEq] at ho; subst ho
    obtain ⟨h0, h1⟩ := g.holds i _ hi
    obtain ⟨c, h1, h2, h3, h4, h5⟩ := h1 (fun e => by subst e; simp at hk)
    obtain ⟨v', q1, q2⟩ := h5.get hk
    refine ⟨v', ?_, q2⟩
    rw [h2, Nat.zero_add, cell_of_row w _ _ _ _ _ h1]
    rw [List.getElem?_take] at q1
    split at q1
    · simpa using q1
    · simp at q1
  · rename_i us sz hi
    simp only [Option.some.injEq] at ho; subst ho
    exact (g.holds i _ hi).2 k v hk
  · simp at ho

/-- A row of cells of it. -/
theorem cells_of (g : Good E h w) {i : Nat} {vs : List Value} (ho : objCells h i = some vs) (o n : Nat) :
    ∃ c : List Value, RepL E ((vs.drop o).take n) c ∧ ∀ (j : Nat) (u : Value), c[j]? = some u → w.cell? ((⟨E.blk i, E.off i + o, none⟩ : Addr).add j) = some u := by
  have hg : ∀ j u, ((vs.drop o).take n)[j]? = some u → ∃ v', w.cell? ⟨E.blk i, E.off i + (o + j), none⟩ = some v' ∧ Rep E u v' := by
    intro j u hj
    rw [List.getElem?_take] at hj
    split at hj
    · rw [List.getElem?_drop] at hj
      exact cell_of g ho hj
    · simp at hj
  generalize (vs.drop o).take n = l at hg
  refine ⟨(List.range l.length).map fun j => (w.cell? ⟨E.blk i, E.off i + (o + j), none⟩).getD undef, ?_, ?_⟩
  · refine .of_get (by simp) fun j v hj => ?_
    obtain ⟨v', q1, q2⟩ := hg j v hj
    have hjl : j < l.length := (List.getElem?_eq_some_iff.1 hj).1
    exact ⟨v', by simp [hjl, q1], q2⟩
  · intro j u hj
    have hjl : j < l.length := by
      have := (List.getElem?_eq_some_iff.1 hj).1
      simpa using this
    obtain ⟨v', q1, q2⟩ := hg j l[j] (List.getElem?_eq_getElem hjl)
    simp only [List.getElem?_map, List.getElem?_range hjl, Option.map_some, q1, Option.getD_some, Option.some.injEq] at hj
    rw [Addr.add_none, Nat.add_assoc, q1, hj]

theorem evLoad_sound {hint : Hint} {t : TypeId} {x x' v : Value} {obs : List Prop} (g : Good E h w) (he : evLoad P h hint t x = some (obs, v)) (ho : AllP obs) (hx : Rep E x x') :
    ∃ v', (Instr.loadAt t x').run P w = .ok v' w ∧ Rep E v v' := by
  unfold evLoad at he
  simp only [lget_eq, ltake_eq, ldrop_eq] at he
  split at he
  · rename_i i o
    cases hx with
    | ptr _ _ hi =>
      split at he
      · rename_i vs d n h1 h2 h3
        have kagg : isAggD d = true → ((vs.drop o).take n).length = n → ∃ v', (Instr.loadAt t (.pointer (some ⟨E.blk i, E.off i + o, none⟩))).run P w = .ok v' w ∧ Rep E (.agg ⟨(vs.drop o).take n⟩) v' := by
          intro hg hl
          obtain ⟨c, q1, q2⟩ := cells_of g h1 o n
          refine ⟨.agg ⟨c⟩, ?_, .agg _ _ q1⟩
          have hcl : c.length = n := by rw [q1.length, hl]
          have := run_loadCells_list (P := P) w ⟨E.blk i, E.off i + o, none⟩ c q2
          rw [hcl] at this
          simp only [Instr.loadAt, Instr.sureAddr, loadVar, Sem.run_bind, Sem.run_pure, Result.andThen_ok, run_isAgg h2, hg, if_true, run_sizeOf h3, this]
        have kcell : isAggD d = false → ∀ u, vs[o]? = some u → ∃ v', (Instr.loadAt t (.pointer (some ⟨E.blk i, E.off i + o, none⟩))).run P w = .ok v' w ∧ Rep E u v' := by
          intro hg u hu
          obtain ⟨v', q1, q2⟩ := cell_of g h1 hu
          refine ⟨v', ?_, q2⟩
          simp only [Instr.loadAt, Instr.sureAddr, loadVar, Sem.run_bind, Sem.run_pure, Result.andThen_ok, run_isAgg h2, hg, Bool.false_eq_true, if_false, run_load, q1]
        split at he
        · rename_i l hg
          simp only [Option.some.injEq, Prod.mk.injEq] at he
          obtain ⟨rfl, rfl⟩ := he
          have := kagg hg (by rw [ho.1]; exact ho.2.1)
          rwa [ho.1] at this
        · rename_i hg _
          split at he
          · rename_i hl
            simp only [ret, Option.some.injEq, Prod.mk.injEq] at he
            obtain ⟨rfl, rfl⟩ := he
            exact kagg hg hl
          · simp at he
        · rename_i u hg
          simp only [Option.some.injEq, Prod.mk.injEq] at he
          obtain ⟨rfl, rfl⟩ := he
          exact kcell hg _ ho.1
        · rename_i hg _
          simp only [Option.map_eq_some_iff, Prod.mk.injEq] at he
          obtain ⟨u, hu, rfl, rfl⟩ := he
          exact kcell hg _ hu
      · simp at he
  · simp at he

theorem match_one (vs l : List Value) (o : Nat) (h : o + l.length ≤ vs.length) : put1 vs o l = splice vs o l := by
  unfold put1
  split
  · rw [lset_eq]
    simp only [splice, List.length_cons, List.length_nil, Nat.zero_add, List.cons_append, List.nil_append]
    simp only [List.length_cons, List.length_nil, Nat.zero_add] at h
    rw [List.set_eq_take_append_cons_drop, if_pos (by omega)]
  · rfl

theorem evStore_sound {t : TypeId} {x x' v v' u : Value} {h' : AHeap} {obs : List Prop} (g : Good E h w) (he : evStore P h t x v = some (obs, u, h')) (ho : AllP obs) (hx : Rep E x x') (hv : Rep E v v') :
    ∃ w', (Instr.storeAt t x' v').run P w = .ok () w' ∧ Good E h' w' ∧ Evol E.n E h w E h' w' ∧ u = undef := by
  unfold evStore at he
  simp only [lget_eq, lset_eq] at he
  split at he
  · rename_i i o
    cases hx with
    | ptr _ _ hi =>
      split at he
      · rename_i l n vs e sz h1 h2 h3
        split at he
        · rename_i hl
          split at he
          · rename_i hc
            simp only [Option.some.injEq, Prod.mk.injEq] at he
            obtain ⟨rfl, rfl, rfl⟩ := he
            have hb := D_iff.1 (bs_all ho).1
            obtain ⟨l', q1, q2⟩ := vcells_rep hv h1
            obtain ⟨c, r1, r2, r3, r4, r5⟩ := g.holds i _ h3
            have hcl := r5.length
            have hll := q2.length
            have hrun := run_storeCells_at P (E.blk i) (E.off i + o) e l' 0 ⟨c⟩ w r1 (by simp; omega) (isCell_repL q2 hc)
            have key := good_upd g h3 (o' := .cells (put1 vs o l) e sz) trivial (fun h => h) (w' := w.setRow (E.blk i) ⟨splice c o l'⟩) ?_ (size_setRow _ _ _) (fun b hb => setRow_other w _ _ _ hb) rfl ⟨rfl, frozen_setRow _ _ _⟩ rfl
            · refine ⟨_, ?_, key.1, key.2, rfl⟩
              simp only [Instr.storeAt, Instr.sureAddr, storeVar, Sem.run_bind, Sem.run_pure, Result.andThen_ok, run_sizeOf h2]
              have hcells := vcells_spec q1
              rw [hcells]
              rw [if_neg (by simp; omega)]
              simp only [Sem.run_pure, Result.andThen_ok]
              rw [hrun]
              congr 2
              simp [splice, r2]
            · refine ⟨splice c o l', setRow_heap w _ _ _ _ _ r1, r2, ?_, r4, ?_⟩
              · rw [splice_length (by omega), r3]
              · rw [match_one _ _ _ (by omega)]
                exact splice_rep o r5 q2
          · simp at he
        · simp at he
      · rename_i l n vs e sz h1 h2 h3
        split at he
        · rename_i hl
          split at he
          · rename_i hc
            simp only [Option.some.injEq, Prod.mk.injEq] at he
            obtain ⟨rfl, rfl, rfl⟩ := he
            have hb := D_iff.1 (bs_all ho).1
            have hne : vs ≠ [] := by
              have h0 := D_iff.1 (bs_all ho).2.1
              intro e0; rw [e0] at h0; exact absurd h0 (Nat.lt_irrefl 0)
            obtain ⟨l', q1, q2⟩ := vcells_rep hv h1
            obtain ⟨r4, hr⟩ := g.holds i _ h3
            obtain ⟨c, r1, r2, r3, r6, r5⟩ := hr hne
            have hcl := r5.length
            have hll := q2.length
            have hrun := run_storeCells_at P (E.blk i) (E.off i + o) e l' 0 ⟨c⟩ w r1 (by simp; omega) (isCell_repL q2 hc)
            have hsl : (splice vs o l).length = vs.length := splice_length (by omega)
            have key := good_upd g h3 (o' := .row (put1 vs o l) e sz) hne (fun h => h) (w' := w.setRow (E.blk i) ⟨splice c o l'⟩) ?_ (size_setRow _ _ _) (fun b hb => setRow_other w _ _ _ hb) rfl ⟨rfl, frozen_setRow _ _ _⟩ rfl
            · refine ⟨_, ?_, key.1, key.2, rfl⟩
              simp only [Instr.storeAt, Instr.sureAddr, storeVar, Sem.run_bind, Sem.run_pure, Result.andThen_ok, run_sizeOf h2]
              have hcells := vcells_spec q1
              rw [hcells]
              rw [if_neg (by simp; omega)]
              simp only [Sem.run_pure, Result.andThen_ok]
              rw [hrun]
              congr 2
              simp [splice, r2]
            · refine ⟨r4, fun _ => ⟨splice c o l', setRow_heap w _ _ _ _ _ r1, r2, ?_, ?_, ?_⟩⟩
              · rw [splice_length (by omega), r3]
              · rw [match_one _ _ _ (by omega), splice_length (by omega), splice_length (by omega)]; exact r6
              · rw [match_one _ _ _ (by omega), hsl]
                have : (splice c o l').take vs.length = splice (c.take vs.length) o l' := by
                  unfold splice
                  rw [List.take_append, List.take_append, List.take_take, List.drop_take]
                  simp only [List.length_take]
                  rw [show min vs.length o = min o vs.length by omega, show List.take (vs.length - min o c.length) l' = l' from List.take_of_length_le (by omega)]
                  rw [List.take_take, show min o vs.length = o by omega, show vs.length - min o c.length - l'.length = vs.length - (o + l'.length) by omega]
                rw [this]
                exact splice_rep o r5 q2
          · simp at he
        · simp at he
      · simp at he
  · simp at he

theorem evNew_sound {e : TypeId} {v v' u : Value} {h' : AHeap} {obs : List Prop} (g : Good E h w) (he : evNew P h e v = some (obs, u, h')) (hv : Rep E v v') :
    ∃ E' w', (newVar e v').run P w = .ok ⟨w.heap.size, 0, none⟩ w' ∧ Good E' h' w' ∧ Evol E.n E h w E' h' w' ∧ Rep E' u (.pointer (some ⟨w.heap.size, 0, none⟩)) := by
  unfold evNew at he
  split at he
  · rename_i l n h1 h2
    simp only [Option.some.injEq, Prod.mk.injEq] at he
    obtain ⟨rfl, rfl, rfl⟩ := he
    obtain ⟨l', q1, q2⟩ := vcells_rep hv h1
    have hag := Env.push_agree E w.heap.size 0 l'.length n
    have key := good_new g (.cells ⟨l'⟩ e) (.cells l e n) 0 l'.length n (fun h => h)
      ⟨l', by simp only [Env.push, if_pos]; exact heap_alloc_new w _, by simp [Env.push], by simp [Env.push], by simp [Env.push], q2.mono hag⟩
    refine ⟨_, _, ?_, key.1, key.2, ?_⟩
    · have hcells := vcells_spec q1
      simp only [newVar, newRow, hcells, Sem.run_bind, run_newObj, Result.andThen_ok, Sem.run_pure]
      rfl
    · have := Rep.ptr (E := E.push w.heap.size 0 l'.length n) h.length 0 (by simp [Env.push, g.n])
      simpa [Env.push, g.n] using this
  · simp at he

theorem replicate_cells (z : List Value) (n len : Nat) (hn : n = z.length) (h0 : 0 < n) :
    ((Array.range (len * n)).map fun i => (⟨z⟩ : Array Value)[i % (⟨z⟩ : Array Value).size]!) = ⟨List.flatten (List.replicate len z)⟩ := by
  subst hn
  apply Array.ext'
  simp only [Array.toList_map, Array.toList_range]
  induction len with
  | zero => simp
  | succ len ih =>
    rw [List.replicate_succ', List.flatten_append, ← ih]
    rw [Nat.add_mul, Nat.one_mul, List.range_add, List.map_append]
    congr 1
    simp only [List.map_map, List.flatten_cons, List.flatten_nil, List.append_nil]
    apply List.ext_getElem?
    intro j
    by_cases hj : j < z.length
    · simp [hj, Nat.mod_eq_of_lt hj, getElem!_def]
    · simp [hj]

theorem repL_flatten {z z' : List Value} (hz : RepL E z z') (len : Nat) : RepL E (List.flatten (List.replicate len z)) (List.flatten (List.replicate len z')) := by
  induction len with
  | zero => exact .nil
  | succ len ih => rw [List.replicate_succ, List.replicate_succ, List.flatten_cons, List.flatten_cons]; exact hz.append ih

theorem evBuildSlice_sound {t : TypeId} {len : Nat} {parts parts' : List (Nat × Value)} {u : Value} {h' : AHeap} {obs : List Prop} (g : Good E h w) (he : evBuildSlice P h t len parts = some (obs, u, h')) (hp : RepP E parts parts') :
    ∃ E' w' v', (Instr.buildSlice t len ⟨parts'⟩).run P w = .ok v' w' ∧ Good E' h' w' ∧ Evol E.n E h w E' h' w' ∧ Rep E' u v' := by
  unfold evBuildSlice at he
  split at he
  · rename_i e hu
    split at he
    · rename_i n z hn hz
      split at he
      · rename_i hnz
        split at he
        · rename_i h0
          split at he
          · rename_i hb
            split at he
            · rename_i hlu
              simp only [Option.map_eq_some_iff, Prod.mk.injEq] at he
              obtain ⟨cs, hcs, rfl, rfl, rfl⟩ := he
              obtain ⟨zv, hz1, hz2⟩ := Option.bind_eq_some_iff.1 hz
              obtain ⟨z1, z2⟩ := run_zeroValue (E := E) hz1 w
              obtain ⟨z', zz1, zz2⟩ := vcells_rep z2 hz2
              obtain rfl := Option.some.inj (hz2.symm.trans zz1)
              obtain ⟨cs', f1, f2⟩ := lfill_rep _ hp (repL_flatten zz2 len) hcs
              have hag := Env.push_agree E w.heap.size 0 cs'.length n
              have key := good_new g (.cells ⟨cs'⟩ e) (.cells cs e n) 0 cs'.length n (fun h => h)
                ⟨cs', by simp only [Env.push, if_pos]; exact heap_alloc_new w _, by simp [Env.push], by simp [Env.push], by simp [Env.push], f2.mono hag⟩
              refine ⟨_, _, .slice (some ⟨w.heap.size, 0, none⟩) len len, ?_, key.1, key.2, ?_⟩
              · have hcells := vcells_spec hz2
                simp only [Instr.buildSlice, Sem.run_bind, run_underlying hu, Result.andThen_ok, run_sizeOf hn]
                rw [if_neg (by omega)]
                by_cases hl : len * n = 0
                · have hl0 : len = 0 := by
                    rcases Nat.mul_eq_zero.1 hl with h | h
                    · exact h
                    · omega
                  subst hl0
                  have f1' := fill_eq _ parts' _ cs' f1
                  simp only [List.replicate_zero, List.flatten_nil] at f1'
                  rw [if_pos hl]
                  simp only [Sem.run_bind, Sem.run_pure, Result.andThen_ok, Nat.zero_mul, show Array.range 0 = #[] from rfl, Array.map_empty, f1', newRow, run_newObj]
                  rfl
                · have f1' := fill_eq _ parts' _ cs' f1
                  rw [← replicate_cells z n len hnz h0] at f1'
                  simp only [if_neg hl, Sem.run_bind, z1, Sem.run_pure, Result.andThen_ok, hcells, f1', newRow, run_newObj]
                  rfl
              · have := Rep.slX (E := E.push w.heap.size 0 cs'.length n) h.length 0 len len (some ⟨w.heap.size, 0, none⟩) (by simp [Env.push, g.n]) (fun _ => by simp [Env.push, g.n]) (Nat.le_refl _) hlu
                exact this
            · simp at he
          · simp at he
        · simp at he
      · simp at he
    · simp at he
  · simp at he

end
end Go.AX
