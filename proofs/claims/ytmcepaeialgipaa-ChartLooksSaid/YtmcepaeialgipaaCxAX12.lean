/- What the evaluator finds, the model does. -/
import Derived.Test.YtmcepaeialgipaaCxAX11
namespace Go.AX

section
variable {P : Program}

theorem addObs_some {ob : List Prop} {r : Option (List Prop × Tm × AHeap × Script)} {ob2 : List Prop} {x : Tm × AHeap × Script} (h : addObs ob r = some (ob2, x)) : ∃ ob3, r = some (ob3, x) ∧ ob2 = ob ++ ob3 := by
  cases r with
  | none => simp [addObs] at h
  | some y =>
    obtain ⟨ob3, y⟩ := y
    simp only [addObs, Option.some.injEq, Prod.mk.injEq] at h
    exact ⟨ob3, by rw [h.2], h.1.symm⟩

theorem addObsR_some {ob : List Prop} {r : Res} {ob2 : List Prop} {x : Exit × Tm × AHeap × Script} (h : addObsR ob r = some (ob2, x)) : ∃ ob3, r = some (ob3, x) ∧ ob2 = ob ++ ob3 := by
  cases r with
  | none => simp [addObsR] at h
  | some y =>
    obtain ⟨ob3, y⟩ := y
    simp only [addObsR, Option.some.injEq, Prod.mk.injEq] at h
    exact ⟨ob3, by rw [h.2], h.1.symm⟩

theorem putD_rep {E : Env} {ts : Tm} {a : Act} {dst : Option Tmp} {v v' : Value} (hr : RepT E ts a.tmps) (hv : Rep E v v') : RepT E (putD ts dst v) (a.put dst v').tmps := by
  cases dst with
  | none => exact hr
  | some d => exact hr.put d hv

theorem put_defers {a : Act} {dst : Option Tmp} {v : Value} : (a.put dst v).defers = a.defers := by cases dst <;> rfl

theorem isCallOp_some {o : Op} {c : Call} (h : isCallOp o = some c) : o = .call c ∧ ∃ f, c.callee = .value f := by
  unfold isCallOp at h
  split at h
  · simp only [Option.some.injEq] at h
    subst h
    exact ⟨rfl, _, rfl⟩
  · simp at h

theorem calleeOf_run {E : Env} {ts : Tm} {a : Act} {c : Call} {k : FuncId} {args : List Value} {t : TypeId} (hr : RepT E ts a.tmps) (h : calleeOf ts c = some (k, args)) :
    ∃ args', RepL E args args' ∧ ∀ w, (do let d ← resolve a.eval c t; invoke d.target d.args : Sem Next).run P w = (callFunc k ⟨args'⟩).run P w := by
  unfold calleeOf at h
  split at h
  · rename_i f hf
    split at h
    · rename_i k' first cap args0 h1 h2
      simp only [Option.some.injEq, Prod.mk.injEq] at h
      obtain ⟨rfl, rfl⟩ := h
      have e1 := opd_sound hr h1
      have e2 := opdL_sound hr h2
      generalize hv : a.eval f = fv at e1
      cases e1 with
      | func _ _ _ f' c' r1 r2 =>
        refine ⟨(f' ++ c.args.toList.map a.eval) ++ c', (r1.append e2).append r2, fun w => ?_⟩
        have hm : c.args.map a.eval = ⟨c.args.toList.map a.eval⟩ := by apply Array.ext'; simp
        simp only [resolve, hf, hv, Deferred.ofValue, hm, Sem.run_bind, Sem.run_pure, Result.andThen_ok, invoke]
        congr 2
        apply Array.ext'
        simp
    · simp at h
  · simp at h

theorem enterable_some {k : FuncId} (h : enterable P k = true) : ∃ fn c, P.funcs[k]? = some fn ∧ fn.body = some c ∧ ∀ (args : Array Value) (w : World), (callFunc k args).run P w = .ok (.enter k args) w := by
  unfold enterable at h
  split at h
  · rename_i fn hf
    simp only [Bool.and_eq_true, Bool.not_eq_true'] at h
    obtain ⟨h1, h2⟩ := h
    obtain ⟨c, hc⟩ := Option.isSome_iff_exists.1 h2
    refine ⟨fn, c, hf, hc, fun args w => ?_⟩
    have h1' : ¬ ((fn.name == "runtime.NumGoroutine") = true) := by rw [h1]; simp
    simp only [callFunc, Sem.run_bind, run_program, Result.andThen_ok, hf]
    rw [if_neg h1', if_neg (by simp [hc])]
    rfl
  · simp at h

def rvOf (tmps : Array Value) : ResultVar → Sem Value
  | .tmp t => pure (tmps.getD t undef)
  | .cell a t => do loadVar t (← asAddr (tmps.getD a undef))

theorem results_rv (fn : Func) (tmps : Array Value) : results fn tmps = (do let vs ← fn.results.mapM (rvOf tmps); pure (if h : vs.size = 1 then vs[0] else .tuple vs)) := by
  unfold results
  congr 2

theorem evResult_sound {E : Env} {h : AHeap} {w : World} (g : Good E h w) {ts : Tm} {tmps : Array Value} (hr : RepT E ts tmps) {r : ResultVar} {v : Value} (he : evResult P ts h r = some v) :
    ∃ v', (rvOf tmps r).run P w = .ok v' w ∧ Rep E v v' := by
  unfold evResult at he
  split at he
  · rename_i t
    simp only [Option.some.injEq] at he
    subst he
    exact ⟨_, rfl, hr.get t⟩
  · rename_i a t
    split at he
    · rename_i v' hl
      simp only [Option.some.injEq] at he
      subst he
      have ha := hr.get a
      obtain ⟨u, e1, e2⟩ := evLoad_sound (P := P) g hl trivial ha
      refine ⟨u, ?_, e2⟩
      have hp : ∃ i o, ts.get a = .pointer (some ⟨i, o, none⟩) := by
        unfold evLoad at hl
        split at hl
        · rename_i hx; exact ⟨_, _, hx⟩
        · simp at hl
      obtain ⟨i, o, hp⟩ := hp
      rw [hp] at ha
      simp only [rvOf, Sem.run_bind]
      generalize tmps.getD a undef = x at *
      cases ha
      simpa [Instr.loadAt, Instr.sureAddr, asAddr] using e1
    · simp at he

theorem evResultL_sound {E : Env} {h : AHeap} {w : World} (g : Good E h w) {ts : Tm} {tmps : Array Value} (hr : RepT E ts tmps) : ∀ {rs : List ResultVar} {l : List Value}, evResultL P ts h rs = some l →
    ∃ l', (rs.mapM (rvOf tmps)).run P w = .ok l' w ∧ RepL E l l'
  | [], l, he => by simp only [evResultL, Option.some.injEq] at he; subst he; exact ⟨[], rfl, .nil⟩
  | r :: rs, l, he => by
    simp only [evResultL] at he
    split at he
    · rename_i v l1 h1 h2
      simp only [Option.some.injEq] at he
      subst he
      obtain ⟨v', e1, e2⟩ := evResult_sound g hr h1
      obtain ⟨l', f1, f2⟩ := evResultL_sound g hr h2
      refine ⟨v' :: l', ?_, .cons _ _ _ _ e2 f2⟩
      rw [List.mapM_cons]
      simp only [Sem.run_bind, e1, Result.andThen_ok, f1, Sem.run_pure]
    · simp at he

theorem evResults_sound {E : Env} {h : AHeap} {w : World} (g : Good E h w) {fn : Func} {ts : Tm} {tmps : Array Value} (hr : RepT E ts tmps) {v : Value} (he : evResults P fn ts h = some v) :
    ∃ v', (results fn tmps).run P w = .ok v' w ∧ Rep E v v' := by
  have key : ∀ {l : List Value}, evResultL P ts h fn.results.toList = some l → ∃ l', (results fn tmps).run P w = .ok (if h : (⟨l'⟩ : Array Value).size = 1 then (⟨l'⟩ : Array Value)[0] else .tuple ⟨l'⟩) w ∧ RepL E l l' := by
    intro l hl
    obtain ⟨l', e1, e2⟩ := evResultL_sound g hr hl
    refine ⟨l', ?_, e2⟩
    rw [results_rv, ← Array.toArray_toList (xs := fn.results), List.mapM_toArray]
    simp only [Sem.run_bind, Sem.run_map]
    rw [e1]
    rfl
  unfold evResults at he
  split at he
  · rename_i v0 hl
    simp only [Option.some.injEq] at he
    subst he
    obtain ⟨l', e1, e2⟩ := key hl
    cases e2 with
    | cons _ v' _ _ hv ht =>
      cases ht
      exact ⟨v', by rw [e1]; simp, hv⟩
  · rename_i l hne hl
    simp only [Option.some.injEq] at he
    subst he
    obtain ⟨l', e1, e2⟩ := key hl
    refine ⟨.tuple ⟨l'⟩, ?_, .tuple _ _ e2⟩
    rw [e1, dif_neg]
    intro h1
    have : l.length = 1 := by rw [← e2.length]; exact h1
    obtain ⟨x, rfl⟩ := List.length_eq_one_iff.1 this
    exact hne x rfl
  · simp at he

theorem enter_aux (n : Nat) (hn : n ≤ 4000) : ∀ (args : List Value) (T : Tm) (k : Nat), T.n = n → k + args.length ≤ n →
    (args.foldl (fun (x : Tm × Nat) v => (x.1.put x.2 v, x.2 + 1)) (T, k)).1.n = n ∧ (args.foldl (fun (x : Tm × Nat) v => (x.1.put x.2 v, x.2 + 1)) (T, k)).1.d = T.d ∧
    ∀ j, (args.foldl (fun (x : Tm × Nat) v => (x.1.put x.2 v, x.2 + 1)) (T, k)).1.get j = if k ≤ j ∧ j < k + args.length then args.getD (j - k) undef else T.get j
  | [], T, k, hT, _ => ⟨hT, rfl, fun j => (if_neg (fun h => by have := h.2; simp only [List.length_nil] at this; omega)).symm⟩
  | v :: args, T, k, hT, hk => by
    simp only [List.length_cons] at hk
    have hpd : (T.put k v).d = T.d := by unfold Tm.put; cases Nat.blt k T.n <;> rfl
    obtain ⟨h1, h2, h3⟩ := enter_aux n hn args (T.put k v) (k + 1) (by rw [Tm.put_n, hT]) (by omega)
    refine ⟨h1, h2.trans hpd, fun j => ?_⟩
    rw [List.foldl_cons, h3 j, Tm.get_put _ _ _ _ (by omega)]
    simp only [List.length_cons]
    by_cases e : j = k
    · subst e
      rw [if_neg (by omega), if_pos ⟨rfl, by omega⟩, if_pos (by omega)]
      simp
    · by_cases e2 : k + 1 ≤ j ∧ j < k + 1 + args.length
      · rw [if_pos e2, if_pos (by omega)]
        rw [show j - k = (j - (k + 1)) + 1 by omega]
        simp
      · rw [if_neg e2, if_neg (by omega), if_neg (by omega)]

theorem enter_rep {E : Env} {n : Nat} {args args' : List Value} (hr : RepL E args args') (h1 : args.length ≤ n) (h2 : n ≤ 4000) : RepT E (Tm.enter n args) ((⟨args'⟩ : Array Value) ++ Array.replicate (n - (⟨args'⟩ : Array Value).size) undef) := by
  obtain ⟨k1, k2, k3⟩ := enter_aux n h2 args { n := n, d := undef, t := .leaf } 0 rfl (by omega)
  have hl := hr.length
  refine ⟨?_, by unfold Tm.enter; rw [k1]; exact h2, fun j => ?_⟩
  · unfold Tm.enter
    rw [k1]
    simp; omega
  · unfold Tm.enter
    rw [k3 j]
    simp only [Nat.zero_le, Nat.zero_add, true_and, Nat.sub_zero]
    have hg : ((⟨args'⟩ : Array Value) ++ Array.replicate (n - (⟨args'⟩ : Array Value).size) undef).getD j undef = if j < args.length then args'.getD j undef else undef := by
      rw [Array.getD_eq_getD_getElem?, Array.getElem?_append]
      simp only [List.size_toArray, hl]
      split
      · simp [List.getD]
      · simp only [Array.getElem?_replicate]
        split <;> rfl
    rw [hg]
    split
    · exact hr.getD j (rep_undef E)
    · exact rep_undef E

/-- What is known of the evaluator on pieces of code. -/
def EvOk (P : Program) (ev : Nat → Code → Tm → AHeap → Script → Res) : Prop :=
  ∀ m c ts h scr ob ex ts' h' scr', ev m c ts h scr = some (ob, ex, ts', h', scr') → AllP ob → AComes P m c ts h ex ts' h'

theorem evFnWith_sound {ev : Nat → Code → Tm → AHeap → Script → Res} (hev : EvOk P ev) {k : FuncId} {args : List Value} {h : AHeap} {scr scr' : Script} {ob : List Prop} {v : Value} {h' : AHeap}
    (he : evFnWith P ev k args h scr = some (ob, v, h', scr')) (ho : AllP ob) : AEq P k args h v h' := by
  unfold evFnWith at he
  split at he
  · rename_i fn hf
    split at he
    · rename_i c hb
      split at he
      · rename_i b1 b2
        have key : ∀ ex ts' h1 scr1 ob1, ev h.length c (Tm.enter fn.ntmps args) h scr = some (ob1, ex, ts', h1, scr1) → (ex = .normal ∨ ex = .ret) → ((evResults P fn ts' h1).map fun v => (ob1, v, h1, scr1)) = some (ob, v, h', scr') → AEq P k args h v h' := by
          intro ex ts' h1 scr1 ob1 hc hex hres
          simp only [Option.map_eq_some_iff, Prod.mk.injEq] at hres
          obtain ⟨v0, hv, rfl, rfl, rfl, rfl⟩ := hres
          have hcomes := hev _ _ _ _ _ _ _ _ _ _ hc ho
          intro E w args' g hr
          have hen := enter_rep hr (Nat.le_of_ble_eq_true b1) (Nat.le_of_ble_eq_true b2)
          refine calls_of_wp hf hb (Code.wp_mono ?_ (hcomes (Nat.le_refl _) E w _ g hen rfl))
          rintro e a' w' ⟨ts2, h2, E', g', ev', r', d', rfl, rfl, rfl⟩
          obtain ⟨v', q1, q2⟩ := evResults_sound g' r' hv
          rcases hex with rfl | rfl
          · exact ⟨d', v', q1, v0, v', h2, E', rfl, g', ev', q2, rfl, rfl⟩
          · exact ⟨d', v', q1, v0, v', h2, E', rfl, g', ev', q2, rfl, rfl⟩
        split at he
        · rename_i hc; exact key _ _ _ _ _ hc (.inl rfl) he
        · rename_i hc; exact key _ _ _ _ _ hc (.inr rfl) he
        · simp at he
      · simp at he
    · simp at he
  · simp at he

/-- What an operation leaves is carried on. -/
def OpNext (P : Program) (E : Env) (h : AHeap) (w : World) (o : Oper) (a : Act) (v : Value) (h' : AHeap) : Prop :=
  ∀ (next : Act → World → Prop) (Q : Exit → Act → World → Prop), (∀ E' w' v', Good E' h' w' → Evol E.n E h w E' h' w' → Rep E' v v' → next (a.put o.dst v') w') → o.wp P a w next Q

theorem opNext_op {E : Env} {h : AHeap} {w : World} {o : Oper} {a : Act} {v : Value} {h' : AHeap} (hk : OpOk E h w ((execOp a.eval o).run P w) v h') : OpNext P E h w o a v h' := by
  intro next Q hn
  obtain ⟨E', w', g, ev, hr⟩ := hk
  unfold Oper.wp
  rcases hr with ⟨v', hr, hv⟩ | ⟨hr, rfl⟩
  · rw [hr]; exact hn E' w' v' g ev hv
  · rw [hr]; exact hn E' w' undef g ev (rep_undef E')

theorem opNext_call {ev : Nat → Code → Tm → AHeap → Script → Res} (hev : EvOk P ev) {E : Env} {ts : Tm} {h : AHeap} {w : World} {o : Oper} {c : Call} {a : Act} {scr scr' : Script} {ob : List Prop} {v : Value} {h' : AHeap}
    (g : Good E h w) (hr : RepT E ts a.tmps) (ho : o.op = .call c) (he : evCall P ev ts h scr c = some (ob, v, h', scr')) (hob : AllP ob) : OpNext P E h w o a v h' := by
  intro next Q hn
  unfold evCall at he
  split at he
  · rename_i k args hcal
    obtain ⟨args', r1, r2⟩ := calleeOf_run (P := P) (t := o.type) hr hcal
    have hop : (execOp a.eval o).run P w = (callFunc k ⟨args'⟩).run P w := by
      rw [← r2 w]; simp only [execOp, ho]
    have hcall : enterable P k = true → AEq P k args h v h' → o.wp P a w next Q := by
      intro hk hq
      obtain ⟨fn, cd, _, _, hen⟩ := enterable_some hk
      unfold Oper.wp
      rw [hop, hen]
      refine (hq E w args' g r1).mono ?_
      rintro e w' ⟨v0, v', h0, E', rfl, g', ev', rv, rfl, rfl⟩
      exact hn E' w' v' g' (by rw [g.n]; exact ev') rv
    have hext : ∀ {v0 : Value}, AExt P k args v0 → h = h → (∀ E' w' v', Good E' h w' → Evol E.n E h w E' h w' → Rep E' v0 v' → next (a.put o.dst v') w') → o.wp P a w next Q := by
      intro v0 hx _ hn'
      obtain ⟨v', q1, q2⟩ := hx E w args' r1
      unfold Oper.wp
      rw [hop, q1]
      exact hn' E w v' g (.refl E h w (Nat.le_refl _)) q2
    split at he
    · simp only [Option.some.injEq, Prod.mk.injEq] at he
      obtain ⟨rfl, rfl, rfl, rfl⟩ := he
      exact hext hob.1 rfl hn
    · split at he
      · rename_i hk
        simp only [Option.some.injEq, Prod.mk.injEq] at he
        obtain ⟨rfl, rfl, rfl, rfl⟩ := he
        exact hcall hk hob.1
      · simp at he
    · split at he
      · rename_i hk
        exact hcall hk (evFnWith_sound hev he hob)
      · simp at he
    · split at he
      · rename_i hk
        exact hcall hk (evFnWith_sound hev he hob)
      · split at he
        · rename_i v0 hx
          simp only [Option.some.injEq, Prod.mk.injEq] at he
          obtain ⟨_, rfl, rfl, _⟩ := he
          exact hext (evExt_sound hx) rfl hn
        · simp at he
  · simp at he

theorem evIs_some {dst : Option Tmp} {r : FRes} {ob : List Prop} {v : Value} {h : AHeap} {scr : Script} (he : evIs dst r = some (ob, v, h, scr)) (ho : AllP ob) : ∃ ob0 s, r = some (ob0, v, h, s) ∧ AllP ob0 := by
  unfold evIs at he
  split at he
  · split at he
    · simp only [Option.some.injEq, Prod.mk.injEq] at he
      obtain ⟨rfl, rfl, rfl, rfl⟩ := he
      obtain ⟨o1, o2, _⟩ := ho.append
      subst o2
      exact ⟨_, _, rfl, o1⟩
    · simp only [Option.some.injEq, Prod.mk.injEq] at he
      obtain ⟨rfl, rfl, rfl, rfl⟩ := he
      exact ⟨_, _, rfl, ho⟩
  · exact ⟨_, _, he, ho⟩

theorem evHinted_some {h h' : AHeap} {ts : Tm} {scr scr' : Script} {o : Oper} {ob : List Prop} {v : Value} (he : evHinted P h ts scr o = some (ob, v, h', scr')) : ∃ hi, evOp P h ts hi o.op = some (ob, v, h') := by
  unfold evHinted at he
  split at he
  · split at he <;> simp only [Option.map_eq_some_iff, Prod.mk.injEq] at he <;> obtain ⟨⟨a1, a2, a3⟩, h1, rfl, rfl, rfl, rfl⟩ := he <;> exact ⟨_, h1⟩
  · simp only [Option.map_eq_some_iff, Prod.mk.injEq] at he
    obtain ⟨⟨a1, a2, a3⟩, h1, rfl, rfl, rfl, rfl⟩ := he
    exact ⟨_, h1⟩

theorem any_next {ev : Nat → Code → Tm → AHeap → Script → Res} (hev : EvOk P ev) {E : Env} {ts : Tm} {h : AHeap} {w : World} {o : Oper} {a : Act} {scr scr' : Script} {ob : List Prop} {v : Value} {h' : AHeap}
    (g : Good E h w) (hr : RepT E ts a.tmps) (he : evAny P ev h ts scr o = some (ob, v, h', scr')) (hob : AllP ob) : OpNext P E h w o a v h' := by
  obtain ⟨ob0, s, h0, ho0⟩ := evIs_some he hob
  split at h0
  · rename_i c hc
    exact opNext_call hev g hr (isCallOp_some hc).1 h0 ho0
  · obtain ⟨hi, h1⟩ := evHinted_some h0
    exact opNext_op (evOp_sound g hr h1 ho0)

theorem evGuard_sound {E : Env} {ops : Array Oper} {ts ts1 : Tm} {a : Act} {scr scr1 : Script} {o : Oper} {ob : List Prop} {go : Bool} (hr : RepT E ts a.tmps) (he : evGuard ops ts scr o.guard = some (ob, go, ts1, scr1)) (ho : AllP ob) :
    Region.wanted o (yielded ops a.tmps) = go ∧ RepT E ts1 a.tmps := by
  unfold Region.wanted
  cases hg : o.guard with
  | none =>
    rw [hg] at he
    simp only [evGuard, Option.some.injEq, Prod.mk.injEq] at he
    obtain ⟨_, rfl, rfl, _⟩ := he
    exact ⟨rfl, hr⟩
  | some gd =>
    obtain ⟨j, want⟩ := gd
    rw [hg] at he
    simp only [evGuard] at he
    show (yielded ops a.tmps j == some want) = go ∧ _
    split at he
    · simp at he
    · rename_i d hd
      have hrd := hr.get d
      have hy : ∀ b, a.tmps.getD d undef = .bool b → yielded ops a.tmps j = some b := by
        intro b hb
        unfold yielded
        rw [hd]
        have : a.tmps[d]? = some (.bool b) := by
          rw [Array.getD_eq_getD_getElem?] at hb
          cases hx : a.tmps[d]? with
          | none => rw [hx] at hb; simp [undef] at hb
          | some x => rw [hx] at hb; simp at hb; rw [hb]
        simp [this]
      have hlit : ∀ b, ts.get d = .bool b → yielded ops a.tmps j = some b := by
        intro b hb
        rw [hb] at hrd
        generalize hx : a.tmps.getD d undef = x at hrd
        cases hrd
        exact hy b hx
      split at he
      · rename_i b hb
        have hyb := hlit b hb
        split at he
        · rename_i t c s
          split at he
          · rename_i ht
            subst ht
            simp only [Option.some.injEq, Prod.mk.injEq] at he
            obtain ⟨rfl, rfl, rfl, rfl⟩ := he
            have hbc := ho.1
            subst hbc
            refine ⟨by rw [hyb]; rfl, ?_⟩
            refine ⟨by rw [Tm.put_n]; exact hr.n, by rw [Tm.put_n]; exact hr.le, fun k => ?_⟩
            rw [Tm.get_put _ _ _ _ hr.le]
            split
            · rename_i hk
              obtain ⟨rfl, _⟩ := hk
              have := hr.get k
              rw [hb] at this
              exact this
            · exact hr.get k
          · split at he <;> simp only [Option.some.injEq, Prod.mk.injEq] at he <;> obtain ⟨rfl, rfl, rfl, rfl⟩ := he <;> exact ⟨by rw [hyb]; rfl, hr⟩
        · split at he <;> simp only [Option.some.injEq, Prod.mk.injEq] at he <;> obtain ⟨rfl, rfl, rfl, rfl⟩ := he <;> exact ⟨by rw [hyb]; rfl, hr⟩
      · rename_i hb
        simp only [Option.some.injEq, Prod.mk.injEq] at he
        obtain ⟨rfl, rfl, rfl, rfl⟩ := he
        refine ⟨?_, hr⟩
        rw [hb] at hrd
        generalize hx : a.tmps.getD d undef = x at hrd
        have : yielded ops a.tmps j = none := by
          unfold yielded
          rw [hd]
          cases hrd with
          | tuple _ c' h =>
            cases h
            have : a.tmps[d]? = none ∨ a.tmps[d]? = some (.tuple ⟨[]⟩) := by
              rw [Array.getD_eq_getD_getElem?] at hx
              cases hy : a.tmps[d]? with
              | none => exact .inl rfl
              | some y => rw [hy] at hx; simp at hx; exact .inr (by rw [hx])
            rcases this with h | h <;> simp [h]
        rw [this]; rfl
      · simp at he

theorem evOps_sound {ev : Nat → Code → Tm → AHeap → Script → Res} (hev : EvOk P ev) (ops : Array Oper) : ∀ (l : List Oper) (ts : Tm) (h : AHeap) (scr : Script) (ob : List Prop) (ts' : Tm) (h' : AHeap) (scr' : Script),
    evOps P ev ops l ts h scr = some (ob, ts', h', scr') → AllP ob → ∀ (E : Env) (w : World) (a : Act) (Q : Exit → Act → World → Prop), Good E h w → RepT E ts a.tmps → a.defers = [] →
    (∀ E' w' a', Good E' h' w' → Evol E.n E h w E' h' w' → RepT E' ts' a'.tmps → a'.defers = [] → Q .normal a' w') → wpList P ops Q l a w
  | [], ts, h, scr, ob, ts', h', scr', he, ho, E, w, a, Q, g, hr, hd, hq => by
    have he' : some (([] : List Prop), ts, h, scr) = some (ob, ts', h', scr') := he
    simp only [Option.some.injEq, Prod.mk.injEq] at he'
    obtain ⟨_, rfl, rfl, _⟩ := he'
    exact hq E w a g (.refl E h w (Nat.le_refl _)) hr hd
  | o :: rest, ts, h, scr, ob, ts', h', scr', he, ho, E, w, a, Q, g, hr, hd, hq => by
    have he' : evOne P ev ops o (evOps P ev ops rest) ts h scr = some (ob, ts', h', scr') := he
    unfold evOne at he'
    split at he'
    · simp at he'
    · rename_i ob0 ts1 scr1 hg
      obtain ⟨ob2, h2, rfl⟩ := addObs_some he'
      obtain ⟨o1, o2⟩ := ho.append
      obtain ⟨w1, w2⟩ := evGuard_sound hr hg o1
      unfold wpList
      rw [if_neg (by rw [w1]; simp)]
      exact evOps_sound hev ops rest _ _ _ _ _ _ _ h2 o2 E w _ Q g (putD_rep w2 (rep_undef E)) (by rw [put_defers]; exact hd) hq
    · rename_i ob0 ts1 scr1 hg
      have key : ∀ v h1 scr2 ob1, OpNext P E h w o a v h1 → addObs ob0 (addObs ob1 (evOps P ev ops rest (putD ts1 o.dst v) h1 scr2)) = some (ob, ts', h', scr') → AllP ob0 → (AllP ob1 → OpNext P E h w o a v h1) → RepT E ts1 a.tmps → Region.wanted o (yielded ops a.tmps) = true → wpList P ops Q (o :: rest) a w := by
        intro v h1 scr2 ob1 hnx hadd _ _ hr1 hw1
        obtain ⟨ob2, h2, rfl⟩ := addObs_some hadd
        obtain ⟨ob3, h3, rfl⟩ := addObs_some h2
        obtain ⟨o1, o2⟩ := ho.append
        obtain ⟨o3, o4⟩ := o2.append
        unfold wpList
        rw [if_pos hw1]
        refine .inl (hnx _ Q fun E' w' v' g' ev' rv => ?_)
        refine evOps_sound hev ops rest _ _ _ _ _ _ _ h3 o4 E' w' _ Q g' (putD_rep (hr1.mono ev'.agree) rv) (by rw [put_defers]; exact hd) ?_
        intro E2 w2 a2 g2 ev2 r2 d2
        exact hq E2 w2 a2 g2 (ev'.trans ev2 ev'.agree.n) r2 d2
      have fin : ∀ v h1 scr2 ob1, (AllP ob1 → OpNext P E h w o a v h1) → addObs ob0 (addObs ob1 (evOps P ev ops rest (putD ts1 o.dst v) h1 scr2)) = some (ob, ts', h', scr') → wpList P ops Q (o :: rest) a w := by
        intro v h1 scr2 ob1 hnx hadd
        obtain ⟨ob2, h2, e2⟩ := addObs_some hadd
        obtain ⟨ob3, h3, e3⟩ := addObs_some h2
        rw [e2, e3] at ho
        obtain ⟨o1, o2⟩ := ho.append
        obtain ⟨o3, o4⟩ := o2.append
        obtain ⟨w1, w2⟩ := evGuard_sound hr hg o1
        exact key v h1 scr2 ob1 (hnx o3) hadd o1 hnx w2 w1
      have hr1 : ∀ {ob9 : List Prop}, AllP (ob0 ++ ob9) → RepT E ts1 a.tmps := fun ha => (evGuard_sound hr hg ha.append.1).2
      split at he'
      · rename_i ob1 v h1 scr2 hany
        refine fin v h1 scr2 ob1 (fun ho1 => any_next hev g ?_ hany ho1) he'
        obtain ⟨ob2, h2, e2⟩ := addObs_some he'
        rw [e2] at ho
        exact hr1 ho
      · simp at he'

theorem evCond_sound {scr s : Script} {b c : Bool} {ob : List Prop} (he : evCond scr b = some (ob, c, s)) (ho : AllP ob) : b = c := by
  unfold evCond at he
  split at he
  · simp only [Option.some.injEq, Prod.mk.injEq] at he
    obtain ⟨rfl, rfl, _⟩ := he
    exact ho.1
  all_goals split at he <;> simp only [Option.some.injEq, Prod.mk.injEq] at he <;> exact he.2.1

theorem evLoop_sound {m : Nat} {c : Code} {f : Tm → AHeap → Script → Res} (hf : ∀ ts h scr ob ex ts' h' scr', f ts h scr = some (ob, ex, ts', h', scr') → AllP ob → AComes P m c ts h ex ts' h') :
    ∀ n ts h scr ob ex ts' h' scr', evLoop f n ts h scr = some (ob, ex, ts', h', scr') → AllP ob → AComes P m (.loop c) ts h ex ts' h' := by
  intro n ts h scr ob ex ts' h' scr' he ho
  refine ATrip.loop (fun k ts h => ∃ scr ob scr', evLoop f k ts h scr = some (ob, ex, ts', h', scr') ∧ AllP ob) n ⟨scr, ob, scr', he, ho⟩ ?_
  clear he ho scr ob scr'
  rintro k ts h ⟨scr, ob, scr', he, ho⟩
  cases k with
  | zero => exact absurd he (by simp [evLoop])
  | succ k =>
    have he' : (match f ts h scr with | some (ob, .normal, ts1, h1, scr1) => addObsR ob (evLoop f k ts1 h1 scr1) | r => r) = some (ob, ex, ts', h', scr') := he
    split at he'
    · rename_i ob0 ts1 h1 scr1 hb
      obtain ⟨ob2, h2, rfl⟩ := addObsR_some he'
      obtain ⟨o1, o2⟩ := ho.append
      refine (hf _ _ _ _ _ _ _ _ hb o1).mono ?_
      rintro e t q ⟨rfl, rfl, rfl⟩
      exact ⟨k, Nat.lt_succ_self _, scr1, ob2, scr', h2, o2⟩
    · rename_i hne
      refine (hf _ _ _ _ _ _ _ _ he' ho).mono ?_
      rintro e t q ⟨rfl, rfl, rfl⟩
      cases e with
      | normal => exact absurd he' (hne _ _ _ _)
      | _ => exact ⟨rfl, rfl, rfl⟩

end
end Go.AX
