/- What is built of parts; all operations that leave the heap alone, in one function. -/
import Derived.Test.YtmcepaeialgipaaCxAX4
namespace Go.AX

/-- The cells of a value; of none where it is no variable's. -/
def vcells : Value → Option (List Value)
  | .agg ⟨cs⟩ => some cs
  | .tuple _ => none
  | v => some [v]

def splice (vs : List Value) (off : Nat) (l : List Value) : List Value := vs.take off ++ (l ++ vs.drop (off + l.length))

def lfill (place : Nat → Option (Nat × Nat)) (cells : List Value) : List (Nat × Value) → Option (List Value)
  | [] => some cells
  | (i, v) :: rest =>
    match place i with
    | none => none
    | some (off, size) =>
      match vcells v with
      | none => none
      | some l =>
        if l.length = size then
          if off + size ≤ cells.length then lfill place (splice cells off l) rest else none
        else none

section
variable {P : Program} {E : Env}

theorem vcells_spec {v : Value} {l : List Value} (h : vcells v = some l) : v.cells = ⟨l⟩ := by
  unfold vcells at h
  split at h
  · simp only [Option.some.injEq] at h; subst h; rfl
  · simp at h
  · rename_i h1 h2
    simp only [Option.some.injEq] at h; subst h
    cases v <;> first | rfl | (rename_i c; cases c; exact absurd rfl (h1 _)) | exact absurd rfl (h2 _)

theorem vcells_rep {v v' : Value} {l : List Value} (h : Rep E v v') (hv : vcells v = some l) : ∃ l', vcells v' = some l' ∧ RepL E l l' := by
  cases h with
  | agg c c' h => simp only [vcells, Option.some.injEq] at hv; subst hv; exact ⟨c', rfl, h⟩
  | tuple => simp [vcells] at hv
  | junk => simp [vcells, junk] at hv
  | _ => simp only [vcells, Option.some.injEq] at hv; subst hv; exact ⟨_, rfl, .cons _ _ _ _ (by constructor <;> assumption) .nil⟩

theorem splice_rep {a a' b b' : List Value} (off : Nat) (h : RepL E a a') (k : RepL E b b') : RepL E (splice a off b) (splice a' off b') := by
  unfold splice
  rw [k.length]
  exact (h.take _).append (k.append (h.drop _))

theorem splice_length {a b : List Value} {off : Nat} (h : off + b.length ≤ a.length) : (splice a off b).length = a.length := by
  simp [splice]; omega

theorem splice_cons (y : Value) (t : List Value) (off : Nat) (l : List Value) : splice (y :: t) (off + 1) l = y :: splice t off l := by
  simp only [splice, List.take_succ_cons, List.cons_append]
  rw [show off + 1 + l.length = (off + l.length) + 1 by omega, List.drop_succ_cons]

theorem splice_set : ∀ (off : Nat) (a : List Value) (x : Value) (l : List Value), off + (x :: l).length ≤ a.length → splice (a.set off x) (off + 1) l = splice a off (x :: l)
  | _, [], x, l, h => by simp at h
  | 0, y :: t, x, l, h => by
    rw [List.set_cons_zero, splice_cons]
    simp [splice]
  | off + 1, y :: t, x, l, h => by
    rw [List.set_cons_succ, splice_cons, splice_cons, splice_set off t x l (by simp at h ⊢; omega)]

theorem foldl_splice (off : Nat) : ∀ (l : List Value) (k : Nat) (cs : Array Value), off + k + l.length ≤ cs.size →
    ((l.zipIdx k).foldl (fun cs (x : Value × Nat) => cs.setIfInBounds (off + x.2) x.1) cs).toList = splice cs.toList (off + k) l
  | [], k, cs, _ => by simp [splice]
  | x :: l, k, cs, h => by
    simp only [List.length_cons] at h
    simp only [List.zipIdx_cons, List.foldl_cons]
    rw [foldl_splice off l (k + 1) _ (by simp; omega)]
    rw [Array.toList_setIfInBounds, ← splice_set _ _ _ _ (by simp; omega)]
    rfl

theorem fill_eq (place : Nat → Option (Nat × Nat)) : ∀ (parts : List (Nat × Value)) (cells r : List Value), lfill place cells parts = some r → Instr.fill place ⟨cells⟩ parts = some ⟨r⟩
  | [], cells, r, h => by simp only [lfill, Option.some.injEq] at h; subst h; rfl
  | (i, v) :: rest, cells, r, h => by
    simp only [lfill] at h
    split at h
    · simp at h
    · rename_i off size hp
      split at h
      · simp at h
      · rename_i l hl
        split at h
        · rename_i hs
          split at h
          · rename_i hb
            have hc := vcells_spec hl
            have hsz : v.cells.size = size := by rw [hc]; exact hs
            simp only [Instr.fill, hp, hsz]
            have hb2 : off + size ≤ (⟨cells⟩ : Array Value).size := hb
            rw [if_neg (by rw [Bool.or_eq_true, decide_eq_true_eq, decide_eq_true_eq]; omega)]
            rw [← Array.foldl_toList, Array.toList_zipIdx, hc]
            have := foldl_splice off l 0 (⟨cells⟩ : Array Value) (by simp; omega)
            rw [show (List.foldl (fun cs x => match x with | (c, j) => cs.setIfInBounds (off + j) c) (⟨cells⟩ : Array Value) (l.zipIdx 0)) = ⟨splice cells off l⟩ from by
              apply Array.ext'
              simpa using this]
            exact fill_eq place rest _ r h
          · simp at h
        · simp at h

inductive RepP (E : Env) : List (Nat × Value) → List (Nat × Value) → Prop
  | nil : RepP E [] []
  | cons (i : Nat) (v v' : Value) (l l' : List (Nat × Value)) (h : Rep E v v') (t : RepP E l l') : RepP E ((i, v) :: l) ((i, v') :: l')

theorem lfill_rep (place : Nat → Option (Nat × Nat)) : ∀ {parts parts' : List (Nat × Value)} {cells cells' r : List Value}, RepP E parts parts' → RepL E cells cells' → lfill place cells parts = some r →
    ∃ r', lfill place cells' parts' = some r' ∧ RepL E r r'
  | _, _, cells, cells', r, .nil, hc, h => by simp only [lfill, Option.some.injEq] at h; subst h; exact ⟨cells', rfl, hc⟩
  | _, _, cells, cells', r, .cons i v v' l l' hv ht, hc, h => by
    simp only [lfill] at h
    split at h
    · simp at h
    · rename_i off size hp
      split at h
      · simp at h
      · rename_i l hl
        obtain ⟨l1, q1, q2⟩ := vcells_rep hv hl
        have hl := q2.length
        split at h
        · rename_i hs
          split at h
          · rename_i hb
            simp only [lfill, hp, q1]
            rw [if_pos (by omega), if_pos (by rw [hc.length]; omega)]
            exact lfill_rep place ht (splice_rep off hc q2) h
          · simp at h
        · simp at h

end

def zeroT (P : Program) (t : TypeId) : Option Value :=
  match (P.info? t).bind (·.zero) with
  | some v => if okConst v then some v else none
  | none => none

noncomputable def opdP (ts : Tm) : List (Nat × Operand) → Option (List (Nat × Value))
  | [] => some []
  | (i, x) :: l => match opd ts x, opdP ts l with
    | some v, some r => some ((i, v) :: r)
    | _, _ => none

noncomputable def opdL (ts : Tm) : List Operand → Option (List Value)
  | [] => some []
  | x :: l => match opd ts x, opdL ts l with
    | some v, some r => some (v :: r)
    | _, _ => none

noncomputable def opdO (ts : Tm) : Option Operand → Option (Option Value)
  | none => some none
  | some x => (opd ts x).map some

def fieldPlaces (P : Program) : List Field → Option (List (Nat × Nat))
  | [] => some []
  | f :: fs => match sizeT P f.type, fieldPlaces P fs with
    | some n, some l => some ((f.offset, n) :: l)
    | _, _ => none

def evBuild (P : Program) (t : TypeId) (parts : List (Nat × Value)) : PRes :=
  match zeroT P t, P.underlying t with
  | some z, some (.struct fs) =>
    match fieldPlaces P fs.toList, vcells z with
    | some pl, some zs => (lfill (pl[·]?) zs parts).map fun cs => ([], .agg ⟨cs⟩)
    | _, _ => none
  | some z, some (.array _ e) =>
    match sizeT P e, vcells z with
    | some n, some zs => (lfill (fun i => some (i * n, n)) zs parts).map fun cs => ([], .agg ⟨cs⟩)
    | _, _ => none
  | _, _ => none

/-- The operations that leave the heap alone. -/
noncomputable def evPure (P : Program) (hp : AHeap) (ts : Tm) (hint : Hint) : Op → PRes
  | .move x | .assign x => (opd ts x).bind ret
  | .pick c a b =>
    match opd ts c, opd ts a, opd ts b with
    | some c, some a, some b => evPick hint c a b
    | _, _, _ => none
  | .build t parts => (opdP ts parts.toList).bind (evBuild P t)
  | .nilCheck x => (opd ts x).bind evNil
  | .binOp op t x y _ =>
    match opd ts x, opd ts y with
    | some x, some y => evBin P op t x y
    | _, _ => none
  | .unOp op _ x => (opd ts x).bind (evUn op)
  | .convert s d x => (opd ts x).bind (evConv P s d)
  | .makeFunc fn first captured =>
    match opdL ts first.toList, opdL ts captured.toList with
    | some f, some c => ret (.func fn ⟨f⟩ ⟨c⟩)
    | _, _ => none
  | .slice t x lo hi mx =>
    match opd ts x, opdO ts lo, opdO ts hi, opdO ts mx with
    | some x, some lo, some hi, some mx => evSlice P hp t x lo hi mx
    | _, _, _, _ => none
  | .fieldAddr s x f => (opd ts x).bind fun x => evFieldAddr P s x f
  | .field s x f => (opd ts x).bind fun x => evField P s x f
  | .indexAddr t x i =>
    match opd ts x, opd ts i with
    | some x, some i => evIndexAddr P t x i
    | _, _ => none
  | .index t x i =>
    match opd ts x, opd ts i with
    | some x, some i => evIndex P hint t x i
    | _, _ => none
  | .extract x i => (opd ts x).bind fun x => evExtract x i
  | _ => none

section
variable {P : Program} {E : Env}

theorem run_zeroValue {t : TypeId} {v : Value} (h : zeroT P t = some v) (w : World) : (zeroValue t).run P w = .ok v w ∧ Rep E v v := by
  unfold zeroT at h
  split at h
  · rename_i z hz
    split at h
    · rename_i hc
      simp only [Option.some.injEq] at h
      subst h
      refine ⟨?_, rep_okConst hc⟩
      obtain ⟨i, hi, hz⟩ := Option.bind_eq_some_iff.1 hz
      simp [zeroValue, typeInfo, hi, hz]
    · simp at h
  · simp at h

theorem run_fieldPlaces (w : World) : ∀ (fs : List Field) (pl : List (Nat × Nat)), fieldPlaces P fs = some pl →
    (fs.mapM (m := Sem) fun f => do pure (f.offset, ← sizeOf f.type)).run P w = .ok pl w
  | [], pl, h => by simp only [fieldPlaces, Option.some.injEq] at h; subst h; rfl
  | f :: fs, pl, h => by
    simp only [fieldPlaces] at h
    split at h
    · rename_i n l h1 h2
      simp only [Option.some.injEq] at h
      subst h
      simp only [List.mapM_cons, Sem.run_bind, run_sizeOf h1, Result.andThen_ok, Sem.run_pure, run_fieldPlaces w fs l h2]
    · simp at h

theorem evBuild_sound {t : TypeId} {parts parts' : List (Nat × Value)} {obs : List Prop} {v : Value} (w : World) (h : evBuild P t parts = some (obs, v)) (hp : RepP E parts parts') :
    ∃ v', (Instr.build t ⟨parts'⟩).run P w = .ok v' w ∧ Rep E v v' := by
  unfold evBuild at h
  split at h
  · rename_i z fs hz hu
    obtain ⟨z1, z2⟩ := run_zeroValue (E := E) hz w
    split at h
    · rename_i pl zs hpl hzs
      obtain ⟨zs', hz1, hz2⟩ := vcells_rep z2 hzs
      obtain rfl := Option.some.inj (hzs.symm.trans hz1)
      simp only [Option.map_eq_some_iff, Prod.mk.injEq] at h
      obtain ⟨cs, hcs, rfl, rfl⟩ := h
      obtain ⟨cs', h1, h2⟩ := lfill_rep (pl[·]?) hp hz2 hcs
      refine ⟨.agg ⟨cs'⟩, ?_, .agg _ _ h2⟩
      have hm : (fs.mapM (m := Sem) fun f => do pure (f.offset, ← sizeOf f.type)).run P w = .ok pl.toArray w := by
        rw [← Array.toArray_toList (xs := fs), List.mapM_toArray]
        simp only [Sem.run_map, run_fieldPlaces w fs.toList pl hpl, Result.andThen_ok]
      have hf := fill_eq (fun i => (pl.toArray)[i]?) parts' zs cs' (by simpa using h1)
      have hzc : z.cells = ⟨zs⟩ := vcells_spec hzs
      simp only [Instr.build, Sem.run_bind, z1, Result.andThen_ok, run_underlying hu, hm, hzc, hf, Sem.run_pure]
    · simp at h
  · rename_i z n e hz hu
    obtain ⟨z1, z2⟩ := run_zeroValue (E := E) hz w
    split at h
    · rename_i n zs hn hzs
      obtain ⟨zs', hz1, hz2⟩ := vcells_rep z2 hzs
      obtain rfl := Option.some.inj (hzs.symm.trans hz1)
      simp only [Option.map_eq_some_iff, Prod.mk.injEq] at h
      obtain ⟨cs, hcs, rfl, rfl⟩ := h
      obtain ⟨cs', h1, h2⟩ := lfill_rep _ hp hz2 hcs
      refine ⟨.agg ⟨cs'⟩, ?_, .agg _ _ h2⟩
      have hf := fill_eq _ parts' zs cs' h1
      have hzc : z.cells = ⟨zs⟩ := vcells_spec hzs
      simp only [Instr.build, Sem.run_bind, z1, Result.andThen_ok, run_underlying hu, run_sizeOf hn, hzc, hf, Sem.run_pure]
    · simp at h
  · simp at h

theorem opdP_sound {ts : Tm} {a : Act} (hr : RepT E ts a.tmps) : ∀ {l : List (Nat × Operand)} {r : List (Nat × Value)}, opdP ts l = some r → RepP E r (l.map fun (i, x) => (i, a.eval x))
  | [], r, h => by simp only [opdP, Option.some.injEq] at h; subst h; exact .nil
  | (i, x) :: l, r, h => by
    simp only [opdP] at h
    split at h
    · rename_i v r' h1 h2
      simp only [Option.some.injEq] at h; subst h
      exact .cons i _ _ _ _ (opd_sound hr h1) (opdP_sound hr h2)
    · simp at h

theorem opdL_sound {ts : Tm} {a : Act} (hr : RepT E ts a.tmps) : ∀ {l : List Operand} {r : List Value}, opdL ts l = some r → RepL E r (l.map a.eval)
  | [], r, h => by simp only [opdL, Option.some.injEq] at h; subst h; exact .nil
  | x :: l, r, h => by
    simp only [opdL] at h
    split at h
    · rename_i v r' h1 h2
      simp only [Option.some.injEq] at h; subst h
      exact .cons _ _ _ _ (opd_sound hr h1) (opdL_sound hr h2)
    · simp at h

theorem opdO_sound {ts : Tm} {a : Act} (hr : RepT E ts a.tmps) {x : Option Operand} {r : Option Value} (h : opdO ts x = some r) : RepO E r (x.map a.eval) := by
  cases x with
  | none => simp only [opdO, Option.some.injEq] at h; subst h; exact .none
  | some x =>
    simp only [opdO, Option.map_eq_some_iff] at h
    obtain ⟨v, h1, rfl⟩ := h
    exact .some _ _ (opd_sound hr h1)

theorem run_eqGuard {op : BinOp} {t : TypeId} {x y : Operand} {a b : Value} (w : World) (h : op = .eql ∨ op = .neq → (a = .nilIface → b ≠ .nilIface) ∧ (∀ c, a = .agg c → ∀ d, b ≠ .agg d)) :
    (eqGuard op t x y a b).run P w = .ok () w := by
  cases op
  case eql =>
    obtain ⟨h1, h2⟩ := h (.inl rfl)
    cases a <;> cases b <;> first | rfl | exact absurd rfl (h1 rfl) | exact absurd rfl (h2 _ rfl _)
  case neq =>
    obtain ⟨h1, h2⟩ := h (.inr rfl)
    cases a <;> cases b <;> first | rfl | exact absurd rfl (h1 rfl) | exact absurd rfl (h2 _ rfl _)
  all_goals rfl

theorem evPure_sound {hp : AHeap} {ts : Tm} {hint : Hint} {o : Oper} {a : Act} {obs : List Prop} {v : Value} {w : World} (g : Good E hp w) (hr : RepT E ts a.tmps)
    (h : evPure P hp ts hint o.op = some (obs, v)) (ho : AllP obs) : ∃ v', (execOp a.eval o).run P w = .ok (.value v') w ∧ Rep E v v' := by
  have V : ∀ {s : Sem Value} {v' : Value}, s.run P w = .ok v' w → (do pure (Next.value (← s)) : Sem Next).run P w = .ok (.value v') w := by
    intro s v' hs; simp [hs]
  unfold execOp
  generalize o.op = op at *
  unfold evPure at h
  split at h
  case h_1 =>
    simp only [ret, Option.bind_eq_some_iff, Option.some.injEq, Prod.mk.injEq] at h
    obtain ⟨u, h1, _, rfl⟩ := h
    exact ⟨_, by simp, opd_sound hr h1⟩
  case h_2 =>
    simp only [ret, Option.bind_eq_some_iff, Option.some.injEq, Prod.mk.injEq] at h
    obtain ⟨u, h1, _, rfl⟩ := h
    exact ⟨_, by simp, opd_sound hr h1⟩
  case h_3 c x y =>
    split at h
    · rename_i vc va vb h1 h2 h3
      obtain ⟨v', e1, e2⟩ := evPick_sound (P := P) w h ho (opd_sound hr h1) (opd_sound hr h2) (opd_sound hr h3)
      refine ⟨v', ?_, e2⟩
      simp only [Sem.run_bind] at e1 ⊢
      cases hb : Sem.run P (asBool (a.eval c)) w with
      | halt x w' => simp [hb] at e1
      | ok b w' =>
        simp only [hb, Result.andThen_ok, Sem.run_pure, Result.ok.injEq] at e1 ⊢
        exact ⟨by rw [e1.1], e1.2⟩
    · simp at h
  case h_4 t parts =>
    obtain ⟨r, h1, h2⟩ := Option.bind_eq_some_iff.1 h
    obtain ⟨v', e1, e2⟩ := evBuild_sound (P := P) w h2 (opdP_sound hr h1)
    refine ⟨v', V ?_, e2⟩
    rw [← e1]
    congr 2
    apply Array.ext'
    simp
  case h_5 x =>
    obtain ⟨r, h1, h2⟩ := Option.bind_eq_some_iff.1 h
    have e := opd_sound hr h1
    unfold evNil at h2
    split at h2
    · simp only [ret, Option.some.injEq, Prod.mk.injEq] at h2
      obtain ⟨_, rfl⟩ := h2
      refine ⟨a.eval x, ?_, e⟩
      generalize hy : a.eval x = y at e ⊢
      cases e
      simp [hy]
    · simp at h2
  case h_6 op t x y yt =>
    split at h
    · rename_i vx vy h1 h2
      have ex := opd_sound hr h1
      have ey := opd_sound hr h2
      obtain ⟨e1, e2⟩ := evBin_sound (P := P) w h ho ex ey
      refine ⟨v, V ?_, e2⟩
      have hg : (eqGuard op t x y (a.eval x) (a.eval y)).run P w = .ok () w := run_eqGuard w fun hop => evBin_form h hop ex ey
      simp only [Sem.run_bind, hg, Result.andThen_ok, e1]
    · simp at h
  case h_7 op t x =>
    obtain ⟨r, h1, h2⟩ := Option.bind_eq_some_iff.1 h
    obtain ⟨e1, e2⟩ := evUn_sound (P := P) w h2 (opd_sound hr h1)
    exact ⟨v, V e1, e2⟩
  case h_8 s d x =>
    obtain ⟨r, h1, h2⟩ := Option.bind_eq_some_iff.1 h
    obtain ⟨e1, e2⟩ := evConv_sound (P := P) w h2 (opd_sound hr h1)
    exact ⟨v, V e1, e2⟩
  case h_9 fn f c =>
    split at h
    · rename_i rf rc h1 h2
      simp only [ret, Option.some.injEq, Prod.mk.injEq] at h
      obtain ⟨_, rfl⟩ := h
      refine ⟨.func fn (f.map a.eval) (c.map a.eval), V (by simp only [Instr.makeFunc, Sem.run_pure]), ?_⟩
      have e1 := opdL_sound hr h1
      have e2 := opdL_sound hr h2
      have := Rep.func (E := E) fn rf rc _ _ e1 e2
      rw [show f.map a.eval = ⟨f.toList.map a.eval⟩ by apply Array.ext'; simp, show c.map a.eval = ⟨c.toList.map a.eval⟩ by apply Array.ext'; simp]
      exact this
    · simp at h
  case h_10 t x lo hi mx =>
    split at h
    · rename_i vx vl vh vm h1 h2 h3 h4
      obtain ⟨v', e1, e2⟩ := evSlice_sound (P := P) g h ho (opd_sound hr h1) (opdO_sound hr h2) (opdO_sound hr h3) (opdO_sound hr h4)
      exact ⟨v', V e1, e2⟩
    · simp at h
  case h_11 s x f =>
    obtain ⟨r, h1, h2⟩ := Option.bind_eq_some_iff.1 h
    obtain ⟨v', e1, e2⟩ := evFieldAddr_sound (P := P) w h2 (opd_sound hr h1)
    exact ⟨v', V e1, e2⟩
  case h_12 s x f =>
    obtain ⟨r, h1, h2⟩ := Option.bind_eq_some_iff.1 h
    obtain ⟨v', e1, e2⟩ := evField_sound (P := P) w h2 (opd_sound hr h1)
    exact ⟨v', V e1, e2⟩
  case h_13 t x i =>
    split at h
    · rename_i vx vi h1 h2
      obtain ⟨v', e1, e2⟩ := evIndexAddr_sound (P := P) w h ho (opd_sound hr h1) (opd_sound hr h2)
      exact ⟨v', V e1, e2⟩
    · simp at h
  case h_14 t x i =>
    split at h
    · rename_i vx vi h1 h2
      obtain ⟨v', e1, e2⟩ := evIndex_sound (P := P) w h ho (opd_sound hr h1) (opd_sound hr h2)
      exact ⟨v', V e1, e2⟩
    · simp at h
  case h_15 x i =>
    obtain ⟨r, h1, h2⟩ := Option.bind_eq_some_iff.1 h
    obtain ⟨v', e1, e2⟩ := evExtract_sound (P := P) w h2 (opd_sound hr h1)
    exact ⟨v', V e1, e2⟩
  case h_16 => simp at h

end
end Go.AX
