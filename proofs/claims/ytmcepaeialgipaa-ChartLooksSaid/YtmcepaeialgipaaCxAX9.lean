/- Every operation but calls, in one function, and that the model's own does the like. -/
import Derived.Test.YtmcepaeialgipaaCxAX8
namespace Go.AX
set_option linter.unusedSimpArgs false
set_option linter.unusedVariables false

def bstr (ns : List Int) : ByteArray := ⟨⟨ns.map fun n => UInt8.ofNat n.toNat⟩⟩

def bytesV : List Value → Option (List Int)
  | [] => some []
  | .int .u8 n :: l => (bytesV l).map (n :: ·)
  | _ => none

noncomputable def evBytesStr (P : Program) (h : AHeap) (hint : Hint) (s d : TypeId) (x : Value) : PRes :=
  match P.underlying s, P.underlying d with
  | some (.slice e), some .string =>
    match P.underlying e with
    | some (.int .u8) =>
      match x with
      | .slice none 0 0 => ret (.string ByteArray.empty)
      | .slice (some ⟨i, o, none⟩) m _ =>
        match objCells h i, hint with
        | some vs, .str st => some ([D (0 < m), D (((vs.drop o).take m).length = m), ∃ ns : List Int, (vs.drop o).take m = ns.map (Value.int .u8) ∧ st = bstr ns], .string st)
        | some vs, _ =>
          match bytesV ((vs.drop o).take m) with
          | some ns => some (bs [decide (0 < m), decide (ns.length = m)], .string (bstr ns))
          | none => none
        | none, _ => none
      | _ => none
    | _ => none
  | _, _ => none

def evMake (P : Program) (h : AHeap) (t : TypeId) (l c : Value) : MRes :=
  match P.underlying t, l, c with
  | some (.slice e), .int _ a, .int _ b =>
    match P.info? e, (zeroT P e).bind vcells with
    | some inf, some z =>
      if inf.size = z.length then
        if 0 < inf.size then
          some (bs [decide (0 ≤ a), decide (a ≤ b), decide (b < 9223372036854775808), decide (b.toNat * inf.bytes ≤ 140737488355328)], .slice (some ⟨h.length, 0, none⟩) a.toNat b.toNat, h ++ [.cells (List.flatten (List.replicate b.toNat z)) e inf.size])
        else none
      else none
    | _, _ => none
  | _, _, _ => none

def evLen (P : Program) (t : TypeId) (x : Value) : PRes :=
  match P.underlying t, x with
  | some .string, .string s => ret (.int .i64 s.size)
  | some (.array n _), _ => ret (.int .i64 n)
  | some (.slice _), .slice _ n _ => ret (.int .i64 n)
  | some (.map _ _), .map none => ret (.int .i64 0)
  | _, _ => none

def evMinMax (mx : Bool) (x y : Value) : PRes :=
  match x, y with
  | .int k a, .int _ b => ret (.int k (match mx with | true => (if b > a then b else a) | false => (if b < a then b else a)))
  | _, _ => none

def pureM (h : AHeap) (r : PRes) : MRes := r.map fun x => (x.1, x.2, h)

/-- Every operation but calls of functions. -/
noncomputable def evOp (P : Program) (h : AHeap) (ts : Tm) (hint : Hint) : Op → MRes
  | .load t x => (opd ts x).bind fun x => pureM h (evLoad P h hint t x)
  | .store t x v =>
    match opd ts x, opd ts v with
    | some x, some v => evStore P h t x v
    | _, _ => none
  | .alloc e => (zeroT P e).bind fun z => evNew P h e z
  | .box e x => (opd ts x).bind fun x => evNew P h e x
  | .buildSlice t len parts => (opdP ts parts.toList).bind fun ps => evBuildSlice P h t len ps
  | .makeSlice t l c =>
    match opd ts l, opd ts c with
    | some l, some c => evMake P h t l c
    | _, _ => none
  | .convert s d x =>
    match opd ts x with
    | some (.slice a n c) => pureM h (evBytesStr P h hint s d (.slice a n c))
    | some x => pureM h (evConv P s d x)
    | none => none
  | .call { callee := .builtin .append, args := ⟨[s, x]⟩, argTypes := ⟨[t, t']⟩ } =>
    match opd ts s, opd ts x with
    | some s, some x => if t = t' then evAppend P h hint t s x else none
    | _, _ => none
  | .call { callee := .builtin .len, args := ⟨[x]⟩, argTypes := ⟨[t]⟩ } => (opd ts x).bind fun x => pureM h (evLen P t x)
  | .call { callee := .builtin .min, args := ⟨[x, y]⟩, .. } =>
    match opd ts x, opd ts y with
    | some x, some y => pureM h (evMinMax false x y)
    | _, _ => none
  | .call { callee := .builtin .max, args := ⟨[x, y]⟩, .. } =>
    match opd ts x, opd ts y with
    | some x, some y => pureM h (evMinMax true x y)
    | _, _ => none
  | o => pureM h (evPure P h ts hint o)

def OpOk (E : Env) (h : AHeap) (w : World) (r : Result Next) (v : Value) (h' : AHeap) : Prop :=
  ∃ E' w', Good E' h' w' ∧ Evol E.n E h w E' h' w' ∧ ((∃ v', r = .ok (.value v') w' ∧ Rep E' v v') ∨ (r = .ok .skip w' ∧ v = undef))

section
variable {P : Program} {E : Env} {h : AHeap} {w : World}

theorem opOk_pure (g : Good E h w) {r : Result Next} {v v' : Value} (hr : r = .ok (.value v') w) (hv : Rep E v v') : OpOk E h w r v h :=
  ⟨E, w, g, .refl E h w (Nat.le_refl _), .inl ⟨v', hr, hv⟩⟩

theorem pureM_some {r : PRes} {obs : List Prop} {v : Value} {h' : AHeap} (he : pureM h r = some (obs, v, h')) : r = some (obs, v) ∧ h' = h := by
  simp only [pureM, Option.map_eq_some_iff, Prod.mk.injEq] at he
  obtain ⟨⟨a, b⟩, h1, rfl, rfl, rfl⟩ := he
  exact ⟨h1, rfl⟩

theorem foldl_bstr (ns : List Int) : ns.foldl (fun (r : ByteArray) n => r.push (UInt8.ofNat n.toNat)) ByteArray.empty = bstr ns := by
  suffices H : ∀ (l : List Int) (r : ByteArray), l.foldl (fun (r : ByteArray) n => r.push (UInt8.ofNat n.toNat)) r = ⟨⟨r.data.toList ++ l.map fun n => UInt8.ofNat n.toNat⟩⟩ by
    have := H ns ByteArray.empty
    simpa [bstr] using this
  intro l
  induction l with
  | nil => intro r; simp
  | cons n l ih =>
    intro r
    rw [List.foldl_cons, ih]
    simp [ByteArray.push]

theorem bytesV_some : ∀ {l : List Value} {ns : List Int}, bytesV l = some ns → l = ns.map (Value.int .u8)
  | [], ns, h => by simp only [bytesV, Option.some.injEq] at h; subst h; rfl
  | v :: l, ns, h => by
    unfold bytesV at h
    split at h
    · simp_all
    · rename_i n l' hvl
      simp only [List.cons.injEq] at hvl
      obtain ⟨rfl, rfl⟩ := hvl
      obtain ⟨ms, h1, rfl⟩ := Option.map_eq_some_iff.1 h
      simp [bytesV_some h1]
    · simp at h

theorem repL_ints {k : IntKind} : ∀ {ns : List Int} {l' : List Value}, RepL E (ns.map (Value.int k)) l' → l' = ns.map (Value.int k)
  | [], _, .nil => rfl
  | n :: ns, _, .cons _ _ _ _ hv ht => by
    cases hv
    rw [repL_ints ht]; rfl

theorem evBytesStr_sound {hint : Hint} {s d : TypeId} {x x' v : Value} {obs : List Prop} (g : Good E h w) (he : evBytesStr P h hint s d x = some (obs, v)) (ho : AllP obs) (hx : Rep E x x') :
    ∃ v', (convert s d x').run P w = .ok v' w ∧ Rep E v v' := by
  unfold evBytesStr at he
  split at he
  · rename_i e hs hd
    split at he
    · rename_i hu
      split at he
      · simp only [ret, Option.some.injEq, Prod.mk.injEq] at he
        obtain ⟨_, rfl⟩ := he
        cases hx
        exact ⟨_, by rw [run_convert_bytes_string w s d e none 0 0 hs hu hd]; rfl, .str _⟩
      · rename_i i o m c
        obtain ⟨a', c', rfl, q1, q2⟩ := slOf_rep hx
        have key : ∀ (vs : List Value) (ns : List Int), objCells h i = some vs → 0 < m → ((vs.drop o).take m).length = m → (vs.drop o).take m = ns.map (Value.int .u8) →
            ∃ v', (convert s d (.slice a' m c')).run P w = .ok v' w ∧ Rep E (.string (bstr ns)) v' := by
          intro vs ns h1 h0 hl h2
          obtain ⟨l', r1, r2⟩ := cells_of g h1 o m
          have hll : l'.length = m := by rw [r1.length, hl]
          rw [h2] at r1
          obtain rfl := repL_ints r1
          have ha := q1.2.1 h0
          subst ha
          have hload := run_loadCells_list (P := P) w ⟨E.blk i, E.off i + o, none⟩ _ r2
          rw [hll] at hload
          refine ⟨.string (bstr ns), ?_, .str _⟩
          rw [run_convert_bytes_string w s d e _ m c' hs hu hd, run_bytesToString w _ m c' ns hload, foldl_bstr]
        split at he
        · rename_i vs st h1
          simp only [Option.some.injEq, Prod.mk.injEq] at he
          obtain ⟨rfl, rfl⟩ := he
          obtain ⟨o1, o2, ⟨ns, o3, rfl⟩, _⟩ := ho
          replace o1 := D_iff.1 o1
          replace o2 := D_iff.1 o2
          exact key vs ns h1 o1 o2 o3
        · rename_i vs h1 _
          split at he
          · rename_i ns hns
            simp only [Option.some.injEq, Prod.mk.injEq] at he
            obtain ⟨rfl, rfl⟩ := he
            obtain ⟨o1, o2, _⟩ := bs_all ho
            replace o1 := D_iff.1 o1
            replace o2 := D_iff.1 o2
            have hb := bytesV_some hns
            refine key _ ns h1 o1 ?_ hb
            rw [hb, List.length_map, o2]
          · simp at he
        · simp at he
      · simp at he
    · simp at he
  · simp at he

theorem wrap_i64 {n : Int} (h0 : 0 ≤ n) (h1 : n < 9223372036854775808) : IntKind.i64.wrap n = n := by
  have e : IntKind.i64.wrap n = (let m := n % (18446744073709551616 : Int); if true && decide (m ≥ (9223372036854775808 : Int)) then m - 18446744073709551616 else m) := rfl
  rw [e]
  simp only [Bool.true_and, decide_eq_true_eq]
  rw [if_neg (by omega)]
  omega

theorem evMake_sound {t : TypeId} {l c l' c' u : Value} {h' : AHeap} {obs : List Prop} (g : Good E h w) (he : evMake P h t l c = some (obs, u, h')) (ho : AllP obs) (hl : Rep E l l') (hc : Rep E c c') :
    ∃ E' w' v', (Instr.makeSlice t l' c').run P w = .ok v' w' ∧ Good E' h' w' ∧ Evol E.n E h w E' h' w' ∧ Rep E' u v' := by
  unfold evMake at he
  split at he
  · rename_i e _ a _ b hu
    cases hl; cases hc
    split at he
    · rename_i inf z hinf hz
      split at he
      · rename_i hnz
        split at he
        · rename_i h0
          simp only [Option.some.injEq, Prod.mk.injEq] at he
          obtain ⟨rfl, rfl, rfl⟩ := he
          obtain ⟨o1, o2, o3, o4, _⟩ := bs_all ho
          replace o1 := D_iff.1 o1
          replace o2 := D_iff.1 o2
          replace o3 := D_iff.1 o3
          replace o4 := D_iff.1 o4
          obtain ⟨zv, hz1, hz2⟩ := Option.bind_eq_some_iff.1 hz
          obtain ⟨z1, z2⟩ := run_zeroValue (E := E) hz1 w
          obtain ⟨z', zz1, zz2⟩ := vcells_rep z2 hz2
          obtain rfl := Option.some.inj (hz2.symm.trans zz1)
          have hrl := repL_flatten zz2 b.toNat
          have hag := Env.push_agree E w.heap.size 0 (List.flatten (List.replicate b.toNat z)).length inf.size
          have key := good_new g (.cells ⟨List.flatten (List.replicate b.toNat z)⟩ e) (.cells (List.flatten (List.replicate b.toNat z)) e inf.size) 0 (List.flatten (List.replicate b.toNat z)).length inf.size (fun h => h)
            ⟨_, by simp only [Env.push, if_pos]; exact heap_alloc_new w _, by simp [Env.push], by simp [Env.push], by simp [Env.push], hrl.mono hag⟩
          have hsz : sizeT P e = some inf.size := by simp [sizeT, hinf]
          refine ⟨_, _, .slice (some ⟨w.heap.size, 0, none⟩) a.toNat b.toNat, ?_, key.1, key.2, ?_⟩
          · have hcells := vcells_spec hz2
            have hty : (typeInfo e).run P w = .ok inf w := by simp [typeInfo, hinf]
            have wa := wrap_i64 o1 (by omega)
            have wb := wrap_i64 (show 0 ≤ b by omega) o3
            have hb2 : (inf.bytes : Int) * b ≤ 2 ^ 48 := by
              have e1 : ((b.toNat * inf.bytes : Nat) : Int) = b * inf.bytes := by rw [Int.natCast_mul, Int.toNat_of_nonneg (by omega)]
              rw [Int.mul_comm, ← e1]; omega
            have ha2 : (inf.bytes : Int) * a ≤ 2 ^ 48 := Int.le_trans (Int.mul_le_mul_of_nonneg_left o2 (Int.natCast_nonneg _)) hb2
            have t1 : ¬ (b < 0) := by omega
            have t2 : ¬ (a < 0) := by omega
            have t3 : ¬ (a > b) := by omega
            have t4 : ¬ ((inf.bytes : Int) * b > 2 ^ 48) := by omega
            simp only [Instr.makeSlice, Sem.run_bind, run_underlying hu, Result.andThen_ok, asInt, asIntOf, Sem.run_pure, hty, wa, wb, run_sizeOf hsz, run_askRoom]
            rw [if_neg (by simp only [decide_eq_true_eq, Bool.or_eq_true]; omega)]
            simp only [Sem.run_bind, run_askRoom, Result.andThen_ok, run_sizeOf hsz]
            by_cases hb0 : b.toNat * inf.size = 0
            · have hbz : b.toNat = 0 := by
                rcases Nat.mul_eq_zero.1 hb0 with h | h
                · exact h
                · omega
              rw [if_pos hb0]
              simp only [Sem.run_bind, Sem.run_pure, Result.andThen_ok, hbz, Nat.zero_mul, show Array.range 0 = #[] from rfl, Array.map_empty, newRow, run_newObj, List.replicate_zero, List.flatten_nil]
              rfl
            · rw [if_neg hb0]
              have hrc := replicate_cells z inf.size b.toNat hnz h0
              simp only [Sem.run_bind, z1, Sem.run_pure, Result.andThen_ok, hcells, hrc, newRow, run_newObj]
              rfl
          · exact .slX h.length 0 _ _ (some ⟨w.heap.size, 0, none⟩) (by simp [Env.push, g.n]) (fun _ => by simp [Env.push, g.n]) (by omega) (by unfold UNK; omega)
        · simp at he
      · simp at he
    · simp at he
  · simp at he

theorem evLen_sound {t ty : TypeId} {x x' v : Value} {obs : List Prop} (he : evLen P t x = some (obs, v)) (hx : Rep E x x') :
    (Builtin.len_ #[t] ty #[x']).run P w = .ok v w ∧ Rep E v v := by
  unfold evLen at he
  split at he
  case h_3 n m c hu =>
    simp only [ret, Option.some.injEq, Prod.mk.injEq] at he
    obtain ⟨_, rfl⟩ := he
    cases hx <;> exact ⟨by simp [Builtin.len_, run_underlying hu, goInt], .int _ _⟩
  case h_2 hu =>
    simp only [ret, Option.some.injEq, Prod.mk.injEq] at he
    obtain ⟨_, rfl⟩ := he
    exact ⟨by simp [Builtin.len_, run_underlying hu, goInt], .int _ _⟩
  all_goals (try (simp at he; done))
  all_goals
    rename_i hu
    simp only [ret, Option.some.injEq, Prod.mk.injEq] at he
    obtain ⟨_, rfl⟩ := he
    cases hx
    exact ⟨by simp [Builtin.len_, run_underlying hu, goInt], .int _ _⟩

theorem opOk_value (g : Good E h w) {s : Sem Value} {v v' : Value} (hr : s.run P w = .ok v' w) (hv : Rep E v v') : OpOk E h w ((do pure (Next.value (← s)) : Sem Next).run P w) v h :=
  opOk_pure g (by simp [hr]) hv

theorem evOp_sound {ts : Tm} {hint : Hint} {o : Oper} {a : Act} {obs : List Prop} {v : Value} {h' : AHeap} (g : Good E h w) (hr : RepT E ts a.tmps)
    (he : evOp P h ts hint o.op = some (obs, v, h')) (ho : AllP obs) : OpOk E h w ((execOp a.eval o).run P w) v h' := by
  have hpure : ∀ (op : Op), o.op = op → pureM h (evPure P h ts hint op) = some (obs, v, h') → OpOk E h w ((execOp a.eval o).run P w) v h' := by
    intro op hop hp
    obtain ⟨h1, rfl⟩ := pureM_some hp
    subst hop
    obtain ⟨v', e1, e2⟩ := evPure_sound g hr h1 ho
    exact opOk_pure g e1 e2
  unfold evOp at he
  split at he
  case h_1 t x heq =>
    obtain ⟨vx, h1, h2⟩ := Option.bind_eq_some_iff.1 he
    obtain ⟨h3, rfl⟩ := pureM_some h2
    obtain ⟨v', e1, e2⟩ := evLoad_sound g h3 ho (opd_sound hr h1)
    simp only [execOp, heq]
    exact opOk_value g e1 e2
  case h_2 t x y heq =>
    split at he
    · rename_i vx vy h1 h2
      obtain ⟨w', e1, e2, e3, rfl⟩ := evStore_sound (P := P) g he ho (opd_sound hr h1) (opd_sound hr h2)
      refine ⟨E, w', e2, e3, .inr ⟨?_, rfl⟩⟩
      simp [execOp, heq, e1]
    · simp at he
  case h_3 e heq =>
    obtain ⟨z, h1, h2⟩ := Option.bind_eq_some_iff.1 he
    obtain ⟨z1, z2⟩ := run_zeroValue (E := E) h1 w
    obtain ⟨E', w', e1, e2, e3, e4⟩ := evNew_sound (P := P) g h2 z2
    refine ⟨E', w', e2, e3, .inl ⟨_, ?_, e4⟩⟩
    simp [execOp, heq, Instr.alloc, z1, e1]
  case h_4 e x heq =>
    obtain ⟨z, h1, h2⟩ := Option.bind_eq_some_iff.1 he
    obtain ⟨E', w', e1, e2, e3, e4⟩ := evNew_sound (P := P) g h2 (opd_sound hr h1)
    refine ⟨E', w', e2, e3, .inl ⟨_, ?_, e4⟩⟩
    simp [execOp, heq, Instr.box, e1]
  case h_5 t len parts heq =>
    obtain ⟨ps, h1, h2⟩ := Option.bind_eq_some_iff.1 he
    obtain ⟨E', w', v', e1, e2, e3, e4⟩ := evBuildSlice_sound (P := P) g h2 (opdP_sound hr h1)
    refine ⟨E', w', e2, e3, .inl ⟨v', ?_, e4⟩⟩
    have hm : parts.map (fun (i, x) => (i, a.eval x)) = ⟨parts.toList.map fun (i, x) => (i, a.eval x)⟩ := by apply Array.ext'; simp
    simp only [execOp, heq, hm, Sem.run_bind, e1, Result.andThen_ok, Sem.run_pure]
  case h_6 t l c heq =>
    split at he
    · rename_i vl vc h1 h2
      obtain ⟨E', w', v', e1, e2, e3, e4⟩ := evMake_sound (P := P) g he ho (opd_sound hr h1) (opd_sound hr h2)
      refine ⟨E', w', e2, e3, .inl ⟨v', ?_, e4⟩⟩
      simp [execOp, heq, e1]
    · simp at he
  case h_7 s d x heq =>
    split at he
    · rename_i aa n c h1
      obtain ⟨h3, rfl⟩ := pureM_some he
      obtain ⟨v', e1, e2⟩ := evBytesStr_sound (P := P) g h3 ho (opd_sound hr h1)
      simp only [execOp, heq]
      exact opOk_value g e1 e2
    · rename_i vx _ h1
      obtain ⟨h3, rfl⟩ := pureM_some he
      obtain ⟨e1, e2⟩ := evConv_sound (P := P) (E := E) w h3 (opd_sound hr h1)
      simp only [execOp, heq]
      exact opOk_value g e1 e2
    · simp at he
  case h_8 s x t t' heq =>
    split at he
    · rename_i vs vx h1 h2
      split at he
      · rename_i htt
        subst htt
        obtain ⟨E', w', v', e1, e2, e3, e4⟩ := evAppend_sound (P := P) (ty := o.type) g he ho (opd_sound hr h1) (opd_sound hr h2)
        refine ⟨E', w', e2, e3, .inl ⟨v', ?_, e4⟩⟩
        simp [execOp, heq, resolve, invoke, builtin, e1]
      · simp at he
    · simp at he
  case h_9 x t heq =>
    obtain ⟨vx, h1, h2⟩ := Option.bind_eq_some_iff.1 he
    obtain ⟨h3, rfl⟩ := pureM_some h2
    obtain ⟨e1, e2⟩ := evLen_sound (P := P) (E := E) (w := w) (ty := o.type) h3 (opd_sound hr h1)
    refine opOk_pure g ?_ e2
    simp [execOp, heq, resolve, invoke, builtin, e1]
  case h_10 x y at_ heq =>
    split at he
    · rename_i vx vy h1 h2
      obtain ⟨h3, rfl⟩ := pureM_some he
      have ex := opd_sound hr h1
      have ey := opd_sound hr h2
      unfold evMinMax at h3
      split at h3
      · simp only [ret, Option.some.injEq, Prod.mk.injEq] at h3
        obtain ⟨_, rfl⟩ := h3
        generalize hx' : a.eval x = x' at ex
        generalize hy' : a.eval y = y' at ey
        cases ex; cases ey
        refine opOk_pure g ?_ (.int _ _)
        simp [execOp, heq, resolve, invoke, builtin, hx', hy', Builtin.min_, Builtin.min2]
      · simp at h3
    · simp at he
  case h_11 x y at_ heq =>
    split at he
    · rename_i vx vy h1 h2
      obtain ⟨h3, rfl⟩ := pureM_some he
      have ex := opd_sound hr h1
      have ey := opd_sound hr h2
      unfold evMinMax at h3
      split at h3
      · simp only [ret, Option.some.injEq, Prod.mk.injEq] at h3
        obtain ⟨_, rfl⟩ := h3
        generalize hx' : a.eval x = x' at ex
        generalize hy' : a.eval y = y' at ey
        cases ex; cases ey
        refine opOk_pure g ?_ (.int _ _)
        simp [execOp, heq, resolve, invoke, builtin, hx', hy', Builtin.max_, Builtin.max2]
      · simp at h3
    · simp at he
  case h_12 => exact hpure _ rfl he

end
end Go.AX
