/- The operations that leave the heap alone, all of them in one function, and its soundness. -/
import Derived.Test.YtmcepaeialgipaaCxAX2
namespace Go.AX
set_option linter.unusedSimpArgs false
set_option linter.unusedVariables false

def evPick (hint : Hint) (c a b : Value) : PRes :=
  match c with
  | .bool t =>
    match hint with
    | .bool true => some ([t = true], a)
    | .bool false => some ([t = false], b)
    | _ =>
      match a, b with
      | .bool x, .bool y => ret (.bool (cond t x y))
      | a, b => match t with
        | true => ret a
        | false => ret b
  | _ => none

def evNil (x : Value) : PRes :=
  match x with
  | .pointer (some a) => ret (.pointer (some a))
  | _ => none

def evUn (op : UnOp) (x : Value) : PRes :=
  match op, x with
  | .neg, .int k n => ret (.int k (k.wrap (0 - n)))
  | .xor, .int k n => ret (.int k (ibits .xor k (if k.signed then -1 else k.max) n))
  | .not, .bool b => ret (.bool (!b))
  | _, _ => none

def evConv (P : Program) (s d : TypeId) (x : Value) : PRes :=
  match P.underlying s, P.underlying d, x with
  | some _, some (.int k), .int _ n => ret (.int k (k.wrap n))
  | some _, some .string, .string b => ret (.string b)
  | _, _, _ => none

def evField (P : Program) (t : TypeId) (x : Value) (f : Nat) : PRes :=
  match P.underlying t, x with
  | some (.struct fs), .agg ⟨cs⟩ =>
    match fs[f]? with
    | some fd =>
      match P.underlying fd.type, sizeT P fd.type with
      | some d, some n =>
        if isAggD d then ret (.agg ⟨(cs.drop fd.offset).take n⟩)
        else (cs[fd.offset]?).map fun v => ([], v)
      | _, _ => none
    | none => none
  | _, _ => none

def evFieldAddr (P : Program) (t : TypeId) (x : Value) (f : Nat) : PRes :=
  match P.underlying t, x with
  | some (.struct fs), .pointer (some ⟨i, o, none⟩) =>
    match fs[f]? with
    | some fd =>
      match sizeT P fd.type with
      | some n => if n = 0 then none else ret (.pointer (some ⟨i, o + fd.offset, none⟩))
      | none => none
    | none => none
  | _, _ => none

def evIndexAddr (P : Program) (t : TypeId) (x i : Value) : PRes :=
  match i, P.underlying t, x with
  | .int _ k, some (.array len e), .pointer (some ⟨b, o, none⟩) =>
    (sizeT P e).map fun n => (bs [decide (0 ≤ k ∧ k < len)], .pointer (some ⟨b, o + k.toNat * n, none⟩))
  | .int _ k, some (.slice e), .slice (some ⟨b, o, none⟩) len _ =>
    (sizeT P e).map fun n => (bs [decide (0 ≤ k ∧ k < len)], .pointer (some ⟨b, o + k.toNat * n, none⟩))
  | _, _, _ => none

def byteAt (s : ByteArray) (i : Int) : Int := ((s.data.toList.getD i.toNat 0).toNat : Int)

def evIndex (P : Program) (hint : Hint) (t : TypeId) (x i : Value) : PRes :=
  match i, P.underlying t, x with
  | .int _ k, some (.array len e), .agg ⟨cs⟩ =>
    match P.underlying e, sizeT P e with
    | some d, some n =>
      match isAggD d, hint with
      | true, .cells l => some ([D (0 ≤ k ∧ k < len), (cs.drop (k.toNat * n)).take n = l], .agg ⟨l⟩)
      | true, _ => some (bs [decide (0 ≤ k ∧ k < len)], .agg ⟨(cs.drop (k.toNat * n)).take n⟩)
      | false, .val v => some ([D (0 ≤ k ∧ k < len), cs[k.toNat * n]? = some v], v)
      | false, _ => (cs[k.toNat * n]?).map fun v => (bs [decide (0 ≤ k ∧ k < len)], v)
    | _, _ => none
  | .int _ k, some .string, .string s => some (bs [decide (0 ≤ k ∧ k < s.size)], .int .u8 (byteAt s k))
  | _, _, _ => none

def evExtract (x : Value) (i : Nat) : PRes :=
  match x with
  | .tuple ⟨c :: d :: cs⟩ => ((c :: d :: cs)[i]?).map fun v => ([], v)
  | _ => none

def optInt : Option Value → Option (Option Int)
  | none => some none
  | some (.int _ n) => some (some n)
  | _ => none

def evSliceS (s : ByteArray) (lo hi : Option Int) : PRes :=
  let l := (lo.getD 0)
  let h := (hi.getD s.size)
  some (bs [decide (0 ≤ l ∧ l ≤ h), decide (h ≤ s.size)], .string (s.extract l.toNat h.toNat))

/-- An address in a slice of which i and o are told: whether its capacity is known. -/
def evSliceL (i o n c size : Nat) (lo hi mx : Option Int) : PRes :=
  let l := (lo.getD 0)
  let h := (hi.getD n)
  match mx with
  | none =>
    if c = UNK then some (bs [decide (0 ≤ l ∧ l ≤ h), decide (h ≤ n)], .slice (some ⟨i, o + l.toNat * size, none⟩) (h - l).toNat UNR)
    else if c = UNR then some (bs [decide (0 ≤ l ∧ l ≤ h), decide (h ≤ n)], .slice (some ⟨i, o + l.toNat * size, none⟩) (h - l).toNat UNR)
    else some (bs [decide (0 ≤ l ∧ l ≤ h), decide (h ≤ n)], .slice (some ⟨i, o + l.toNat * size, none⟩) (h - l).toNat (c - l.toNat))
  | some m => some (bs [decide (0 ≤ l ∧ l ≤ h), decide (h ≤ m), decide (m ≤ n), decide ((m - l).toNat < UNK), decide (hi ≠ none)], .slice (some ⟨i, o + l.toNat * size, none⟩) (h - l).toNat (m - l).toNat)

def szOf (h : AHeap) (i : Nat) : Option Nat :=
  match h[i]? with
  | some (.cells _ _ sz) | some (.row _ _ sz) | some (.ro _ sz) => some sz
  | _ => none

def evSlice (P : Program) (hp : AHeap) (t : TypeId) (x : Value) (lo hi mx : Option Value) : PRes :=
  match P.underlying t, x, optInt lo, optInt hi, optInt mx with
  | some .string, .string s, some l, some h, some none => evSliceS s l h
  | some (.slice e), .slice (some ⟨i, o, none⟩) n c, some l, some h, some m =>
    match sizeT P e, szOf hp i with
    | some size, some sz => if sz = size then evSliceL i o n c size l h m else none
    | _, _ => none
  | some (.slice e), .slice none 0 0, some l, some h, some m => (sizeT P e).map fun _ => (bs [decide (l.getD 0 = 0), decide (h.getD 0 = 0), decide (m.getD 0 = 0), decide (m ≠ none → h ≠ none)], .slice none 0 0)
  | _, _, _, _, _ => none

section
variable {P : Program} {E : Env}

theorem run_sizeOf {t : TypeId} {n : Nat} (h : sizeT P t = some n) (w : World) : (sizeOf t).run P w = .ok n w := by
  obtain ⟨i, hi, rfl⟩ := Option.map_eq_some_iff.1 h
  simp [sizeOf, typeInfo, hi]

theorem run_isAgg {t : TypeId} {d : TypeDesc} (h : P.underlying t = some d) (w : World) : (isAgg t).run P w = .ok (isAggD d) w := by
  simp only [isAgg, Sem.run_bind, run_underlying h, Result.andThen_ok]
  cases d <;> rfl

theorem evPick_sound {hint : Hint} {c a b c' a' b' : Value} {obs : List Prop} {v : Value} (w : World) (h : evPick hint c a b = some (obs, v)) (ho : AllP obs)
    (hc : Rep E c c') (ha : Rep E a a') (hb : Rep E b b') : ∃ v', ((do pure (if ← asBool c' then a' else b') : Sem Value)).run P w = .ok v' w ∧ Rep E v v' := by
  unfold evPick at h
  split at h
  · rename_i t
    cases hc
    split at h
    · simp only [Option.some.injEq, Prod.mk.injEq] at h; obtain ⟨rfl, rfl⟩ := h
      have := ho.1; subst this
      exact ⟨a', by simp [asBool], ha⟩
    · simp only [Option.some.injEq, Prod.mk.injEq] at h; obtain ⟨rfl, rfl⟩ := h
      have := ho.1; subst this
      exact ⟨b', by simp [asBool], hb⟩
    · split at h
      · simp only [ret, Option.some.injEq, Prod.mk.injEq] at h; obtain ⟨rfl, rfl⟩ := h
        cases ha; cases hb
        cases t
        · exact ⟨_, by simp [asBool], .bool _⟩
        · exact ⟨_, by simp [asBool], .bool _⟩
      · split at h <;> simp only [ret, Option.some.injEq, Prod.mk.injEq] at h <;> obtain ⟨rfl, rfl⟩ := h
        · exact ⟨a', by simp [asBool], ha⟩
        · exact ⟨b', by simp [asBool], hb⟩
  · simp at h

theorem evUn_sound {op : UnOp} {x x' v : Value} {obs : List Prop} (w : World) (h : evUn op x = some (obs, v)) (hx : Rep E x x') :
    (Op.unary op x').run P w = .ok v w ∧ Rep E v v := by
  unfold evUn at h
  split at h <;> simp only [ret, Option.some.injEq, Prod.mk.injEq, reduceCtorEq] at h <;> obtain ⟨_, rfl⟩ := h <;> cases hx
  · exact ⟨by simp [Op.unary, Op.intArith], .int _ _⟩
  · exact ⟨by simp [Op.unary, Op.intBits, ibits], .int _ _⟩
  · exact ⟨by simp [Op.unary], .bool _⟩

theorem evConv_sound {s d : TypeId} {x x' v : Value} {obs : List Prop} (w : World) (h : evConv P s d x = some (obs, v)) (hx : Rep E x x') :
    (convert s d x').run P w = .ok v w ∧ Rep E v v := by
  unfold evConv at h
  split at h <;> simp only [ret, Option.some.injEq, Prod.mk.injEq, reduceCtorEq] at h <;> obtain ⟨e1, rfl⟩ := h <;> clear e1 <;> cases hx
  · rename_i ds k n h1 h2
    refine ⟨?_, .int _ _⟩
    simp only [convert, Sem.run_bind, run_underlying h1, run_underlying h2, Result.andThen_ok]
    rfl
  · rename_i h1 h2
    refine ⟨?_, .str _⟩
    simp only [convert, Sem.run_bind, run_underlying h1, run_underlying h2, Result.andThen_ok]
    rfl

theorem part_sound {e : TypeId} {d : TypeDesc} {n off : Nat} {cs cs' : List Value} (w : World) (hd : P.underlying e = some d) (hn : sizeT P e = some n) (hc : RepL E cs cs') {v : Value}
    (hv : if isAggD d = true then v = .agg ⟨(cs.drop off).take n⟩ else cs[off]? = some v) : ∃ v', (part e ⟨cs'⟩ off).run P w = .ok v' w ∧ Rep E v v' := by
  by_cases hg : isAggD d = true
  · rw [if_pos hg] at hv
    subst hv
    refine ⟨.agg ⟨(cs'.drop off).take n⟩, ?_, .agg _ _ ((hc.drop off).take n)⟩
    simp only [part, Sem.run_bind, run_isAgg hd, Result.andThen_ok, hg, if_true, run_sizeOf hn, Sem.run_pure]
    congr 2
    apply Array.ext'
    simp [Array.toList_extract, List.extract_eq_take_drop]
  · rw [if_neg hg] at hv
    obtain ⟨v', h1, h2⟩ := hc.get hv
    refine ⟨v', ?_, h2⟩
    simp [part, run_isAgg hd, hg, h1]

theorem evField_sound {t : TypeId} {x x' v : Value} {f : Nat} {obs : List Prop} (w : World) (h : evField P t x f = some (obs, v)) (hx : Rep E x x') :
    ∃ v', (Instr.field t x' f).run P w = .ok v' w ∧ Rep E v v' := by
  unfold evField at h
  split at h
  · rename_i fs cs hu
    split at h
    · rename_i fd hf
      split at h
      · rename_i d n hd hn
        cases hx with
        | agg _ cs' hc =>
          have key := part_sound (P := P) (E := E) (e := fd.type) (n := n) (off := fd.offset) w hd hn hc (v := v) (by
            split at h
            · rename_i hg
              simp only [ret, Option.some.injEq, Prod.mk.injEq] at h
              rw [if_pos hg]; exact h.2.symm
            · rename_i hg
              simp only [Option.map_eq_some_iff, Prod.mk.injEq] at h
              obtain ⟨u, h1, _, rfl⟩ := h
              rw [if_neg hg]; exact h1)
          obtain ⟨v', h1, h2⟩ := key
          refine ⟨v', ?_, h2⟩
          simp only [Instr.field, Sem.run_bind, run_underlying hu, Result.andThen_ok, hf, asAgg, Sem.run_pure, h1]
      · simp at h
    · simp at h
  · simp at h

theorem Addr.add_none (b o n : Nat) : (⟨b, o, none⟩ : Addr).add n = ⟨b, o + n, none⟩ := by
  unfold Addr.add
  split
  · rename_i h; subst h; rfl
  · rfl

theorem evFieldAddr_sound {t : TypeId} {x x' v : Value} {f : Nat} {obs : List Prop} (w : World) (h : evFieldAddr P t x f = some (obs, v)) (hx : Rep E x x') :
    ∃ v', (Instr.fieldAt t x' f).run P w = .ok v' w ∧ Rep E v v' := by
  unfold evFieldAddr at h
  split at h
  · rename_i fs i o hu
    split at h
    · rename_i fd hf
      split at h
      · rename_i n hn
        split at h
        · simp at h
        · rename_i hn0
          simp only [ret, Option.some.injEq, Prod.mk.injEq] at h
          obtain ⟨_, rfl⟩ := h
          cases hx with
          | ptr _ _ hi =>
            refine ⟨_, ?_, .ptr i (o + fd.offset) hi⟩
            simp only [Instr.fieldAt, Sem.run_bind, run_underlying hu, Result.andThen_ok, hf, Instr.sureAddr, Sem.run_pure, fieldPlace, run_sizeOf hn, if_neg hn0, Addr.add_none, Nat.add_assoc]
      · simp at h
    · simp at h
  · simp at h

theorem evIndexAddr_sound {t : TypeId} {x x' i i' v : Value} {obs : List Prop} (w : World) (h : evIndexAddr P t x i = some (obs, v)) (ho : AllP obs) (hx : Rep E x x') (hi : Rep E i i') :
    ∃ v', (Instr.indexAt t x' i').run P w = .ok v' w ∧ Rep E v v' := by
  unfold evIndexAddr at h
  split at h
  · rename_i k len e b o hu
    simp only [Option.map_eq_some_iff, Prod.mk.injEq] at h
    obtain ⟨n, hn, rfl, rfl⟩ := h
    cases hx with
    | ptr _ _ hb =>
      cases hi
      have hk := D_iff.1 (bs_all ho).1
      refine ⟨_, ?_, .ptr b (o + k.toNat * n) hb⟩
      simp only [Instr.indexAt, asIntOf, Sem.run_bind, Sem.run_pure, run_underlying hu, Result.andThen_ok, Instr.sureAddr, if_pos hk, run_sizeOf hn, Addr.add_none, Nat.add_assoc]
  · rename_i k e b o len c hu
    simp only [Option.map_eq_some_iff, Prod.mk.injEq] at h
    obtain ⟨n, hn, rfl, rfl⟩ := h
    have hk := D_iff.1 (bs_all ho).1
    have key : ∃ c', x' = .slice (some ⟨E.blk b, E.off b + o, none⟩) len c' ∧ b < E.n := by
      cases hx with
      | slX _ _ _ _ a' hb ha hn hc => exact ⟨c, by rw [ha (by omega)], hb⟩
      | slU _ _ c' hb h0 hn hz => exact ⟨c', rfl, hb⟩
      | slE _ hb => omega
      | slR _ _ _ c' a' hb ha hn => exact ⟨c', by rw [ha (by omega)], hb⟩
    obtain ⟨c', rfl, hb⟩ := key
    cases hi
    refine ⟨_, ?_, .ptr b (o + k.toNat * n) hb⟩
    simp only [Instr.indexAt, asIntOf, Sem.run_bind, Sem.run_pure, run_underlying hu, Result.andThen_ok, if_pos hk, run_sizeOf hn, Addr.add_none, Nat.add_assoc]
  · simp at h

theorem byteAt_get {s : ByteArray} {k : Int} (h0 : 0 ≤ k) (h1 : k < s.size) : ∃ b : UInt8, s[k.toNat]? = some b ∧ byteAt s k = (b.toNat : Int) := by
  have hl : k.toNat < s.data.toList.length := by
    have : s.data.toList.length = s.size := Array.length_toList
    omega
  refine ⟨s.data.toList[k.toNat], ?_, ?_⟩
  · have hs : k.toNat < s.size := by omega
    rw [getElem?_pos s k.toNat hs]
    rfl
  · simp [byteAt, List.getD, List.getElem?_eq_getElem hl]

theorem evIndex_sound {hint : Hint} {t : TypeId} {x x' i i' v : Value} {obs : List Prop} (w : World) (h : evIndex P hint t x i = some (obs, v)) (ho : AllP obs) (hx : Rep E x x') (hi : Rep E i i') :
    ∃ v', (Instr.index t x' i').run P w = .ok v' w ∧ Rep E v v' := by
  unfold evIndex at h
  split at h
  · rename_i k len e cs hu
    cases hi
    cases hx with
    | agg _ cs' hc =>
      split at h
      · rename_i d n hd hn
        have key : ∀ {u : Value}, (0 ≤ k ∧ k < len) → (if isAggD d = true then u = .agg ⟨(cs.drop (k.toNat * n)).take n⟩ else cs[k.toNat * n]? = some u) →
            ∃ v', (Instr.index t (.agg ⟨cs'⟩) (.int ‹IntKind› k)).run P w = .ok v' w ∧ Rep E u v' := by
          intro u hk hu'
          obtain ⟨v', h1, h2⟩ := part_sound (P := P) (E := E) (e := e) w hd hn hc hu'
          refine ⟨v', ?_, h2⟩
          simp only [Instr.index, asIntOf, Sem.run_bind, Sem.run_pure, run_underlying hu, Result.andThen_ok, if_pos hk, run_sizeOf hn, h1]
        split at h
        · rename_i l hg
          simp only [Option.some.injEq, Prod.mk.injEq] at h
          obtain ⟨rfl, rfl⟩ := h
          exact key (D_iff.1 ho.1) (by rw [if_pos hg, ho.2.1])
        · rename_i hg _
          simp only [Option.some.injEq, Prod.mk.injEq] at h
          obtain ⟨rfl, rfl⟩ := h
          exact key (D_iff.1 (bs_all ho).1) (by rw [if_pos hg])
        · rename_i u hg
          simp only [Option.some.injEq, Prod.mk.injEq] at h
          obtain ⟨rfl, rfl⟩ := h
          exact key (D_iff.1 ho.1) (by rw [if_neg (by rw [hg]; exact Bool.false_ne_true), ho.2.1])
        · rename_i hg _
          simp only [Option.map_eq_some_iff, Prod.mk.injEq] at h
          obtain ⟨u, h1, rfl, rfl⟩ := h
          exact key (D_iff.1 (bs_all ho).1) (by rw [if_neg (by rw [hg]; exact Bool.false_ne_true), h1])
      · simp at h
  · rename_i k s hu
    cases hi
    cases hx
    simp only [Option.some.injEq, Prod.mk.injEq] at h
    obtain ⟨rfl, rfl⟩ := h
    have hk := D_iff.1 (bs_all ho).1
    obtain ⟨b, h1, h2⟩ := byteAt_get hk.1 hk.2
    refine ⟨_, ?_, .int _ _⟩
    simp only [Instr.index, asIntOf, Sem.run_bind, Sem.run_pure, run_underlying hu, Result.andThen_ok, if_pos hk.1, h1, h2]
  · simp at h

theorem evExtract_sound {x x' v : Value} {i : Nat} {obs : List Prop} (w : World) (h : evExtract x i = some (obs, v)) (hx : Rep E x x') :
    ∃ v', (Instr.extract x' i).run P w = .ok v' w ∧ Rep E v v' := by
  unfold evExtract at h
  split at h
  · simp only [Option.map_eq_some_iff, Prod.mk.injEq] at h
    obtain ⟨u, h1, rfl, rfl⟩ := h
    cases hx with
    | tuple _ cs' hc =>
      obtain ⟨v', h2, h3⟩ := hc.get h1
      exact ⟨v', by simp [Instr.extract, h2], h3⟩
  · simp at h

end
end Go.AX
