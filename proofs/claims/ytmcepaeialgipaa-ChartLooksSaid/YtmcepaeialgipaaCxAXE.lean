/- Functions of the library's without a body, on abstract values. -/
import Derived.Test.YtmcepaeialgipaaCxAX10
import Derived.KernelRfl
namespace Go.AX

/-- A function of the library's without a body. -/
def AExt (P : Program) (k : FuncId) (args : List Value) (v : Value) : Prop :=
  ∀ (E : Env) (w : World) (args' : List Value), RepL E args args' → ∃ v', (callFunc k ⟨args'⟩).run P w = .ok (.value v') w ∧ Rep E v v'

/-- Where a byte stands first; below 0: nowhere. -/
def indexOf (c : UInt8) : Nat → List UInt8 → Int
  | _, [] => -1
  | i, b :: l => if b = c then (i : Int) else indexOf c (i + 1) l

def isExtern (P : Program) (k : FuncId) (name : String) : Bool :=
  match P.funcs[k]? with
  | some fn => fn.body.isNone && fn.name == name && fn.origin == ""
  | none => false

theorem isExtern_run {P : Program} {k : FuncId} {name : String} (h : isExtern P k name = true) {e : Array Value → Sem Value} (h1 : (name == "runtime.NumGoroutine") = false)
    (h2 : Extern.allNextRows.lookup name = none) (h2' : Extern.allNextRows.lookup "" = none) (h3 : ∀ ts ps rs, ((Extern.allGenericRows.lookup name).map (fun f => f ts ps rs) <|> (Extern.allTypedRows.lookup name).map (fun f => f ps rs) <|> Extern.allRows.lookup name) = some e) (args : Array Value) (w : World) :
    (callFunc k args).run P w = ((e args).run P w).andThen fun v w' => .ok (.value v) w' := by
  unfold isExtern at h
  split at h
  · rename_i fn hf
    simp only [Bool.and_eq_true, beq_iff_eq] at h
    obtain ⟨⟨hb, hn⟩, ho⟩ := h
    have e1 : Extern.findNext fn = none := by
      unfold Extern.findNext
      simp only [hn, ho, h2, h2']
      rfl
    have e2 : Extern.find fn = some e := by
      unfold Extern.find
      simp only [hn]
      rw [h3]
      rfl
    simp only [callFunc, Sem.run_bind, run_program, Result.andThen_ok, hf, hn]
    rw [if_neg (by rw [h1]; simp), if_pos hb]
    simp only [Sem.run_bind, run_mark, Result.andThen_ok, e1, e2]
    cases (e args).run P w <;> rfl
  · simp at h

theorem find_congr {α : Type} {p q : α → Bool} : ∀ {l : List α}, (∀ x ∈ l, p x = q x) → l.find? p = l.find? q
  | [], _ => rfl
  | x :: l, h => by
    rw [List.find?_cons, List.find?_cons, h x (List.mem_cons_self ..), find_congr (fun y hy => h y (List.mem_cons_of_mem _ hy))]

theorem indexOf_find (c : UInt8) : ∀ (l : List UInt8) (i : Nat), indexOf c i l = match (List.range' i l.length).find? (fun j => l[j - i]! == c) with | some j => (j : Int) | none => -1
  | [], i => rfl
  | b :: l, i => by
    simp only [indexOf, List.length_cons, List.range'_succ]
    by_cases hb : b = c
    · subst hb
      rw [if_pos rfl, List.find?_cons_of_pos (by simp)]
    · rw [if_neg hb, List.find?_cons_of_neg (by simpa using hb), indexOf_find c l (i + 1)]
      have : (List.range' (i + 1) l.length).find? (fun j => l[j - (i + 1)]! == c) = (List.range' (i + 1) l.length).find? (fun j => (b :: l)[j - i]! == c) := by
        apply find_congr
        intro j hj
        rw [List.mem_range'_1] at hj
        rw [show j - i = (j - (i + 1)) + 1 by omega]
        simp
      rw [this]

def evExt (P : Program) (k : FuncId) (args : List Value) : Option Value :=
  match args with
  | [.string s, .int .u8 n] =>
    if isExtern P k "internal/bytealg.IndexByteString" then some (.int .i64 (indexOf (UInt8.ofNat n.toNat) 0 s.data.toList)) else none
  | _ => none

theorem evExt_sound {P : Program} {k : FuncId} {args : List Value} {v : Value} (h : evExt P k args = some v) : AExt P k args v := by
  unfold evExt at h
  split at h
  · rename_i s n
    split at h
    · rename_i hk
      simp only [Option.some.injEq] at h
      subst h
      intro E w args' hr
      cases hr with
      | cons _ a1 _ l1 r1 t1 =>
        cases t1 with
        | cons _ a2 _ l2 r2 t2 =>
          cases t2
          cases r1; cases r2
          refine ⟨_, ?_, .int _ _⟩
          rw [isExtern_run (P := P) hk (e := Extern.BytealgIndexByte.indexByte) (by kernel_rfl) (by kernel_rfl) (by kernel_rfl) (fun _ _ _ => by kernel_rfl)]
          have hb : (List.range s.size).find? (fun i => s[i]! == UInt8.ofNat n.toNat) = (List.range' 0 s.data.toList.length).find? (fun j => s.data.toList[j - 0]! == UInt8.ofNat n.toNat) := by
            have hl : s.data.toList.length = s.size := Array.length_toList
            rw [hl, List.range_eq_range']
            apply find_congr
            intro j hj
            rw [List.mem_range'_1] at hj
            have h1 : s[j]! = s.data.toList[j]! := by
              rw [getElem!_pos s j (by omega), getElem!_pos s.data.toList j (by omega)]
              rfl
            rw [h1]; rfl
          have hidx := indexOf_find (UInt8.ofNat n.toNat) s.data.toList 0
          have hix : Extern.BytealgIndexByte.indexByte ⟨[.string s, .int .u8 n]⟩ = (match (List.range s.size).find? (fun i => s[i]! == UInt8.ofNat n.toNat) with | some i => pure (goInt i) | none => pure (goInt (-1)) : Sem Value) := rfl
          rw [hix, hidx, ← hb]
          cases (List.range s.size).find? (fun i => s[i]! == UInt8.ofNat n.toNat) <;> rfl
    · simp at h
  · simp at h

end Go.AX
