/- Part 6 of 6 of the proof of: ErpsOwns holds for every input, without conditions -/
import Derived.Test.YtbjjohonfbdcmaaGreatP5
import Derived.Shelf.Strings.Repeat
import Derived.Test.YtbjjohonfbdcmaaGreatProg
import Derived.Test.YtbjjohonfbdcmaaGreatChecked
import Derived.Test.YtbjjohonfbdcmaaGreatRows
namespace Go.Proofs.Field
open Go Go.AX Go.Proofs
set_option maxRecDepth 1000000
set_option linter.unusedVariables false
set_option linter.unusedSimpArgs false
noncomputable def headRun (r : FRes) : Option (List Prop × Value × AObj) :=
  match r with
  | some (ob, v, o :: _, _) =>
    match okIds (fun i => decide (i < 1)) v with
    | true => some (ob, v, o)
    | false => none
  | _ => none

theorem runHead {P : Program} {k : FuncId} {args : List Value} {o o' : AObj} {v : Value} (n : Nat) (scr : Script) {ob : List Prop} (ho : AllP ob) (hb : bareO o' = true)
    (he : headRun (evFn P n k args [o] scr) = some (ob, v, o')) : AEq P k args [o] v [o'] := by
  unfold headRun at he
  split at he
  · rename_i ob1 v1 o1 rest s1 hr
    split at he
    · rename_i hv
      simp only [Option.some.injEq, Prod.mk.injEq] at he
      obtain ⟨rfl, rfl, rfl⟩ := he
      have t := evFn_sound hr ho
      exact AEq.keep (h1 := [o1]) (g := rest) t rfl hv (by
        simp only [List.all_cons, List.all_nil, Bool.and_true]
        cases o1 with
        | mp es =>
          refine List.all_eq_true.2 fun x hx => ?_
          have := List.all_eq_true.1 hb x hx
          rw [Bool.and_eq_true] at this ⊢
          exact ⟨okIds_mono (fun _ h => Bool.noConfusion h) this.1, okIds_mono (fun _ h => Bool.noConfusion h) this.2⟩
        | gone => rfl
        | cells vs e sz => exact List.all_eq_true.2 fun v hv => okIds_mono (fun _ h => Bool.noConfusion h) (List.all_eq_true.1 hb v hv)
        | row vs e sz => exact List.all_eq_true.2 fun v hv => okIds_mono (fun _ h => Bool.noConfusion h) (List.all_eq_true.1 hb v hv)
        | ro vs sz => exact List.all_eq_true.2 fun v hv => okIds_mono (fun _ h => Bool.noConfusion h) (List.all_eq_true.1 hb v hv))
    · simp at he
  · simp at he

section
variable {L : List (Int × Int)}

theorem packRun (hlen : L.length < 2 ^ 30) (hr : ∀ p ∈ L, 0 ≤ p.2 ∧ p.2 < 2 ^ 64) :
    AEq Tryz.prog 70 [.slice (some ⟨0, 0, none⟩) L.length UNR] [.ro (pv L) 2] (.tuple ⟨[.string (pack L).1, .int .i64 (pack L).2]⟩) [.ro (pv L) 2] := by
  cases hall : L.all okPart with
  | false =>
    have e : pack L = (⟨#[]⟩, 4) := by unfold pack; rw [hall]; rfl
    rw [e]
    refine runHead 400 [.codeG [0, 1] [0] [4, 10, 11, 12] .ret badTs [.ro (pv L) 2]] (o_ (pv_bare L) (o_ (packLoop_bad hlen hr hall) o0)) (pv_bare L) ?_
    kernel_rfl
  | true =>
    by_cases hm : (packN L).2 % 8 = 0
    · have e : pack L = (bstr (wb (packN L).1 (packN L).2), 0) := by unfold pack; rw [hall, hm]; rfl
      rw [e]
      have hloop := packLoop_ok hlen hr hall
      cases hB : wb (packN L).1 (packN L).2 with
      | nil =>
        rw [hB] at hloop
        refine runHead 400 [.codeG [0, 1] [0] [4, 10, 11, 12] (.exit 0) (Tm.told 61 [(4, .pointer (some ⟨1, 0, none⟩))]) (outHp L [] (packN L).2), .is 54 (.int .i64 0)]
          (o_ (pv_bare L) (o_ hloop (o_ (show Value.int .i64 (Int.tmod ((packN L).2 : Int) 8) = .int .i64 0 by rw [tmod8, hm]; rfl) o0))) (pv_bare L) ?_
        kernel_rfl
      | cons b0 B =>
        rw [hB] at hloop
        refine runHead 400 [.codeG [0, 1] [0] [4, 10, 11, 12] (.exit 0) (Tm.told 61 [(4, .pointer (some ⟨1, 0, none⟩))]) (outHp L (b0 :: B) (packN L).2), .is 54 (.int .i64 0), .hint 60 (.str (bstr (b0 :: B)))]
          (o_ (pv_bare L) (o_ hloop (o_ (show Value.int .i64 (Int.tmod ((packN L).2 : Int) 8) = .int .i64 0 by rw [tmod8, hm]; rfl)
          (o_ (D_iff.2 (show 0 < (b0 :: B).length by simp)) (o_ (D_iff.2 (show (((bv (b0 :: B)).drop 0).take (b0 :: B).length).length = (b0 :: B).length by simp [bv]))
          (o_ (show ∃ ns : List Int, ((bv (b0 :: B)).drop 0).take (b0 :: B).length = ns.map (Value.int .u8) ∧ bstr (b0 :: B) = bstr ns from ⟨b0 :: B, by rw [List.drop_zero]; show (bv (b0 :: B)).take _ = bv (b0 :: B); rw [List.take_of_length_le]; simp [bv], rfl⟩) o0)))))) (pv_bare L) ?_
        kernel_rfl
    · have e : pack L = (⟨#[]⟩, 3) := by
        unfold pack; rw [hall]
        have : ((packN L).2 % 8 == 0) = false := by rw [beq_eq_false_iff_ne]; exact hm
        rw [this]; rfl
      rw [e]
      have hloop := packLoop_ok hlen hr hall
      have hne : (((packN L).2 % 8 : Nat) : Int) ≠ 0 := by omega
      cases hB : wb (packN L).1 (packN L).2 with
      | nil =>
        rw [hB] at hloop
        refine runHead 400 [.codeG [0, 1] [0] [4, 10, 11, 12] (.exit 0) (Tm.told 61 [(4, .pointer (some ⟨1, 0, none⟩))]) (outHp L [] (packN L).2), .is 54 (.int .i64 (((packN L).2 % 8 : Nat) : Int)), .is 55 (.bool true)]
          (o_ (pv_bare L) (o_ hloop (o_ (show Value.int .i64 (Int.tmod ((packN L).2 : Int) 8) = .int .i64 _ by rw [tmod8]) (o_ (show Value.bool (!decide ((((packN L).2 % 8 : Nat) : Int) = 0)) = .bool true by rw [decide_eq_false hne]; rfl) o0)))) (pv_bare L) ?_
        kernel_rfl
      | cons b0 B =>
        rw [hB] at hloop
        refine runHead 400 [.codeG [0, 1] [0] [4, 10, 11, 12] (.exit 0) (Tm.told 61 [(4, .pointer (some ⟨1, 0, none⟩))]) (outHp L (b0 :: B) (packN L).2), .is 54 (.int .i64 (((packN L).2 % 8 : Nat) : Int)), .is 55 (.bool true)]
          (o_ (pv_bare L) (o_ hloop (o_ (show Value.int .i64 (Int.tmod ((packN L).2 : Int) 8) = .int .i64 _ by rw [tmod8]) (o_ (show Value.bool (!decide ((((packN L).2 % 8 : Nat) : Int) = 0)) = .bool true by rw [decide_eq_false hne]; rfl) o0)))) (pv_bare L) ?_
        kernel_rfl
end

theorem AEq.weak {P : Program} {k : FuncId} {args args1 : List Value} {h h' : AHeap} {v : Value} (t : AEq P k args h v h') (hr : ∀ E l, RepL E args1 l → RepL E args l) : AEq P k args1 h v h' :=
  fun E w args' g ra => t E w args' g (hr E args' ra)

theorem rep_unr {E : Env} {i n c : Nat} {x : Value} (h : Rep E (.slice (some ⟨i, 0, none⟩) n c) x) : Rep E (.slice (some ⟨i, 0, none⟩) n UNR) x := by
  cases h with
  | slX _ _ _ _ _ hi ha hn hc => exact .slR _ _ _ _ _ hi ha hn
  | slU _ _ _ hi h0 hn hz => exact .slR _ _ _ _ _ hi (fun _ => rfl) hn
  | slE _ hi => exact .slR _ _ _ _ _ hi (fun h => absurd h (Nat.lt_irrefl 0)) (Nat.le_refl 0)
  | slR _ _ _ _ _ hi ha hn => exact .slR _ _ _ _ _ hi ha hn

theorem packOn {L : List (Int × Int)} (hlen : L.length < 2 ^ 30) (hr : ∀ p ∈ L, 0 ≤ p.2 ∧ p.2 < 2 ^ 64) (i c : Nat) (o : AObj) (ho : lends (.ro (pv L) 2) o) :
    AOn Tryz.prog 70 [.slice (some ⟨i, 0, none⟩) L.length c] [(i, o)] (.tuple ⟨[.string (pack L).1, .int .i64 (pack L).2]⟩) [(i, o)] := by
  intro H hH
  have hset : setL H [(i, o)] = H := by
    show H.set i o = H
    obtain ⟨hl, he⟩ := List.getElem?_eq_some_iff.1 hH.1
    rw [← he, List.set_getElem_self]
  rw [hset]
  have hpv : rnO (fun _ => i) (.ro (pv L) 2) = .ro (pv L) 2 := by
    show AObj.ro ((pv L).map (rnV fun _ => i)) 2 = .ro (pv L) 2
    have : (pv L).map (rnV fun _ => i) = (pv L).map id := List.map_congr_left fun v hv => rnV_bare (List.all_eq_true.1 (pv_bare L) v hv)
    rw [this, List.map_id]
  have hok : ([AObj.ro (pv L) 2].all (okObj fun i => decide (i < 1))) = true := by
    simp only [List.all_cons, List.all_nil, Bool.and_true]
    exact List.all_eq_true.2 fun v hv => okIds_mono (fun _ h => Bool.noConfusion h) (List.all_eq_true.1 (pv_bare L) v hv)
  have t := (packRun hlen hr).at (fun _ => i) H (fun a b ha hb _ => by simp only [List.length_cons, List.length_nil] at ha hb; omega)
    (fun j o' hj => by
      cases j with
      | zero =>
        simp only [List.getElem?_cons_zero, Option.some.injEq] at hj
        subst hj
        exact ⟨o, hH.1, by rw [hpv]; exact ho⟩
      | succ j => simp at hj)
    hok rfl rfl hok
    (fun j o' hj h => by
      cases j with
      | zero =>
        simp only [List.getElem?_cons_zero, Option.some.injEq] at hj
        subst hj
        exact h _ rfl
      | succ j => simp at hj)
    (Nat.le_refl _)
  refine AEq.weak (args := [.slice (some ⟨i, 0, none⟩) L.length UNR]) ?_ (fun E l h => by
    cases h with
    | cons _ _ _ _ h t => exact .cons _ _ _ _ (rep_unr h) t)
  have hm : mergeH (fun _ => i) H [AObj.ro (pv L) 2] [AObj.ro (pv L) 2] = H := by simp [mergeH, putBack]
  rw [hm] at t
  exact t
end Go.Proofs.Field

namespace Go.Proofs.Field
open Go Go.AX Go.Proofs
set_option maxRecDepth 1000000
set_option linter.unusedVariables false
set_option linter.unusedSimpArgs false
def packS (L : List (Int × Int)) : ByteArray := bstr (wb (packN L).1 (packN L).2)

theorem packS_size (L : List (Int × Int)) : (packS L).size = ((packN L).2 + 7) / 8 := by
  have : (packS L).size = (wb (packN L).1 (packN L).2).length := by
    show ((wb (packN L).1 (packN L).2).map fun n => UInt8.ofNat n.toNat).length = _
    rw [List.length_map]
  rw [this, wb_length]

def sumW : List Int → Nat
  | [] => 0
  | w :: l => w.toNat + sumW l
theorem packN_snd (L : List (Int × Int)) : (packN L).2 = sumW (L.map Prod.fst) := by
  have key : ∀ (L : List (Int × Int)) (s : Nat × Nat), (L.foldl addP s).2 = s.2 + sumW (L.map Prod.fst) := by
    intro L
    induction L with
    | nil => intro s; rfl
    | cons p L ih => intro s; rw [List.foldl_cons, ih]; show s.2 + p.1.toNat + _ = s.2 + (p.1.toNat + _); omega
  rw [packN, key]; simp
theorem packS_len (L : List (Int × Int)) (ws : List Int) (hw : L.map Prod.fst = ws) (k : Nat) (hk : decide (sumW ws = 8 * k) = true) : (packS L).size = k := by
  rw [packS_size, packN_snd, hw, of_decide_eq_true hk]; omega

structure PartsOk (L : List (Int × Int)) : Prop where
  all : L.all okPart = true
  rng : ∀ p ∈ L, 0 ≤ p.2 ∧ p.2 < 2 ^ 64

theorem partsNil : PartsOk [] := ⟨rfl, fun p h => by simp at h⟩
theorem partsCons {w v b : Int} {L : List (Int × Int)} (hw : decide (1 ≤ w ∧ w ≤ 64) = true) (hb : b = 2 ^ w.toNat) (h0 : 0 ≤ v) (h1 : v < b) (t : PartsOk L) : PartsOk ((w, v) :: L) := by
  rw [decide_eq_true_eq] at hw
  have hp : (2 : Int) ^ w.toNat ≤ 2 ^ 64 := by
    have : (2 : Nat) ^ w.toNat ≤ 2 ^ 64 := Nat.pow_le_pow_right (by omega) (by omega)
    have h2 : ((2 ^ w.toNat : Nat) : Int) ≤ ((2 ^ 64 : Nat) : Int) := Int.ofNat_le.2 this
    simpa using h2
  refine ⟨?_, fun p hm => ?_⟩
  · rw [List.all_cons, t.all, Bool.and_true]
    unfold okPart
    simp only [Bool.and_eq_true, Bool.or_eq_true, decide_eq_true_eq]
    refine ⟨hw, .inr ?_⟩
    subst hb
    have : (v.toNat : Int) < ((2 ^ w.toNat : Nat) : Int) := by
      rw [Int.toNat_of_nonneg h0]; simpa using h1
    exact Int.ofNat_lt.1 this
  · rcases List.mem_cons.1 hm with rfl | h
    · exact ⟨h0, by subst hb; exact Int.lt_of_lt_of_le h1 hp⟩
    · exact t.rng p h

theorem packOn_ok {L : List (Int × Int)} (n : Nat) (hn : L.length = n) (hlen : decide (n < 2 ^ 30) = true) (hL : PartsOk L) (ws : List Int) (hw : L.map Prod.fst = ws) (k : Nat) (hk : decide (sumW ws = 8 * k) = true) (i c : Nat) (o : AObj) (ho : lends (.ro (pv L) 2) o) :
    AOn Tryz.prog 70 [.slice (some ⟨i, 0, none⟩) n c] [(i, o)] (.tuple ⟨[.string (packS L), .int .i64 0]⟩) [(i, o)] := by
  subst hn
  have t := packOn (L := L) (of_decide_eq_true hlen) hL.rng i c o ho
  have hm : (packN L).2 % 8 = 0 := by rw [packN_snd, hw, of_decide_eq_true hk]; omega
  have e : pack L = (packS L, 0) := by unfold pack; rw [hL.all, hm]; rfl
  rw [e] at t
  exact t

theorem packOn_lit {L : List (Int × Int)} {args : List Value} {old new : List (Nat × AObj)} (s : ByteArray) (h : packS L = s) (t : AOn Tryz.prog 70 args old (.tuple ⟨[.string (packS L), .int .i64 0]⟩) new) :
    AOn Tryz.prog 70 args old (.tuple ⟨[.string s, .int .i64 0]⟩) new := by subst h; exact t
theorem lendsCells {vs us : List Value} {e sz : Nat} (r : List Value) (h : us = vs ++ r) : lends (.ro vs sz) (.cells us e sz) := ⟨rfl, r, h⟩
theorem lendsRow {vs us : List Value} {e sz : Nat} (r : List Value) (h : us = vs ++ r) : lends (.ro vs sz) (.row us e sz) := ⟨rfl, r, h⟩
theorem app_size {a b : ByteArray} {n m k : Nat} (ha : a.size = n) (hb : b.size = m) (hk : n + m = k) : (a ++ b).size = k := by
  rw [ByteArray.size_append, ha, hb, hk]
theorem size_is {s : ByteArray} {n : Nat} (h : s.size = n) : Value.int .i64 (s.size : Int) = .int .i64 (n : Int) := by rw [h]
theorem szle {a b : ByteArray} {n m : Nat} (ha : a.size = n) (hb : b.size = m) (h : decide (n + m ≤ 9223372036854775807) = true) : decide (a.size + b.size ≤ 9223372036854775807) = true := by rw [ha, hb]; exact h
end Go.Proofs.Field

namespace Go.Proofs
open Go.Shelf
def Tryz.lays105_ren : Go.Shelf.Ren := ⟨fun | 105 => 119 | 212 => 128 | 99 => 129 | 165 => 130 | 166 => 131 | 170 => 132 | 169 => 133 | 263 => 137 | 264 => 138 | 206 => 139 | 240 => 140 | 241 => 141 | 276 => 142 | 277 => 143 | n => n, fun | 9 => 9 | 3 => 3 | 4 => 4 | 20 => 20 | 0 => 0 | 46 => 201 | 109 => 208 | 5 => 5 | 72 => 213 | 76 => 217 | 51 => 176 | 146 => 222 | 53 => 26 | 148 => 224 | 70 => 211 | 37 => 181 | 75 => 216 | 127 => 226 | 164 => 227 | 80 => 132 | n => n, fun | n => n⟩
theorem Tryz.lays105 : Go.Proofs.Lays.n105 Tryz.prog Tryz.lays105_ren := {
  mixed := by kernel_rfl
  f99 := Tryz.func129.trans (congrArg some (by kernel_rfl))
  f105 := Tryz.func119.trans (congrArg some (by kernel_rfl))
  f165 := Tryz.func130.trans (congrArg some (by kernel_rfl))
  f166 := Tryz.func131.trans (congrArg some (by kernel_rfl))
  f169 := Tryz.func133.trans (congrArg some (by kernel_rfl))
  f170 := Tryz.func132.trans (congrArg some (by kernel_rfl))
  f206 := Tryz.func139.trans (congrArg some (by kernel_rfl))
  f212 := Tryz.func128.trans (congrArg some (by kernel_rfl))
  f240 := Tryz.func140.trans (congrArg some (by kernel_rfl))
  f241 := Tryz.func141.trans (congrArg some (by kernel_rfl))
  f263 := Tryz.func137.trans (congrArg some (by kernel_rfl))
  f264 := Tryz.func138.trans (congrArg some (by kernel_rfl))
  f276 := Tryz.func142.trans (congrArg some (by kernel_rfl))
  f277 := Tryz.func143.trans (congrArg some (by kernel_rfl))
  t0 := Tryz.underlying0
  a0 := Tryz.isAgg0
  z0 := Tryz.sizeOf0
  v0 := Tryz.zeroValue0
  t3 := Tryz.underlying3
  a3 := Tryz.isAgg3
  z3 := Tryz.sizeOf3
  v3 := Tryz.zeroValue3
  t4 := Tryz.underlying4
  a4 := Tryz.isAgg4
  z4 := Tryz.sizeOf4
  v4 := Tryz.zeroValue4
  t5 := Tryz.underlying5
  a5 := Tryz.isAgg5
  z5 := Tryz.sizeOf5
  v5 := Tryz.zeroValue5
  t9 := Tryz.underlying9
  a9 := Tryz.isAgg9
  z9 := Tryz.sizeOf9
  v9 := Tryz.zeroValue9
  t20 := Tryz.underlying20
  a20 := Tryz.isAgg20
  z20 := Tryz.sizeOf20
  v20 := Tryz.zeroValue20
  t37 := Tryz.underlying181
  a37 := Tryz.isAgg181
  z37 := Tryz.sizeOf181
  v37 := Tryz.zeroValue181
  t46 := Tryz.underlying201
  a46 := Tryz.isAgg201
  z46 := Tryz.sizeOf201
  v46 := Tryz.zeroValue201
  t51 := Tryz.underlying176
  a51 := Tryz.isAgg176
  z51 := Tryz.sizeOf176
  v51 := Tryz.zeroValue176
  t53 := Tryz.underlying26
  a53 := Tryz.isAgg26
  z53 := Tryz.sizeOf26
  v53 := Tryz.zeroValue26
  t70 := Tryz.underlying211
  a70 := Tryz.isAgg211
  z70 := Tryz.sizeOf211
  v70 := Tryz.zeroValue211
  t72 := Tryz.underlying213
  a72 := Tryz.isAgg213
  z72 := Tryz.sizeOf213
  v72 := Tryz.zeroValue213
  t75 := Tryz.underlying216
  a75 := Tryz.isAgg216
  z75 := Tryz.sizeOf216
  v75 := Tryz.zeroValue216
  t76 := Tryz.underlying217
  a76 := Tryz.isAgg217
  z76 := Tryz.sizeOf217
  v76 := Tryz.zeroValue217
  t109 := Tryz.underlying208
  a109 := Tryz.isAgg208
  z109 := Tryz.sizeOf208
  v109 := Tryz.zeroValue208
  t127 := Tryz.underlying226
  a127 := Tryz.isAgg226
  z127 := Tryz.sizeOf226
  v127 := Tryz.zeroValue226
  t146 := Tryz.underlying222
  a146 := Tryz.isAgg222
  z146 := Tryz.sizeOf222
  v146 := Tryz.zeroValue222
  t148 := Tryz.underlying224
  a148 := Tryz.isAgg224
  z148 := Tryz.sizeOf224
  v148 := Tryz.zeroValue224
  t164 := Tryz.underlying227
  a164 := Tryz.isAgg227
  z164 := Tryz.sizeOf227
  v164 := Tryz.zeroValue227 }
theorem Tryz.Builder_Extra_105 : Builder.Extra Tryz.prog Tryz.lays105_ren := {
  sizeBuilder := by kernel_rfl
  liesBuilder := by kernel_rfl
  t5 := Tryz.underlying5
  a5 := Tryz.isAgg5
  z5 := Tryz.sizeOf5
  v5 := Tryz.zeroValue5
  infoByte := by kernel_rfl
  cellsByte := by kernel_rfl
  sizeByte := by kernel_rfl
  neB5 := by decide }
end Go.Proofs

namespace Go.Proofs.E17
open Go Go.AX Go.Proofs
set_option linter.unusedVariables false
set_option linter.unusedSimpArgs false
def rep (s : ByteArray) (c : Nat) : ByteArray := ⟨(Lib.repeatL s.data.toList c).toArray⟩
theorem strings_Repeat (s : ByteArray) (c : Nat) (hc : decide (c ≤ 140737488355328) = true) (hlen : decide (s.size * c ≤ 140737488355328) = true) : AOn Tryz.prog 119 [.string s, .int .i64 (c : Int)] [] (.string (rep s c)) [] :=
  AOn.ofCalls (fun w => Any.strings_Repeat Tryz.lays105 Tryz.Builder_Extra_105 s c w (by have := of_decide_eq_true hc; omega) (of_decide_eq_true hlen))
    (fun E l h => by cases h with | cons _ _ _ _ h t => cases h; cases t with | cons _ _ _ _ h t => cases h; cases t; rfl) (fun E => .str _)
end Go.Proofs.E17

namespace Go.Proofs.E17
open Go Go.AX Go.Proofs
set_option maxRecDepth 1000000
set_option linter.unusedVariables false
set_option linter.unusedSimpArgs false

def rapsWrong (m : Msg) : Int :=
  bif (m.req == 7) || ((m.req == 11) || (m.req == 13)) then
    bif m.block then
      3
    else
      bif (!(decide (m.node ≤ 281474976710655))) || ((ibits .and .u64 (ishr .u64 m.node 40) 1) == 1) then
        4
      else
        0
  else
    bif m.req == 0 then
      bif (!(decide (m.node ≤ 281474976710655))) || ((ibits .and .u64 (ishr .u64 m.node 40) 1) == 1) then
        4
      else
        0
    else
      8
def rapsWrong_c (r : Int) : Dir := .callL (.int .i64 r) []
def rapsWrong_G (m : Msg) (r : Int) : Prop := AOn Tryz.prog 68 [.agg ⟨Msg.enc m⟩] [] (.int .i64 r) []
theorem rapsWrong_eq (m : Msg) : rapsWrong_G m (rapsWrong m) := by
  unfold rapsWrong
  refine byOr ?_
  apply bi <;> intro hb0
  · apply bi <;> intro hb1
    · refine on0 400 [.br true, .br true] (o_ hb0 (o_ hb1 o0)) ?_ rfl; kernel_rfl
    · refine byOr ?_
      apply bi <;> intro hb2
      · refine on0 400 [.br true, .br false, .inl, .gd 18 true, .lit] (o_ hb0 (o_ hb1 (o_ hb2 o0))) ?_ rfl; kernel_rfl
      · apply bi <;> intro hb3
        · refine on0 400 [.br true, .br false, .inl, .gd 18 false, .inl, .inl, .gd 5 true, .br true] (o_ hb0 (o_ hb1 (o_ hb2 (o_ (show (decide (m.node ≤ 281474976710655)) = true from by first | omega | (simp only [zor, zand, zorf, zandf, znt, znf, zeq, zne, zeqf, znef, zd, zdf] at *; omega)) (o_ hb3 o0))))) ?_ rfl; kernel_rfl
        · refine on0 400 [.br true, .br false, .inl, .gd 18 false, .inl, .inl, .gd 5 true, .br false] (o_ hb0 (o_ hb1 (o_ hb2 (o_ (show (decide (m.node ≤ 281474976710655)) = true from by first | omega | (simp only [zor, zand, zorf, zandf, znt, znf, zeq, zne, zeqf, znef, zd, zdf] at *; omega)) (o_ hb3 o0))))) ?_ rfl; kernel_rfl
  · refine byOr ?_
    apply bi <;> intro hb1
    · apply bi <;> intro hb2
      · refine on0 400 [.br false, .br true, .br true, .br true] (o_ hb0 (o_ hb1 (o_ hb1 (o_ hb2 o0)))) ?_ rfl; kernel_rfl
      · refine byOr ?_
        apply bi <;> intro hb3
        · refine on0 400 [.br false, .br true, .br true, .br false, .inl, .gd 18 true, .lit] (o_ hb0 (o_ hb1 (o_ hb1 (o_ hb2 (o_ hb3 o0))))) ?_ rfl; kernel_rfl
        · apply bi <;> intro hb4
          · refine on0 400 [.br false, .br true, .br true, .br false, .inl, .gd 18 false, .inl, .inl, .gd 5 true, .br true] (o_ hb0 (o_ hb1 (o_ hb1 (o_ hb2 (o_ hb3 (o_ (show (decide (m.node ≤ 281474976710655)) = true from by first | omega | (simp only [zor, zand, zorf, zandf, znt, znf, zeq, zne, zeqf, znef, zd, zdf] at *; omega)) (o_ hb4 o0))))))) ?_ rfl; kernel_rfl
          · refine on0 400 [.br false, .br true, .br true, .br false, .inl, .gd 18 false, .inl, .inl, .gd 5 true, .br false] (o_ hb0 (o_ hb1 (o_ hb1 (o_ hb2 (o_ hb3 (o_ (show (decide (m.node ≤ 281474976710655)) = true from by first | omega | (simp only [zor, zand, zorf, zandf, znt, znf, zeq, zne, zeqf, znef, zd, zdf] at *; omega)) (o_ hb4 o0))))))) ?_ rfl; kernel_rfl
    · apply bi <;> intro hb2
      · apply bi <;> intro hb3
        · refine on0 400 [.br false, .br false, .br true, .br true] (o_ hb0 (o_ hb1 (o_ hb2 (o_ hb3 o0)))) ?_ rfl; kernel_rfl
        · refine byOr ?_
          apply bi <;> intro hb4
          · refine on0 400 [.br false, .br false, .br true, .br false, .inl, .gd 18 true, .lit] (o_ hb0 (o_ hb1 (o_ hb2 (o_ hb3 (o_ hb4 o0))))) ?_ rfl; kernel_rfl
          · apply bi <;> intro hb5
            · refine on0 400 [.br false, .br false, .br true, .br false, .inl, .gd 18 false, .inl, .inl, .gd 5 true, .br true] (o_ hb0 (o_ hb1 (o_ hb2 (o_ hb3 (o_ hb4 (o_ (show (decide (m.node ≤ 281474976710655)) = true from by first | omega | (simp only [zor, zand, zorf, zandf, znt, znf, zeq, zne, zeqf, znef, zd, zdf] at *; omega)) (o_ hb5 o0))))))) ?_ rfl; kernel_rfl
            · refine on0 400 [.br false, .br false, .br true, .br false, .inl, .gd 18 false, .inl, .inl, .gd 5 true, .br false] (o_ hb0 (o_ hb1 (o_ hb2 (o_ hb3 (o_ hb4 (o_ (show (decide (m.node ≤ 281474976710655)) = true from by first | omega | (simp only [zor, zand, zorf, zandf, znt, znf, zeq, zne, zeqf, znef, zd, zdf] at *; omega)) (o_ hb5 o0))))))) ?_ rfl; kernel_rfl
      · apply bi <;> intro hb3
        · refine byOr ?_
          apply bi <;> intro hb4
          · refine on0 400 [.br false, .br false, .br false, .br true, .inl, .gd 18 true, .lit] (o_ hb0 (o_ hb1 (o_ hb2 (o_ hb3 (o_ hb4 o0))))) ?_ rfl; kernel_rfl
          · apply bi <;> intro hb5
            · refine on0 400 [.br false, .br false, .br false, .br true, .inl, .gd 18 false, .inl, .inl, .gd 5 true, .br true] (o_ hb0 (o_ hb1 (o_ hb2 (o_ hb3 (o_ hb4 (o_ (show (decide (m.node ≤ 281474976710655)) = true from by first | omega | (simp only [zor, zand, zorf, zandf, znt, znf, zeq, zne, zeqf, znef, zd, zdf] at *; omega)) (o_ hb5 o0))))))) ?_ rfl; kernel_rfl
            · refine on0 400 [.br false, .br false, .br false, .br true, .inl, .gd 18 false, .inl, .inl, .gd 5 true, .br false] (o_ hb0 (o_ hb1 (o_ hb2 (o_ hb3 (o_ hb4 (o_ (show (decide (m.node ≤ 281474976710655)) = true from by first | omega | (simp only [zor, zand, zorf, zandf, znt, znf, zeq, zne, zeqf, znef, zd, zdf] at *; omega)) (o_ hb5 o0))))))) ?_ rfl; kernel_rfl
        · refine on0 400 [.br false, .br false, .br false, .br false] (o_ hb0 (o_ hb1 (o_ hb2 (o_ hb3 o0)))) ?_ rfl; kernel_rfl

def rapsWrong_F (m : Msg) (r : Int) : Prop := r = 0 → (m.req = 0 ∨ m.req = 7 ∨ m.req = 11 ∨ m.req = 13) ∧ m.node < 281474976710656
theorem rapsWrong_fact (m : Msg) : rapsWrong_F m (rapsWrong m) := by
  unfold rapsWrong
  repeat' (apply bi <;> intro _)
  all_goals (unfold rapsWrong_F; intro _; first | omega | (simp only [zor, zand, zorf, zandf, znt, znf, zeq, zne, zeqf, znef, zd, zdf] at *; try omega))

def rapsClose_x0 (m : Msg) (level : Int) : ByteArray := Field.packS [(4, m.req), (4, 0), (1, 1), (1, 1), (1, 1), (5, 0), (48, m.node), (64, 0), (64, 0), (64, 0)]
def rapsClose_x1 (m : Msg) (level : Int) : ByteArray := Field.packS [(3, level), (5, 1), (8, 40), (8, 0), (8, 32)]
def rapsClose_x2 (m : Msg) (level : Int) : ByteArray := Field.packS [(4, m.req), (4, 0), (1, 1), (1, 1), (1, 0), (5, 0), (48, m.node), (64, 0), (64, 0), (64, 0)]
def rapsClose_x3 (m : Msg) (level : Int) : ByteArray := Field.packS [(4, m.req), (4, 0), (1, 1), (1, 0), (1, 1), (5, 0), (48, m.node), (64, 0), (64, 0), (64, 0)]
def rapsClose_x4 (m : Msg) (level : Int) : ByteArray := Field.packS [(4, m.req), (4, 0), (1, 1), (1, 0), (1, 0), (5, 0), (48, m.node), (64, 0), (64, 0), (64, 0)]
def rapsClose_x5 (m : Msg) (level : Int) : ByteArray := Field.packS [(4, m.req), (4, 0), (1, 0), (1, 1), (1, 1), (5, 0), (48, m.node), (64, 0), (64, 0), (64, 0)]
def rapsClose_x6 (m : Msg) (level : Int) : ByteArray := Field.packS [(4, m.req), (4, 0), (1, 0), (1, 1), (1, 0), (5, 0), (48, m.node), (64, 0), (64, 0), (64, 0)]
def rapsClose_x7 (m : Msg) (level : Int) : ByteArray := Field.packS [(4, m.req), (4, 0), (1, 0), (1, 0), (1, 1), (5, 0), (48, m.node), (64, 0), (64, 0), (64, 0)]
def rapsClose_x8 (m : Msg) (level : Int) : ByteArray := Field.packS [(4, m.req), (4, 0), (1, 0), (1, 0), (1, 0), (5, 0), (48, m.node), (64, 0), (64, 0), (64, 0)]
def rapsClose (m : Msg) (level : Int) : ByteArray × Int :=
  bif decide (level > 7) then
    ((⟨#[]⟩ : ByteArray), 4)
  else
    bif (rapsWrong m) != 0 then
      ((⟨#[]⟩ : ByteArray), (rapsWrong m))
    else
      bif m.block then
        bif m.keep then
          bif m.east then
            (((rapsClose_x1 m level) ++ (rapsClose_x0 m level)) ++ (⟨#[0]⟩ : ByteArray), 0)
          else
            (((rapsClose_x1 m level) ++ (rapsClose_x2 m level)) ++ (⟨#[0]⟩ : ByteArray), 0)
        else
          bif m.east then
            (((rapsClose_x1 m level) ++ (rapsClose_x3 m level)) ++ (⟨#[0]⟩ : ByteArray), 0)
          else
            (((rapsClose_x1 m level) ++ (rapsClose_x4 m level)) ++ (⟨#[0]⟩ : ByteArray), 0)
      else
        bif m.keep then
          bif m.east then
            (((rapsClose_x1 m level) ++ (rapsClose_x5 m level)) ++ (⟨#[0]⟩ : ByteArray), 0)
          else
            (((rapsClose_x1 m level) ++ (rapsClose_x6 m level)) ++ (⟨#[0]⟩ : ByteArray), 0)
        else
          bif m.east then
            (((rapsClose_x1 m level) ++ (rapsClose_x7 m level)) ++ (⟨#[0]⟩ : ByteArray), 0)
          else
            (((rapsClose_x1 m level) ++ (rapsClose_x8 m level)) ++ (⟨#[0]⟩ : ByteArray), 0)
def rapsClose_c (r : ByteArray × Int) : Dir := .callL (.tuple ⟨[.string r.1, .int .i64 r.2]⟩) []
def rapsClose_G (m : Msg) (level : Int) (r : ByteArray × Int) : Prop := AOn Tryz.prog 33 [.agg ⟨Msg.enc m⟩, .int .u8 level] [] (.tuple ⟨[.string r.1, .int .i64 r.2]⟩) []
theorem rapsClose_eq (m : Msg) (level : Int) (hn : 0 ≤ m.node) (hl : 0 ≤ level) : rapsClose_G m level (rapsClose m level) := by
  unfold rapsClose
  apply bi <;> intro hb0
  · refine on0 400 [.br true] (o_ hb0 o0) ?_ rfl; kernel_rfl
  · apply bi <;> intro hb1
    · refine on0 400 [.br false, rapsWrong_c (rapsWrong m), .br true] (o_ hb0 (o_ (rapsWrong_eq m) (o_ hb1 o0))) ?_ rfl; kernel_rfl
    · apply bi <;> intro hb2
      · apply bi <;> intro hb3
        · apply bi <;> intro hb4
          · refine on0 400 [.br false, rapsWrong_c (rapsWrong m), .br false, .is 19 (.int .u64 m.req), .heap, .heap, .inl, .lit, .br true, .lit, .br true, .lit, .br true, .lit, .heap, .callL (.tuple ⟨[.string (rapsClose_x0 m level), .int .i64 0]⟩) [(14, .row [.int .i64 4, .int .u64 m.req, .int .i64 4, .int .u64 0, .int .i64 1, .int .u64 1, .int .i64 1, .int .u64 1, .int .i64 1, .int .u64 1, .int .i64 5, .int .u64 0, .int .i64 48, .int .u64 m.node, .int .i64 64, .int .u64 0, .int .i64 64, .int .u64 0, .int .i64 64, .int .u64 0] 136 2)], .lit, .inl, .is 11 (.int .u64 level), .callL (.tuple ⟨[.string (rapsClose_x1 m level), .int .i64 0]⟩) [(16, .cells [.int .i64 3, .int .u64 level, .int .i64 5, .int .u64 1, .int .i64 8, .int .u64 40, .int .i64 8, .int .u64 0, .int .i64 8, .int .u64 32] 136 2)], .lit, .is 39 (.int .i64 32), .lit, .owe 46, .owe 47] (o_ hb0 (o_ (rapsWrong_eq m) (o_ hb1 (o_ (wr_u64 (n := m.req) (by have := (show (rapsWrong m) = 0 → (m.req = 0 ∨ m.req = 7 ∨ m.req = 11 ∨ m.req = 13) ∧ m.node < 281474976710656 from rapsWrong_fact m); first | omega | (simp only [zor, zand, zorf, zandf, znt, znf, zeq, zne, zeqf, znef, zd, zdf] at *; omega)) (by have := (show (rapsWrong m) = 0 → (m.req = 0 ∨ m.req = 7 ∨ m.req = 11 ∨ m.req = 13) ∧ m.node < 281474976710656 from rapsWrong_fact m); first | omega | (simp only [zor, zand, zorf, zandf, znt, znf, zeq, zne, zeqf, znef, zd, zdf] at *; omega))) (o_ (hsame [.cells (Msg.enc m) 40 5]) (o_ (hsame [.cells (Msg.enc m) 40 5, .gone]) (o_ hb2 (o_ hb3 (o_ hb4 (o_ (hsame [.cells (Msg.enc m) 40 5, .gone, .cells [.bool m.block, .bool m.keep, .bool m.east] 4 1]) (o_ (Field.packOn_ok (L := [(4, m.req), (4, 0), (1, 1), (1, 1), (1, 1), (5, 0), (48, m.node), (64, 0), (64, 0), (64, 0)]) 10 rfl rfl (Field.partsCons (w := 4) (v := m.req) (b := 16) rfl rfl (by have := (show (rapsWrong m) = 0 → (m.req = 0 ∨ m.req = 7 ∨ m.req = 11 ∨ m.req = 13) ∧ m.node < 281474976710656 from rapsWrong_fact m); first | omega | (simp only [zor, zand, zorf, zandf, znt, znf, zeq, zne, zeqf, znef, zd, zdf] at *; omega)) (by have := (show (rapsWrong m) = 0 → (m.req = 0 ∨ m.req = 7 ∨ m.req = 11 ∨ m.req = 13) ∧ m.node < 281474976710656 from rapsWrong_fact m); first | omega | (simp only [zor, zand, zorf, zandf, znt, znf, zeq, zne, zeqf, znef, zd, zdf] at *; omega)) (Field.partsCons (w := 4) (v := 0) (b := 16) rfl rfl (by decide) (by decide) (Field.partsCons (w := 1) (v := 1) (b := 2) rfl rfl (by decide) (by decide) (Field.partsCons (w := 1) (v := 1) (b := 2) rfl rfl (by decide) (by decide) (Field.partsCons (w := 1) (v := 1) (b := 2) rfl rfl (by decide) (by decide) (Field.partsCons (w := 5) (v := 0) (b := 32) rfl rfl (by decide) (by decide) (Field.partsCons (w := 48) (v := m.node) (b := 281474976710656) rfl rfl (by have := (show (rapsWrong m) = 0 → (m.req = 0 ∨ m.req = 7 ∨ m.req = 11 ∨ m.req = 13) ∧ m.node < 281474976710656 from rapsWrong_fact m); first | omega | (simp only [zor, zand, zorf, zandf, znt, znf, zeq, zne, zeqf, znef, zd, zdf] at *; omega)) (by have := (show (rapsWrong m) = 0 → (m.req = 0 ∨ m.req = 7 ∨ m.req = 11 ∨ m.req = 13) ∧ m.node < 281474976710656 from rapsWrong_fact m); first | omega | (simp only [zor, zand, zorf, zandf, znt, znf, zeq, zne, zeqf, znef, zd, zdf] at *; omega)) (Field.partsCons (w := 64) (v := 0) (b := 18446744073709551616) rfl rfl (by decide) (by decide) (Field.partsCons (w := 64) (v := 0) (b := 18446744073709551616) rfl rfl (by decide) (by decide) (Field.partsCons (w := 64) (v := 0) (b := 18446744073709551616) rfl rfl (by decide) (by decide) Field.partsNil)))))))))) [4, 4, 1, 1, 1, 5, 48, 64, 64, 64] rfl 32 rfl 14 UNK (.row [.int .i64 4, .int .u64 m.req, .int .i64 4, .int .u64 0, .int .i64 1, .int .u64 1, .int .i64 1, .int .u64 1, .int .i64 1, .int .u64 1, .int .i64 5, .int .u64 0, .int .i64 48, .int .u64 m.node, .int .i64 64, .int .u64 0, .int .i64 64, .int .u64 0, .int .i64 64, .int .u64 0] 136 2) (Field.lendsRow [] rfl)) (o_ (wr_u64 (n := level) (by have := (show (rapsWrong m) = 0 → (m.req = 0 ∨ m.req = 7 ∨ m.req = 11 ∨ m.req = 13) ∧ m.node < 281474976710656 from rapsWrong_fact m); first | omega | (simp only [zor, zand, zorf, zandf, znt, znf, zeq, zne, zeqf, znef, zd, zdf] at *; omega)) (by have := (show (rapsWrong m) = 0 → (m.req = 0 ∨ m.req = 7 ∨ m.req = 11 ∨ m.req = 13) ∧ m.node < 281474976710656 from rapsWrong_fact m); first | omega | (simp only [zor, zand, zorf, zandf, znt, znf, zeq, zne, zeqf, znef, zd, zdf] at *; omega))) (o_ (Field.packOn_ok (L := [(3, level), (5, 1), (8, 40), (8, 0), (8, 32)]) 5 rfl rfl (Field.partsCons (w := 3) (v := level) (b := 8) rfl rfl (by have := (show (rapsWrong m) = 0 → (m.req = 0 ∨ m.req = 7 ∨ m.req = 11 ∨ m.req = 13) ∧ m.node < 281474976710656 from rapsWrong_fact m); first | omega | (simp only [zor, zand, zorf, zandf, znt, znf, zeq, zne, zeqf, znef, zd, zdf] at *; omega)) (by have := (show (rapsWrong m) = 0 → (m.req = 0 ∨ m.req = 7 ∨ m.req = 11 ∨ m.req = 13) ∧ m.node < 281474976710656 from rapsWrong_fact m); first | omega | (simp only [zor, zand, zorf, zandf, znt, znf, zeq, zne, zeqf, znef, zd, zdf] at *; omega)) (Field.partsCons (w := 5) (v := 1) (b := 32) rfl rfl (by decide) (by decide) (Field.partsCons (w := 8) (v := 40) (b := 256) rfl rfl (by decide) (by decide) (Field.partsCons (w := 8) (v := 0) (b := 256) rfl rfl (by decide) (by decide) (Field.partsCons (w := 8) (v := 32) (b := 256) rfl rfl (by decide) (by decide) Field.partsNil))))) [3, 5, 8, 8, 8] rfl 4 rfl 16 5 (.cells [.int .i64 3, .int .u64 level, .int .i64 5, .int .u64 1, .int .i64 8, .int .u64 40, .int .i64 8, .int .u64 0, .int .i64 8, .int .u64 32] 136 2) (Field.lendsCells [] rfl)) (o_ (show Value.int .i64 ((((rapsClose_x0 m level)).size : Nat) : Int) = .int .i64 32 from Field.size_is (show ((rapsClose_x0 m level)).size = 32 from Field.packS_len [(4, m.req), (4, 0), (1, 1), (1, 1), (1, 1), (5, 0), (48, m.node), (64, 0), (64, 0), (64, 0)] [4, 4, 1, 1, 1, 5, 48, 64, 64, 64] rfl 32 rfl)) (o_ (bs1 (b0 := decide (((rapsClose_x1 m level)).size + ((rapsClose_x0 m level)).size ≤ 9223372036854775807)) (Field.szle (show ((rapsClose_x1 m level)).size = 4 from Field.packS_len [(3, level), (5, 1), (8, 40), (8, 0), (8, 32)] [3, 5, 8, 8, 8] rfl 4 rfl) (show ((rapsClose_x0 m level)).size = 32 from Field.packS_len [(4, m.req), (4, 0), (1, 1), (1, 1), (1, 1), (5, 0), (48, m.node), (64, 0), (64, 0), (64, 0)] [4, 4, 1, 1, 1, 5, 48, 64, 64, 64] rfl 32 rfl) rfl)) (o_ (bs1 (b0 := decide ((((rapsClose_x1 m level) ++ (rapsClose_x0 m level))).size + ((⟨#[0]⟩ : ByteArray)).size ≤ 9223372036854775807)) (Field.szle (Field.app_size (show ((rapsClose_x1 m level)).size = 4 from Field.packS_len [(3, level), (5, 1), (8, 40), (8, 0), (8, 32)] [3, 5, 8, 8, 8] rfl 4 rfl) (show ((rapsClose_x0 m level)).size = 32 from Field.packS_len [(4, m.req), (4, 0), (1, 1), (1, 1), (1, 1), (5, 0), (48, m.node), (64, 0), (64, 0), (64, 0)] [4, 4, 1, 1, 1, 5, 48, 64, 64, 64] rfl 32 rfl) (k := 36) rfl) (rfl : (⟨#[0]⟩ : ByteArray).size = 1) rfl)) o0)))))))))))))))) ?_ rfl; kernel_rfl
          · refine on0 400 [.br false, rapsWrong_c (rapsWrong m), .br false, .is 19 (.int .u64 m.req), .heap, .heap, .inl, .lit, .br true, .lit, .br true, .lit, .br false, .lit, .heap, .callL (.tuple ⟨[.string (rapsClose_x2 m level), .int .i64 0]⟩) [(14, .row [.int .i64 4, .int .u64 m.req, .int .i64 4, .int .u64 0, .int .i64 1, .int .u64 1, .int .i64 1, .int .u64 1, .int .i64 1, .int .u64 0, .int .i64 5, .int .u64 0, .int .i64 48, .int .u64 m.node, .int .i64 64, .int .u64 0, .int .i64 64, .int .u64 0, .int .i64 64, .int .u64 0] 136 2)], .lit, .inl, .is 11 (.int .u64 level), .callL (.tuple ⟨[.string (rapsClose_x1 m level), .int .i64 0]⟩) [(16, .cells [.int .i64 3, .int .u64 level, .int .i64 5, .int .u64 1, .int .i64 8, .int .u64 40, .int .i64 8, .int .u64 0, .int .i64 8, .int .u64 32] 136 2)], .lit, .is 39 (.int .i64 32), .lit, .owe 46, .owe 47] (o_ hb0 (o_ (rapsWrong_eq m) (o_ hb1 (o_ (wr_u64 (n := m.req) (by have := (show (rapsWrong m) = 0 → (m.req = 0 ∨ m.req = 7 ∨ m.req = 11 ∨ m.req = 13) ∧ m.node < 281474976710656 from rapsWrong_fact m); first | omega | (simp only [zor, zand, zorf, zandf, znt, znf, zeq, zne, zeqf, znef, zd, zdf] at *; omega)) (by have := (show (rapsWrong m) = 0 → (m.req = 0 ∨ m.req = 7 ∨ m.req = 11 ∨ m.req = 13) ∧ m.node < 281474976710656 from rapsWrong_fact m); first | omega | (simp only [zor, zand, zorf, zandf, znt, znf, zeq, zne, zeqf, znef, zd, zdf] at *; omega))) (o_ (hsame [.cells (Msg.enc m) 40 5]) (o_ (hsame [.cells (Msg.enc m) 40 5, .gone]) (o_ hb2 (o_ hb3 (o_ hb4 (o_ (hsame [.cells (Msg.enc m) 40 5, .gone, .cells [.bool m.block, .bool m.keep, .bool m.east] 4 1]) (o_ (Field.packOn_ok (L := [(4, m.req), (4, 0), (1, 1), (1, 1), (1, 0), (5, 0), (48, m.node), (64, 0), (64, 0), (64, 0)]) 10 rfl rfl (Field.partsCons (w := 4) (v := m.req) (b := 16) rfl rfl (by have := (show (rapsWrong m) = 0 → (m.req = 0 ∨ m.req = 7 ∨ m.req = 11 ∨ m.req = 13) ∧ m.node < 281474976710656 from rapsWrong_fact m); first | omega | (simp only [zor, zand, zorf, zandf, znt, znf, zeq, zne, zeqf, znef, zd, zdf] at *; omega)) (by have := (show (rapsWrong m) = 0 → (m.req = 0 ∨ m.req = 7 ∨ m.req = 11 ∨ m.req = 13) ∧ m.node < 281474976710656 from rapsWrong_fact m); first | omega | (simp only [zor, zand, zorf, zandf, znt, znf, zeq, zne, zeqf, znef, zd, zdf] at *; omega)) (Field.partsCons (w := 4) (v := 0) (b := 16) rfl rfl (by decide) (by decide) (Field.partsCons (w := 1) (v := 1) (b := 2) rfl rfl (by decide) (by decide) (Field.partsCons (w := 1) (v := 1) (b := 2) rfl rfl (by decide) (by decide) (Field.partsCons (w := 1) (v := 0) (b := 2) rfl rfl (by decide) (by decide) (Field.partsCons (w := 5) (v := 0) (b := 32) rfl rfl (by decide) (by decide) (Field.partsCons (w := 48) (v := m.node) (b := 281474976710656) rfl rfl (by have := (show (rapsWrong m) = 0 → (m.req = 0 ∨ m.req = 7 ∨ m.req = 11 ∨ m.req = 13) ∧ m.node < 281474976710656 from rapsWrong_fact m); first | omega | (simp only [zor, zand, zorf, zandf, znt, znf, zeq, zne, zeqf, znef, zd, zdf] at *; omega)) (by have := (show (rapsWrong m) = 0 → (m.req = 0 ∨ m.req = 7 ∨ m.req = 11 ∨ m.req = 13) ∧ m.node < 281474976710656 from rapsWrong_fact m); first | omega | (simp only [zor, zand, zorf, zandf, znt, znf, zeq, zne, zeqf, znef, zd, zdf] at *; omega)) (Field.partsCons (w := 64) (v := 0) (b := 18446744073709551616) rfl rfl (by decide) (by decide) (Field.partsCons (w := 64) (v := 0) (b := 18446744073709551616) rfl rfl (by decide) (by decide) (Field.partsCons (w := 64) (v := 0) (b := 18446744073709551616) rfl rfl (by decide) (by decide) Field.partsNil)))))))))) [4, 4, 1, 1, 1, 5, 48, 64, 64, 64] rfl 32 rfl 14 UNK (.row [.int .i64 4, .int .u64 m.req, .int .i64 4, .int .u64 0, .int .i64 1, .int .u64 1, .int .i64 1, .int .u64 1, .int .i64 1, .int .u64 0, .int .i64 5, .int .u64 0, .int .i64 48, .int .u64 m.node, .int .i64 64, .int .u64 0, .int .i64 64, .int .u64 0, .int .i64 64, .int .u64 0] 136 2) (Field.lendsRow [] rfl)) (o_ (wr_u64 (n := level) (by have := (show (rapsWrong m) = 0 → (m.req = 0 ∨ m.req = 7 ∨ m.req = 11 ∨ m.req = 13) ∧ m.node < 281474976710656 from rapsWrong_fact m); first | omega | (simp only [zor, zand, zorf, zandf, znt, znf, zeq, zne, zeqf, znef, zd, zdf] at *; omega)) (by have := (show (rapsWrong m) = 0 → (m.req = 0 ∨ m.req = 7 ∨ m.req = 11 ∨ m.req = 13) ∧ m.node < 281474976710656 from rapsWrong_fact m); first | omega | (simp only [zor, zand, zorf, zandf, znt, znf, zeq, zne, zeqf, znef, zd, zdf] at *; omega))) (o_ (Field.packOn_ok (L := [(3, level), (5, 1), (8, 40), (8, 0), (8, 32)]) 5 rfl rfl (Field.partsCons (w := 3) (v := level) (b := 8) rfl rfl (by have := (show (rapsWrong m) = 0 → (m.req = 0 ∨ m.req = 7 ∨ m.req = 11 ∨ m.req = 13) ∧ m.node < 281474976710656 from rapsWrong_fact m); first | omega | (simp only [zor, zand, zorf, zandf, znt, znf, zeq, zne, zeqf, znef, zd, zdf] at *; omega)) (by have := (show (rapsWrong m) = 0 → (m.req = 0 ∨ m.req = 7 ∨ m.req = 11 ∨ m.req = 13) ∧ m.node < 281474976710656 from rapsWrong_fact m); first | omega | (simp only [zor, zand, zorf, zandf, znt, znf, zeq, zne, zeqf, znef, zd, zdf] at *; omega)) (Field.partsCons (w := 5) (v := 1) (b := 32) rfl rfl (by decide) (by decide) (Field.partsCons (w := 8) (v := 40) (b := 256) rfl rfl (by decide) (by decide) (Field.partsCons (w := 8) (v := 0) (b := 256) rfl rfl (by decide) (by decide) (Field.partsCons (w := 8) (v := 32) (b := 256) rfl rfl (by decide) (by decide) Field.partsNil))))) [3, 5, 8, 8, 8] rfl 4 rfl 16 5 (.cells [.int .i64 3, .int .u64 level, .int .i64 5, .int .u64 1, .int .i64 8, .int .u64 40, .int .i64 8, .int .u64 0, .int .i64 8, .int .u64 32] 136 2) (Field.lendsCells [] rfl)) (o_ (show Value.int .i64 ((((rapsClose_x2 m level)).size : Nat) : Int) = .int .i64 32 from Field.size_is (show ((rapsClose_x2 m level)).size = 32 from Field.packS_len [(4, m.req), (4, 0), (1, 1), (1, 1), (1, 0), (5, 0), (48, m.node), (64, 0), (64, 0), (64, 0)] [4, 4, 1, 1, 1, 5, 48, 64, 64, 64] rfl 32 rfl)) (o_ (bs1 (b0 := decide (((rapsClose_x1 m level)).size + ((rapsClose_x2 m level)).size ≤ 9223372036854775807)) (Field.szle (show ((rapsClose_x1 m level)).size = 4 from Field.packS_len [(3, level), (5, 1), (8, 40), (8, 0), (8, 32)] [3, 5, 8, 8, 8] rfl 4 rfl) (show ((rapsClose_x2 m level)).size = 32 from Field.packS_len [(4, m.req), (4, 0), (1, 1), (1, 1), (1, 0), (5, 0), (48, m.node), (64, 0), (64, 0), (64, 0)] [4, 4, 1, 1, 1, 5, 48, 64, 64, 64] rfl 32 rfl) rfl)) (o_ (bs1 (b0 := decide ((((rapsClose_x1 m level) ++ (rapsClose_x2 m level))).size + ((⟨#[0]⟩ : ByteArray)).size ≤ 9223372036854775807)) (Field.szle (Field.app_size (show ((rapsClose_x1 m level)).size = 4 from Field.packS_len [(3, level), (5, 1), (8, 40), (8, 0), (8, 32)] [3, 5, 8, 8, 8] rfl 4 rfl) (show ((rapsClose_x2 m level)).size = 32 from Field.packS_len [(4, m.req), (4, 0), (1, 1), (1, 1), (1, 0), (5, 0), (48, m.node), (64, 0), (64, 0), (64, 0)] [4, 4, 1, 1, 1, 5, 48, 64, 64, 64] rfl 32 rfl) (k := 36) rfl) (rfl : (⟨#[0]⟩ : ByteArray).size = 1) rfl)) o0)))))))))))))))) ?_ rfl; kernel_rfl
        · apply bi <;> intro hb4
          · refine on0 400 [.br false, rapsWrong_c (rapsWrong m), .br false, .is 19 (.int .u64 m.req), .heap, .heap, .inl, .lit, .br true, .lit, .br false, .lit, .br true, .lit, .heap, .callL (.tuple ⟨[.string (rapsClose_x3 m level), .int .i64 0]⟩) [(14, .row [.int .i64 4, .int .u64 m.req, .int .i64 4, .int .u64 0, .int .i64 1, .int .u64 1, .int .i64 1, .int .u64 0, .int .i64 1, .int .u64 1, .int .i64 5, .int .u64 0, .int .i64 48, .int .u64 m.node, .int .i64 64, .int .u64 0, .int .i64 64, .int .u64 0, .int .i64 64, .int .u64 0] 136 2)], .lit, .inl, .is 11 (.int .u64 level), .callL (.tuple ⟨[.string (rapsClose_x1 m level), .int .i64 0]⟩) [(16, .cells [.int .i64 3, .int .u64 level, .int .i64 5, .int .u64 1, .int .i64 8, .int .u64 40, .int .i64 8, .int .u64 0, .int .i64 8, .int .u64 32] 136 2)], .lit, .is 39 (.int .i64 32), .lit, .owe 46, .owe 47] (o_ hb0 (o_ (rapsWrong_eq m) (o_ hb1 (o_ (wr_u64 (n := m.req) (by have := (show (rapsWrong m) = 0 → (m.req = 0 ∨ m.req = 7 ∨ m.req = 11 ∨ m.req = 13) ∧ m.node < 281474976710656 from rapsWrong_fact m); first | omega | (simp only [zor, zand, zorf, zandf, znt, znf, zeq, zne, zeqf, znef, zd, zdf] at *; omega)) (by have := (show (rapsWrong m) = 0 → (m.req = 0 ∨ m.req = 7 ∨ m.req = 11 ∨ m.req = 13) ∧ m.node < 281474976710656 from rapsWrong_fact m); first | omega | (simp only [zor, zand, zorf, zandf, znt, znf, zeq, zne, zeqf, znef, zd, zdf] at *; omega))) (o_ (hsame [.cells (Msg.enc m) 40 5]) (o_ (hsame [.cells (Msg.enc m) 40 5, .gone]) (o_ hb2 (o_ hb3 (o_ hb4 (o_ (hsame [.cells (Msg.enc m) 40 5, .gone, .cells [.bool m.block, .bool m.keep, .bool m.east] 4 1]) (o_ (Field.packOn_ok (L := [(4, m.req), (4, 0), (1, 1), (1, 0), (1, 1), (5, 0), (48, m.node), (64, 0), (64, 0), (64, 0)]) 10 rfl rfl (Field.partsCons (w := 4) (v := m.req) (b := 16) rfl rfl (by have := (show (rapsWrong m) = 0 → (m.req = 0 ∨ m.req = 7 ∨ m.req = 11 ∨ m.req = 13) ∧ m.node < 281474976710656 from rapsWrong_fact m); first | omega | (simp only [zor, zand, zorf, zandf, znt, znf, zeq, zne, zeqf, znef, zd, zdf] at *; omega)) (by have := (show (rapsWrong m) = 0 → (m.req = 0 ∨ m.req = 7 ∨ m.req = 11 ∨ m.req = 13) ∧ m.node < 281474976710656 from rapsWrong_fact m); first | omega | (simp only [zor, zand, zorf, zandf, znt, znf, zeq, zne, zeqf, znef, zd, zdf] at *; omega)) (Field.partsCons (w := 4) (v := 0) (b := 16) rfl rfl (by decide) (by decide) (Field.partsCons (w := 1) (v := 1) (b := 2) rfl rfl (by decide) (by decide) (Field.partsCons (w := 1) (v := 0) (b := 2) rfl rfl (by decide) (by decide) (Field.partsCons (w := 1) (v := 1) (b := 2) rfl rfl (by decide) (by decide) (Field.partsCons (w := 5) (v := 0) (b := 32) rfl rfl (by decide) (by decide) (Field.partsCons (w := 48) (v := m.node) (b := 281474976710656) rfl rfl (by have := (show (rapsWrong m) = 0 → (m.req = 0 ∨ m.req = 7 ∨ m.req = 11 ∨ m.req = 13) ∧ m.node < 281474976710656 from rapsWrong_fact m); first | omega | (simp only [zor, zand, zorf, zandf, znt, znf, zeq, zne, zeqf, znef, zd, zdf] at *; omega)) (by have := (show (rapsWrong m) = 0 → (m.req = 0 ∨ m.req = 7 ∨ m.req = 11 ∨ m.req = 13) ∧ m.node < 281474976710656 from rapsWrong_fact m); first | omega | (simp only [zor, zand, zorf, zandf, znt, znf, zeq, zne, zeqf, znef, zd, zdf] at *; omega)) (Field.partsCons (w := 64) (v := 0) (b := 18446744073709551616) rfl rfl (by decide) (by decide) (Field.partsCons (w := 64) (v := 0) (b := 18446744073709551616) rfl rfl (by decide) (by decide) (Field.partsCons (w := 64) (v := 0) (b := 18446744073709551616) rfl rfl (by decide) (by decide) Field.partsNil)))))))))) [4, 4, 1, 1, 1, 5, 48, 64, 64, 64] rfl 32 rfl 14 UNK (.row [.int .i64 4, .int .u64 m.req, .int .i64 4, .int .u64 0, .int .i64 1, .int .u64 1, .int .i64 1, .int .u64 0, .int .i64 1, .int .u64 1, .int .i64 5, .int .u64 0, .int .i64 48, .int .u64 m.node, .int .i64 64, .int .u64 0, .int .i64 64, .int .u64 0, .int .i64 64, .int .u64 0] 136 2) (Field.lendsRow [] rfl)) (o_ (wr_u64 (n := level) (by have := (show (rapsWrong m) = 0 → (m.req = 0 ∨ m.req = 7 ∨ m.req = 11 ∨ m.req = 13) ∧ m.node < 281474976710656 from rapsWrong_fact m); first | omega | (simp only [zor, zand, zorf, zandf, znt, znf, zeq, zne, zeqf, znef, zd, zdf] at *; omega)) (by have := (show (rapsWrong m) = 0 → (m.req = 0 ∨ m.req = 7 ∨ m.req = 11 ∨ m.req = 13) ∧ m.node < 281474976710656 from rapsWrong_fact m); first | omega | (simp only [zor, zand, zorf, zandf, znt, znf, zeq, zne, zeqf, znef, zd, zdf] at *; omega))) (o_ (Field.packOn_ok (L := [(3, level), (5, 1), (8, 40), (8, 0), (8, 32)]) 5 rfl rfl (Field.partsCons (w := 3) (v := level) (b := 8) rfl rfl (by have := (show (rapsWrong m) = 0 → (m.req = 0 ∨ m.req = 7 ∨ m.req = 11 ∨ m.req = 13) ∧ m.node < 281474976710656 from rapsWrong_fact m); first | omega | (simp only [zor, zand, zorf, zandf, znt, znf, zeq, zne, zeqf, znef, zd, zdf] at *; omega)) (by have := (show (rapsWrong m) = 0 → (m.req = 0 ∨ m.req = 7 ∨ m.req = 11 ∨ m.req = 13) ∧ m.node < 281474976710656 from rapsWrong_fact m); first | omega | (simp only [zor, zand, zorf, zandf, znt, znf, zeq, zne, zeqf, znef, zd, zdf] at *; omega)) (Field.partsCons (w := 5) (v := 1) (b := 32) rfl rfl (by decide) (by decide) (Field.partsCons (w := 8) (v := 40) (b := 256) rfl rfl (by decide) (by decide) (Field.partsCons (w := 8) (v := 0) (b := 256) rfl rfl (by decide) (by decide) (Field.partsCons (w := 8) (v := 32) (b := 256) rfl rfl (by decide) (by decide) Field.partsNil))))) [3, 5, 8, 8, 8] rfl 4 rfl 16 5 (.cells [.int .i64 3, .int .u64 level, .int .i64 5, .int .u64 1, .int .i64 8, .int .u64 40, .int .i64 8, .int .u64 0, .int .i64 8, .int .u64 32] 136 2) (Field.lendsCells [] rfl)) (o_ (show Value.int .i64 ((((rapsClose_x3 m level)).size : Nat) : Int) = .int .i64 32 from Field.size_is (show ((rapsClose_x3 m level)).size = 32 from Field.packS_len [(4, m.req), (4, 0), (1, 1), (1, 0), (1, 1), (5, 0), (48, m.node), (64, 0), (64, 0), (64, 0)] [4, 4, 1, 1, 1, 5, 48, 64, 64, 64] rfl 32 rfl)) (o_ (bs1 (b0 := decide (((rapsClose_x1 m level)).size + ((rapsClose_x3 m level)).size ≤ 9223372036854775807)) (Field.szle (show ((rapsClose_x1 m level)).size = 4 from Field.packS_len [(3, level), (5, 1), (8, 40), (8, 0), (8, 32)] [3, 5, 8, 8, 8] rfl 4 rfl) (show ((rapsClose_x3 m level)).size = 32 from Field.packS_len [(4, m.req), (4, 0), (1, 1), (1, 0), (1, 1), (5, 0), (48, m.node), (64, 0), (64, 0), (64, 0)] [4, 4, 1, 1, 1, 5, 48, 64, 64, 64] rfl 32 rfl) rfl)) (o_ (bs1 (b0 := decide ((((rapsClose_x1 m level) ++ (rapsClose_x3 m level))).size + ((⟨#[0]⟩ : ByteArray)).size ≤ 9223372036854775807)) (Field.szle (Field.app_size (show ((rapsClose_x1 m level)).size = 4 from Field.packS_len [(3, level), (5, 1), (8, 40), (8, 0), (8, 32)] [3, 5, 8, 8, 8] rfl 4 rfl) (show ((rapsClose_x3 m level)).size = 32 from Field.packS_len [(4, m.req), (4, 0), (1, 1), (1, 0), (1, 1), (5, 0), (48, m.node), (64, 0), (64, 0), (64, 0)] [4, 4, 1, 1, 1, 5, 48, 64, 64, 64] rfl 32 rfl) (k := 36) rfl) (rfl : (⟨#[0]⟩ : ByteArray).size = 1) rfl)) o0)))))))))))))))) ?_ rfl; kernel_rfl
          · refine on0 400 [.br false, rapsWrong_c (rapsWrong m), .br false, .is 19 (.int .u64 m.req), .heap, .heap, .inl, .lit, .br true, .lit, .br false, .lit, .br false, .lit, .heap, .callL (.tuple ⟨[.string (rapsClose_x4 m level), .int .i64 0]⟩) [(14, .row [.int .i64 4, .int .u64 m.req, .int .i64 4, .int .u64 0, .int .i64 1, .int .u64 1, .int .i64 1, .int .u64 0, .int .i64 1, .int .u64 0, .int .i64 5, .int .u64 0, .int .i64 48, .int .u64 m.node, .int .i64 64, .int .u64 0, .int .i64 64, .int .u64 0, .int .i64 64, .int .u64 0] 136 2)], .lit, .inl, .is 11 (.int .u64 level), .callL (.tuple ⟨[.string (rapsClose_x1 m level), .int .i64 0]⟩) [(16, .cells [.int .i64 3, .int .u64 level, .int .i64 5, .int .u64 1, .int .i64 8, .int .u64 40, .int .i64 8, .int .u64 0, .int .i64 8, .int .u64 32] 136 2)], .lit, .is 39 (.int .i64 32), .lit, .owe 46, .owe 47] (o_ hb0 (o_ (rapsWrong_eq m) (o_ hb1 (o_ (wr_u64 (n := m.req) (by have := (show (rapsWrong m) = 0 → (m.req = 0 ∨ m.req = 7 ∨ m.req = 11 ∨ m.req = 13) ∧ m.node < 281474976710656 from rapsWrong_fact m); first | omega | (simp only [zor, zand, zorf, zandf, znt, znf, zeq, zne, zeqf, znef, zd, zdf] at *; omega)) (by have := (show (rapsWrong m) = 0 → (m.req = 0 ∨ m.req = 7 ∨ m.req = 11 ∨ m.req = 13) ∧ m.node < 281474976710656 from rapsWrong_fact m); first | omega | (simp only [zor, zand, zorf, zandf, znt, znf, zeq, zne, zeqf, znef, zd, zdf] at *; omega))) (o_ (hsame [.cells (Msg.enc m) 40 5]) (o_ (hsame [.cells (Msg.enc m) 40 5, .gone]) (o_ hb2 (o_ hb3 (o_ hb4 (o_ (hsame [.cells (Msg.enc m) 40 5, .gone, .cells [.bool m.block, .bool m.keep, .bool m.east] 4 1]) (o_ (Field.packOn_ok (L := [(4, m.req), (4, 0), (1, 1), (1, 0), (1, 0), (5, 0), (48, m.node), (64, 0), (64, 0), (64, 0)]) 10 rfl rfl (Field.partsCons (w := 4) (v := m.req) (b := 16) rfl rfl (by have := (show (rapsWrong m) = 0 → (m.req = 0 ∨ m.req = 7 ∨ m.req = 11 ∨ m.req = 13) ∧ m.node < 281474976710656 from rapsWrong_fact m); first | omega | (simp only [zor, zand, zorf, zandf, znt, znf, zeq, zne, zeqf, znef, zd, zdf] at *; omega)) (by have := (show (rapsWrong m) = 0 → (m.req = 0 ∨ m.req = 7 ∨ m.req = 11 ∨ m.req = 13) ∧ m.node < 281474976710656 from rapsWrong_fact m); first | omega | (simp only [zor, zand, zorf, zandf, znt, znf, zeq, zne, zeqf, znef, zd, zdf] at *; omega)) (Field.partsCons (w := 4) (v := 0) (b := 16) rfl rfl (by decide) (by decide) (Field.partsCons (w := 1) (v := 1) (b := 2) rfl rfl (by decide) (by decide) (Field.partsCons (w := 1) (v := 0) (b := 2) rfl rfl (by decide) (by decide) (Field.partsCons (w := 1) (v := 0) (b := 2) rfl rfl (by decide) (by decide) (Field.partsCons (w := 5) (v := 0) (b := 32) rfl rfl (by decide) (by decide) (Field.partsCons (w := 48) (v := m.node) (b := 281474976710656) rfl rfl (by have := (show (rapsWrong m) = 0 → (m.req = 0 ∨ m.req = 7 ∨ m.req = 11 ∨ m.req = 13) ∧ m.node < 281474976710656 from rapsWrong_fact m); first | omega | (simp only [zor, zand, zorf, zandf, znt, znf, zeq, zne, zeqf, znef, zd, zdf] at *; omega)) (by have := (show (rapsWrong m) = 0 → (m.req = 0 ∨ m.req = 7 ∨ m.req = 11 ∨ m.req = 13) ∧ m.node < 281474976710656 from rapsWrong_fact m); first | omega | (simp only [zor, zand, zorf, zandf, znt, znf, zeq, zne, zeqf, znef, zd, zdf] at *; omega)) (Field.partsCons (w := 64) (v := 0) (b := 18446744073709551616) rfl rfl (by decide) (by decide) (Field.partsCons (w := 64) (v := 0) (b := 18446744073709551616) rfl rfl (by decide) (by decide) (Field.partsCons (w := 64) (v := 0) (b := 18446744073709551616) rfl rfl (by decide) (by decide) Field.partsNil)))))))))) [4, 4, 1, 1, 1, 5, 48, 64, 64, 64] rfl 32 rfl 14 UNK (.row [.int .i64 4, .int .u64 m.req, .int .i64 4, .int .u64 0, .int .i64 1, .int .u64 1, .int .i64 1, .int .u64 0, .int .i64 1, .int .u64 0, .int .i64 5, .int .u64 0, .int .i64 48, .int .u64 m.node, .int .i64 64, .int .u64 0, .int .i64 64, .int .u64 0, .int .i64 64, .int .u64 0] 136 2) (Field.lendsRow [] rfl)) (o_ (wr_u64 (n := level) (by have := (show (rapsWrong m) = 0 → (m.req = 0 ∨ m.req = 7 ∨ m.req = 11 ∨ m.req = 13) ∧ m.node < 281474976710656 from rapsWrong_fact m); first | omega | (simp only [zor, zand, zorf, zandf, znt, znf, zeq, zne, zeqf, znef, zd, zdf] at *; omega)) (by have := (show (rapsWrong m) = 0 → (m.req = 0 ∨ m.req = 7 ∨ m.req = 11 ∨ m.req = 13) ∧ m.node < 281474976710656 from rapsWrong_fact m); first | omega | (simp only [zor, zand, zorf, zandf, znt, znf, zeq, zne, zeqf, znef, zd, zdf] at *; omega))) (o_ (Field.packOn_ok (L := [(3, level), (5, 1), (8, 40), (8, 0), (8, 32)]) 5 rfl rfl (Field.partsCons (w := 3) (v := level) (b := 8) rfl rfl (by have := (show (rapsWrong m) = 0 → (m.req = 0 ∨ m.req = 7 ∨ m.req = 11 ∨ m.req = 13) ∧ m.node < 281474976710656 from rapsWrong_fact m); first | omega | (simp only [zor, zand, zorf, zandf, znt, znf, zeq, zne, zeqf, znef, zd, zdf] at *; omega)) (by have := (show (rapsWrong m) = 0 → (m.req = 0 ∨ m.req = 7 ∨ m.req = 11 ∨ m.req = 13) ∧ m.node < 281474976710656 from rapsWrong_fact m); first | omega | (simp only [zor, zand, zorf, zandf, znt, znf, zeq, zne, zeqf, znef, zd, zdf] at *; omega)) (Field.partsCons (w := 5) (v := 1) (b := 32) rfl rfl (by decide) (by decide) (Field.partsCons (w := 8) (v := 40) (b := 256) rfl rfl (by decide) (by decide) (Field.partsCons (w := 8) (v := 0) (b := 256) rfl rfl (by decide) (by decide) (Field.partsCons (w := 8) (v := 32) (b := 256) rfl rfl (by decide) (by decide) Field.partsNil))))) [3, 5, 8, 8, 8] rfl 4 rfl 16 5 (.cells [.int .i64 3, .int .u64 level, .int .i64 5, .int .u64 1, .int .i64 8, .int .u64 40, .int .i64 8, .int .u64 0, .int .i64 8, .int .u64 32] 136 2) (Field.lendsCells [] rfl)) (o_ (show Value.int .i64 ((((rapsClose_x4 m level)).size : Nat) : Int) = .int .i64 32 from Field.size_is (show ((rapsClose_x4 m level)).size = 32 from Field.packS_len [(4, m.req), (4, 0), (1, 1), (1, 0), (1, 0), (5, 0), (48, m.node), (64, 0), (64, 0), (64, 0)] [4, 4, 1, 1, 1, 5, 48, 64, 64, 64] rfl 32 rfl)) (o_ (bs1 (b0 := decide (((rapsClose_x1 m level)).size + ((rapsClose_x4 m level)).size ≤ 9223372036854775807)) (Field.szle (show ((rapsClose_x1 m level)).size = 4 from Field.packS_len [(3, level), (5, 1), (8, 40), (8, 0), (8, 32)] [3, 5, 8, 8, 8] rfl 4 rfl) (show ((rapsClose_x4 m level)).size = 32 from Field.packS_len [(4, m.req), (4, 0), (1, 1), (1, 0), (1, 0), (5, 0), (48, m.node), (64, 0), (64, 0), (64, 0)] [4, 4, 1, 1, 1, 5, 48, 64, 64, 64] rfl 32 rfl) rfl)) (o_ (bs1 (b0 := decide ((((rapsClose_x1 m level) ++ (rapsClose_x4 m level))).size + ((⟨#[0]⟩ : ByteArray)).size ≤ 9223372036854775807)) (Field.szle (Field.app_size (show ((rapsClose_x1 m level)).size = 4 from Field.packS_len [(3, level), (5, 1), (8, 40), (8, 0), (8, 32)] [3, 5, 8, 8, 8] rfl 4 rfl) (show ((rapsClose_x4 m level)).size = 32 from Field.packS_len [(4, m.req), (4, 0), (1, 1), (1, 0), (1, 0), (5, 0), (48, m.node), (64, 0), (64, 0), (64, 0)] [4, 4, 1, 1, 1, 5, 48, 64, 64, 64] rfl 32 rfl) (k := 36) rfl) (rfl : (⟨#[0]⟩ : ByteArray).size = 1) rfl)) o0)))))))))))))))) ?_ rfl; kernel_rfl
      · apply bi <;> intro hb3
        · apply bi <;> intro hb4
          · refine on0 400 [.br false, rapsWrong_c (rapsWrong m), .br false, .is 19 (.int .u64 m.req), .heap, .heap, .inl, .lit, .br false, .lit, .br true, .lit, .br true, .lit, .heap, .callL (.tuple ⟨[.string (rapsClose_x5 m level), .int .i64 0]⟩) [(14, .row [.int .i64 4, .int .u64 m.req, .int .i64 4, .int .u64 0, .int .i64 1, .int .u64 0, .int .i64 1, .int .u64 1, .int .i64 1, .int .u64 1, .int .i64 5, .int .u64 0, .int .i64 48, .int .u64 m.node, .int .i64 64, .int .u64 0, .int .i64 64, .int .u64 0, .int .i64 64, .int .u64 0] 136 2)], .lit, .inl, .is 11 (.int .u64 level), .callL (.tuple ⟨[.string (rapsClose_x1 m level), .int .i64 0]⟩) [(16, .cells [.int .i64 3, .int .u64 level, .int .i64 5, .int .u64 1, .int .i64 8, .int .u64 40, .int .i64 8, .int .u64 0, .int .i64 8, .int .u64 32] 136 2)], .lit, .is 39 (.int .i64 32), .lit, .owe 46, .owe 47] (o_ hb0 (o_ (rapsWrong_eq m) (o_ hb1 (o_ (wr_u64 (n := m.req) (by have := (show (rapsWrong m) = 0 → (m.req = 0 ∨ m.req = 7 ∨ m.req = 11 ∨ m.req = 13) ∧ m.node < 281474976710656 from rapsWrong_fact m); first | omega | (simp only [zor, zand, zorf, zandf, znt, znf, zeq, zne, zeqf, znef, zd, zdf] at *; omega)) (by have := (show (rapsWrong m) = 0 → (m.req = 0 ∨ m.req = 7 ∨ m.req = 11 ∨ m.req = 13) ∧ m.node < 281474976710656 from rapsWrong_fact m); first | omega | (simp only [zor, zand, zorf, zandf, znt, znf, zeq, zne, zeqf, znef, zd, zdf] at *; omega))) (o_ (hsame [.cells (Msg.enc m) 40 5]) (o_ (hsame [.cells (Msg.enc m) 40 5, .gone]) (o_ hb2 (o_ hb3 (o_ hb4 (o_ (hsame [.cells (Msg.enc m) 40 5, .gone, .cells [.bool m.block, .bool m.keep, .bool m.east] 4 1]) (o_ (Field.packOn_ok (L := [(4, m.req), (4, 0), (1, 0), (1, 1), (1, 1), (5, 0), (48, m.node), (64, 0), (64, 0), (64, 0)]) 10 rfl rfl (Field.partsCons (w := 4) (v := m.req) (b := 16) rfl rfl (by have := (show (rapsWrong m) = 0 → (m.req = 0 ∨ m.req = 7 ∨ m.req = 11 ∨ m.req = 13) ∧ m.node < 281474976710656 from rapsWrong_fact m); first | omega | (simp only [zor, zand, zorf, zandf, znt, znf, zeq, zne, zeqf, znef, zd, zdf] at *; omega)) (by have := (show (rapsWrong m) = 0 → (m.req = 0 ∨ m.req = 7 ∨ m.req = 11 ∨ m.req = 13) ∧ m.node < 281474976710656 from rapsWrong_fact m); first | omega | (simp only [zor, zand, zorf, zandf, znt, znf, zeq, zne, zeqf, znef, zd, zdf] at *; omega)) (Field.partsCons (w := 4) (v := 0) (b := 16) rfl rfl (by decide) (by decide) (Field.partsCons (w := 1) (v := 0) (b := 2) rfl rfl (by decide) (by decide) (Field.partsCons (w := 1) (v := 1) (b := 2) rfl rfl (by decide) (by decide) (Field.partsCons (w := 1) (v := 1) (b := 2) rfl rfl (by decide) (by decide) (Field.partsCons (w := 5) (v := 0) (b := 32) rfl rfl (by decide) (by decide) (Field.partsCons (w := 48) (v := m.node) (b := 281474976710656) rfl rfl (by have := (show (rapsWrong m) = 0 → (m.req = 0 ∨ m.req = 7 ∨ m.req = 11 ∨ m.req = 13) ∧ m.node < 281474976710656 from rapsWrong_fact m); first | omega | (simp only [zor, zand, zorf, zandf, znt, znf, zeq, zne, zeqf, znef, zd, zdf] at *; omega)) (by have := (show (rapsWrong m) = 0 → (m.req = 0 ∨ m.req = 7 ∨ m.req = 11 ∨ m.req = 13) ∧ m.node < 281474976710656 from rapsWrong_fact m); first | omega | (simp only [zor, zand, zorf, zandf, znt, znf, zeq, zne, zeqf, znef, zd, zdf] at *; omega)) (Field.partsCons (w := 64) (v := 0) (b := 18446744073709551616) rfl rfl (by decide) (by decide) (Field.partsCons (w := 64) (v := 0) (b := 18446744073709551616) rfl rfl (by decide) (by decide) (Field.partsCons (w := 64) (v := 0) (b := 18446744073709551616) rfl rfl (by decide) (by decide) Field.partsNil)))))))))) [4, 4, 1, 1, 1, 5, 48, 64, 64, 64] rfl 32 rfl 14 UNK (.row [.int .i64 4, .int .u64 m.req, .int .i64 4, .int .u64 0, .int .i64 1, .int .u64 0, .int .i64 1, .int .u64 1, .int .i64 1, .int .u64 1, .int .i64 5, .int .u64 0, .int .i64 48, .int .u64 m.node, .int .i64 64, .int .u64 0, .int .i64 64, .int .u64 0, .int .i64 64, .int .u64 0] 136 2) (Field.lendsRow [] rfl)) (o_ (wr_u64 (n := level) (by have := (show (rapsWrong m) = 0 → (m.req = 0 ∨ m.req = 7 ∨ m.req = 11 ∨ m.req = 13) ∧ m.node < 281474976710656 from rapsWrong_fact m); first | omega | (simp only [zor, zand, zorf, zandf, znt, znf, zeq, zne, zeqf, znef, zd, zdf] at *; omega)) (by have := (show (rapsWrong m) = 0 → (m.req = 0 ∨ m.req = 7 ∨ m.req = 11 ∨ m.req = 13) ∧ m.node < 281474976710656 from rapsWrong_fact m); first | omega | (simp only [zor, zand, zorf, zandf, znt, znf, zeq, zne, zeqf, znef, zd, zdf] at *; omega))) (o_ (Field.packOn_ok (L := [(3, level), (5, 1), (8, 40), (8, 0), (8, 32)]) 5 rfl rfl (Field.partsCons (w := 3) (v := level) (b := 8) rfl rfl (by have := (show (rapsWrong m) = 0 → (m.req = 0 ∨ m.req = 7 ∨ m.req = 11 ∨ m.req = 13) ∧ m.node < 281474976710656 from rapsWrong_fact m); first | omega | (simp only [zor, zand, zorf, zandf, znt, znf, zeq, zne, zeqf, znef, zd, zdf] at *; omega)) (by have := (show (rapsWrong m) = 0 → (m.req = 0 ∨ m.req = 7 ∨ m.req = 11 ∨ m.req = 13) ∧ m.node < 281474976710656 from rapsWrong_fact m); first | omega | (simp only [zor, zand, zorf, zandf, znt, znf, zeq, zne, zeqf, znef, zd, zdf] at *; omega)) (Field.partsCons (w := 5) (v := 1) (b := 32) rfl rfl (by decide) (by decide) (Field.partsCons (w := 8) (v := 40) (b := 256) rfl rfl (by decide) (by decide) (Field.partsCons (w := 8) (v := 0) (b := 256) rfl rfl (by decide) (by decide) (Field.partsCons (w := 8) (v := 32) (b := 256) rfl rfl (by decide) (by decide) Field.partsNil))))) [3, 5, 8, 8, 8] rfl 4 rfl 16 5 (.cells [.int .i64 3, .int .u64 level, .int .i64 5, .int .u64 1, .int .i64 8, .int .u64 40, .int .i64 8, .int .u64 0, .int .i64 8, .int .u64 32] 136 2) (Field.lendsCells [] rfl)) (o_ (show Value.int .i64 ((((rapsClose_x5 m level)).size : Nat) : Int) = .int .i64 32 from Field.size_is (show ((rapsClose_x5 m level)).size = 32 from Field.packS_len [(4, m.req), (4, 0), (1, 0), (1, 1), (1, 1), (5, 0), (48, m.node), (64, 0), (64, 0), (64, 0)] [4, 4, 1, 1, 1, 5, 48, 64, 64, 64] rfl 32 rfl)) (o_ (bs1 (b0 := decide (((rapsClose_x1 m level)).size + ((rapsClose_x5 m level)).size ≤ 9223372036854775807)) (Field.szle (show ((rapsClose_x1 m level)).size = 4 from Field.packS_len [(3, level), (5, 1), (8, 40), (8, 0), (8, 32)] [3, 5, 8, 8, 8] rfl 4 rfl) (show ((rapsClose_x5 m level)).size = 32 from Field.packS_len [(4, m.req), (4, 0), (1, 0), (1, 1), (1, 1), (5, 0), (48, m.node), (64, 0), (64, 0), (64, 0)] [4, 4, 1, 1, 1, 5, 48, 64, 64, 64] rfl 32 rfl) rfl)) (o_ (bs1 (b0 := decide ((((rapsClose_x1 m level) ++ (rapsClose_x5 m level))).size + ((⟨#[0]⟩ : ByteArray)).size ≤ 9223372036854775807)) (Field.szle (Field.app_size (show ((rapsClose_x1 m level)).size = 4 from Field.packS_len [(3, level), (5, 1), (8, 40), (8, 0), (8, 32)] [3, 5, 8, 8, 8] rfl 4 rfl) (show ((rapsClose_x5 m level)).size = 32 from Field.packS_len [(4, m.req), (4, 0), (1, 0), (1, 1), (1, 1), (5, 0), (48, m.node), (64, 0), (64, 0), (64, 0)] [4, 4, 1, 1, 1, 5, 48, 64, 64, 64] rfl 32 rfl) (k := 36) rfl) (rfl : (⟨#[0]⟩ : ByteArray).size = 1) rfl)) o0)))))))))))))))) ?_ rfl; kernel_rfl
          · refine on0 400 [.br false, rapsWrong_c (rapsWrong m), .br false, .is 19 (.int .u64 m.req), .heap, .heap, .inl, .lit, .br false, .lit, .br true, .lit, .br false, .lit, .heap, .callL (.tuple ⟨[.string (rapsClose_x6 m level), .int .i64 0]⟩) [(14, .row [.int .i64 4, .int .u64 m.req, .int .i64 4, .int .u64 0, .int .i64 1, .int .u64 0, .int .i64 1, .int .u64 1, .int .i64 1, .int .u64 0, .int .i64 5, .int .u64 0, .int .i64 48, .int .u64 m.node, .int .i64 64, .int .u64 0, .int .i64 64, .int .u64 0, .int .i64 64, .int .u64 0] 136 2)], .lit, .inl, .is 11 (.int .u64 level), .callL (.tuple ⟨[.string (rapsClose_x1 m level), .int .i64 0]⟩) [(16, .cells [.int .i64 3, .int .u64 level, .int .i64 5, .int .u64 1, .int .i64 8, .int .u64 40, .int .i64 8, .int .u64 0, .int .i64 8, .int .u64 32] 136 2)], .lit, .is 39 (.int .i64 32), .lit, .owe 46, .owe 47] (o_ hb0 (o_ (rapsWrong_eq m) (o_ hb1 (o_ (wr_u64 (n := m.req) (by have := (show (rapsWrong m) = 0 → (m.req = 0 ∨ m.req = 7 ∨ m.req = 11 ∨ m.req = 13) ∧ m.node < 281474976710656 from rapsWrong_fact m); first | omega | (simp only [zor, zand, zorf, zandf, znt, znf, zeq, zne, zeqf, znef, zd, zdf] at *; omega)) (by have := (show (rapsWrong m) = 0 → (m.req = 0 ∨ m.req = 7 ∨ m.req = 11 ∨ m.req = 13) ∧ m.node < 281474976710656 from rapsWrong_fact m); first | omega | (simp only [zor, zand, zorf, zandf, znt, znf, zeq, zne, zeqf, znef, zd, zdf] at *; omega))) (o_ (hsame [.cells (Msg.enc m) 40 5]) (o_ (hsame [.cells (Msg.enc m) 40 5, .gone]) (o_ hb2 (o_ hb3 (o_ hb4 (o_ (hsame [.cells (Msg.enc m) 40 5, .gone, .cells [.bool m.block, .bool m.keep, .bool m.east] 4 1]) (o_ (Field.packOn_ok (L := [(4, m.req), (4, 0), (1, 0), (1, 1), (1, 0), (5, 0), (48, m.node), (64, 0), (64, 0), (64, 0)]) 10 rfl rfl (Field.partsCons (w := 4) (v := m.req) (b := 16) rfl rfl (by have := (show (rapsWrong m) = 0 → (m.req = 0 ∨ m.req = 7 ∨ m.req = 11 ∨ m.req = 13) ∧ m.node < 281474976710656 from rapsWrong_fact m); first | omega | (simp only [zor, zand, zorf, zandf, znt, znf, zeq, zne, zeqf, znef, zd, zdf] at *; omega)) (by have := (show (rapsWrong m) = 0 → (m.req = 0 ∨ m.req = 7 ∨ m.req = 11 ∨ m.req = 13) ∧ m.node < 281474976710656 from rapsWrong_fact m); first | omega | (simp only [zor, zand, zorf, zandf, znt, znf, zeq, zne, zeqf, znef, zd, zdf] at *; omega)) (Field.partsCons (w := 4) (v := 0) (b := 16) rfl rfl (by decide) (by decide) (Field.partsCons (w := 1) (v := 0) (b := 2) rfl rfl (by decide) (by decide) (Field.partsCons (w := 1) (v := 1) (b := 2) rfl rfl (by decide) (by decide) (Field.partsCons (w := 1) (v := 0) (b := 2) rfl rfl (by decide) (by decide) (Field.partsCons (w := 5) (v := 0) (b := 32) rfl rfl (by decide) (by decide) (Field.partsCons (w := 48) (v := m.node) (b := 281474976710656) rfl rfl (by have := (show (rapsWrong m) = 0 → (m.req = 0 ∨ m.req = 7 ∨ m.req = 11 ∨ m.req = 13) ∧ m.node < 281474976710656 from rapsWrong_fact m); first | omega | (simp only [zor, zand, zorf, zandf, znt, znf, zeq, zne, zeqf, znef, zd, zdf] at *; omega)) (by have := (show (rapsWrong m) = 0 → (m.req = 0 ∨ m.req = 7 ∨ m.req = 11 ∨ m.req = 13) ∧ m.node < 281474976710656 from rapsWrong_fact m); first | omega | (simp only [zor, zand, zorf, zandf, znt, znf, zeq, zne, zeqf, znef, zd, zdf] at *; omega)) (Field.partsCons (w := 64) (v := 0) (b := 18446744073709551616) rfl rfl (by decide) (by decide) (Field.partsCons (w := 64) (v := 0) (b := 18446744073709551616) rfl rfl (by decide) (by decide) (Field.partsCons (w := 64) (v := 0) (b := 18446744073709551616) rfl rfl (by decide) (by decide) Field.partsNil)))))))))) [4, 4, 1, 1, 1, 5, 48, 64, 64, 64] rfl 32 rfl 14 UNK (.row [.int .i64 4, .int .u64 m.req, .int .i64 4, .int .u64 0, .int .i64 1, .int .u64 0, .int .i64 1, .int .u64 1, .int .i64 1, .int .u64 0, .int .i64 5, .int .u64 0, .int .i64 48, .int .u64 m.node, .int .i64 64, .int .u64 0, .int .i64 64, .int .u64 0, .int .i64 64, .int .u64 0] 136 2) (Field.lendsRow [] rfl)) (o_ (wr_u64 (n := level) (by have := (show (rapsWrong m) = 0 → (m.req = 0 ∨ m.req = 7 ∨ m.req = 11 ∨ m.req = 13) ∧ m.node < 281474976710656 from rapsWrong_fact m); first | omega | (simp only [zor, zand, zorf, zandf, znt, znf, zeq, zne, zeqf, znef, zd, zdf] at *; omega)) (by have := (show (rapsWrong m) = 0 → (m.req = 0 ∨ m.req = 7 ∨ m.req = 11 ∨ m.req = 13) ∧ m.node < 281474976710656 from rapsWrong_fact m); first | omega | (simp only [zor, zand, zorf, zandf, znt, znf, zeq, zne, zeqf, znef, zd, zdf] at *; omega))) (o_ (Field.packOn_ok (L := [(3, level), (5, 1), (8, 40), (8, 0), (8, 32)]) 5 rfl rfl (Field.partsCons (w := 3) (v := level) (b := 8) rfl rfl (by have := (show (rapsWrong m) = 0 → (m.req = 0 ∨ m.req = 7 ∨ m.req = 11 ∨ m.req = 13) ∧ m.node < 281474976710656 from rapsWrong_fact m); first | omega | (simp only [zor, zand, zorf, zandf, znt, znf, zeq, zne, zeqf, znef, zd, zdf] at *; omega)) (by have := (show (rapsWrong m) = 0 → (m.req = 0 ∨ m.req = 7 ∨ m.req = 11 ∨ m.req = 13) ∧ m.node < 281474976710656 from rapsWrong_fact m); first | omega | (simp only [zor, zand, zorf, zandf, znt, znf, zeq, zne, zeqf, znef, zd, zdf] at *; omega)) (Field.partsCons (w := 5) (v := 1) (b := 32) rfl rfl (by decide) (by decide) (Field.partsCons (w := 8) (v := 40) (b := 256) rfl rfl (by decide) (by decide) (Field.partsCons (w := 8) (v := 0) (b := 256) rfl rfl (by decide) (by decide) (Field.partsCons (w := 8) (v := 32) (b := 256) rfl rfl (by decide) (by decide) Field.partsNil))))) [3, 5, 8, 8, 8] rfl 4 rfl 16 5 (.cells [.int .i64 3, .int .u64 level, .int .i64 5, .int .u64 1, .int .i64 8, .int .u64 40, .int .i64 8, .int .u64 0, .int .i64 8, .int .u64 32] 136 2) (Field.lendsCells [] rfl)) (o_ (show Value.int .i64 ((((rapsClose_x6 m level)).size : Nat) : Int) = .int .i64 32 from Field.size_is (show ((rapsClose_x6 m level)).size = 32 from Field.packS_len [(4, m.req), (4, 0), (1, 0), (1, 1), (1, 0), (5, 0), (48, m.node), (64, 0), (64, 0), (64, 0)] [4, 4, 1, 1, 1, 5, 48, 64, 64, 64] rfl 32 rfl)) (o_ (bs1 (b0 := decide (((rapsClose_x1 m level)).size + ((rapsClose_x6 m level)).size ≤ 9223372036854775807)) (Field.szle (show ((rapsClose_x1 m level)).size = 4 from Field.packS_len [(3, level), (5, 1), (8, 40), (8, 0), (8, 32)] [3, 5, 8, 8, 8] rfl 4 rfl) (show ((rapsClose_x6 m level)).size = 32 from Field.packS_len [(4, m.req), (4, 0), (1, 0), (1, 1), (1, 0), (5, 0), (48, m.node), (64, 0), (64, 0), (64, 0)] [4, 4, 1, 1, 1, 5, 48, 64, 64, 64] rfl 32 rfl) rfl)) (o_ (bs1 (b0 := decide ((((rapsClose_x1 m level) ++ (rapsClose_x6 m level))).size + ((⟨#[0]⟩ : ByteArray)).size ≤ 9223372036854775807)) (Field.szle (Field.app_size (show ((rapsClose_x1 m level)).size = 4 from Field.packS_len [(3, level), (5, 1), (8, 40), (8, 0), (8, 32)] [3, 5, 8, 8, 8] rfl 4 rfl) (show ((rapsClose_x6 m level)).size = 32 from Field.packS_len [(4, m.req), (4, 0), (1, 0), (1, 1), (1, 0), (5, 0), (48, m.node), (64, 0), (64, 0), (64, 0)] [4, 4, 1, 1, 1, 5, 48, 64, 64, 64] rfl 32 rfl) (k := 36) rfl) (rfl : (⟨#[0]⟩ : ByteArray).size = 1) rfl)) o0)))))))))))))))) ?_ rfl; kernel_rfl
        · apply bi <;> intro hb4
          · refine on0 400 [.br false, rapsWrong_c (rapsWrong m), .br false, .is 19 (.int .u64 m.req), .heap, .heap, .inl, .lit, .br false, .lit, .br false, .lit, .br true, .lit, .heap, .callL (.tuple ⟨[.string (rapsClose_x7 m level), .int .i64 0]⟩) [(14, .row [.int .i64 4, .int .u64 m.req, .int .i64 4, .int .u64 0, .int .i64 1, .int .u64 0, .int .i64 1, .int .u64 0, .int .i64 1, .int .u64 1, .int .i64 5, .int .u64 0, .int .i64 48, .int .u64 m.node, .int .i64 64, .int .u64 0, .int .i64 64, .int .u64 0, .int .i64 64, .int .u64 0] 136 2)], .lit, .inl, .is 11 (.int .u64 level), .callL (.tuple ⟨[.string (rapsClose_x1 m level), .int .i64 0]⟩) [(16, .cells [.int .i64 3, .int .u64 level, .int .i64 5, .int .u64 1, .int .i64 8, .int .u64 40, .int .i64 8, .int .u64 0, .int .i64 8, .int .u64 32] 136 2)], .lit, .is 39 (.int .i64 32), .lit, .owe 46, .owe 47] (o_ hb0 (o_ (rapsWrong_eq m) (o_ hb1 (o_ (wr_u64 (n := m.req) (by have := (show (rapsWrong m) = 0 → (m.req = 0 ∨ m.req = 7 ∨ m.req = 11 ∨ m.req = 13) ∧ m.node < 281474976710656 from rapsWrong_fact m); first | omega | (simp only [zor, zand, zorf, zandf, znt, znf, zeq, zne, zeqf, znef, zd, zdf] at *; omega)) (by have := (show (rapsWrong m) = 0 → (m.req = 0 ∨ m.req = 7 ∨ m.req = 11 ∨ m.req = 13) ∧ m.node < 281474976710656 from rapsWrong_fact m); first | omega | (simp only [zor, zand, zorf, zandf, znt, znf, zeq, zne, zeqf, znef, zd, zdf] at *; omega))) (o_ (hsame [.cells (Msg.enc m) 40 5]) (o_ (hsame [.cells (Msg.enc m) 40 5, .gone]) (o_ hb2 (o_ hb3 (o_ hb4 (o_ (hsame [.cells (Msg.enc m) 40 5, .gone, .cells [.bool m.block, .bool m.keep, .bool m.east] 4 1]) (o_ (Field.packOn_ok (L := [(4, m.req), (4, 0), (1, 0), (1, 0), (1, 1), (5, 0), (48, m.node), (64, 0), (64, 0), (64, 0)]) 10 rfl rfl (Field.partsCons (w := 4) (v := m.req) (b := 16) rfl rfl (by have := (show (rapsWrong m) = 0 → (m.req = 0 ∨ m.req = 7 ∨ m.req = 11 ∨ m.req = 13) ∧ m.node < 281474976710656 from rapsWrong_fact m); first | omega | (simp only [zor, zand, zorf, zandf, znt, znf, zeq, zne, zeqf, znef, zd, zdf] at *; omega)) (by have := (show (rapsWrong m) = 0 → (m.req = 0 ∨ m.req = 7 ∨ m.req = 11 ∨ m.req = 13) ∧ m.node < 281474976710656 from rapsWrong_fact m); first | omega | (simp only [zor, zand, zorf, zandf, znt, znf, zeq, zne, zeqf, znef, zd, zdf] at *; omega)) (Field.partsCons (w := 4) (v := 0) (b := 16) rfl rfl (by decide) (by decide) (Field.partsCons (w := 1) (v := 0) (b := 2) rfl rfl (by decide) (by decide) (Field.partsCons (w := 1) (v := 0) (b := 2) rfl rfl (by decide) (by decide) (Field.partsCons (w := 1) (v := 1) (b := 2) rfl rfl (by decide) (by decide) (Field.partsCons (w := 5) (v := 0) (b := 32) rfl rfl (by decide) (by decide) (Field.partsCons (w := 48) (v := m.node) (b := 281474976710656) rfl rfl (by have := (show (rapsWrong m) = 0 → (m.req = 0 ∨ m.req = 7 ∨ m.req = 11 ∨ m.req = 13) ∧ m.node < 281474976710656 from rapsWrong_fact m); first | omega | (simp only [zor, zand, zorf, zandf, znt, znf, zeq, zne, zeqf, znef, zd, zdf] at *; omega)) (by have := (show (rapsWrong m) = 0 → (m.req = 0 ∨ m.req = 7 ∨ m.req = 11 ∨ m.req = 13) ∧ m.node < 281474976710656 from rapsWrong_fact m); first | omega | (simp only [zor, zand, zorf, zandf, znt, znf, zeq, zne, zeqf, znef, zd, zdf] at *; omega)) (Field.partsCons (w := 64) (v := 0) (b := 18446744073709551616) rfl rfl (by decide) (by decide) (Field.partsCons (w := 64) (v := 0) (b := 18446744073709551616) rfl rfl (by decide) (by decide) (Field.partsCons (w := 64) (v := 0) (b := 18446744073709551616) rfl rfl (by decide) (by decide) Field.partsNil)))))))))) [4, 4, 1, 1, 1, 5, 48, 64, 64, 64] rfl 32 rfl 14 UNK (.row [.int .i64 4, .int .u64 m.req, .int .i64 4, .int .u64 0, .int .i64 1, .int .u64 0, .int .i64 1, .int .u64 0, .int .i64 1, .int .u64 1, .int .i64 5, .int .u64 0, .int .i64 48, .int .u64 m.node, .int .i64 64, .int .u64 0, .int .i64 64, .int .u64 0, .int .i64 64, .int .u64 0] 136 2) (Field.lendsRow [] rfl)) (o_ (wr_u64 (n := level) (by have := (show (rapsWrong m) = 0 → (m.req = 0 ∨ m.req = 7 ∨ m.req = 11 ∨ m.req = 13) ∧ m.node < 281474976710656 from rapsWrong_fact m); first | omega | (simp only [zor, zand, zorf, zandf, znt, znf, zeq, zne, zeqf, znef, zd, zdf] at *; omega)) (by have := (show (rapsWrong m) = 0 → (m.req = 0 ∨ m.req = 7 ∨ m.req = 11 ∨ m.req = 13) ∧ m.node < 281474976710656 from rapsWrong_fact m); first | omega | (simp only [zor, zand, zorf, zandf, znt, znf, zeq, zne, zeqf, znef, zd, zdf] at *; omega))) (o_ (Field.packOn_ok (L := [(3, level), (5, 1), (8, 40), (8, 0), (8, 32)]) 5 rfl rfl (Field.partsCons (w := 3) (v := level) (b := 8) rfl rfl (by have := (show (rapsWrong m) = 0 → (m.req = 0 ∨ m.req = 7 ∨ m.req = 11 ∨ m.req = 13) ∧ m.node < 281474976710656 from rapsWrong_fact m); first | omega | (simp only [zor, zand, zorf, zandf, znt, znf, zeq, zne, zeqf, znef, zd, zdf] at *; omega)) (by have := (show (rapsWrong m) = 0 → (m.req = 0 ∨ m.req = 7 ∨ m.req = 11 ∨ m.req = 13) ∧ m.node < 281474976710656 from rapsWrong_fact m); first | omega | (simp only [zor, zand, zorf, zandf, znt, znf, zeq, zne, zeqf, znef, zd, zdf] at *; omega)) (Field.partsCons (w := 5) (v := 1) (b := 32) rfl rfl (by decide) (by decide) (Field.partsCons (w := 8) (v := 40) (b := 256) rfl rfl (by decide) (by decide) (Field.partsCons (w := 8) (v := 0) (b := 256) rfl rfl (by decide) (by decide) (Field.partsCons (w := 8) (v := 32) (b := 256) rfl rfl (by decide) (by decide) Field.partsNil))))) [3, 5, 8, 8, 8] rfl 4 rfl 16 5 (.cells [.int .i64 3, .int .u64 level, .int .i64 5, .int .u64 1, .int .i64 8, .int .u64 40, .int .i64 8, .int .u64 0, .int .i64 8, .int .u64 32] 136 2) (Field.lendsCells [] rfl)) (o_ (show Value.int .i64 ((((rapsClose_x7 m level)).size : Nat) : Int) = .int .i64 32 from Field.size_is (show ((rapsClose_x7 m level)).size = 32 from Field.packS_len [(4, m.req), (4, 0), (1, 0), (1, 0), (1, 1), (5, 0), (48, m.node), (64, 0), (64, 0), (64, 0)] [4, 4, 1, 1, 1, 5, 48, 64, 64, 64] rfl 32 rfl)) (o_ (bs1 (b0 := decide (((rapsClose_x1 m level)).size + ((rapsClose_x7 m level)).size ≤ 9223372036854775807)) (Field.szle (show ((rapsClose_x1 m level)).size = 4 from Field.packS_len [(3, level), (5, 1), (8, 40), (8, 0), (8, 32)] [3, 5, 8, 8, 8] rfl 4 rfl) (show ((rapsClose_x7 m level)).size = 32 from Field.packS_len [(4, m.req), (4, 0), (1, 0), (1, 0), (1, 1), (5, 0), (48, m.node), (64, 0), (64, 0), (64, 0)] [4, 4, 1, 1, 1, 5, 48, 64, 64, 64] rfl 32 rfl) rfl)) (o_ (bs1 (b0 := decide ((((rapsClose_x1 m level) ++ (rapsClose_x7 m level))).size + ((⟨#[0]⟩ : ByteArray)).size ≤ 9223372036854775807)) (Field.szle (Field.app_size (show ((rapsClose_x1 m level)).size = 4 from Field.packS_len [(3, level), (5, 1), (8, 40), (8, 0), (8, 32)] [3, 5, 8, 8, 8] rfl 4 rfl) (show ((rapsClose_x7 m level)).size = 32 from Field.packS_len [(4, m.req), (4, 0), (1, 0), (1, 0), (1, 1), (5, 0), (48, m.node), (64, 0), (64, 0), (64, 0)] [4, 4, 1, 1, 1, 5, 48, 64, 64, 64] rfl 32 rfl) (k := 36) rfl) (rfl : (⟨#[0]⟩ : ByteArray).size = 1) rfl)) o0)))))))))))))))) ?_ rfl; kernel_rfl
          · refine on0 400 [.br false, rapsWrong_c (rapsWrong m), .br false, .is 19 (.int .u64 m.req), .heap, .heap, .inl, .lit, .br false, .lit, .br false, .lit, .br false, .lit, .heap, .callL (.tuple ⟨[.string (rapsClose_x8 m level), .int .i64 0]⟩) [(14, .row [.int .i64 4, .int .u64 m.req, .int .i64 4, .int .u64 0, .int .i64 1, .int .u64 0, .int .i64 1, .int .u64 0, .int .i64 1, .int .u64 0, .int .i64 5, .int .u64 0, .int .i64 48, .int .u64 m.node, .int .i64 64, .int .u64 0, .int .i64 64, .int .u64 0, .int .i64 64, .int .u64 0] 136 2)], .lit, .inl, .is 11 (.int .u64 level), .callL (.tuple ⟨[.string (rapsClose_x1 m level), .int .i64 0]⟩) [(16, .cells [.int .i64 3, .int .u64 level, .int .i64 5, .int .u64 1, .int .i64 8, .int .u64 40, .int .i64 8, .int .u64 0, .int .i64 8, .int .u64 32] 136 2)], .lit, .is 39 (.int .i64 32), .lit, .owe 46, .owe 47] (o_ hb0 (o_ (rapsWrong_eq m) (o_ hb1 (o_ (wr_u64 (n := m.req) (by have := (show (rapsWrong m) = 0 → (m.req = 0 ∨ m.req = 7 ∨ m.req = 11 ∨ m.req = 13) ∧ m.node < 281474976710656 from rapsWrong_fact m); first | omega | (simp only [zor, zand, zorf, zandf, znt, znf, zeq, zne, zeqf, znef, zd, zdf] at *; omega)) (by have := (show (rapsWrong m) = 0 → (m.req = 0 ∨ m.req = 7 ∨ m.req = 11 ∨ m.req = 13) ∧ m.node < 281474976710656 from rapsWrong_fact m); first | omega | (simp only [zor, zand, zorf, zandf, znt, znf, zeq, zne, zeqf, znef, zd, zdf] at *; omega))) (o_ (hsame [.cells (Msg.enc m) 40 5]) (o_ (hsame [.cells (Msg.enc m) 40 5, .gone]) (o_ hb2 (o_ hb3 (o_ hb4 (o_ (hsame [.cells (Msg.enc m) 40 5, .gone, .cells [.bool m.block, .bool m.keep, .bool m.east] 4 1]) (o_ (Field.packOn_ok (L := [(4, m.req), (4, 0), (1, 0), (1, 0), (1, 0), (5, 0), (48, m.node), (64, 0), (64, 0), (64, 0)]) 10 rfl rfl (Field.partsCons (w := 4) (v := m.req) (b := 16) rfl rfl (by have := (show (rapsWrong m) = 0 → (m.req = 0 ∨ m.req = 7 ∨ m.req = 11 ∨ m.req = 13) ∧ m.node < 281474976710656 from rapsWrong_fact m); first | omega | (simp only [zor, zand, zorf, zandf, znt, znf, zeq, zne, zeqf, znef, zd, zdf] at *; omega)) (by have := (show (rapsWrong m) = 0 → (m.req = 0 ∨ m.req = 7 ∨ m.req = 11 ∨ m.req = 13) ∧ m.node < 281474976710656 from rapsWrong_fact m); first | omega | (simp only [zor, zand, zorf, zandf, znt, znf, zeq, zne, zeqf, znef, zd, zdf] at *; omega)) (Field.partsCons (w := 4) (v := 0) (b := 16) rfl rfl (by decide) (by decide) (Field.partsCons (w := 1) (v := 0) (b := 2) rfl rfl (by decide) (by decide) (Field.partsCons (w := 1) (v := 0) (b := 2) rfl rfl (by decide) (by decide) (Field.partsCons (w := 1) (v := 0) (b := 2) rfl rfl (by decide) (by decide) (Field.partsCons (w := 5) (v := 0) (b := 32) rfl rfl (by decide) (by decide) (Field.partsCons (w := 48) (v := m.node) (b := 281474976710656) rfl rfl (by have := (show (rapsWrong m) = 0 → (m.req = 0 ∨ m.req = 7 ∨ m.req = 11 ∨ m.req = 13) ∧ m.node < 281474976710656 from rapsWrong_fact m); first | omega | (simp only [zor, zand, zorf, zandf, znt, znf, zeq, zne, zeqf, znef, zd, zdf] at *; omega)) (by have := (show (rapsWrong m) = 0 → (m.req = 0 ∨ m.req = 7 ∨ m.req = 11 ∨ m.req = 13) ∧ m.node < 281474976710656 from rapsWrong_fact m); first | omega | (simp only [zor, zand, zorf, zandf, znt, znf, zeq, zne, zeqf, znef, zd, zdf] at *; omega)) (Field.partsCons (w := 64) (v := 0) (b := 18446744073709551616) rfl rfl (by decide) (by decide) (Field.partsCons (w := 64) (v := 0) (b := 18446744073709551616) rfl rfl (by decide) (by decide) (Field.partsCons (w := 64) (v := 0) (b := 18446744073709551616) rfl rfl (by decide) (by decide) Field.partsNil)))))))))) [4, 4, 1, 1, 1, 5, 48, 64, 64, 64] rfl 32 rfl 14 UNK (.row [.int .i64 4, .int .u64 m.req, .int .i64 4, .int .u64 0, .int .i64 1, .int .u64 0, .int .i64 1, .int .u64 0, .int .i64 1, .int .u64 0, .int .i64 5, .int .u64 0, .int .i64 48, .int .u64 m.node, .int .i64 64, .int .u64 0, .int .i64 64, .int .u64 0, .int .i64 64, .int .u64 0] 136 2) (Field.lendsRow [] rfl)) (o_ (wr_u64 (n := level) (by have := (show (rapsWrong m) = 0 → (m.req = 0 ∨ m.req = 7 ∨ m.req = 11 ∨ m.req = 13) ∧ m.node < 281474976710656 from rapsWrong_fact m); first | omega | (simp only [zor, zand, zorf, zandf, znt, znf, zeq, zne, zeqf, znef, zd, zdf] at *; omega)) (by have := (show (rapsWrong m) = 0 → (m.req = 0 ∨ m.req = 7 ∨ m.req = 11 ∨ m.req = 13) ∧ m.node < 281474976710656 from rapsWrong_fact m); first | omega | (simp only [zor, zand, zorf, zandf, znt, znf, zeq, zne, zeqf, znef, zd, zdf] at *; omega))) (o_ (Field.packOn_ok (L := [(3, level), (5, 1), (8, 40), (8, 0), (8, 32)]) 5 rfl rfl (Field.partsCons (w := 3) (v := level) (b := 8) rfl rfl (by have := (show (rapsWrong m) = 0 → (m.req = 0 ∨ m.req = 7 ∨ m.req = 11 ∨ m.req = 13) ∧ m.node < 281474976710656 from rapsWrong_fact m); first | omega | (simp only [zor, zand, zorf, zandf, znt, znf, zeq, zne, zeqf, znef, zd, zdf] at *; omega)) (by have := (show (rapsWrong m) = 0 → (m.req = 0 ∨ m.req = 7 ∨ m.req = 11 ∨ m.req = 13) ∧ m.node < 281474976710656 from rapsWrong_fact m); first | omega | (simp only [zor, zand, zorf, zandf, znt, znf, zeq, zne, zeqf, znef, zd, zdf] at *; omega)) (Field.partsCons (w := 5) (v := 1) (b := 32) rfl rfl (by decide) (by decide) (Field.partsCons (w := 8) (v := 40) (b := 256) rfl rfl (by decide) (by decide) (Field.partsCons (w := 8) (v := 0) (b := 256) rfl rfl (by decide) (by decide) (Field.partsCons (w := 8) (v := 32) (b := 256) rfl rfl (by decide) (by decide) Field.partsNil))))) [3, 5, 8, 8, 8] rfl 4 rfl 16 5 (.cells [.int .i64 3, .int .u64 level, .int .i64 5, .int .u64 1, .int .i64 8, .int .u64 40, .int .i64 8, .int .u64 0, .int .i64 8, .int .u64 32] 136 2) (Field.lendsCells [] rfl)) (o_ (show Value.int .i64 ((((rapsClose_x8 m level)).size : Nat) : Int) = .int .i64 32 from Field.size_is (show ((rapsClose_x8 m level)).size = 32 from Field.packS_len [(4, m.req), (4, 0), (1, 0), (1, 0), (1, 0), (5, 0), (48, m.node), (64, 0), (64, 0), (64, 0)] [4, 4, 1, 1, 1, 5, 48, 64, 64, 64] rfl 32 rfl)) (o_ (bs1 (b0 := decide (((rapsClose_x1 m level)).size + ((rapsClose_x8 m level)).size ≤ 9223372036854775807)) (Field.szle (show ((rapsClose_x1 m level)).size = 4 from Field.packS_len [(3, level), (5, 1), (8, 40), (8, 0), (8, 32)] [3, 5, 8, 8, 8] rfl 4 rfl) (show ((rapsClose_x8 m level)).size = 32 from Field.packS_len [(4, m.req), (4, 0), (1, 0), (1, 0), (1, 0), (5, 0), (48, m.node), (64, 0), (64, 0), (64, 0)] [4, 4, 1, 1, 1, 5, 48, 64, 64, 64] rfl 32 rfl) rfl)) (o_ (bs1 (b0 := decide ((((rapsClose_x1 m level) ++ (rapsClose_x8 m level))).size + ((⟨#[0]⟩ : ByteArray)).size ≤ 9223372036854775807)) (Field.szle (Field.app_size (show ((rapsClose_x1 m level)).size = 4 from Field.packS_len [(3, level), (5, 1), (8, 40), (8, 0), (8, 32)] [3, 5, 8, 8, 8] rfl 4 rfl) (show ((rapsClose_x8 m level)).size = 32 from Field.packS_len [(4, m.req), (4, 0), (1, 0), (1, 0), (1, 0), (5, 0), (48, m.node), (64, 0), (64, 0), (64, 0)] [4, 4, 1, 1, 1, 5, 48, 64, 64, 64] rfl 32 rfl) (k := 36) rfl) (rfl : (⟨#[0]⟩ : ByteArray).size = 1) rfl)) o0)))))))))))))))) ?_ rfl; kernel_rfl

def mayMsg (m : Msg) : Bool :=
  ((rapsClose m 0).2) == 0
def mayMsg_c (r : Bool) : Dir := .callL (.bool r) []
def mayMsg_G (m : Msg) (r : Bool) : Prop := AOn Tryz.prog 8 [.agg ⟨Msg.enc m⟩] [] (.bool r) []
theorem mayMsg_eq (m : Msg) (hn : 0 ≤ m.node) : mayMsg_G m (mayMsg m) := by
  unfold mayMsg
  refine on0 400 [rapsClose_c (rapsClose m 0)] (o_ (rapsClose_eq m 0 (by first | omega | (simp only [zor, zand, zorf, zandf, znt, znf, zeq, zne, zeqf, znef, zd, zdf] at *; omega)) (by first | omega | (simp only [zor, zand, zorf, zandf, znt, znf, zeq, zne, zeqf, znef, zd, zdf] at *; omega))) o0) ?_ rfl; kernel_rfl

end Go.Proofs.E17

namespace Go.Proofs.E17
open Go Go.AX Go.Proofs
set_option maxRecDepth 1000000
set_option linter.unusedVariables false
set_option linter.unusedSimpArgs false

theorem parse_ex : AOn Tryz.prog 95 [.string ⟨#[48, 49, 58, 49, 57, 58, 97, 55, 58, 48, 48, 58, 48, 48, 58, 48, 49]⟩] [] (.tuple ⟨[.int .u64 1209687605249, .int .i64 0]⟩) [] := by
  refine on0 400 [] o0 ?_ rfl; kernel_rfl

def awake01 : Bool :=
  true
def awake01_G (r : Bool) : Prop := AOn Tryz.prog 96 [] [] (.bool r) []
theorem awake01_eq : awake01_G (awake01) := by
  unfold awake01
  refine on0 400 [.callL (.tuple ⟨[.string ⟨#[160, 100]⟩, .int .i64 0]⟩) [(0, .cells [.int .i64 3, .int .u64 5, .int .i64 1, .int .u64 0, .int .i64 12, .int .u64 100] 136 2)]] (o_ (Field.packOn_lit ⟨#[160, 100]⟩ (by kernel_rfl) (Field.packOn_ok (L := [(3, 5), (1, 0), (12, 100)]) 3 rfl rfl (Field.partsCons (w := 3) (v := 5) (b := 8) rfl rfl (by decide) (by decide) (Field.partsCons (w := 1) (v := 0) (b := 2) rfl rfl (by decide) (by decide) (Field.partsCons (w := 12) (v := 100) (b := 4096) rfl rfl (by decide) (by decide) Field.partsNil))) [3, 1, 12] rfl 2 rfl 0 3 (.cells [.int .i64 3, .int .u64 5, .int .i64 1, .int .u64 0, .int .i64 12, .int .u64 100] 136 2) (Field.lendsCells [] rfl))) o0) ?_ rfl; kernel_rfl

def awake02 : Bool :=
  true
def awake02_G (r : Bool) : Prop := AOn Tryz.prog 66 [] [] (.bool r) []
theorem awake02_eq : awake02_G (awake02) := by
  unfold awake02
  refine on0 400 [.callL (.tuple ⟨[.int .u64 1209687605249, .int .i64 0]⟩) [], .callL (.bool true) [], .inl, .inl, .inl, .callL (.tuple ⟨[.string ⟨#[1, 25, 167, 0, 0, 1]⟩, .int .i64 0]⟩) [(0, .cells [.int .i64 48, .int .u64 1209687605249] 136 2)], .inl, .inl] (o_ parse_ex (o_ (awake01_eq) (o_ (Field.packOn_lit ⟨#[1, 25, 167, 0, 0, 1]⟩ (by kernel_rfl) (Field.packOn_ok (L := [(48, 1209687605249)]) 1 rfl rfl (Field.partsCons (w := 48) (v := 1209687605249) (b := 281474976710656) rfl rfl (by decide) (by decide) Field.partsNil) [48] rfl 6 rfl 0 1 (.cells [.int .i64 48, .int .u64 1209687605249] 136 2) (Field.lendsCells [] rfl))) o0))) ?_ rfl; kernel_rfl

def awake04_x0 : ByteArray := Field.packS [(3, 7), (5, 1), (8, 40), (8, 0), (8, 0)]
def awake04 : Bool :=
  true
def awake04_G (r : Bool) : Prop := AOn Tryz.prog 94 [] [] (.bool r) []
theorem awake04_eq : awake04_G (awake04) := by
  unfold awake04
  refine on0 400 [.inl, .callL (.tuple ⟨[.string ⟨#[225, 40, 0, 0]⟩, .int .i64 0]⟩) [(1, .cells [.int .i64 3, .int .u64 7, .int .i64 5, .int .u64 1, .int .i64 8, .int .u64 40, .int .i64 8, .int .u64 0, .int .i64 8, .int .u64 0] 136 2)], .lit, .lit, .callL (.bool true) []] (o_ (Field.packOn_lit ⟨#[225, 40, 0, 0]⟩ (by kernel_rfl) (Field.packOn_ok (L := [(3, 7), (5, 1), (8, 40), (8, 0), (8, 0)]) 5 rfl rfl (Field.partsCons (w := 3) (v := 7) (b := 8) rfl rfl (by decide) (by decide) (Field.partsCons (w := 5) (v := 1) (b := 32) rfl rfl (by decide) (by decide) (Field.partsCons (w := 8) (v := 40) (b := 256) rfl rfl (by decide) (by decide) (Field.partsCons (w := 8) (v := 0) (b := 256) rfl rfl (by decide) (by decide) (Field.partsCons (w := 8) (v := 0) (b := 256) rfl rfl (by decide) (by decide) Field.partsNil))))) [3, 5, 8, 8, 8] rfl 4 rfl 1 5 (.cells [.int .i64 3, .int .u64 7, .int .i64 5, .int .u64 1, .int .i64 8, .int .u64 40, .int .i64 8, .int .u64 0, .int .i64 8, .int .u64 0] 136 2) (Field.lendsCells [] rfl))) (o_ (awake01_eq) o0)) ?_ rfl; kernel_rfl

def awake05_x0 : ByteArray := Field.packS [(4, 0), (4, 0), (1, 1), (1, 0), (1, 0), (5, 0), (48, 2), (64, 0), (64, 0), (64, 0)]
def awake05_x1 : ByteArray := Field.packS [(3, 7), (5, 1), (8, 40), (8, 0), (8, 32)]
def awake05 : Bool :=
  true
def awake05_G (r : Bool) : Prop := AOn Tryz.prog 64 [] [] (.bool r) []
theorem awake05_eq : awake05_G (awake05) := by
  unfold awake05
  refine on0 400 (.inl :: .lit :: .inl :: lits 4 (.inl :: .inl :: .inl :: .lit :: .lit :: .heap :: .heap :: .inl :: lits 7 (.heap :: .callL (.tuple ⟨[.string ⟨#[0, 128, 0, 0, 0, 0, 0, 2, 0, 0, 0, 0, 0, 0, 0, 0, 0, 0, 0, 0, 0, 0, 0, 0, 0, 0, 0, 0, 0, 0, 0, 0]⟩, .int .i64 0]⟩) [(15, .row [.int .i64 4, .int .u64 0, .int .i64 4, .int .u64 0, .int .i64 1, .int .u64 1, .int .i64 1, .int .u64 0, .int .i64 1, .int .u64 0, .int .i64 5, .int .u64 0, .int .i64 48, .int .u64 2, .int .i64 64, .int .u64 0, .int .i64 64, .int .u64 0, .int .i64 64, .int .u64 0] 136 2)] :: .lit :: .inl :: .callL (.tuple ⟨[.string ⟨#[225, 40, 0, 32]⟩, .int .i64 0]⟩) [(17, .cells [.int .i64 3, .int .u64 7, .int .i64 5, .int .u64 1, .int .i64 8, .int .u64 40, .int .i64 8, .int .u64 0, .int .i64 8, .int .u64 32] 136 2)] :: .lit :: .lit :: .callL (.bool true) [] :: [.callL (.bool true) []]))) (o_ (hsame [.cells [.int .u8 0, .bool true, .bool false, .bool false, .int .u64 2] 40 5, .cells [.int .u8 0, .bool true, .bool false, .bool false, .int .u64 2] 40 5]) (o_ (hsame [.cells [.int .u8 0, .bool true, .bool false, .bool false, .int .u64 2] 40 5, .cells [.int .u8 0, .bool true, .bool false, .bool false, .int .u64 2] 40 5, .gone]) (o_ (hsame [.cells [.int .u8 0, .bool true, .bool false, .bool false, .int .u64 2] 40 5, .cells [.int .u8 0, .bool true, .bool false, .bool false, .int .u64 2] 40 5, .gone, .cells [.bool true, .bool false, .bool false] 4 1]) (o_ (Field.packOn_lit ⟨#[0, 128, 0, 0, 0, 0, 0, 2, 0, 0, 0, 0, 0, 0, 0, 0, 0, 0, 0, 0, 0, 0, 0, 0, 0, 0, 0, 0, 0, 0, 0, 0]⟩ (by kernel_rfl) (Field.packOn_ok (L := [(4, 0), (4, 0), (1, 1), (1, 0), (1, 0), (5, 0), (48, 2), (64, 0), (64, 0), (64, 0)]) 10 rfl rfl (Field.partsCons (w := 4) (v := 0) (b := 16) rfl rfl (by decide) (by decide) (Field.partsCons (w := 4) (v := 0) (b := 16) rfl rfl (by decide) (by decide) (Field.partsCons (w := 1) (v := 1) (b := 2) rfl rfl (by decide) (by decide) (Field.partsCons (w := 1) (v := 0) (b := 2) rfl rfl (by decide) (by decide) (Field.partsCons (w := 1) (v := 0) (b := 2) rfl rfl (by decide) (by decide) (Field.partsCons (w := 5) (v := 0) (b := 32) rfl rfl (by decide) (by decide) (Field.partsCons (w := 48) (v := 2) (b := 281474976710656) rfl rfl (by decide) (by decide) (Field.partsCons (w := 64) (v := 0) (b := 18446744073709551616) rfl rfl (by decide) (by decide) (Field.partsCons (w := 64) (v := 0) (b := 18446744073709551616) rfl rfl (by decide) (by decide) (Field.partsCons (w := 64) (v := 0) (b := 18446744073709551616) rfl rfl (by decide) (by decide) Field.partsNil)))))))))) [4, 4, 1, 1, 1, 5, 48, 64, 64, 64] rfl 32 rfl 15 UNK (.row [.int .i64 4, .int .u64 0, .int .i64 4, .int .u64 0, .int .i64 1, .int .u64 1, .int .i64 1, .int .u64 0, .int .i64 1, .int .u64 0, .int .i64 5, .int .u64 0, .int .i64 48, .int .u64 2, .int .i64 64, .int .u64 0, .int .i64 64, .int .u64 0, .int .i64 64, .int .u64 0] 136 2) (Field.lendsRow [] rfl))) (o_ (Field.packOn_lit ⟨#[225, 40, 0, 32]⟩ (by kernel_rfl) (Field.packOn_ok (L := [(3, 7), (5, 1), (8, 40), (8, 0), (8, 32)]) 5 rfl rfl (Field.partsCons (w := 3) (v := 7) (b := 8) rfl rfl (by decide) (by decide) (Field.partsCons (w := 5) (v := 1) (b := 32) rfl rfl (by decide) (by decide) (Field.partsCons (w := 8) (v := 40) (b := 256) rfl rfl (by decide) (by decide) (Field.partsCons (w := 8) (v := 0) (b := 256) rfl rfl (by decide) (by decide) (Field.partsCons (w := 8) (v := 32) (b := 256) rfl rfl (by decide) (by decide) Field.partsNil))))) [3, 5, 8, 8, 8] rfl 4 rfl 17 5 (.cells [.int .i64 3, .int .u64 7, .int .i64 5, .int .u64 1, .int .i64 8, .int .u64 40, .int .i64 8, .int .u64 0, .int .i64 8, .int .u64 32] 136 2) (Field.lendsCells [] rfl))) (o_ (awake02_eq) (o_ (awake04_eq) o0))))))) ?_ rfl; kernel_rfl

def awake06_x0 : ByteArray := Field.packS [(3, 0), (5, 0), (8, 1), (8, 132), (8, 70)]
def awake06 : Bool :=
  true
def awake06_G (r : Bool) : Prop := AOn Tryz.prog 67 [] [] (.bool r) []
theorem awake06_eq : awake06_G (awake06) := by
  unfold awake06
  refine on0 400 (.inl :: .lit :: .callL (.string ⟨#[0, 0, 0, 0, 0, 0, 0, 0, 0, 0, 0, 0, 0, 0, 0, 0, 0, 0, 0, 0, 0, 0, 0, 0, 0, 0, 0, 0, 0, 0, 0, 0, 0, 0, 0, 0, 0, 0, 0, 0, 0, 0, 0, 0, 0, 0, 0]⟩) [] :: .inl :: .lit :: .inl :: lits 6 (.callL (.tuple ⟨[.string ⟨#[0, 0, 0, 0, 0, 1]⟩, .int .i64 0]⟩) [(2, .cells [.int .i64 32, .int .u64 0, .int .i64 16, .int .u64 1] 136 2)] :: .lit :: .lit :: .callL (.string ⟨#[0, 0, 0, 0, 0, 0, 0, 0, 0, 0, 0, 0, 0, 0, 0, 0]⟩) [] :: .heap :: .inl :: .callL (.tuple ⟨[.string ⟨#[0, 1, 132, 70]⟩, .int .i64 0]⟩) [(4, .cells [.int .i64 3, .int .u64 0, .int .i64 5, .int .u64 0, .int .i64 8, .int .u64 1, .int .i64 8, .int .u64 132, .int .i64 8, .int .u64 70] 136 2)] :: .lit :: .lit :: .heap :: [.callL (.bool true) []])) (o_ (show AOn Tryz.prog 119 [.string ⟨#[0]⟩, .int .i64 47] [] (.string ⟨#[0, 0, 0, 0, 0, 0, 0, 0, 0, 0, 0, 0, 0, 0, 0, 0, 0, 0, 0, 0, 0, 0, 0, 0, 0, 0, 0, 0, 0, 0, 0, 0, 0, 0, 0, 0, 0, 0, 0, 0, 0, 0, 0, 0, 0, 0, 0]⟩) [] from strings_Repeat ⟨#[0]⟩ 47 rfl rfl) (o_ (Field.packOn_lit ⟨#[0, 0, 0, 0, 0, 1]⟩ (by kernel_rfl) (Field.packOn_ok (L := [(32, 0), (16, 1)]) 2 rfl rfl (Field.partsCons (w := 32) (v := 0) (b := 4294967296) rfl rfl (by decide) (by decide) (Field.partsCons (w := 16) (v := 1) (b := 65536) rfl rfl (by decide) (by decide) Field.partsNil)) [32, 16] rfl 6 rfl 2 2 (.cells [.int .i64 32, .int .u64 0, .int .i64 16, .int .u64 1] 136 2) (Field.lendsCells [] rfl))) (o_ (show AOn Tryz.prog 119 [.string ⟨#[0]⟩, .int .i64 16] [] (.string ⟨#[0, 0, 0, 0, 0, 0, 0, 0, 0, 0, 0, 0, 0, 0, 0, 0]⟩) [] from strings_Repeat ⟨#[0]⟩ 16 rfl rfl) (o_ (Field.packOn_lit ⟨#[0, 1, 132, 70]⟩ (by kernel_rfl) (Field.packOn_ok (L := [(3, 0), (5, 0), (8, 1), (8, 132), (8, 70)]) 5 rfl rfl (Field.partsCons (w := 3) (v := 0) (b := 8) rfl rfl (by decide) (by decide) (Field.partsCons (w := 5) (v := 0) (b := 32) rfl rfl (by decide) (by decide) (Field.partsCons (w := 8) (v := 1) (b := 256) rfl rfl (by decide) (by decide) (Field.partsCons (w := 8) (v := 132) (b := 256) rfl rfl (by decide) (by decide) (Field.partsCons (w := 8) (v := 70) (b := 256) rfl rfl (by decide) (by decide) Field.partsNil))))) [3, 5, 8, 8, 8] rfl 4 rfl 4 5 (.cells [.int .i64 3, .int .u64 0, .int .i64 5, .int .u64 0, .int .i64 8, .int .u64 1, .int .i64 8, .int .u64 132, .int .i64 8, .int .u64 70] 136 2) (Field.lendsCells [] rfl))) (o_ (hsame [.cells [.bool true, .int .u8 4, .int .u32 0, .int .u16 1, .string ⟨#[120, 0, 0, 0, 0, 0, 0, 0, 0, 0, 0, 0, 0, 0, 0, 0, 0, 0, 0, 0, 0, 0, 0, 0, 0, 0, 0, 0, 0, 0, 0, 0, 0, 0, 0, 0, 0, 0, 0, 0, 0, 0, 0, 0, 0, 0, 0, 0]⟩] 178 5, .cells [.bool true, .int .u8 4, .int .u32 0, .int .u16 1, .string ⟨#[120, 0, 0, 0, 0, 0, 0, 0, 0, 0, 0, 0, 0, 0, 0, 0, 0, 0, 0, 0, 0, 0, 0, 0, 0, 0, 0, 0, 0, 0, 0, 0, 0, 0, 0, 0, 0, 0, 0, 0, 0, 0, 0, 0, 0, 0, 0, 0]⟩] 178 5, .cells [.int .i64 32, .int .u64 0, .int .i64 16, .int .u64 1] 136 2]) (o_ (awake04_eq) o0)))))) ?_ rfl; kernel_rfl

def awake08 : Bool :=
  bif (!((timerPop (Bk.mk 0 0 16) 14).2.2)) && ((timerPop (Bk.mk 0 0 16) 15).2.2) then
    ((timerPop (Bk.mk 0 0 16) 15).1) == 2
  else
    false
def awake08_G (r : Bool) : Prop := AOn Tryz.prog 28 [] [] (.bool r) []
theorem awake08_eq : awake08_G (awake08) := by
  unfold awake08
  refine byAnd ?_
  apply bi <;> intro hb0
  · apply bi <;> intro hb1
    · refine on0 400 [.inl, .inl, .lit, .lit, timerPop_c (timerPop (Bk.mk 0 0 16) 14), timerPop_c (timerPop (Bk.mk 0 0 16) 15), .gd 32 true, .gd 35 true] (o_ (timerPop_eq (Bk.mk 0 0 16) 14) (o_ (timerPop_eq (Bk.mk 0 0 16) 15) (o_ hb0 (o_ hb1 o0)))) ?_ rfl; kernel_rfl
    · refine on0 400 [.inl, .inl, .lit, .lit, timerPop_c (timerPop (Bk.mk 0 0 16) 14), timerPop_c (timerPop (Bk.mk 0 0 16) 15), .gd 32 true, .gd 35 false] (o_ (timerPop_eq (Bk.mk 0 0 16) 14) (o_ (timerPop_eq (Bk.mk 0 0 16) 15) (o_ hb0 (o_ hb1 o0)))) ?_ rfl; kernel_rfl
  · refine on0 400 [.inl, .inl, .lit, .lit, timerPop_c (timerPop (Bk.mk 0 0 16) 14), timerPop_c (timerPop (Bk.mk 0 0 16) 15), .gd 32 false] (o_ (timerPop_eq (Bk.mk 0 0 16) 14) (o_ (timerPop_eq (Bk.mk 0 0 16) 15) (o_ hb0 o0))) ?_ rfl; kernel_rfl

theorem awake08_ok : AOn Tryz.prog 28 [] [] (.bool true) [] := by
  have h := awake08_eq; unfold awake08_G at h
  rw [show awake08 = true by kernel_rfl] at h; exact h

def awake12 : Bool :=
  true
def awake12_G (r : Bool) : Prop := AOn Tryz.prog 62 [] [] (.bool r) []
theorem awake12_eq : awake12_G (awake12) := by
  unfold awake12
  refine on0 400 [.callL (.bool true) [], .inl, .inl, .inl, .inl, .lit, .inl, .inl, .inl, .lit, .lit, .inl, .inl, .inl, .lit, .lit, .inl, .inl, .lit] (o_ (awake05_eq) o0) ?_ rfl; kernel_rfl

def awake13 : Bool :=
  true
def awake13_G (r : Bool) : Prop := AOn Tryz.prog 29 [] [] (.bool r) []
theorem awake13_eq : awake13_G (awake13) := by
  unfold awake13
  refine on0 400 [.callN (.tuple ⟨[.slice (some ⟨0, 0, none⟩) 2 UNK, .int .i64 1]⟩) [] [.row [.int .i64 1, .int .i64 9] 131 1], .callL (.bool true) [], .inl, .inl, .lit] (o_ look_0_3_0_eq (o_ (awake12_eq) o0)) ?_ rfl; kernel_rfl

def awake14_x0 : P2 × Bool := flushHear (P2.mk (Pair.mk false false 0) (Pair.mk false false 0)) 0 (Msg.mk 11 false false false 3)
def awake14_x1 : P2 × Bool := flushHear ((awake14_x0).1) 1 (Msg.mk 11 false false false 3)
def awake14 : Bool :=
  bif (awake14_x0).2 then
    !((awake14_x1).2)
  else
    false
def awake14_G (r : Bool) : Prop := AOn Tryz.prog 30 [] [] (.bool r) []
theorem awake14_eq : awake14_G (awake14) := by
  unfold awake14
  apply bi <;> intro hb0
  · refine on0 400 [flushHear_c (awake14_x0), flushHear_c (awake14_x1), .callL (.bool true) [], .gd 23 true] (o_ (flushHear_eq (P2.mk (Pair.mk false false 0) (Pair.mk false false 0)) 0 (Msg.mk 11 false false false 3)) (o_ (flushHear_eq ((awake14_x0).1) 1 (Msg.mk 11 false false false 3)) (o_ (awake05_eq) (o_ hb0 o0)))) ?_ rfl; kernel_rfl
  · refine on0 400 [flushHear_c (awake14_x0), flushHear_c (awake14_x1), .callL (.bool true) [], .gd 23 false] (o_ (flushHear_eq (P2.mk (Pair.mk false false 0) (Pair.mk false false 0)) 0 (Msg.mk 11 false false false 3)) (o_ (flushHear_eq ((awake14_x0).1) 1 (Msg.mk 11 false false false 3)) (o_ (awake05_eq) (o_ hb0 o0)))) ?_ rfl; kernel_rfl

theorem awake14_ok : AOn Tryz.prog 30 [] [] (.bool true) [] := by
  have h := awake14_eq; unfold awake14_G at h
  rw [show awake14 = true by kernel_rfl] at h; exact h

def awake15_x0 : Burst × Bool := burstTick (burstBegin (Burst.mk 2 5 0 false 0) 10) 10
def awake15_x1 : Burst × Bool := burstTick ((burstTick ((awake15_x0).1) 11).1) 12
def awake15 : Bool :=
  bif ((awake15_x0).2) && (!((burstTick ((awake15_x0).1) 11).2)) then
    (awake15_x1).2
  else
    false
def awake15_G (r : Bool) : Prop := AOn Tryz.prog 31 [] [] (.bool r) []
theorem awake15_eq : awake15_G (awake15) := by
  unfold awake15
  refine byAnd ?_
  apply bi <;> intro hb0
  · apply bi <;> intro hb1
    · refine on0 400 [.inl, .inl, .inl, .lit, burstBegin_c (burstBegin (Burst.mk 2 5 0 false 0) 10), burstTick_c (awake15_x0), burstTick_c (burstTick ((awake15_x0).1) 11), burstTick_c (awake15_x1), .gd 33 true, .gd 37 true] (o_ (burstBegin_eq (Burst.mk 2 5 0 false 0) 10) (o_ (burstTick_eq (burstBegin (Burst.mk 2 5 0 false 0) 10) 10) (o_ (burstTick_eq ((awake15_x0).1) 11) (o_ (burstTick_eq ((burstTick ((awake15_x0).1) 11).1) 12) (o_ hb0 (o_ hb1 o0)))))) ?_ rfl; kernel_rfl
    · refine on0 400 [.inl, .inl, .inl, .lit, burstBegin_c (burstBegin (Burst.mk 2 5 0 false 0) 10), burstTick_c (awake15_x0), burstTick_c (burstTick ((awake15_x0).1) 11), burstTick_c (awake15_x1), .gd 33 true, .gd 37 false] (o_ (burstBegin_eq (Burst.mk 2 5 0 false 0) 10) (o_ (burstTick_eq (burstBegin (Burst.mk 2 5 0 false 0) 10) 10) (o_ (burstTick_eq ((awake15_x0).1) 11) (o_ (burstTick_eq ((burstTick ((awake15_x0).1) 11).1) 12) (o_ hb0 (o_ hb1 o0)))))) ?_ rfl; kernel_rfl
  · refine on0 400 [.inl, .inl, .inl, .lit, burstBegin_c (burstBegin (Burst.mk 2 5 0 false 0) 10), burstTick_c (awake15_x0), burstTick_c (burstTick ((awake15_x0).1) 11), burstTick_c (awake15_x1), .gd 33 false] (o_ (burstBegin_eq (Burst.mk 2 5 0 false 0) 10) (o_ (burstTick_eq (burstBegin (Burst.mk 2 5 0 false 0) 10) 10) (o_ (burstTick_eq ((awake15_x0).1) 11) (o_ (burstTick_eq ((burstTick ((awake15_x0).1) 11).1) 12) (o_ hb0 o0))))) ?_ rfl; kernel_rfl

theorem awake15_ok : AOn Tryz.prog 31 [] [] (.bool true) [] := by
  have h := awake15_eq; unfold awake15_G at h
  rw [show awake15 = true by kernel_rfl] at h; exact h

def awake16_x0 : Int := planCheck (Plan.mk 4 0 7 10 20 2 0 5 20 10 1 6 100 16 16 true)
def awake16 : Bool :=
  (awake16_x0) == 0
def awake16_G (r : Bool) : Prop := AOn Tryz.prog 32 [] [] (.bool r) []
theorem awake16_eq : awake16_G (awake16) := by
  unfold awake16
  refine byBool ?_
  apply bi <;> intro hb0
  · refine on0 400 [.inl, .inl, .inl, planCheck_c (awake16_x0), .gd 8 true, .lit, .lit, .callL (.bool true) [], .callL (.bool true) [], planCheck_c (awake16_x0), .gd 19 true] (o_ (planCheck_eq (Plan.mk 4 0 7 10 20 2 0 5 20 10 1 6 100 16 16 true)) (o_ hb0 (o_ (awake02_eq) (o_ (awake06_eq) (o_ (planCheck_eq (Plan.mk 4 0 7 10 20 2 0 5 20 10 1 6 100 16 16 true)) (o_ hb0 o0)))))) ?_ rfl; kernel_rfl
  · refine on0 400 [.inl, .inl, .inl, planCheck_c (awake16_x0), .gd 8 false, .lit, .callL (.bool true) [], .callL (.bool true) [], planCheck_c (awake16_x0), .gd 19 false] (o_ (planCheck_eq (Plan.mk 4 0 7 10 20 2 0 5 20 10 1 6 100 16 16 true)) (o_ hb0 (o_ (awake02_eq) (o_ (awake06_eq) (o_ (planCheck_eq (Plan.mk 4 0 7 10 20 2 0 5 20 10 1 6 100 16 16 true)) (o_ hb0 o0)))))) ?_ rfl; kernel_rfl

theorem awake16_ok : AOn Tryz.prog 32 [] [] (.bool true) [] := by
  have h := awake16_eq; unfold awake16_G at h
  rw [show awake16 = true by kernel_rfl] at h; exact h

def awake17_x0 : Nd × Int := erpsNew (Plan.mk 4 0 7 10 20 2 0 5 20 10 1 6 100 16 16 true) 2 0
def awake17_x1 : Nd × Bool := hear ((awake17_x0).1) 1 0 (Msg.mk 0 true false false 1)
def awake17 : Bool :=
  bif (((awake17_x0).2) == 0) && (((((awake17_x0).1).state) == 4) && (((((((awake17_x0).1).shut).w) == false) && ((((((awake17_x0).1).shut).e) == true) && true)) && ((((awake17_x1).1).state) == 0))) then
    (((((awake17_x1).1).shut).w) == false) && ((((((awake17_x1).1).shut).e) == false) && true)
  else
    false
def awake17_G (r : Bool) : Prop := AOn Tryz.prog 7 [] [] (.bool r) []
theorem awake17_eq : awake17_G (awake17) := by
  unfold awake17
  refine byAnd ?_
  apply bi <;> intro hb0
  · refine byAnd ?_
    apply bi <;> intro hb1
    · refine byAnd ?_
      apply bi <;> intro hb2
      · apply bi <;> intro hb3
        · refine on0 400 [.inl, erpsNew_c (awake17_x0), hear_c (awake17_x1), .callL (.bool true) [], .callL (.bool true) [], .callL (.bool true) [], .callL (.bool true) [], .callL (.bool true) [], .gd 33 true, .gd 38 true, .gd 44 true, .gd 49 true] (o_ (erpsNew_eq (Plan.mk 4 0 7 10 20 2 0 5 20 10 1 6 100 16 16 true) 2 0) (o_ (hear_eq ((awake17_x0).1) 1 0 (Msg.mk 0 true false false 1) (by have := (show (awake17_x0).1.role ≠ 0 → (awake17_x0).1.rpl = 0 ∨ (awake17_x0).1.rpl = 1 from erpsNew_role (Plan.mk 4 0 7 10 20 2 0 5 20 10 1 6 100 16 16 true) 2 0); first | omega | (simp only [zor, zand, zorf, zandf, znt, znf, zeq, zne, zeqf, znef, zd, zdf] at *; omega))) (o_ awake08_ok (o_ (awake13_eq) (o_ awake14_ok (o_ awake15_ok (o_ awake16_ok (o_ hb0 (o_ hb1 (o_ hb2 (o_ hb3 o0))))))))))) ?_ rfl; kernel_rfl
        · refine on0 400 [.inl, erpsNew_c (awake17_x0), hear_c (awake17_x1), .callL (.bool true) [], .callL (.bool true) [], .callL (.bool true) [], .callL (.bool true) [], .callL (.bool true) [], .gd 33 true, .gd 38 true, .gd 44 true, .gd 49 false] (o_ (erpsNew_eq (Plan.mk 4 0 7 10 20 2 0 5 20 10 1 6 100 16 16 true) 2 0) (o_ (hear_eq ((awake17_x0).1) 1 0 (Msg.mk 0 true false false 1) (by have := (show (awake17_x0).1.role ≠ 0 → (awake17_x0).1.rpl = 0 ∨ (awake17_x0).1.rpl = 1 from erpsNew_role (Plan.mk 4 0 7 10 20 2 0 5 20 10 1 6 100 16 16 true) 2 0); first | omega | (simp only [zor, zand, zorf, zandf, znt, znf, zeq, zne, zeqf, znef, zd, zdf] at *; omega))) (o_ awake08_ok (o_ (awake13_eq) (o_ awake14_ok (o_ awake15_ok (o_ awake16_ok (o_ hb0 (o_ hb1 (o_ hb2 (o_ hb3 o0))))))))))) ?_ rfl; kernel_rfl
      · refine on0 400 [.inl, erpsNew_c (awake17_x0), hear_c (awake17_x1), .callL (.bool true) [], .callL (.bool true) [], .callL (.bool true) [], .callL (.bool true) [], .callL (.bool true) [], .gd 33 true, .gd 38 true, .gd 44 false] (o_ (erpsNew_eq (Plan.mk 4 0 7 10 20 2 0 5 20 10 1 6 100 16 16 true) 2 0) (o_ (hear_eq ((awake17_x0).1) 1 0 (Msg.mk 0 true false false 1) (by have := (show (awake17_x0).1.role ≠ 0 → (awake17_x0).1.rpl = 0 ∨ (awake17_x0).1.rpl = 1 from erpsNew_role (Plan.mk 4 0 7 10 20 2 0 5 20 10 1 6 100 16 16 true) 2 0); first | omega | (simp only [zor, zand, zorf, zandf, znt, znf, zeq, zne, zeqf, znef, zd, zdf] at *; omega))) (o_ awake08_ok (o_ (awake13_eq) (o_ awake14_ok (o_ awake15_ok (o_ awake16_ok (o_ hb0 (o_ hb1 (o_ hb2 o0)))))))))) ?_ rfl; kernel_rfl
    · refine on0 400 [.inl, erpsNew_c (awake17_x0), hear_c (awake17_x1), .callL (.bool true) [], .callL (.bool true) [], .callL (.bool true) [], .callL (.bool true) [], .callL (.bool true) [], .gd 33 true, .gd 38 false] (o_ (erpsNew_eq (Plan.mk 4 0 7 10 20 2 0 5 20 10 1 6 100 16 16 true) 2 0) (o_ (hear_eq ((awake17_x0).1) 1 0 (Msg.mk 0 true false false 1) (by have := (show (awake17_x0).1.role ≠ 0 → (awake17_x0).1.rpl = 0 ∨ (awake17_x0).1.rpl = 1 from erpsNew_role (Plan.mk 4 0 7 10 20 2 0 5 20 10 1 6 100 16 16 true) 2 0); first | omega | (simp only [zor, zand, zorf, zandf, znt, znf, zeq, zne, zeqf, znef, zd, zdf] at *; omega))) (o_ awake08_ok (o_ (awake13_eq) (o_ awake14_ok (o_ awake15_ok (o_ awake16_ok (o_ hb0 (o_ hb1 o0))))))))) ?_ rfl; kernel_rfl
  · refine on0 400 [.inl, erpsNew_c (awake17_x0), hear_c (awake17_x1), .callL (.bool true) [], .callL (.bool true) [], .callL (.bool true) [], .callL (.bool true) [], .callL (.bool true) [], .gd 33 false] (o_ (erpsNew_eq (Plan.mk 4 0 7 10 20 2 0 5 20 10 1 6 100 16 16 true) 2 0) (o_ (hear_eq ((awake17_x0).1) 1 0 (Msg.mk 0 true false false 1) (by have := (show (awake17_x0).1.role ≠ 0 → (awake17_x0).1.rpl = 0 ∨ (awake17_x0).1.rpl = 1 from erpsNew_role (Plan.mk 4 0 7 10 20 2 0 5 20 10 1 6 100 16 16 true) 2 0); first | omega | (simp only [zor, zand, zorf, zandf, znt, znf, zeq, zne, zeqf, znef, zd, zdf] at *; omega))) (o_ awake08_ok (o_ (awake13_eq) (o_ awake14_ok (o_ awake15_ok (o_ awake16_ok (o_ hb0 o0)))))))) ?_ rfl; kernel_rfl

theorem awake17_ok : AOn Tryz.prog 7 [] [] (.bool true) [] := by
  have h := awake17_eq; unfold awake17_G at h
  rw [show awake17 = true by kernel_rfl] at h; exact h

end Go.Proofs.E17

namespace Go.Proofs.E17
open Go Go.AX Go.Proofs
set_option maxRecDepth 1000000
set_option linter.unusedVariables false
set_option linter.unusedSimpArgs false

structure Act17 where
  kind : Int
  later : Int
  order : Int
  port : Int
  bad : Bool
  m : Msg
def Act17.enc (x : Act17) : List Value := [.int .u8 x.kind, .int .u16 x.later, .int .i64 x.order, .int .i64 x.port, .bool x.bad, .int .u8 x.m.req, .bool x.m.block, .bool x.m.keep, .bool x.m.east, .int .u64 x.m.node]
theorem Act17_len (x : Act17) : (Act17.enc x).length = 10 := rfl
theorem Act17_bare (x : Act17) : (Act17.enc x).all (okIds fun _ => false) = true := rfl
instance : Inhabited Act17 := ⟨⟨0, 0, 0, 0, false, ⟨0, false, false, false, 0⟩⟩⟩

end Go.Proofs.E17

namespace Go.Proofs.E17
open Go Go.AX Go.Proofs
set_option maxRecDepth 1000000
set_option linter.unusedVariables false
set_option linter.unusedSimpArgs false

def Plan.wf (x : Plan) : Prop := (IntKind.min .i64 ≤ x.nodes ∧ x.nodes ≤ IntKind.max .i64) ∧ (IntKind.min .i64 ≤ x.owner ∧ x.owner ≤ IntKind.max .i64) ∧ (IntKind.min .u8 ≤ x.level ∧ x.level ≤ IntKind.max .u8) ∧ (IntKind.min .u16 ≤ x.data ∧ x.data ≤ IntKind.max .u16) ∧ (IntKind.min .u16 ≤ x.ring ∧ x.ring ≤ IntKind.max .u16) ∧ (IntKind.min .i64 ≤ x.interval ∧ x.interval ≤ IntKind.max .i64) ∧ (IntKind.min .i64 ≤ x.hold ∧ x.hold ≤ IntKind.max .i64) ∧ (IntKind.min .i64 ≤ x.guard ∧ x.guard ≤ IntKind.max .i64) ∧ (IntKind.min .i64 ≤ x.rest ∧ x.rest ≤ IntKind.max .i64) ∧ (IntKind.min .i64 ≤ x.wait ∧ x.wait ≤ IntKind.max .i64) ∧ (IntKind.min .i64 ≤ x.gap ∧ x.gap ≤ IntKind.max .i64) ∧ (IntKind.min .i64 ≤ x.period ∧ x.period ≤ IntKind.max .i64) ∧ (IntKind.min .i64 ≤ x.age ∧ x.age ≤ IntKind.max .i64) ∧ (IntKind.min .i64 ≤ x.room ∧ x.room ≤ IntKind.max .i64) ∧ (IntKind.min .i64 ≤ x.queue ∧ x.queue ≤ IntKind.max .i64)
theorem Plan_of {cs : List Value} (h0 : Fits [.i .i64, .i .i64, .i .u8, .i .u16, .i .u16, .i .i64, .i .i64, .i .i64, .i .i64, .i .i64, .i .i64, .i .i64, .i .i64, .i .i64, .i .i64, .b] cs) : ∃ x : Plan, cs = x.enc ∧ x.wf := by
  obtain ⟨_, _, rfl, ⟨v0, rfl, w0⟩, h1⟩ := h0.cons
  obtain ⟨_, _, rfl, ⟨v1, rfl, w1⟩, h2⟩ := h1.cons
  obtain ⟨_, _, rfl, ⟨v2, rfl, w2⟩, h3⟩ := h2.cons
  obtain ⟨_, _, rfl, ⟨v3, rfl, w3⟩, h4⟩ := h3.cons
  obtain ⟨_, _, rfl, ⟨v4, rfl, w4⟩, h5⟩ := h4.cons
  obtain ⟨_, _, rfl, ⟨v5, rfl, w5⟩, h6⟩ := h5.cons
  obtain ⟨_, _, rfl, ⟨v6, rfl, w6⟩, h7⟩ := h6.cons
  obtain ⟨_, _, rfl, ⟨v7, rfl, w7⟩, h8⟩ := h7.cons
  obtain ⟨_, _, rfl, ⟨v8, rfl, w8⟩, h9⟩ := h8.cons
  obtain ⟨_, _, rfl, ⟨v9, rfl, w9⟩, h10⟩ := h9.cons
  obtain ⟨_, _, rfl, ⟨v10, rfl, w10⟩, h11⟩ := h10.cons
  obtain ⟨_, _, rfl, ⟨v11, rfl, w11⟩, h12⟩ := h11.cons
  obtain ⟨_, _, rfl, ⟨v12, rfl, w12⟩, h13⟩ := h12.cons
  obtain ⟨_, _, rfl, ⟨v13, rfl, w13⟩, h14⟩ := h13.cons
  obtain ⟨_, _, rfl, ⟨v14, rfl, w14⟩, h15⟩ := h14.cons
  obtain ⟨_, _, rfl, ⟨v15, rfl⟩, h16⟩ := h15.cons
  obtain rfl := h16.nil
  exact ⟨⟨v0, v1, v2, v3, v4, v5, v6, v7, v8, v9, v10, v11, v12, v13, v14, v15⟩, rfl, ⟨w0, w1, w2, w3, w4, w5, w6, w7, w8, w9, w10, w11, w12, w13, w14⟩⟩

def Msg.wf (x : Msg) : Prop := (IntKind.min .u8 ≤ x.req ∧ x.req ≤ IntKind.max .u8) ∧ (IntKind.min .u64 ≤ x.node ∧ x.node ≤ IntKind.max .u64)
theorem Msg_of {cs : List Value} (h0 : Fits [.i .u8, .b, .b, .b, .i .u64] cs) : ∃ x : Msg, cs = x.enc ∧ x.wf := by
  obtain ⟨_, _, rfl, ⟨v0, rfl, w0⟩, h1⟩ := h0.cons
  obtain ⟨_, _, rfl, ⟨v1, rfl⟩, h2⟩ := h1.cons
  obtain ⟨_, _, rfl, ⟨v2, rfl⟩, h3⟩ := h2.cons
  obtain ⟨_, _, rfl, ⟨v3, rfl⟩, h4⟩ := h3.cons
  obtain ⟨_, _, rfl, ⟨v4, rfl, w4⟩, h5⟩ := h4.cons
  obtain rfl := h5.nil
  exact ⟨⟨v0, v1, v2, v3, v4⟩, rfl, ⟨w0, w4⟩⟩

def Act17.wf (x : Act17) : Prop := (IntKind.min .u8 ≤ x.kind ∧ x.kind ≤ IntKind.max .u8) ∧ (IntKind.min .u16 ≤ x.later ∧ x.later ≤ IntKind.max .u16) ∧ (IntKind.min .i64 ≤ x.order ∧ x.order ≤ IntKind.max .i64) ∧ (IntKind.min .i64 ≤ x.port ∧ x.port ≤ IntKind.max .i64) ∧ (IntKind.min .u8 ≤ x.m.req ∧ x.m.req ≤ IntKind.max .u8) ∧ (IntKind.min .u64 ≤ x.m.node ∧ x.m.node ≤ IntKind.max .u64)
theorem Act17_of {cs : List Value} (h0 : Fits [.i .u8, .i .u16, .i .i64, .i .i64, .b, .i .u8, .b, .b, .b, .i .u64] cs) : ∃ x : Act17, cs = x.enc ∧ x.wf := by
  obtain ⟨_, _, rfl, ⟨v0, rfl, w0⟩, h1⟩ := h0.cons
  obtain ⟨_, _, rfl, ⟨v1, rfl, w1⟩, h2⟩ := h1.cons
  obtain ⟨_, _, rfl, ⟨v2, rfl, w2⟩, h3⟩ := h2.cons
  obtain ⟨_, _, rfl, ⟨v3, rfl, w3⟩, h4⟩ := h3.cons
  obtain ⟨_, _, rfl, ⟨v4, rfl⟩, h5⟩ := h4.cons
  obtain ⟨_, _, rfl, ⟨v5, rfl, w5⟩, h6⟩ := h5.cons
  obtain ⟨_, _, rfl, ⟨v6, rfl⟩, h7⟩ := h6.cons
  obtain ⟨_, _, rfl, ⟨v7, rfl⟩, h8⟩ := h7.cons
  obtain ⟨_, _, rfl, ⟨v8, rfl⟩, h9⟩ := h8.cons
  obtain ⟨_, _, rfl, ⟨v9, rfl, w9⟩, h10⟩ := h9.cons
  obtain rfl := h10.nil
  exact ⟨⟨v0, v1, v2, v3, v4, ⟨v5, v6, v7, v8, v9⟩⟩, rfl, ⟨w0, w1, w2, w3, w5, w9⟩⟩

end Go.Proofs.E17

namespace Go.Proofs.E17
open Go Go.ChangeShapes Go.WideShapes Go.ChangeAt Go.RowKit Go.AX Go.Proofs
set_option maxRecDepth 1000000
set_option linter.unusedVariables false
set_option linter.unusedSimpArgs false

theorem own : ownKnob Tryz.prog.godebug = none := by kernel_rfl
theorem kids : Kids Tryz.prog (· < Tryz.prog.types.size) := kids_rows (by kernel_rfl) (by kernel_rfl)
theorem full : ∀ t e, t < Tryz.prog.types.size → Tryz.prog.underlying t = some (.slice e) → 0 < Tryz.prog.cellsOf e := slices_full_of Tryz.prog (by kernel_rfl)
theorem u64min : IntKind.min .u64 = 0 := by decide

end Go.Proofs.E17

namespace Go.Proofs.E17
open Go Go.AX Go.Proofs
set_option maxRecDepth 1000000
set_option linter.unusedVariables false
set_option linter.unusedSimpArgs false

def MeOk (n : Nd) : Prop := 0 ≤ n.me ∧ rapsWrong (Msg.mk 0 false false false n.me) = 0
def MsgOk (m : Msg) : Prop := m.req = 0 ∨ (m.req = 7 ∨ m.req = 11 ∨ m.req = 13) ∧ m.block = false
def StP (s o : Int) : Prop := (s = 0 → o = 14) ∧ (o = 1 → s = 3) ∧ (o = 7 → s = 2) ∧ 0 ≤ s ∧ s ≤ 4
def SayI (n : Nd) : Prop := (n.burst.on = true → n.say.node = n.me ∧ mayMsg n.say = true) ∧ (n.burst.on = false → n.say = Msg.mk 0 false false false 0)
structure Inv (n : Nd) : Prop where
  role : RoleOk n
  me : MeOk n
  st : StP n.state n.own
  say : SayI n
theorem Same.meOk {a b : Nd} (s : Same a b) (k : MeOk a) : MeOk b := by
  unfold MeOk at *
  rw [s.1]; exact k
theorem mayMsg_of (m : Msg) (x : Int) (h : rapsWrong (Msg.mk 0 false false false x) = 0) (hm : MsgOk m) : mayMsg { m with node := x } = true := by
  obtain ⟨r, b, k, e, y⟩ := m
  have hw : rapsWrong (Msg.mk r b k e x) = 0 := by
    have h' := h
    unfold rapsWrong at h' ⊢
    rcases hm with hm | ⟨hm | hm | hm, hb⟩
    all_goals (first | (have hm' : r = _ := hm; subst hm'; first | (have hb' : b = _ := hb; subst hb'; exact h') | exact h'))
  unfold mayMsg rapsClose
  cases b <;> cases k <;> cases e <;> simp [hw]
theorem says_say (n : Nd) (now : Int) (m : Msg) (hme : MeOk n) (hm : MsgOk m) : SayI (says n now m) :=
  ⟨fun _ => ⟨rfl, mayMsg_of m n.me hme.2 hm⟩, fun h => Bool.noConfusion h⟩
theorem silence_say (n : Nd) : SayI (silence n) := ⟨fun h => Bool.noConfusion h, fun _ => rfl⟩
theorem says_st (n : Nd) (now : Int) (m : Msg) (h : StP n.state n.own) : StP (says n now m).state (says n now m).own := h
theorem silence_st (n : Nd) (h : StP n.state n.own) : StP (silence n).state (silence n).own := h

theorem start0_say (n : Nd) (now : Int) (length : Int) (h : SayI n) : SayI (start0 n now length) := by
  let G : Nd → Prop := fun r => SayI r
  show G (start0 n now length)
  unfold start0
  apply bi <;> intro _
  exact h
  exact h

theorem start0_st (n : Nd) (now : Int) (length : Int) (h : StP n.state n.own) : StP (start0 n now length).state (start0 n now length).own := by
  let G : Nd → Prop := fun r => StP r.state r.own
  show G (start0 n now length)
  unfold start0
  apply bi <;> intro _
  exact h
  exact h

theorem start1_say (n : Nd) (now : Int) (length : Int) (h : SayI n) : SayI (start1 n now length) := by
  let G : Nd → Prop := fun r => SayI r
  show G (start1 n now length)
  unfold start1
  apply bi <;> intro _
  exact h
  exact h

theorem start1_st (n : Nd) (now : Int) (length : Int) (h : StP n.state n.own) : StP (start1 n now length).state (start1 n now length).own := by
  let G : Nd → Prop := fun r => StP r.state r.own
  show G (start1 n now length)
  unfold start1
  apply bi <;> intro _
  exact h
  exact h

theorem start2_say (n : Nd) (now : Int) (length : Int) (h : SayI n) : SayI (start2 n now length) := by
  let G : Nd → Prop := fun r => SayI r
  show G (start2 n now length)
  unfold start2
  apply bi <;> intro _
  exact h
  exact h

theorem start2_st (n : Nd) (now : Int) (length : Int) (h : StP n.state n.own) : StP (start2 n now length).state (start2 n now length).own := by
  let G : Nd → Prop := fun r => StP r.state r.own
  show G (start2 n now length)
  unfold start2
  apply bi <;> intro _
  exact h
  exact h

theorem openSound_say (n : Nd) (h : SayI n) : SayI (openSound n) := by
  let G : Nd → Prop := fun r => SayI r
  show G (openSound n)
  unfold openSound
  apply bi <;> intro _
  apply bi <;> intro _
  exact h
  exact h
  apply bi <;> intro _
  exact h
  exact h

theorem openSound_st (n : Nd) (h : StP n.state n.own) : StP (openSound n).state (openSound n).own := by
  let G : Nd → Prop := fun r => StP r.state r.own
  show G (openSound n)
  unfold openSound
  apply bi <;> intro _
  apply bi <;> intro _
  exact h
  exact h
  apply bi <;> intro _
  exact h
  exact h

theorem waitFor1_say (n : Nd) (now : Int) (length : Int) (h : SayI n) : SayI (waitFor1 n now length) := by
  let G : Nd → Prop := fun r => SayI r
  show G (waitFor1 n now length)
  unfold waitFor1
  apply bi <;> intro _
  exact (start1_say n now length h)
  exact h

theorem waitFor1_st (n : Nd) (now : Int) (length : Int) (h : StP n.state n.own) : StP (waitFor1 n now length).state (waitFor1 n now length).own := by
  let G : Nd → Prop := fun r => StP r.state r.own
  show G (waitFor1 n now length)
  unfold waitFor1
  apply bi <;> intro _
  exact (start1_st n now length h)
  exact h

theorem waitFor2_say (n : Nd) (now : Int) (length : Int) (h : SayI n) : SayI (waitFor2 n now length) := by
  let G : Nd → Prop := fun r => SayI r
  show G (waitFor2 n now length)
  unfold waitFor2
  apply bi <;> intro _
  exact (start2_say n now length h)
  exact h

theorem waitFor2_st (n : Nd) (now : Int) (length : Int) (h : StP n.state n.own) : StP (waitFor2 n now length).state (waitFor2 n now length).own := by
  let G : Nd → Prop := fun r => StP r.state r.own
  show G (waitFor2 n now length)
  unfold waitFor2
  apply bi <;> intro _
  exact (start2_st n now length h)
  exact h

theorem homeFar_say (n : Nd) (h : SayI n) : SayI (homeFar n) := by
  let G : Nd → Prop := fun r => SayI r
  show G (homeFar n)
  unfold homeFar
  apply bi <;> intro _
  apply bi <;> intro _
  exact (silence_say ({ (openSound n) with shut := { ((openSound n).shut) with w := true } }))
  exact (silence_say ({ (openSound n) with shut := { ((openSound n).shut) with e := true } }))
  exact (silence_say (openSound n))

theorem homeFar_st (n : Nd) (h : StP n.state n.own) : StP (homeFar n).state (homeFar n).own := by
  let G : Nd → Prop := fun r => StP r.state r.own
  show G (homeFar n)
  unfold homeFar
  apply bi <;> intro _
  apply bi <;> intro _
  exact (silence_st ({ (openSound n) with shut := { ((openSound n).shut) with w := true } }) (openSound_st n h))
  exact (silence_st ({ (openSound n) with shut := { ((openSound n).shut) with e := true } }) (openSound_st n h))
  exact (silence_st (openSound n) (openSound_st n h))

theorem take_say (n : Nd) (now : Int) (port : Int) (m : Msg) (bad : Bool) (hme : MeOk n) (hm : MsgOk m) : SayI ((take n now port m bad).1) := by
  let G : Nd × Bool → Prop := fun r => SayI r.1
  show G (take n now port m bad)
  unfold take
  apply bi <;> intro _
  apply bi <;> intro _
  exact (says_say { n with shut := (B2.mk true (bad && n.bad.e)) } now { m with keep := n.shut.w, east := false } ((Same.refl n).meOk hme) hm)
  exact (says_say { n with shut := (B2.mk true false) } now { m with keep := n.shut.w, east := false } ((Same.refl n).meOk hme) hm)
  apply bi <;> intro _
  exact (says_say { n with shut := (B2.mk (bad && n.bad.w) true) } now { m with keep := n.shut.e, east := true } ((Same.refl n).meOk hme) hm)
  exact (says_say { n with shut := (B2.mk false true) } now { m with keep := n.shut.e, east := true } ((Same.refl n).meOk hme) hm)

theorem take_st (n : Nd) (now : Int) (port : Int) (m : Msg) (bad : Bool) (h : StP n.state n.own) : StP (take n now port m bad).1.state (take n now port m bad).1.own := by
  let G : Nd × Bool → Prop := fun r => StP r.1.state r.1.own
  show G (take n now port m bad)
  unfold take
  apply bi <;> intro _
  apply bi <;> intro _
  exact (says_st { n with shut := (B2.mk true (bad && n.bad.e)) } now { m with keep := n.shut.w, east := false } h)
  exact (says_st { n with shut := (B2.mk true false) } now { m with keep := n.shut.w, east := false } h)
  apply bi <;> intro _
  exact (says_st { n with shut := (B2.mk (bad && n.bad.w) true) } now { m with keep := n.shut.e, east := true } h)
  exact (says_st { n with shut := (B2.mk false true) } now { m with keep := n.shut.e, east := true } h)

theorem ask3_inv (n : Nd) (now : Int) (port : Int) (fro : Int) (h : Inv n) : Inv ((ask3 n now port fro).1) := by
  let G : Nd × Bool × Bool → Prop := fun r => Inv r.1
  show G (ask3 n now port fro)
  unfold ask3
  apply bi <;> intro _
  exact h
  apply bi <;> intro _
  apply bi <;> intro _
  exact (Inv.mk (((Same.refl n).trans (take_same n now port (Msg.mk 11 false false false 0) true)).roleOk h.role) (((Same.refl n).trans (take_same n now port (Msg.mk 11 false false false 0) true)).meOk h.me) (show StP 1 14 by unfold StP; decide) (take_say n now port (Msg.mk 11 false false false 0) true h.me (.inr ⟨.inr (.inl rfl), rfl⟩)))
  exact (Inv.mk (((Same.refl n).trans (take_same n now port (Msg.mk 11 false false false 0) true)).roleOk h.role) (((Same.refl n).trans (take_same n now port (Msg.mk 11 false false false 0) true)).meOk h.me) (show StP 1 14 by unfold StP; decide) (take_say n now port (Msg.mk 11 false false false 0) true h.me (.inr ⟨.inr (.inl rfl), rfl⟩)))
  apply bi <;> intro _
  exact h
  apply bi <;> intro _
  apply bi <;> intro _
  exact (Inv.mk (((Same.refl n).trans (take_same n now port (Msg.mk 11 false false false 0) true)).roleOk h.role) (((Same.refl n).trans (take_same n now port (Msg.mk 11 false false false 0) true)).meOk h.me) (show StP 1 14 by unfold StP; decide) (take_say n now port (Msg.mk 11 false false false 0) true h.me (.inr ⟨.inr (.inl rfl), rfl⟩)))
  exact (Inv.mk (((Same.refl n).trans (take_same n now port (Msg.mk 11 false false false 0) true)).roleOk h.role) (((Same.refl n).trans (take_same n now port (Msg.mk 11 false false false 0) true)).meOk h.me) (show StP 1 14 by unfold StP; decide) (take_say n now port (Msg.mk 11 false false false 0) true h.me (.inr ⟨.inr (.inl rfl), rfl⟩)))
  exact h

theorem ask0_inv (n : Nd) (now : Int) (port : Int) (fro : Int) (h : Inv n) : Inv ((ask0 n now port fro).1) := by
  let G : Nd × Bool × Bool → Prop := fun r => Inv r.1
  show G (ask0 n now port fro)
  unfold ask0
  apply bi <;> intro _
  exact h
  apply bi <;> intro _
  apply bi <;> intro _
  exact h
  apply bi <;> intro _
  exact (Inv.mk (((Same.refl n).trans (take_same n now n.rpl (Msg.mk 0 true false false 0) true)).roleOk h.role) (((Same.refl n).trans (take_same n now n.rpl (Msg.mk 0 true false false 0) true)).meOk h.me) (show StP 0 14 by unfold StP; decide) (take_say n now n.rpl (Msg.mk 0 true false false 0) true h.me (.inl rfl)))
  exact (Inv.mk (((Same.refl n).trans (take_same n now n.rpl (Msg.mk 0 true false false 0) true)).roleOk h.role) (((Same.refl n).trans (take_same n now n.rpl (Msg.mk 0 true false false 0) true)).meOk h.me) (show StP 0 14 by unfold StP; decide) (take_say n now n.rpl (Msg.mk 0 true false false 0) true h.me (.inl rfl)))
  apply bi <;> intro _
  exact h
  apply bi <;> intro _
  apply bi <;> intro _
  apply bi <;> intro _
  apply bi <;> intro _
  apply bi <;> intro _
  apply bi <;> intro _
  exact (ask3_inv ((ask0_x3 n now port fro).1) now 1 0 (ask3_inv { (ask0_x2 n now port fro) with state := 4, own := 14 } now 0 0 (Inv.mk (((((Same.refl n).trans (start0_same n now n.guard)).trans (says_same (start0 n now n.guard) now (Msg.mk 0 false false ((((start0 n now n.guard).shut).e) && (!(((start0 n now n.guard).shut).w))) 0))).trans (waitFor2_same (ask0_x1 n now port fro) now n.wait)).roleOk h.role) (((((Same.refl n).trans (start0_same n now n.guard)).trans (says_same (start0 n now n.guard) now (Msg.mk 0 false false ((((start0 n now n.guard).shut).e) && (!(((start0 n now n.guard).shut).w))) 0))).trans (waitFor2_same (ask0_x1 n now port fro) now n.wait)).meOk h.me) (show StP 4 14 by unfold StP; decide) (waitFor2_say (ask0_x1 n now port fro) now n.wait (says_say (start0 n now n.guard) now (Msg.mk 0 false false ((((start0 n now n.guard).shut).e) && (!(((start0 n now n.guard).shut).w))) 0) (((Same.refl n).trans (start0_same n now n.guard)).meOk h.me) (.inl rfl))))))
  exact (ask3_inv { (ask0_x2 n now port fro) with state := 4, own := 14 } now 0 0 (Inv.mk (((((Same.refl n).trans (start0_same n now n.guard)).trans (says_same (start0 n now n.guard) now (Msg.mk 0 false false ((((start0 n now n.guard).shut).e) && (!(((start0 n now n.guard).shut).w))) 0))).trans (waitFor2_same (ask0_x1 n now port fro) now n.wait)).roleOk h.role) (((((Same.refl n).trans (start0_same n now n.guard)).trans (says_same (start0 n now n.guard) now (Msg.mk 0 false false ((((start0 n now n.guard).shut).e) && (!(((start0 n now n.guard).shut).w))) 0))).trans (waitFor2_same (ask0_x1 n now port fro) now n.wait)).meOk h.me) (show StP 4 14 by unfold StP; decide) (waitFor2_say (ask0_x1 n now port fro) now n.wait (says_say (start0 n now n.guard) now (Msg.mk 0 false false ((((start0 n now n.guard).shut).e) && (!(((start0 n now n.guard).shut).w))) 0) (((Same.refl n).trans (start0_same n now n.guard)).meOk h.me) (.inl rfl)))))
  apply bi <;> intro _
  apply bi <;> intro _
  exact (ask3_inv ((ask0_x3 n now port fro).1) now 1 0 (ask3_inv { (ask0_x2 n now port fro) with state := 4, own := 14 } now 0 0 (Inv.mk (((((Same.refl n).trans (start0_same n now n.guard)).trans (says_same (start0 n now n.guard) now (Msg.mk 0 false false ((((start0 n now n.guard).shut).e) && (!(((start0 n now n.guard).shut).w))) 0))).trans (waitFor2_same (ask0_x1 n now port fro) now n.wait)).roleOk h.role) (((((Same.refl n).trans (start0_same n now n.guard)).trans (says_same (start0 n now n.guard) now (Msg.mk 0 false false ((((start0 n now n.guard).shut).e) && (!(((start0 n now n.guard).shut).w))) 0))).trans (waitFor2_same (ask0_x1 n now port fro) now n.wait)).meOk h.me) (show StP 4 14 by unfold StP; decide) (waitFor2_say (ask0_x1 n now port fro) now n.wait (says_say (start0 n now n.guard) now (Msg.mk 0 false false ((((start0 n now n.guard).shut).e) && (!(((start0 n now n.guard).shut).w))) 0) (((Same.refl n).trans (start0_same n now n.guard)).meOk h.me) (.inl rfl))))))
  exact (ask3_inv ((ask0_x3 n now port fro).1) now 1 0 (ask3_inv { (ask0_x2 n now port fro) with state := 4, own := 14 } now 0 0 (Inv.mk (((((Same.refl n).trans (start0_same n now n.guard)).trans (says_same (start0 n now n.guard) now (Msg.mk 0 false false ((((start0 n now n.guard).shut).e) && (!(((start0 n now n.guard).shut).w))) 0))).trans (waitFor2_same (ask0_x1 n now port fro) now n.wait)).roleOk h.role) (((((Same.refl n).trans (start0_same n now n.guard)).trans (says_same (start0 n now n.guard) now (Msg.mk 0 false false ((((start0 n now n.guard).shut).e) && (!(((start0 n now n.guard).shut).w))) 0))).trans (waitFor2_same (ask0_x1 n now port fro) now n.wait)).meOk h.me) (show StP 4 14 by unfold StP; decide) (waitFor2_say (ask0_x1 n now port fro) now n.wait (says_say (start0 n now n.guard) now (Msg.mk 0 false false ((((start0 n now n.guard).shut).e) && (!(((start0 n now n.guard).shut).w))) 0) (((Same.refl n).trans (start0_same n now n.guard)).meOk h.me) (.inl rfl))))))
  exact (ask3_inv { (ask0_x2 n now port fro) with state := 4, own := 14 } now 0 0 (Inv.mk (((((Same.refl n).trans (start0_same n now n.guard)).trans (says_same (start0 n now n.guard) now (Msg.mk 0 false false ((((start0 n now n.guard).shut).e) && (!(((start0 n now n.guard).shut).w))) 0))).trans (waitFor2_same (ask0_x1 n now port fro) now n.wait)).roleOk h.role) (((((Same.refl n).trans (start0_same n now n.guard)).trans (says_same (start0 n now n.guard) now (Msg.mk 0 false false ((((start0 n now n.guard).shut).e) && (!(((start0 n now n.guard).shut).w))) 0))).trans (waitFor2_same (ask0_x1 n now port fro) now n.wait)).meOk h.me) (show StP 4 14 by unfold StP; decide) (waitFor2_say (ask0_x1 n now port fro) now n.wait (says_say (start0 n now n.guard) now (Msg.mk 0 false false ((((start0 n now n.guard).shut).e) && (!(((start0 n now n.guard).shut).w))) 0) (((Same.refl n).trans (start0_same n now n.guard)).meOk h.me) (.inl rfl)))))
  apply bi <;> intro _
  apply bi <;> intro _
  exact (ask3_inv { (ask0_x2 n now port fro) with state := 4, own := 14 } now 1 0 (Inv.mk (((((Same.refl n).trans (start0_same n now n.guard)).trans (says_same (start0 n now n.guard) now (Msg.mk 0 false false ((((start0 n now n.guard).shut).e) && (!(((start0 n now n.guard).shut).w))) 0))).trans (waitFor2_same (ask0_x1 n now port fro) now n.wait)).roleOk h.role) (((((Same.refl n).trans (start0_same n now n.guard)).trans (says_same (start0 n now n.guard) now (Msg.mk 0 false false ((((start0 n now n.guard).shut).e) && (!(((start0 n now n.guard).shut).w))) 0))).trans (waitFor2_same (ask0_x1 n now port fro) now n.wait)).meOk h.me) (show StP 4 14 by unfold StP; decide) (waitFor2_say (ask0_x1 n now port fro) now n.wait (says_say (start0 n now n.guard) now (Msg.mk 0 false false ((((start0 n now n.guard).shut).e) && (!(((start0 n now n.guard).shut).w))) 0) (((Same.refl n).trans (start0_same n now n.guard)).meOk h.me) (.inl rfl)))))
  exact (ask3_inv { (ask0_x2 n now port fro) with state := 4, own := 14 } now 1 0 (Inv.mk (((((Same.refl n).trans (start0_same n now n.guard)).trans (says_same (start0 n now n.guard) now (Msg.mk 0 false false ((((start0 n now n.guard).shut).e) && (!(((start0 n now n.guard).shut).w))) 0))).trans (waitFor2_same (ask0_x1 n now port fro) now n.wait)).roleOk h.role) (((((Same.refl n).trans (start0_same n now n.guard)).trans (says_same (start0 n now n.guard) now (Msg.mk 0 false false ((((start0 n now n.guard).shut).e) && (!(((start0 n now n.guard).shut).w))) 0))).trans (waitFor2_same (ask0_x1 n now port fro) now n.wait)).meOk h.me) (show StP 4 14 by unfold StP; decide) (waitFor2_say (ask0_x1 n now port fro) now n.wait (says_say (start0 n now n.guard) now (Msg.mk 0 false false ((((start0 n now n.guard).shut).e) && (!(((start0 n now n.guard).shut).w))) 0) (((Same.refl n).trans (start0_same n now n.guard)).meOk h.me) (.inl rfl)))))
  exact (Inv.mk (((((Same.refl n).trans (start0_same n now n.guard)).trans (says_same (start0 n now n.guard) now (Msg.mk 0 false false ((((start0 n now n.guard).shut).e) && (!(((start0 n now n.guard).shut).w))) 0))).trans (waitFor2_same (ask0_x1 n now port fro) now n.wait)).roleOk h.role) (((((Same.refl n).trans (start0_same n now n.guard)).trans (says_same (start0 n now n.guard) now (Msg.mk 0 false false ((((start0 n now n.guard).shut).e) && (!(((start0 n now n.guard).shut).w))) 0))).trans (waitFor2_same (ask0_x1 n now port fro) now n.wait)).meOk h.me) (show StP 4 14 by unfold StP; decide) (waitFor2_say (ask0_x1 n now port fro) now n.wait (says_say (start0 n now n.guard) now (Msg.mk 0 false false ((((start0 n now n.guard).shut).e) && (!(((start0 n now n.guard).shut).w))) 0) (((Same.refl n).trans (start0_same n now n.guard)).meOk h.me) (.inl rfl))))
  apply bi <;> intro _
  apply bi <;> intro _
  apply bi <;> intro _
  exact (ask3_inv ((ask0_x7 n now port fro).1) now 1 0 (ask3_inv { (ask0_x6 n now port fro) with state := 4, own := 14 } now 0 0 (Inv.mk (((((Same.refl n).trans (start0_same n now n.guard)).trans (says_same (start0 n now n.guard) now (Msg.mk 0 false false false 0))).trans (waitFor2_same (ask0_x5 n now port fro) now n.wait)).roleOk h.role) (((((Same.refl n).trans (start0_same n now n.guard)).trans (says_same (start0 n now n.guard) now (Msg.mk 0 false false false 0))).trans (waitFor2_same (ask0_x5 n now port fro) now n.wait)).meOk h.me) (show StP 4 14 by unfold StP; decide) (waitFor2_say (ask0_x5 n now port fro) now n.wait (says_say (start0 n now n.guard) now (Msg.mk 0 false false false 0) (((Same.refl n).trans (start0_same n now n.guard)).meOk h.me) (.inl rfl))))))
  exact (ask3_inv { (ask0_x6 n now port fro) with state := 4, own := 14 } now 0 0 (Inv.mk (((((Same.refl n).trans (start0_same n now n.guard)).trans (says_same (start0 n now n.guard) now (Msg.mk 0 false false false 0))).trans (waitFor2_same (ask0_x5 n now port fro) now n.wait)).roleOk h.role) (((((Same.refl n).trans (start0_same n now n.guard)).trans (says_same (start0 n now n.guard) now (Msg.mk 0 false false false 0))).trans (waitFor2_same (ask0_x5 n now port fro) now n.wait)).meOk h.me) (show StP 4 14 by unfold StP; decide) (waitFor2_say (ask0_x5 n now port fro) now n.wait (says_say (start0 n now n.guard) now (Msg.mk 0 false false false 0) (((Same.refl n).trans (start0_same n now n.guard)).meOk h.me) (.inl rfl)))))
  apply bi <;> intro _
  apply bi <;> intro _
  exact (ask3_inv ((ask0_x7 n now port fro).1) now 1 0 (ask3_inv { (ask0_x6 n now port fro) with state := 4, own := 14 } now 0 0 (Inv.mk (((((Same.refl n).trans (start0_same n now n.guard)).trans (says_same (start0 n now n.guard) now (Msg.mk 0 false false false 0))).trans (waitFor2_same (ask0_x5 n now port fro) now n.wait)).roleOk h.role) (((((Same.refl n).trans (start0_same n now n.guard)).trans (says_same (start0 n now n.guard) now (Msg.mk 0 false false false 0))).trans (waitFor2_same (ask0_x5 n now port fro) now n.wait)).meOk h.me) (show StP 4 14 by unfold StP; decide) (waitFor2_say (ask0_x5 n now port fro) now n.wait (says_say (start0 n now n.guard) now (Msg.mk 0 false false false 0) (((Same.refl n).trans (start0_same n now n.guard)).meOk h.me) (.inl rfl))))))
  exact (ask3_inv ((ask0_x7 n now port fro).1) now 1 0 (ask3_inv { (ask0_x6 n now port fro) with state := 4, own := 14 } now 0 0 (Inv.mk (((((Same.refl n).trans (start0_same n now n.guard)).trans (says_same (start0 n now n.guard) now (Msg.mk 0 false false false 0))).trans (waitFor2_same (ask0_x5 n now port fro) now n.wait)).roleOk h.role) (((((Same.refl n).trans (start0_same n now n.guard)).trans (says_same (start0 n now n.guard) now (Msg.mk 0 false false false 0))).trans (waitFor2_same (ask0_x5 n now port fro) now n.wait)).meOk h.me) (show StP 4 14 by unfold StP; decide) (waitFor2_say (ask0_x5 n now port fro) now n.wait (says_say (start0 n now n.guard) now (Msg.mk 0 false false false 0) (((Same.refl n).trans (start0_same n now n.guard)).meOk h.me) (.inl rfl))))))
  exact (ask3_inv { (ask0_x6 n now port fro) with state := 4, own := 14 } now 0 0 (Inv.mk (((((Same.refl n).trans (start0_same n now n.guard)).trans (says_same (start0 n now n.guard) now (Msg.mk 0 false false false 0))).trans (waitFor2_same (ask0_x5 n now port fro) now n.wait)).roleOk h.role) (((((Same.refl n).trans (start0_same n now n.guard)).trans (says_same (start0 n now n.guard) now (Msg.mk 0 false false false 0))).trans (waitFor2_same (ask0_x5 n now port fro) now n.wait)).meOk h.me) (show StP 4 14 by unfold StP; decide) (waitFor2_say (ask0_x5 n now port fro) now n.wait (says_say (start0 n now n.guard) now (Msg.mk 0 false false false 0) (((Same.refl n).trans (start0_same n now n.guard)).meOk h.me) (.inl rfl)))))
  apply bi <;> intro _
  apply bi <;> intro _
  exact (ask3_inv { (ask0_x6 n now port fro) with state := 4, own := 14 } now 1 0 (Inv.mk (((((Same.refl n).trans (start0_same n now n.guard)).trans (says_same (start0 n now n.guard) now (Msg.mk 0 false false false 0))).trans (waitFor2_same (ask0_x5 n now port fro) now n.wait)).roleOk h.role) (((((Same.refl n).trans (start0_same n now n.guard)).trans (says_same (start0 n now n.guard) now (Msg.mk 0 false false false 0))).trans (waitFor2_same (ask0_x5 n now port fro) now n.wait)).meOk h.me) (show StP 4 14 by unfold StP; decide) (waitFor2_say (ask0_x5 n now port fro) now n.wait (says_say (start0 n now n.guard) now (Msg.mk 0 false false false 0) (((Same.refl n).trans (start0_same n now n.guard)).meOk h.me) (.inl rfl)))))
  exact (ask3_inv { (ask0_x6 n now port fro) with state := 4, own := 14 } now 1 0 (Inv.mk (((((Same.refl n).trans (start0_same n now n.guard)).trans (says_same (start0 n now n.guard) now (Msg.mk 0 false false false 0))).trans (waitFor2_same (ask0_x5 n now port fro) now n.wait)).roleOk h.role) (((((Same.refl n).trans (start0_same n now n.guard)).trans (says_same (start0 n now n.guard) now (Msg.mk 0 false false false 0))).trans (waitFor2_same (ask0_x5 n now port fro) now n.wait)).meOk h.me) (show StP 4 14 by unfold StP; decide) (waitFor2_say (ask0_x5 n now port fro) now n.wait (says_say (start0 n now n.guard) now (Msg.mk 0 false false false 0) (((Same.refl n).trans (start0_same n now n.guard)).meOk h.me) (.inl rfl)))))
  exact (Inv.mk (((((Same.refl n).trans (start0_same n now n.guard)).trans (says_same (start0 n now n.guard) now (Msg.mk 0 false false false 0))).trans (waitFor2_same (ask0_x5 n now port fro) now n.wait)).roleOk h.role) (((((Same.refl n).trans (start0_same n now n.guard)).trans (says_same (start0 n now n.guard) now (Msg.mk 0 false false false 0))).trans (waitFor2_same (ask0_x5 n now port fro) now n.wait)).meOk h.me) (show StP 4 14 by unfold StP; decide) (waitFor2_say (ask0_x5 n now port fro) now n.wait (says_say (start0 n now n.guard) now (Msg.mk 0 false false false 0) (((Same.refl n).trans (start0_same n now n.guard)).meOk h.me) (.inl rfl))))
  exact h
  apply bi <;> intro _
  apply bi <;> intro _
  apply bi <;> intro _
  apply bi <;> intro _
  apply bi <;> intro _
  exact (ask3_inv ((ask0_x3 n now port fro).1) now 1 0 (ask3_inv { (ask0_x2 n now port fro) with state := 4, own := 14 } now 0 0 (Inv.mk (((((Same.refl n).trans (start0_same n now n.guard)).trans (says_same (start0 n now n.guard) now (Msg.mk 0 false false ((((start0 n now n.guard).shut).e) && (!(((start0 n now n.guard).shut).w))) 0))).trans (waitFor2_same (ask0_x1 n now port fro) now n.wait)).roleOk h.role) (((((Same.refl n).trans (start0_same n now n.guard)).trans (says_same (start0 n now n.guard) now (Msg.mk 0 false false ((((start0 n now n.guard).shut).e) && (!(((start0 n now n.guard).shut).w))) 0))).trans (waitFor2_same (ask0_x1 n now port fro) now n.wait)).meOk h.me) (show StP 4 14 by unfold StP; decide) (waitFor2_say (ask0_x1 n now port fro) now n.wait (says_say (start0 n now n.guard) now (Msg.mk 0 false false ((((start0 n now n.guard).shut).e) && (!(((start0 n now n.guard).shut).w))) 0) (((Same.refl n).trans (start0_same n now n.guard)).meOk h.me) (.inl rfl))))))
  exact (ask3_inv { (ask0_x2 n now port fro) with state := 4, own := 14 } now 0 0 (Inv.mk (((((Same.refl n).trans (start0_same n now n.guard)).trans (says_same (start0 n now n.guard) now (Msg.mk 0 false false ((((start0 n now n.guard).shut).e) && (!(((start0 n now n.guard).shut).w))) 0))).trans (waitFor2_same (ask0_x1 n now port fro) now n.wait)).roleOk h.role) (((((Same.refl n).trans (start0_same n now n.guard)).trans (says_same (start0 n now n.guard) now (Msg.mk 0 false false ((((start0 n now n.guard).shut).e) && (!(((start0 n now n.guard).shut).w))) 0))).trans (waitFor2_same (ask0_x1 n now port fro) now n.wait)).meOk h.me) (show StP 4 14 by unfold StP; decide) (waitFor2_say (ask0_x1 n now port fro) now n.wait (says_say (start0 n now n.guard) now (Msg.mk 0 false false ((((start0 n now n.guard).shut).e) && (!(((start0 n now n.guard).shut).w))) 0) (((Same.refl n).trans (start0_same n now n.guard)).meOk h.me) (.inl rfl)))))
  apply bi <;> intro _
  apply bi <;> intro _
  exact (ask3_inv ((ask0_x3 n now port fro).1) now 1 0 (ask3_inv { (ask0_x2 n now port fro) with state := 4, own := 14 } now 0 0 (Inv.mk (((((Same.refl n).trans (start0_same n now n.guard)).trans (says_same (start0 n now n.guard) now (Msg.mk 0 false false ((((start0 n now n.guard).shut).e) && (!(((start0 n now n.guard).shut).w))) 0))).trans (waitFor2_same (ask0_x1 n now port fro) now n.wait)).roleOk h.role) (((((Same.refl n).trans (start0_same n now n.guard)).trans (says_same (start0 n now n.guard) now (Msg.mk 0 false false ((((start0 n now n.guard).shut).e) && (!(((start0 n now n.guard).shut).w))) 0))).trans (waitFor2_same (ask0_x1 n now port fro) now n.wait)).meOk h.me) (show StP 4 14 by unfold StP; decide) (waitFor2_say (ask0_x1 n now port fro) now n.wait (says_say (start0 n now n.guard) now (Msg.mk 0 false false ((((start0 n now n.guard).shut).e) && (!(((start0 n now n.guard).shut).w))) 0) (((Same.refl n).trans (start0_same n now n.guard)).meOk h.me) (.inl rfl))))))
  exact (ask3_inv ((ask0_x3 n now port fro).1) now 1 0 (ask3_inv { (ask0_x2 n now port fro) with state := 4, own := 14 } now 0 0 (Inv.mk (((((Same.refl n).trans (start0_same n now n.guard)).trans (says_same (start0 n now n.guard) now (Msg.mk 0 false false ((((start0 n now n.guard).shut).e) && (!(((start0 n now n.guard).shut).w))) 0))).trans (waitFor2_same (ask0_x1 n now port fro) now n.wait)).roleOk h.role) (((((Same.refl n).trans (start0_same n now n.guard)).trans (says_same (start0 n now n.guard) now (Msg.mk 0 false false ((((start0 n now n.guard).shut).e) && (!(((start0 n now n.guard).shut).w))) 0))).trans (waitFor2_same (ask0_x1 n now port fro) now n.wait)).meOk h.me) (show StP 4 14 by unfold StP; decide) (waitFor2_say (ask0_x1 n now port fro) now n.wait (says_say (start0 n now n.guard) now (Msg.mk 0 false false ((((start0 n now n.guard).shut).e) && (!(((start0 n now n.guard).shut).w))) 0) (((Same.refl n).trans (start0_same n now n.guard)).meOk h.me) (.inl rfl))))))
  exact (ask3_inv { (ask0_x2 n now port fro) with state := 4, own := 14 } now 0 0 (Inv.mk (((((Same.refl n).trans (start0_same n now n.guard)).trans (says_same (start0 n now n.guard) now (Msg.mk 0 false false ((((start0 n now n.guard).shut).e) && (!(((start0 n now n.guard).shut).w))) 0))).trans (waitFor2_same (ask0_x1 n now port fro) now n.wait)).roleOk h.role) (((((Same.refl n).trans (start0_same n now n.guard)).trans (says_same (start0 n now n.guard) now (Msg.mk 0 false false ((((start0 n now n.guard).shut).e) && (!(((start0 n now n.guard).shut).w))) 0))).trans (waitFor2_same (ask0_x1 n now port fro) now n.wait)).meOk h.me) (show StP 4 14 by unfold StP; decide) (waitFor2_say (ask0_x1 n now port fro) now n.wait (says_say (start0 n now n.guard) now (Msg.mk 0 false false ((((start0 n now n.guard).shut).e) && (!(((start0 n now n.guard).shut).w))) 0) (((Same.refl n).trans (start0_same n now n.guard)).meOk h.me) (.inl rfl)))))
  apply bi <;> intro _
  apply bi <;> intro _
  exact (ask3_inv { (ask0_x2 n now port fro) with state := 4, own := 14 } now 1 0 (Inv.mk (((((Same.refl n).trans (start0_same n now n.guard)).trans (says_same (start0 n now n.guard) now (Msg.mk 0 false false ((((start0 n now n.guard).shut).e) && (!(((start0 n now n.guard).shut).w))) 0))).trans (waitFor2_same (ask0_x1 n now port fro) now n.wait)).roleOk h.role) (((((Same.refl n).trans (start0_same n now n.guard)).trans (says_same (start0 n now n.guard) now (Msg.mk 0 false false ((((start0 n now n.guard).shut).e) && (!(((start0 n now n.guard).shut).w))) 0))).trans (waitFor2_same (ask0_x1 n now port fro) now n.wait)).meOk h.me) (show StP 4 14 by unfold StP; decide) (waitFor2_say (ask0_x1 n now port fro) now n.wait (says_say (start0 n now n.guard) now (Msg.mk 0 false false ((((start0 n now n.guard).shut).e) && (!(((start0 n now n.guard).shut).w))) 0) (((Same.refl n).trans (start0_same n now n.guard)).meOk h.me) (.inl rfl)))))
  exact (ask3_inv { (ask0_x2 n now port fro) with state := 4, own := 14 } now 1 0 (Inv.mk (((((Same.refl n).trans (start0_same n now n.guard)).trans (says_same (start0 n now n.guard) now (Msg.mk 0 false false ((((start0 n now n.guard).shut).e) && (!(((start0 n now n.guard).shut).w))) 0))).trans (waitFor2_same (ask0_x1 n now port fro) now n.wait)).roleOk h.role) (((((Same.refl n).trans (start0_same n now n.guard)).trans (says_same (start0 n now n.guard) now (Msg.mk 0 false false ((((start0 n now n.guard).shut).e) && (!(((start0 n now n.guard).shut).w))) 0))).trans (waitFor2_same (ask0_x1 n now port fro) now n.wait)).meOk h.me) (show StP 4 14 by unfold StP; decide) (waitFor2_say (ask0_x1 n now port fro) now n.wait (says_say (start0 n now n.guard) now (Msg.mk 0 false false ((((start0 n now n.guard).shut).e) && (!(((start0 n now n.guard).shut).w))) 0) (((Same.refl n).trans (start0_same n now n.guard)).meOk h.me) (.inl rfl)))))
  exact (Inv.mk (((((Same.refl n).trans (start0_same n now n.guard)).trans (says_same (start0 n now n.guard) now (Msg.mk 0 false false ((((start0 n now n.guard).shut).e) && (!(((start0 n now n.guard).shut).w))) 0))).trans (waitFor2_same (ask0_x1 n now port fro) now n.wait)).roleOk h.role) (((((Same.refl n).trans (start0_same n now n.guard)).trans (says_same (start0 n now n.guard) now (Msg.mk 0 false false ((((start0 n now n.guard).shut).e) && (!(((start0 n now n.guard).shut).w))) 0))).trans (waitFor2_same (ask0_x1 n now port fro) now n.wait)).meOk h.me) (show StP 4 14 by unfold StP; decide) (waitFor2_say (ask0_x1 n now port fro) now n.wait (says_say (start0 n now n.guard) now (Msg.mk 0 false false ((((start0 n now n.guard).shut).e) && (!(((start0 n now n.guard).shut).w))) 0) (((Same.refl n).trans (start0_same n now n.guard)).meOk h.me) (.inl rfl))))
  apply bi <;> intro _
  apply bi <;> intro _
  apply bi <;> intro _
  exact (ask3_inv ((ask0_x7 n now port fro).1) now 1 0 (ask3_inv { (ask0_x6 n now port fro) with state := 4, own := 14 } now 0 0 (Inv.mk (((((Same.refl n).trans (start0_same n now n.guard)).trans (says_same (start0 n now n.guard) now (Msg.mk 0 false false false 0))).trans (waitFor2_same (ask0_x5 n now port fro) now n.wait)).roleOk h.role) (((((Same.refl n).trans (start0_same n now n.guard)).trans (says_same (start0 n now n.guard) now (Msg.mk 0 false false false 0))).trans (waitFor2_same (ask0_x5 n now port fro) now n.wait)).meOk h.me) (show StP 4 14 by unfold StP; decide) (waitFor2_say (ask0_x5 n now port fro) now n.wait (says_say (start0 n now n.guard) now (Msg.mk 0 false false false 0) (((Same.refl n).trans (start0_same n now n.guard)).meOk h.me) (.inl rfl))))))
  exact (ask3_inv { (ask0_x6 n now port fro) with state := 4, own := 14 } now 0 0 (Inv.mk (((((Same.refl n).trans (start0_same n now n.guard)).trans (says_same (start0 n now n.guard) now (Msg.mk 0 false false false 0))).trans (waitFor2_same (ask0_x5 n now port fro) now n.wait)).roleOk h.role) (((((Same.refl n).trans (start0_same n now n.guard)).trans (says_same (start0 n now n.guard) now (Msg.mk 0 false false false 0))).trans (waitFor2_same (ask0_x5 n now port fro) now n.wait)).meOk h.me) (show StP 4 14 by unfold StP; decide) (waitFor2_say (ask0_x5 n now port fro) now n.wait (says_say (start0 n now n.guard) now (Msg.mk 0 false false false 0) (((Same.refl n).trans (start0_same n now n.guard)).meOk h.me) (.inl rfl)))))
  apply bi <;> intro _
  apply bi <;> intro _
  exact (ask3_inv ((ask0_x7 n now port fro).1) now 1 0 (ask3_inv { (ask0_x6 n now port fro) with state := 4, own := 14 } now 0 0 (Inv.mk (((((Same.refl n).trans (start0_same n now n.guard)).trans (says_same (start0 n now n.guard) now (Msg.mk 0 false false false 0))).trans (waitFor2_same (ask0_x5 n now port fro) now n.wait)).roleOk h.role) (((((Same.refl n).trans (start0_same n now n.guard)).trans (says_same (start0 n now n.guard) now (Msg.mk 0 false false false 0))).trans (waitFor2_same (ask0_x5 n now port fro) now n.wait)).meOk h.me) (show StP 4 14 by unfold StP; decide) (waitFor2_say (ask0_x5 n now port fro) now n.wait (says_say (start0 n now n.guard) now (Msg.mk 0 false false false 0) (((Same.refl n).trans (start0_same n now n.guard)).meOk h.me) (.inl rfl))))))
  exact (ask3_inv ((ask0_x7 n now port fro).1) now 1 0 (ask3_inv { (ask0_x6 n now port fro) with state := 4, own := 14 } now 0 0 (Inv.mk (((((Same.refl n).trans (start0_same n now n.guard)).trans (says_same (start0 n now n.guard) now (Msg.mk 0 false false false 0))).trans (waitFor2_same (ask0_x5 n now port fro) now n.wait)).roleOk h.role) (((((Same.refl n).trans (start0_same n now n.guard)).trans (says_same (start0 n now n.guard) now (Msg.mk 0 false false false 0))).trans (waitFor2_same (ask0_x5 n now port fro) now n.wait)).meOk h.me) (show StP 4 14 by unfold StP; decide) (waitFor2_say (ask0_x5 n now port fro) now n.wait (says_say (start0 n now n.guard) now (Msg.mk 0 false false false 0) (((Same.refl n).trans (start0_same n now n.guard)).meOk h.me) (.inl rfl))))))
  exact (ask3_inv { (ask0_x6 n now port fro) with state := 4, own := 14 } now 0 0 (Inv.mk (((((Same.refl n).trans (start0_same n now n.guard)).trans (says_same (start0 n now n.guard) now (Msg.mk 0 false false false 0))).trans (waitFor2_same (ask0_x5 n now port fro) now n.wait)).roleOk h.role) (((((Same.refl n).trans (start0_same n now n.guard)).trans (says_same (start0 n now n.guard) now (Msg.mk 0 false false false 0))).trans (waitFor2_same (ask0_x5 n now port fro) now n.wait)).meOk h.me) (show StP 4 14 by unfold StP; decide) (waitFor2_say (ask0_x5 n now port fro) now n.wait (says_say (start0 n now n.guard) now (Msg.mk 0 false false false 0) (((Same.refl n).trans (start0_same n now n.guard)).meOk h.me) (.inl rfl)))))
  apply bi <;> intro _
  apply bi <;> intro _
  exact (ask3_inv { (ask0_x6 n now port fro) with state := 4, own := 14 } now 1 0 (Inv.mk (((((Same.refl n).trans (start0_same n now n.guard)).trans (says_same (start0 n now n.guard) now (Msg.mk 0 false false false 0))).trans (waitFor2_same (ask0_x5 n now port fro) now n.wait)).roleOk h.role) (((((Same.refl n).trans (start0_same n now n.guard)).trans (says_same (start0 n now n.guard) now (Msg.mk 0 false false false 0))).trans (waitFor2_same (ask0_x5 n now port fro) now n.wait)).meOk h.me) (show StP 4 14 by unfold StP; decide) (waitFor2_say (ask0_x5 n now port fro) now n.wait (says_say (start0 n now n.guard) now (Msg.mk 0 false false false 0) (((Same.refl n).trans (start0_same n now n.guard)).meOk h.me) (.inl rfl)))))
  exact (ask3_inv { (ask0_x6 n now port fro) with state := 4, own := 14 } now 1 0 (Inv.mk (((((Same.refl n).trans (start0_same n now n.guard)).trans (says_same (start0 n now n.guard) now (Msg.mk 0 false false false 0))).trans (waitFor2_same (ask0_x5 n now port fro) now n.wait)).roleOk h.role) (((((Same.refl n).trans (start0_same n now n.guard)).trans (says_same (start0 n now n.guard) now (Msg.mk 0 false false false 0))).trans (waitFor2_same (ask0_x5 n now port fro) now n.wait)).meOk h.me) (show StP 4 14 by unfold StP; decide) (waitFor2_say (ask0_x5 n now port fro) now n.wait (says_say (start0 n now n.guard) now (Msg.mk 0 false false false 0) (((Same.refl n).trans (start0_same n now n.guard)).meOk h.me) (.inl rfl)))))
  exact (Inv.mk (((((Same.refl n).trans (start0_same n now n.guard)).trans (says_same (start0 n now n.guard) now (Msg.mk 0 false false false 0))).trans (waitFor2_same (ask0_x5 n now port fro) now n.wait)).roleOk h.role) (((((Same.refl n).trans (start0_same n now n.guard)).trans (says_same (start0 n now n.guard) now (Msg.mk 0 false false false 0))).trans (waitFor2_same (ask0_x5 n now port fro) now n.wait)).meOk h.me) (show StP 4 14 by unfold StP; decide) (waitFor2_say (ask0_x5 n now port fro) now n.wait (says_say (start0 n now n.guard) now (Msg.mk 0 false false false 0) (((Same.refl n).trans (start0_same n now n.guard)).meOk h.me) (.inl rfl))))
  exact h

theorem ask1_inv (n : Nd) (now : Int) (port : Int) (fro : Int) (h : Inv n) : Inv ((ask1 n now port fro).1) := by
  let G : Nd × Bool × Bool → Prop := fun r => Inv r.1
  show G (ask1 n now port fro)
  unfold ask1
  apply bi <;> intro _
  exact h
  apply bi <;> intro _
  apply bi <;> intro _
  exact (Inv.mk (((Same.refl n).trans (take_same n now port (Msg.mk 13 false false false 0) false)).roleOk h.role) (((Same.refl n).trans (take_same n now port (Msg.mk 13 false false false 0) false)).meOk h.me) (show StP 3 1 by unfold StP; decide) (take_say n now port (Msg.mk 13 false false false 0) false h.me (.inr ⟨.inr (.inr rfl), rfl⟩)))
  exact (Inv.mk (((Same.refl n).trans (take_same n now port (Msg.mk 13 false false false 0) false)).roleOk h.role) (((Same.refl n).trans (take_same n now port (Msg.mk 13 false false false 0) false)).meOk h.me) (show StP 3 1 by unfold StP; decide) (take_say n now port (Msg.mk 13 false false false 0) false h.me (.inr ⟨.inr (.inr rfl), rfl⟩)))
  exact h

theorem ask2_inv (n : Nd) (now : Int) (port : Int) (fro : Int) (h : Inv n) : Inv ((ask2 n now port fro).1) := by
  let G : Nd × Bool × Bool → Prop := fun r => Inv r.1
  show G (ask2 n now port fro)
  unfold ask2
  apply bi <;> intro _
  exact h
  apply bi <;> intro _
  exact (Inv.mk (((Same.refl n).trans (silence_same { n with shut := (B2.mk false false) })).roleOk h.role) (((Same.refl n).trans (silence_same { n with shut := (B2.mk false false) })).meOk h.me) (show StP 3 14 by unfold StP; decide) (silence_say { n with shut := (B2.mk false false) }))
  apply bi <;> intro _
  exact h
  apply bi <;> intro _
  exact (Inv.mk (((Same.refl n).trans (silence_same { n with shut := (B2.mk false false) })).roleOk h.role) (((Same.refl n).trans (silence_same { n with shut := (B2.mk false false) })).meOk h.me) (show StP 3 14 by unfold StP; decide) (silence_say { n with shut := (B2.mk false false) }))
  exact h

theorem ask4_inv (n : Nd) (now : Int) (port : Int) (fro : Int) (h : Inv n) : Inv ((ask4 n now port fro).1) := by
  let G : Nd × Bool × Bool → Prop := fun r => Inv r.1
  show G (ask4 n now port fro)
  unfold ask4
  apply bi <;> intro _
  exact h
  apply bi <;> intro _
  apply bi <;> intro _
  apply bi <;> intro _
  apply bi <;> intro _
  apply bi <;> intro _
  exact (ask3_inv ((ask4_x2 n now port fro).1) now 1 0 (ask3_inv { (ask4_x1 n now port fro) with state := 4, own := 14 } now 0 0 (Inv.mk (((((Same.refl n).trans (start0_same n now n.guard)).trans (says_same (start0 n now n.guard) now (Msg.mk 0 false false ((((start0 n now n.guard).shut).e) && (!(((start0 n now n.guard).shut).w))) 0))).trans (waitFor1_same (ask4_x0 n now port fro) now n.rest)).roleOk h.role) (((((Same.refl n).trans (start0_same n now n.guard)).trans (says_same (start0 n now n.guard) now (Msg.mk 0 false false ((((start0 n now n.guard).shut).e) && (!(((start0 n now n.guard).shut).w))) 0))).trans (waitFor1_same (ask4_x0 n now port fro) now n.rest)).meOk h.me) (show StP 4 14 by unfold StP; decide) (waitFor1_say (ask4_x0 n now port fro) now n.rest (says_say (start0 n now n.guard) now (Msg.mk 0 false false ((((start0 n now n.guard).shut).e) && (!(((start0 n now n.guard).shut).w))) 0) (((Same.refl n).trans (start0_same n now n.guard)).meOk h.me) (.inl rfl))))))
  exact (ask3_inv { (ask4_x1 n now port fro) with state := 4, own := 14 } now 0 0 (Inv.mk (((((Same.refl n).trans (start0_same n now n.guard)).trans (says_same (start0 n now n.guard) now (Msg.mk 0 false false ((((start0 n now n.guard).shut).e) && (!(((start0 n now n.guard).shut).w))) 0))).trans (waitFor1_same (ask4_x0 n now port fro) now n.rest)).roleOk h.role) (((((Same.refl n).trans (start0_same n now n.guard)).trans (says_same (start0 n now n.guard) now (Msg.mk 0 false false ((((start0 n now n.guard).shut).e) && (!(((start0 n now n.guard).shut).w))) 0))).trans (waitFor1_same (ask4_x0 n now port fro) now n.rest)).meOk h.me) (show StP 4 14 by unfold StP; decide) (waitFor1_say (ask4_x0 n now port fro) now n.rest (says_say (start0 n now n.guard) now (Msg.mk 0 false false ((((start0 n now n.guard).shut).e) && (!(((start0 n now n.guard).shut).w))) 0) (((Same.refl n).trans (start0_same n now n.guard)).meOk h.me) (.inl rfl)))))
  apply bi <;> intro _
  apply bi <;> intro _
  exact (ask3_inv ((ask4_x2 n now port fro).1) now 1 0 (ask3_inv { (ask4_x1 n now port fro) with state := 4, own := 14 } now 0 0 (Inv.mk (((((Same.refl n).trans (start0_same n now n.guard)).trans (says_same (start0 n now n.guard) now (Msg.mk 0 false false ((((start0 n now n.guard).shut).e) && (!(((start0 n now n.guard).shut).w))) 0))).trans (waitFor1_same (ask4_x0 n now port fro) now n.rest)).roleOk h.role) (((((Same.refl n).trans (start0_same n now n.guard)).trans (says_same (start0 n now n.guard) now (Msg.mk 0 false false ((((start0 n now n.guard).shut).e) && (!(((start0 n now n.guard).shut).w))) 0))).trans (waitFor1_same (ask4_x0 n now port fro) now n.rest)).meOk h.me) (show StP 4 14 by unfold StP; decide) (waitFor1_say (ask4_x0 n now port fro) now n.rest (says_say (start0 n now n.guard) now (Msg.mk 0 false false ((((start0 n now n.guard).shut).e) && (!(((start0 n now n.guard).shut).w))) 0) (((Same.refl n).trans (start0_same n now n.guard)).meOk h.me) (.inl rfl))))))
  exact (ask3_inv ((ask4_x2 n now port fro).1) now 1 0 (ask3_inv { (ask4_x1 n now port fro) with state := 4, own := 14 } now 0 0 (Inv.mk (((((Same.refl n).trans (start0_same n now n.guard)).trans (says_same (start0 n now n.guard) now (Msg.mk 0 false false ((((start0 n now n.guard).shut).e) && (!(((start0 n now n.guard).shut).w))) 0))).trans (waitFor1_same (ask4_x0 n now port fro) now n.rest)).roleOk h.role) (((((Same.refl n).trans (start0_same n now n.guard)).trans (says_same (start0 n now n.guard) now (Msg.mk 0 false false ((((start0 n now n.guard).shut).e) && (!(((start0 n now n.guard).shut).w))) 0))).trans (waitFor1_same (ask4_x0 n now port fro) now n.rest)).meOk h.me) (show StP 4 14 by unfold StP; decide) (waitFor1_say (ask4_x0 n now port fro) now n.rest (says_say (start0 n now n.guard) now (Msg.mk 0 false false ((((start0 n now n.guard).shut).e) && (!(((start0 n now n.guard).shut).w))) 0) (((Same.refl n).trans (start0_same n now n.guard)).meOk h.me) (.inl rfl))))))
  exact (ask3_inv { (ask4_x1 n now port fro) with state := 4, own := 14 } now 0 0 (Inv.mk (((((Same.refl n).trans (start0_same n now n.guard)).trans (says_same (start0 n now n.guard) now (Msg.mk 0 false false ((((start0 n now n.guard).shut).e) && (!(((start0 n now n.guard).shut).w))) 0))).trans (waitFor1_same (ask4_x0 n now port fro) now n.rest)).roleOk h.role) (((((Same.refl n).trans (start0_same n now n.guard)).trans (says_same (start0 n now n.guard) now (Msg.mk 0 false false ((((start0 n now n.guard).shut).e) && (!(((start0 n now n.guard).shut).w))) 0))).trans (waitFor1_same (ask4_x0 n now port fro) now n.rest)).meOk h.me) (show StP 4 14 by unfold StP; decide) (waitFor1_say (ask4_x0 n now port fro) now n.rest (says_say (start0 n now n.guard) now (Msg.mk 0 false false ((((start0 n now n.guard).shut).e) && (!(((start0 n now n.guard).shut).w))) 0) (((Same.refl n).trans (start0_same n now n.guard)).meOk h.me) (.inl rfl)))))
  apply bi <;> intro _
  apply bi <;> intro _
  exact (ask3_inv { (ask4_x1 n now port fro) with state := 4, own := 14 } now 1 0 (Inv.mk (((((Same.refl n).trans (start0_same n now n.guard)).trans (says_same (start0 n now n.guard) now (Msg.mk 0 false false ((((start0 n now n.guard).shut).e) && (!(((start0 n now n.guard).shut).w))) 0))).trans (waitFor1_same (ask4_x0 n now port fro) now n.rest)).roleOk h.role) (((((Same.refl n).trans (start0_same n now n.guard)).trans (says_same (start0 n now n.guard) now (Msg.mk 0 false false ((((start0 n now n.guard).shut).e) && (!(((start0 n now n.guard).shut).w))) 0))).trans (waitFor1_same (ask4_x0 n now port fro) now n.rest)).meOk h.me) (show StP 4 14 by unfold StP; decide) (waitFor1_say (ask4_x0 n now port fro) now n.rest (says_say (start0 n now n.guard) now (Msg.mk 0 false false ((((start0 n now n.guard).shut).e) && (!(((start0 n now n.guard).shut).w))) 0) (((Same.refl n).trans (start0_same n now n.guard)).meOk h.me) (.inl rfl)))))
  exact (ask3_inv { (ask4_x1 n now port fro) with state := 4, own := 14 } now 1 0 (Inv.mk (((((Same.refl n).trans (start0_same n now n.guard)).trans (says_same (start0 n now n.guard) now (Msg.mk 0 false false ((((start0 n now n.guard).shut).e) && (!(((start0 n now n.guard).shut).w))) 0))).trans (waitFor1_same (ask4_x0 n now port fro) now n.rest)).roleOk h.role) (((((Same.refl n).trans (start0_same n now n.guard)).trans (says_same (start0 n now n.guard) now (Msg.mk 0 false false ((((start0 n now n.guard).shut).e) && (!(((start0 n now n.guard).shut).w))) 0))).trans (waitFor1_same (ask4_x0 n now port fro) now n.rest)).meOk h.me) (show StP 4 14 by unfold StP; decide) (waitFor1_say (ask4_x0 n now port fro) now n.rest (says_say (start0 n now n.guard) now (Msg.mk 0 false false ((((start0 n now n.guard).shut).e) && (!(((start0 n now n.guard).shut).w))) 0) (((Same.refl n).trans (start0_same n now n.guard)).meOk h.me) (.inl rfl)))))
  exact (Inv.mk (((((Same.refl n).trans (start0_same n now n.guard)).trans (says_same (start0 n now n.guard) now (Msg.mk 0 false false ((((start0 n now n.guard).shut).e) && (!(((start0 n now n.guard).shut).w))) 0))).trans (waitFor1_same (ask4_x0 n now port fro) now n.rest)).roleOk h.role) (((((Same.refl n).trans (start0_same n now n.guard)).trans (says_same (start0 n now n.guard) now (Msg.mk 0 false false ((((start0 n now n.guard).shut).e) && (!(((start0 n now n.guard).shut).w))) 0))).trans (waitFor1_same (ask4_x0 n now port fro) now n.rest)).meOk h.me) (show StP 4 14 by unfold StP; decide) (waitFor1_say (ask4_x0 n now port fro) now n.rest (says_say (start0 n now n.guard) now (Msg.mk 0 false false ((((start0 n now n.guard).shut).e) && (!(((start0 n now n.guard).shut).w))) 0) (((Same.refl n).trans (start0_same n now n.guard)).meOk h.me) (.inl rfl))))
  apply bi <;> intro _
  apply bi <;> intro _
  apply bi <;> intro _
  exact (ask3_inv ((ask4_x6 n now port fro).1) now 1 0 (ask3_inv { (ask4_x5 n now port fro) with state := 4, own := 14 } now 0 0 (Inv.mk (((((Same.refl n).trans (start0_same n now n.guard)).trans (says_same (start0 n now n.guard) now (Msg.mk 0 false false false 0))).trans (waitFor1_same (ask4_x4 n now port fro) now n.rest)).roleOk h.role) (((((Same.refl n).trans (start0_same n now n.guard)).trans (says_same (start0 n now n.guard) now (Msg.mk 0 false false false 0))).trans (waitFor1_same (ask4_x4 n now port fro) now n.rest)).meOk h.me) (show StP 4 14 by unfold StP; decide) (waitFor1_say (ask4_x4 n now port fro) now n.rest (says_say (start0 n now n.guard) now (Msg.mk 0 false false false 0) (((Same.refl n).trans (start0_same n now n.guard)).meOk h.me) (.inl rfl))))))
  exact (ask3_inv { (ask4_x5 n now port fro) with state := 4, own := 14 } now 0 0 (Inv.mk (((((Same.refl n).trans (start0_same n now n.guard)).trans (says_same (start0 n now n.guard) now (Msg.mk 0 false false false 0))).trans (waitFor1_same (ask4_x4 n now port fro) now n.rest)).roleOk h.role) (((((Same.refl n).trans (start0_same n now n.guard)).trans (says_same (start0 n now n.guard) now (Msg.mk 0 false false false 0))).trans (waitFor1_same (ask4_x4 n now port fro) now n.rest)).meOk h.me) (show StP 4 14 by unfold StP; decide) (waitFor1_say (ask4_x4 n now port fro) now n.rest (says_say (start0 n now n.guard) now (Msg.mk 0 false false false 0) (((Same.refl n).trans (start0_same n now n.guard)).meOk h.me) (.inl rfl)))))
  apply bi <;> intro _
  apply bi <;> intro _
  exact (ask3_inv ((ask4_x6 n now port fro).1) now 1 0 (ask3_inv { (ask4_x5 n now port fro) with state := 4, own := 14 } now 0 0 (Inv.mk (((((Same.refl n).trans (start0_same n now n.guard)).trans (says_same (start0 n now n.guard) now (Msg.mk 0 false false false 0))).trans (waitFor1_same (ask4_x4 n now port fro) now n.rest)).roleOk h.role) (((((Same.refl n).trans (start0_same n now n.guard)).trans (says_same (start0 n now n.guard) now (Msg.mk 0 false false false 0))).trans (waitFor1_same (ask4_x4 n now port fro) now n.rest)).meOk h.me) (show StP 4 14 by unfold StP; decide) (waitFor1_say (ask4_x4 n now port fro) now n.rest (says_say (start0 n now n.guard) now (Msg.mk 0 false false false 0) (((Same.refl n).trans (start0_same n now n.guard)).meOk h.me) (.inl rfl))))))
  exact (ask3_inv ((ask4_x6 n now port fro).1) now 1 0 (ask3_inv { (ask4_x5 n now port fro) with state := 4, own := 14 } now 0 0 (Inv.mk (((((Same.refl n).trans (start0_same n now n.guard)).trans (says_same (start0 n now n.guard) now (Msg.mk 0 false false false 0))).trans (waitFor1_same (ask4_x4 n now port fro) now n.rest)).roleOk h.role) (((((Same.refl n).trans (start0_same n now n.guard)).trans (says_same (start0 n now n.guard) now (Msg.mk 0 false false false 0))).trans (waitFor1_same (ask4_x4 n now port fro) now n.rest)).meOk h.me) (show StP 4 14 by unfold StP; decide) (waitFor1_say (ask4_x4 n now port fro) now n.rest (says_say (start0 n now n.guard) now (Msg.mk 0 false false false 0) (((Same.refl n).trans (start0_same n now n.guard)).meOk h.me) (.inl rfl))))))
  exact (ask3_inv { (ask4_x5 n now port fro) with state := 4, own := 14 } now 0 0 (Inv.mk (((((Same.refl n).trans (start0_same n now n.guard)).trans (says_same (start0 n now n.guard) now (Msg.mk 0 false false false 0))).trans (waitFor1_same (ask4_x4 n now port fro) now n.rest)).roleOk h.role) (((((Same.refl n).trans (start0_same n now n.guard)).trans (says_same (start0 n now n.guard) now (Msg.mk 0 false false false 0))).trans (waitFor1_same (ask4_x4 n now port fro) now n.rest)).meOk h.me) (show StP 4 14 by unfold StP; decide) (waitFor1_say (ask4_x4 n now port fro) now n.rest (says_say (start0 n now n.guard) now (Msg.mk 0 false false false 0) (((Same.refl n).trans (start0_same n now n.guard)).meOk h.me) (.inl rfl)))))
  apply bi <;> intro _
  apply bi <;> intro _
  exact (ask3_inv { (ask4_x5 n now port fro) with state := 4, own := 14 } now 1 0 (Inv.mk (((((Same.refl n).trans (start0_same n now n.guard)).trans (says_same (start0 n now n.guard) now (Msg.mk 0 false false false 0))).trans (waitFor1_same (ask4_x4 n now port fro) now n.rest)).roleOk h.role) (((((Same.refl n).trans (start0_same n now n.guard)).trans (says_same (start0 n now n.guard) now (Msg.mk 0 false false false 0))).trans (waitFor1_same (ask4_x4 n now port fro) now n.rest)).meOk h.me) (show StP 4 14 by unfold StP; decide) (waitFor1_say (ask4_x4 n now port fro) now n.rest (says_say (start0 n now n.guard) now (Msg.mk 0 false false false 0) (((Same.refl n).trans (start0_same n now n.guard)).meOk h.me) (.inl rfl)))))
  exact (ask3_inv { (ask4_x5 n now port fro) with state := 4, own := 14 } now 1 0 (Inv.mk (((((Same.refl n).trans (start0_same n now n.guard)).trans (says_same (start0 n now n.guard) now (Msg.mk 0 false false false 0))).trans (waitFor1_same (ask4_x4 n now port fro) now n.rest)).roleOk h.role) (((((Same.refl n).trans (start0_same n now n.guard)).trans (says_same (start0 n now n.guard) now (Msg.mk 0 false false false 0))).trans (waitFor1_same (ask4_x4 n now port fro) now n.rest)).meOk h.me) (show StP 4 14 by unfold StP; decide) (waitFor1_say (ask4_x4 n now port fro) now n.rest (says_say (start0 n now n.guard) now (Msg.mk 0 false false false 0) (((Same.refl n).trans (start0_same n now n.guard)).meOk h.me) (.inl rfl)))))
  exact (Inv.mk (((((Same.refl n).trans (start0_same n now n.guard)).trans (says_same (start0 n now n.guard) now (Msg.mk 0 false false false 0))).trans (waitFor1_same (ask4_x4 n now port fro) now n.rest)).roleOk h.role) (((((Same.refl n).trans (start0_same n now n.guard)).trans (says_same (start0 n now n.guard) now (Msg.mk 0 false false false 0))).trans (waitFor1_same (ask4_x4 n now port fro) now n.rest)).meOk h.me) (show StP 4 14 by unfold StP; decide) (waitFor1_say (ask4_x4 n now port fro) now n.rest (says_say (start0 n now n.guard) now (Msg.mk 0 false false false 0) (((Same.refl n).trans (start0_same n now n.guard)).meOk h.me) (.inl rfl))))
  exact h

theorem ask5_inv (n : Nd) (now : Int) (port : Int) (fro : Int) (h : Inv n) : Inv ((ask5 n now port fro).1) := by
  let G : Nd × Bool × Bool → Prop := fun r => Inv r.1
  show G (ask5 n now port fro)
  unfold ask5
  apply bi <;> intro _
  exact h
  apply bi <;> intro _
  exact (Inv.mk ((((Same.refl n).trans (openSound_same n)).trans (silence_same (openSound n))).roleOk h.role) ((((Same.refl n).trans (openSound_same n)).trans (silence_same (openSound n))).meOk h.me) (show StP 1 14 by unfold StP; decide) (silence_say (openSound n)))
  apply bi <;> intro _
  exact h
  apply bi <;> intro _
  exact (Inv.mk ((((Same.refl n).trans (openSound_same n)).trans (silence_same (openSound n))).roleOk h.role) ((((Same.refl n).trans (openSound_same n)).trans (silence_same (openSound n))).meOk h.me) (show StP 1 14 by unfold StP; decide) (silence_say (openSound n)))
  exact h

theorem ask6_inv (n : Nd) (now : Int) (port : Int) (fro : Int) (h : Inv n) : Inv ((ask6 n now port fro).1) := by
  let G : Nd × Bool × Bool → Prop := fun r => Inv r.1
  show G (ask6 n now port fro)
  unfold ask6
  apply bi <;> intro _
  exact h
  apply bi <;> intro _
  exact (Inv.mk ((((Same.refl n).trans (openSound_same n)).trans (silence_same (openSound n))).roleOk h.role) ((((Same.refl n).trans (openSound_same n)).trans (silence_same (openSound n))).meOk h.me) (show StP 2 14 by unfold StP; decide) (silence_say (openSound n)))
  apply bi <;> intro _
  exact h
  apply bi <;> intro _
  apply bi <;> intro _
  apply bi <;> intro _
  apply bi <;> intro _
  apply bi <;> intro _
  apply bi <;> intro _
  exact (ask3_inv ((ask6_x2 n now port fro).1) now 1 0 (ask3_inv { (ask6_x1 n now port fro) with state := 4, own := 14 } now 0 0 (Inv.mk (((((Same.refl n).trans (start0_same n now n.guard)).trans (says_same (start0 n now n.guard) now (Msg.mk 0 false false ((((start0 n now n.guard).shut).e) && (!(((start0 n now n.guard).shut).w))) 0))).trans (waitFor2_same (ask6_x0 n now port fro) now n.wait)).roleOk h.role) (((((Same.refl n).trans (start0_same n now n.guard)).trans (says_same (start0 n now n.guard) now (Msg.mk 0 false false ((((start0 n now n.guard).shut).e) && (!(((start0 n now n.guard).shut).w))) 0))).trans (waitFor2_same (ask6_x0 n now port fro) now n.wait)).meOk h.me) (show StP 4 14 by unfold StP; decide) (waitFor2_say (ask6_x0 n now port fro) now n.wait (says_say (start0 n now n.guard) now (Msg.mk 0 false false ((((start0 n now n.guard).shut).e) && (!(((start0 n now n.guard).shut).w))) 0) (((Same.refl n).trans (start0_same n now n.guard)).meOk h.me) (.inl rfl))))))
  exact (ask3_inv { (ask6_x1 n now port fro) with state := 4, own := 14 } now 0 0 (Inv.mk (((((Same.refl n).trans (start0_same n now n.guard)).trans (says_same (start0 n now n.guard) now (Msg.mk 0 false false ((((start0 n now n.guard).shut).e) && (!(((start0 n now n.guard).shut).w))) 0))).trans (waitFor2_same (ask6_x0 n now port fro) now n.wait)).roleOk h.role) (((((Same.refl n).trans (start0_same n now n.guard)).trans (says_same (start0 n now n.guard) now (Msg.mk 0 false false ((((start0 n now n.guard).shut).e) && (!(((start0 n now n.guard).shut).w))) 0))).trans (waitFor2_same (ask6_x0 n now port fro) now n.wait)).meOk h.me) (show StP 4 14 by unfold StP; decide) (waitFor2_say (ask6_x0 n now port fro) now n.wait (says_say (start0 n now n.guard) now (Msg.mk 0 false false ((((start0 n now n.guard).shut).e) && (!(((start0 n now n.guard).shut).w))) 0) (((Same.refl n).trans (start0_same n now n.guard)).meOk h.me) (.inl rfl)))))
  apply bi <;> intro _
  apply bi <;> intro _
  exact (ask3_inv ((ask6_x2 n now port fro).1) now 1 0 (ask3_inv { (ask6_x1 n now port fro) with state := 4, own := 14 } now 0 0 (Inv.mk (((((Same.refl n).trans (start0_same n now n.guard)).trans (says_same (start0 n now n.guard) now (Msg.mk 0 false false ((((start0 n now n.guard).shut).e) && (!(((start0 n now n.guard).shut).w))) 0))).trans (waitFor2_same (ask6_x0 n now port fro) now n.wait)).roleOk h.role) (((((Same.refl n).trans (start0_same n now n.guard)).trans (says_same (start0 n now n.guard) now (Msg.mk 0 false false ((((start0 n now n.guard).shut).e) && (!(((start0 n now n.guard).shut).w))) 0))).trans (waitFor2_same (ask6_x0 n now port fro) now n.wait)).meOk h.me) (show StP 4 14 by unfold StP; decide) (waitFor2_say (ask6_x0 n now port fro) now n.wait (says_say (start0 n now n.guard) now (Msg.mk 0 false false ((((start0 n now n.guard).shut).e) && (!(((start0 n now n.guard).shut).w))) 0) (((Same.refl n).trans (start0_same n now n.guard)).meOk h.me) (.inl rfl))))))
  exact (ask3_inv ((ask6_x2 n now port fro).1) now 1 0 (ask3_inv { (ask6_x1 n now port fro) with state := 4, own := 14 } now 0 0 (Inv.mk (((((Same.refl n).trans (start0_same n now n.guard)).trans (says_same (start0 n now n.guard) now (Msg.mk 0 false false ((((start0 n now n.guard).shut).e) && (!(((start0 n now n.guard).shut).w))) 0))).trans (waitFor2_same (ask6_x0 n now port fro) now n.wait)).roleOk h.role) (((((Same.refl n).trans (start0_same n now n.guard)).trans (says_same (start0 n now n.guard) now (Msg.mk 0 false false ((((start0 n now n.guard).shut).e) && (!(((start0 n now n.guard).shut).w))) 0))).trans (waitFor2_same (ask6_x0 n now port fro) now n.wait)).meOk h.me) (show StP 4 14 by unfold StP; decide) (waitFor2_say (ask6_x0 n now port fro) now n.wait (says_say (start0 n now n.guard) now (Msg.mk 0 false false ((((start0 n now n.guard).shut).e) && (!(((start0 n now n.guard).shut).w))) 0) (((Same.refl n).trans (start0_same n now n.guard)).meOk h.me) (.inl rfl))))))
  exact (ask3_inv { (ask6_x1 n now port fro) with state := 4, own := 14 } now 0 0 (Inv.mk (((((Same.refl n).trans (start0_same n now n.guard)).trans (says_same (start0 n now n.guard) now (Msg.mk 0 false false ((((start0 n now n.guard).shut).e) && (!(((start0 n now n.guard).shut).w))) 0))).trans (waitFor2_same (ask6_x0 n now port fro) now n.wait)).roleOk h.role) (((((Same.refl n).trans (start0_same n now n.guard)).trans (says_same (start0 n now n.guard) now (Msg.mk 0 false false ((((start0 n now n.guard).shut).e) && (!(((start0 n now n.guard).shut).w))) 0))).trans (waitFor2_same (ask6_x0 n now port fro) now n.wait)).meOk h.me) (show StP 4 14 by unfold StP; decide) (waitFor2_say (ask6_x0 n now port fro) now n.wait (says_say (start0 n now n.guard) now (Msg.mk 0 false false ((((start0 n now n.guard).shut).e) && (!(((start0 n now n.guard).shut).w))) 0) (((Same.refl n).trans (start0_same n now n.guard)).meOk h.me) (.inl rfl)))))
  apply bi <;> intro _
  apply bi <;> intro _
  exact (ask3_inv { (ask6_x1 n now port fro) with state := 4, own := 14 } now 1 0 (Inv.mk (((((Same.refl n).trans (start0_same n now n.guard)).trans (says_same (start0 n now n.guard) now (Msg.mk 0 false false ((((start0 n now n.guard).shut).e) && (!(((start0 n now n.guard).shut).w))) 0))).trans (waitFor2_same (ask6_x0 n now port fro) now n.wait)).roleOk h.role) (((((Same.refl n).trans (start0_same n now n.guard)).trans (says_same (start0 n now n.guard) now (Msg.mk 0 false false ((((start0 n now n.guard).shut).e) && (!(((start0 n now n.guard).shut).w))) 0))).trans (waitFor2_same (ask6_x0 n now port fro) now n.wait)).meOk h.me) (show StP 4 14 by unfold StP; decide) (waitFor2_say (ask6_x0 n now port fro) now n.wait (says_say (start0 n now n.guard) now (Msg.mk 0 false false ((((start0 n now n.guard).shut).e) && (!(((start0 n now n.guard).shut).w))) 0) (((Same.refl n).trans (start0_same n now n.guard)).meOk h.me) (.inl rfl)))))
  exact (ask3_inv { (ask6_x1 n now port fro) with state := 4, own := 14 } now 1 0 (Inv.mk (((((Same.refl n).trans (start0_same n now n.guard)).trans (says_same (start0 n now n.guard) now (Msg.mk 0 false false ((((start0 n now n.guard).shut).e) && (!(((start0 n now n.guard).shut).w))) 0))).trans (waitFor2_same (ask6_x0 n now port fro) now n.wait)).roleOk h.role) (((((Same.refl n).trans (start0_same n now n.guard)).trans (says_same (start0 n now n.guard) now (Msg.mk 0 false false ((((start0 n now n.guard).shut).e) && (!(((start0 n now n.guard).shut).w))) 0))).trans (waitFor2_same (ask6_x0 n now port fro) now n.wait)).meOk h.me) (show StP 4 14 by unfold StP; decide) (waitFor2_say (ask6_x0 n now port fro) now n.wait (says_say (start0 n now n.guard) now (Msg.mk 0 false false ((((start0 n now n.guard).shut).e) && (!(((start0 n now n.guard).shut).w))) 0) (((Same.refl n).trans (start0_same n now n.guard)).meOk h.me) (.inl rfl)))))
  exact (Inv.mk (((((Same.refl n).trans (start0_same n now n.guard)).trans (says_same (start0 n now n.guard) now (Msg.mk 0 false false ((((start0 n now n.guard).shut).e) && (!(((start0 n now n.guard).shut).w))) 0))).trans (waitFor2_same (ask6_x0 n now port fro) now n.wait)).roleOk h.role) (((((Same.refl n).trans (start0_same n now n.guard)).trans (says_same (start0 n now n.guard) now (Msg.mk 0 false false ((((start0 n now n.guard).shut).e) && (!(((start0 n now n.guard).shut).w))) 0))).trans (waitFor2_same (ask6_x0 n now port fro) now n.wait)).meOk h.me) (show StP 4 14 by unfold StP; decide) (waitFor2_say (ask6_x0 n now port fro) now n.wait (says_say (start0 n now n.guard) now (Msg.mk 0 false false ((((start0 n now n.guard).shut).e) && (!(((start0 n now n.guard).shut).w))) 0) (((Same.refl n).trans (start0_same n now n.guard)).meOk h.me) (.inl rfl))))
  apply bi <;> intro _
  apply bi <;> intro _
  apply bi <;> intro _
  exact (ask3_inv ((ask6_x6 n now port fro).1) now 1 0 (ask3_inv { (ask6_x5 n now port fro) with state := 4, own := 14 } now 0 0 (Inv.mk (((((Same.refl n).trans (start0_same n now n.guard)).trans (says_same (start0 n now n.guard) now (Msg.mk 0 false false false 0))).trans (waitFor2_same (ask6_x4 n now port fro) now n.wait)).roleOk h.role) (((((Same.refl n).trans (start0_same n now n.guard)).trans (says_same (start0 n now n.guard) now (Msg.mk 0 false false false 0))).trans (waitFor2_same (ask6_x4 n now port fro) now n.wait)).meOk h.me) (show StP 4 14 by unfold StP; decide) (waitFor2_say (ask6_x4 n now port fro) now n.wait (says_say (start0 n now n.guard) now (Msg.mk 0 false false false 0) (((Same.refl n).trans (start0_same n now n.guard)).meOk h.me) (.inl rfl))))))
  exact (ask3_inv { (ask6_x5 n now port fro) with state := 4, own := 14 } now 0 0 (Inv.mk (((((Same.refl n).trans (start0_same n now n.guard)).trans (says_same (start0 n now n.guard) now (Msg.mk 0 false false false 0))).trans (waitFor2_same (ask6_x4 n now port fro) now n.wait)).roleOk h.role) (((((Same.refl n).trans (start0_same n now n.guard)).trans (says_same (start0 n now n.guard) now (Msg.mk 0 false false false 0))).trans (waitFor2_same (ask6_x4 n now port fro) now n.wait)).meOk h.me) (show StP 4 14 by unfold StP; decide) (waitFor2_say (ask6_x4 n now port fro) now n.wait (says_say (start0 n now n.guard) now (Msg.mk 0 false false false 0) (((Same.refl n).trans (start0_same n now n.guard)).meOk h.me) (.inl rfl)))))
  apply bi <;> intro _
  apply bi <;> intro _
  exact (ask3_inv ((ask6_x6 n now port fro).1) now 1 0 (ask3_inv { (ask6_x5 n now port fro) with state := 4, own := 14 } now 0 0 (Inv.mk (((((Same.refl n).trans (start0_same n now n.guard)).trans (says_same (start0 n now n.guard) now (Msg.mk 0 false false false 0))).trans (waitFor2_same (ask6_x4 n now port fro) now n.wait)).roleOk h.role) (((((Same.refl n).trans (start0_same n now n.guard)).trans (says_same (start0 n now n.guard) now (Msg.mk 0 false false false 0))).trans (waitFor2_same (ask6_x4 n now port fro) now n.wait)).meOk h.me) (show StP 4 14 by unfold StP; decide) (waitFor2_say (ask6_x4 n now port fro) now n.wait (says_say (start0 n now n.guard) now (Msg.mk 0 false false false 0) (((Same.refl n).trans (start0_same n now n.guard)).meOk h.me) (.inl rfl))))))
  exact (ask3_inv ((ask6_x6 n now port fro).1) now 1 0 (ask3_inv { (ask6_x5 n now port fro) with state := 4, own := 14 } now 0 0 (Inv.mk (((((Same.refl n).trans (start0_same n now n.guard)).trans (says_same (start0 n now n.guard) now (Msg.mk 0 false false false 0))).trans (waitFor2_same (ask6_x4 n now port fro) now n.wait)).roleOk h.role) (((((Same.refl n).trans (start0_same n now n.guard)).trans (says_same (start0 n now n.guard) now (Msg.mk 0 false false false 0))).trans (waitFor2_same (ask6_x4 n now port fro) now n.wait)).meOk h.me) (show StP 4 14 by unfold StP; decide) (waitFor2_say (ask6_x4 n now port fro) now n.wait (says_say (start0 n now n.guard) now (Msg.mk 0 false false false 0) (((Same.refl n).trans (start0_same n now n.guard)).meOk h.me) (.inl rfl))))))
  exact (ask3_inv { (ask6_x5 n now port fro) with state := 4, own := 14 } now 0 0 (Inv.mk (((((Same.refl n).trans (start0_same n now n.guard)).trans (says_same (start0 n now n.guard) now (Msg.mk 0 false false false 0))).trans (waitFor2_same (ask6_x4 n now port fro) now n.wait)).roleOk h.role) (((((Same.refl n).trans (start0_same n now n.guard)).trans (says_same (start0 n now n.guard) now (Msg.mk 0 false false false 0))).trans (waitFor2_same (ask6_x4 n now port fro) now n.wait)).meOk h.me) (show StP 4 14 by unfold StP; decide) (waitFor2_say (ask6_x4 n now port fro) now n.wait (says_say (start0 n now n.guard) now (Msg.mk 0 false false false 0) (((Same.refl n).trans (start0_same n now n.guard)).meOk h.me) (.inl rfl)))))
  apply bi <;> intro _
  apply bi <;> intro _
  exact (ask3_inv { (ask6_x5 n now port fro) with state := 4, own := 14 } now 1 0 (Inv.mk (((((Same.refl n).trans (start0_same n now n.guard)).trans (says_same (start0 n now n.guard) now (Msg.mk 0 false false false 0))).trans (waitFor2_same (ask6_x4 n now port fro) now n.wait)).roleOk h.role) (((((Same.refl n).trans (start0_same n now n.guard)).trans (says_same (start0 n now n.guard) now (Msg.mk 0 false false false 0))).trans (waitFor2_same (ask6_x4 n now port fro) now n.wait)).meOk h.me) (show StP 4 14 by unfold StP; decide) (waitFor2_say (ask6_x4 n now port fro) now n.wait (says_say (start0 n now n.guard) now (Msg.mk 0 false false false 0) (((Same.refl n).trans (start0_same n now n.guard)).meOk h.me) (.inl rfl)))))
  exact (ask3_inv { (ask6_x5 n now port fro) with state := 4, own := 14 } now 1 0 (Inv.mk (((((Same.refl n).trans (start0_same n now n.guard)).trans (says_same (start0 n now n.guard) now (Msg.mk 0 false false false 0))).trans (waitFor2_same (ask6_x4 n now port fro) now n.wait)).roleOk h.role) (((((Same.refl n).trans (start0_same n now n.guard)).trans (says_same (start0 n now n.guard) now (Msg.mk 0 false false false 0))).trans (waitFor2_same (ask6_x4 n now port fro) now n.wait)).meOk h.me) (show StP 4 14 by unfold StP; decide) (waitFor2_say (ask6_x4 n now port fro) now n.wait (says_say (start0 n now n.guard) now (Msg.mk 0 false false false 0) (((Same.refl n).trans (start0_same n now n.guard)).meOk h.me) (.inl rfl)))))
  exact (Inv.mk (((((Same.refl n).trans (start0_same n now n.guard)).trans (says_same (start0 n now n.guard) now (Msg.mk 0 false false false 0))).trans (waitFor2_same (ask6_x4 n now port fro) now n.wait)).roleOk h.role) (((((Same.refl n).trans (start0_same n now n.guard)).trans (says_same (start0 n now n.guard) now (Msg.mk 0 false false false 0))).trans (waitFor2_same (ask6_x4 n now port fro) now n.wait)).meOk h.me) (show StP 4 14 by unfold StP; decide) (waitFor2_say (ask6_x4 n now port fro) now n.wait (says_say (start0 n now n.guard) now (Msg.mk 0 false false false 0) (((Same.refl n).trans (start0_same n now n.guard)).meOk h.me) (.inl rfl))))
  exact (Inv.mk ((((Same.refl n).trans (openSound_same n)).trans (silence_same (openSound n))).roleOk h.role) ((((Same.refl n).trans (openSound_same n)).trans (silence_same (openSound n))).meOk h.me) (show StP 2 14 by unfold StP; decide) (silence_say (openSound n)))
  apply bi <;> intro _
  exact h
  apply bi <;> intro _
  exact (Inv.mk ((((Same.refl n).trans (openSound_same n)).trans (silence_same (openSound n))).roleOk h.role) ((((Same.refl n).trans (openSound_same n)).trans (silence_same (openSound n))).meOk h.me) (show StP 2 14 by unfold StP; decide) (silence_say (openSound n)))
  exact h

theorem ask7_inv (n : Nd) (now : Int) (port : Int) (fro : Int) (h : Inv n) : Inv ((ask7 n now port fro).1) := by
  let G : Nd × Bool × Bool → Prop := fun r => Inv r.1
  show G (ask7 n now port fro)
  unfold ask7
  apply bi <;> intro _
  exact h
  apply bi <;> intro _
  apply bi <;> intro _
  exact (Inv.mk (((Same.refl n).trans (take_same n now port (Msg.mk 7 false false false 0) false)).roleOk h.role) (((Same.refl n).trans (take_same n now port (Msg.mk 7 false false false 0) false)).meOk h.me) (show StP 2 7 by unfold StP; decide) (take_say n now port (Msg.mk 7 false false false 0) false h.me (.inr ⟨.inl rfl, rfl⟩)))
  exact (Inv.mk (((Same.refl n).trans (take_same n now port (Msg.mk 7 false false false 0) false)).roleOk h.role) (((Same.refl n).trans (take_same n now port (Msg.mk 7 false false false 0) false)).meOk h.me) (show StP 2 7 by unfold StP; decide) (take_say n now port (Msg.mk 7 false false false 0) false h.me (.inr ⟨.inl rfl, rfl⟩)))
  apply bi <;> intro _
  exact h
  apply bi <;> intro _
  apply bi <;> intro _
  exact (Inv.mk (((Same.refl n).trans (take_same n now port (Msg.mk 7 false false false 0) false)).roleOk h.role) (((Same.refl n).trans (take_same n now port (Msg.mk 7 false false false 0) false)).meOk h.me) (show StP 2 7 by unfold StP; decide) (take_say n now port (Msg.mk 7 false false false 0) false h.me (.inr ⟨.inl rfl, rfl⟩)))
  exact (Inv.mk (((Same.refl n).trans (take_same n now port (Msg.mk 7 false false false 0) false)).roleOk h.role) (((Same.refl n).trans (take_same n now port (Msg.mk 7 false false false 0) false)).meOk h.me) (show StP 2 7 by unfold StP; decide) (take_say n now port (Msg.mk 7 false false false 0) false h.me (.inr ⟨.inl rfl, rfl⟩)))
  exact h

theorem ask8_inv (n : Nd) (now : Int) (port : Int) (fro : Int) (h : Inv n) : Inv ((ask8 n now port fro).1) := by
  let G : Nd × Bool × Bool → Prop := fun r => Inv r.1
  show G (ask8 n now port fro)
  unfold ask8
  apply bi <;> intro _
  exact h
  apply bi <;> intro _
  apply bi <;> intro _
  exact h
  apply bi <;> intro _
  exact (Inv.mk (((Same.refl n).trans (take_same n now n.rpl (Msg.mk 0 true false false 0) true)).roleOk h.role) (((Same.refl n).trans (take_same n now n.rpl (Msg.mk 0 true false false 0) true)).meOk h.me) (show StP 0 14 by unfold StP; decide) (take_say n now n.rpl (Msg.mk 0 true false false 0) true h.me (.inl rfl)))
  exact (Inv.mk (((Same.refl n).trans (take_same n now n.rpl (Msg.mk 0 true false false 0) true)).roleOk h.role) (((Same.refl n).trans (take_same n now n.rpl (Msg.mk 0 true false false 0) true)).meOk h.me) (show StP 0 14 by unfold StP; decide) (take_say n now n.rpl (Msg.mk 0 true false false 0) true h.me (.inl rfl)))
  exact h

theorem ask10_inv (n : Nd) (now : Int) (port : Int) (fro : Int) (h : Inv n) : Inv ((ask10 n now port fro).1) := by
  let G : Nd × Bool × Bool → Prop := fun r => Inv r.1
  show G (ask10 n now port fro)
  unfold ask10
  apply bi <;> intro _
  exact h
  apply bi <;> intro _
  apply bi <;> intro _
  exact h
  apply bi <;> intro _
  exact (Inv.mk (((Same.refl n).trans (take_same n now n.rpl (Msg.mk 0 true false false 0) true)).roleOk h.role) (((Same.refl n).trans (take_same n now n.rpl (Msg.mk 0 true false false 0) true)).meOk h.me) (show StP 0 14 by unfold StP; decide) (take_say n now n.rpl (Msg.mk 0 true false false 0) true h.me (.inl rfl)))
  exact (Inv.mk (((Same.refl n).trans (take_same n now n.rpl (Msg.mk 0 true false false 0) true)).roleOk h.role) (((Same.refl n).trans (take_same n now n.rpl (Msg.mk 0 true false false 0) true)).meOk h.me) (show StP 0 14 by unfold StP; decide) (take_say n now n.rpl (Msg.mk 0 true false false 0) true h.me (.inl rfl)))
  exact h

theorem ask12_inv (n : Nd) (now : Int) (port : Int) (fro : Int) (h : Inv n) : Inv ((ask12 n now port fro).1) := by
  let G : Nd × Bool × Bool → Prop := fun r => Inv r.1
  show G (ask12 n now port fro)
  unfold ask12
  apply bi <;> intro _
  exact h
  apply bi <;> intro _
  apply bi <;> intro _
  exact h
  exact (Inv.mk (((Same.refl n).trans (homeFar_same n)).roleOk h.role) (((Same.refl n).trans (homeFar_same n)).meOk h.me) (show StP 0 14 by unfold StP; decide) (homeFar_say n h.say))
  exact h

theorem ask13_inv (n : Nd) (now : Int) (port : Int) (fro : Int) (h : Inv n) : Inv ((ask13 n now port fro).1) := by
  let G : Nd × Bool × Bool → Prop := fun r => Inv r.1
  show G (ask13 n now port fro)
  unfold ask13
  apply bi <;> intro _
  exact h
  apply bi <;> intro _
  apply bi <;> intro _
  exact (Inv.mk ((Same.refl n).roleOk h.role) ((Same.refl n).meOk h.me) (show StP 0 14 by unfold StP; decide) h.say)
  exact (Inv.mk ((((Same.refl n).trans (openSound_same n)).trans (silence_same (openSound n))).roleOk h.role) ((((Same.refl n).trans (openSound_same n)).trans (silence_same (openSound n))).meOk h.me) (show StP 0 14 by unfold StP; decide) (silence_say (openSound n)))
  apply bi <;> intro _
  apply bi <;> intro _
  apply bi <;> intro _
  apply bi <;> intro _
  exact (ask3_inv ((ask13_x0 n now port fro).1) now 1 0 (ask3_inv { (waitFor1 n now n.rest) with state := 4, own := 14 } now 0 0 (Inv.mk (((Same.refl n).trans (waitFor1_same n now n.rest)).roleOk h.role) (((Same.refl n).trans (waitFor1_same n now n.rest)).meOk h.me) (show StP 4 14 by unfold StP; decide) (waitFor1_say n now n.rest h.say))))
  exact (ask3_inv { (waitFor1 n now n.rest) with state := 4, own := 14 } now 0 0 (Inv.mk (((Same.refl n).trans (waitFor1_same n now n.rest)).roleOk h.role) (((Same.refl n).trans (waitFor1_same n now n.rest)).meOk h.me) (show StP 4 14 by unfold StP; decide) (waitFor1_say n now n.rest h.say)))
  apply bi <;> intro _
  apply bi <;> intro _
  exact (ask3_inv ((ask13_x0 n now port fro).1) now 1 0 (ask3_inv { (waitFor1 n now n.rest) with state := 4, own := 14 } now 0 0 (Inv.mk (((Same.refl n).trans (waitFor1_same n now n.rest)).roleOk h.role) (((Same.refl n).trans (waitFor1_same n now n.rest)).meOk h.me) (show StP 4 14 by unfold StP; decide) (waitFor1_say n now n.rest h.say))))
  exact (ask3_inv ((ask13_x0 n now port fro).1) now 1 0 (ask3_inv { (waitFor1 n now n.rest) with state := 4, own := 14 } now 0 0 (Inv.mk (((Same.refl n).trans (waitFor1_same n now n.rest)).roleOk h.role) (((Same.refl n).trans (waitFor1_same n now n.rest)).meOk h.me) (show StP 4 14 by unfold StP; decide) (waitFor1_say n now n.rest h.say))))
  exact (ask3_inv { (waitFor1 n now n.rest) with state := 4, own := 14 } now 0 0 (Inv.mk (((Same.refl n).trans (waitFor1_same n now n.rest)).roleOk h.role) (((Same.refl n).trans (waitFor1_same n now n.rest)).meOk h.me) (show StP 4 14 by unfold StP; decide) (waitFor1_say n now n.rest h.say)))
  apply bi <;> intro _
  apply bi <;> intro _
  exact (ask3_inv { (waitFor1 n now n.rest) with state := 4, own := 14 } now 1 0 (Inv.mk (((Same.refl n).trans (waitFor1_same n now n.rest)).roleOk h.role) (((Same.refl n).trans (waitFor1_same n now n.rest)).meOk h.me) (show StP 4 14 by unfold StP; decide) (waitFor1_say n now n.rest h.say)))
  exact (ask3_inv { (waitFor1 n now n.rest) with state := 4, own := 14 } now 1 0 (Inv.mk (((Same.refl n).trans (waitFor1_same n now n.rest)).roleOk h.role) (((Same.refl n).trans (waitFor1_same n now n.rest)).meOk h.me) (show StP 4 14 by unfold StP; decide) (waitFor1_say n now n.rest h.say)))
  exact (Inv.mk (((Same.refl n).trans (waitFor1_same n now n.rest)).roleOk h.role) (((Same.refl n).trans (waitFor1_same n now n.rest)).meOk h.me) (show StP 4 14 by unfold StP; decide) (waitFor1_say n now n.rest h.say))
  apply bi <;> intro _
  apply bi <;> intro _
  exact h
  apply bi <;> intro _
  apply bi <;> intro _
  apply bi <;> intro _
  exact (ask3_inv ((ask13_x2 n now port fro).1) now 1 0 (ask3_inv { (waitFor2 n now n.wait) with state := 4, own := 14 } now 0 0 (Inv.mk (((Same.refl n).trans (waitFor2_same n now n.wait)).roleOk h.role) (((Same.refl n).trans (waitFor2_same n now n.wait)).meOk h.me) (show StP 4 14 by unfold StP; decide) (waitFor2_say n now n.wait h.say))))
  exact (ask3_inv { (waitFor2 n now n.wait) with state := 4, own := 14 } now 0 0 (Inv.mk (((Same.refl n).trans (waitFor2_same n now n.wait)).roleOk h.role) (((Same.refl n).trans (waitFor2_same n now n.wait)).meOk h.me) (show StP 4 14 by unfold StP; decide) (waitFor2_say n now n.wait h.say)))
  apply bi <;> intro _
  apply bi <;> intro _
  exact (ask3_inv ((ask13_x2 n now port fro).1) now 1 0 (ask3_inv { (waitFor2 n now n.wait) with state := 4, own := 14 } now 0 0 (Inv.mk (((Same.refl n).trans (waitFor2_same n now n.wait)).roleOk h.role) (((Same.refl n).trans (waitFor2_same n now n.wait)).meOk h.me) (show StP 4 14 by unfold StP; decide) (waitFor2_say n now n.wait h.say))))
  exact (ask3_inv ((ask13_x2 n now port fro).1) now 1 0 (ask3_inv { (waitFor2 n now n.wait) with state := 4, own := 14 } now 0 0 (Inv.mk (((Same.refl n).trans (waitFor2_same n now n.wait)).roleOk h.role) (((Same.refl n).trans (waitFor2_same n now n.wait)).meOk h.me) (show StP 4 14 by unfold StP; decide) (waitFor2_say n now n.wait h.say))))
  exact (ask3_inv { (waitFor2 n now n.wait) with state := 4, own := 14 } now 0 0 (Inv.mk (((Same.refl n).trans (waitFor2_same n now n.wait)).roleOk h.role) (((Same.refl n).trans (waitFor2_same n now n.wait)).meOk h.me) (show StP 4 14 by unfold StP; decide) (waitFor2_say n now n.wait h.say)))
  apply bi <;> intro _
  apply bi <;> intro _
  exact (ask3_inv { (waitFor2 n now n.wait) with state := 4, own := 14 } now 1 0 (Inv.mk (((Same.refl n).trans (waitFor2_same n now n.wait)).roleOk h.role) (((Same.refl n).trans (waitFor2_same n now n.wait)).meOk h.me) (show StP 4 14 by unfold StP; decide) (waitFor2_say n now n.wait h.say)))
  exact (ask3_inv { (waitFor2 n now n.wait) with state := 4, own := 14 } now 1 0 (Inv.mk (((Same.refl n).trans (waitFor2_same n now n.wait)).roleOk h.role) (((Same.refl n).trans (waitFor2_same n now n.wait)).meOk h.me) (show StP 4 14 by unfold StP; decide) (waitFor2_say n now n.wait h.say)))
  exact (Inv.mk (((Same.refl n).trans (waitFor2_same n now n.wait)).roleOk h.role) (((Same.refl n).trans (waitFor2_same n now n.wait)).meOk h.me) (show StP 4 14 by unfold StP; decide) (waitFor2_say n now n.wait h.say))
  apply bi <;> intro _
  apply bi <;> intro _
  apply bi <;> intro _
  apply bi <;> intro _
  apply bi <;> intro _
  exact (ask3_inv ((ask13_x4 n now port fro).1) now 1 0 (ask3_inv { n with state := 4, own := 14 } now 0 0 (Inv.mk ((Same.refl n).roleOk h.role) ((Same.refl n).meOk h.me) (show StP 4 14 by unfold StP; decide) h.say)))
  exact (ask3_inv { n with state := 4, own := 14 } now 0 0 (Inv.mk ((Same.refl n).roleOk h.role) ((Same.refl n).meOk h.me) (show StP 4 14 by unfold StP; decide) h.say))
  apply bi <;> intro _
  apply bi <;> intro _
  exact (ask3_inv ((ask13_x4 n now port fro).1) now 1 0 (ask3_inv { n with state := 4, own := 14 } now 0 0 (Inv.mk ((Same.refl n).roleOk h.role) ((Same.refl n).meOk h.me) (show StP 4 14 by unfold StP; decide) h.say)))
  exact (ask3_inv ((ask13_x4 n now port fro).1) now 1 0 (ask3_inv { n with state := 4, own := 14 } now 0 0 (Inv.mk ((Same.refl n).roleOk h.role) ((Same.refl n).meOk h.me) (show StP 4 14 by unfold StP; decide) h.say)))
  exact (ask3_inv { n with state := 4, own := 14 } now 0 0 (Inv.mk ((Same.refl n).roleOk h.role) ((Same.refl n).meOk h.me) (show StP 4 14 by unfold StP; decide) h.say))
  apply bi <;> intro _
  apply bi <;> intro _
  exact (ask3_inv { n with state := 4, own := 14 } now 1 0 (Inv.mk ((Same.refl n).roleOk h.role) ((Same.refl n).meOk h.me) (show StP 4 14 by unfold StP; decide) h.say))
  exact (ask3_inv { n with state := 4, own := 14 } now 1 0 (Inv.mk ((Same.refl n).roleOk h.role) ((Same.refl n).meOk h.me) (show StP 4 14 by unfold StP; decide) h.say))
  exact (Inv.mk ((Same.refl n).roleOk h.role) ((Same.refl n).meOk h.me) (show StP 4 14 by unfold StP; decide) h.say)
  apply bi <;> intro _
  apply bi <;> intro _
  apply bi <;> intro _
  exact (ask3_inv ((ask13_x6 n now port fro).1) now 1 0 (ask3_inv { (silence (openSound n)) with state := 4, own := 14 } now 0 0 (Inv.mk ((((Same.refl n).trans (openSound_same n)).trans (silence_same (openSound n))).roleOk h.role) ((((Same.refl n).trans (openSound_same n)).trans (silence_same (openSound n))).meOk h.me) (show StP 4 14 by unfold StP; decide) (silence_say (openSound n)))))
  exact (ask3_inv { (silence (openSound n)) with state := 4, own := 14 } now 0 0 (Inv.mk ((((Same.refl n).trans (openSound_same n)).trans (silence_same (openSound n))).roleOk h.role) ((((Same.refl n).trans (openSound_same n)).trans (silence_same (openSound n))).meOk h.me) (show StP 4 14 by unfold StP; decide) (silence_say (openSound n))))
  apply bi <;> intro _
  apply bi <;> intro _
  exact (ask3_inv ((ask13_x6 n now port fro).1) now 1 0 (ask3_inv { (silence (openSound n)) with state := 4, own := 14 } now 0 0 (Inv.mk ((((Same.refl n).trans (openSound_same n)).trans (silence_same (openSound n))).roleOk h.role) ((((Same.refl n).trans (openSound_same n)).trans (silence_same (openSound n))).meOk h.me) (show StP 4 14 by unfold StP; decide) (silence_say (openSound n)))))
  exact (ask3_inv ((ask13_x6 n now port fro).1) now 1 0 (ask3_inv { (silence (openSound n)) with state := 4, own := 14 } now 0 0 (Inv.mk ((((Same.refl n).trans (openSound_same n)).trans (silence_same (openSound n))).roleOk h.role) ((((Same.refl n).trans (openSound_same n)).trans (silence_same (openSound n))).meOk h.me) (show StP 4 14 by unfold StP; decide) (silence_say (openSound n)))))
  exact (ask3_inv { (silence (openSound n)) with state := 4, own := 14 } now 0 0 (Inv.mk ((((Same.refl n).trans (openSound_same n)).trans (silence_same (openSound n))).roleOk h.role) ((((Same.refl n).trans (openSound_same n)).trans (silence_same (openSound n))).meOk h.me) (show StP 4 14 by unfold StP; decide) (silence_say (openSound n))))
  apply bi <;> intro _
  apply bi <;> intro _
  exact (ask3_inv { (silence (openSound n)) with state := 4, own := 14 } now 1 0 (Inv.mk ((((Same.refl n).trans (openSound_same n)).trans (silence_same (openSound n))).roleOk h.role) ((((Same.refl n).trans (openSound_same n)).trans (silence_same (openSound n))).meOk h.me) (show StP 4 14 by unfold StP; decide) (silence_say (openSound n))))
  exact (ask3_inv { (silence (openSound n)) with state := 4, own := 14 } now 1 0 (Inv.mk ((((Same.refl n).trans (openSound_same n)).trans (silence_same (openSound n))).roleOk h.role) ((((Same.refl n).trans (openSound_same n)).trans (silence_same (openSound n))).meOk h.me) (show StP 4 14 by unfold StP; decide) (silence_say (openSound n))))
  exact (Inv.mk ((((Same.refl n).trans (openSound_same n)).trans (silence_same (openSound n))).roleOk h.role) ((((Same.refl n).trans (openSound_same n)).trans (silence_same (openSound n))).meOk h.me) (show StP 4 14 by unfold StP; decide) (silence_say (openSound n)))
  exact h

theorem ask14_inv (n : Nd) (now : Int) (port : Int) (fro : Int) (h : Inv n) : Inv ((ask14 n now port fro).1) := by
  let G : Nd × Bool × Bool → Prop := fun r => Inv r.1
  show G (ask14 n now port fro)
  unfold ask14
  exact h

theorem order_inv (n : Nd) (now : Int) (k : Int) (port : Int) (h : Inv n) : Inv ((order n now k port).1) := by
  let G : Nd × Bool × Int → Prop := fun r => Inv r.1
  show G (order n now k port)
  unfold order
  apply bi <;> intro _
  apply bi <;> intro _
  apply bi <;> intro _
  exact h
  exact (ask1_inv n now 0 0 h)
  apply bi <;> intro _
  exact h
  apply bi <;> intro _
  exact h
  exact (ask1_inv n now 1 0 h)
  apply bi <;> intro _
  apply bi <;> intro _
  apply bi <;> intro _
  exact h
  exact (ask7_inv n now 0 0 h)
  apply bi <;> intro _
  exact h
  apply bi <;> intro _
  exact h
  exact (ask7_inv n now 1 0 h)
  apply bi <;> intro _
  apply bi <;> intro _
  exact h
  exact (ask0_inv n now port 0 h)
  exact h

theorem fault_inv (n : Nd) (now : Int) (port : Int) (bad : Bool) (h : Inv n) : Inv ((fault n now port bad).1) := by
  let G : Nd × Bool → Prop := fun r => Inv r.1
  show G (fault n now port bad)
  unfold fault
  apply bi <;> intro _
  apply bi <;> intro _
  exact h
  apply bi <;> intro _
  exact (Inv.mk ((Same.refl n).roleOk h.role) ((Same.refl n).meOk h.me) h.st h.say)
  apply bi <;> intro _
  exact (ask3_inv ({ n with bad := { n.bad with w := bad } }) now 0 0 (Inv.mk ((Same.refl n).roleOk h.role) ((Same.refl n).meOk h.me) h.st h.say))
  exact (ask4_inv ({ n with bad := { n.bad with w := bad } }) now 0 0 (Inv.mk ((Same.refl n).roleOk h.role) ((Same.refl n).meOk h.me) h.st h.say))
  apply bi <;> intro _
  exact h
  apply bi <;> intro _
  exact (Inv.mk ((Same.refl n).roleOk h.role) ((Same.refl n).meOk h.me) h.st h.say)
  apply bi <;> intro _
  exact (ask3_inv ({ n with bad := { n.bad with e := bad } }) now 1 0 (Inv.mk ((Same.refl n).roleOk h.role) ((Same.refl n).meOk h.me) h.st h.say))
  exact (ask4_inv ({ n with bad := { n.bad with e := bad } }) now 1 0 (Inv.mk ((Same.refl n).roleOk h.role) ((Same.refl n).meOk h.me) h.st h.say))

theorem hear_inv (n : Nd) (now : Int) (port : Int) (m : Msg) (h : Inv n) : Inv ((hear n now port m).1) := by
  let G : Nd × Bool → Prop := fun r => Inv r.1
  show G (hear n now port m)
  unfold hear
  apply bi <;> intro _
  apply bi <;> intro _
  exact h
  apply bi <;> intro _
  apply bi <;> intro _
  exact (ask2_inv { n with pairs := (flushHear n.pairs 0 m).1 } now 0 m.node (Inv.mk ((Same.refl n).roleOk h.role) ((Same.refl n).meOk h.me) h.st h.say))
  exact (ask2_inv { n with pairs := (flushHear n.pairs 0 m).1 } now 0 m.node (Inv.mk ((Same.refl n).roleOk h.role) ((Same.refl n).meOk h.me) h.st h.say))
  apply bi <;> intro _
  apply bi <;> intro _
  exact (ask5_inv { n with pairs := (flushHear n.pairs 0 m).1 } now 0 m.node (Inv.mk ((Same.refl n).roleOk h.role) ((Same.refl n).meOk h.me) h.st h.say))
  exact (ask5_inv { n with pairs := (flushHear n.pairs 0 m).1 } now 0 m.node (Inv.mk ((Same.refl n).roleOk h.role) ((Same.refl n).meOk h.me) h.st h.say))
  apply bi <;> intro _
  apply bi <;> intro _
  exact (ask6_inv { n with pairs := (flushHear n.pairs 0 m).1 } now 0 m.node (Inv.mk ((Same.refl n).roleOk h.role) ((Same.refl n).meOk h.me) h.st h.say))
  exact (ask6_inv { n with pairs := (flushHear n.pairs 0 m).1 } now 0 m.node (Inv.mk ((Same.refl n).roleOk h.role) ((Same.refl n).meOk h.me) h.st h.say))
  apply bi <;> intro _
  apply bi <;> intro _
  exact (ask12_inv { n with pairs := (flushHear n.pairs 0 m).1 } now 0 m.node (Inv.mk ((Same.refl n).roleOk h.role) ((Same.refl n).meOk h.me) h.st h.say))
  exact (ask12_inv { n with pairs := (flushHear n.pairs 0 m).1 } now 0 m.node (Inv.mk ((Same.refl n).roleOk h.role) ((Same.refl n).meOk h.me) h.st h.say))
  apply bi <;> intro _
  apply bi <;> intro _
  exact (ask13_inv { n with pairs := (flushHear n.pairs 0 m).1 } now 0 m.node (Inv.mk ((Same.refl n).roleOk h.role) ((Same.refl n).meOk h.me) h.st h.say))
  exact (ask13_inv { n with pairs := (flushHear n.pairs 0 m).1 } now 0 m.node (Inv.mk ((Same.refl n).roleOk h.role) ((Same.refl n).meOk h.me) h.st h.say))
  apply bi <;> intro _
  exact (ask14_inv { n with pairs := (flushHear n.pairs 0 m).1 } now 0 m.node (Inv.mk ((Same.refl n).roleOk h.role) ((Same.refl n).meOk h.me) h.st h.say))
  exact (ask14_inv { n with pairs := (flushHear n.pairs 0 m).1 } now 0 m.node (Inv.mk ((Same.refl n).roleOk h.role) ((Same.refl n).meOk h.me) h.st h.say))
  apply bi <;> intro _
  exact h
  apply bi <;> intro _
  apply bi <;> intro _
  exact (ask2_inv { n with pairs := (flushHear n.pairs 1 m).1 } now 1 m.node (Inv.mk ((Same.refl n).roleOk h.role) ((Same.refl n).meOk h.me) h.st h.say))
  exact (ask2_inv { n with pairs := (flushHear n.pairs 1 m).1 } now 1 m.node (Inv.mk ((Same.refl n).roleOk h.role) ((Same.refl n).meOk h.me) h.st h.say))
  apply bi <;> intro _
  apply bi <;> intro _
  exact (ask5_inv { n with pairs := (flushHear n.pairs 1 m).1 } now 1 m.node (Inv.mk ((Same.refl n).roleOk h.role) ((Same.refl n).meOk h.me) h.st h.say))
  exact (ask5_inv { n with pairs := (flushHear n.pairs 1 m).1 } now 1 m.node (Inv.mk ((Same.refl n).roleOk h.role) ((Same.refl n).meOk h.me) h.st h.say))
  apply bi <;> intro _
  apply bi <;> intro _
  exact (ask6_inv { n with pairs := (flushHear n.pairs 1 m).1 } now 1 m.node (Inv.mk ((Same.refl n).roleOk h.role) ((Same.refl n).meOk h.me) h.st h.say))
  exact (ask6_inv { n with pairs := (flushHear n.pairs 1 m).1 } now 1 m.node (Inv.mk ((Same.refl n).roleOk h.role) ((Same.refl n).meOk h.me) h.st h.say))
  apply bi <;> intro _
  apply bi <;> intro _
  exact (ask12_inv { n with pairs := (flushHear n.pairs 1 m).1 } now 1 m.node (Inv.mk ((Same.refl n).roleOk h.role) ((Same.refl n).meOk h.me) h.st h.say))
  exact (ask12_inv { n with pairs := (flushHear n.pairs 1 m).1 } now 1 m.node (Inv.mk ((Same.refl n).roleOk h.role) ((Same.refl n).meOk h.me) h.st h.say))
  apply bi <;> intro _
  apply bi <;> intro _
  exact (ask13_inv { n with pairs := (flushHear n.pairs 1 m).1 } now 1 m.node (Inv.mk ((Same.refl n).roleOk h.role) ((Same.refl n).meOk h.me) h.st h.say))
  exact (ask13_inv { n with pairs := (flushHear n.pairs 1 m).1 } now 1 m.node (Inv.mk ((Same.refl n).roleOk h.role) ((Same.refl n).meOk h.me) h.st h.say))
  apply bi <;> intro _
  exact (ask14_inv { n with pairs := (flushHear n.pairs 1 m).1 } now 1 m.node (Inv.mk ((Same.refl n).roleOk h.role) ((Same.refl n).meOk h.me) h.st h.say))
  exact (ask14_inv { n with pairs := (flushHear n.pairs 1 m).1 } now 1 m.node (Inv.mk ((Same.refl n).roleOk h.role) ((Same.refl n).meOk h.me) h.st h.say))

theorem Inv.say0 {n : Nd} (h : Inv n) : 0 ≤ n.say.node := by
  cases hb : n.burst.on with
  | true => rw [(h.say.1 hb).1]; exact h.me.1
  | false => rw [h.say.2 hb]; exact Int.le_refl 0
theorem burstTick_on (b : Burst) (now : Int) : (burstTick b now).1.on = b.on := by
  let G : Burst × Bool → Prop := fun r => r.1.on = b.on
  show G (burstTick b now)
  unfold burstTick
  repeat' (first | (apply bi <;> intro _) | rfl)
theorem bank_inv {n : Nd} (b : Bk) (h : Inv n) : Inv { n with bank := b } := ⟨h.role, h.me, h.st, h.say⟩
theorem tickL_inv (now : Int) (s : Nd × Bool) (h : Inv s.1) : Inv (tickL now s).2.1 := by
  obtain ⟨n, emp⟩ := s
  let G : Bool × Nd × Bool → Prop := fun r => Inv r.2.1
  have hb : Inv { n with bank := (timerPop n.bank now).2.1 } := bank_inv _ h
  show G (tickL now (n, emp))
  unfold tickL tickL_s tickL_x0 tickL_x1
  repeat' (first | (apply bi <;> intro _) | exact h | exact ask8_inv _ _ _ _ hb | exact ask10_inv _ _ _ _ hb | exact hb)
theorem tickN_inv (now : Int) : ∀ (N : Nat) (s : Nd × Bool), Inv s.1 → Inv (stepsN (tickL now) N s).1
  | 0, s, h => tickL_inv now s h
  | N + 1, s, h => by
    unfold stepsN
    exact byIte (G := fun r : Nd × Bool => Inv r.1) (fun _ => tickN_inv now N _ (tickL_inv now s h)) (fun _ => tickL_inv now s h)
theorem tick_inv (n : Nd) (now : Int) (h : Inv n) : Inv (tick n now).1 := by
  have hx := tickN_inv now 3 (n, false) h
  refine ⟨(tick_same n now).roleOk h.role, (tick_same n now).meOk h.me, hx.st, ?_, ?_⟩
  · intro hb
    have hb' : (burstTick (stepsN (tickL now) 3 (n, false)).1.burst now).1.on = true := hb
    rw [burstTick_on] at hb'
    exact hx.say.1 hb'
  · intro hb
    have hb' : (burstTick (stepsN (tickL now) 3 (n, false)).1.burst now).1.on = false := hb
    rw [burstTick_on] at hb'
    exact hx.say.2 hb'
theorem planCheck_nodes (p : Plan) : planCheck p = 0 → 3 ≤ p.nodes ∧ p.nodes ≤ 16 := by
  let G : Int → Prop := fun r => r = 0 → 3 ≤ p.nodes ∧ p.nodes ≤ 16
  show G (planCheck p)
  unfold planCheck
  refine byIte (fun _ h => absurd h (by decide)) (fun hb => ?_)
  have hn : 3 ≤ p.nodes ∧ p.nodes ≤ 16 := by
    simp only [zorf, zdf] at hb
    omega
  repeat' (first | (apply bi <;> intro _) | exact fun _ => hn)
theorem planNode_is (p : Plan) (i : Int) (hc : planCheck p = 0) (h0 : 0 ≤ i) (h1 : i < p.nodes) : planNode p i = 2199023255553 + i := by
  have hn := planCheck_nodes p hc
  unfold planNode
  have e1 : ((planCheck p == 0) && decide (i ≥ 0)) = true := by rw [hc]; simp; omega
  have e2 : (!(decide (i < p.nodes))) = false := by simp; omega
  rw [e1, e2]
  show IntKind.wrap .u64 (2199023255553 + IntKind.wrap .u64 i) = 2199023255553 + i
  have u0 : IntKind.min .u64 = 0 := by decide
  have u1 : IntKind.max .u64 = 18446744073709551615 := by decide
  rw [wrap_in .u64 (n := i) (by rw [u0]; omega) (by rw [u1]; omega), wrap_in .u64 (n := 2199023255553 + i) (by rw [u0]; omega) (by rw [u1]; omega)]
theorem planNode_ok (p : Plan) (i : Int) (hc : planCheck p = 0) (h0 : 0 ≤ i) (h1 : i < p.nodes) : 0 ≤ planNode p i ∧ rapsWrong (Msg.mk 0 false false false (planNode p i)) = 0 := by
  have hn := planCheck_nodes p hc
  rw [planNode_is p i hc h0 h1]
  refine ⟨by omega, ?_⟩
  have hi : i = 0 ∨ i = 1 ∨ i = 2 ∨ i = 3 ∨ i = 4 ∨ i = 5 ∨ i = 6 ∨ i = 7 ∨ i = 8 ∨ i = 9 ∨ i = 10 ∨ i = 11 ∨ i = 12 ∨ i = 13 ∨ i = 14 ∨ i = 15 := by omega
  rcases hi with rfl | rfl | rfl | rfl | rfl | rfl | rfl | rfl | rfl | rfl | rfl | rfl | rfl | rfl | rfl | rfl <;> first | rfl | decide
theorem erpsNew_inv (p : Plan) (i : Int) (now : Int) : (erpsNew p i now).2 = 0 → Inv (erpsNew p i now).1 := by
  let G : Nd × Int → Prop := fun r => r.2 = 0 → Inv r.1
  show G (erpsNew p i now)
  unfold erpsNew
  apply bi <;> intro hc0
  · intro h; rw [show planCheck p = 0 from h] at hc0; exact absurd hc0 (by decide)
  · have hc : planCheck p = 0 := by simpa using hc0
    apply bi <;> intro hb1
    · intro h; exact absurd h (by decide)
    · have h0 : 0 ≤ i ∧ i < p.nodes := by simp only [zorf, zdf] at hb1; omega
      have hk := planNode_ok p i hc h0.1 h0.2
      have x0 : Inv (erpsNew_x0 p i now) := ⟨(says_same _ _ _).roleOk (fun h => absurd rfl h), (says_same _ _ _).meOk hk, says_st _ _ _ (show StP 4 14 by unfold StP; decide), says_say _ _ _ hk (.inl rfl)⟩
      have x2 : Inv (erpsNew_x2 p i now) := ⟨(says_same _ _ _).roleOk (fun _ => .inr rfl), (says_same _ _ _).meOk hk, says_st _ _ _ (show StP 4 14 by unfold StP; decide), says_say _ _ _ hk (.inl rfl)⟩
      have x4 : Inv (erpsNew_x4 p i now) := ⟨(says_same _ _ _).roleOk (fun _ => .inl rfl), (says_same _ _ _).meOk hk, says_st _ _ _ (show StP 4 14 by unfold StP; decide), says_say _ _ _ hk (.inl rfl)⟩
      have s1 : ∀ (x : Nd) (l : Int), Inv x → Inv (start1 x now l) := fun x l h => ⟨(start1_same _ _ _).roleOk h.role, (start1_same _ _ _).meOk h.me, start1_st _ _ _ h.st, start1_say _ _ _ h.say⟩
      apply bi <;> intro hb2
      · intro h; rw [show (burstNew p.gap p.period).2 = 0 from h] at hb2; exact absurd hb2 (by decide)
      · repeat' (first | (apply bi <;> intro _) | exact fun _ => x0 | exact fun _ => x2 | exact fun _ => x4 | exact fun _ => s1 _ _ x0 | exact fun _ => s1 _ _ x2 | exact fun _ => s1 _ _ x4)

end Go.Proofs.E17

namespace Go.Proofs.E17
open Go Go.AX Go.Proofs
set_option maxRecDepth 1000000
set_option linter.unusedVariables false
set_option linter.unusedSimpArgs false

noncomputable def ownsC_at (l : List Act17) (k : Nat) (s : Int × Nd) : Tm × AHeap := ((Tm.told 154 [(7, .pointer (some ⟨1, 0, none⟩)), (9, .int .i64 s.1), (26, .slice (some ⟨0, 0, none⟩) l.length UNR), (27, .int .i64 (l.length : Int)), (28, .int .i64 (k : Int))]), [.ro (encs Act17.enc l) 10, .cells (Nd.enc s.2) 44 37])
noncomputable def ownsC_ret (l : List Act17) (r : Bool) : Tm × AHeap := ((Tm.told 154 [(6, .bool r)]), [.ro (encs Act17.enc l) 10])
def ownsC (now : Int) (n : Nd) : Bool × Bool :=
  bif n.state == 0 then
    bif n.own != 14 then
      (true, false)
    else
      bif n.burst.on then
        bif (n.say.node != n.me) || (!(mayMsg n.say)) then
          (true, false)
        else
          (false, false)
      else
        bif !((n.say.req == 0) && ((n.say.block == false) && ((n.say.keep == false) && ((n.say.east == false) && ((n.say.node == 0) && true))))) then
          (true, false)
        else
          (false, false)
  else
    bif n.own == 1 then
      bif n.state != 3 then
        (true, false)
      else
        bif n.burst.on then
          bif (n.say.node != n.me) || (!(mayMsg n.say)) then
            (true, false)
          else
            (false, false)
        else
          bif !((n.say.req == 0) && ((n.say.block == false) && ((n.say.keep == false) && ((n.say.east == false) && ((n.say.node == 0) && true))))) then
            (true, false)
          else
            (false, false)
    else
      bif n.own == 7 then
        bif n.state != 2 then
          (true, false)
        else
          bif n.burst.on then
            bif (n.say.node != n.me) || (!(mayMsg n.say)) then
              (true, false)
            else
              (false, false)
          else
            bif !((n.say.req == 0) && ((n.say.block == false) && ((n.say.keep == false) && ((n.say.east == false) && ((n.say.node == 0) && true))))) then
              (true, false)
            else
              (false, false)
      else
        bif decide (n.state ≥ 0) then
          bif !(decide (n.state ≤ 4)) then
            (true, false)
          else
            bif n.burst.on then
              bif (n.say.node != n.me) || (!(mayMsg n.say)) then
                (true, false)
              else
                (false, false)
            else
              bif !((n.say.req == 0) && ((n.say.block == false) && ((n.say.keep == false) && ((n.say.east == false) && ((n.say.node == 0) && true))))) then
                (true, false)
              else
                (false, false)
        else
          (true, false)
def ownsC_G (l : List Act17) (k : Nat) (now : Int) (n : Nd) (r : Bool × Bool) : Prop := AComes Tryz.prog 1 (blockAt Tryz.prog 3 3) (ownsC_at l k (now, n)).1 (ownsC_at l k (now, n)).2 (bif r.1 then .ret else .normal) (bif r.1 then ownsC_ret l r.2 else ownsC_at l k (now, n)).1 (bif r.1 then ownsC_ret l r.2 else ownsC_at l k (now, n)).2
theorem ownsC_eq (l : List Act17) (k : Nat) (now : Int) (n : Nd) (hs : 0 ≤ n.say.node) : ownsC_G l k now n (ownsC now n) := by
  unfold ownsC
  apply bi <;> intro hb0
  · apply bi <;> intro hb1
    · refine codeL 400 [0] [0] [6] [.gd 99 true, .br true, .br true] (o_ (encs_bareO Act17_bare l 10) (o_ hb0 (o_ hb1 (o_ hb1 o0)))) ?_; kernel_rfl
    · apply bi <;> intro hb2
      · refine byOr ?_
        apply bi <;> intro hb3
        · refine codeL 400 [0] [0] [6] [.gd 99 true, .br false, .is 105 (.int .i64 14), .lit, .is 113 (.int .i64 14), .lit, .is 121 (.int .i64 0), .inl, .lit, .gd 128 true, .gd 135 true, .lit, .lit] (o_ (encs_bareO Act17_bare l 10) (o_ hb0 (o_ hb1 (o_ (ieqn .i64 hb1) (o_ (ieqn .i64 hb1) (o_ (ieq .i64 hb0) (o_ hb2 (o_ hb3 o0)))))))) ?_; kernel_rfl
        · apply bi <;> intro hb4
          · refine codeL 400 [0] [0] [6] [.gd 99 true, .br false, .is 105 (.int .i64 14), .lit, .is 113 (.int .i64 14), .lit, .is 121 (.int .i64 0), .inl, .lit, .gd 128 true, .gd 135 false, mayMsg_c (mayMsg n.say), .br true, .br true] (o_ (encs_bareO Act17_bare l 10) (o_ hb0 (o_ hb1 (o_ (ieqn .i64 hb1) (o_ (ieqn .i64 hb1) (o_ (ieq .i64 hb0) (o_ hb2 (o_ hb3 (o_ (mayMsg_eq n.say (by first | omega | (simp only [zor, zand, zorf, zandf, znt, znf, zeq, zne, zeqf, znef, zd, zdf] at *; omega))) (o_ hb4 (o_ hb4 o0))))))))))) ?_; kernel_rfl
          · refine codeL 400 [0, 1] [0] [7, 9, 26, 27, 28] [.gd 99 true, .br false, .is 105 (.int .i64 14), .lit, .is 113 (.int .i64 14), .lit, .is 121 (.int .i64 0), .inl, .lit, .gd 128 true, .gd 135 false, mayMsg_c (mayMsg n.say), .br false, .gd 146 false, .lit] (o_ (encs_bareO Act17_bare l 10) (o_ hb0 (o_ hb1 (o_ (ieqn .i64 hb1) (o_ (ieqn .i64 hb1) (o_ (ieq .i64 hb0) (o_ hb2 (o_ hb3 (o_ (mayMsg_eq n.say (by first | omega | (simp only [zor, zand, zorf, zandf, znt, znf, zeq, zne, zeqf, znef, zd, zdf] at *; omega))) (o_ hb4 (o_ (show (!n.burst.on) = false from by first | omega | (simp only [zor, zand, zorf, zandf, znt, znf, zeq, zne, zeqf, znef, zd, zdf] at *; omega)) o0))))))))))) ?_; kernel_rfl
      · apply bi <;> intro hb3
        · refine codeL 400 [0] [0] [6] [.gd 99 true, .br false, .is 105 (.int .i64 14), .lit, .is 113 (.int .i64 14), .lit, .is 121 (.int .i64 0), .inl, .lit, .gd 128 false, .lit, .gd 146 true, .br true] (o_ (encs_bareO Act17_bare l 10) (o_ hb0 (o_ hb1 (o_ (ieqn .i64 hb1) (o_ (ieqn .i64 hb1) (o_ (ieq .i64 hb0) (o_ hb2 (o_ (show (!n.burst.on) = true from by first | omega | (simp only [zor, zand, zorf, zandf, znt, znf, zeq, zne, zeqf, znef, zd, zdf] at *; omega)) (o_ hb3 o0))))))))) ?_; kernel_rfl
        · refine codeL 400 [0, 1] [0] [7, 9, 26, 27, 28] [.gd 99 true, .br false, .is 105 (.int .i64 14), .lit, .is 113 (.int .i64 14), .lit, .is 121 (.int .i64 0), .inl, .lit, .gd 128 false, .lit, .gd 146 true, .br false] (o_ (encs_bareO Act17_bare l 10) (o_ hb0 (o_ hb1 (o_ (ieqn .i64 hb1) (o_ (ieqn .i64 hb1) (o_ (ieq .i64 hb0) (o_ hb2 (o_ (show (!n.burst.on) = true from by first | omega | (simp only [zor, zand, zorf, zandf, znt, znf, zeq, zne, zeqf, znef, zd, zdf] at *; omega)) (o_ hb3 o0))))))))) ?_; kernel_rfl
  · apply bi <;> intro hb1
    · apply bi <;> intro hb2
      · refine codeL 400 [0] [0] [6] [.gd 99 false, .lit, .gd 107 true, .br true, .br true] (o_ (encs_bareO Act17_bare l 10) (o_ hb0 (o_ hb1 (o_ hb2 (o_ hb2 o0))))) ?_; kernel_rfl
      · apply bi <;> intro hb3
        · refine byOr ?_
          apply bi <;> intro hb4
          · refine codeL 400 [0] [0] [6] [.gd 99 false, .lit, .gd 107 true, .br false, .is 113 (.int .i64 1), .lit, .is 121 (.int .i64 3), .inl, .lit, .gd 128 true, .gd 135 true, .lit, .lit] (o_ (encs_bareO Act17_bare l 10) (o_ hb0 (o_ hb1 (o_ hb2 (o_ (ieq .i64 hb1) (o_ (ieqn .i64 hb2) (o_ hb3 (o_ hb4 o0)))))))) ?_; kernel_rfl
          · apply bi <;> intro hb5
            · refine codeL 400 [0] [0] [6] [.gd 99 false, .lit, .gd 107 true, .br false, .is 113 (.int .i64 1), .lit, .is 121 (.int .i64 3), .inl, .lit, .gd 128 true, .gd 135 false, mayMsg_c (mayMsg n.say), .br true, .br true] (o_ (encs_bareO Act17_bare l 10) (o_ hb0 (o_ hb1 (o_ hb2 (o_ (ieq .i64 hb1) (o_ (ieqn .i64 hb2) (o_ hb3 (o_ hb4 (o_ (mayMsg_eq n.say (by first | omega | (simp only [zor, zand, zorf, zandf, znt, znf, zeq, zne, zeqf, znef, zd, zdf] at *; omega))) (o_ hb5 (o_ hb5 o0))))))))))) ?_; kernel_rfl
            · refine codeL 400 [0, 1] [0] [7, 9, 26, 27, 28] [.gd 99 false, .lit, .gd 107 true, .br false, .is 113 (.int .i64 1), .lit, .is 121 (.int .i64 3), .inl, .lit, .gd 128 true, .gd 135 false, mayMsg_c (mayMsg n.say), .br false, .gd 146 false, .lit] (o_ (encs_bareO Act17_bare l 10) (o_ hb0 (o_ hb1 (o_ hb2 (o_ (ieq .i64 hb1) (o_ (ieqn .i64 hb2) (o_ hb3 (o_ hb4 (o_ (mayMsg_eq n.say (by first | omega | (simp only [zor, zand, zorf, zandf, znt, znf, zeq, zne, zeqf, znef, zd, zdf] at *; omega))) (o_ hb5 (o_ (show (!n.burst.on) = false from by first | omega | (simp only [zor, zand, zorf, zandf, znt, znf, zeq, zne, zeqf, znef, zd, zdf] at *; omega)) o0))))))))))) ?_; kernel_rfl
        · apply bi <;> intro hb4
          · refine codeL 400 [0] [0] [6] [.gd 99 false, .lit, .gd 107 true, .br false, .is 113 (.int .i64 1), .lit, .is 121 (.int .i64 3), .inl, .lit, .gd 128 false, .lit, .gd 146 true, .br true] (o_ (encs_bareO Act17_bare l 10) (o_ hb0 (o_ hb1 (o_ hb2 (o_ (ieq .i64 hb1) (o_ (ieqn .i64 hb2) (o_ hb3 (o_ (show (!n.burst.on) = true from by first | omega | (simp only [zor, zand, zorf, zandf, znt, znf, zeq, zne, zeqf, znef, zd, zdf] at *; omega)) (o_ hb4 o0))))))))) ?_; kernel_rfl
          · refine codeL 400 [0, 1] [0] [7, 9, 26, 27, 28] [.gd 99 false, .lit, .gd 107 true, .br false, .is 113 (.int .i64 1), .lit, .is 121 (.int .i64 3), .inl, .lit, .gd 128 false, .lit, .gd 146 true, .br false] (o_ (encs_bareO Act17_bare l 10) (o_ hb0 (o_ hb1 (o_ hb2 (o_ (ieq .i64 hb1) (o_ (ieqn .i64 hb2) (o_ hb3 (o_ (show (!n.burst.on) = true from by first | omega | (simp only [zor, zand, zorf, zandf, znt, znf, zeq, zne, zeqf, znef, zd, zdf] at *; omega)) (o_ hb4 o0))))))))) ?_; kernel_rfl
    · apply bi <;> intro hb2
      · apply bi <;> intro hb3
        · refine codeL 400 [0] [0] [6] [.gd 99 false, .lit, .gd 107 false, .lit, .gd 115 true, .br true, .br true] (o_ (encs_bareO Act17_bare l 10) (o_ hb0 (o_ hb1 (o_ hb2 (o_ hb3 (o_ hb3 o0)))))) ?_; kernel_rfl
        · apply bi <;> intro hb4
          · refine byOr ?_
            apply bi <;> intro hb5
            · refine codeL 400 [0] [0] [6] [.gd 99 false, .lit, .gd 107 false, .lit, .gd 115 true, .br false, .is 121 (.int .i64 2), .inl, .lit, .gd 128 true, .gd 135 true, .lit, .lit] (o_ (encs_bareO Act17_bare l 10) (o_ hb0 (o_ hb1 (o_ hb2 (o_ hb3 (o_ (ieqn .i64 hb3) (o_ hb4 (o_ hb5 o0)))))))) ?_; kernel_rfl
            · apply bi <;> intro hb6
              · refine codeL 400 [0] [0] [6] [.gd 99 false, .lit, .gd 107 false, .lit, .gd 115 true, .br false, .is 121 (.int .i64 2), .inl, .lit, .gd 128 true, .gd 135 false, mayMsg_c (mayMsg n.say), .br true, .br true] (o_ (encs_bareO Act17_bare l 10) (o_ hb0 (o_ hb1 (o_ hb2 (o_ hb3 (o_ (ieqn .i64 hb3) (o_ hb4 (o_ hb5 (o_ (mayMsg_eq n.say (by first | omega | (simp only [zor, zand, zorf, zandf, znt, znf, zeq, zne, zeqf, znef, zd, zdf] at *; omega))) (o_ hb6 (o_ hb6 o0))))))))))) ?_; kernel_rfl
              · refine codeL 400 [0, 1] [0] [7, 9, 26, 27, 28] [.gd 99 false, .lit, .gd 107 false, .lit, .gd 115 true, .br false, .is 121 (.int .i64 2), .inl, .lit, .gd 128 true, .gd 135 false, mayMsg_c (mayMsg n.say), .br false, .gd 146 false, .lit] (o_ (encs_bareO Act17_bare l 10) (o_ hb0 (o_ hb1 (o_ hb2 (o_ hb3 (o_ (ieqn .i64 hb3) (o_ hb4 (o_ hb5 (o_ (mayMsg_eq n.say (by first | omega | (simp only [zor, zand, zorf, zandf, znt, znf, zeq, zne, zeqf, znef, zd, zdf] at *; omega))) (o_ hb6 (o_ (show (!n.burst.on) = false from by first | omega | (simp only [zor, zand, zorf, zandf, znt, znf, zeq, zne, zeqf, znef, zd, zdf] at *; omega)) o0))))))))))) ?_; kernel_rfl
          · apply bi <;> intro hb5
            · refine codeL 400 [0] [0] [6] [.gd 99 false, .lit, .gd 107 false, .lit, .gd 115 true, .br false, .is 121 (.int .i64 2), .inl, .lit, .gd 128 false, .lit, .gd 146 true, .br true] (o_ (encs_bareO Act17_bare l 10) (o_ hb0 (o_ hb1 (o_ hb2 (o_ hb3 (o_ (ieqn .i64 hb3) (o_ hb4 (o_ (show (!n.burst.on) = true from by first | omega | (simp only [zor, zand, zorf, zandf, znt, znf, zeq, zne, zeqf, znef, zd, zdf] at *; omega)) (o_ hb5 o0))))))))) ?_; kernel_rfl
            · refine codeL 400 [0, 1] [0] [7, 9, 26, 27, 28] [.gd 99 false, .lit, .gd 107 false, .lit, .gd 115 true, .br false, .is 121 (.int .i64 2), .inl, .lit, .gd 128 false, .lit, .gd 146 true, .br false] (o_ (encs_bareO Act17_bare l 10) (o_ hb0 (o_ hb1 (o_ hb2 (o_ hb3 (o_ (ieqn .i64 hb3) (o_ hb4 (o_ (show (!n.burst.on) = true from by first | omega | (simp only [zor, zand, zorf, zandf, znt, znf, zeq, zne, zeqf, znef, zd, zdf] at *; omega)) (o_ hb5 o0))))))))) ?_; kernel_rfl
      · apply bi <;> intro hb3
        · apply bi <;> intro hb4
          · refine codeL 400 [0] [0] [6] [.gd 99 false, .lit, .gd 107 false, .lit, .gd 115 false, .lit, .inl, .gd 5 true, .br true] (o_ (encs_bareO Act17_bare l 10) (o_ hb0 (o_ hb1 (o_ hb2 (o_ hb3 (o_ hb4 o0)))))) ?_; kernel_rfl
          · apply bi <;> intro hb5
            · refine byOr ?_
              apply bi <;> intro hb6
              · refine codeL 400 [0] [0] [6] [.gd 99 false, .lit, .gd 107 false, .lit, .gd 115 false, .lit, .inl, .gd 5 true, .br false, .gd 128 true, .gd 135 true, .lit, .lit] (o_ (encs_bareO Act17_bare l 10) (o_ hb0 (o_ hb1 (o_ hb2 (o_ hb3 (o_ hb4 (o_ hb5 (o_ hb6 o0)))))))) ?_; kernel_rfl
              · apply bi <;> intro hb7
                · refine codeL 400 [0] [0] [6] [.gd 99 false, .lit, .gd 107 false, .lit, .gd 115 false, .lit, .inl, .gd 5 true, .br false, .gd 128 true, .gd 135 false, mayMsg_c (mayMsg n.say), .br true, .br true] (o_ (encs_bareO Act17_bare l 10) (o_ hb0 (o_ hb1 (o_ hb2 (o_ hb3 (o_ hb4 (o_ hb5 (o_ hb6 (o_ (mayMsg_eq n.say (by first | omega | (simp only [zor, zand, zorf, zandf, znt, znf, zeq, zne, zeqf, znef, zd, zdf] at *; omega))) (o_ hb7 (o_ hb7 o0))))))))))) ?_; kernel_rfl
                · refine codeL 400 [0, 1] [0] [7, 9, 26, 27, 28] [.gd 99 false, .lit, .gd 107 false, .lit, .gd 115 false, .lit, .inl, .gd 5 true, .br false, .gd 128 true, .gd 135 false, mayMsg_c (mayMsg n.say), .br false, .gd 146 false, .lit] (o_ (encs_bareO Act17_bare l 10) (o_ hb0 (o_ hb1 (o_ hb2 (o_ hb3 (o_ hb4 (o_ hb5 (o_ hb6 (o_ (mayMsg_eq n.say (by first | omega | (simp only [zor, zand, zorf, zandf, znt, znf, zeq, zne, zeqf, znef, zd, zdf] at *; omega))) (o_ hb7 (o_ (show (!n.burst.on) = false from by first | omega | (simp only [zor, zand, zorf, zandf, znt, znf, zeq, zne, zeqf, znef, zd, zdf] at *; omega)) o0))))))))))) ?_; kernel_rfl
            · apply bi <;> intro hb6
              · refine codeL 400 [0] [0] [6] [.gd 99 false, .lit, .gd 107 false, .lit, .gd 115 false, .lit, .inl, .gd 5 true, .br false, .gd 128 false, .lit, .gd 146 true, .br true] (o_ (encs_bareO Act17_bare l 10) (o_ hb0 (o_ hb1 (o_ hb2 (o_ hb3 (o_ hb4 (o_ hb5 (o_ (show (!n.burst.on) = true from by first | omega | (simp only [zor, zand, zorf, zandf, znt, znf, zeq, zne, zeqf, znef, zd, zdf] at *; omega)) (o_ hb6 o0))))))))) ?_; kernel_rfl
              · refine codeL 400 [0, 1] [0] [7, 9, 26, 27, 28] [.gd 99 false, .lit, .gd 107 false, .lit, .gd 115 false, .lit, .inl, .gd 5 true, .br false, .gd 128 false, .lit, .gd 146 true, .br false] (o_ (encs_bareO Act17_bare l 10) (o_ hb0 (o_ hb1 (o_ hb2 (o_ hb3 (o_ hb4 (o_ hb5 (o_ (show (!n.burst.on) = true from by first | omega | (simp only [zor, zand, zorf, zandf, znt, znf, zeq, zne, zeqf, znef, zd, zdf] at *; omega)) (o_ hb6 o0))))))))) ?_; kernel_rfl
        · refine codeL 400 [0] [0] [6] [.gd 99 false, .lit, .gd 107 false, .lit, .gd 115 false, .lit, .inl, .gd 5 false, .lit] (o_ (encs_bareO Act17_bare l 10) (o_ hb0 (o_ hb1 (o_ hb2 (o_ hb3 o0))))) ?_; kernel_rfl

def ownsL_x0 (now : Int) (n : Nd) (a : Act17) : Nd × Bool := hear n (IntKind.wrap .i64 (now + (IntKind.wrap .i64 a.later))) a.port a.m
def ownsL_x1 (now : Int) (n : Nd) (a : Act17) : Bool × Bool := ownsC (IntKind.wrap .i64 (now + (IntKind.wrap .i64 a.later))) ((ownsL_x0 now n a).1)
def ownsL_x2 (now : Int) (n : Nd) (a : Act17) : Nd × Bool × Bool := tick n (IntKind.wrap .i64 (now + (IntKind.wrap .i64 a.later)))
def ownsL_x3 (now : Int) (n : Nd) (a : Act17) : Bool × Bool := ownsC (IntKind.wrap .i64 (now + (IntKind.wrap .i64 a.later))) ((ownsL_x2 now n a).1)
def ownsL_x4 (now : Int) (n : Nd) (a : Act17) : Nd × Bool × Int := order n (IntKind.wrap .i64 (now + (IntKind.wrap .i64 a.later))) a.order a.port
def ownsL_x5 (now : Int) (n : Nd) (a : Act17) : Bool × Bool := ownsC (IntKind.wrap .i64 (now + (IntKind.wrap .i64 a.later))) ((ownsL_x4 now n a).1)
def ownsL_x6 (now : Int) (n : Nd) (a : Act17) : Nd × Bool := fault n (IntKind.wrap .i64 (now + (IntKind.wrap .i64 a.later))) a.port a.bad
def ownsL_x7 (now : Int) (n : Nd) (a : Act17) : Bool × Bool := ownsC (IntKind.wrap .i64 (now + (IntKind.wrap .i64 a.later))) ((ownsL_x6 now n a).1)
def ownsL_x8 (now : Int) (n : Nd) (a : Act17) : Bool × Bool := ownsC (IntKind.wrap .i64 (now + (IntKind.wrap .i64 a.later))) n
noncomputable def ownsL_at (l : List Act17) (k : Nat) (s : Int × Nd) : Tm × AHeap := ((Tm.told 154 [(7, .pointer (some ⟨1, 0, none⟩)), (9, .int .i64 s.1), (26, .slice (some ⟨0, 0, none⟩) l.length UNR), (27, .int .i64 (l.length : Int)), (28, .int .i64 (k : Int))]), [.ro (encs Act17.enc l) 10, .cells (Nd.enc s.2) 44 37])
noncomputable def ownsL_fin (l : List Act17) (s : Int × Nd) : Tm × AHeap := ((Tm.told 154 []), [.ro (encs Act17.enc l) 10])
noncomputable def ownsL_ret (l : List Act17) (r : Bool) : Tm × AHeap := ((Tm.told 154 [(6, .bool r)]), [.ro (encs Act17.enc l) 10])
def ownsL_s (now : Int) (n : Nd) (a : Act17) : Bool × Bool × Int × Nd :=
  bif a.kind == 3 then
    bif !(mayMsg a.m) then
      (true, true, now, n)
    else
      bif (ownsL_x1 now n a).1 then
        (true, (ownsL_x1 now n a).2, now, n)
      else
        (false, false, IntKind.wrap .i64 (now + (IntKind.wrap .i64 a.later)), ((ownsL_x0 now n a).1))
  else
    bif a.kind == 0 then
      bif (ownsL_x3 now n a).1 then
        (true, (ownsL_x3 now n a).2, now, n)
      else
        (false, false, IntKind.wrap .i64 (now + (IntKind.wrap .i64 a.later)), ((ownsL_x2 now n a).1))
    else
      bif a.kind == 1 then
        bif (ownsL_x5 now n a).1 then
          (true, (ownsL_x5 now n a).2, now, n)
        else
          (false, false, IntKind.wrap .i64 (now + (IntKind.wrap .i64 a.later)), ((ownsL_x4 now n a).1))
      else
        bif a.kind == 2 then
          bif (ownsL_x7 now n a).1 then
            (true, (ownsL_x7 now n a).2, now, n)
          else
            (false, false, IntKind.wrap .i64 (now + (IntKind.wrap .i64 a.later)), ((ownsL_x6 now n a).1))
        else
          bif (ownsL_x8 now n a).1 then
            (true, (ownsL_x8 now n a).2, now, n)
          else
            (false, false, IntKind.wrap .i64 (now + (IntKind.wrap .i64 a.later)), n)
def ownsL (s : Int × Nd) (a : Act17) : Bool × Bool × Int × Nd := ownsL_s s.1 s.2 a
def ownsL_G (l : List Act17) (k : Nat) (now : Int) (n : Nd) (r : Bool × Bool × Int × Nd) : Prop := AComes Tryz.prog 1 (roundAt Tryz.prog 3 0) (ownsL_at l k (now, n)).1 (ownsL_at l k (now, n)).2 (bif r.1 then .ret else .normal) (bif r.1 then ownsL_ret l r.2.1 else ownsL_at l (k + 1) r.2.2).1 (bif r.1 then ownsL_ret l r.2.1 else ownsL_at l (k + 1) r.2.2).2
theorem ownsL_round (l : List Act17) (k : Nat) (now : Int) (n : Nd) (a : Act17) (hlen : l.length < 1099511627776) (hk : l[k]? = some a) (hI : Inv n) (hn : 0 ≤ a.m.node) : ownsL_G l k now n (ownsL_s now n a) := by
  have hkl := (List.getElem?_eq_some_iff.1 hk).1
  have hr : n.role ≠ 0 → n.rpl = 0 ∨ n.rpl = 1 := hI.role
  unfold ownsL_s
  apply bi <;> intro hb0
  · apply bi <;> intro hb1
    · refine codeL 400 [0] [0] [6] [.br true, .owe 30, .is 30 (.pointer (some ⟨0, (10 * k), none⟩)), .hint 31 (.cells [.int .u8 a.kind, .int .u16 a.later, .int .i64 a.order, .int .i64 a.port, .bool a.bad, .int .u8 a.m.req, .bool a.m.block, .bool a.m.keep, .bool a.m.east, .int .u64 a.m.node]), .gd 40 true, mayMsg_c (mayMsg a.m), .br true, .callL (.bool true) []] (o_ (encs_bareO Act17_bare l 10) (o_ (show decide ((k : Int) < (l.length : Int)) = true by rw [decide_eq_true_eq]; omega) (o_ (bs1 (b0 := decide (0 ≤ (k : Int) ∧ (k : Int) < (l.length : Int))) (by rw [decide_eq_true_eq]; omega)) (o_ (ptr_is (i := 0) (show 0 + (k : Int).toNat * 10 = 10 * k by omega)) (o_ (show ((encs Act17.enc l).drop (10 * k)).take 10 = [.int .u8 a.kind, .int .u16 a.later, .int .i64 a.order, .int .i64 a.port, .bool a.bad, .int .u8 a.m.req, .bool a.m.block, .bool a.m.keep, .bool a.m.east, .int .u64 a.m.node] from encs_part Act17_len hk) (o_ (rfl : ([.int .u8 a.kind, .int .u16 a.later, .int .i64 a.order, .int .i64 a.port, .bool a.bad, .int .u8 a.m.req, .bool a.m.block, .bool a.m.keep, .bool a.m.east, .int .u64 a.m.node] : List Value).length = 10) (o_ hb0 (o_ (mayMsg_eq a.m (by first | omega | (simp only [zor, zand, zorf, zandf, znt, znf, zeq, zne, zeqf, znef, zd, zdf] at *; omega))) (o_ hb1 (o_ awake17_ok o0)))))))))) ?_; kernel_rfl
    · apply bi <;> intro hb2
      · refine codeL 400 [0] [0] [6] (.br true :: .owe 30 :: .is 30 (.pointer (some ⟨0, (10 * k), none⟩)) :: .hint 31 (.cells [.int .u8 a.kind, .int .u16 a.later, .int .i64 a.order, .int .i64 a.port, .bool a.bad, .int .u8 a.m.req, .bool a.m.block, .bool a.m.keep, .bool a.m.east, .int .u64 a.m.node]) :: .gd 40 true :: mayMsg_c (mayMsg a.m) :: .br false :: .is 48 (.int .u8 3) :: lits 4 (hear_c (ownsL_x0 now n a) :: [.codeB [0, 1] [0] [7, 9, 26, 27, 28] .ret (ownsC_ret l (ownsL_x1 now n a).2).1 (ownsC_ret l (ownsL_x1 now n a).2).2])) (o_ (encs_bareO Act17_bare l 10) (o_ (show decide ((k : Int) < (l.length : Int)) = true by rw [decide_eq_true_eq]; omega) (o_ (bs1 (b0 := decide (0 ≤ (k : Int) ∧ (k : Int) < (l.length : Int))) (by rw [decide_eq_true_eq]; omega)) (o_ (ptr_is (i := 0) (show 0 + (k : Int).toNat * 10 = 10 * k by omega)) (o_ (show ((encs Act17.enc l).drop (10 * k)).take 10 = [.int .u8 a.kind, .int .u16 a.later, .int .i64 a.order, .int .i64 a.port, .bool a.bad, .int .u8 a.m.req, .bool a.m.block, .bool a.m.keep, .bool a.m.east, .int .u64 a.m.node] from encs_part Act17_len hk) (o_ (rfl : ([.int .u8 a.kind, .int .u16 a.later, .int .i64 a.order, .int .i64 a.port, .bool a.bad, .int .u8 a.m.req, .bool a.m.block, .bool a.m.keep, .bool a.m.east, .int .u64 a.m.node] : List Value).length = 10) (o_ hb0 (o_ (mayMsg_eq a.m (by first | omega | (simp only [zor, zand, zorf, zandf, znt, znf, zeq, zne, zeqf, znef, zd, zdf] at *; omega))) (o_ hb1 (o_ (ieq .u8 hb0) (o_ (hear_eq n (IntKind.wrap .i64 (now + (IntKind.wrap .i64 a.later))) a.port a.m (by first | omega | (simp only [zor, zand, zorf, zandf, znt, znf, zeq, zne, zeqf, znef, zd, zdf] at *; omega))) (o_ (encs_bareO Act17_bare l 10) (o_ (loopT (ownsC_eq l k (IntKind.wrap .i64 (now + (IntKind.wrap .i64 a.later))) ((ownsL_x0 now n a).1) (Inv.say0 (hear_inv n (IntKind.wrap .i64 (now + (IntKind.wrap .i64 a.later))) a.port a.m hI))) hb2) o0))))))))))))) ?_; kernel_rfl
      · refine codeL 400 [0, 1] [0] [7, 9, 26, 27, 28] (.br true :: .owe 30 :: .is 30 (.pointer (some ⟨0, (10 * k), none⟩)) :: .hint 31 (.cells [.int .u8 a.kind, .int .u16 a.later, .int .i64 a.order, .int .i64 a.port, .bool a.bad, .int .u8 a.m.req, .bool a.m.block, .bool a.m.keep, .bool a.m.east, .int .u64 a.m.node]) :: .gd 40 true :: mayMsg_c (mayMsg a.m) :: .br false :: .is 48 (.int .u8 3) :: lits 4 (hear_c (ownsL_x0 now n a) :: .codeB [0, 1] [0] [7, 9, 26, 27, 28] .normal (ownsC_at l k (IntKind.wrap .i64 (now + (IntKind.wrap .i64 a.later)), (ownsL_x0 now n a).1)).1 (ownsC_at l k (IntKind.wrap .i64 (now + (IntKind.wrap .i64 a.later)), (ownsL_x0 now n a).1)).2 :: [.is 152 (.int .i64 ((k : Int) + 1))])) (o_ (encs_bareO Act17_bare l 10) (o_ (show decide ((k : Int) < (l.length : Int)) = true by rw [decide_eq_true_eq]; omega) (o_ (bs1 (b0 := decide (0 ≤ (k : Int) ∧ (k : Int) < (l.length : Int))) (by rw [decide_eq_true_eq]; omega)) (o_ (ptr_is (i := 0) (show 0 + (k : Int).toNat * 10 = 10 * k by omega)) (o_ (show ((encs Act17.enc l).drop (10 * k)).take 10 = [.int .u8 a.kind, .int .u16 a.later, .int .i64 a.order, .int .i64 a.port, .bool a.bad, .int .u8 a.m.req, .bool a.m.block, .bool a.m.keep, .bool a.m.east, .int .u64 a.m.node] from encs_part Act17_len hk) (o_ (rfl : ([.int .u8 a.kind, .int .u16 a.later, .int .i64 a.order, .int .i64 a.port, .bool a.bad, .int .u8 a.m.req, .bool a.m.block, .bool a.m.keep, .bool a.m.east, .int .u64 a.m.node] : List Value).length = 10) (o_ hb0 (o_ (mayMsg_eq a.m (by first | omega | (simp only [zor, zand, zorf, zandf, znt, znf, zeq, zne, zeqf, znef, zd, zdf] at *; omega))) (o_ hb1 (o_ (ieq .u8 hb0) (o_ (hear_eq n (IntKind.wrap .i64 (now + (IntKind.wrap .i64 a.later))) a.port a.m (by first | omega | (simp only [zor, zand, zorf, zandf, znt, znf, zeq, zne, zeqf, znef, zd, zdf] at *; omega))) (o_ (encs_bareO Act17_bare l 10) (o_ (loopF (ownsC_eq l k (IntKind.wrap .i64 (now + (IntKind.wrap .i64 a.later))) ((ownsL_x0 now n a).1) (Inv.say0 (hear_inv n (IntKind.wrap .i64 (now + (IntKind.wrap .i64 a.later))) a.port a.m hI))) hb2) (o_ (wr_i64 (n := (k : Int) + 1) (by first | omega | (simp only [zor, zand, zorf, zandf, znt, znf, zeq, zne, zeqf, znef, zd, zdf] at *; omega)) (by first | omega | (simp only [zor, zand, zorf, zandf, znt, znf, zeq, zne, zeqf, znef, zd, zdf] at *; omega))) o0)))))))))))))) ?_; kernel_rfl
  · apply bi <;> intro hb1
    · apply bi <;> intro hb2
      · refine codeL 400 [0] [0] [6] [.br true, .owe 30, .is 30 (.pointer (some ⟨0, (10 * k), none⟩)), .hint 31 (.cells [.int .u8 a.kind, .int .u16 a.later, .int .i64 a.order, .int .i64 a.port, .bool a.bad, .int .u8 a.m.req, .bool a.m.block, .bool a.m.keep, .bool a.m.east, .int .u64 a.m.node]), .gd 40 false, .lit, .br true, tick_c (ownsL_x2 now n a), .codeB [0, 1] [0] [7, 9, 26, 27, 28] .ret (ownsC_ret l (ownsL_x3 now n a).2).1 (ownsC_ret l (ownsL_x3 now n a).2).2] (o_ (encs_bareO Act17_bare l 10) (o_ (show decide ((k : Int) < (l.length : Int)) = true by rw [decide_eq_true_eq]; omega) (o_ (bs1 (b0 := decide (0 ≤ (k : Int) ∧ (k : Int) < (l.length : Int))) (by rw [decide_eq_true_eq]; omega)) (o_ (ptr_is (i := 0) (show 0 + (k : Int).toNat * 10 = 10 * k by omega)) (o_ (show ((encs Act17.enc l).drop (10 * k)).take 10 = [.int .u8 a.kind, .int .u16 a.later, .int .i64 a.order, .int .i64 a.port, .bool a.bad, .int .u8 a.m.req, .bool a.m.block, .bool a.m.keep, .bool a.m.east, .int .u64 a.m.node] from encs_part Act17_len hk) (o_ (rfl : ([.int .u8 a.kind, .int .u16 a.later, .int .i64 a.order, .int .i64 a.port, .bool a.bad, .int .u8 a.m.req, .bool a.m.block, .bool a.m.keep, .bool a.m.east, .int .u64 a.m.node] : List Value).length = 10) (o_ hb0 (o_ hb1 (o_ (tick_eq n (IntKind.wrap .i64 (now + (IntKind.wrap .i64 a.later))) (by first | omega | (simp only [zor, zand, zorf, zandf, znt, znf, zeq, zne, zeqf, znef, zd, zdf] at *; omega))) (o_ (encs_bareO Act17_bare l 10) (o_ (loopT (ownsC_eq l k (IntKind.wrap .i64 (now + (IntKind.wrap .i64 a.later))) ((ownsL_x2 now n a).1) (Inv.say0 (tick_inv n (IntKind.wrap .i64 (now + (IntKind.wrap .i64 a.later))) hI))) hb2) o0))))))))))) ?_; kernel_rfl
      · refine codeL 400 [0, 1] [0] [7, 9, 26, 27, 28] [.br true, .owe 30, .is 30 (.pointer (some ⟨0, (10 * k), none⟩)), .hint 31 (.cells [.int .u8 a.kind, .int .u16 a.later, .int .i64 a.order, .int .i64 a.port, .bool a.bad, .int .u8 a.m.req, .bool a.m.block, .bool a.m.keep, .bool a.m.east, .int .u64 a.m.node]), .gd 40 false, .lit, .br true, tick_c (ownsL_x2 now n a), .codeB [0, 1] [0] [7, 9, 26, 27, 28] .normal (ownsC_at l k (IntKind.wrap .i64 (now + (IntKind.wrap .i64 a.later)), (ownsL_x2 now n a).1)).1 (ownsC_at l k (IntKind.wrap .i64 (now + (IntKind.wrap .i64 a.later)), (ownsL_x2 now n a).1)).2, .is 152 (.int .i64 ((k : Int) + 1))] (o_ (encs_bareO Act17_bare l 10) (o_ (show decide ((k : Int) < (l.length : Int)) = true by rw [decide_eq_true_eq]; omega) (o_ (bs1 (b0 := decide (0 ≤ (k : Int) ∧ (k : Int) < (l.length : Int))) (by rw [decide_eq_true_eq]; omega)) (o_ (ptr_is (i := 0) (show 0 + (k : Int).toNat * 10 = 10 * k by omega)) (o_ (show ((encs Act17.enc l).drop (10 * k)).take 10 = [.int .u8 a.kind, .int .u16 a.later, .int .i64 a.order, .int .i64 a.port, .bool a.bad, .int .u8 a.m.req, .bool a.m.block, .bool a.m.keep, .bool a.m.east, .int .u64 a.m.node] from encs_part Act17_len hk) (o_ (rfl : ([.int .u8 a.kind, .int .u16 a.later, .int .i64 a.order, .int .i64 a.port, .bool a.bad, .int .u8 a.m.req, .bool a.m.block, .bool a.m.keep, .bool a.m.east, .int .u64 a.m.node] : List Value).length = 10) (o_ hb0 (o_ hb1 (o_ (tick_eq n (IntKind.wrap .i64 (now + (IntKind.wrap .i64 a.later))) (by first | omega | (simp only [zor, zand, zorf, zandf, znt, znf, zeq, zne, zeqf, znef, zd, zdf] at *; omega))) (o_ (encs_bareO Act17_bare l 10) (o_ (loopF (ownsC_eq l k (IntKind.wrap .i64 (now + (IntKind.wrap .i64 a.later))) ((ownsL_x2 now n a).1) (Inv.say0 (tick_inv n (IntKind.wrap .i64 (now + (IntKind.wrap .i64 a.later))) hI))) hb2) (o_ (wr_i64 (n := (k : Int) + 1) (by first | omega | (simp only [zor, zand, zorf, zandf, znt, znf, zeq, zne, zeqf, znef, zd, zdf] at *; omega)) (by first | omega | (simp only [zor, zand, zorf, zandf, znt, znf, zeq, zne, zeqf, znef, zd, zdf] at *; omega))) o0)))))))))))) ?_; kernel_rfl
    · apply bi <;> intro hb2
      · apply bi <;> intro hb3
        · refine codeL 400 [0] [0] [6] [.br true, .owe 30, .is 30 (.pointer (some ⟨0, (10 * k), none⟩)), .hint 31 (.cells [.int .u8 a.kind, .int .u16 a.later, .int .i64 a.order, .int .i64 a.port, .bool a.bad, .int .u8 a.m.req, .bool a.m.block, .bool a.m.keep, .bool a.m.east, .int .u64 a.m.node]), .gd 40 false, .lit, .br false, .br true, order_c (ownsL_x4 now n a), .codeB [0, 1] [0] [7, 9, 26, 27, 28] .ret (ownsC_ret l (ownsL_x5 now n a).2).1 (ownsC_ret l (ownsL_x5 now n a).2).2] (o_ (encs_bareO Act17_bare l 10) (o_ (show decide ((k : Int) < (l.length : Int)) = true by rw [decide_eq_true_eq]; omega) (o_ (bs1 (b0 := decide (0 ≤ (k : Int) ∧ (k : Int) < (l.length : Int))) (by rw [decide_eq_true_eq]; omega)) (o_ (ptr_is (i := 0) (show 0 + (k : Int).toNat * 10 = 10 * k by omega)) (o_ (show ((encs Act17.enc l).drop (10 * k)).take 10 = [.int .u8 a.kind, .int .u16 a.later, .int .i64 a.order, .int .i64 a.port, .bool a.bad, .int .u8 a.m.req, .bool a.m.block, .bool a.m.keep, .bool a.m.east, .int .u64 a.m.node] from encs_part Act17_len hk) (o_ (rfl : ([.int .u8 a.kind, .int .u16 a.later, .int .i64 a.order, .int .i64 a.port, .bool a.bad, .int .u8 a.m.req, .bool a.m.block, .bool a.m.keep, .bool a.m.east, .int .u64 a.m.node] : List Value).length = 10) (o_ hb0 (o_ hb1 (o_ hb2 (o_ (order_eq n (IntKind.wrap .i64 (now + (IntKind.wrap .i64 a.later))) a.order a.port (by first | omega | (simp only [zor, zand, zorf, zandf, znt, znf, zeq, zne, zeqf, znef, zd, zdf] at *; omega))) (o_ (encs_bareO Act17_bare l 10) (o_ (loopT (ownsC_eq l k (IntKind.wrap .i64 (now + (IntKind.wrap .i64 a.later))) ((ownsL_x4 now n a).1) (Inv.say0 (order_inv n (IntKind.wrap .i64 (now + (IntKind.wrap .i64 a.later))) a.order a.port hI))) hb3) o0)))))))))))) ?_; kernel_rfl
        · refine codeL 400 [0, 1] [0] [7, 9, 26, 27, 28] [.br true, .owe 30, .is 30 (.pointer (some ⟨0, (10 * k), none⟩)), .hint 31 (.cells [.int .u8 a.kind, .int .u16 a.later, .int .i64 a.order, .int .i64 a.port, .bool a.bad, .int .u8 a.m.req, .bool a.m.block, .bool a.m.keep, .bool a.m.east, .int .u64 a.m.node]), .gd 40 false, .lit, .br false, .br true, order_c (ownsL_x4 now n a), .codeB [0, 1] [0] [7, 9, 26, 27, 28] .normal (ownsC_at l k (IntKind.wrap .i64 (now + (IntKind.wrap .i64 a.later)), (ownsL_x4 now n a).1)).1 (ownsC_at l k (IntKind.wrap .i64 (now + (IntKind.wrap .i64 a.later)), (ownsL_x4 now n a).1)).2, .is 152 (.int .i64 ((k : Int) + 1))] (o_ (encs_bareO Act17_bare l 10) (o_ (show decide ((k : Int) < (l.length : Int)) = true by rw [decide_eq_true_eq]; omega) (o_ (bs1 (b0 := decide (0 ≤ (k : Int) ∧ (k : Int) < (l.length : Int))) (by rw [decide_eq_true_eq]; omega)) (o_ (ptr_is (i := 0) (show 0 + (k : Int).toNat * 10 = 10 * k by omega)) (o_ (show ((encs Act17.enc l).drop (10 * k)).take 10 = [.int .u8 a.kind, .int .u16 a.later, .int .i64 a.order, .int .i64 a.port, .bool a.bad, .int .u8 a.m.req, .bool a.m.block, .bool a.m.keep, .bool a.m.east, .int .u64 a.m.node] from encs_part Act17_len hk) (o_ (rfl : ([.int .u8 a.kind, .int .u16 a.later, .int .i64 a.order, .int .i64 a.port, .bool a.bad, .int .u8 a.m.req, .bool a.m.block, .bool a.m.keep, .bool a.m.east, .int .u64 a.m.node] : List Value).length = 10) (o_ hb0 (o_ hb1 (o_ hb2 (o_ (order_eq n (IntKind.wrap .i64 (now + (IntKind.wrap .i64 a.later))) a.order a.port (by first | omega | (simp only [zor, zand, zorf, zandf, znt, znf, zeq, zne, zeqf, znef, zd, zdf] at *; omega))) (o_ (encs_bareO Act17_bare l 10) (o_ (loopF (ownsC_eq l k (IntKind.wrap .i64 (now + (IntKind.wrap .i64 a.later))) ((ownsL_x4 now n a).1) (Inv.say0 (order_inv n (IntKind.wrap .i64 (now + (IntKind.wrap .i64 a.later))) a.order a.port hI))) hb3) (o_ (wr_i64 (n := (k : Int) + 1) (by first | omega | (simp only [zor, zand, zorf, zandf, znt, znf, zeq, zne, zeqf, znef, zd, zdf] at *; omega)) (by first | omega | (simp only [zor, zand, zorf, zandf, znt, znf, zeq, zne, zeqf, znef, zd, zdf] at *; omega))) o0))))))))))))) ?_; kernel_rfl
      · apply bi <;> intro hb3
        · apply bi <;> intro hb4
          · refine codeL 400 [0] [0] [6] [.br true, .owe 30, .is 30 (.pointer (some ⟨0, (10 * k), none⟩)), .hint 31 (.cells [.int .u8 a.kind, .int .u16 a.later, .int .i64 a.order, .int .i64 a.port, .bool a.bad, .int .u8 a.m.req, .bool a.m.block, .bool a.m.keep, .bool a.m.east, .int .u64 a.m.node]), .gd 40 false, .lit, .br false, .br false, .br true, fault_c (ownsL_x6 now n a), .codeB [0, 1] [0] [7, 9, 26, 27, 28] .ret (ownsC_ret l (ownsL_x7 now n a).2).1 (ownsC_ret l (ownsL_x7 now n a).2).2] (o_ (encs_bareO Act17_bare l 10) (o_ (show decide ((k : Int) < (l.length : Int)) = true by rw [decide_eq_true_eq]; omega) (o_ (bs1 (b0 := decide (0 ≤ (k : Int) ∧ (k : Int) < (l.length : Int))) (by rw [decide_eq_true_eq]; omega)) (o_ (ptr_is (i := 0) (show 0 + (k : Int).toNat * 10 = 10 * k by omega)) (o_ (show ((encs Act17.enc l).drop (10 * k)).take 10 = [.int .u8 a.kind, .int .u16 a.later, .int .i64 a.order, .int .i64 a.port, .bool a.bad, .int .u8 a.m.req, .bool a.m.block, .bool a.m.keep, .bool a.m.east, .int .u64 a.m.node] from encs_part Act17_len hk) (o_ (rfl : ([.int .u8 a.kind, .int .u16 a.later, .int .i64 a.order, .int .i64 a.port, .bool a.bad, .int .u8 a.m.req, .bool a.m.block, .bool a.m.keep, .bool a.m.east, .int .u64 a.m.node] : List Value).length = 10) (o_ hb0 (o_ hb1 (o_ hb2 (o_ hb3 (o_ (fault_eq n (IntKind.wrap .i64 (now + (IntKind.wrap .i64 a.later))) a.port a.bad (by first | omega | (simp only [zor, zand, zorf, zandf, znt, znf, zeq, zne, zeqf, znef, zd, zdf] at *; omega))) (o_ (encs_bareO Act17_bare l 10) (o_ (loopT (ownsC_eq l k (IntKind.wrap .i64 (now + (IntKind.wrap .i64 a.later))) ((ownsL_x6 now n a).1) (Inv.say0 (fault_inv n (IntKind.wrap .i64 (now + (IntKind.wrap .i64 a.later))) a.port a.bad hI))) hb4) o0))))))))))))) ?_; kernel_rfl
          · refine codeL 400 [0, 1] [0] [7, 9, 26, 27, 28] [.br true, .owe 30, .is 30 (.pointer (some ⟨0, (10 * k), none⟩)), .hint 31 (.cells [.int .u8 a.kind, .int .u16 a.later, .int .i64 a.order, .int .i64 a.port, .bool a.bad, .int .u8 a.m.req, .bool a.m.block, .bool a.m.keep, .bool a.m.east, .int .u64 a.m.node]), .gd 40 false, .lit, .br false, .br false, .br true, fault_c (ownsL_x6 now n a), .codeB [0, 1] [0] [7, 9, 26, 27, 28] .normal (ownsC_at l k (IntKind.wrap .i64 (now + (IntKind.wrap .i64 a.later)), (ownsL_x6 now n a).1)).1 (ownsC_at l k (IntKind.wrap .i64 (now + (IntKind.wrap .i64 a.later)), (ownsL_x6 now n a).1)).2, .is 152 (.int .i64 ((k : Int) + 1))] (o_ (encs_bareO Act17_bare l 10) (o_ (show decide ((k : Int) < (l.length : Int)) = true by rw [decide_eq_true_eq]; omega) (o_ (bs1 (b0 := decide (0 ≤ (k : Int) ∧ (k : Int) < (l.length : Int))) (by rw [decide_eq_true_eq]; omega)) (o_ (ptr_is (i := 0) (show 0 + (k : Int).toNat * 10 = 10 * k by omega)) (o_ (show ((encs Act17.enc l).drop (10 * k)).take 10 = [.int .u8 a.kind, .int .u16 a.later, .int .i64 a.order, .int .i64 a.port, .bool a.bad, .int .u8 a.m.req, .bool a.m.block, .bool a.m.keep, .bool a.m.east, .int .u64 a.m.node] from encs_part Act17_len hk) (o_ (rfl : ([.int .u8 a.kind, .int .u16 a.later, .int .i64 a.order, .int .i64 a.port, .bool a.bad, .int .u8 a.m.req, .bool a.m.block, .bool a.m.keep, .bool a.m.east, .int .u64 a.m.node] : List Value).length = 10) (o_ hb0 (o_ hb1 (o_ hb2 (o_ hb3 (o_ (fault_eq n (IntKind.wrap .i64 (now + (IntKind.wrap .i64 a.later))) a.port a.bad (by first | omega | (simp only [zor, zand, zorf, zandf, znt, znf, zeq, zne, zeqf, znef, zd, zdf] at *; omega))) (o_ (encs_bareO Act17_bare l 10) (o_ (loopF (ownsC_eq l k (IntKind.wrap .i64 (now + (IntKind.wrap .i64 a.later))) ((ownsL_x6 now n a).1) (Inv.say0 (fault_inv n (IntKind.wrap .i64 (now + (IntKind.wrap .i64 a.later))) a.port a.bad hI))) hb4) (o_ (wr_i64 (n := (k : Int) + 1) (by first | omega | (simp only [zor, zand, zorf, zandf, znt, znf, zeq, zne, zeqf, znef, zd, zdf] at *; omega)) (by first | omega | (simp only [zor, zand, zorf, zandf, znt, znf, zeq, zne, zeqf, znef, zd, zdf] at *; omega))) o0)))))))))))))) ?_; kernel_rfl
        · apply bi <;> intro hb4
          · refine codeL 400 [0] [0] [6] [.br true, .owe 30, .is 30 (.pointer (some ⟨0, (10 * k), none⟩)), .hint 31 (.cells [.int .u8 a.kind, .int .u16 a.later, .int .i64 a.order, .int .i64 a.port, .bool a.bad, .int .u8 a.m.req, .bool a.m.block, .bool a.m.keep, .bool a.m.east, .int .u64 a.m.node]), .gd 40 false, .lit, .br false, .br false, .br false, .br false, .codeB [0, 1] [0] [7, 9, 26, 27, 28] .ret (ownsC_ret l (ownsL_x8 now n a).2).1 (ownsC_ret l (ownsL_x8 now n a).2).2] (o_ (encs_bareO Act17_bare l 10) (o_ (show decide ((k : Int) < (l.length : Int)) = true by rw [decide_eq_true_eq]; omega) (o_ (bs1 (b0 := decide (0 ≤ (k : Int) ∧ (k : Int) < (l.length : Int))) (by rw [decide_eq_true_eq]; omega)) (o_ (ptr_is (i := 0) (show 0 + (k : Int).toNat * 10 = 10 * k by omega)) (o_ (show ((encs Act17.enc l).drop (10 * k)).take 10 = [.int .u8 a.kind, .int .u16 a.later, .int .i64 a.order, .int .i64 a.port, .bool a.bad, .int .u8 a.m.req, .bool a.m.block, .bool a.m.keep, .bool a.m.east, .int .u64 a.m.node] from encs_part Act17_len hk) (o_ (rfl : ([.int .u8 a.kind, .int .u16 a.later, .int .i64 a.order, .int .i64 a.port, .bool a.bad, .int .u8 a.m.req, .bool a.m.block, .bool a.m.keep, .bool a.m.east, .int .u64 a.m.node] : List Value).length = 10) (o_ hb0 (o_ hb1 (o_ hb2 (o_ hb3 (o_ hb0 (o_ (encs_bareO Act17_bare l 10) (o_ (loopT (ownsC_eq l k (IntKind.wrap .i64 (now + (IntKind.wrap .i64 a.later))) n (Inv.say0 hI)) hb4) o0))))))))))))) ?_; kernel_rfl
          · refine codeL 400 [0, 1] [0] [7, 9, 26, 27, 28] [.br true, .owe 30, .is 30 (.pointer (some ⟨0, (10 * k), none⟩)), .hint 31 (.cells [.int .u8 a.kind, .int .u16 a.later, .int .i64 a.order, .int .i64 a.port, .bool a.bad, .int .u8 a.m.req, .bool a.m.block, .bool a.m.keep, .bool a.m.east, .int .u64 a.m.node]), .gd 40 false, .lit, .br false, .br false, .br false, .br false, .codeB [0, 1] [0] [7, 9, 26, 27, 28] .normal (ownsC_at l k (IntKind.wrap .i64 (now + (IntKind.wrap .i64 a.later)), n)).1 (ownsC_at l k (IntKind.wrap .i64 (now + (IntKind.wrap .i64 a.later)), n)).2, .is 152 (.int .i64 ((k : Int) + 1))] (o_ (encs_bareO Act17_bare l 10) (o_ (show decide ((k : Int) < (l.length : Int)) = true by rw [decide_eq_true_eq]; omega) (o_ (bs1 (b0 := decide (0 ≤ (k : Int) ∧ (k : Int) < (l.length : Int))) (by rw [decide_eq_true_eq]; omega)) (o_ (ptr_is (i := 0) (show 0 + (k : Int).toNat * 10 = 10 * k by omega)) (o_ (show ((encs Act17.enc l).drop (10 * k)).take 10 = [.int .u8 a.kind, .int .u16 a.later, .int .i64 a.order, .int .i64 a.port, .bool a.bad, .int .u8 a.m.req, .bool a.m.block, .bool a.m.keep, .bool a.m.east, .int .u64 a.m.node] from encs_part Act17_len hk) (o_ (rfl : ([.int .u8 a.kind, .int .u16 a.later, .int .i64 a.order, .int .i64 a.port, .bool a.bad, .int .u8 a.m.req, .bool a.m.block, .bool a.m.keep, .bool a.m.east, .int .u64 a.m.node] : List Value).length = 10) (o_ hb0 (o_ hb1 (o_ hb2 (o_ hb3 (o_ hb0 (o_ (encs_bareO Act17_bare l 10) (o_ (loopF (ownsC_eq l k (IntKind.wrap .i64 (now + (IntKind.wrap .i64 a.later))) n (Inv.say0 hI)) hb4) (o_ (wr_i64 (n := (k : Int) + 1) (by first | omega | (simp only [zor, zand, zorf, zandf, znt, znf, zeq, zne, zeqf, znef, zd, zdf] at *; omega)) (by first | omega | (simp only [zor, zand, zorf, zandf, znt, znf, zeq, zne, zeqf, znef, zd, zdf] at *; omega))) o0)))))))))))))) ?_; kernel_rfl
theorem ownsL_end (l : List Act17) (s : Int × Nd) : AComes Tryz.prog 1 (roundAt Tryz.prog 3 0) (ownsL_at l l.length s).1 (ownsL_at l l.length s).2 (.exit 0) (ownsL_fin l s).1 (ownsL_fin l s).2 := by
  refine codeL 400 [0] [0] [] [.br false] (o_ (encs_bareO Act17_bare l 10) (o_ (show decide ((l.length : Int) < (l.length : Int)) = false by rw [decide_eq_false_iff_not]; omega) o0)) ?_; kernel_rfl
theorem ownsL_loop (l : List Act17) (hlen : l.length < 1099511627776) (I : Int × Nd → Prop) (hI0 : ∀ s, I s → (fun s : Int × Nd => Inv s.2) s) (hOK : ∀ a ∈ l, (fun a : Act17 => 0 ≤ a.m.node) a) (hI : ∀ s a, I s → (fun a : Act17 => 0 ≤ a.m.node) a → (ownsL s a).1 = false → I (ownsL s a).2.2) (s : Int × Nd) (hs : I s) :
    AComes Tryz.prog 1 (loopAt Tryz.prog 3 0) (ownsL_at l 0 s).1 (ownsL_at l 0 s).2 (bif (runL false (ownsL) l s).1 then .ret else .exit 0) (bif (runL false (ownsL) l s).1 then ownsL_ret l (runL false (ownsL) l s).2.1 else ownsL_fin l (runL false (ownsL) l s).2.2).1 (bif (runL false (ownsL) l s).1 then ownsL_ret l (runL false (ownsL) l s).2.1 else ownsL_fin l (runL false (ownsL) l s).2.2).2 := by
  have e : loopAt Tryz.prog 3 0 = .loop (roundAt Tryz.prog 3 0) := by kernel_rfl
  rw [e]
  exact listLoop (by simp) (by simp) false (ownsL) (ownsL_at l) (ownsL_fin l) (ownsL_ret l) I (fun a : Act17 => 0 ≤ a.m.node) l hOK hI (fun k s a hk hs0 ho => by have hs := hI0 s hs0; exact ownsL_round l k s.1 s.2 a hlen hk (hs) (ho)) (fun s _ => ownsL_end l s) s hs

end Go.Proofs.E17

namespace Go.Proofs.E17
open Go Go.AX Go.Proofs
set_option maxRecDepth 1000000
set_option linter.unusedVariables false
set_option linter.unusedSimpArgs false

theorem ownsL_inv (s : Int × Nd) (a : Act17) (h : Inv s.2) : (ownsL s a).1 = false → Inv (ownsL s a).2.2.2 := by
  let G : Bool × Bool × Int × Nd → Prop := fun r => r.1 = false → Inv r.2.2.2
  show G (ownsL s a)
  unfold ownsL ownsL_s
  repeat' (first | (apply bi <;> intro _) | exact fun h => Bool.noConfusion h | exact fun _ => tick_inv _ _ h | exact fun _ => order_inv _ _ _ _ h | exact fun _ => fault_inv _ _ _ _ h | exact fun _ => hear_inv _ _ _ _ h | exact fun _ => h)
theorem ownsC_ok (now : Int) (n : Nd) (h : Inv n) : (ownsC now n).1 = false := by
  have hst := h.st
  unfold StP at hst
  have h1 := h.say.1
  have h2 := h.say.2
  let G : Bool × Bool → Prop := fun r => r.1 = false
  show G (ownsC now n)
  unfold ownsC
  repeat' (apply bi <;> intro _)
  all_goals (first | rfl | (exfalso; simp only [zor, zand, zorf, zandf, znt, znf, zeq, zne, zeqf, znef, zd, zdf] at *; omega) | (exfalso; simp_all))
theorem ownsL_says (s : Int × Nd) (a : Act17) (h : Inv s.2) : (ownsL s a).1 = true → (ownsL s a).2.1 = true := by
  let G : Bool × Bool × Int × Nd → Prop := fun r => r.1 = true → r.2.1 = true
  show G (ownsL s a)
  unfold ownsL ownsL_s
  repeat' (apply bi <;> intro hx)
  all_goals (first | exact fun _ => rfl | exact fun h => Bool.noConfusion h | exact absurd (hx.symm.trans (ownsC_ok _ _ (tick_inv _ _ h))) (by decide) | exact absurd (hx.symm.trans (ownsC_ok _ _ (order_inv _ _ _ _ h))) (by decide) | exact absurd (hx.symm.trans (ownsC_ok _ _ (fault_inv _ _ _ _ h))) (by decide) | exact absurd (hx.symm.trans (ownsC_ok _ _ (hear_inv _ _ _ _ h))) (by decide) | exact absurd (hx.symm.trans (ownsC_ok _ _ h)) (by decide) | fail)
theorem ownsL_all (l : List Act17) (hlen : l.length < 1099511627776) (hOK : ∀ a ∈ l, 0 ≤ a.m.node) (s : Int × Nd) (hs : Inv s.2) :
    AComes Tryz.prog 1 (loopAt Tryz.prog 3 0) (ownsL_at l 0 s).1 (ownsL_at l 0 s).2 (bif (runL false ownsL l s).1 then .ret else .exit 0) (bif (runL false ownsL l s).1 then ownsL_ret l (runL false ownsL l s).2.1 else ownsL_fin l (runL false ownsL l s).2.2).1 (bif (runL false ownsL l s).1 then ownsL_ret l (runL false ownsL l s).2.1 else ownsL_fin l (runL false ownsL l s).2.2).2 :=
  ownsL_loop l hlen (fun s => Inv s.2) (fun s h => h) hOK (fun s a hs ho hb => ownsL_inv s a hs hb) s hs
theorem ownsL_true : ∀ (l : List Act17) (s : Int × Nd), Inv s.2 → (runL false ownsL l s).1 = true → (runL false ownsL l s).2.1 = true
  | [], _, _, e => Bool.noConfusion e
  | a :: l, s, h, e => by
    unfold runL at e ⊢
    cases hb : (ownsL s a).1 with
    | true => simp only [hb, cond_true]; exact ownsL_says s a h hb
    | false => rw [hb] at e; simp only [cond_false] at e ⊢; exact ownsL_true l _ (ownsL_inv s a h hb) e

def owns_x0 (p : Plan) (i : Int) (l : List Act17) : Bool × Bool × Int × Nd := runL false (ownsL) l (0, (erpsNew p i 0).1)
def owns (p : Plan) (i : Int) (l : List Act17) : Bool :=
  bif (((erpsNew p i 0).2) != 0) || (decide ((l.length : Int) > 80)) then
    true
  else
    bif (owns_x0 p i l).1 then
      (owns_x0 p i l).2.1
    else
      true
def owns_G (p : Plan) (i : Int) (l : List Act17) (r : Bool) : Prop := AEq Tryz.prog 3 [.agg ⟨Plan.enc p⟩, .int .i64 i, .slice (some ⟨0, 0, none⟩) l.length UNR] [.ro (encs Act17.enc l) 10] (.bool r) [.ro (encs Act17.enc l) 10]
theorem owns_eq (p : Plan) (i : Int) (l : List Act17) (hOK : ∀ a ∈ l, 0 ≤ a.m.node) : owns_G p i l (owns p i l) := by
  unfold owns
  refine byOr ?_
  apply bi <;> intro hb0
  · refine runHead 400 [erpsNew_c (erpsNew p i 0), .gd 20 true, .lit, .callL (.bool true) []] (encs_bareO Act17_bare l 10) (o_ (erpsNew_eq p i 0) (o_ hb0 (o_ awake17_ok o0))) ?_; kernel_rfl
  · apply bi <;> intro hb1
    · refine runHead 400 [erpsNew_c (erpsNew p i 0), .gd 20 false, .br true, .callL (.bool true) []] (encs_bareO Act17_bare l 10) (o_ (erpsNew_eq p i 0) (o_ hb0 (o_ hb1 (o_ awake17_ok o0)))) ?_; kernel_rfl
    · apply bi <;> intro hb2
      · refine runHead 400 [erpsNew_c (erpsNew p i 0), .gd 20 false, .br false, .codeG [0, 2] [0] [7, 9, 26, 27, 28] .ret (ownsL_ret l (owns_x0 p i l).2.1).1 (ownsL_ret l (owns_x0 p i l).2.1).2] (encs_bareO Act17_bare l 10) (o_ (erpsNew_eq p i 0) (o_ hb0 (o_ hb1 (o_ (encs_bareO Act17_bare l 10) (o_ (loopT (ownsL_all l (by have := (show (erpsNew p i 0).1.role ≠ 0 → (erpsNew p i 0).1.rpl = 0 ∨ (erpsNew p i 0).1.rpl = 1 from erpsNew_role p i 0); first | omega | (simp only [zor, zand, zorf, zandf, znt, znf, zeq, zne, zeqf, znef, zd, zdf] at *; omega)) hOK (0, (erpsNew p i 0).1) (show Inv ((erpsNew p i 0).1) from erpsNew_inv p i 0 (by have := (show (erpsNew p i 0).1.role ≠ 0 → (erpsNew p i 0).1.rpl = 0 ∨ (erpsNew p i 0).1.rpl = 1 from erpsNew_role p i 0); first | omega | (simp only [zor, zand, zorf, zandf, znt, znf, zeq, zne, zeqf, znef, zd, zdf] at *; omega)))) hb2) o0))))) ?_; kernel_rfl
      · refine runHead 400 [erpsNew_c (erpsNew p i 0), .gd 20 false, .br false, .codeG [0, 2] [0] [7, 9, 26, 27, 28] (.exit 0) (ownsL_fin l (owns_x0 p i l).2.2).1 (ownsL_fin l (owns_x0 p i l).2.2).2, .callL (.bool true) []] (encs_bareO Act17_bare l 10) (o_ (erpsNew_eq p i 0) (o_ hb0 (o_ hb1 (o_ (encs_bareO Act17_bare l 10) (o_ (loopF (ownsL_all l (by have := (show (erpsNew p i 0).1.role ≠ 0 → (erpsNew p i 0).1.rpl = 0 ∨ (erpsNew p i 0).1.rpl = 1 from erpsNew_role p i 0); first | omega | (simp only [zor, zand, zorf, zandf, znt, znf, zeq, zne, zeqf, znef, zd, zdf] at *; omega)) hOK (0, (erpsNew p i 0).1) (show Inv ((erpsNew p i 0).1) from erpsNew_inv p i 0 (by have := (show (erpsNew p i 0).1.role ≠ 0 → (erpsNew p i 0).1.rpl = 0 ∨ (erpsNew p i 0).1.rpl = 1 from erpsNew_role p i 0); first | omega | (simp only [zor, zand, zorf, zandf, znt, znf, zeq, zne, zeqf, znef, zd, zdf] at *; omega)))) hb2) (o_ awake17_ok o0)))))) ?_; kernel_rfl

theorem owns_true (p : Plan) (i : Int) (l : List Act17) : owns p i l = true := by
  let G : Bool → Prop := fun r => r = true
  show G (owns p i l)
  unfold owns
  refine byIte (fun _ => rfl) (fun hb => ?_)
  have he : (erpsNew p i 0).2 = 0 := by simp only [zorf, znef] at hb; exact hb.1
  exact byIte (fun h => ownsL_true l _ (erpsNew_inv p i 0 he) h) (fun _ => rfl)

end Go.Proofs.E17

namespace Go.Proofs.YtbjjohonfbdcmaaGreat.erpsOwns
open Go Go.AX Go.Proofs Go.Proofs.E17 Go.ChangeShapes Go.WideShapes Go.ChangeAt Go.RowKit
set_option maxRecDepth 1000000
set_option linter.unusedVariables false
set_option linter.unusedSimpArgs false
theorem erpsOwns_lifted (os : Os) (started : os.Started) (H : Type) (enc : TypeId × Value → H) :
    ReturnsInHanded {} Tryz.checked os 3 .any (Rows.erpsOwnsSpec.pre6 enc Tryz.prog Tryz.f3 Rows.erpsOwnsRow.domain false) (Rows.erpsOwnsSpec.post enc Tryz.prog Tryz.f3 false true false false) := by
  refine returnsInHanded_of_change (C := Tryz.checked) own started (by kernel_rfl) Tryz.func3
    (ChangeSpec.witness6 (enc := enc) (C := Tryz.checked) false ⟨#[], #[.agg #[.int .i64 0, .int .i64 0, .int .u8 0, .int .u16 0, .int .u16 0, .int .i64 0, .int .i64 0, .int .i64 0, .int .i64 0, .int .i64 0, .int .i64 0, .int .i64 0, .int .i64 0, .int .i64 0, .int .i64 0, .bool false], .int .i64 0, .slice none 0 0], []⟩ 8 (by kernel_rfl) (by kernel_rfl) (by kernel_rfl) (by kernel_rfl)) ?_
  intro W base args ds gs before hval0 hW hcnd _
  have hval : ∀ (j : Nat) t v, Tryz.f3.params[j]? = some t → args[j]? = some v → Value.okWide Tryz.prog W .any base t v := hval0
  have hW' := hW
  obtain ⟨p, q, hA0, hV, rfl, hfz, hnd⟩ := hW
  have hA : DataW.TrodAll enc Tryz.prog W 0 (fun _ => true) true Tryz.f3.params.toList args.toList ds p := hA0
  rw [Tryz.params3] at hA hval
  obtain ⟨v0, vs0, d0, ds0, p0, q0, hargs, rfl, rfl, h0, r0⟩ := trodAll_cons hA
  obtain ⟨v1, vs1, d1, ds1, p1, q1, rfl, rfl, rfl, h1, r1⟩ := trodAll_cons r0
  obtain ⟨v2, vs2, d2, ds2, p2, q2, rfl, rfl, rfl, h2, r2⟩ := trodAll_cons r1
  obtain ⟨rfl, rfl, rfl⟩ := trodAll_nil r2
  obtain rfl : args = #[v0, v1, v2] := by cases args; simp_all
  obtain ⟨c0, rfl⟩ := Go.AX.okWide_struct Tryz.underlying24 (hval 0 24 v0 rfl rfl)
  obtain ⟨n0, t0⟩ := h0
  have f0 := flat_of 8 24 [.i .i64, .i .i64, .i .u8, .i .u16, .i .u16, .i .i64, .i .i64, .i .i64, .i .i64, .i .i64, .i .i64, .i .i64, .i .i64, .i .i64, .i .i64, .b] n0 _ _ (by kernel_rfl) t0
  obtain ⟨p, e0, w0⟩ := Plan_of f0
  have e0' : c0 = p.enc := e0
  subst e0'
  obtain ⟨i, rfl, rfl, rfl, w1⟩ := open_int Tryz.underlying3 (hval 1 3 v1 rfl rfl) h1
  obtain ⟨n2, t2⟩ := h2
  obtain ⟨l, E, g, rl, hOK, hml⟩ := open_lent (OK := Act17.wf) (n := 8) (e := 50) (sz := 10) (ks := [.i .u8, .i .u16, .i .i64, .i .i64, .b, .i .u8, .b, .b, .b, .i .u64]) Tryz.underlying25 (by kernel_rfl) (by kernel_rfl) (by decide) (fun cs h => Act17_of h) Act17_len t2 (okWide_cells Tryz.underlying25 (hval 2 25 v2 rfl rfl))
  have t := owns_eq p i l (fun a ha => by have h := hOK a ha; unfold Act17.wf at h; rw [u64min] at h; exact h.2.2.2.2.2.1)
  unfold owns_G at t
  rw [owns_true] at t
  refine (lent_calls t g (.cons _ _ _ _ (.agg _ _ f0.rep) (.cons _ _ _ _ (.int _ _) (.cons _ _ _ _ rl .nil)))).mono fun e W' ⟨he, hk⟩ => ?_
  subst he
  exact ⟨_, rfl, law_post kids full (by rw [Tryz.params3]; decide) rfl rfl (tb := 4) rfl Tryz.underlying4 hW' hk⟩

theorem erpsOwns_over : Rows.erpsOwnsRow.holds Tryz.pinned (OpenSpec.ofChange Rows.erpsOwnsSpec) :=
  OpenClaim.holds_of_wide 3 Tryz.f3 rfl rfl rfl rfl rfl rfl rfl ⟨rfl, rfl, rfl, rfl, rfl⟩ rfl rfl rfl rfl rfl (by kernel_rfl) Tryz.func3 (by kernel_rfl)
    (of_decide_eq_true (by kernel_rfl)) (by unfold Func.isWrapper; first | (rw [if_pos (by decide +kernel)]; kernel_rfl) | (rw [if_neg (by decide +kernel)]; exact ⟨rfl, rfl⟩))
    (fun os started H enc _ => erpsOwns_lifted os started H enc)

theorem erpsOwns : Rows.ErpsOwnsSaid := erpsOwns_over

end Go.Proofs.YtbjjohonfbdcmaaGreat.erpsOwns
