/- Slices of slices and strings; structs and arrays built; all pure operations in one function. -/
import Derived.Test.YtmcepaeialgipaaCxAX3
namespace Go.AX
set_option linter.unusedSimpArgs false
set_option linter.unusedVariables false

section
variable {P : Program} {E : Env}

theorem run_sliceBound_in (k : IntKind) (i : Int) (y : Nat) (code : BoundsCode) (w : World) (h : 0 ≤ i ∧ i ≤ y) : (Instr.sliceBound (.int k i) y code).run P w = .ok i.toNat w := by
  simp only [Instr.sliceBound, asIntOf, Sem.run_bind, Sem.run_pure, Result.andThen_ok, if_pos h]

/-- Both ways in which a bound may stand. -/
def IsBound (v : Option Value) (b : Option Int) : Prop := match v, b with
  | none, none => True
  | some (.int _ n), some m => n = m
  | _, _ => False

theorem optInt_some {x : Option Value} {b : Option Int} (h : optInt x = some b) : IsBound x b := by
  unfold optInt at h
  split at h
  · simp only [Option.some.injEq] at h; subst h; trivial
  · simp only [Option.some.injEq] at h; subst h; rfl
  · simp at h

inductive RepO (E : Env) : Option Value → Option Value → Prop
  | none : RepO E .none .none
  | some (a a' : Value) (h : Rep E a a') : RepO E (.some a) (.some a')

theorem isBound_rep {x x' : Option Value} {b : Option Int} (hb : IsBound x b) (hr : RepO E x x') : IsBound x' b := by
  unfold IsBound at hb
  cases hr with
  | none => exact hb
  | some a a' h =>
    split at hb
    · simp_all
    · rename_i h1
      simp only [Option.some.injEq] at h1
      subst h1
      cases h; exact hb
    · exact hb.elim

theorem run_sliceBounds {isSlice : Bool} {len cap : Nat} {lo hi mx : Option Value} {l h m : Option Int} (w : World) (hl : IsBound lo l) (hh : IsBound hi h) (hm : IsBound mx m)
    (h0 : 0 ≤ l.getD 0 ∧ l.getD 0 ≤ h.getD len) (h1 : h.getD len ≤ m.getD cap) (h2 : m.getD cap ≤ cap) (h3 : m ≠ none → h ≠ none) :
    (Instr.sliceBounds isSlice len cap lo hi mx).run P w = .ok ((l.getD 0).toNat, (h.getD len).toNat, (m.getD cap).toNat) w := by
  unfold Instr.sliceBounds
  cases mx with
  | none =>
    cases m with
    | some _ => simp [IsBound] at hm
    | none =>
      simp only [Option.getD_none] at h1 h2
      cases hi with
      | none =>
        cases h with
        | some _ => simp [IsBound] at hh
        | none =>
          cases lo with
          | none =>
            cases l with
            | some _ => simp [IsBound] at hl
            | none => simp
          | some lv =>
            cases l with
            | none => cases lv <;> simp [IsBound] at hl
            | some ln =>
              cases lv <;> simp [IsBound] at hl
              subst hl
              simp only [Option.getD_some, Option.getD_none] at h0
              simp [run_sliceBound_in (P := P) _ _ len _ w h0]
      | some hv =>
        cases h with
        | none => cases hv <;> simp [IsBound] at hh
        | some hn =>
          cases hv <;> simp [IsBound] at hh
          subst hh
          simp only [Option.getD_some] at h0 h1
          cases lo with
          | none =>
            cases l with
            | some _ => simp [IsBound] at hl
            | none =>
              simp only [Option.getD_none] at h0
              simp [run_sliceBound_in (P := P) _ _ cap _ w ⟨h0.2, h1⟩]
          | some lv =>
            cases l with
            | none => cases lv <;> simp [IsBound] at hl
            | some ln =>
              cases lv <;> simp [IsBound] at hl
              subst hl
              simp only [Option.getD_some] at h0
              rename_i hn' _ ln'
              simp [run_sliceBound_in (P := P) _ _ cap _ w ⟨Int.le_trans h0.1 h0.2, h1⟩, run_sliceBound_in (P := P) _ ln' hn'.toNat _ w ⟨h0.1, by omega⟩]
  | some mv =>
    cases m with
    | none => cases mv <;> simp [IsBound] at hm
    | some mn =>
      cases mv <;> simp [IsBound] at hm
      subst hm
      rename_i mn'
      simp only [Option.getD_some] at h1 h2
      cases h with
      | none => exact absurd rfl (h3 (by simp))
      | some hn =>
        cases hi with
        | none => simp [IsBound] at hh
        | some hv =>
          cases hv <;> simp [IsBound] at hh
          subst hh
          rename_i hn'
          simp only [Option.getD_some] at h0 h1
          have hm0 : 0 ≤ mn' := by omega
          cases lo with
          | none =>
            cases l with
            | some _ => simp [IsBound] at hl
            | none =>
              simp only [Option.getD_none] at h0
              simp [run_sliceBound_in (P := P) _ _ cap _ w ⟨hm0, h2⟩, run_sliceBound_in (P := P) _ hn' mn'.toNat _ w ⟨h0.2, by omega⟩]
          | some lv =>
            cases l with
            | none => cases lv <;> simp [IsBound] at hl
            | some ln =>
              cases lv <;> simp [IsBound] at hl
              subst hl
              rename_i ln'
              simp only [Option.getD_some] at h0
              simp [run_sliceBound_in (P := P) _ _ cap _ w ⟨hm0, h2⟩, run_sliceBound_in (P := P) _ hn' mn'.toNat _ w ⟨by omega, by omega⟩, run_sliceBound_in (P := P) _ ln' hn'.toNat _ w ⟨h0.1, by omega⟩]


theorem szOf_esz {hp : AHeap} {i sz : Nat} {w : World} (g : Good E hp w) (h : szOf hp i = some sz) : E.esz i = sz := by
  unfold szOf at h
  split at h
  · rename_i vs e s hi
    simp only [Option.some.injEq] at h; subst h
    obtain ⟨c, _, _, _, h4, _⟩ := g.holds i _ hi
    exact h4
  · rename_i vs e s hi
    simp only [Option.some.injEq] at h; subst h
    exact (g.holds i _ hi).1
  · rename_i vs s hi
    simp only [Option.some.injEq] at h; subst h
    exact (g.holds i _ hi).1
  · simp at h

theorem Addr.add_block (a : Addr) (n : Nat) : (a.add n).block = a.block := by unfold Addr.add; split <;> rfl
theorem Addr.add_spot (a : Addr) (n : Nat) (h : a.spot = none) : (a.add n).spot = none := by unfold Addr.add; split <;> simp [h]
theorem Addr.add_off (a : Addr) (n : Nat) : (a.add n).off = a.off + n := by unfold Addr.add; split <;> simp_all

/-- What a slice's value may be, whatever is known of its capacity. -/
def SlOf (E : Env) (i o n : Nat) (a' : Option Addr) (c' : Nat) : Prop := i < E.n ∧ (0 < n → a' = some ⟨E.blk i, E.off i + o, none⟩) ∧ n ≤ c'

theorem slOf_rep {i o n c : Nat} {v : Value} (h : Rep E (.slice (some ⟨i, o, none⟩) n c) v) : ∃ a' c', v = .slice a' n c' ∧ SlOf E i o n a' c' ∧ (c ≠ UNK → c ≠ UNR → c = c' ∧ c < UNK) := by
  cases h with
  | slX _ _ _ _ a' hi ha hn hc => exact ⟨a', c, rfl, ⟨hi, ha, hn⟩, fun _ _ => ⟨rfl, hc⟩⟩
  | slU _ _ c' hi h0 hn hz => exact ⟨_, c', rfl, ⟨hi, fun _ => rfl, hn⟩, fun h => absurd rfl h⟩
  | slE _ hi => exact ⟨none, 0, rfl, ⟨hi, fun h => absurd h (by omega), Nat.le_refl _⟩, fun h => absurd rfl h⟩
  | slR _ _ _ c' a' hi ha hn => exact ⟨a', c', rfl, ⟨hi, ha, hn⟩, fun _ h => absurd rfl h⟩

theorem evSliceL_rep {i o n c size : Nat} {l h m : Option Int} {obs : List Prop} {v : Value} {c' : Nat} {a' : Option Addr} (he : evSliceL i o n c size l h m = some (obs, v)) (ho : AllP obs)
    (hs : SlOf E i o n a' c') (hc : c ≠ UNK → c ≠ UNR → c = c' ∧ c < UNK) :
    (0 ≤ l.getD 0 ∧ l.getD 0 ≤ h.getD n) ∧ h.getD n ≤ m.getD c' ∧ m.getD c' ≤ c' ∧ (m ≠ none → h ≠ none) ∧
    Rep E v (.slice (if (m.getD c').toNat = (l.getD 0).toNat then a' else a'.map (·.add ((l.getD 0).toNat * size))) ((h.getD n).toNat - (l.getD 0).toNat) ((m.getD c').toNat - (l.getD 0).toNat)) := by
  obtain ⟨hi, ha, hn⟩ := hs
  have haddr : ∀ (q : Prop) [Decidable q], ¬ q → 0 < n → (if q then a' else a'.map (·.add ((l.getD 0).toNat * size))) = some ⟨E.blk i, E.off i + (o + (l.getD 0).toNat * size), none⟩ := fun q _ hq h0 => by
    rw [if_neg hq, ha h0, Option.map_some, Addr.add_none, Nat.add_assoc]
  unfold evSliceL at he
  split at he
  · have keyR : (0 ≤ l.getD 0 ∧ l.getD 0 ≤ h.getD n) → h.getD n ≤ n →
        Rep E (.slice (some ⟨i, o + (l.getD 0).toNat * size, none⟩) (h.getD n - l.getD 0).toNat UNR) (.slice (if c' = (l.getD 0).toNat then a' else a'.map (·.add ((l.getD 0).toNat * size))) ((h.getD n).toNat - (l.getD 0).toNat) (c' - (l.getD 0).toNat)) := by
      intro h1 h2
      rw [show (h.getD n - l.getD 0).toNat = (h.getD n).toNat - (l.getD 0).toNat by omega]
      exact .slR i _ _ _ _ hi (fun hp => haddr _ (by omega) (by omega)) (by omega)
    split at he
    · simp only [Option.some.injEq, Prod.mk.injEq] at he
      obtain ⟨rfl, rfl⟩ := he
      obtain ⟨h1, h2, _⟩ := bs_all ho
      replace h1 := D_iff.1 h1
      replace h2 := D_iff.1 h2
      refine ⟨h1, by simp only [Option.getD_none]; omega, Int.le_refl _, by simp, ?_⟩
      simpa using keyR h1 h2
    · rename_i hu
      split at he
      · simp only [Option.some.injEq, Prod.mk.injEq] at he
        obtain ⟨rfl, rfl⟩ := he
        obtain ⟨h1, h2, _⟩ := bs_all ho
        replace h1 := D_iff.1 h1
        replace h2 := D_iff.1 h2
        refine ⟨h1, by simp only [Option.getD_none]; omega, Int.le_refl _, by simp, ?_⟩
        simpa using keyR h1 h2
      · rename_i hr
        simp only [Option.some.injEq, Prod.mk.injEq] at he
        obtain ⟨rfl, rfl⟩ := he
        obtain ⟨h1, h2, _⟩ := bs_all ho
        replace h1 := D_iff.1 h1
        replace h2 := D_iff.1 h2
        obtain ⟨rfl, hcu⟩ := hc hu hr
        refine ⟨h1, by simp only [Option.getD_none]; omega, Int.le_refl _, by simp, ?_⟩
        simp only [Option.getD_none, Int.toNat_natCast]
        rw [show (h.getD n - l.getD 0).toNat = (h.getD n).toNat - (l.getD 0).toNat by omega]
        exact .slX i _ _ _ _ hi (fun hp => haddr _ (by omega) (by omega)) (by omega) (by omega)
  · rename_i mm
    simp only [Option.some.injEq, Prod.mk.injEq] at he
    obtain ⟨rfl, rfl⟩ := he
    obtain ⟨h1, h2, h3, h4, h5, _⟩ := bs_all ho
    replace h1 := D_iff.1 h1
    replace h2 := D_iff.1 h2
    replace h3 := D_iff.1 h3
    replace h4 := D_iff.1 h4
    replace h5 := D_iff.1 h5
    refine ⟨h1, by simpa using h2, by simp only [Option.getD_some]; omega, fun _ => h5, ?_⟩
    simp only [Option.getD_some]
    rw [show (h.getD n - l.getD 0).toNat = (h.getD n).toNat - (l.getD 0).toNat by omega, show (mm - l.getD 0).toNat = mm.toNat - (l.getD 0).toNat by omega]
    exact .slX i _ _ _ _ hi (fun hp => haddr _ (by omega) (by omega)) (by omega) (by omega)

theorem evSlice_sound {hp : AHeap} {t : TypeId} {x x' : Value} {lo lo' hi hi' mx mx' : Option Value} {obs : List Prop} {v : Value} {w : World} (g : Good E hp w)
    (h : evSlice P hp t x lo hi mx = some (obs, v)) (ho : AllP obs) (hx : Rep E x x') (hl : RepO E lo lo') (hh : RepO E hi hi') (hm : RepO E mx mx') :
    ∃ v', (Instr.sliceAt t x' lo' hi' mx').run P w = .ok v' w ∧ Rep E v v' := by
  unfold evSlice at h
  split at h
  · rename_i s l h' hu e1 e2 e3
    have b1 := isBound_rep (E := E) (optInt_some e1) hl
    have b2 := isBound_rep (E := E) (optInt_some e2) hh
    have b3 := isBound_rep (E := E) (optInt_some e3) hm
    cases hx
    simp only [evSliceS, Option.some.injEq, Prod.mk.injEq] at h
    obtain ⟨rfl, rfl⟩ := h
    obtain ⟨h1, h2, _⟩ := bs_all ho
    replace h1 := D_iff.1 h1
    replace h2 := D_iff.1 h2
    cases mx' with
    | some _ => simp [IsBound] at b3
    | none =>
      have key := run_sliceBounds (P := P) (isSlice := false) (len := s.size) (cap := s.size) w b1 b2 b3 h1 (by simpa using h2) (by simp) (by simp)
      refine ⟨_, ?_, .str _⟩
      simp only [Instr.sliceAt, Sem.run_bind, run_underlying hu, Result.andThen_ok, Instr.slice, Option.isSome_none, Bool.false_eq_true, if_false, Sem.run_pure, key]
  · rename_i e i o n c l h' m hu e1 e2 e3
    have b1 := isBound_rep (E := E) (optInt_some e1) hl
    have b2 := isBound_rep (E := E) (optInt_some e2) hh
    have b3 := isBound_rep (E := E) (optInt_some e3) hm
    split at h
    · rename_i size sz hs hz
      split at h
      · rename_i hsz
        subst hsz
        obtain ⟨a', c', rfl, q1, q2⟩ := slOf_rep hx
        obtain ⟨k1, k2, k3, k4, k5⟩ := evSliceL_rep h ho q1 q2
        have key := run_sliceBounds (P := P) (isSlice := true) (len := n) (cap := c') w b1 b2 b3 k1 k2 k3 k4
        refine ⟨_, ?_, k5⟩
        simp only [Instr.sliceAt, Sem.run_bind, run_underlying hu, Result.andThen_ok, Instr.slice, key, run_sizeOf hs, Sem.run_pure]
      · simp at h
    · simp at h
  · rename_i e l h' m hu e1 e2 e3
    have b1 := isBound_rep (E := E) (optInt_some e1) hl
    have b2 := isBound_rep (E := E) (optInt_some e2) hh
    have b3 := isBound_rep (E := E) (optInt_some e3) hm
    simp only [Option.map_eq_some_iff, Prod.mk.injEq] at h
    obtain ⟨size, hs, rfl, rfl⟩ := h
    obtain ⟨h1, h2, h3, h4, _⟩ := bs_all ho
    replace h1 := D_iff.1 h1
    replace h2 := D_iff.1 h2
    replace h3 := D_iff.1 h3
    replace h4 := D_iff.1 h4
    cases hx
    have q1 : (h'.getD ((0 : Nat) : Int)) = 0 := by simpa using h2
    have q2 : (m.getD ((0 : Nat) : Int)) = 0 := by simpa using h3
    have key := run_sliceBounds (P := P) (isSlice := true) (len := 0) (cap := 0) w b1 b2 b3 (by omega) (by omega) (by omega) h4
    refine ⟨_, ?_, .nilsl⟩
    simp only [Instr.sliceAt, Sem.run_bind, run_underlying hu, Result.andThen_ok, Instr.slice, key, run_sizeOf hs, Sem.run_pure, h1, q1, q2]
    rfl
  · simp at h

end
end Go.AX
