/- The law 'ChartLooks', run. -/
import Derived.Test.YtmcepaeialgipaaCx13I
namespace Go.Proofs.Chart
open Go Go.AX Go.Proofs

theorem word_at {n : Nat} {s : Int} {S : ByteArray} {o : AObj} (t : AEq Try.prog 11 [slW 0 n, .int .i64 s] [o] (.string S) [o]) (hr : ∀ τ, rnO τ o = o) (hl : ∀ o', lends o o' ↔ o = o') (hn : notRo o = true) (hk : okObj (fun i => decide (i < 1)) o = true) (H : AHeap) :
    AEq Try.prog 11 [slW (0 + H.length) n, .int .i64 s] (H ++ [o]) (.string S) (H ++ [o]) := by
  have h1 := t.at (fun _ => 0 + H.length) (H ++ [o]) (fun i j hi hj _ => by simp only [List.length_cons, List.length_nil] at hi hj; omega)
    (fun i u hi => by
      cases i with
      | zero =>
        simp only [List.getElem?_cons_zero, Option.some.injEq] at hi
        subst hi
        exact ⟨o, by simp, by rw [hr]; exact (hl o).2 rfl⟩
      | succ i => simp at hi)
    (by simp only [List.all_cons, List.all_nil, Bool.and_true]; exact hk) rfl rfl (by simp only [List.all_cons, List.all_nil, Bool.and_true]; exact hk)
    (fun i u hi _ => by
      cases i with
      | zero =>
        simp only [List.getElem?_cons_zero, Option.some.injEq] at hi
        subst hi; exact hn
      | succ i => simp at hi) (Nat.le_refl _)
  have h2 : mergeH (fun _ => 0 + H.length) (H ++ [o]) [o] [o] = H ++ [o] := by
    have : ∀ (τ : Nat → Nat) (G : AHeap), putBack τ [o] [o] 0 G = G.set (τ 0) o := by
      intro τ G
      cases o <;> first | exact Bool.noConfusion hn | (simp only [putBack]; rw [hr])
    simp [mergeH, this, sig]
  rw [h2] at h1
  exact h1

theorem st_at {s : Int} {S : ByteArray} (t : AEq Try.prog 11 [slW 0 5, .int .i64 s] stH (.string S) stH) (H : AHeap) : AEq Try.prog 11 [slW (0 + H.length) 5, .int .i64 s] (H ++ stH) (.string S) (H ++ stH) :=
  word_at t (fun _ => rfl) (fun _ => Iff.rfl) rfl rfl H
theorem ac_at {s : Int} {S : ByteArray} (t : AEq Try.prog 11 [slW 0 14, .int .i64 s] acH (.string S) acH) (H : AHeap) : AEq Try.prog 11 [slW (0 + H.length) 14, .int .i64 s] (H ++ acH) (.string S) (H ++ acH) :=
  word_at t (fun _ => rfl) (fun _ => Iff.rfl) rfl rfl H

theorem same (S : ByteArray) : Value.bool (S.toList == S.toList) = .bool true := by
  have : (S.toList == S.toList) = true := by simp
  rw [this]

set_option maxRecDepth 1000000

theorem looks_0_run (s k a : Int) (m : Bool) (S1 S2 : ByteArray) : evFn Try.prog 400 5 [.int .i64 s, .int .i64 k, .int .i64 a, .bool m] [] [.call (lookV [] 0 0) (lookH []), .call (refV [] 0 0) (lookH [] ++ refH []), .call (.bool true) (lookH [] ++ refH []), .call (.string S1) (lookH [] ++ refH []), .call (slW (0 + (lookH [] ++ refH []).length) 5) ((lookH [] ++ refH []) ++ stH), .call (.string S1) ((lookH [] ++ refH []) ++ stH), .is 60 (.bool true), .call (.string S2) ((lookH [] ++ refH []) ++ stH), .call (slW (0 + ((lookH [] ++ refH []) ++ stH).length) 14) (((lookH [] ++ refH []) ++ stH) ++ acH), .call (.string S2) (((lookH [] ++ refH []) ++ stH) ++ acH), .is 68 (.bool true), .call (.bool true) (((lookH [] ++ refH []) ++ stH) ++ acH), .is 74 (.bool true), .is 77 (.bool true)] =
    some ([AEq Try.prog 6 [.int .i64 s, .int .i64 k, .bool m] [] (lookV [] 0 0) (lookH []),
      AEq Try.prog 9 [.int .i64 s, .int .i64 k, .bool m] (lookH []) (refV [] 0 0) (lookH [] ++ refH []),
      AEq Try.prog 8 [] (lookH [] ++ refH []) (.bool true) (lookH [] ++ refH []),
      AEq Try.prog 10 [.int .i64 s] (lookH [] ++ refH []) (.string S1) (lookH [] ++ refH []),
      AEq Try.prog 12 [] (lookH [] ++ refH []) (slW (0 + (lookH [] ++ refH []).length) 5) ((lookH [] ++ refH []) ++ stH),
      AEq Try.prog 11 [slW (0 + (lookH [] ++ refH []).length) 5, .int .i64 s] ((lookH [] ++ refH []) ++ stH) (.string S1) ((lookH [] ++ refH []) ++ stH),
      Value.bool (S1.toList == S1.toList) = .bool true,
      AEq Try.prog 13 [.int .i64 a] ((lookH [] ++ refH []) ++ stH) (.string S2) ((lookH [] ++ refH []) ++ stH),
      AEq Try.prog 14 [] ((lookH [] ++ refH []) ++ stH) (slW (0 + ((lookH [] ++ refH []) ++ stH).length) 14) (((lookH [] ++ refH []) ++ stH) ++ acH),
      AEq Try.prog 11 [slW (0 + ((lookH [] ++ refH []) ++ stH).length) 14, .int .i64 a] (((lookH [] ++ refH []) ++ stH) ++ acH) (.string S2) (((lookH [] ++ refH []) ++ stH) ++ acH),
      Value.bool (S2.toList == S2.toList) = .bool true,
      AEq Try.prog 7 [.int .i64 s] (((lookH [] ++ refH []) ++ stH) ++ acH) (.bool true) (((lookH [] ++ refH []) ++ stH) ++ acH),
      Value.bool (decide (s ≥ 0)) = .bool true,
      Value.bool (decide (s ≤ 4)) = .bool true], .bool true, (((lookH [] ++ refH []) ++ stH) ++ acH), []) := by kernel_rfl
theorem looks_0 {s k : Int} {m : Bool} (a : Int) (h0 : 0 ≤ s) (h1 : s ≤ 4) (hl : LookIs s k m [] 0) (hr : RefIs s k m [] 0) : ∃ h', AEq Try.prog 5 [.int .i64 s, .int .i64 k, .int .i64 a, .bool m] [] (.bool true) h' := by
  obtain ⟨S1, h10, h11⟩ := st_any s
  obtain ⟨S2, h13, h14⟩ := ac_any a
  exact ⟨_, evFn_sound (looks_0_run s k a m S1 S2) ⟨hl [], hr (lookH []), aw8 _, h10 _, words_eq _, st_at h11 _, same S1, h13 _, actw_eq _, ac_at h14 _, same S2, may_in h0 h1 _, db (by omega), db (by omega), trivial⟩⟩
theorem looks_1_run (s k a : Int) (m : Bool) (S1 S2 : ByteArray) : evFn Try.prog 400 5 [.int .i64 s, .int .i64 k, .int .i64 a, .bool m] [] [.call (lookV [] 1 0) (lookH []), .call (refV [] 1 0) (lookH [] ++ refH []), .call (.bool true) (lookH [] ++ refH []), .call (.string S1) (lookH [] ++ refH []), .call (slW (0 + (lookH [] ++ refH []).length) 5) ((lookH [] ++ refH []) ++ stH), .call (.string S1) ((lookH [] ++ refH []) ++ stH), .is 60 (.bool true), .call (.string S2) ((lookH [] ++ refH []) ++ stH), .call (slW (0 + ((lookH [] ++ refH []) ++ stH).length) 14) (((lookH [] ++ refH []) ++ stH) ++ acH), .call (.string S2) (((lookH [] ++ refH []) ++ stH) ++ acH), .is 68 (.bool true), .call (.bool true) (((lookH [] ++ refH []) ++ stH) ++ acH), .is 74 (.bool true), .is 77 (.bool true)] =
    some ([AEq Try.prog 6 [.int .i64 s, .int .i64 k, .bool m] [] (lookV [] 1 0) (lookH []),
      AEq Try.prog 9 [.int .i64 s, .int .i64 k, .bool m] (lookH []) (refV [] 1 0) (lookH [] ++ refH []),
      AEq Try.prog 8 [] (lookH [] ++ refH []) (.bool true) (lookH [] ++ refH []),
      AEq Try.prog 10 [.int .i64 s] (lookH [] ++ refH []) (.string S1) (lookH [] ++ refH []),
      AEq Try.prog 12 [] (lookH [] ++ refH []) (slW (0 + (lookH [] ++ refH []).length) 5) ((lookH [] ++ refH []) ++ stH),
      AEq Try.prog 11 [slW (0 + (lookH [] ++ refH []).length) 5, .int .i64 s] ((lookH [] ++ refH []) ++ stH) (.string S1) ((lookH [] ++ refH []) ++ stH),
      Value.bool (S1.toList == S1.toList) = .bool true,
      AEq Try.prog 13 [.int .i64 a] ((lookH [] ++ refH []) ++ stH) (.string S2) ((lookH [] ++ refH []) ++ stH),
      AEq Try.prog 14 [] ((lookH [] ++ refH []) ++ stH) (slW (0 + ((lookH [] ++ refH []) ++ stH).length) 14) (((lookH [] ++ refH []) ++ stH) ++ acH),
      AEq Try.prog 11 [slW (0 + ((lookH [] ++ refH []) ++ stH).length) 14, .int .i64 a] (((lookH [] ++ refH []) ++ stH) ++ acH) (.string S2) (((lookH [] ++ refH []) ++ stH) ++ acH),
      Value.bool (S2.toList == S2.toList) = .bool true,
      AEq Try.prog 7 [.int .i64 s] (((lookH [] ++ refH []) ++ stH) ++ acH) (.bool true) (((lookH [] ++ refH []) ++ stH) ++ acH),
      Value.bool (decide (s ≥ 0)) = .bool true,
      Value.bool (decide (s ≤ 4)) = .bool true], .bool true, (((lookH [] ++ refH []) ++ stH) ++ acH), []) := by kernel_rfl
theorem looks_1 {s k : Int} {m : Bool} (a : Int) (h0 : 0 ≤ s) (h1 : s ≤ 4) (hl : LookIs s k m [] 1) (hr : RefIs s k m [] 1) : ∃ h', AEq Try.prog 5 [.int .i64 s, .int .i64 k, .int .i64 a, .bool m] [] (.bool true) h' := by
  obtain ⟨S1, h10, h11⟩ := st_any s
  obtain ⟨S2, h13, h14⟩ := ac_any a
  exact ⟨_, evFn_sound (looks_1_run s k a m S1 S2) ⟨hl [], hr (lookH []), aw8 _, h10 _, words_eq _, st_at h11 _, same S1, h13 _, actw_eq _, ac_at h14 _, same S2, may_in h0 h1 _, db (by omega), db (by omega), trivial⟩⟩
theorem looks_2_run (s k a : Int) (m : Bool) (S1 S2 : ByteArray) : evFn Try.prog 400 5 [.int .i64 s, .int .i64 k, .int .i64 a, .bool m] [] [.call (lookV [] 2 0) (lookH []), .call (refV [] 2 0) (lookH [] ++ refH []), .call (.bool true) (lookH [] ++ refH []), .call (.string S1) (lookH [] ++ refH []), .call (slW (0 + (lookH [] ++ refH []).length) 5) ((lookH [] ++ refH []) ++ stH), .call (.string S1) ((lookH [] ++ refH []) ++ stH), .is 60 (.bool true), .call (.string S2) ((lookH [] ++ refH []) ++ stH), .call (slW (0 + ((lookH [] ++ refH []) ++ stH).length) 14) (((lookH [] ++ refH []) ++ stH) ++ acH), .call (.string S2) (((lookH [] ++ refH []) ++ stH) ++ acH), .is 68 (.bool true), .call (.bool true) (((lookH [] ++ refH []) ++ stH) ++ acH), .is 74 (.bool true), .is 77 (.bool true)] =
    some ([AEq Try.prog 6 [.int .i64 s, .int .i64 k, .bool m] [] (lookV [] 2 0) (lookH []),
      AEq Try.prog 9 [.int .i64 s, .int .i64 k, .bool m] (lookH []) (refV [] 2 0) (lookH [] ++ refH []),
      AEq Try.prog 8 [] (lookH [] ++ refH []) (.bool true) (lookH [] ++ refH []),
      AEq Try.prog 10 [.int .i64 s] (lookH [] ++ refH []) (.string S1) (lookH [] ++ refH []),
      AEq Try.prog 12 [] (lookH [] ++ refH []) (slW (0 + (lookH [] ++ refH []).length) 5) ((lookH [] ++ refH []) ++ stH),
      AEq Try.prog 11 [slW (0 + (lookH [] ++ refH []).length) 5, .int .i64 s] ((lookH [] ++ refH []) ++ stH) (.string S1) ((lookH [] ++ refH []) ++ stH),
      Value.bool (S1.toList == S1.toList) = .bool true,
      AEq Try.prog 13 [.int .i64 a] ((lookH [] ++ refH []) ++ stH) (.string S2) ((lookH [] ++ refH []) ++ stH),
      AEq Try.prog 14 [] ((lookH [] ++ refH []) ++ stH) (slW (0 + ((lookH [] ++ refH []) ++ stH).length) 14) (((lookH [] ++ refH []) ++ stH) ++ acH),
      AEq Try.prog 11 [slW (0 + ((lookH [] ++ refH []) ++ stH).length) 14, .int .i64 a] (((lookH [] ++ refH []) ++ stH) ++ acH) (.string S2) (((lookH [] ++ refH []) ++ stH) ++ acH),
      Value.bool (S2.toList == S2.toList) = .bool true,
      AEq Try.prog 7 [.int .i64 s] (((lookH [] ++ refH []) ++ stH) ++ acH) (.bool true) (((lookH [] ++ refH []) ++ stH) ++ acH),
      Value.bool (decide (s ≥ 0)) = .bool true,
      Value.bool (decide (s ≤ 4)) = .bool true], .bool true, (((lookH [] ++ refH []) ++ stH) ++ acH), []) := by kernel_rfl
theorem looks_2 {s k : Int} {m : Bool} (a : Int) (h0 : 0 ≤ s) (h1 : s ≤ 4) (hl : LookIs s k m [] 2) (hr : RefIs s k m [] 2) : ∃ h', AEq Try.prog 5 [.int .i64 s, .int .i64 k, .int .i64 a, .bool m] [] (.bool true) h' := by
  obtain ⟨S1, h10, h11⟩ := st_any s
  obtain ⟨S2, h13, h14⟩ := ac_any a
  exact ⟨_, evFn_sound (looks_2_run s k a m S1 S2) ⟨hl [], hr (lookH []), aw8 _, h10 _, words_eq _, st_at h11 _, same S1, h13 _, actw_eq _, ac_at h14 _, same S2, may_in h0 h1 _, db (by omega), db (by omega), trivial⟩⟩
theorem looks_3_run (s k a : Int) (m : Bool) (S1 S2 : ByteArray) : evFn Try.prog 400 5 [.int .i64 s, .int .i64 k, .int .i64 a, .bool m] [] [.call (lookV [] 3 0) (lookH []), .call (refV [] 3 0) (lookH [] ++ refH []), .call (.bool true) (lookH [] ++ refH []), .call (.string S1) (lookH [] ++ refH []), .call (slW (0 + (lookH [] ++ refH []).length) 5) ((lookH [] ++ refH []) ++ stH), .call (.string S1) ((lookH [] ++ refH []) ++ stH), .is 60 (.bool true), .call (.string S2) ((lookH [] ++ refH []) ++ stH), .call (slW (0 + ((lookH [] ++ refH []) ++ stH).length) 14) (((lookH [] ++ refH []) ++ stH) ++ acH), .call (.string S2) (((lookH [] ++ refH []) ++ stH) ++ acH), .is 68 (.bool true), .call (.bool true) (((lookH [] ++ refH []) ++ stH) ++ acH), .is 74 (.bool true), .is 77 (.bool true)] =
    some ([AEq Try.prog 6 [.int .i64 s, .int .i64 k, .bool m] [] (lookV [] 3 0) (lookH []),
      AEq Try.prog 9 [.int .i64 s, .int .i64 k, .bool m] (lookH []) (refV [] 3 0) (lookH [] ++ refH []),
      AEq Try.prog 8 [] (lookH [] ++ refH []) (.bool true) (lookH [] ++ refH []),
      AEq Try.prog 10 [.int .i64 s] (lookH [] ++ refH []) (.string S1) (lookH [] ++ refH []),
      AEq Try.prog 12 [] (lookH [] ++ refH []) (slW (0 + (lookH [] ++ refH []).length) 5) ((lookH [] ++ refH []) ++ stH),
      AEq Try.prog 11 [slW (0 + (lookH [] ++ refH []).length) 5, .int .i64 s] ((lookH [] ++ refH []) ++ stH) (.string S1) ((lookH [] ++ refH []) ++ stH),
      Value.bool (S1.toList == S1.toList) = .bool true,
      AEq Try.prog 13 [.int .i64 a] ((lookH [] ++ refH []) ++ stH) (.string S2) ((lookH [] ++ refH []) ++ stH),
      AEq Try.prog 14 [] ((lookH [] ++ refH []) ++ stH) (slW (0 + ((lookH [] ++ refH []) ++ stH).length) 14) (((lookH [] ++ refH []) ++ stH) ++ acH),
      AEq Try.prog 11 [slW (0 + ((lookH [] ++ refH []) ++ stH).length) 14, .int .i64 a] (((lookH [] ++ refH []) ++ stH) ++ acH) (.string S2) (((lookH [] ++ refH []) ++ stH) ++ acH),
      Value.bool (S2.toList == S2.toList) = .bool true,
      AEq Try.prog 7 [.int .i64 s] (((lookH [] ++ refH []) ++ stH) ++ acH) (.bool true) (((lookH [] ++ refH []) ++ stH) ++ acH),
      Value.bool (decide (s ≥ 0)) = .bool true,
      Value.bool (decide (s ≤ 4)) = .bool true], .bool true, (((lookH [] ++ refH []) ++ stH) ++ acH), []) := by kernel_rfl
theorem looks_3 {s k : Int} {m : Bool} (a : Int) (h0 : 0 ≤ s) (h1 : s ≤ 4) (hl : LookIs s k m [] 3) (hr : RefIs s k m [] 3) : ∃ h', AEq Try.prog 5 [.int .i64 s, .int .i64 k, .int .i64 a, .bool m] [] (.bool true) h' := by
  obtain ⟨S1, h10, h11⟩ := st_any s
  obtain ⟨S2, h13, h14⟩ := ac_any a
  exact ⟨_, evFn_sound (looks_3_run s k a m S1 S2) ⟨hl [], hr (lookH []), aw8 _, h10 _, words_eq _, st_at h11 _, same S1, h13 _, actw_eq _, ac_at h14 _, same S2, may_in h0 h1 _, db (by omega), db (by omega), trivial⟩⟩
theorem looks_4_run (s k a : Int) (m : Bool) (S1 S2 : ByteArray) : evFn Try.prog 400 5 [.int .i64 s, .int .i64 k, .int .i64 a, .bool m] [] [.call (lookV [] 4 0) (lookH []), .call (refV [] 4 0) (lookH [] ++ refH []), .call (.bool true) (lookH [] ++ refH []), .call (.string S1) (lookH [] ++ refH []), .call (slW (0 + (lookH [] ++ refH []).length) 5) ((lookH [] ++ refH []) ++ stH), .call (.string S1) ((lookH [] ++ refH []) ++ stH), .is 60 (.bool true), .call (.string S2) ((lookH [] ++ refH []) ++ stH), .call (slW (0 + ((lookH [] ++ refH []) ++ stH).length) 14) (((lookH [] ++ refH []) ++ stH) ++ acH), .call (.string S2) (((lookH [] ++ refH []) ++ stH) ++ acH), .is 68 (.bool true), .call (.bool true) (((lookH [] ++ refH []) ++ stH) ++ acH), .is 74 (.bool true), .is 77 (.bool true)] =
    some ([AEq Try.prog 6 [.int .i64 s, .int .i64 k, .bool m] [] (lookV [] 4 0) (lookH []),
      AEq Try.prog 9 [.int .i64 s, .int .i64 k, .bool m] (lookH []) (refV [] 4 0) (lookH [] ++ refH []),
      AEq Try.prog 8 [] (lookH [] ++ refH []) (.bool true) (lookH [] ++ refH []),
      AEq Try.prog 10 [.int .i64 s] (lookH [] ++ refH []) (.string S1) (lookH [] ++ refH []),
      AEq Try.prog 12 [] (lookH [] ++ refH []) (slW (0 + (lookH [] ++ refH []).length) 5) ((lookH [] ++ refH []) ++ stH),
      AEq Try.prog 11 [slW (0 + (lookH [] ++ refH []).length) 5, .int .i64 s] ((lookH [] ++ refH []) ++ stH) (.string S1) ((lookH [] ++ refH []) ++ stH),
      Value.bool (S1.toList == S1.toList) = .bool true,
      AEq Try.prog 13 [.int .i64 a] ((lookH [] ++ refH []) ++ stH) (.string S2) ((lookH [] ++ refH []) ++ stH),
      AEq Try.prog 14 [] ((lookH [] ++ refH []) ++ stH) (slW (0 + ((lookH [] ++ refH []) ++ stH).length) 14) (((lookH [] ++ refH []) ++ stH) ++ acH),
      AEq Try.prog 11 [slW (0 + ((lookH [] ++ refH []) ++ stH).length) 14, .int .i64 a] (((lookH [] ++ refH []) ++ stH) ++ acH) (.string S2) (((lookH [] ++ refH []) ++ stH) ++ acH),
      Value.bool (S2.toList == S2.toList) = .bool true,
      AEq Try.prog 7 [.int .i64 s] (((lookH [] ++ refH []) ++ stH) ++ acH) (.bool true) (((lookH [] ++ refH []) ++ stH) ++ acH),
      Value.bool (decide (s ≥ 0)) = .bool true,
      Value.bool (decide (s ≤ 4)) = .bool true], .bool true, (((lookH [] ++ refH []) ++ stH) ++ acH), []) := by kernel_rfl
theorem looks_4 {s k : Int} {m : Bool} (a : Int) (h0 : 0 ≤ s) (h1 : s ≤ 4) (hl : LookIs s k m [] 4) (hr : RefIs s k m [] 4) : ∃ h', AEq Try.prog 5 [.int .i64 s, .int .i64 k, .int .i64 a, .bool m] [] (.bool true) h' := by
  obtain ⟨S1, h10, h11⟩ := st_any s
  obtain ⟨S2, h13, h14⟩ := ac_any a
  exact ⟨_, evFn_sound (looks_4_run s k a m S1 S2) ⟨hl [], hr (lookH []), aw8 _, h10 _, words_eq _, st_at h11 _, same S1, h13 _, actw_eq _, ac_at h14 _, same S2, may_in h0 h1 _, db (by omega), db (by omega), trivial⟩⟩
theorem looks_5_run (s k a : Int) (m : Bool) (S1 S2 : ByteArray) : evFn Try.prog 400 5 [.int .i64 s, .int .i64 k, .int .i64 a, .bool m] [] [.call (lookV [0, 9] 3 0) (lookH [0, 9]), .call (refV [0, 9] 3 1) (lookH [0, 9] ++ refH [0, 9]), .call (.bool true) (lookH [0, 9] ++ refH [0, 9]), .call (.string S1) (lookH [0, 9] ++ refH [0, 9]), .call (slW (0 + (lookH [0, 9] ++ refH [0, 9]).length) 5) ((lookH [0, 9] ++ refH [0, 9]) ++ stH), .call (.string S1) ((lookH [0, 9] ++ refH [0, 9]) ++ stH), .is 60 (.bool true), .call (.string S2) ((lookH [0, 9] ++ refH [0, 9]) ++ stH), .call (slW (0 + ((lookH [0, 9] ++ refH [0, 9]) ++ stH).length) 14) (((lookH [0, 9] ++ refH [0, 9]) ++ stH) ++ acH), .call (.string S2) (((lookH [0, 9] ++ refH [0, 9]) ++ stH) ++ acH), .is 68 (.bool true), .call (.bool true) (((lookH [0, 9] ++ refH [0, 9]) ++ stH) ++ acH), .is 74 (.bool true), .is 77 (.bool true)] =
    some ([AEq Try.prog 6 [.int .i64 s, .int .i64 k, .bool m] [] (lookV [0, 9] 3 0) (lookH [0, 9]),
      AEq Try.prog 9 [.int .i64 s, .int .i64 k, .bool m] (lookH [0, 9]) (refV [0, 9] 3 1) (lookH [0, 9] ++ refH [0, 9]),
      AEq Try.prog 8 [] (lookH [0, 9] ++ refH [0, 9]) (.bool true) (lookH [0, 9] ++ refH [0, 9]),
      AEq Try.prog 10 [.int .i64 s] (lookH [0, 9] ++ refH [0, 9]) (.string S1) (lookH [0, 9] ++ refH [0, 9]),
      AEq Try.prog 12 [] (lookH [0, 9] ++ refH [0, 9]) (slW (0 + (lookH [0, 9] ++ refH [0, 9]).length) 5) ((lookH [0, 9] ++ refH [0, 9]) ++ stH),
      AEq Try.prog 11 [slW (0 + (lookH [0, 9] ++ refH [0, 9]).length) 5, .int .i64 s] ((lookH [0, 9] ++ refH [0, 9]) ++ stH) (.string S1) ((lookH [0, 9] ++ refH [0, 9]) ++ stH),
      Value.bool (S1.toList == S1.toList) = .bool true,
      AEq Try.prog 13 [.int .i64 a] ((lookH [0, 9] ++ refH [0, 9]) ++ stH) (.string S2) ((lookH [0, 9] ++ refH [0, 9]) ++ stH),
      AEq Try.prog 14 [] ((lookH [0, 9] ++ refH [0, 9]) ++ stH) (slW (0 + ((lookH [0, 9] ++ refH [0, 9]) ++ stH).length) 14) (((lookH [0, 9] ++ refH [0, 9]) ++ stH) ++ acH),
      AEq Try.prog 11 [slW (0 + ((lookH [0, 9] ++ refH [0, 9]) ++ stH).length) 14, .int .i64 a] (((lookH [0, 9] ++ refH [0, 9]) ++ stH) ++ acH) (.string S2) (((lookH [0, 9] ++ refH [0, 9]) ++ stH) ++ acH),
      Value.bool (S2.toList == S2.toList) = .bool true,
      AEq Try.prog 7 [.int .i64 s] (((lookH [0, 9] ++ refH [0, 9]) ++ stH) ++ acH) (.bool true) (((lookH [0, 9] ++ refH [0, 9]) ++ stH) ++ acH),
      Value.bool (decide (s ≥ 0)) = .bool true,
      Value.bool (decide (s ≤ 4)) = .bool true], .bool true, (((lookH [0, 9] ++ refH [0, 9]) ++ stH) ++ acH), []) := by kernel_rfl
theorem looks_5 {s k : Int} {m : Bool} (a : Int) (h0 : 0 ≤ s) (h1 : s ≤ 4) (hl : LookIs s k m [0, 9] 3) (hr : RefIs s k m [0, 9] 3) : ∃ h', AEq Try.prog 5 [.int .i64 s, .int .i64 k, .int .i64 a, .bool m] [] (.bool true) h' := by
  obtain ⟨S1, h10, h11⟩ := st_any s
  obtain ⟨S2, h13, h14⟩ := ac_any a
  exact ⟨_, evFn_sound (looks_5_run s k a m S1 S2) ⟨hl [], hr (lookH [0, 9]), aw8 _, h10 _, words_eq _, st_at h11 _, same S1, h13 _, actw_eq _, ac_at h14 _, same S2, may_in h0 h1 _, db (by omega), db (by omega), trivial⟩⟩
theorem looks_6_run (s k a : Int) (m : Bool) (S1 S2 : ByteArray) : evFn Try.prog 400 5 [.int .i64 s, .int .i64 k, .int .i64 a, .bool m] [] [.call (lookV [1, 9] 1 0) (lookH [1, 9]), .call (refV [1, 9] 1 1) (lookH [1, 9] ++ refH [1, 9]), .call (.bool true) (lookH [1, 9] ++ refH [1, 9]), .call (.string S1) (lookH [1, 9] ++ refH [1, 9]), .call (slW (0 + (lookH [1, 9] ++ refH [1, 9]).length) 5) ((lookH [1, 9] ++ refH [1, 9]) ++ stH), .call (.string S1) ((lookH [1, 9] ++ refH [1, 9]) ++ stH), .is 60 (.bool true), .call (.string S2) ((lookH [1, 9] ++ refH [1, 9]) ++ stH), .call (slW (0 + ((lookH [1, 9] ++ refH [1, 9]) ++ stH).length) 14) (((lookH [1, 9] ++ refH [1, 9]) ++ stH) ++ acH), .call (.string S2) (((lookH [1, 9] ++ refH [1, 9]) ++ stH) ++ acH), .is 68 (.bool true), .call (.bool true) (((lookH [1, 9] ++ refH [1, 9]) ++ stH) ++ acH), .is 74 (.bool true), .is 77 (.bool true)] =
    some ([AEq Try.prog 6 [.int .i64 s, .int .i64 k, .bool m] [] (lookV [1, 9] 1 0) (lookH [1, 9]),
      AEq Try.prog 9 [.int .i64 s, .int .i64 k, .bool m] (lookH [1, 9]) (refV [1, 9] 1 1) (lookH [1, 9] ++ refH [1, 9]),
      AEq Try.prog 8 [] (lookH [1, 9] ++ refH [1, 9]) (.bool true) (lookH [1, 9] ++ refH [1, 9]),
      AEq Try.prog 10 [.int .i64 s] (lookH [1, 9] ++ refH [1, 9]) (.string S1) (lookH [1, 9] ++ refH [1, 9]),
      AEq Try.prog 12 [] (lookH [1, 9] ++ refH [1, 9]) (slW (0 + (lookH [1, 9] ++ refH [1, 9]).length) 5) ((lookH [1, 9] ++ refH [1, 9]) ++ stH),
      AEq Try.prog 11 [slW (0 + (lookH [1, 9] ++ refH [1, 9]).length) 5, .int .i64 s] ((lookH [1, 9] ++ refH [1, 9]) ++ stH) (.string S1) ((lookH [1, 9] ++ refH [1, 9]) ++ stH),
      Value.bool (S1.toList == S1.toList) = .bool true,
      AEq Try.prog 13 [.int .i64 a] ((lookH [1, 9] ++ refH [1, 9]) ++ stH) (.string S2) ((lookH [1, 9] ++ refH [1, 9]) ++ stH),
      AEq Try.prog 14 [] ((lookH [1, 9] ++ refH [1, 9]) ++ stH) (slW (0 + ((lookH [1, 9] ++ refH [1, 9]) ++ stH).length) 14) (((lookH [1, 9] ++ refH [1, 9]) ++ stH) ++ acH),
      AEq Try.prog 11 [slW (0 + ((lookH [1, 9] ++ refH [1, 9]) ++ stH).length) 14, .int .i64 a] (((lookH [1, 9] ++ refH [1, 9]) ++ stH) ++ acH) (.string S2) (((lookH [1, 9] ++ refH [1, 9]) ++ stH) ++ acH),
      Value.bool (S2.toList == S2.toList) = .bool true,
      AEq Try.prog 7 [.int .i64 s] (((lookH [1, 9] ++ refH [1, 9]) ++ stH) ++ acH) (.bool true) (((lookH [1, 9] ++ refH [1, 9]) ++ stH) ++ acH),
      Value.bool (decide (s ≥ 0)) = .bool true,
      Value.bool (decide (s ≤ 4)) = .bool true], .bool true, (((lookH [1, 9] ++ refH [1, 9]) ++ stH) ++ acH), []) := by kernel_rfl
theorem looks_6 {s k : Int} {m : Bool} (a : Int) (h0 : 0 ≤ s) (h1 : s ≤ 4) (hl : LookIs s k m [1, 9] 1) (hr : RefIs s k m [1, 9] 1) : ∃ h', AEq Try.prog 5 [.int .i64 s, .int .i64 k, .int .i64 a, .bool m] [] (.bool true) h' := by
  obtain ⟨S1, h10, h11⟩ := st_any s
  obtain ⟨S2, h13, h14⟩ := ac_any a
  exact ⟨_, evFn_sound (looks_6_run s k a m S1 S2) ⟨hl [], hr (lookH [1, 9]), aw8 _, h10 _, words_eq _, st_at h11 _, same S1, h13 _, actw_eq _, ac_at h14 _, same S2, may_in h0 h1 _, db (by omega), db (by omega), trivial⟩⟩
theorem looks_7_run (s k a : Int) (m : Bool) (S1 S2 : ByteArray) : evFn Try.prog 400 5 [.int .i64 s, .int .i64 k, .int .i64 a, .bool m] [] [.call (lookV [2, 9] 2 0) (lookH [2, 9]), .call (refV [2, 9] 2 1) (lookH [2, 9] ++ refH [2, 9]), .call (.bool true) (lookH [2, 9] ++ refH [2, 9]), .call (.string S1) (lookH [2, 9] ++ refH [2, 9]), .call (slW (0 + (lookH [2, 9] ++ refH [2, 9]).length) 5) ((lookH [2, 9] ++ refH [2, 9]) ++ stH), .call (.string S1) ((lookH [2, 9] ++ refH [2, 9]) ++ stH), .is 60 (.bool true), .call (.string S2) ((lookH [2, 9] ++ refH [2, 9]) ++ stH), .call (slW (0 + ((lookH [2, 9] ++ refH [2, 9]) ++ stH).length) 14) (((lookH [2, 9] ++ refH [2, 9]) ++ stH) ++ acH), .call (.string S2) (((lookH [2, 9] ++ refH [2, 9]) ++ stH) ++ acH), .is 68 (.bool true), .call (.bool true) (((lookH [2, 9] ++ refH [2, 9]) ++ stH) ++ acH), .is 74 (.bool true), .is 77 (.bool true)] =
    some ([AEq Try.prog 6 [.int .i64 s, .int .i64 k, .bool m] [] (lookV [2, 9] 2 0) (lookH [2, 9]),
      AEq Try.prog 9 [.int .i64 s, .int .i64 k, .bool m] (lookH [2, 9]) (refV [2, 9] 2 1) (lookH [2, 9] ++ refH [2, 9]),
      AEq Try.prog 8 [] (lookH [2, 9] ++ refH [2, 9]) (.bool true) (lookH [2, 9] ++ refH [2, 9]),
      AEq Try.prog 10 [.int .i64 s] (lookH [2, 9] ++ refH [2, 9]) (.string S1) (lookH [2, 9] ++ refH [2, 9]),
      AEq Try.prog 12 [] (lookH [2, 9] ++ refH [2, 9]) (slW (0 + (lookH [2, 9] ++ refH [2, 9]).length) 5) ((lookH [2, 9] ++ refH [2, 9]) ++ stH),
      AEq Try.prog 11 [slW (0 + (lookH [2, 9] ++ refH [2, 9]).length) 5, .int .i64 s] ((lookH [2, 9] ++ refH [2, 9]) ++ stH) (.string S1) ((lookH [2, 9] ++ refH [2, 9]) ++ stH),
      Value.bool (S1.toList == S1.toList) = .bool true,
      AEq Try.prog 13 [.int .i64 a] ((lookH [2, 9] ++ refH [2, 9]) ++ stH) (.string S2) ((lookH [2, 9] ++ refH [2, 9]) ++ stH),
      AEq Try.prog 14 [] ((lookH [2, 9] ++ refH [2, 9]) ++ stH) (slW (0 + ((lookH [2, 9] ++ refH [2, 9]) ++ stH).length) 14) (((lookH [2, 9] ++ refH [2, 9]) ++ stH) ++ acH),
      AEq Try.prog 11 [slW (0 + ((lookH [2, 9] ++ refH [2, 9]) ++ stH).length) 14, .int .i64 a] (((lookH [2, 9] ++ refH [2, 9]) ++ stH) ++ acH) (.string S2) (((lookH [2, 9] ++ refH [2, 9]) ++ stH) ++ acH),
      Value.bool (S2.toList == S2.toList) = .bool true,
      AEq Try.prog 7 [.int .i64 s] (((lookH [2, 9] ++ refH [2, 9]) ++ stH) ++ acH) (.bool true) (((lookH [2, 9] ++ refH [2, 9]) ++ stH) ++ acH),
      Value.bool (decide (s ≥ 0)) = .bool true,
      Value.bool (decide (s ≤ 4)) = .bool true], .bool true, (((lookH [2, 9] ++ refH [2, 9]) ++ stH) ++ acH), []) := by kernel_rfl
theorem looks_7 {s k : Int} {m : Bool} (a : Int) (h0 : 0 ≤ s) (h1 : s ≤ 4) (hl : LookIs s k m [2, 9] 2) (hr : RefIs s k m [2, 9] 2) : ∃ h', AEq Try.prog 5 [.int .i64 s, .int .i64 k, .int .i64 a, .bool m] [] (.bool true) h' := by
  obtain ⟨S1, h10, h11⟩ := st_any s
  obtain ⟨S2, h13, h14⟩ := ac_any a
  exact ⟨_, evFn_sound (looks_7_run s k a m S1 S2) ⟨hl [], hr (lookH [2, 9]), aw8 _, h10 _, words_eq _, st_at h11 _, same S1, h13 _, actw_eq _, ac_at h14 _, same S2, may_in h0 h1 _, db (by omega), db (by omega), trivial⟩⟩
theorem looks_8_run (s k a : Int) (m : Bool) (S1 S2 : ByteArray) : evFn Try.prog 400 5 [.int .i64 s, .int .i64 k, .int .i64 a, .bool m] [] [.call (lookV [3, 4] 2 0) (lookH [3, 4]), .call (refV [3, 4] 2 1) (lookH [3, 4] ++ refH [3, 4]), .call (.bool true) (lookH [3, 4] ++ refH [3, 4]), .call (.string S1) (lookH [3, 4] ++ refH [3, 4]), .call (slW (0 + (lookH [3, 4] ++ refH [3, 4]).length) 5) ((lookH [3, 4] ++ refH [3, 4]) ++ stH), .call (.string S1) ((lookH [3, 4] ++ refH [3, 4]) ++ stH), .is 60 (.bool true), .call (.string S2) ((lookH [3, 4] ++ refH [3, 4]) ++ stH), .call (slW (0 + ((lookH [3, 4] ++ refH [3, 4]) ++ stH).length) 14) (((lookH [3, 4] ++ refH [3, 4]) ++ stH) ++ acH), .call (.string S2) (((lookH [3, 4] ++ refH [3, 4]) ++ stH) ++ acH), .is 68 (.bool true), .call (.bool true) (((lookH [3, 4] ++ refH [3, 4]) ++ stH) ++ acH), .is 74 (.bool true), .is 77 (.bool true)] =
    some ([AEq Try.prog 6 [.int .i64 s, .int .i64 k, .bool m] [] (lookV [3, 4] 2 0) (lookH [3, 4]),
      AEq Try.prog 9 [.int .i64 s, .int .i64 k, .bool m] (lookH [3, 4]) (refV [3, 4] 2 1) (lookH [3, 4] ++ refH [3, 4]),
      AEq Try.prog 8 [] (lookH [3, 4] ++ refH [3, 4]) (.bool true) (lookH [3, 4] ++ refH [3, 4]),
      AEq Try.prog 10 [.int .i64 s] (lookH [3, 4] ++ refH [3, 4]) (.string S1) (lookH [3, 4] ++ refH [3, 4]),
      AEq Try.prog 12 [] (lookH [3, 4] ++ refH [3, 4]) (slW (0 + (lookH [3, 4] ++ refH [3, 4]).length) 5) ((lookH [3, 4] ++ refH [3, 4]) ++ stH),
      AEq Try.prog 11 [slW (0 + (lookH [3, 4] ++ refH [3, 4]).length) 5, .int .i64 s] ((lookH [3, 4] ++ refH [3, 4]) ++ stH) (.string S1) ((lookH [3, 4] ++ refH [3, 4]) ++ stH),
      Value.bool (S1.toList == S1.toList) = .bool true,
      AEq Try.prog 13 [.int .i64 a] ((lookH [3, 4] ++ refH [3, 4]) ++ stH) (.string S2) ((lookH [3, 4] ++ refH [3, 4]) ++ stH),
      AEq Try.prog 14 [] ((lookH [3, 4] ++ refH [3, 4]) ++ stH) (slW (0 + ((lookH [3, 4] ++ refH [3, 4]) ++ stH).length) 14) (((lookH [3, 4] ++ refH [3, 4]) ++ stH) ++ acH),
      AEq Try.prog 11 [slW (0 + ((lookH [3, 4] ++ refH [3, 4]) ++ stH).length) 14, .int .i64 a] (((lookH [3, 4] ++ refH [3, 4]) ++ stH) ++ acH) (.string S2) (((lookH [3, 4] ++ refH [3, 4]) ++ stH) ++ acH),
      Value.bool (S2.toList == S2.toList) = .bool true,
      AEq Try.prog 7 [.int .i64 s] (((lookH [3, 4] ++ refH [3, 4]) ++ stH) ++ acH) (.bool true) (((lookH [3, 4] ++ refH [3, 4]) ++ stH) ++ acH),
      Value.bool (decide (s ≥ 0)) = .bool true,
      Value.bool (decide (s ≤ 4)) = .bool true], .bool true, (((lookH [3, 4] ++ refH [3, 4]) ++ stH) ++ acH), []) := by kernel_rfl
theorem looks_8 {s k : Int} {m : Bool} (a : Int) (h0 : 0 ≤ s) (h1 : s ≤ 4) (hl : LookIs s k m [3, 4] 2) (hr : RefIs s k m [3, 4] 2) : ∃ h', AEq Try.prog 5 [.int .i64 s, .int .i64 k, .int .i64 a, .bool m] [] (.bool true) h' := by
  obtain ⟨S1, h10, h11⟩ := st_any s
  obtain ⟨S2, h13, h14⟩ := ac_any a
  exact ⟨_, evFn_sound (looks_8_run s k a m S1 S2) ⟨hl [], hr (lookH [3, 4]), aw8 _, h10 _, words_eq _, st_at h11 _, same S1, h13 _, actw_eq _, ac_at h14 _, same S2, may_in h0 h1 _, db (by omega), db (by omega), trivial⟩⟩
theorem looks_9_run (s k a : Int) (m : Bool) (S1 S2 : ByteArray) : evFn Try.prog 400 5 [.int .i64 s, .int .i64 k, .int .i64 a, .bool m] [] [.call (lookV [3, 4, 9] 1 0) (lookH [3, 4, 9]), .call (refV [3, 4, 9] 1 1) (lookH [3, 4, 9] ++ refH [3, 4, 9]), .call (.bool true) (lookH [3, 4, 9] ++ refH [3, 4, 9]), .call (.string S1) (lookH [3, 4, 9] ++ refH [3, 4, 9]), .call (slW (0 + (lookH [3, 4, 9] ++ refH [3, 4, 9]).length) 5) ((lookH [3, 4, 9] ++ refH [3, 4, 9]) ++ stH), .call (.string S1) ((lookH [3, 4, 9] ++ refH [3, 4, 9]) ++ stH), .is 60 (.bool true), .call (.string S2) ((lookH [3, 4, 9] ++ refH [3, 4, 9]) ++ stH), .call (slW (0 + ((lookH [3, 4, 9] ++ refH [3, 4, 9]) ++ stH).length) 14) (((lookH [3, 4, 9] ++ refH [3, 4, 9]) ++ stH) ++ acH), .call (.string S2) (((lookH [3, 4, 9] ++ refH [3, 4, 9]) ++ stH) ++ acH), .is 68 (.bool true), .call (.bool true) (((lookH [3, 4, 9] ++ refH [3, 4, 9]) ++ stH) ++ acH), .is 74 (.bool true), .is 77 (.bool true)] =
    some ([AEq Try.prog 6 [.int .i64 s, .int .i64 k, .bool m] [] (lookV [3, 4, 9] 1 0) (lookH [3, 4, 9]),
      AEq Try.prog 9 [.int .i64 s, .int .i64 k, .bool m] (lookH [3, 4, 9]) (refV [3, 4, 9] 1 1) (lookH [3, 4, 9] ++ refH [3, 4, 9]),
      AEq Try.prog 8 [] (lookH [3, 4, 9] ++ refH [3, 4, 9]) (.bool true) (lookH [3, 4, 9] ++ refH [3, 4, 9]),
      AEq Try.prog 10 [.int .i64 s] (lookH [3, 4, 9] ++ refH [3, 4, 9]) (.string S1) (lookH [3, 4, 9] ++ refH [3, 4, 9]),
      AEq Try.prog 12 [] (lookH [3, 4, 9] ++ refH [3, 4, 9]) (slW (0 + (lookH [3, 4, 9] ++ refH [3, 4, 9]).length) 5) ((lookH [3, 4, 9] ++ refH [3, 4, 9]) ++ stH),
      AEq Try.prog 11 [slW (0 + (lookH [3, 4, 9] ++ refH [3, 4, 9]).length) 5, .int .i64 s] ((lookH [3, 4, 9] ++ refH [3, 4, 9]) ++ stH) (.string S1) ((lookH [3, 4, 9] ++ refH [3, 4, 9]) ++ stH),
      Value.bool (S1.toList == S1.toList) = .bool true,
      AEq Try.prog 13 [.int .i64 a] ((lookH [3, 4, 9] ++ refH [3, 4, 9]) ++ stH) (.string S2) ((lookH [3, 4, 9] ++ refH [3, 4, 9]) ++ stH),
      AEq Try.prog 14 [] ((lookH [3, 4, 9] ++ refH [3, 4, 9]) ++ stH) (slW (0 + ((lookH [3, 4, 9] ++ refH [3, 4, 9]) ++ stH).length) 14) (((lookH [3, 4, 9] ++ refH [3, 4, 9]) ++ stH) ++ acH),
      AEq Try.prog 11 [slW (0 + ((lookH [3, 4, 9] ++ refH [3, 4, 9]) ++ stH).length) 14, .int .i64 a] (((lookH [3, 4, 9] ++ refH [3, 4, 9]) ++ stH) ++ acH) (.string S2) (((lookH [3, 4, 9] ++ refH [3, 4, 9]) ++ stH) ++ acH),
      Value.bool (S2.toList == S2.toList) = .bool true,
      AEq Try.prog 7 [.int .i64 s] (((lookH [3, 4, 9] ++ refH [3, 4, 9]) ++ stH) ++ acH) (.bool true) (((lookH [3, 4, 9] ++ refH [3, 4, 9]) ++ stH) ++ acH),
      Value.bool (decide (s ≥ 0)) = .bool true,
      Value.bool (decide (s ≤ 4)) = .bool true], .bool true, (((lookH [3, 4, 9] ++ refH [3, 4, 9]) ++ stH) ++ acH), []) := by kernel_rfl
theorem looks_9 {s k : Int} {m : Bool} (a : Int) (h0 : 0 ≤ s) (h1 : s ≤ 4) (hl : LookIs s k m [3, 4, 9] 1) (hr : RefIs s k m [3, 4, 9] 1) : ∃ h', AEq Try.prog 5 [.int .i64 s, .int .i64 k, .int .i64 a, .bool m] [] (.bool true) h' := by
  obtain ⟨S1, h10, h11⟩ := st_any s
  obtain ⟨S2, h13, h14⟩ := ac_any a
  exact ⟨_, evFn_sound (looks_9_run s k a m S1 S2) ⟨hl [], hr (lookH [3, 4, 9]), aw8 _, h10 _, words_eq _, st_at h11 _, same S1, h13 _, actw_eq _, ac_at h14 _, same S2, may_in h0 h1 _, db (by omega), db (by omega), trivial⟩⟩
theorem looks_10_run (s k a : Int) (m : Bool) (S1 S2 : ByteArray) : evFn Try.prog 400 5 [.int .i64 s, .int .i64 k, .int .i64 a, .bool m] [] [.call (lookV [3, 4, 9] 2 0) (lookH [3, 4, 9]), .call (refV [3, 4, 9] 2 1) (lookH [3, 4, 9] ++ refH [3, 4, 9]), .call (.bool true) (lookH [3, 4, 9] ++ refH [3, 4, 9]), .call (.string S1) (lookH [3, 4, 9] ++ refH [3, 4, 9]), .call (slW (0 + (lookH [3, 4, 9] ++ refH [3, 4, 9]).length) 5) ((lookH [3, 4, 9] ++ refH [3, 4, 9]) ++ stH), .call (.string S1) ((lookH [3, 4, 9] ++ refH [3, 4, 9]) ++ stH), .is 60 (.bool true), .call (.string S2) ((lookH [3, 4, 9] ++ refH [3, 4, 9]) ++ stH), .call (slW (0 + ((lookH [3, 4, 9] ++ refH [3, 4, 9]) ++ stH).length) 14) (((lookH [3, 4, 9] ++ refH [3, 4, 9]) ++ stH) ++ acH), .call (.string S2) (((lookH [3, 4, 9] ++ refH [3, 4, 9]) ++ stH) ++ acH), .is 68 (.bool true), .call (.bool true) (((lookH [3, 4, 9] ++ refH [3, 4, 9]) ++ stH) ++ acH), .is 74 (.bool true), .is 77 (.bool true)] =
    some ([AEq Try.prog 6 [.int .i64 s, .int .i64 k, .bool m] [] (lookV [3, 4, 9] 2 0) (lookH [3, 4, 9]),
      AEq Try.prog 9 [.int .i64 s, .int .i64 k, .bool m] (lookH [3, 4, 9]) (refV [3, 4, 9] 2 1) (lookH [3, 4, 9] ++ refH [3, 4, 9]),
      AEq Try.prog 8 [] (lookH [3, 4, 9] ++ refH [3, 4, 9]) (.bool true) (lookH [3, 4, 9] ++ refH [3, 4, 9]),
      AEq Try.prog 10 [.int .i64 s] (lookH [3, 4, 9] ++ refH [3, 4, 9]) (.string S1) (lookH [3, 4, 9] ++ refH [3, 4, 9]),
      AEq Try.prog 12 [] (lookH [3, 4, 9] ++ refH [3, 4, 9]) (slW (0 + (lookH [3, 4, 9] ++ refH [3, 4, 9]).length) 5) ((lookH [3, 4, 9] ++ refH [3, 4, 9]) ++ stH),
      AEq Try.prog 11 [slW (0 + (lookH [3, 4, 9] ++ refH [3, 4, 9]).length) 5, .int .i64 s] ((lookH [3, 4, 9] ++ refH [3, 4, 9]) ++ stH) (.string S1) ((lookH [3, 4, 9] ++ refH [3, 4, 9]) ++ stH),
      Value.bool (S1.toList == S1.toList) = .bool true,
      AEq Try.prog 13 [.int .i64 a] ((lookH [3, 4, 9] ++ refH [3, 4, 9]) ++ stH) (.string S2) ((lookH [3, 4, 9] ++ refH [3, 4, 9]) ++ stH),
      AEq Try.prog 14 [] ((lookH [3, 4, 9] ++ refH [3, 4, 9]) ++ stH) (slW (0 + ((lookH [3, 4, 9] ++ refH [3, 4, 9]) ++ stH).length) 14) (((lookH [3, 4, 9] ++ refH [3, 4, 9]) ++ stH) ++ acH),
      AEq Try.prog 11 [slW (0 + ((lookH [3, 4, 9] ++ refH [3, 4, 9]) ++ stH).length) 14, .int .i64 a] (((lookH [3, 4, 9] ++ refH [3, 4, 9]) ++ stH) ++ acH) (.string S2) (((lookH [3, 4, 9] ++ refH [3, 4, 9]) ++ stH) ++ acH),
      Value.bool (S2.toList == S2.toList) = .bool true,
      AEq Try.prog 7 [.int .i64 s] (((lookH [3, 4, 9] ++ refH [3, 4, 9]) ++ stH) ++ acH) (.bool true) (((lookH [3, 4, 9] ++ refH [3, 4, 9]) ++ stH) ++ acH),
      Value.bool (decide (s ≥ 0)) = .bool true,
      Value.bool (decide (s ≤ 4)) = .bool true], .bool true, (((lookH [3, 4, 9] ++ refH [3, 4, 9]) ++ stH) ++ acH), []) := by kernel_rfl
theorem looks_10 {s k : Int} {m : Bool} (a : Int) (h0 : 0 ≤ s) (h1 : s ≤ 4) (hl : LookIs s k m [3, 4, 9] 2) (hr : RefIs s k m [3, 4, 9] 2) : ∃ h', AEq Try.prog 5 [.int .i64 s, .int .i64 k, .int .i64 a, .bool m] [] (.bool true) h' := by
  obtain ⟨S1, h10, h11⟩ := st_any s
  obtain ⟨S2, h13, h14⟩ := ac_any a
  exact ⟨_, evFn_sound (looks_10_run s k a m S1 S2) ⟨hl [], hr (lookH [3, 4, 9]), aw8 _, h10 _, words_eq _, st_at h11 _, same S1, h13 _, actw_eq _, ac_at h14 _, same S2, may_in h0 h1 _, db (by omega), db (by omega), trivial⟩⟩
theorem looks_11_run (s k a : Int) (m : Bool) (S1 S2 : ByteArray) : evFn Try.prog 400 5 [.int .i64 s, .int .i64 k, .int .i64 a, .bool m] [] [.call (lookV [5, 6, 7] 4 0) (lookH [5, 6, 7]), .call (refV [5, 6, 7] 4 1) (lookH [5, 6, 7] ++ refH [5, 6, 7]), .call (.bool true) (lookH [5, 6, 7] ++ refH [5, 6, 7]), .call (.string S1) (lookH [5, 6, 7] ++ refH [5, 6, 7]), .call (slW (0 + (lookH [5, 6, 7] ++ refH [5, 6, 7]).length) 5) ((lookH [5, 6, 7] ++ refH [5, 6, 7]) ++ stH), .call (.string S1) ((lookH [5, 6, 7] ++ refH [5, 6, 7]) ++ stH), .is 60 (.bool true), .call (.string S2) ((lookH [5, 6, 7] ++ refH [5, 6, 7]) ++ stH), .call (slW (0 + ((lookH [5, 6, 7] ++ refH [5, 6, 7]) ++ stH).length) 14) (((lookH [5, 6, 7] ++ refH [5, 6, 7]) ++ stH) ++ acH), .call (.string S2) (((lookH [5, 6, 7] ++ refH [5, 6, 7]) ++ stH) ++ acH), .is 68 (.bool true), .call (.bool true) (((lookH [5, 6, 7] ++ refH [5, 6, 7]) ++ stH) ++ acH), .is 74 (.bool true), .is 77 (.bool true)] =
    some ([AEq Try.prog 6 [.int .i64 s, .int .i64 k, .bool m] [] (lookV [5, 6, 7] 4 0) (lookH [5, 6, 7]),
      AEq Try.prog 9 [.int .i64 s, .int .i64 k, .bool m] (lookH [5, 6, 7]) (refV [5, 6, 7] 4 1) (lookH [5, 6, 7] ++ refH [5, 6, 7]),
      AEq Try.prog 8 [] (lookH [5, 6, 7] ++ refH [5, 6, 7]) (.bool true) (lookH [5, 6, 7] ++ refH [5, 6, 7]),
      AEq Try.prog 10 [.int .i64 s] (lookH [5, 6, 7] ++ refH [5, 6, 7]) (.string S1) (lookH [5, 6, 7] ++ refH [5, 6, 7]),
      AEq Try.prog 12 [] (lookH [5, 6, 7] ++ refH [5, 6, 7]) (slW (0 + (lookH [5, 6, 7] ++ refH [5, 6, 7]).length) 5) ((lookH [5, 6, 7] ++ refH [5, 6, 7]) ++ stH),
      AEq Try.prog 11 [slW (0 + (lookH [5, 6, 7] ++ refH [5, 6, 7]).length) 5, .int .i64 s] ((lookH [5, 6, 7] ++ refH [5, 6, 7]) ++ stH) (.string S1) ((lookH [5, 6, 7] ++ refH [5, 6, 7]) ++ stH),
      Value.bool (S1.toList == S1.toList) = .bool true,
      AEq Try.prog 13 [.int .i64 a] ((lookH [5, 6, 7] ++ refH [5, 6, 7]) ++ stH) (.string S2) ((lookH [5, 6, 7] ++ refH [5, 6, 7]) ++ stH),
      AEq Try.prog 14 [] ((lookH [5, 6, 7] ++ refH [5, 6, 7]) ++ stH) (slW (0 + ((lookH [5, 6, 7] ++ refH [5, 6, 7]) ++ stH).length) 14) (((lookH [5, 6, 7] ++ refH [5, 6, 7]) ++ stH) ++ acH),
      AEq Try.prog 11 [slW (0 + ((lookH [5, 6, 7] ++ refH [5, 6, 7]) ++ stH).length) 14, .int .i64 a] (((lookH [5, 6, 7] ++ refH [5, 6, 7]) ++ stH) ++ acH) (.string S2) (((lookH [5, 6, 7] ++ refH [5, 6, 7]) ++ stH) ++ acH),
      Value.bool (S2.toList == S2.toList) = .bool true,
      AEq Try.prog 7 [.int .i64 s] (((lookH [5, 6, 7] ++ refH [5, 6, 7]) ++ stH) ++ acH) (.bool true) (((lookH [5, 6, 7] ++ refH [5, 6, 7]) ++ stH) ++ acH),
      Value.bool (decide (s ≥ 0)) = .bool true,
      Value.bool (decide (s ≤ 4)) = .bool true], .bool true, (((lookH [5, 6, 7] ++ refH [5, 6, 7]) ++ stH) ++ acH), []) := by kernel_rfl
theorem looks_11 {s k : Int} {m : Bool} (a : Int) (h0 : 0 ≤ s) (h1 : s ≤ 4) (hl : LookIs s k m [5, 6, 7] 4) (hr : RefIs s k m [5, 6, 7] 4) : ∃ h', AEq Try.prog 5 [.int .i64 s, .int .i64 k, .int .i64 a, .bool m] [] (.bool true) h' := by
  obtain ⟨S1, h10, h11⟩ := st_any s
  obtain ⟨S2, h13, h14⟩ := ac_any a
  exact ⟨_, evFn_sound (looks_11_run s k a m S1 S2) ⟨hl [], hr (lookH [5, 6, 7]), aw8 _, h10 _, words_eq _, st_at h11 _, same S1, h13 _, actw_eq _, ac_at h14 _, same S2, may_in h0 h1 _, db (by omega), db (by omega), trivial⟩⟩
theorem looks_12_run (s k a : Int) (m : Bool) (S1 S2 : ByteArray) : evFn Try.prog 400 5 [.int .i64 s, .int .i64 k, .int .i64 a, .bool m] [] [.call (lookV [5, 6, 8] 4 0) (lookH [5, 6, 8]), .call (refV [5, 6, 8] 4 1) (lookH [5, 6, 8] ++ refH [5, 6, 8]), .call (.bool true) (lookH [5, 6, 8] ++ refH [5, 6, 8]), .call (.string S1) (lookH [5, 6, 8] ++ refH [5, 6, 8]), .call (slW (0 + (lookH [5, 6, 8] ++ refH [5, 6, 8]).length) 5) ((lookH [5, 6, 8] ++ refH [5, 6, 8]) ++ stH), .call (.string S1) ((lookH [5, 6, 8] ++ refH [5, 6, 8]) ++ stH), .is 60 (.bool true), .call (.string S2) ((lookH [5, 6, 8] ++ refH [5, 6, 8]) ++ stH), .call (slW (0 + ((lookH [5, 6, 8] ++ refH [5, 6, 8]) ++ stH).length) 14) (((lookH [5, 6, 8] ++ refH [5, 6, 8]) ++ stH) ++ acH), .call (.string S2) (((lookH [5, 6, 8] ++ refH [5, 6, 8]) ++ stH) ++ acH), .is 68 (.bool true), .call (.bool true) (((lookH [5, 6, 8] ++ refH [5, 6, 8]) ++ stH) ++ acH), .is 74 (.bool true), .is 77 (.bool true)] =
    some ([AEq Try.prog 6 [.int .i64 s, .int .i64 k, .bool m] [] (lookV [5, 6, 8] 4 0) (lookH [5, 6, 8]),
      AEq Try.prog 9 [.int .i64 s, .int .i64 k, .bool m] (lookH [5, 6, 8]) (refV [5, 6, 8] 4 1) (lookH [5, 6, 8] ++ refH [5, 6, 8]),
      AEq Try.prog 8 [] (lookH [5, 6, 8] ++ refH [5, 6, 8]) (.bool true) (lookH [5, 6, 8] ++ refH [5, 6, 8]),
      AEq Try.prog 10 [.int .i64 s] (lookH [5, 6, 8] ++ refH [5, 6, 8]) (.string S1) (lookH [5, 6, 8] ++ refH [5, 6, 8]),
      AEq Try.prog 12 [] (lookH [5, 6, 8] ++ refH [5, 6, 8]) (slW (0 + (lookH [5, 6, 8] ++ refH [5, 6, 8]).length) 5) ((lookH [5, 6, 8] ++ refH [5, 6, 8]) ++ stH),
      AEq Try.prog 11 [slW (0 + (lookH [5, 6, 8] ++ refH [5, 6, 8]).length) 5, .int .i64 s] ((lookH [5, 6, 8] ++ refH [5, 6, 8]) ++ stH) (.string S1) ((lookH [5, 6, 8] ++ refH [5, 6, 8]) ++ stH),
      Value.bool (S1.toList == S1.toList) = .bool true,
      AEq Try.prog 13 [.int .i64 a] ((lookH [5, 6, 8] ++ refH [5, 6, 8]) ++ stH) (.string S2) ((lookH [5, 6, 8] ++ refH [5, 6, 8]) ++ stH),
      AEq Try.prog 14 [] ((lookH [5, 6, 8] ++ refH [5, 6, 8]) ++ stH) (slW (0 + ((lookH [5, 6, 8] ++ refH [5, 6, 8]) ++ stH).length) 14) (((lookH [5, 6, 8] ++ refH [5, 6, 8]) ++ stH) ++ acH),
      AEq Try.prog 11 [slW (0 + ((lookH [5, 6, 8] ++ refH [5, 6, 8]) ++ stH).length) 14, .int .i64 a] (((lookH [5, 6, 8] ++ refH [5, 6, 8]) ++ stH) ++ acH) (.string S2) (((lookH [5, 6, 8] ++ refH [5, 6, 8]) ++ stH) ++ acH),
      Value.bool (S2.toList == S2.toList) = .bool true,
      AEq Try.prog 7 [.int .i64 s] (((lookH [5, 6, 8] ++ refH [5, 6, 8]) ++ stH) ++ acH) (.bool true) (((lookH [5, 6, 8] ++ refH [5, 6, 8]) ++ stH) ++ acH),
      Value.bool (decide (s ≥ 0)) = .bool true,
      Value.bool (decide (s ≤ 4)) = .bool true], .bool true, (((lookH [5, 6, 8] ++ refH [5, 6, 8]) ++ stH) ++ acH), []) := by kernel_rfl
theorem looks_12 {s k : Int} {m : Bool} (a : Int) (h0 : 0 ≤ s) (h1 : s ≤ 4) (hl : LookIs s k m [5, 6, 8] 4) (hr : RefIs s k m [5, 6, 8] 4) : ∃ h', AEq Try.prog 5 [.int .i64 s, .int .i64 k, .int .i64 a, .bool m] [] (.bool true) h' := by
  obtain ⟨S1, h10, h11⟩ := st_any s
  obtain ⟨S2, h13, h14⟩ := ac_any a
  exact ⟨_, evFn_sound (looks_12_run s k a m S1 S2) ⟨hl [], hr (lookH [5, 6, 8]), aw8 _, h10 _, words_eq _, st_at h11 _, same S1, h13 _, actw_eq _, ac_at h14 _, same S2, may_in h0 h1 _, db (by omega), db (by omega), trivial⟩⟩
theorem looks_13_run (s k a : Int) (m : Bool) (S1 S2 : ByteArray) : evFn Try.prog 400 5 [.int .i64 s, .int .i64 k, .int .i64 a, .bool m] [] [.call (lookV [7] 4 0) (lookH [7]), .call (refV [7] 4 1) (lookH [7] ++ refH [7]), .call (.bool true) (lookH [7] ++ refH [7]), .call (.string S1) (lookH [7] ++ refH [7]), .call (slW (0 + (lookH [7] ++ refH [7]).length) 5) ((lookH [7] ++ refH [7]) ++ stH), .call (.string S1) ((lookH [7] ++ refH [7]) ++ stH), .is 60 (.bool true), .call (.string S2) ((lookH [7] ++ refH [7]) ++ stH), .call (slW (0 + ((lookH [7] ++ refH [7]) ++ stH).length) 14) (((lookH [7] ++ refH [7]) ++ stH) ++ acH), .call (.string S2) (((lookH [7] ++ refH [7]) ++ stH) ++ acH), .is 68 (.bool true), .call (.bool true) (((lookH [7] ++ refH [7]) ++ stH) ++ acH), .is 74 (.bool true), .is 77 (.bool true)] =
    some ([AEq Try.prog 6 [.int .i64 s, .int .i64 k, .bool m] [] (lookV [7] 4 0) (lookH [7]),
      AEq Try.prog 9 [.int .i64 s, .int .i64 k, .bool m] (lookH [7]) (refV [7] 4 1) (lookH [7] ++ refH [7]),
      AEq Try.prog 8 [] (lookH [7] ++ refH [7]) (.bool true) (lookH [7] ++ refH [7]),
      AEq Try.prog 10 [.int .i64 s] (lookH [7] ++ refH [7]) (.string S1) (lookH [7] ++ refH [7]),
      AEq Try.prog 12 [] (lookH [7] ++ refH [7]) (slW (0 + (lookH [7] ++ refH [7]).length) 5) ((lookH [7] ++ refH [7]) ++ stH),
      AEq Try.prog 11 [slW (0 + (lookH [7] ++ refH [7]).length) 5, .int .i64 s] ((lookH [7] ++ refH [7]) ++ stH) (.string S1) ((lookH [7] ++ refH [7]) ++ stH),
      Value.bool (S1.toList == S1.toList) = .bool true,
      AEq Try.prog 13 [.int .i64 a] ((lookH [7] ++ refH [7]) ++ stH) (.string S2) ((lookH [7] ++ refH [7]) ++ stH),
      AEq Try.prog 14 [] ((lookH [7] ++ refH [7]) ++ stH) (slW (0 + ((lookH [7] ++ refH [7]) ++ stH).length) 14) (((lookH [7] ++ refH [7]) ++ stH) ++ acH),
      AEq Try.prog 11 [slW (0 + ((lookH [7] ++ refH [7]) ++ stH).length) 14, .int .i64 a] (((lookH [7] ++ refH [7]) ++ stH) ++ acH) (.string S2) (((lookH [7] ++ refH [7]) ++ stH) ++ acH),
      Value.bool (S2.toList == S2.toList) = .bool true,
      AEq Try.prog 7 [.int .i64 s] (((lookH [7] ++ refH [7]) ++ stH) ++ acH) (.bool true) (((lookH [7] ++ refH [7]) ++ stH) ++ acH),
      Value.bool (decide (s ≥ 0)) = .bool true,
      Value.bool (decide (s ≤ 4)) = .bool true], .bool true, (((lookH [7] ++ refH [7]) ++ stH) ++ acH), []) := by kernel_rfl
theorem looks_13 {s k : Int} {m : Bool} (a : Int) (h0 : 0 ≤ s) (h1 : s ≤ 4) (hl : LookIs s k m [7] 4) (hr : RefIs s k m [7] 4) : ∃ h', AEq Try.prog 5 [.int .i64 s, .int .i64 k, .int .i64 a, .bool m] [] (.bool true) h' := by
  obtain ⟨S1, h10, h11⟩ := st_any s
  obtain ⟨S2, h13, h14⟩ := ac_any a
  exact ⟨_, evFn_sound (looks_13_run s k a m S1 S2) ⟨hl [], hr (lookH [7]), aw8 _, h10 _, words_eq _, st_at h11 _, same S1, h13 _, actw_eq _, ac_at h14 _, same S2, may_in h0 h1 _, db (by omega), db (by omega), trivial⟩⟩
theorem looks_14_run (s k a : Int) (m : Bool) (S1 S2 : ByteArray) : evFn Try.prog 400 5 [.int .i64 s, .int .i64 k, .int .i64 a, .bool m] [] [.call (lookV [8] 4 0) (lookH [8]), .call (refV [8] 4 1) (lookH [8] ++ refH [8]), .call (.bool true) (lookH [8] ++ refH [8]), .call (.string S1) (lookH [8] ++ refH [8]), .call (slW (0 + (lookH [8] ++ refH [8]).length) 5) ((lookH [8] ++ refH [8]) ++ stH), .call (.string S1) ((lookH [8] ++ refH [8]) ++ stH), .is 60 (.bool true), .call (.string S2) ((lookH [8] ++ refH [8]) ++ stH), .call (slW (0 + ((lookH [8] ++ refH [8]) ++ stH).length) 14) (((lookH [8] ++ refH [8]) ++ stH) ++ acH), .call (.string S2) (((lookH [8] ++ refH [8]) ++ stH) ++ acH), .is 68 (.bool true), .call (.bool true) (((lookH [8] ++ refH [8]) ++ stH) ++ acH), .is 74 (.bool true), .is 77 (.bool true)] =
    some ([AEq Try.prog 6 [.int .i64 s, .int .i64 k, .bool m] [] (lookV [8] 4 0) (lookH [8]),
      AEq Try.prog 9 [.int .i64 s, .int .i64 k, .bool m] (lookH [8]) (refV [8] 4 1) (lookH [8] ++ refH [8]),
      AEq Try.prog 8 [] (lookH [8] ++ refH [8]) (.bool true) (lookH [8] ++ refH [8]),
      AEq Try.prog 10 [.int .i64 s] (lookH [8] ++ refH [8]) (.string S1) (lookH [8] ++ refH [8]),
      AEq Try.prog 12 [] (lookH [8] ++ refH [8]) (slW (0 + (lookH [8] ++ refH [8]).length) 5) ((lookH [8] ++ refH [8]) ++ stH),
      AEq Try.prog 11 [slW (0 + (lookH [8] ++ refH [8]).length) 5, .int .i64 s] ((lookH [8] ++ refH [8]) ++ stH) (.string S1) ((lookH [8] ++ refH [8]) ++ stH),
      Value.bool (S1.toList == S1.toList) = .bool true,
      AEq Try.prog 13 [.int .i64 a] ((lookH [8] ++ refH [8]) ++ stH) (.string S2) ((lookH [8] ++ refH [8]) ++ stH),
      AEq Try.prog 14 [] ((lookH [8] ++ refH [8]) ++ stH) (slW (0 + ((lookH [8] ++ refH [8]) ++ stH).length) 14) (((lookH [8] ++ refH [8]) ++ stH) ++ acH),
      AEq Try.prog 11 [slW (0 + ((lookH [8] ++ refH [8]) ++ stH).length) 14, .int .i64 a] (((lookH [8] ++ refH [8]) ++ stH) ++ acH) (.string S2) (((lookH [8] ++ refH [8]) ++ stH) ++ acH),
      Value.bool (S2.toList == S2.toList) = .bool true,
      AEq Try.prog 7 [.int .i64 s] (((lookH [8] ++ refH [8]) ++ stH) ++ acH) (.bool true) (((lookH [8] ++ refH [8]) ++ stH) ++ acH),
      Value.bool (decide (s ≥ 0)) = .bool true,
      Value.bool (decide (s ≤ 4)) = .bool true], .bool true, (((lookH [8] ++ refH [8]) ++ stH) ++ acH), []) := by kernel_rfl
theorem looks_14 {s k : Int} {m : Bool} (a : Int) (h0 : 0 ≤ s) (h1 : s ≤ 4) (hl : LookIs s k m [8] 4) (hr : RefIs s k m [8] 4) : ∃ h', AEq Try.prog 5 [.int .i64 s, .int .i64 k, .int .i64 a, .bool m] [] (.bool true) h' := by
  obtain ⟨S1, h10, h11⟩ := st_any s
  obtain ⟨S2, h13, h14⟩ := ac_any a
  exact ⟨_, evFn_sound (looks_14_run s k a m S1 S2) ⟨hl [], hr (lookH [8]), aw8 _, h10 _, words_eq _, st_at h11 _, same S1, h13 _, actw_eq _, ac_at h14 _, same S2, may_in h0 h1 _, db (by omega), db (by omega), trivial⟩⟩
theorem looks_15_run (s k a : Int) (m : Bool) (S1 S2 : ByteArray) : evFn Try.prog 400 5 [.int .i64 s, .int .i64 k, .int .i64 a, .bool m] [] [.call (lookV [10, 9] 0 0) (lookH [10, 9]), .call (refV [10, 9] 0 1) (lookH [10, 9] ++ refH [10, 9]), .call (.bool true) (lookH [10, 9] ++ refH [10, 9]), .call (.string S1) (lookH [10, 9] ++ refH [10, 9]), .call (slW (0 + (lookH [10, 9] ++ refH [10, 9]).length) 5) ((lookH [10, 9] ++ refH [10, 9]) ++ stH), .call (.string S1) ((lookH [10, 9] ++ refH [10, 9]) ++ stH), .is 60 (.bool true), .call (.string S2) ((lookH [10, 9] ++ refH [10, 9]) ++ stH), .call (slW (0 + ((lookH [10, 9] ++ refH [10, 9]) ++ stH).length) 14) (((lookH [10, 9] ++ refH [10, 9]) ++ stH) ++ acH), .call (.string S2) (((lookH [10, 9] ++ refH [10, 9]) ++ stH) ++ acH), .is 68 (.bool true), .call (.bool true) (((lookH [10, 9] ++ refH [10, 9]) ++ stH) ++ acH), .is 74 (.bool true), .is 77 (.bool true)] =
    some ([AEq Try.prog 6 [.int .i64 s, .int .i64 k, .bool m] [] (lookV [10, 9] 0 0) (lookH [10, 9]),
      AEq Try.prog 9 [.int .i64 s, .int .i64 k, .bool m] (lookH [10, 9]) (refV [10, 9] 0 1) (lookH [10, 9] ++ refH [10, 9]),
      AEq Try.prog 8 [] (lookH [10, 9] ++ refH [10, 9]) (.bool true) (lookH [10, 9] ++ refH [10, 9]),
      AEq Try.prog 10 [.int .i64 s] (lookH [10, 9] ++ refH [10, 9]) (.string S1) (lookH [10, 9] ++ refH [10, 9]),
      AEq Try.prog 12 [] (lookH [10, 9] ++ refH [10, 9]) (slW (0 + (lookH [10, 9] ++ refH [10, 9]).length) 5) ((lookH [10, 9] ++ refH [10, 9]) ++ stH),
      AEq Try.prog 11 [slW (0 + (lookH [10, 9] ++ refH [10, 9]).length) 5, .int .i64 s] ((lookH [10, 9] ++ refH [10, 9]) ++ stH) (.string S1) ((lookH [10, 9] ++ refH [10, 9]) ++ stH),
      Value.bool (S1.toList == S1.toList) = .bool true,
      AEq Try.prog 13 [.int .i64 a] ((lookH [10, 9] ++ refH [10, 9]) ++ stH) (.string S2) ((lookH [10, 9] ++ refH [10, 9]) ++ stH),
      AEq Try.prog 14 [] ((lookH [10, 9] ++ refH [10, 9]) ++ stH) (slW (0 + ((lookH [10, 9] ++ refH [10, 9]) ++ stH).length) 14) (((lookH [10, 9] ++ refH [10, 9]) ++ stH) ++ acH),
      AEq Try.prog 11 [slW (0 + ((lookH [10, 9] ++ refH [10, 9]) ++ stH).length) 14, .int .i64 a] (((lookH [10, 9] ++ refH [10, 9]) ++ stH) ++ acH) (.string S2) (((lookH [10, 9] ++ refH [10, 9]) ++ stH) ++ acH),
      Value.bool (S2.toList == S2.toList) = .bool true,
      AEq Try.prog 7 [.int .i64 s] (((lookH [10, 9] ++ refH [10, 9]) ++ stH) ++ acH) (.bool true) (((lookH [10, 9] ++ refH [10, 9]) ++ stH) ++ acH),
      Value.bool (decide (s ≥ 0)) = .bool true,
      Value.bool (decide (s ≤ 4)) = .bool true], .bool true, (((lookH [10, 9] ++ refH [10, 9]) ++ stH) ++ acH), []) := by kernel_rfl
theorem looks_15 {s k : Int} {m : Bool} (a : Int) (h0 : 0 ≤ s) (h1 : s ≤ 4) (hl : LookIs s k m [10, 9] 0) (hr : RefIs s k m [10, 9] 0) : ∃ h', AEq Try.prog 5 [.int .i64 s, .int .i64 k, .int .i64 a, .bool m] [] (.bool true) h' := by
  obtain ⟨S1, h10, h11⟩ := st_any s
  obtain ⟨S2, h13, h14⟩ := ac_any a
  exact ⟨_, evFn_sound (looks_15_run s k a m S1 S2) ⟨hl [], hr (lookH [10, 9]), aw8 _, h10 _, words_eq _, st_at h11 _, same S1, h13 _, actw_eq _, ac_at h14 _, same S2, may_in h0 h1 _, db (by omega), db (by omega), trivial⟩⟩
theorem looks_16_run (s k a : Int) (m : Bool) (S1 S2 : ByteArray) : evFn Try.prog 400 5 [.int .i64 s, .int .i64 k, .int .i64 a, .bool m] [] [.call (lookV [11] 0 0) (lookH [11]), .call (refV [11] 0 1) (lookH [11] ++ refH [11]), .call (.bool true) (lookH [11] ++ refH [11]), .call (.string S1) (lookH [11] ++ refH [11]), .call (slW (0 + (lookH [11] ++ refH [11]).length) 5) ((lookH [11] ++ refH [11]) ++ stH), .call (.string S1) ((lookH [11] ++ refH [11]) ++ stH), .is 60 (.bool true), .call (.string S2) ((lookH [11] ++ refH [11]) ++ stH), .call (slW (0 + ((lookH [11] ++ refH [11]) ++ stH).length) 14) (((lookH [11] ++ refH [11]) ++ stH) ++ acH), .call (.string S2) (((lookH [11] ++ refH [11]) ++ stH) ++ acH), .is 68 (.bool true), .call (.bool true) (((lookH [11] ++ refH [11]) ++ stH) ++ acH), .is 74 (.bool true), .is 77 (.bool true)] =
    some ([AEq Try.prog 6 [.int .i64 s, .int .i64 k, .bool m] [] (lookV [11] 0 0) (lookH [11]),
      AEq Try.prog 9 [.int .i64 s, .int .i64 k, .bool m] (lookH [11]) (refV [11] 0 1) (lookH [11] ++ refH [11]),
      AEq Try.prog 8 [] (lookH [11] ++ refH [11]) (.bool true) (lookH [11] ++ refH [11]),
      AEq Try.prog 10 [.int .i64 s] (lookH [11] ++ refH [11]) (.string S1) (lookH [11] ++ refH [11]),
      AEq Try.prog 12 [] (lookH [11] ++ refH [11]) (slW (0 + (lookH [11] ++ refH [11]).length) 5) ((lookH [11] ++ refH [11]) ++ stH),
      AEq Try.prog 11 [slW (0 + (lookH [11] ++ refH [11]).length) 5, .int .i64 s] ((lookH [11] ++ refH [11]) ++ stH) (.string S1) ((lookH [11] ++ refH [11]) ++ stH),
      Value.bool (S1.toList == S1.toList) = .bool true,
      AEq Try.prog 13 [.int .i64 a] ((lookH [11] ++ refH [11]) ++ stH) (.string S2) ((lookH [11] ++ refH [11]) ++ stH),
      AEq Try.prog 14 [] ((lookH [11] ++ refH [11]) ++ stH) (slW (0 + ((lookH [11] ++ refH [11]) ++ stH).length) 14) (((lookH [11] ++ refH [11]) ++ stH) ++ acH),
      AEq Try.prog 11 [slW (0 + ((lookH [11] ++ refH [11]) ++ stH).length) 14, .int .i64 a] (((lookH [11] ++ refH [11]) ++ stH) ++ acH) (.string S2) (((lookH [11] ++ refH [11]) ++ stH) ++ acH),
      Value.bool (S2.toList == S2.toList) = .bool true,
      AEq Try.prog 7 [.int .i64 s] (((lookH [11] ++ refH [11]) ++ stH) ++ acH) (.bool true) (((lookH [11] ++ refH [11]) ++ stH) ++ acH),
      Value.bool (decide (s ≥ 0)) = .bool true,
      Value.bool (decide (s ≤ 4)) = .bool true], .bool true, (((lookH [11] ++ refH [11]) ++ stH) ++ acH), []) := by kernel_rfl
theorem looks_16 {s k : Int} {m : Bool} (a : Int) (h0 : 0 ≤ s) (h1 : s ≤ 4) (hl : LookIs s k m [11] 0) (hr : RefIs s k m [11] 0) : ∃ h', AEq Try.prog 5 [.int .i64 s, .int .i64 k, .int .i64 a, .bool m] [] (.bool true) h' := by
  obtain ⟨S1, h10, h11⟩ := st_any s
  obtain ⟨S2, h13, h14⟩ := ac_any a
  exact ⟨_, evFn_sound (looks_16_run s k a m S1 S2) ⟨hl [], hr (lookH [11]), aw8 _, h10 _, words_eq _, st_at h11 _, same S1, h13 _, actw_eq _, ac_at h14 _, same S2, may_in h0 h1 _, db (by omega), db (by omega), trivial⟩⟩
theorem looks_17_run (s k a : Int) (m : Bool) (S1 S2 : ByteArray) : evFn Try.prog 400 5 [.int .i64 s, .int .i64 k, .int .i64 a, .bool m] [] [.call (lookV [12] 0 0) (lookH [12]), .call (refV [12] 0 1) (lookH [12] ++ refH [12]), .call (.bool true) (lookH [12] ++ refH [12]), .call (.string S1) (lookH [12] ++ refH [12]), .call (slW (0 + (lookH [12] ++ refH [12]).length) 5) ((lookH [12] ++ refH [12]) ++ stH), .call (.string S1) ((lookH [12] ++ refH [12]) ++ stH), .is 60 (.bool true), .call (.string S2) ((lookH [12] ++ refH [12]) ++ stH), .call (slW (0 + ((lookH [12] ++ refH [12]) ++ stH).length) 14) (((lookH [12] ++ refH [12]) ++ stH) ++ acH), .call (.string S2) (((lookH [12] ++ refH [12]) ++ stH) ++ acH), .is 68 (.bool true), .call (.bool true) (((lookH [12] ++ refH [12]) ++ stH) ++ acH), .is 74 (.bool true), .is 77 (.bool true)] =
    some ([AEq Try.prog 6 [.int .i64 s, .int .i64 k, .bool m] [] (lookV [12] 0 0) (lookH [12]),
      AEq Try.prog 9 [.int .i64 s, .int .i64 k, .bool m] (lookH [12]) (refV [12] 0 1) (lookH [12] ++ refH [12]),
      AEq Try.prog 8 [] (lookH [12] ++ refH [12]) (.bool true) (lookH [12] ++ refH [12]),
      AEq Try.prog 10 [.int .i64 s] (lookH [12] ++ refH [12]) (.string S1) (lookH [12] ++ refH [12]),
      AEq Try.prog 12 [] (lookH [12] ++ refH [12]) (slW (0 + (lookH [12] ++ refH [12]).length) 5) ((lookH [12] ++ refH [12]) ++ stH),
      AEq Try.prog 11 [slW (0 + (lookH [12] ++ refH [12]).length) 5, .int .i64 s] ((lookH [12] ++ refH [12]) ++ stH) (.string S1) ((lookH [12] ++ refH [12]) ++ stH),
      Value.bool (S1.toList == S1.toList) = .bool true,
      AEq Try.prog 13 [.int .i64 a] ((lookH [12] ++ refH [12]) ++ stH) (.string S2) ((lookH [12] ++ refH [12]) ++ stH),
      AEq Try.prog 14 [] ((lookH [12] ++ refH [12]) ++ stH) (slW (0 + ((lookH [12] ++ refH [12]) ++ stH).length) 14) (((lookH [12] ++ refH [12]) ++ stH) ++ acH),
      AEq Try.prog 11 [slW (0 + ((lookH [12] ++ refH [12]) ++ stH).length) 14, .int .i64 a] (((lookH [12] ++ refH [12]) ++ stH) ++ acH) (.string S2) (((lookH [12] ++ refH [12]) ++ stH) ++ acH),
      Value.bool (S2.toList == S2.toList) = .bool true,
      AEq Try.prog 7 [.int .i64 s] (((lookH [12] ++ refH [12]) ++ stH) ++ acH) (.bool true) (((lookH [12] ++ refH [12]) ++ stH) ++ acH),
      Value.bool (decide (s ≥ 0)) = .bool true,
      Value.bool (decide (s ≤ 4)) = .bool true], .bool true, (((lookH [12] ++ refH [12]) ++ stH) ++ acH), []) := by kernel_rfl
theorem looks_17 {s k : Int} {m : Bool} (a : Int) (h0 : 0 ≤ s) (h1 : s ≤ 4) (hl : LookIs s k m [12] 0) (hr : RefIs s k m [12] 0) : ∃ h', AEq Try.prog 5 [.int .i64 s, .int .i64 k, .int .i64 a, .bool m] [] (.bool true) h' := by
  obtain ⟨S1, h10, h11⟩ := st_any s
  obtain ⟨S2, h13, h14⟩ := ac_any a
  exact ⟨_, evFn_sound (looks_17_run s k a m S1 S2) ⟨hl [], hr (lookH [12]), aw8 _, h10 _, words_eq _, st_at h11 _, same S1, h13 _, actw_eq _, ac_at h14 _, same S2, may_in h0 h1 _, db (by omega), db (by omega), trivial⟩⟩
theorem looks_18_run (s k a : Int) (m : Bool) (S1 S2 : ByteArray) : evFn Try.prog 400 5 [.int .i64 s, .int .i64 k, .int .i64 a, .bool m] [] [.call (lookV [12] 4 0) (lookH [12]), .call (refV [12] 4 1) (lookH [12] ++ refH [12]), .call (.bool true) (lookH [12] ++ refH [12]), .call (.string S1) (lookH [12] ++ refH [12]), .call (slW (0 + (lookH [12] ++ refH [12]).length) 5) ((lookH [12] ++ refH [12]) ++ stH), .call (.string S1) ((lookH [12] ++ refH [12]) ++ stH), .is 60 (.bool true), .call (.string S2) ((lookH [12] ++ refH [12]) ++ stH), .call (slW (0 + ((lookH [12] ++ refH [12]) ++ stH).length) 14) (((lookH [12] ++ refH [12]) ++ stH) ++ acH), .call (.string S2) (((lookH [12] ++ refH [12]) ++ stH) ++ acH), .is 68 (.bool true), .call (.bool true) (((lookH [12] ++ refH [12]) ++ stH) ++ acH), .is 74 (.bool true), .is 77 (.bool true)] =
    some ([AEq Try.prog 6 [.int .i64 s, .int .i64 k, .bool m] [] (lookV [12] 4 0) (lookH [12]),
      AEq Try.prog 9 [.int .i64 s, .int .i64 k, .bool m] (lookH [12]) (refV [12] 4 1) (lookH [12] ++ refH [12]),
      AEq Try.prog 8 [] (lookH [12] ++ refH [12]) (.bool true) (lookH [12] ++ refH [12]),
      AEq Try.prog 10 [.int .i64 s] (lookH [12] ++ refH [12]) (.string S1) (lookH [12] ++ refH [12]),
      AEq Try.prog 12 [] (lookH [12] ++ refH [12]) (slW (0 + (lookH [12] ++ refH [12]).length) 5) ((lookH [12] ++ refH [12]) ++ stH),
      AEq Try.prog 11 [slW (0 + (lookH [12] ++ refH [12]).length) 5, .int .i64 s] ((lookH [12] ++ refH [12]) ++ stH) (.string S1) ((lookH [12] ++ refH [12]) ++ stH),
      Value.bool (S1.toList == S1.toList) = .bool true,
      AEq Try.prog 13 [.int .i64 a] ((lookH [12] ++ refH [12]) ++ stH) (.string S2) ((lookH [12] ++ refH [12]) ++ stH),
      AEq Try.prog 14 [] ((lookH [12] ++ refH [12]) ++ stH) (slW (0 + ((lookH [12] ++ refH [12]) ++ stH).length) 14) (((lookH [12] ++ refH [12]) ++ stH) ++ acH),
      AEq Try.prog 11 [slW (0 + ((lookH [12] ++ refH [12]) ++ stH).length) 14, .int .i64 a] (((lookH [12] ++ refH [12]) ++ stH) ++ acH) (.string S2) (((lookH [12] ++ refH [12]) ++ stH) ++ acH),
      Value.bool (S2.toList == S2.toList) = .bool true,
      AEq Try.prog 7 [.int .i64 s] (((lookH [12] ++ refH [12]) ++ stH) ++ acH) (.bool true) (((lookH [12] ++ refH [12]) ++ stH) ++ acH),
      Value.bool (decide (s ≥ 0)) = .bool true,
      Value.bool (decide (s ≤ 4)) = .bool true], .bool true, (((lookH [12] ++ refH [12]) ++ stH) ++ acH), []) := by kernel_rfl
theorem looks_18 {s k : Int} {m : Bool} (a : Int) (h0 : 0 ≤ s) (h1 : s ≤ 4) (hl : LookIs s k m [12] 4) (hr : RefIs s k m [12] 4) : ∃ h', AEq Try.prog 5 [.int .i64 s, .int .i64 k, .int .i64 a, .bool m] [] (.bool true) h' := by
  obtain ⟨S1, h10, h11⟩ := st_any s
  obtain ⟨S2, h13, h14⟩ := ac_any a
  exact ⟨_, evFn_sound (looks_18_run s k a m S1 S2) ⟨hl [], hr (lookH [12]), aw8 _, h10 _, words_eq _, st_at h11 _, same S1, h13 _, actw_eq _, ac_at h14 _, same S2, may_in h0 h1 _, db (by omega), db (by omega), trivial⟩⟩
theorem looks_19_run (s k a : Int) (m : Bool) (S1 S2 : ByteArray) : evFn Try.prog 400 5 [.int .i64 s, .int .i64 k, .int .i64 a, .bool m] [] [.call (lookV [13, 4, 9] 3 0) (lookH [13, 4, 9]), .call (refV [13, 4, 9] 3 1) (lookH [13, 4, 9] ++ refH [13, 4, 9]), .call (.bool true) (lookH [13, 4, 9] ++ refH [13, 4, 9]), .call (.string S1) (lookH [13, 4, 9] ++ refH [13, 4, 9]), .call (slW (0 + (lookH [13, 4, 9] ++ refH [13, 4, 9]).length) 5) ((lookH [13, 4, 9] ++ refH [13, 4, 9]) ++ stH), .call (.string S1) ((lookH [13, 4, 9] ++ refH [13, 4, 9]) ++ stH), .is 60 (.bool true), .call (.string S2) ((lookH [13, 4, 9] ++ refH [13, 4, 9]) ++ stH), .call (slW (0 + ((lookH [13, 4, 9] ++ refH [13, 4, 9]) ++ stH).length) 14) (((lookH [13, 4, 9] ++ refH [13, 4, 9]) ++ stH) ++ acH), .call (.string S2) (((lookH [13, 4, 9] ++ refH [13, 4, 9]) ++ stH) ++ acH), .is 68 (.bool true), .call (.bool true) (((lookH [13, 4, 9] ++ refH [13, 4, 9]) ++ stH) ++ acH), .is 74 (.bool true), .is 77 (.bool true)] =
    some ([AEq Try.prog 6 [.int .i64 s, .int .i64 k, .bool m] [] (lookV [13, 4, 9] 3 0) (lookH [13, 4, 9]),
      AEq Try.prog 9 [.int .i64 s, .int .i64 k, .bool m] (lookH [13, 4, 9]) (refV [13, 4, 9] 3 1) (lookH [13, 4, 9] ++ refH [13, 4, 9]),
      AEq Try.prog 8 [] (lookH [13, 4, 9] ++ refH [13, 4, 9]) (.bool true) (lookH [13, 4, 9] ++ refH [13, 4, 9]),
      AEq Try.prog 10 [.int .i64 s] (lookH [13, 4, 9] ++ refH [13, 4, 9]) (.string S1) (lookH [13, 4, 9] ++ refH [13, 4, 9]),
      AEq Try.prog 12 [] (lookH [13, 4, 9] ++ refH [13, 4, 9]) (slW (0 + (lookH [13, 4, 9] ++ refH [13, 4, 9]).length) 5) ((lookH [13, 4, 9] ++ refH [13, 4, 9]) ++ stH),
      AEq Try.prog 11 [slW (0 + (lookH [13, 4, 9] ++ refH [13, 4, 9]).length) 5, .int .i64 s] ((lookH [13, 4, 9] ++ refH [13, 4, 9]) ++ stH) (.string S1) ((lookH [13, 4, 9] ++ refH [13, 4, 9]) ++ stH),
      Value.bool (S1.toList == S1.toList) = .bool true,
      AEq Try.prog 13 [.int .i64 a] ((lookH [13, 4, 9] ++ refH [13, 4, 9]) ++ stH) (.string S2) ((lookH [13, 4, 9] ++ refH [13, 4, 9]) ++ stH),
      AEq Try.prog 14 [] ((lookH [13, 4, 9] ++ refH [13, 4, 9]) ++ stH) (slW (0 + ((lookH [13, 4, 9] ++ refH [13, 4, 9]) ++ stH).length) 14) (((lookH [13, 4, 9] ++ refH [13, 4, 9]) ++ stH) ++ acH),
      AEq Try.prog 11 [slW (0 + ((lookH [13, 4, 9] ++ refH [13, 4, 9]) ++ stH).length) 14, .int .i64 a] (((lookH [13, 4, 9] ++ refH [13, 4, 9]) ++ stH) ++ acH) (.string S2) (((lookH [13, 4, 9] ++ refH [13, 4, 9]) ++ stH) ++ acH),
      Value.bool (S2.toList == S2.toList) = .bool true,
      AEq Try.prog 7 [.int .i64 s] (((lookH [13, 4, 9] ++ refH [13, 4, 9]) ++ stH) ++ acH) (.bool true) (((lookH [13, 4, 9] ++ refH [13, 4, 9]) ++ stH) ++ acH),
      Value.bool (decide (s ≥ 0)) = .bool true,
      Value.bool (decide (s ≤ 4)) = .bool true], .bool true, (((lookH [13, 4, 9] ++ refH [13, 4, 9]) ++ stH) ++ acH), []) := by kernel_rfl
theorem looks_19 {s k : Int} {m : Bool} (a : Int) (h0 : 0 ≤ s) (h1 : s ≤ 4) (hl : LookIs s k m [13, 4, 9] 3) (hr : RefIs s k m [13, 4, 9] 3) : ∃ h', AEq Try.prog 5 [.int .i64 s, .int .i64 k, .int .i64 a, .bool m] [] (.bool true) h' := by
  obtain ⟨S1, h10, h11⟩ := st_any s
  obtain ⟨S2, h13, h14⟩ := ac_any a
  exact ⟨_, evFn_sound (looks_19_run s k a m S1 S2) ⟨hl [], hr (lookH [13, 4, 9]), aw8 _, h10 _, words_eq _, st_at h11 _, same S1, h13 _, actw_eq _, ac_at h14 _, same S2, may_in h0 h1 _, db (by omega), db (by omega), trivial⟩⟩
theorem outa_run (s k a : Int) (m : Bool) (S1 S2 : ByteArray) : evFn Try.prog 400 5 [.int .i64 s, .int .i64 k, .int .i64 a, .bool m] [] [.call (outV s) [], .call (outV s) [], .is 30 (.bool false), .call (.bool true) [], .call (.string S1) [], .call (slW (0 + ([] : AHeap).length) 5) ([] ++ stH), .call (.string S1) ([] ++ stH), .is 60 (.bool true), .call (.string S2) ([] ++ stH), .call (slW (0 + ([] ++ stH).length) 14) (([] ++ stH) ++ acH), .call (.string S2) (([] ++ stH) ++ acH), .is 68 (.bool true), .call (.bool true) (([] ++ stH) ++ acH), .is 74 (.bool true), .is 77 (.bool true)] =
    some ([AEq Try.prog 6 [.int .i64 s, .int .i64 k, .bool m] [] (outV s) [],
      AEq Try.prog 9 [.int .i64 s, .int .i64 k, .bool m] [] (outV s) [],
      Value.bool (s != s) = .bool false,
      AEq Try.prog 8 [] [] (.bool true) [],
      AEq Try.prog 10 [.int .i64 s] [] (.string S1) [],
      AEq Try.prog 12 [] [] (slW (0 + ([] : AHeap).length) 5) ([] ++ stH),
      AEq Try.prog 11 [slW (0 + ([] : AHeap).length) 5, .int .i64 s] ([] ++ stH) (.string S1) ([] ++ stH),
      Value.bool (S1.toList == S1.toList) = .bool true,
      AEq Try.prog 13 [.int .i64 a] ([] ++ stH) (.string S2) ([] ++ stH),
      AEq Try.prog 14 [] ([] ++ stH) (slW (0 + ([] ++ stH).length) 14) (([] ++ stH) ++ acH),
      AEq Try.prog 11 [slW (0 + ([] ++ stH).length) 14, .int .i64 a] (([] ++ stH) ++ acH) (.string S2) (([] ++ stH) ++ acH),
      Value.bool (S2.toList == S2.toList) = .bool true,
      AEq Try.prog 7 [.int .i64 s] (([] ++ stH) ++ acH) (.bool true) (([] ++ stH) ++ acH),
      Value.bool (decide (s ≥ 0)) = .bool true,
      Value.bool (decide (s ≤ 4)) = .bool true], .bool true, (([] ++ stH) ++ acH), []) := by kernel_rfl
theorem outa {s k : Int} {m : Bool} (a : Int) (h1 : 0 ≤ s ∧ s ≤ 4) (h0 : (s < 0 ∨ s > 4) ∨ ((0 ≤ s ∧ s ≤ 4) ∧ (k < 0 ∨ k > 13))) : ∃ h', AEq Try.prog 5 [.int .i64 s, .int .i64 k, .int .i64 a, .bool m] [] (.bool true) h' := by
  obtain ⟨S1, h10, h11⟩ := st_any s
  obtain ⟨S2, h13, h14⟩ := ac_any a
  exact ⟨_, evFn_sound (outa_run s k a m S1 S2) ⟨look_out h0 [], ref_out h0 [], by simp, aw8 _, h10 _, words_eq _, st_at h11 _, same S1, h13 _, actw_eq _, ac_at h14 _, same S2, may_in h1.1 h1.2 _, db (by omega), db (by omega), trivial⟩⟩
theorem outb_run (s k a : Int) (m : Bool) (S1 S2 : ByteArray) : evFn Try.prog 400 5 [.int .i64 s, .int .i64 k, .int .i64 a, .bool m] [] [.call (outV s) [], .call (outV s) [], .is 30 (.bool false), .call (.bool true) [], .call (.string S1) [], .call (slW (0 + ([] : AHeap).length) 5) ([] ++ stH), .call (.string S1) ([] ++ stH), .is 60 (.bool true), .call (.string S2) ([] ++ stH), .call (slW (0 + ([] ++ stH).length) 14) (([] ++ stH) ++ acH), .call (.string S2) (([] ++ stH) ++ acH), .is 68 (.bool true), .call (.bool false) (([] ++ stH) ++ acH), .is 74 (.bool false)] =
    some ([AEq Try.prog 6 [.int .i64 s, .int .i64 k, .bool m] [] (outV s) [],
      AEq Try.prog 9 [.int .i64 s, .int .i64 k, .bool m] [] (outV s) [],
      Value.bool (s != s) = .bool false,
      AEq Try.prog 8 [] [] (.bool true) [],
      AEq Try.prog 10 [.int .i64 s] [] (.string S1) [],
      AEq Try.prog 12 [] [] (slW (0 + ([] : AHeap).length) 5) ([] ++ stH),
      AEq Try.prog 11 [slW (0 + ([] : AHeap).length) 5, .int .i64 s] ([] ++ stH) (.string S1) ([] ++ stH),
      Value.bool (S1.toList == S1.toList) = .bool true,
      AEq Try.prog 13 [.int .i64 a] ([] ++ stH) (.string S2) ([] ++ stH),
      AEq Try.prog 14 [] ([] ++ stH) (slW (0 + ([] ++ stH).length) 14) (([] ++ stH) ++ acH),
      AEq Try.prog 11 [slW (0 + ([] ++ stH).length) 14, .int .i64 a] (([] ++ stH) ++ acH) (.string S2) (([] ++ stH) ++ acH),
      Value.bool (S2.toList == S2.toList) = .bool true,
      AEq Try.prog 7 [.int .i64 s] (([] ++ stH) ++ acH) (.bool false) (([] ++ stH) ++ acH),
      Value.bool (decide (s ≥ 0)) = .bool false], .bool true, (([] ++ stH) ++ acH), []) := by kernel_rfl
theorem outb {s k : Int} {m : Bool} (a : Int) (h1 : s < 0) (h0 : (s < 0 ∨ s > 4) ∨ ((0 ≤ s ∧ s ≤ 4) ∧ (k < 0 ∨ k > 13))) : ∃ h', AEq Try.prog 5 [.int .i64 s, .int .i64 k, .int .i64 a, .bool m] [] (.bool true) h' := by
  obtain ⟨S1, h10, h11⟩ := st_any s
  obtain ⟨S2, h13, h14⟩ := ac_any a
  exact ⟨_, evFn_sound (outb_run s k a m S1 S2) ⟨look_out h0 [], ref_out h0 [], by simp, aw8 _, h10 _, words_eq _, st_at h11 _, same S1, h13 _, actw_eq _, ac_at h14 _, same S2, may_neg h1 _, dn (by omega), trivial⟩⟩
theorem outc_run (s k a : Int) (m : Bool) (S1 S2 : ByteArray) : evFn Try.prog 400 5 [.int .i64 s, .int .i64 k, .int .i64 a, .bool m] [] [.call (outV s) [], .call (outV s) [], .is 30 (.bool false), .call (.bool true) [], .call (.string S1) [], .call (slW (0 + ([] : AHeap).length) 5) ([] ++ stH), .call (.string S1) ([] ++ stH), .is 60 (.bool true), .call (.string S2) ([] ++ stH), .call (slW (0 + ([] ++ stH).length) 14) (([] ++ stH) ++ acH), .call (.string S2) (([] ++ stH) ++ acH), .is 68 (.bool true), .call (.bool false) (([] ++ stH) ++ acH), .is 74 (.bool true), .is 77 (.bool false)] =
    some ([AEq Try.prog 6 [.int .i64 s, .int .i64 k, .bool m] [] (outV s) [],
      AEq Try.prog 9 [.int .i64 s, .int .i64 k, .bool m] [] (outV s) [],
      Value.bool (s != s) = .bool false,
      AEq Try.prog 8 [] [] (.bool true) [],
      AEq Try.prog 10 [.int .i64 s] [] (.string S1) [],
      AEq Try.prog 12 [] [] (slW (0 + ([] : AHeap).length) 5) ([] ++ stH),
      AEq Try.prog 11 [slW (0 + ([] : AHeap).length) 5, .int .i64 s] ([] ++ stH) (.string S1) ([] ++ stH),
      Value.bool (S1.toList == S1.toList) = .bool true,
      AEq Try.prog 13 [.int .i64 a] ([] ++ stH) (.string S2) ([] ++ stH),
      AEq Try.prog 14 [] ([] ++ stH) (slW (0 + ([] ++ stH).length) 14) (([] ++ stH) ++ acH),
      AEq Try.prog 11 [slW (0 + ([] ++ stH).length) 14, .int .i64 a] (([] ++ stH) ++ acH) (.string S2) (([] ++ stH) ++ acH),
      Value.bool (S2.toList == S2.toList) = .bool true,
      AEq Try.prog 7 [.int .i64 s] (([] ++ stH) ++ acH) (.bool false) (([] ++ stH) ++ acH),
      Value.bool (decide (s ≥ 0)) = .bool true,
      Value.bool (decide (s ≤ 4)) = .bool false], .bool true, (([] ++ stH) ++ acH), []) := by kernel_rfl
theorem outc {s k : Int} {m : Bool} (a : Int) (h1 : s > 4) (h0 : (s < 0 ∨ s > 4) ∨ ((0 ≤ s ∧ s ≤ 4) ∧ (k < 0 ∨ k > 13))) : ∃ h', AEq Try.prog 5 [.int .i64 s, .int .i64 k, .int .i64 a, .bool m] [] (.bool true) h' := by
  obtain ⟨S1, h10, h11⟩ := st_any s
  obtain ⟨S2, h13, h14⟩ := ac_any a
  exact ⟨_, evFn_sound (outc_run s k a m S1 S2) ⟨look_out h0 [], ref_out h0 [], by simp, aw8 _, h10 _, words_eq _, st_at h11 _, same S1, h13 _, actw_eq _, ac_at h14 _, same S2, may_big h1 _, db (by omega), dn (by omega), trivial⟩⟩

theorem looks_all (s k a : Int) (m : Bool) : ∃ h', AEq Try.prog 5 [.int .i64 s, .int .i64 k, .int .i64 a, .bool m] [] (.bool true) h' := by
  by_cases hs : s < 0
  · exact outb a hs (.inl (.inl hs))
  by_cases ht : s > 4
  · exact outc a ht (.inl (.inr ht))
  by_cases hk : k < 0 ∨ k > 13
  · exact outa a (by omega) (.inr ⟨by omega, hk⟩)
  have h1 : s = 0 ∨ s = 1 ∨ s = 2 ∨ s = 3 ∨ s = 4 := by omega
  have h2 : k = 0 ∨ k = 1 ∨ k = 2 ∨ k = 3 ∨ k = 4 ∨ k = 5 ∨ k = 6 ∨ k = 7 ∨ k = 8 ∨ k = 9 ∨ k = 10 ∨ k = 11 ∨ k = 12 ∨ k = 13 := by omega
  rcases h1 with rfl | rfl | rfl | rfl | rfl <;> rcases h2 with rfl | rfl | rfl | rfl | rfl | rfl | rfl | rfl | rfl | rfl | rfl | rfl | rfl | rfl <;> cases m
  · exact looks_0 a (by omega) (by omega) look_0_0_0 ref_0_0_0
  · exact looks_0 a (by omega) (by omega) look_0_0_1 ref_0_0_1
  · exact looks_5 a (by omega) (by omega) look_0_1_0 ref_0_1_0
  · exact looks_5 a (by omega) (by omega) look_0_1_1 ref_0_1_1
  · exact looks_19 a (by omega) (by omega) look_0_2_0 ref_0_2_0
  · exact looks_19 a (by omega) (by omega) look_0_2_1 ref_0_2_1
  · exact looks_6 a (by omega) (by omega) look_0_3_0 ref_0_3_0
  · exact looks_6 a (by omega) (by omega) look_0_3_1 ref_0_3_1
  · exact looks_0 a (by omega) (by omega) look_0_4_0 ref_0_4_0
  · exact looks_0 a (by omega) (by omega) look_0_4_1 ref_0_4_1
  · exact looks_9 a (by omega) (by omega) look_0_5_0 ref_0_5_0
  · exact looks_9 a (by omega) (by omega) look_0_5_1 ref_0_5_1
  · exact looks_10 a (by omega) (by omega) look_0_6_0 ref_0_6_0
  · exact looks_10 a (by omega) (by omega) look_0_6_1 ref_0_6_1
  · exact looks_7 a (by omega) (by omega) look_0_7_0 ref_0_7_0
  · exact looks_7 a (by omega) (by omega) look_0_7_1 ref_0_7_1
  · exact looks_0 a (by omega) (by omega) look_0_8_0 ref_0_8_0
  · exact looks_0 a (by omega) (by omega) look_0_8_1 ref_0_8_1
  · exact looks_0 a (by omega) (by omega) look_0_9_0 ref_0_9_0
  · exact looks_0 a (by omega) (by omega) look_0_9_1 ref_0_9_1
  · exact looks_0 a (by omega) (by omega) look_0_10_0 ref_0_10_0
  · exact looks_0 a (by omega) (by omega) look_0_10_1 ref_0_10_1
  · exact looks_0 a (by omega) (by omega) look_0_11_0 ref_0_11_0
  · exact looks_0 a (by omega) (by omega) look_0_11_1 ref_0_11_1
  · exact looks_16 a (by omega) (by omega) look_0_12_0 ref_0_12_0
  · exact looks_0 a (by omega) (by omega) look_0_12_1 ref_0_12_1
  · exact looks_17 a (by omega) (by omega) look_0_13_0 ref_0_13_0
  · exact looks_17 a (by omega) (by omega) look_0_13_1 ref_0_13_1
  · exact looks_1 a (by omega) (by omega) look_1_0_0 ref_1_0_0
  · exact looks_1 a (by omega) (by omega) look_1_0_1 ref_1_0_1
  · exact looks_5 a (by omega) (by omega) look_1_1_0 ref_1_1_0
  · exact looks_5 a (by omega) (by omega) look_1_1_1 ref_1_1_1
  · exact looks_19 a (by omega) (by omega) look_1_2_0 ref_1_2_0
  · exact looks_19 a (by omega) (by omega) look_1_2_1 ref_1_2_1
  · exact looks_6 a (by omega) (by omega) look_1_3_0 ref_1_3_0
  · exact looks_6 a (by omega) (by omega) look_1_3_1 ref_1_3_1
  · exact looks_11 a (by omega) (by omega) look_1_4_0 ref_1_4_0
  · exact looks_11 a (by omega) (by omega) look_1_4_1 ref_1_4_1
  · exact looks_9 a (by omega) (by omega) look_1_5_0 ref_1_5_0
  · exact looks_9 a (by omega) (by omega) look_1_5_1 ref_1_5_1
  · exact looks_1 a (by omega) (by omega) look_1_6_0 ref_1_6_0
  · exact looks_1 a (by omega) (by omega) look_1_6_1 ref_1_6_1
  · exact looks_1 a (by omega) (by omega) look_1_7_0 ref_1_7_0
  · exact looks_1 a (by omega) (by omega) look_1_7_1 ref_1_7_1
  · exact looks_1 a (by omega) (by omega) look_1_8_0 ref_1_8_0
  · exact looks_1 a (by omega) (by omega) look_1_8_1 ref_1_8_1
  · exact looks_1 a (by omega) (by omega) look_1_9_0 ref_1_9_0
  · exact looks_1 a (by omega) (by omega) look_1_9_1 ref_1_9_1
  · exact looks_1 a (by omega) (by omega) look_1_10_0 ref_1_10_0
  · exact looks_1 a (by omega) (by omega) look_1_10_1 ref_1_10_1
  · exact looks_1 a (by omega) (by omega) look_1_11_0 ref_1_11_0
  · exact looks_1 a (by omega) (by omega) look_1_11_1 ref_1_11_1
  · exact looks_16 a (by omega) (by omega) look_1_12_0 ref_1_12_0
  · exact looks_1 a (by omega) (by omega) look_1_12_1 ref_1_12_1
  · exact looks_13 a (by omega) (by omega) look_1_13_0 ref_1_13_0
  · exact looks_13 a (by omega) (by omega) look_1_13_1 ref_1_13_1
  · exact looks_2 a (by omega) (by omega) look_2_0_0 ref_2_0_0
  · exact looks_12 a (by omega) (by omega) look_2_0_1 ref_2_0_1
  · exact looks_5 a (by omega) (by omega) look_2_1_0 ref_2_1_0
  · exact looks_5 a (by omega) (by omega) look_2_1_1 ref_2_1_1
  · exact looks_19 a (by omega) (by omega) look_2_2_0 ref_2_2_0
  · exact looks_19 a (by omega) (by omega) look_2_2_1 ref_2_2_1
  · exact looks_6 a (by omega) (by omega) look_2_3_0 ref_2_3_0
  · exact looks_6 a (by omega) (by omega) look_2_3_1 ref_2_3_1
  · exact looks_2 a (by omega) (by omega) look_2_4_0 ref_2_4_0
  · exact looks_2 a (by omega) (by omega) look_2_4_1 ref_2_4_1
  · exact looks_9 a (by omega) (by omega) look_2_5_0 ref_2_5_0
  · exact looks_9 a (by omega) (by omega) look_2_5_1 ref_2_5_1
  · exact looks_8 a (by omega) (by omega) look_2_6_0 ref_2_6_0
  · exact looks_12 a (by omega) (by omega) look_2_6_1 ref_2_6_1
  · exact looks_2 a (by omega) (by omega) look_2_7_0 ref_2_7_0
  · exact looks_2 a (by omega) (by omega) look_2_7_1 ref_2_7_1
  · exact looks_2 a (by omega) (by omega) look_2_8_0 ref_2_8_0
  · exact looks_2 a (by omega) (by omega) look_2_8_1 ref_2_8_1
  · exact looks_2 a (by omega) (by omega) look_2_9_0 ref_2_9_0
  · exact looks_2 a (by omega) (by omega) look_2_9_1 ref_2_9_1
  · exact looks_2 a (by omega) (by omega) look_2_10_0 ref_2_10_0
  · exact looks_2 a (by omega) (by omega) look_2_10_1 ref_2_10_1
  · exact looks_2 a (by omega) (by omega) look_2_11_0 ref_2_11_0
  · exact looks_2 a (by omega) (by omega) look_2_11_1 ref_2_11_1
  · exact looks_16 a (by omega) (by omega) look_2_12_0 ref_2_12_0
  · exact looks_2 a (by omega) (by omega) look_2_12_1 ref_2_12_1
  · exact looks_14 a (by omega) (by omega) look_2_13_0 ref_2_13_0
  · exact looks_2 a (by omega) (by omega) look_2_13_1 ref_2_13_1
  · exact looks_3 a (by omega) (by omega) look_3_0_0 ref_3_0_0
  · exact looks_12 a (by omega) (by omega) look_3_0_1 ref_3_0_1
  · exact looks_5 a (by omega) (by omega) look_3_1_0 ref_3_1_0
  · exact looks_5 a (by omega) (by omega) look_3_1_1 ref_3_1_1
  · exact looks_3 a (by omega) (by omega) look_3_2_0 ref_3_2_0
  · exact looks_3 a (by omega) (by omega) look_3_2_1 ref_3_2_1
  · exact looks_3 a (by omega) (by omega) look_3_3_0 ref_3_3_0
  · exact looks_3 a (by omega) (by omega) look_3_3_1 ref_3_3_1
  · exact looks_3 a (by omega) (by omega) look_3_4_0 ref_3_4_0
  · exact looks_3 a (by omega) (by omega) look_3_4_1 ref_3_4_1
  · exact looks_3 a (by omega) (by omega) look_3_5_0 ref_3_5_0
  · exact looks_3 a (by omega) (by omega) look_3_5_1 ref_3_5_1
  · exact looks_3 a (by omega) (by omega) look_3_6_0 ref_3_6_0
  · exact looks_3 a (by omega) (by omega) look_3_6_1 ref_3_6_1
  · exact looks_3 a (by omega) (by omega) look_3_7_0 ref_3_7_0
  · exact looks_3 a (by omega) (by omega) look_3_7_1 ref_3_7_1
  · exact looks_3 a (by omega) (by omega) look_3_8_0 ref_3_8_0
  · exact looks_3 a (by omega) (by omega) look_3_8_1 ref_3_8_1
  · exact looks_3 a (by omega) (by omega) look_3_9_0 ref_3_9_0
  · exact looks_3 a (by omega) (by omega) look_3_9_1 ref_3_9_1
  · exact looks_3 a (by omega) (by omega) look_3_10_0 ref_3_10_0
  · exact looks_3 a (by omega) (by omega) look_3_10_1 ref_3_10_1
  · exact looks_3 a (by omega) (by omega) look_3_11_0 ref_3_11_0
  · exact looks_3 a (by omega) (by omega) look_3_11_1 ref_3_11_1
  · exact looks_16 a (by omega) (by omega) look_3_12_0 ref_3_12_0
  · exact looks_3 a (by omega) (by omega) look_3_12_1 ref_3_12_1
  · exact looks_14 a (by omega) (by omega) look_3_13_0 ref_3_13_0
  · exact looks_3 a (by omega) (by omega) look_3_13_1 ref_3_13_1
  · exact looks_15 a (by omega) (by omega) look_4_0_0 ref_4_0_0
  · exact looks_15 a (by omega) (by omega) look_4_0_1 ref_4_0_1
  · exact looks_5 a (by omega) (by omega) look_4_1_0 ref_4_1_0
  · exact looks_5 a (by omega) (by omega) look_4_1_1 ref_4_1_1
  · exact looks_19 a (by omega) (by omega) look_4_2_0 ref_4_2_0
  · exact looks_19 a (by omega) (by omega) look_4_2_1 ref_4_2_1
  · exact looks_6 a (by omega) (by omega) look_4_3_0 ref_4_3_0
  · exact looks_6 a (by omega) (by omega) look_4_3_1 ref_4_3_1
  · exact looks_4 a (by omega) (by omega) look_4_4_0 ref_4_4_0
  · exact looks_4 a (by omega) (by omega) look_4_4_1 ref_4_4_1
  · exact looks_9 a (by omega) (by omega) look_4_5_0 ref_4_5_0
  · exact looks_9 a (by omega) (by omega) look_4_5_1 ref_4_5_1
  · exact looks_10 a (by omega) (by omega) look_4_6_0 ref_4_6_0
  · exact looks_10 a (by omega) (by omega) look_4_6_1 ref_4_6_1
  · exact looks_7 a (by omega) (by omega) look_4_7_0 ref_4_7_0
  · exact looks_7 a (by omega) (by omega) look_4_7_1 ref_4_7_1
  · exact looks_15 a (by omega) (by omega) look_4_8_0 ref_4_8_0
  · exact looks_15 a (by omega) (by omega) look_4_8_1 ref_4_8_1
  · exact looks_4 a (by omega) (by omega) look_4_9_0 ref_4_9_0
  · exact looks_4 a (by omega) (by omega) look_4_9_1 ref_4_9_1
  · exact looks_15 a (by omega) (by omega) look_4_10_0 ref_4_10_0
  · exact looks_15 a (by omega) (by omega) look_4_10_1 ref_4_10_1
  · exact looks_4 a (by omega) (by omega) look_4_11_0 ref_4_11_0
  · exact looks_4 a (by omega) (by omega) look_4_11_1 ref_4_11_1
  · exact looks_16 a (by omega) (by omega) look_4_12_0 ref_4_12_0
  · exact looks_4 a (by omega) (by omega) look_4_12_1 ref_4_12_1
  · exact looks_18 a (by omega) (by omega) look_4_13_0 ref_4_13_0
  · exact looks_18 a (by omega) (by omega) look_4_13_1 ref_4_13_1

end Go.Proofs.Chart
