/- The law 'ChartStays', run. -/
import Derived.Test.YtmcepaeialgipaaCx13E
namespace Go.Proofs.Chart
open Go Go.AX Go.Proofs

def combos : List (List Nat × Nat) := [([], 0), ([], 1), ([], 2), ([], 3), ([], 4), ([0, 9], 3), ([1, 9], 1), ([2, 9], 2), ([3, 4], 2), ([3, 4, 9], 1), ([3, 4, 9], 2), ([5, 6, 7], 4), ([5, 6, 8], 4), ([7], 4), ([8], 4), ([10, 9], 0), ([11], 0), ([12], 0), ([12], 4), ([13, 4, 9], 3)]

theorem fives {s : Int} (h : 0 ≤ s) : s.tmod 5 = 0 ∨ s.tmod 5 = 1 ∨ s.tmod 5 = 2 ∨ s.tmod 5 = 3 ∨ s.tmod 5 = 4 := by
  rw [Int.tmod_eq_emod_of_nonneg h]; omega
theorem fourteens {k : Int} (h : 0 ≤ k) : k.tmod 14 = 0 ∨ k.tmod 14 = 1 ∨ k.tmod 14 = 2 ∨ k.tmod 14 = 3 ∨ k.tmod 14 = 4 ∨ k.tmod 14 = 5 ∨ k.tmod 14 = 6 ∨ k.tmod 14 = 7 ∨ k.tmod 14 = 8 ∨ k.tmod 14 = 9 ∨ k.tmod 14 = 10 ∨ k.tmod 14 = 11 ∨ k.tmod 14 = 12 ∨ k.tmod 14 = 13 := by
  rw [Int.tmod_eq_emod_of_nonneg h]; omega

set_option maxHeartbeats 4000000 in
theorem look_any {s k : Int} (hs : 0 ≤ s) (hk : 0 ≤ k) (m : Bool) : ∃ L nx, (L, nx) ∈ combos ∧ LookIs (IntKind.wrap .i64 (s.tmod 5)) (IntKind.wrap .i64 (k.tmod 14)) m L nx := by
  rcases fives hs with h | h | h | h | h <;> rw [h] <;> rcases fourteens hk with h | h | h | h | h | h | h | h | h | h | h | h | h | h <;> rw [h] <;> cases m
  · exact ⟨_, _, by decide, look_0_0_0⟩
  · exact ⟨_, _, by decide, look_0_0_1⟩
  · exact ⟨_, _, by decide, look_0_1_0⟩
  · exact ⟨_, _, by decide, look_0_1_1⟩
  · exact ⟨_, _, by decide, look_0_2_0⟩
  · exact ⟨_, _, by decide, look_0_2_1⟩
  · exact ⟨_, _, by decide, look_0_3_0⟩
  · exact ⟨_, _, by decide, look_0_3_1⟩
  · exact ⟨_, _, by decide, look_0_4_0⟩
  · exact ⟨_, _, by decide, look_0_4_1⟩
  · exact ⟨_, _, by decide, look_0_5_0⟩
  · exact ⟨_, _, by decide, look_0_5_1⟩
  · exact ⟨_, _, by decide, look_0_6_0⟩
  · exact ⟨_, _, by decide, look_0_6_1⟩
  · exact ⟨_, _, by decide, look_0_7_0⟩
  · exact ⟨_, _, by decide, look_0_7_1⟩
  · exact ⟨_, _, by decide, look_0_8_0⟩
  · exact ⟨_, _, by decide, look_0_8_1⟩
  · exact ⟨_, _, by decide, look_0_9_0⟩
  · exact ⟨_, _, by decide, look_0_9_1⟩
  · exact ⟨_, _, by decide, look_0_10_0⟩
  · exact ⟨_, _, by decide, look_0_10_1⟩
  · exact ⟨_, _, by decide, look_0_11_0⟩
  · exact ⟨_, _, by decide, look_0_11_1⟩
  · exact ⟨_, _, by decide, look_0_12_0⟩
  · exact ⟨_, _, by decide, look_0_12_1⟩
  · exact ⟨_, _, by decide, look_0_13_0⟩
  · exact ⟨_, _, by decide, look_0_13_1⟩
  · exact ⟨_, _, by decide, look_1_0_0⟩
  · exact ⟨_, _, by decide, look_1_0_1⟩
  · exact ⟨_, _, by decide, look_1_1_0⟩
  · exact ⟨_, _, by decide, look_1_1_1⟩
  · exact ⟨_, _, by decide, look_1_2_0⟩
  · exact ⟨_, _, by decide, look_1_2_1⟩
  · exact ⟨_, _, by decide, look_1_3_0⟩
  · exact ⟨_, _, by decide, look_1_3_1⟩
  · exact ⟨_, _, by decide, look_1_4_0⟩
  · exact ⟨_, _, by decide, look_1_4_1⟩
  · exact ⟨_, _, by decide, look_1_5_0⟩
  · exact ⟨_, _, by decide, look_1_5_1⟩
  · exact ⟨_, _, by decide, look_1_6_0⟩
  · exact ⟨_, _, by decide, look_1_6_1⟩
  · exact ⟨_, _, by decide, look_1_7_0⟩
  · exact ⟨_, _, by decide, look_1_7_1⟩
  · exact ⟨_, _, by decide, look_1_8_0⟩
  · exact ⟨_, _, by decide, look_1_8_1⟩
  · exact ⟨_, _, by decide, look_1_9_0⟩
  · exact ⟨_, _, by decide, look_1_9_1⟩
  · exact ⟨_, _, by decide, look_1_10_0⟩
  · exact ⟨_, _, by decide, look_1_10_1⟩
  · exact ⟨_, _, by decide, look_1_11_0⟩
  · exact ⟨_, _, by decide, look_1_11_1⟩
  · exact ⟨_, _, by decide, look_1_12_0⟩
  · exact ⟨_, _, by decide, look_1_12_1⟩
  · exact ⟨_, _, by decide, look_1_13_0⟩
  · exact ⟨_, _, by decide, look_1_13_1⟩
  · exact ⟨_, _, by decide, look_2_0_0⟩
  · exact ⟨_, _, by decide, look_2_0_1⟩
  · exact ⟨_, _, by decide, look_2_1_0⟩
  · exact ⟨_, _, by decide, look_2_1_1⟩
  · exact ⟨_, _, by decide, look_2_2_0⟩
  · exact ⟨_, _, by decide, look_2_2_1⟩
  · exact ⟨_, _, by decide, look_2_3_0⟩
  · exact ⟨_, _, by decide, look_2_3_1⟩
  · exact ⟨_, _, by decide, look_2_4_0⟩
  · exact ⟨_, _, by decide, look_2_4_1⟩
  · exact ⟨_, _, by decide, look_2_5_0⟩
  · exact ⟨_, _, by decide, look_2_5_1⟩
  · exact ⟨_, _, by decide, look_2_6_0⟩
  · exact ⟨_, _, by decide, look_2_6_1⟩
  · exact ⟨_, _, by decide, look_2_7_0⟩
  · exact ⟨_, _, by decide, look_2_7_1⟩
  · exact ⟨_, _, by decide, look_2_8_0⟩
  · exact ⟨_, _, by decide, look_2_8_1⟩
  · exact ⟨_, _, by decide, look_2_9_0⟩
  · exact ⟨_, _, by decide, look_2_9_1⟩
  · exact ⟨_, _, by decide, look_2_10_0⟩
  · exact ⟨_, _, by decide, look_2_10_1⟩
  · exact ⟨_, _, by decide, look_2_11_0⟩
  · exact ⟨_, _, by decide, look_2_11_1⟩
  · exact ⟨_, _, by decide, look_2_12_0⟩
  · exact ⟨_, _, by decide, look_2_12_1⟩
  · exact ⟨_, _, by decide, look_2_13_0⟩
  · exact ⟨_, _, by decide, look_2_13_1⟩
  · exact ⟨_, _, by decide, look_3_0_0⟩
  · exact ⟨_, _, by decide, look_3_0_1⟩
  · exact ⟨_, _, by decide, look_3_1_0⟩
  · exact ⟨_, _, by decide, look_3_1_1⟩
  · exact ⟨_, _, by decide, look_3_2_0⟩
  · exact ⟨_, _, by decide, look_3_2_1⟩
  · exact ⟨_, _, by decide, look_3_3_0⟩
  · exact ⟨_, _, by decide, look_3_3_1⟩
  · exact ⟨_, _, by decide, look_3_4_0⟩
  · exact ⟨_, _, by decide, look_3_4_1⟩
  · exact ⟨_, _, by decide, look_3_5_0⟩
  · exact ⟨_, _, by decide, look_3_5_1⟩
  · exact ⟨_, _, by decide, look_3_6_0⟩
  · exact ⟨_, _, by decide, look_3_6_1⟩
  · exact ⟨_, _, by decide, look_3_7_0⟩
  · exact ⟨_, _, by decide, look_3_7_1⟩
  · exact ⟨_, _, by decide, look_3_8_0⟩
  · exact ⟨_, _, by decide, look_3_8_1⟩
  · exact ⟨_, _, by decide, look_3_9_0⟩
  · exact ⟨_, _, by decide, look_3_9_1⟩
  · exact ⟨_, _, by decide, look_3_10_0⟩
  · exact ⟨_, _, by decide, look_3_10_1⟩
  · exact ⟨_, _, by decide, look_3_11_0⟩
  · exact ⟨_, _, by decide, look_3_11_1⟩
  · exact ⟨_, _, by decide, look_3_12_0⟩
  · exact ⟨_, _, by decide, look_3_12_1⟩
  · exact ⟨_, _, by decide, look_3_13_0⟩
  · exact ⟨_, _, by decide, look_3_13_1⟩
  · exact ⟨_, _, by decide, look_4_0_0⟩
  · exact ⟨_, _, by decide, look_4_0_1⟩
  · exact ⟨_, _, by decide, look_4_1_0⟩
  · exact ⟨_, _, by decide, look_4_1_1⟩
  · exact ⟨_, _, by decide, look_4_2_0⟩
  · exact ⟨_, _, by decide, look_4_2_1⟩
  · exact ⟨_, _, by decide, look_4_3_0⟩
  · exact ⟨_, _, by decide, look_4_3_1⟩
  · exact ⟨_, _, by decide, look_4_4_0⟩
  · exact ⟨_, _, by decide, look_4_4_1⟩
  · exact ⟨_, _, by decide, look_4_5_0⟩
  · exact ⟨_, _, by decide, look_4_5_1⟩
  · exact ⟨_, _, by decide, look_4_6_0⟩
  · exact ⟨_, _, by decide, look_4_6_1⟩
  · exact ⟨_, _, by decide, look_4_7_0⟩
  · exact ⟨_, _, by decide, look_4_7_1⟩
  · exact ⟨_, _, by decide, look_4_8_0⟩
  · exact ⟨_, _, by decide, look_4_8_1⟩
  · exact ⟨_, _, by decide, look_4_9_0⟩
  · exact ⟨_, _, by decide, look_4_9_1⟩
  · exact ⟨_, _, by decide, look_4_10_0⟩
  · exact ⟨_, _, by decide, look_4_10_1⟩
  · exact ⟨_, _, by decide, look_4_11_0⟩
  · exact ⟨_, _, by decide, look_4_11_1⟩
  · exact ⟨_, _, by decide, look_4_12_0⟩
  · exact ⟨_, _, by decide, look_4_12_1⟩
  · exact ⟨_, _, by decide, look_4_13_0⟩
  · exact ⟨_, _, by decide, look_4_13_1⟩

set_option maxRecDepth 1000000 in
theorem stays_run_0 (s k : Int) (m : Bool) : evFn Try.prog 400 3 [.int .u8 s, .int .u8 k, .bool m] [] [.call (lookV [] 0 0) ([]), .call (lookV [] 0 1) ([.row [] 27 1] ++ lookH []), .inl, .call (.bool true) ([.row [] 27 1] ++ lookH [])] =
    some ([AEq Try.prog 6 [.int .i64 (IntKind.wrap .i64 (s.tmod 5)), .int .i64 (IntKind.wrap .i64 (k.tmod 14)), .bool m] [] (lookV [] 0 0) ([]),
      AEq Try.prog 6 [.int .i64 (IntKind.wrap .i64 (s.tmod 5)), .int .i64 (IntKind.wrap .i64 (k.tmod 14)), .bool m] [.row [] 27 1] (lookV [] 0 1) ([.row [] 27 1] ++ lookH []), AEq Try.prog 8 [] ([.row [] 27 1] ++ lookH []) (.bool true) ([.row [] 27 1] ++ lookH [])], .bool true, ([.row [] 27 1] ++ lookH []), []) := by kernel_rfl
theorem stays_0 {s k : Int} {m : Bool} (h : LookIs (IntKind.wrap .i64 (s.tmod 5)) (IntKind.wrap .i64 (k.tmod 14)) m [] 0) : ∃ h', AEq Try.prog 3 [.int .u8 s, .int .u8 k, .bool m] [] (.bool true) h' :=
  ⟨_, evFn_sound (stays_run_0 s k m) ⟨h [], h _, aw8 _, trivial⟩⟩

set_option maxRecDepth 1000000 in
theorem stays_run_1 (s k : Int) (m : Bool) : evFn Try.prog 400 3 [.int .u8 s, .int .u8 k, .bool m] [] [.call (lookV [] 1 0) ([]), .call (lookV [] 1 1) ([.row [] 27 1] ++ lookH []), .inl, .call (.bool true) ([.row [] 27 1] ++ lookH [])] =
    some ([AEq Try.prog 6 [.int .i64 (IntKind.wrap .i64 (s.tmod 5)), .int .i64 (IntKind.wrap .i64 (k.tmod 14)), .bool m] [] (lookV [] 1 0) ([]),
      AEq Try.prog 6 [.int .i64 (IntKind.wrap .i64 (s.tmod 5)), .int .i64 (IntKind.wrap .i64 (k.tmod 14)), .bool m] [.row [] 27 1] (lookV [] 1 1) ([.row [] 27 1] ++ lookH []), AEq Try.prog 8 [] ([.row [] 27 1] ++ lookH []) (.bool true) ([.row [] 27 1] ++ lookH [])], .bool true, ([.row [] 27 1] ++ lookH []), []) := by kernel_rfl
theorem stays_1 {s k : Int} {m : Bool} (h : LookIs (IntKind.wrap .i64 (s.tmod 5)) (IntKind.wrap .i64 (k.tmod 14)) m [] 1) : ∃ h', AEq Try.prog 3 [.int .u8 s, .int .u8 k, .bool m] [] (.bool true) h' :=
  ⟨_, evFn_sound (stays_run_1 s k m) ⟨h [], h _, aw8 _, trivial⟩⟩

set_option maxRecDepth 1000000 in
theorem stays_run_2 (s k : Int) (m : Bool) : evFn Try.prog 400 3 [.int .u8 s, .int .u8 k, .bool m] [] [.call (lookV [] 2 0) ([]), .call (lookV [] 2 1) ([.row [] 27 1] ++ lookH []), .inl, .call (.bool true) ([.row [] 27 1] ++ lookH [])] =
    some ([AEq Try.prog 6 [.int .i64 (IntKind.wrap .i64 (s.tmod 5)), .int .i64 (IntKind.wrap .i64 (k.tmod 14)), .bool m] [] (lookV [] 2 0) ([]),
      AEq Try.prog 6 [.int .i64 (IntKind.wrap .i64 (s.tmod 5)), .int .i64 (IntKind.wrap .i64 (k.tmod 14)), .bool m] [.row [] 27 1] (lookV [] 2 1) ([.row [] 27 1] ++ lookH []), AEq Try.prog 8 [] ([.row [] 27 1] ++ lookH []) (.bool true) ([.row [] 27 1] ++ lookH [])], .bool true, ([.row [] 27 1] ++ lookH []), []) := by kernel_rfl
theorem stays_2 {s k : Int} {m : Bool} (h : LookIs (IntKind.wrap .i64 (s.tmod 5)) (IntKind.wrap .i64 (k.tmod 14)) m [] 2) : ∃ h', AEq Try.prog 3 [.int .u8 s, .int .u8 k, .bool m] [] (.bool true) h' :=
  ⟨_, evFn_sound (stays_run_2 s k m) ⟨h [], h _, aw8 _, trivial⟩⟩

set_option maxRecDepth 1000000 in
theorem stays_run_3 (s k : Int) (m : Bool) : evFn Try.prog 400 3 [.int .u8 s, .int .u8 k, .bool m] [] [.call (lookV [] 3 0) ([]), .call (lookV [] 3 1) ([.row [] 27 1] ++ lookH []), .inl, .call (.bool true) ([.row [] 27 1] ++ lookH [])] =
    some ([AEq Try.prog 6 [.int .i64 (IntKind.wrap .i64 (s.tmod 5)), .int .i64 (IntKind.wrap .i64 (k.tmod 14)), .bool m] [] (lookV [] 3 0) ([]),
      AEq Try.prog 6 [.int .i64 (IntKind.wrap .i64 (s.tmod 5)), .int .i64 (IntKind.wrap .i64 (k.tmod 14)), .bool m] [.row [] 27 1] (lookV [] 3 1) ([.row [] 27 1] ++ lookH []), AEq Try.prog 8 [] ([.row [] 27 1] ++ lookH []) (.bool true) ([.row [] 27 1] ++ lookH [])], .bool true, ([.row [] 27 1] ++ lookH []), []) := by kernel_rfl
theorem stays_3 {s k : Int} {m : Bool} (h : LookIs (IntKind.wrap .i64 (s.tmod 5)) (IntKind.wrap .i64 (k.tmod 14)) m [] 3) : ∃ h', AEq Try.prog 3 [.int .u8 s, .int .u8 k, .bool m] [] (.bool true) h' :=
  ⟨_, evFn_sound (stays_run_3 s k m) ⟨h [], h _, aw8 _, trivial⟩⟩

set_option maxRecDepth 1000000 in
theorem stays_run_4 (s k : Int) (m : Bool) : evFn Try.prog 400 3 [.int .u8 s, .int .u8 k, .bool m] [] [.call (lookV [] 4 0) ([]), .call (lookV [] 4 1) ([.row [] 27 1] ++ lookH []), .inl, .call (.bool true) ([.row [] 27 1] ++ lookH [])] =
    some ([AEq Try.prog 6 [.int .i64 (IntKind.wrap .i64 (s.tmod 5)), .int .i64 (IntKind.wrap .i64 (k.tmod 14)), .bool m] [] (lookV [] 4 0) ([]),
      AEq Try.prog 6 [.int .i64 (IntKind.wrap .i64 (s.tmod 5)), .int .i64 (IntKind.wrap .i64 (k.tmod 14)), .bool m] [.row [] 27 1] (lookV [] 4 1) ([.row [] 27 1] ++ lookH []), AEq Try.prog 8 [] ([.row [] 27 1] ++ lookH []) (.bool true) ([.row [] 27 1] ++ lookH [])], .bool true, ([.row [] 27 1] ++ lookH []), []) := by kernel_rfl
theorem stays_4 {s k : Int} {m : Bool} (h : LookIs (IntKind.wrap .i64 (s.tmod 5)) (IntKind.wrap .i64 (k.tmod 14)) m [] 4) : ∃ h', AEq Try.prog 3 [.int .u8 s, .int .u8 k, .bool m] [] (.bool true) h' :=
  ⟨_, evFn_sound (stays_run_4 s k m) ⟨h [], h _, aw8 _, trivial⟩⟩

set_option maxRecDepth 1000000 in
theorem stays_run_5 (s k : Int) (m : Bool) : evFn Try.prog 400 3 [.int .u8 s, .int .u8 k, .bool m] [] [.call (lookV [0, 9] 3 0) (lookH [0, 9]), .call (lookV [0, 9] 3 2) ([.row [.int .i64 12, .int .i64 12] 27 1, .row (acts [0, 9]) 27 1] ++ lookH [0, 9]), .inl, .call (.bool true) ([.row [.int .i64 12, .int .i64 12] 27 1, .row (acts [0, 9]) 27 1] ++ lookH [0, 9])] =
    some ([AEq Try.prog 6 [.int .i64 (IntKind.wrap .i64 (s.tmod 5)), .int .i64 (IntKind.wrap .i64 (k.tmod 14)), .bool m] [] (lookV [0, 9] 3 0) (lookH [0, 9]),
      AEq Try.prog 6 [.int .i64 (IntKind.wrap .i64 (s.tmod 5)), .int .i64 (IntKind.wrap .i64 (k.tmod 14)), .bool m] [.row [.int .i64 12, .int .i64 12] 27 1, .row (acts [0, 9]) 27 1] (lookV [0, 9] 3 2) ([.row [.int .i64 12, .int .i64 12] 27 1, .row (acts [0, 9]) 27 1] ++ lookH [0, 9]), AEq Try.prog 8 [] ([.row [.int .i64 12, .int .i64 12] 27 1, .row (acts [0, 9]) 27 1] ++ lookH [0, 9]) (.bool true) ([.row [.int .i64 12, .int .i64 12] 27 1, .row (acts [0, 9]) 27 1] ++ lookH [0, 9])], .bool true, ([.row [.int .i64 12, .int .i64 12] 27 1, .row (acts [0, 9]) 27 1] ++ lookH [0, 9]), []) := by kernel_rfl
theorem stays_5 {s k : Int} {m : Bool} (h : LookIs (IntKind.wrap .i64 (s.tmod 5)) (IntKind.wrap .i64 (k.tmod 14)) m [0, 9] 3) : ∃ h', AEq Try.prog 3 [.int .u8 s, .int .u8 k, .bool m] [] (.bool true) h' :=
  ⟨_, evFn_sound (stays_run_5 s k m) ⟨h [], h _, aw8 _, trivial⟩⟩

set_option maxRecDepth 1000000 in
theorem stays_run_6 (s k : Int) (m : Bool) : evFn Try.prog 400 3 [.int .u8 s, .int .u8 k, .bool m] [] [.call (lookV [1, 9] 1 0) (lookH [1, 9]), .call (lookV [1, 9] 1 2) ([.row [.int .i64 12, .int .i64 12] 27 1, .row (acts [1, 9]) 27 1] ++ lookH [1, 9]), .inl, .call (.bool true) ([.row [.int .i64 12, .int .i64 12] 27 1, .row (acts [1, 9]) 27 1] ++ lookH [1, 9])] =
    some ([AEq Try.prog 6 [.int .i64 (IntKind.wrap .i64 (s.tmod 5)), .int .i64 (IntKind.wrap .i64 (k.tmod 14)), .bool m] [] (lookV [1, 9] 1 0) (lookH [1, 9]),
      AEq Try.prog 6 [.int .i64 (IntKind.wrap .i64 (s.tmod 5)), .int .i64 (IntKind.wrap .i64 (k.tmod 14)), .bool m] [.row [.int .i64 12, .int .i64 12] 27 1, .row (acts [1, 9]) 27 1] (lookV [1, 9] 1 2) ([.row [.int .i64 12, .int .i64 12] 27 1, .row (acts [1, 9]) 27 1] ++ lookH [1, 9]), AEq Try.prog 8 [] ([.row [.int .i64 12, .int .i64 12] 27 1, .row (acts [1, 9]) 27 1] ++ lookH [1, 9]) (.bool true) ([.row [.int .i64 12, .int .i64 12] 27 1, .row (acts [1, 9]) 27 1] ++ lookH [1, 9])], .bool true, ([.row [.int .i64 12, .int .i64 12] 27 1, .row (acts [1, 9]) 27 1] ++ lookH [1, 9]), []) := by kernel_rfl
theorem stays_6 {s k : Int} {m : Bool} (h : LookIs (IntKind.wrap .i64 (s.tmod 5)) (IntKind.wrap .i64 (k.tmod 14)) m [1, 9] 1) : ∃ h', AEq Try.prog 3 [.int .u8 s, .int .u8 k, .bool m] [] (.bool true) h' :=
  ⟨_, evFn_sound (stays_run_6 s k m) ⟨h [], h _, aw8 _, trivial⟩⟩

set_option maxRecDepth 1000000 in
theorem stays_run_7 (s k : Int) (m : Bool) : evFn Try.prog 400 3 [.int .u8 s, .int .u8 k, .bool m] [] [.call (lookV [2, 9] 2 0) (lookH [2, 9]), .call (lookV [2, 9] 2 2) ([.row [.int .i64 12, .int .i64 12] 27 1, .row (acts [2, 9]) 27 1] ++ lookH [2, 9]), .inl, .call (.bool true) ([.row [.int .i64 12, .int .i64 12] 27 1, .row (acts [2, 9]) 27 1] ++ lookH [2, 9])] =
    some ([AEq Try.prog 6 [.int .i64 (IntKind.wrap .i64 (s.tmod 5)), .int .i64 (IntKind.wrap .i64 (k.tmod 14)), .bool m] [] (lookV [2, 9] 2 0) (lookH [2, 9]),
      AEq Try.prog 6 [.int .i64 (IntKind.wrap .i64 (s.tmod 5)), .int .i64 (IntKind.wrap .i64 (k.tmod 14)), .bool m] [.row [.int .i64 12, .int .i64 12] 27 1, .row (acts [2, 9]) 27 1] (lookV [2, 9] 2 2) ([.row [.int .i64 12, .int .i64 12] 27 1, .row (acts [2, 9]) 27 1] ++ lookH [2, 9]), AEq Try.prog 8 [] ([.row [.int .i64 12, .int .i64 12] 27 1, .row (acts [2, 9]) 27 1] ++ lookH [2, 9]) (.bool true) ([.row [.int .i64 12, .int .i64 12] 27 1, .row (acts [2, 9]) 27 1] ++ lookH [2, 9])], .bool true, ([.row [.int .i64 12, .int .i64 12] 27 1, .row (acts [2, 9]) 27 1] ++ lookH [2, 9]), []) := by kernel_rfl
theorem stays_7 {s k : Int} {m : Bool} (h : LookIs (IntKind.wrap .i64 (s.tmod 5)) (IntKind.wrap .i64 (k.tmod 14)) m [2, 9] 2) : ∃ h', AEq Try.prog 3 [.int .u8 s, .int .u8 k, .bool m] [] (.bool true) h' :=
  ⟨_, evFn_sound (stays_run_7 s k m) ⟨h [], h _, aw8 _, trivial⟩⟩

set_option maxRecDepth 1000000 in
theorem stays_run_8 (s k : Int) (m : Bool) : evFn Try.prog 400 3 [.int .u8 s, .int .u8 k, .bool m] [] [.call (lookV [3, 4] 2 0) (lookH [3, 4]), .call (lookV [3, 4] 2 2) ([.row [.int .i64 12, .int .i64 12] 27 1, .row (acts [3, 4]) 27 1] ++ lookH [3, 4]), .inl, .call (.bool true) ([.row [.int .i64 12, .int .i64 12] 27 1, .row (acts [3, 4]) 27 1] ++ lookH [3, 4])] =
    some ([AEq Try.prog 6 [.int .i64 (IntKind.wrap .i64 (s.tmod 5)), .int .i64 (IntKind.wrap .i64 (k.tmod 14)), .bool m] [] (lookV [3, 4] 2 0) (lookH [3, 4]),
      AEq Try.prog 6 [.int .i64 (IntKind.wrap .i64 (s.tmod 5)), .int .i64 (IntKind.wrap .i64 (k.tmod 14)), .bool m] [.row [.int .i64 12, .int .i64 12] 27 1, .row (acts [3, 4]) 27 1] (lookV [3, 4] 2 2) ([.row [.int .i64 12, .int .i64 12] 27 1, .row (acts [3, 4]) 27 1] ++ lookH [3, 4]), AEq Try.prog 8 [] ([.row [.int .i64 12, .int .i64 12] 27 1, .row (acts [3, 4]) 27 1] ++ lookH [3, 4]) (.bool true) ([.row [.int .i64 12, .int .i64 12] 27 1, .row (acts [3, 4]) 27 1] ++ lookH [3, 4])], .bool true, ([.row [.int .i64 12, .int .i64 12] 27 1, .row (acts [3, 4]) 27 1] ++ lookH [3, 4]), []) := by kernel_rfl
theorem stays_8 {s k : Int} {m : Bool} (h : LookIs (IntKind.wrap .i64 (s.tmod 5)) (IntKind.wrap .i64 (k.tmod 14)) m [3, 4] 2) : ∃ h', AEq Try.prog 3 [.int .u8 s, .int .u8 k, .bool m] [] (.bool true) h' :=
  ⟨_, evFn_sound (stays_run_8 s k m) ⟨h [], h _, aw8 _, trivial⟩⟩

set_option maxRecDepth 1000000 in
theorem stays_run_9 (s k : Int) (m : Bool) : evFn Try.prog 400 3 [.int .u8 s, .int .u8 k, .bool m] [] [.call (lookV [3, 4, 9] 1 0) (lookH [3, 4, 9]), .call (lookV [3, 4, 9] 1 2) ([.row [.int .i64 12, .int .i64 12, .int .i64 12] 27 1, .row (acts [3, 4, 9]) 27 1] ++ lookH [3, 4, 9]), .inl, .call (.bool true) ([.row [.int .i64 12, .int .i64 12, .int .i64 12] 27 1, .row (acts [3, 4, 9]) 27 1] ++ lookH [3, 4, 9])] =
    some ([AEq Try.prog 6 [.int .i64 (IntKind.wrap .i64 (s.tmod 5)), .int .i64 (IntKind.wrap .i64 (k.tmod 14)), .bool m] [] (lookV [3, 4, 9] 1 0) (lookH [3, 4, 9]),
      AEq Try.prog 6 [.int .i64 (IntKind.wrap .i64 (s.tmod 5)), .int .i64 (IntKind.wrap .i64 (k.tmod 14)), .bool m] [.row [.int .i64 12, .int .i64 12, .int .i64 12] 27 1, .row (acts [3, 4, 9]) 27 1] (lookV [3, 4, 9] 1 2) ([.row [.int .i64 12, .int .i64 12, .int .i64 12] 27 1, .row (acts [3, 4, 9]) 27 1] ++ lookH [3, 4, 9]), AEq Try.prog 8 [] ([.row [.int .i64 12, .int .i64 12, .int .i64 12] 27 1, .row (acts [3, 4, 9]) 27 1] ++ lookH [3, 4, 9]) (.bool true) ([.row [.int .i64 12, .int .i64 12, .int .i64 12] 27 1, .row (acts [3, 4, 9]) 27 1] ++ lookH [3, 4, 9])], .bool true, ([.row [.int .i64 12, .int .i64 12, .int .i64 12] 27 1, .row (acts [3, 4, 9]) 27 1] ++ lookH [3, 4, 9]), []) := by kernel_rfl
theorem stays_9 {s k : Int} {m : Bool} (h : LookIs (IntKind.wrap .i64 (s.tmod 5)) (IntKind.wrap .i64 (k.tmod 14)) m [3, 4, 9] 1) : ∃ h', AEq Try.prog 3 [.int .u8 s, .int .u8 k, .bool m] [] (.bool true) h' :=
  ⟨_, evFn_sound (stays_run_9 s k m) ⟨h [], h _, aw8 _, trivial⟩⟩

set_option maxRecDepth 1000000 in
theorem stays_run_10 (s k : Int) (m : Bool) : evFn Try.prog 400 3 [.int .u8 s, .int .u8 k, .bool m] [] [.call (lookV [3, 4, 9] 2 0) (lookH [3, 4, 9]), .call (lookV [3, 4, 9] 2 2) ([.row [.int .i64 12, .int .i64 12, .int .i64 12] 27 1, .row (acts [3, 4, 9]) 27 1] ++ lookH [3, 4, 9]), .inl, .call (.bool true) ([.row [.int .i64 12, .int .i64 12, .int .i64 12] 27 1, .row (acts [3, 4, 9]) 27 1] ++ lookH [3, 4, 9])] =
    some ([AEq Try.prog 6 [.int .i64 (IntKind.wrap .i64 (s.tmod 5)), .int .i64 (IntKind.wrap .i64 (k.tmod 14)), .bool m] [] (lookV [3, 4, 9] 2 0) (lookH [3, 4, 9]),
      AEq Try.prog 6 [.int .i64 (IntKind.wrap .i64 (s.tmod 5)), .int .i64 (IntKind.wrap .i64 (k.tmod 14)), .bool m] [.row [.int .i64 12, .int .i64 12, .int .i64 12] 27 1, .row (acts [3, 4, 9]) 27 1] (lookV [3, 4, 9] 2 2) ([.row [.int .i64 12, .int .i64 12, .int .i64 12] 27 1, .row (acts [3, 4, 9]) 27 1] ++ lookH [3, 4, 9]), AEq Try.prog 8 [] ([.row [.int .i64 12, .int .i64 12, .int .i64 12] 27 1, .row (acts [3, 4, 9]) 27 1] ++ lookH [3, 4, 9]) (.bool true) ([.row [.int .i64 12, .int .i64 12, .int .i64 12] 27 1, .row (acts [3, 4, 9]) 27 1] ++ lookH [3, 4, 9])], .bool true, ([.row [.int .i64 12, .int .i64 12, .int .i64 12] 27 1, .row (acts [3, 4, 9]) 27 1] ++ lookH [3, 4, 9]), []) := by kernel_rfl
theorem stays_10 {s k : Int} {m : Bool} (h : LookIs (IntKind.wrap .i64 (s.tmod 5)) (IntKind.wrap .i64 (k.tmod 14)) m [3, 4, 9] 2) : ∃ h', AEq Try.prog 3 [.int .u8 s, .int .u8 k, .bool m] [] (.bool true) h' :=
  ⟨_, evFn_sound (stays_run_10 s k m) ⟨h [], h _, aw8 _, trivial⟩⟩

set_option maxRecDepth 1000000 in
theorem stays_run_11 (s k : Int) (m : Bool) : evFn Try.prog 400 3 [.int .u8 s, .int .u8 k, .bool m] [] [.call (lookV [5, 6, 7] 4 0) (lookH [5, 6, 7]), .call (lookV [5, 6, 7] 4 2) ([.row [.int .i64 12, .int .i64 12, .int .i64 12] 27 1, .row (acts [5, 6, 7]) 27 1] ++ lookH [5, 6, 7]), .inl, .call (.bool true) ([.row [.int .i64 12, .int .i64 12, .int .i64 12] 27 1, .row (acts [5, 6, 7]) 27 1] ++ lookH [5, 6, 7])] =
    some ([AEq Try.prog 6 [.int .i64 (IntKind.wrap .i64 (s.tmod 5)), .int .i64 (IntKind.wrap .i64 (k.tmod 14)), .bool m] [] (lookV [5, 6, 7] 4 0) (lookH [5, 6, 7]),
      AEq Try.prog 6 [.int .i64 (IntKind.wrap .i64 (s.tmod 5)), .int .i64 (IntKind.wrap .i64 (k.tmod 14)), .bool m] [.row [.int .i64 12, .int .i64 12, .int .i64 12] 27 1, .row (acts [5, 6, 7]) 27 1] (lookV [5, 6, 7] 4 2) ([.row [.int .i64 12, .int .i64 12, .int .i64 12] 27 1, .row (acts [5, 6, 7]) 27 1] ++ lookH [5, 6, 7]), AEq Try.prog 8 [] ([.row [.int .i64 12, .int .i64 12, .int .i64 12] 27 1, .row (acts [5, 6, 7]) 27 1] ++ lookH [5, 6, 7]) (.bool true) ([.row [.int .i64 12, .int .i64 12, .int .i64 12] 27 1, .row (acts [5, 6, 7]) 27 1] ++ lookH [5, 6, 7])], .bool true, ([.row [.int .i64 12, .int .i64 12, .int .i64 12] 27 1, .row (acts [5, 6, 7]) 27 1] ++ lookH [5, 6, 7]), []) := by kernel_rfl
theorem stays_11 {s k : Int} {m : Bool} (h : LookIs (IntKind.wrap .i64 (s.tmod 5)) (IntKind.wrap .i64 (k.tmod 14)) m [5, 6, 7] 4) : ∃ h', AEq Try.prog 3 [.int .u8 s, .int .u8 k, .bool m] [] (.bool true) h' :=
  ⟨_, evFn_sound (stays_run_11 s k m) ⟨h [], h _, aw8 _, trivial⟩⟩

set_option maxRecDepth 1000000 in
theorem stays_run_12 (s k : Int) (m : Bool) : evFn Try.prog 400 3 [.int .u8 s, .int .u8 k, .bool m] [] [.call (lookV [5, 6, 8] 4 0) (lookH [5, 6, 8]), .call (lookV [5, 6, 8] 4 2) ([.row [.int .i64 12, .int .i64 12, .int .i64 12] 27 1, .row (acts [5, 6, 8]) 27 1] ++ lookH [5, 6, 8]), .inl, .call (.bool true) ([.row [.int .i64 12, .int .i64 12, .int .i64 12] 27 1, .row (acts [5, 6, 8]) 27 1] ++ lookH [5, 6, 8])] =
    some ([AEq Try.prog 6 [.int .i64 (IntKind.wrap .i64 (s.tmod 5)), .int .i64 (IntKind.wrap .i64 (k.tmod 14)), .bool m] [] (lookV [5, 6, 8] 4 0) (lookH [5, 6, 8]),
      AEq Try.prog 6 [.int .i64 (IntKind.wrap .i64 (s.tmod 5)), .int .i64 (IntKind.wrap .i64 (k.tmod 14)), .bool m] [.row [.int .i64 12, .int .i64 12, .int .i64 12] 27 1, .row (acts [5, 6, 8]) 27 1] (lookV [5, 6, 8] 4 2) ([.row [.int .i64 12, .int .i64 12, .int .i64 12] 27 1, .row (acts [5, 6, 8]) 27 1] ++ lookH [5, 6, 8]), AEq Try.prog 8 [] ([.row [.int .i64 12, .int .i64 12, .int .i64 12] 27 1, .row (acts [5, 6, 8]) 27 1] ++ lookH [5, 6, 8]) (.bool true) ([.row [.int .i64 12, .int .i64 12, .int .i64 12] 27 1, .row (acts [5, 6, 8]) 27 1] ++ lookH [5, 6, 8])], .bool true, ([.row [.int .i64 12, .int .i64 12, .int .i64 12] 27 1, .row (acts [5, 6, 8]) 27 1] ++ lookH [5, 6, 8]), []) := by kernel_rfl
theorem stays_12 {s k : Int} {m : Bool} (h : LookIs (IntKind.wrap .i64 (s.tmod 5)) (IntKind.wrap .i64 (k.tmod 14)) m [5, 6, 8] 4) : ∃ h', AEq Try.prog 3 [.int .u8 s, .int .u8 k, .bool m] [] (.bool true) h' :=
  ⟨_, evFn_sound (stays_run_12 s k m) ⟨h [], h _, aw8 _, trivial⟩⟩

set_option maxRecDepth 1000000 in
theorem stays_run_13 (s k : Int) (m : Bool) : evFn Try.prog 400 3 [.int .u8 s, .int .u8 k, .bool m] [] [.call (lookV [7] 4 0) (lookH [7]), .call (lookV [7] 4 2) ([.row [.int .i64 12] 27 1, .row (acts [7]) 27 1] ++ lookH [7]), .inl, .call (.bool true) ([.row [.int .i64 12] 27 1, .row (acts [7]) 27 1] ++ lookH [7])] =
    some ([AEq Try.prog 6 [.int .i64 (IntKind.wrap .i64 (s.tmod 5)), .int .i64 (IntKind.wrap .i64 (k.tmod 14)), .bool m] [] (lookV [7] 4 0) (lookH [7]),
      AEq Try.prog 6 [.int .i64 (IntKind.wrap .i64 (s.tmod 5)), .int .i64 (IntKind.wrap .i64 (k.tmod 14)), .bool m] [.row [.int .i64 12] 27 1, .row (acts [7]) 27 1] (lookV [7] 4 2) ([.row [.int .i64 12] 27 1, .row (acts [7]) 27 1] ++ lookH [7]), AEq Try.prog 8 [] ([.row [.int .i64 12] 27 1, .row (acts [7]) 27 1] ++ lookH [7]) (.bool true) ([.row [.int .i64 12] 27 1, .row (acts [7]) 27 1] ++ lookH [7])], .bool true, ([.row [.int .i64 12] 27 1, .row (acts [7]) 27 1] ++ lookH [7]), []) := by kernel_rfl
theorem stays_13 {s k : Int} {m : Bool} (h : LookIs (IntKind.wrap .i64 (s.tmod 5)) (IntKind.wrap .i64 (k.tmod 14)) m [7] 4) : ∃ h', AEq Try.prog 3 [.int .u8 s, .int .u8 k, .bool m] [] (.bool true) h' :=
  ⟨_, evFn_sound (stays_run_13 s k m) ⟨h [], h _, aw8 _, trivial⟩⟩

set_option maxRecDepth 1000000 in
theorem stays_run_14 (s k : Int) (m : Bool) : evFn Try.prog 400 3 [.int .u8 s, .int .u8 k, .bool m] [] [.call (lookV [8] 4 0) (lookH [8]), .call (lookV [8] 4 2) ([.row [.int .i64 12] 27 1, .row (acts [8]) 27 1] ++ lookH [8]), .inl, .call (.bool true) ([.row [.int .i64 12] 27 1, .row (acts [8]) 27 1] ++ lookH [8])] =
    some ([AEq Try.prog 6 [.int .i64 (IntKind.wrap .i64 (s.tmod 5)), .int .i64 (IntKind.wrap .i64 (k.tmod 14)), .bool m] [] (lookV [8] 4 0) (lookH [8]),
      AEq Try.prog 6 [.int .i64 (IntKind.wrap .i64 (s.tmod 5)), .int .i64 (IntKind.wrap .i64 (k.tmod 14)), .bool m] [.row [.int .i64 12] 27 1, .row (acts [8]) 27 1] (lookV [8] 4 2) ([.row [.int .i64 12] 27 1, .row (acts [8]) 27 1] ++ lookH [8]), AEq Try.prog 8 [] ([.row [.int .i64 12] 27 1, .row (acts [8]) 27 1] ++ lookH [8]) (.bool true) ([.row [.int .i64 12] 27 1, .row (acts [8]) 27 1] ++ lookH [8])], .bool true, ([.row [.int .i64 12] 27 1, .row (acts [8]) 27 1] ++ lookH [8]), []) := by kernel_rfl
theorem stays_14 {s k : Int} {m : Bool} (h : LookIs (IntKind.wrap .i64 (s.tmod 5)) (IntKind.wrap .i64 (k.tmod 14)) m [8] 4) : ∃ h', AEq Try.prog 3 [.int .u8 s, .int .u8 k, .bool m] [] (.bool true) h' :=
  ⟨_, evFn_sound (stays_run_14 s k m) ⟨h [], h _, aw8 _, trivial⟩⟩

set_option maxRecDepth 1000000 in
theorem stays_run_15 (s k : Int) (m : Bool) : evFn Try.prog 400 3 [.int .u8 s, .int .u8 k, .bool m] [] [.call (lookV [10, 9] 0 0) (lookH [10, 9]), .call (lookV [10, 9] 0 2) ([.row [.int .i64 12, .int .i64 12] 27 1, .row (acts [10, 9]) 27 1] ++ lookH [10, 9]), .inl, .call (.bool true) ([.row [.int .i64 12, .int .i64 12] 27 1, .row (acts [10, 9]) 27 1] ++ lookH [10, 9])] =
    some ([AEq Try.prog 6 [.int .i64 (IntKind.wrap .i64 (s.tmod 5)), .int .i64 (IntKind.wrap .i64 (k.tmod 14)), .bool m] [] (lookV [10, 9] 0 0) (lookH [10, 9]),
      AEq Try.prog 6 [.int .i64 (IntKind.wrap .i64 (s.tmod 5)), .int .i64 (IntKind.wrap .i64 (k.tmod 14)), .bool m] [.row [.int .i64 12, .int .i64 12] 27 1, .row (acts [10, 9]) 27 1] (lookV [10, 9] 0 2) ([.row [.int .i64 12, .int .i64 12] 27 1, .row (acts [10, 9]) 27 1] ++ lookH [10, 9]), AEq Try.prog 8 [] ([.row [.int .i64 12, .int .i64 12] 27 1, .row (acts [10, 9]) 27 1] ++ lookH [10, 9]) (.bool true) ([.row [.int .i64 12, .int .i64 12] 27 1, .row (acts [10, 9]) 27 1] ++ lookH [10, 9])], .bool true, ([.row [.int .i64 12, .int .i64 12] 27 1, .row (acts [10, 9]) 27 1] ++ lookH [10, 9]), []) := by kernel_rfl
theorem stays_15 {s k : Int} {m : Bool} (h : LookIs (IntKind.wrap .i64 (s.tmod 5)) (IntKind.wrap .i64 (k.tmod 14)) m [10, 9] 0) : ∃ h', AEq Try.prog 3 [.int .u8 s, .int .u8 k, .bool m] [] (.bool true) h' :=
  ⟨_, evFn_sound (stays_run_15 s k m) ⟨h [], h _, aw8 _, trivial⟩⟩

set_option maxRecDepth 1000000 in
theorem stays_run_16 (s k : Int) (m : Bool) : evFn Try.prog 400 3 [.int .u8 s, .int .u8 k, .bool m] [] [.call (lookV [11] 0 0) (lookH [11]), .call (lookV [11] 0 2) ([.row [.int .i64 12] 27 1, .row (acts [11]) 27 1] ++ lookH [11]), .inl, .call (.bool true) ([.row [.int .i64 12] 27 1, .row (acts [11]) 27 1] ++ lookH [11])] =
    some ([AEq Try.prog 6 [.int .i64 (IntKind.wrap .i64 (s.tmod 5)), .int .i64 (IntKind.wrap .i64 (k.tmod 14)), .bool m] [] (lookV [11] 0 0) (lookH [11]),
      AEq Try.prog 6 [.int .i64 (IntKind.wrap .i64 (s.tmod 5)), .int .i64 (IntKind.wrap .i64 (k.tmod 14)), .bool m] [.row [.int .i64 12] 27 1, .row (acts [11]) 27 1] (lookV [11] 0 2) ([.row [.int .i64 12] 27 1, .row (acts [11]) 27 1] ++ lookH [11]), AEq Try.prog 8 [] ([.row [.int .i64 12] 27 1, .row (acts [11]) 27 1] ++ lookH [11]) (.bool true) ([.row [.int .i64 12] 27 1, .row (acts [11]) 27 1] ++ lookH [11])], .bool true, ([.row [.int .i64 12] 27 1, .row (acts [11]) 27 1] ++ lookH [11]), []) := by kernel_rfl
theorem stays_16 {s k : Int} {m : Bool} (h : LookIs (IntKind.wrap .i64 (s.tmod 5)) (IntKind.wrap .i64 (k.tmod 14)) m [11] 0) : ∃ h', AEq Try.prog 3 [.int .u8 s, .int .u8 k, .bool m] [] (.bool true) h' :=
  ⟨_, evFn_sound (stays_run_16 s k m) ⟨h [], h _, aw8 _, trivial⟩⟩

set_option maxRecDepth 1000000 in
theorem stays_run_17 (s k : Int) (m : Bool) : evFn Try.prog 400 3 [.int .u8 s, .int .u8 k, .bool m] [] [.call (lookV [12] 0 0) (lookH [12]), .call (lookV [12] 0 2) ([.row [.int .i64 12] 27 1, .row (acts [12]) 27 1] ++ lookH [12]), .inl, .call (.bool true) ([.row [.int .i64 12] 27 1, .row (acts [12]) 27 1] ++ lookH [12])] =
    some ([AEq Try.prog 6 [.int .i64 (IntKind.wrap .i64 (s.tmod 5)), .int .i64 (IntKind.wrap .i64 (k.tmod 14)), .bool m] [] (lookV [12] 0 0) (lookH [12]),
      AEq Try.prog 6 [.int .i64 (IntKind.wrap .i64 (s.tmod 5)), .int .i64 (IntKind.wrap .i64 (k.tmod 14)), .bool m] [.row [.int .i64 12] 27 1, .row (acts [12]) 27 1] (lookV [12] 0 2) ([.row [.int .i64 12] 27 1, .row (acts [12]) 27 1] ++ lookH [12]), AEq Try.prog 8 [] ([.row [.int .i64 12] 27 1, .row (acts [12]) 27 1] ++ lookH [12]) (.bool true) ([.row [.int .i64 12] 27 1, .row (acts [12]) 27 1] ++ lookH [12])], .bool true, ([.row [.int .i64 12] 27 1, .row (acts [12]) 27 1] ++ lookH [12]), []) := by kernel_rfl
theorem stays_17 {s k : Int} {m : Bool} (h : LookIs (IntKind.wrap .i64 (s.tmod 5)) (IntKind.wrap .i64 (k.tmod 14)) m [12] 0) : ∃ h', AEq Try.prog 3 [.int .u8 s, .int .u8 k, .bool m] [] (.bool true) h' :=
  ⟨_, evFn_sound (stays_run_17 s k m) ⟨h [], h _, aw8 _, trivial⟩⟩

set_option maxRecDepth 1000000 in
theorem stays_run_18 (s k : Int) (m : Bool) : evFn Try.prog 400 3 [.int .u8 s, .int .u8 k, .bool m] [] [.call (lookV [12] 4 0) (lookH [12]), .call (lookV [12] 4 2) ([.row [.int .i64 12] 27 1, .row (acts [12]) 27 1] ++ lookH [12]), .inl, .call (.bool true) ([.row [.int .i64 12] 27 1, .row (acts [12]) 27 1] ++ lookH [12])] =
    some ([AEq Try.prog 6 [.int .i64 (IntKind.wrap .i64 (s.tmod 5)), .int .i64 (IntKind.wrap .i64 (k.tmod 14)), .bool m] [] (lookV [12] 4 0) (lookH [12]),
      AEq Try.prog 6 [.int .i64 (IntKind.wrap .i64 (s.tmod 5)), .int .i64 (IntKind.wrap .i64 (k.tmod 14)), .bool m] [.row [.int .i64 12] 27 1, .row (acts [12]) 27 1] (lookV [12] 4 2) ([.row [.int .i64 12] 27 1, .row (acts [12]) 27 1] ++ lookH [12]), AEq Try.prog 8 [] ([.row [.int .i64 12] 27 1, .row (acts [12]) 27 1] ++ lookH [12]) (.bool true) ([.row [.int .i64 12] 27 1, .row (acts [12]) 27 1] ++ lookH [12])], .bool true, ([.row [.int .i64 12] 27 1, .row (acts [12]) 27 1] ++ lookH [12]), []) := by kernel_rfl
theorem stays_18 {s k : Int} {m : Bool} (h : LookIs (IntKind.wrap .i64 (s.tmod 5)) (IntKind.wrap .i64 (k.tmod 14)) m [12] 4) : ∃ h', AEq Try.prog 3 [.int .u8 s, .int .u8 k, .bool m] [] (.bool true) h' :=
  ⟨_, evFn_sound (stays_run_18 s k m) ⟨h [], h _, aw8 _, trivial⟩⟩

set_option maxRecDepth 1000000 in
theorem stays_run_19 (s k : Int) (m : Bool) : evFn Try.prog 400 3 [.int .u8 s, .int .u8 k, .bool m] [] [.call (lookV [13, 4, 9] 3 0) (lookH [13, 4, 9]), .call (lookV [13, 4, 9] 3 2) ([.row [.int .i64 12, .int .i64 12, .int .i64 12] 27 1, .row (acts [13, 4, 9]) 27 1] ++ lookH [13, 4, 9]), .inl, .call (.bool true) ([.row [.int .i64 12, .int .i64 12, .int .i64 12] 27 1, .row (acts [13, 4, 9]) 27 1] ++ lookH [13, 4, 9])] =
    some ([AEq Try.prog 6 [.int .i64 (IntKind.wrap .i64 (s.tmod 5)), .int .i64 (IntKind.wrap .i64 (k.tmod 14)), .bool m] [] (lookV [13, 4, 9] 3 0) (lookH [13, 4, 9]),
      AEq Try.prog 6 [.int .i64 (IntKind.wrap .i64 (s.tmod 5)), .int .i64 (IntKind.wrap .i64 (k.tmod 14)), .bool m] [.row [.int .i64 12, .int .i64 12, .int .i64 12] 27 1, .row (acts [13, 4, 9]) 27 1] (lookV [13, 4, 9] 3 2) ([.row [.int .i64 12, .int .i64 12, .int .i64 12] 27 1, .row (acts [13, 4, 9]) 27 1] ++ lookH [13, 4, 9]), AEq Try.prog 8 [] ([.row [.int .i64 12, .int .i64 12, .int .i64 12] 27 1, .row (acts [13, 4, 9]) 27 1] ++ lookH [13, 4, 9]) (.bool true) ([.row [.int .i64 12, .int .i64 12, .int .i64 12] 27 1, .row (acts [13, 4, 9]) 27 1] ++ lookH [13, 4, 9])], .bool true, ([.row [.int .i64 12, .int .i64 12, .int .i64 12] 27 1, .row (acts [13, 4, 9]) 27 1] ++ lookH [13, 4, 9]), []) := by kernel_rfl
theorem stays_19 {s k : Int} {m : Bool} (h : LookIs (IntKind.wrap .i64 (s.tmod 5)) (IntKind.wrap .i64 (k.tmod 14)) m [13, 4, 9] 3) : ∃ h', AEq Try.prog 3 [.int .u8 s, .int .u8 k, .bool m] [] (.bool true) h' :=
  ⟨_, evFn_sound (stays_run_19 s k m) ⟨h [], h _, aw8 _, trivial⟩⟩

theorem stays_all {s k : Int} (hs : 0 ≤ s) (hk : 0 ≤ k) (m : Bool) : ∃ h', AEq Try.prog 3 [.int .u8 s, .int .u8 k, .bool m] [] (.bool true) h' := by
  obtain ⟨L, nx, hm, hl⟩ := look_any hs hk m
  simp only [combos, List.mem_cons, Prod.mk.injEq, List.not_mem_nil, or_false] at hm
  rcases hm with ⟨rfl, rfl⟩ | ⟨rfl, rfl⟩ | ⟨rfl, rfl⟩ | ⟨rfl, rfl⟩ | ⟨rfl, rfl⟩ | ⟨rfl, rfl⟩ | ⟨rfl, rfl⟩ | ⟨rfl, rfl⟩ | ⟨rfl, rfl⟩ | ⟨rfl, rfl⟩ | ⟨rfl, rfl⟩ | ⟨rfl, rfl⟩ | ⟨rfl, rfl⟩ | ⟨rfl, rfl⟩ | ⟨rfl, rfl⟩ | ⟨rfl, rfl⟩ | ⟨rfl, rfl⟩ | ⟨rfl, rfl⟩ | ⟨rfl, rfl⟩ | ⟨rfl, rfl⟩
  · exact stays_0 hl
  · exact stays_1 hl
  · exact stays_2 hl
  · exact stays_3 hl
  · exact stays_4 hl
  · exact stays_5 hl
  · exact stays_6 hl
  · exact stays_7 hl
  · exact stays_8 hl
  · exact stays_9 hl
  · exact stays_10 hl
  · exact stays_11 hl
  · exact stays_12 hl
  · exact stays_13 hl
  · exact stays_14 hl
  · exact stays_15 hl
  · exact stays_16 hl
  · exact stays_17 hl
  · exact stays_18 hl
  · exact stays_19 hl

end Go.Proofs.Chart
