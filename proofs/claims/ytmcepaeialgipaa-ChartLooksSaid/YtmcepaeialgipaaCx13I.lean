/- What the law 'ChartLooks' calls. -/
import Derived.Test.YtmcepaeialgipaaCxAX22
import Derived.Test.YtmcepaeialgipaaCx13E
namespace Go.Proofs.Chart
open Go Go.AX Go.Proofs

def none4 : ByteArray := ⟨#[110, 111, 110, 101]⟩
def stW : List Value := [.string ⟨#[105, 100, 108, 101]⟩, .string ⟨#[112, 114, 111, 116, 101, 99, 116]⟩, .string ⟨#[109, 97, 110, 117, 97, 108]⟩, .string ⟨#[102, 111, 114, 99, 101, 100]⟩, .string ⟨#[112, 101, 110, 100, 105, 110, 103]⟩]
def acW : List Value := [.string ⟨#[116, 97, 107, 101, 45, 102, 115]⟩, .string ⟨#[116, 97, 107, 101, 45, 115, 102]⟩, .string ⟨#[116, 97, 107, 101, 45, 109, 115]⟩, .string ⟨#[111, 112, 101, 110, 45, 115, 111, 117, 110, 100]⟩, .string ⟨#[115, 105, 108, 101, 110, 99, 101]⟩, .string ⟨#[103, 117, 97, 114, 100]⟩, .string ⟨#[115, 97, 121, 45, 110, 111, 110, 101]⟩, .string ⟨#[114, 101, 115, 116]⟩, .string ⟨#[98, 108, 111, 99, 107, 45, 119, 97, 105, 116]⟩, .string ⟨#[115, 116, 111, 112, 45, 119, 97, 105, 116, 115]⟩, .string ⟨#[104, 111, 109, 101]⟩, .string ⟨#[104, 111, 109, 101, 45, 102, 97, 114]⟩, .string ⟨#[121, 105, 101, 108, 100]⟩, .string ⟨#[111, 112, 101, 110, 45, 97, 108, 108]⟩]
def stH : AHeap := [.cells stW 9 1]
def acH : AHeap := [.cells acW 9 1]

theorem db {p : Prop} [Decidable p] (h : p) : Value.bool (decide p) = .bool true := by rw [decide_eq_true h]
theorem dn {p : Prop} [Decidable p] (h : ¬ p) : Value.bool (decide p) = .bool false := by rw [decide_eq_false h]
theorem nb {k c : Int} (h : k ≠ c) : Value.bool (k == c) = .bool false := by
  have : (k == c) = false := by simpa using h
  rw [this]

set_option maxRecDepth 1000000

theorem may_in {s : Int} (h0 : 0 ≤ s) (h1 : s ≤ 4) (h : AHeap) : AEq Try.prog 7 [.int .i64 s] h (.bool true) h :=
  evFn_bare (by kernel_rfl : bareRun (evFn Try.prog 400 7 [.int .i64 s] [] [.is 4 (.bool true), .is 7 (.bool true)]) = some ([Value.bool (decide (s ≥ 0)) = .bool true, Value.bool (decide (s ≤ 4)) = .bool true], .bool true)) ⟨db h0, db h1, trivial⟩ rfl h
theorem may_neg {s : Int} (h0 : s < 0) (h : AHeap) : AEq Try.prog 7 [.int .i64 s] h (.bool false) h :=
  evFn_bare (by kernel_rfl : bareRun (evFn Try.prog 400 7 [.int .i64 s] [] [.is 4 (.bool false)]) = some ([Value.bool (decide (s ≥ 0)) = .bool false], .bool false)) ⟨dn (by omega), trivial⟩ rfl h
theorem may_big {s : Int} (h0 : s > 4) (h : AHeap) : AEq Try.prog 7 [.int .i64 s] h (.bool false) h :=
  evFn_bare (by kernel_rfl : bareRun (evFn Try.prog 400 7 [.int .i64 s] [] [.is 4 (.bool true), .is 7 (.bool false)]) = some ([Value.bool (decide (s ≥ 0)) = .bool true, Value.bool (decide (s ≤ 4)) = .bool false], .bool false)) ⟨db (by omega), dn (by omega), trivial⟩ rfl h
theorem may_out {s : Int} (h0 : s < 0 ∨ s > 4) (h : AHeap) : AEq Try.prog 7 [.int .i64 s] h (.bool false) h :=
  h0.elim (fun h0 => may_neg h0 h) (fun h0 => may_big h0 h)

theorem kind_in {s : Int} (h0 : 0 ≤ s) (h1 : s ≤ 13) (h : AHeap) : AEq Try.prog 15 [.int .i64 s] h (.bool true) h :=
  evFn_bare (by kernel_rfl : bareRun (evFn Try.prog 400 15 [.int .i64 s] [] [.is 4 (.bool true), .is 7 (.bool true)]) = some ([Value.bool (decide (s ≥ 0)) = .bool true, Value.bool (decide (s ≤ 13)) = .bool true], .bool true)) ⟨db h0, db h1, trivial⟩ rfl h
theorem kind_neg {s : Int} (h0 : s < 0) (h : AHeap) : AEq Try.prog 15 [.int .i64 s] h (.bool false) h :=
  evFn_bare (by kernel_rfl : bareRun (evFn Try.prog 400 15 [.int .i64 s] [] [.is 4 (.bool false)]) = some ([Value.bool (decide (s ≥ 0)) = .bool false], .bool false)) ⟨dn (by omega), trivial⟩ rfl h
theorem kind_big {s : Int} (h0 : s > 13) (h : AHeap) : AEq Try.prog 15 [.int .i64 s] h (.bool false) h :=
  evFn_bare (by kernel_rfl : bareRun (evFn Try.prog 400 15 [.int .i64 s] [] [.is 4 (.bool true), .is 7 (.bool false)]) = some ([Value.bool (decide (s ≥ 0)) = .bool true, Value.bool (decide (s ≤ 13)) = .bool false], .bool false)) ⟨db (by omega), dn (by omega), trivial⟩ rfl h
theorem kind_out {s : Int} (h0 : s < 0 ∨ s > 13) (h : AHeap) : AEq Try.prog 15 [.int .i64 s] h (.bool false) h :=
  h0.elim (fun h0 => kind_neg h0 h) (fun h0 => kind_big h0 h)

def outV (s : Int) : Value := .tuple ⟨[.slice none 0 0, .int .i64 s]⟩
theorem look_out {s k : Int} {m : Bool} (h0 : (s < 0 ∨ s > 4) ∨ ((0 ≤ s ∧ s ≤ 4) ∧ (k < 0 ∨ k > 13))) (h : AHeap) : AEq Try.prog 6 [.int .i64 s, .int .i64 k, .bool m] h (outV s) h := by
  rcases h0 with h0 | ⟨h0, h1⟩
  · exact evFn_bare (by kernel_rfl : bareRun (evFn Try.prog 400 6 [.int .i64 s, .int .i64 k, .bool m] [] [.call (.bool false) []]) = some ([AEq Try.prog 7 [.int .i64 s] [] (.bool false) []], outV s)) ⟨may_out h0 [], trivial⟩ rfl h
  · exact evFn_bare (by kernel_rfl : bareRun (evFn Try.prog 400 6 [.int .i64 s, .int .i64 k, .bool m] [] [.call (.bool true) [], .call (.bool false) []]) = some ([AEq Try.prog 7 [.int .i64 s] [] (.bool true) [], AEq Try.prog 15 [.int .i64 k] [] (.bool false) []], outV s)) ⟨may_in h0.1 h0.2 [], kind_out h1 [], trivial⟩ rfl h

theorem ref_out {s k : Int} {m : Bool} (h0 : (s < 0 ∨ s > 4) ∨ ((0 ≤ s ∧ s ≤ 4) ∧ (k < 0 ∨ k > 13))) (h : AHeap) : AEq Try.prog 9 [.int .i64 s, .int .i64 k, .bool m] h (outV s) h := by
  rcases h0 with (h0 | h0) | ⟨h0, h1⟩
  · exact evFn_bare (by kernel_rfl : bareRun (evFn Try.prog 400 9 [.int .i64 s, .int .i64 k, .bool m] [] [.is 9 (.bool true)]) = some ([Value.bool (decide (s < 0)) = .bool true], outV s)) ⟨db h0, trivial⟩ rfl h
  · exact evFn_bare (by kernel_rfl : bareRun (evFn Try.prog 400 9 [.int .i64 s, .int .i64 k, .bool m] [] [.is 9 (.bool false), .is 12 (.bool true)]) = some ([Value.bool (decide (s < 0)) = .bool false, Value.bool (decide (s > 4)) = .bool true], outV s)) ⟨dn (by omega), db h0, trivial⟩ rfl h
  · exact evFn_bare (by kernel_rfl : bareRun (evFn Try.prog 400 9 [.int .i64 s, .int .i64 k, .bool m] [] [.is 9 (.bool false), .is 12 (.bool false), .is 17 (.bool false), .is 32 (.bool false), .is 35 (.bool false), .is 40 (.bool false), .is 45 (.bool false), .is 50 (.bool false), .is 55 (.bool false), .is 73 (.bool false), .is 82 (.bool false), .is 83 (.bool false), .is 88 (.bool false), .is 93 (.bool false)]) = some ([Value.bool (decide (s < 0)) = .bool false, Value.bool (decide (s > 4)) = .bool false, Value.bool (k == 0) = .bool false, Value.bool (k == 1) = .bool false, Value.bool (k == 2) = .bool false, Value.bool (k == 3) = .bool false, Value.bool (k == 4) = .bool false, Value.bool (k == 5) = .bool false, Value.bool (k == 6) = .bool false, Value.bool (k == 7) = .bool false, Value.bool (k == 8) = .bool false, Value.bool (k == 10) = .bool false, Value.bool (k == 12) = .bool false, Value.bool (k == 13) = .bool false], outV s))
      ⟨dn (by omega), dn (by omega), nb (by omega), nb (by omega), nb (by omega), nb (by omega), nb (by omega), nb (by omega), nb (by omega), nb (by omega), nb (by omega), nb (by omega), nb (by omega), nb (by omega), trivial⟩ rfl h

def refV (L : List Nat) (nx N : Nat) : Value :=
  match L with
  | [] => .tuple ⟨[.slice none 0 0, .int .i64 nx]⟩
  | L => .tuple ⟨[.slice (some ⟨N, 0, none⟩) L.length L.length, .int .i64 nx]⟩
def refH (L : List Nat) : AHeap :=
  match L with
  | [] => []
  | L => [.cells (acts L) 3 1]

theorem rn_refV (L : List Nat) (nx N : Nat) : rnV (up N) (refV L nx 0) = refV L nx N := by
  cases L <;> simp [refV, rnV, rn2, rn1, up]
theorem rn_refH (L : List Nat) (N : Nat) : (refH L).map (rnO (up N)) = refH L := by
  cases L with
  | nil => rfl
  | cons a l => simp only [refH, List.map_cons, List.map_nil, rnO, rn_acts]
theorem ok_ref (L : List Nat) (nx : Nat) : (okIds (fun i => decide (i < (refH L).length)) (refV L nx 0) && (refH L).all fun o => notRo o && okObj (fun i => decide (i < (refH L).length)) o) = true := by
  cases L with
  | nil => rfl
  | cons a l =>
    have := ok_acts (fun i => decide (i < (refH (a :: l)).length)) (a :: l)
    simp only [refH, refV, List.all_cons, List.all_nil, Bool.and_true, notRo, okObj, Bool.true_and] at this ⊢
    rw [this]
    rfl
def RefIs (s k : Int) (m : Bool) (L : List Nat) (nx : Nat) : Prop :=
  ∀ h : AHeap, AEq Try.prog 9 [.int .i64 s, .int .i64 k, .bool m] h (refV L nx h.length) (h ++ refH L)
theorem ref_of {s k : Int} {m : Bool} (keep : List Nat) {L : List Nat} {nx : Nat}
    (he : trimRun keep (evFn Try.prog 400 9 [.int .i64 s, .int .i64 k, .bool m] [] []) = some ([], refV L nx 0, refH L)) : RefIs s k m L nx := by
  intro h
  have := evFn_new keep he trivial rfl (ok_ref L nx) h
  rw [rn_refV, rn_refH] at this
  exact this

theorem ref_0_0_0 : RefIs 0 0 false [] 0 := ref_of [] (by kernel_rfl)
theorem ref_0_0_1 : RefIs 0 0 true [] 0 := ref_of [] (by kernel_rfl)
theorem ref_0_1_0 : RefIs 0 1 false [0, 9] 3 := ref_of [0] (by kernel_rfl)
theorem ref_0_1_1 : RefIs 0 1 true [0, 9] 3 := ref_of [0] (by kernel_rfl)
theorem ref_0_2_0 : RefIs 0 2 false [13, 4, 9] 3 := ref_of [0] (by kernel_rfl)
theorem ref_0_2_1 : RefIs 0 2 true [13, 4, 9] 3 := ref_of [0] (by kernel_rfl)
theorem ref_0_3_0 : RefIs 0 3 false [1, 9] 1 := ref_of [0] (by kernel_rfl)
theorem ref_0_3_1 : RefIs 0 3 true [1, 9] 1 := ref_of [0] (by kernel_rfl)
theorem ref_0_4_0 : RefIs 0 4 false [] 0 := ref_of [] (by kernel_rfl)
theorem ref_0_4_1 : RefIs 0 4 true [] 0 := ref_of [] (by kernel_rfl)
theorem ref_0_5_0 : RefIs 0 5 false [3, 4, 9] 1 := ref_of [0] (by kernel_rfl)
theorem ref_0_5_1 : RefIs 0 5 true [3, 4, 9] 1 := ref_of [0] (by kernel_rfl)
theorem ref_0_6_0 : RefIs 0 6 false [3, 4, 9] 2 := ref_of [0] (by kernel_rfl)
theorem ref_0_6_1 : RefIs 0 6 true [3, 4, 9] 2 := ref_of [0] (by kernel_rfl)
theorem ref_0_7_0 : RefIs 0 7 false [2, 9] 2 := ref_of [0] (by kernel_rfl)
theorem ref_0_7_1 : RefIs 0 7 true [2, 9] 2 := ref_of [0] (by kernel_rfl)
theorem ref_0_8_0 : RefIs 0 8 false [] 0 := ref_of [] (by kernel_rfl)
theorem ref_0_8_1 : RefIs 0 8 true [] 0 := ref_of [] (by kernel_rfl)
theorem ref_0_9_0 : RefIs 0 9 false [] 0 := ref_of [] (by kernel_rfl)
theorem ref_0_9_1 : RefIs 0 9 true [] 0 := ref_of [] (by kernel_rfl)
theorem ref_0_10_0 : RefIs 0 10 false [] 0 := ref_of [] (by kernel_rfl)
theorem ref_0_10_1 : RefIs 0 10 true [] 0 := ref_of [] (by kernel_rfl)
theorem ref_0_11_0 : RefIs 0 11 false [] 0 := ref_of [] (by kernel_rfl)
theorem ref_0_11_1 : RefIs 0 11 true [] 0 := ref_of [] (by kernel_rfl)
theorem ref_0_12_0 : RefIs 0 12 false [11] 0 := ref_of [0] (by kernel_rfl)
theorem ref_0_12_1 : RefIs 0 12 true [] 0 := ref_of [] (by kernel_rfl)
theorem ref_0_13_0 : RefIs 0 13 false [12] 0 := ref_of [0] (by kernel_rfl)
theorem ref_0_13_1 : RefIs 0 13 true [12] 0 := ref_of [0] (by kernel_rfl)
theorem ref_1_0_0 : RefIs 1 0 false [] 1 := ref_of [] (by kernel_rfl)
theorem ref_1_0_1 : RefIs 1 0 true [] 1 := ref_of [] (by kernel_rfl)
theorem ref_1_1_0 : RefIs 1 1 false [0, 9] 3 := ref_of [0] (by kernel_rfl)
theorem ref_1_1_1 : RefIs 1 1 true [0, 9] 3 := ref_of [0] (by kernel_rfl)
theorem ref_1_2_0 : RefIs 1 2 false [13, 4, 9] 3 := ref_of [0] (by kernel_rfl)
theorem ref_1_2_1 : RefIs 1 2 true [13, 4, 9] 3 := ref_of [0] (by kernel_rfl)
theorem ref_1_3_0 : RefIs 1 3 false [1, 9] 1 := ref_of [0] (by kernel_rfl)
theorem ref_1_3_1 : RefIs 1 3 true [1, 9] 1 := ref_of [0] (by kernel_rfl)
theorem ref_1_4_0 : RefIs 1 4 false [5, 6, 7] 4 := ref_of [0] (by kernel_rfl)
theorem ref_1_4_1 : RefIs 1 4 true [5, 6, 7] 4 := ref_of [0] (by kernel_rfl)
theorem ref_1_5_0 : RefIs 1 5 false [3, 4, 9] 1 := ref_of [0] (by kernel_rfl)
theorem ref_1_5_1 : RefIs 1 5 true [3, 4, 9] 1 := ref_of [0] (by kernel_rfl)
theorem ref_1_6_0 : RefIs 1 6 false [] 1 := ref_of [] (by kernel_rfl)
theorem ref_1_6_1 : RefIs 1 6 true [] 1 := ref_of [] (by kernel_rfl)
theorem ref_1_7_0 : RefIs 1 7 false [] 1 := ref_of [] (by kernel_rfl)
theorem ref_1_7_1 : RefIs 1 7 true [] 1 := ref_of [] (by kernel_rfl)
theorem ref_1_8_0 : RefIs 1 8 false [] 1 := ref_of [] (by kernel_rfl)
theorem ref_1_8_1 : RefIs 1 8 true [] 1 := ref_of [] (by kernel_rfl)
theorem ref_1_9_0 : RefIs 1 9 false [] 1 := ref_of [] (by kernel_rfl)
theorem ref_1_9_1 : RefIs 1 9 true [] 1 := ref_of [] (by kernel_rfl)
theorem ref_1_10_0 : RefIs 1 10 false [] 1 := ref_of [] (by kernel_rfl)
theorem ref_1_10_1 : RefIs 1 10 true [] 1 := ref_of [] (by kernel_rfl)
theorem ref_1_11_0 : RefIs 1 11 false [] 1 := ref_of [] (by kernel_rfl)
theorem ref_1_11_1 : RefIs 1 11 true [] 1 := ref_of [] (by kernel_rfl)
theorem ref_1_12_0 : RefIs 1 12 false [11] 0 := ref_of [0] (by kernel_rfl)
theorem ref_1_12_1 : RefIs 1 12 true [] 1 := ref_of [] (by kernel_rfl)
theorem ref_1_13_0 : RefIs 1 13 false [7] 4 := ref_of [0] (by kernel_rfl)
theorem ref_1_13_1 : RefIs 1 13 true [7] 4 := ref_of [0] (by kernel_rfl)
theorem ref_2_0_0 : RefIs 2 0 false [] 2 := ref_of [] (by kernel_rfl)
theorem ref_2_0_1 : RefIs 2 0 true [5, 6, 8] 4 := ref_of [0] (by kernel_rfl)
theorem ref_2_1_0 : RefIs 2 1 false [0, 9] 3 := ref_of [0] (by kernel_rfl)
theorem ref_2_1_1 : RefIs 2 1 true [0, 9] 3 := ref_of [0] (by kernel_rfl)
theorem ref_2_2_0 : RefIs 2 2 false [13, 4, 9] 3 := ref_of [0] (by kernel_rfl)
theorem ref_2_2_1 : RefIs 2 2 true [13, 4, 9] 3 := ref_of [0] (by kernel_rfl)
theorem ref_2_3_0 : RefIs 2 3 false [1, 9] 1 := ref_of [0] (by kernel_rfl)
theorem ref_2_3_1 : RefIs 2 3 true [1, 9] 1 := ref_of [0] (by kernel_rfl)
theorem ref_2_4_0 : RefIs 2 4 false [] 2 := ref_of [] (by kernel_rfl)
theorem ref_2_4_1 : RefIs 2 4 true [] 2 := ref_of [] (by kernel_rfl)
theorem ref_2_5_0 : RefIs 2 5 false [3, 4, 9] 1 := ref_of [0] (by kernel_rfl)
theorem ref_2_5_1 : RefIs 2 5 true [3, 4, 9] 1 := ref_of [0] (by kernel_rfl)
theorem ref_2_6_0 : RefIs 2 6 false [3, 4] 2 := ref_of [0] (by kernel_rfl)
theorem ref_2_6_1 : RefIs 2 6 true [5, 6, 8] 4 := ref_of [0] (by kernel_rfl)
theorem ref_2_7_0 : RefIs 2 7 false [] 2 := ref_of [] (by kernel_rfl)
theorem ref_2_7_1 : RefIs 2 7 true [] 2 := ref_of [] (by kernel_rfl)
theorem ref_2_8_0 : RefIs 2 8 false [] 2 := ref_of [] (by kernel_rfl)
theorem ref_2_8_1 : RefIs 2 8 true [] 2 := ref_of [] (by kernel_rfl)
theorem ref_2_9_0 : RefIs 2 9 false [] 2 := ref_of [] (by kernel_rfl)
theorem ref_2_9_1 : RefIs 2 9 true [] 2 := ref_of [] (by kernel_rfl)
theorem ref_2_10_0 : RefIs 2 10 false [] 2 := ref_of [] (by kernel_rfl)
theorem ref_2_10_1 : RefIs 2 10 true [] 2 := ref_of [] (by kernel_rfl)
theorem ref_2_11_0 : RefIs 2 11 false [] 2 := ref_of [] (by kernel_rfl)
theorem ref_2_11_1 : RefIs 2 11 true [] 2 := ref_of [] (by kernel_rfl)
theorem ref_2_12_0 : RefIs 2 12 false [11] 0 := ref_of [0] (by kernel_rfl)
theorem ref_2_12_1 : RefIs 2 12 true [] 2 := ref_of [] (by kernel_rfl)
theorem ref_2_13_0 : RefIs 2 13 false [8] 4 := ref_of [0] (by kernel_rfl)
theorem ref_2_13_1 : RefIs 2 13 true [] 2 := ref_of [] (by kernel_rfl)
theorem ref_3_0_0 : RefIs 3 0 false [] 3 := ref_of [] (by kernel_rfl)
theorem ref_3_0_1 : RefIs 3 0 true [5, 6, 8] 4 := ref_of [0] (by kernel_rfl)
theorem ref_3_1_0 : RefIs 3 1 false [0, 9] 3 := ref_of [0] (by kernel_rfl)
theorem ref_3_1_1 : RefIs 3 1 true [0, 9] 3 := ref_of [0] (by kernel_rfl)
theorem ref_3_2_0 : RefIs 3 2 false [] 3 := ref_of [] (by kernel_rfl)
theorem ref_3_2_1 : RefIs 3 2 true [] 3 := ref_of [] (by kernel_rfl)
theorem ref_3_3_0 : RefIs 3 3 false [] 3 := ref_of [] (by kernel_rfl)
theorem ref_3_3_1 : RefIs 3 3 true [] 3 := ref_of [] (by kernel_rfl)
theorem ref_3_4_0 : RefIs 3 4 false [] 3 := ref_of [] (by kernel_rfl)
theorem ref_3_4_1 : RefIs 3 4 true [] 3 := ref_of [] (by kernel_rfl)
theorem ref_3_5_0 : RefIs 3 5 false [] 3 := ref_of [] (by kernel_rfl)
theorem ref_3_5_1 : RefIs 3 5 true [] 3 := ref_of [] (by kernel_rfl)
theorem ref_3_6_0 : RefIs 3 6 false [] 3 := ref_of [] (by kernel_rfl)
theorem ref_3_6_1 : RefIs 3 6 true [] 3 := ref_of [] (by kernel_rfl)
theorem ref_3_7_0 : RefIs 3 7 false [] 3 := ref_of [] (by kernel_rfl)
theorem ref_3_7_1 : RefIs 3 7 true [] 3 := ref_of [] (by kernel_rfl)
theorem ref_3_8_0 : RefIs 3 8 false [] 3 := ref_of [] (by kernel_rfl)
theorem ref_3_8_1 : RefIs 3 8 true [] 3 := ref_of [] (by kernel_rfl)
theorem ref_3_9_0 : RefIs 3 9 false [] 3 := ref_of [] (by kernel_rfl)
theorem ref_3_9_1 : RefIs 3 9 true [] 3 := ref_of [] (by kernel_rfl)
theorem ref_3_10_0 : RefIs 3 10 false [] 3 := ref_of [] (by kernel_rfl)
theorem ref_3_10_1 : RefIs 3 10 true [] 3 := ref_of [] (by kernel_rfl)
theorem ref_3_11_0 : RefIs 3 11 false [] 3 := ref_of [] (by kernel_rfl)
theorem ref_3_11_1 : RefIs 3 11 true [] 3 := ref_of [] (by kernel_rfl)
theorem ref_3_12_0 : RefIs 3 12 false [11] 0 := ref_of [0] (by kernel_rfl)
theorem ref_3_12_1 : RefIs 3 12 true [] 3 := ref_of [] (by kernel_rfl)
theorem ref_3_13_0 : RefIs 3 13 false [8] 4 := ref_of [0] (by kernel_rfl)
theorem ref_3_13_1 : RefIs 3 13 true [] 3 := ref_of [] (by kernel_rfl)
theorem ref_4_0_0 : RefIs 4 0 false [10, 9] 0 := ref_of [0] (by kernel_rfl)
theorem ref_4_0_1 : RefIs 4 0 true [10, 9] 0 := ref_of [0] (by kernel_rfl)
theorem ref_4_1_0 : RefIs 4 1 false [0, 9] 3 := ref_of [0] (by kernel_rfl)
theorem ref_4_1_1 : RefIs 4 1 true [0, 9] 3 := ref_of [0] (by kernel_rfl)
theorem ref_4_2_0 : RefIs 4 2 false [13, 4, 9] 3 := ref_of [0] (by kernel_rfl)
theorem ref_4_2_1 : RefIs 4 2 true [13, 4, 9] 3 := ref_of [0] (by kernel_rfl)
theorem ref_4_3_0 : RefIs 4 3 false [1, 9] 1 := ref_of [0] (by kernel_rfl)
theorem ref_4_3_1 : RefIs 4 3 true [1, 9] 1 := ref_of [0] (by kernel_rfl)
theorem ref_4_4_0 : RefIs 4 4 false [] 4 := ref_of [] (by kernel_rfl)
theorem ref_4_4_1 : RefIs 4 4 true [] 4 := ref_of [] (by kernel_rfl)
theorem ref_4_5_0 : RefIs 4 5 false [3, 4, 9] 1 := ref_of [0] (by kernel_rfl)
theorem ref_4_5_1 : RefIs 4 5 true [3, 4, 9] 1 := ref_of [0] (by kernel_rfl)
theorem ref_4_6_0 : RefIs 4 6 false [3, 4, 9] 2 := ref_of [0] (by kernel_rfl)
theorem ref_4_6_1 : RefIs 4 6 true [3, 4, 9] 2 := ref_of [0] (by kernel_rfl)
theorem ref_4_7_0 : RefIs 4 7 false [2, 9] 2 := ref_of [0] (by kernel_rfl)
theorem ref_4_7_1 : RefIs 4 7 true [2, 9] 2 := ref_of [0] (by kernel_rfl)
theorem ref_4_8_0 : RefIs 4 8 false [10, 9] 0 := ref_of [0] (by kernel_rfl)
theorem ref_4_8_1 : RefIs 4 8 true [10, 9] 0 := ref_of [0] (by kernel_rfl)
theorem ref_4_9_0 : RefIs 4 9 false [] 4 := ref_of [] (by kernel_rfl)
theorem ref_4_9_1 : RefIs 4 9 true [] 4 := ref_of [] (by kernel_rfl)
theorem ref_4_10_0 : RefIs 4 10 false [10, 9] 0 := ref_of [0] (by kernel_rfl)
theorem ref_4_10_1 : RefIs 4 10 true [10, 9] 0 := ref_of [0] (by kernel_rfl)
theorem ref_4_11_0 : RefIs 4 11 false [] 4 := ref_of [] (by kernel_rfl)
theorem ref_4_11_1 : RefIs 4 11 true [] 4 := ref_of [] (by kernel_rfl)
theorem ref_4_12_0 : RefIs 4 12 false [11] 0 := ref_of [0] (by kernel_rfl)
theorem ref_4_12_1 : RefIs 4 12 true [] 4 := ref_of [] (by kernel_rfl)
theorem ref_4_13_0 : RefIs 4 13 false [12] 4 := ref_of [0] (by kernel_rfl)
theorem ref_4_13_1 : RefIs 4 13 true [12] 4 := ref_of [0] (by kernel_rfl)

def slW (N n : Nat) : Value := .slice (some ⟨N, 0, none⟩) n n
theorem words_eq (h : AHeap) : AEq Try.prog 12 [] h (slW (0 + h.length) 5) (h ++ stH) :=
  evFn_new [0] (by kernel_rfl : trimRun [0] (evFn Try.prog 400 12 [] [] []) = some ([], slW 0 5, stH)) trivial rfl rfl h
theorem actw_eq (h : AHeap) : AEq Try.prog 14 [] h (slW (0 + h.length) 14) (h ++ acH) :=
  evFn_new [0] (by kernel_rfl : trimRun [0] (evFn Try.prog 400 14 [] [] []) = some ([], slW 0 14, acH)) trivial rfl rfl h

theorem st_any (s : Int) : ∃ S, (∀ h, AEq Try.prog 10 [.int .i64 s] h (.string S) h) ∧ AEq Try.prog 11 [slW 0 5, .int .i64 s] stH (.string S) stH := by
  rcases (by omega : s < 0 ∨ 0 ≤ s) with hs | hs
  · refine ⟨none4, fun h => ?_, ?_⟩
    · exact evFn_bare (by kernel_rfl : bareRun (evFn Try.prog 400 10 [.int .i64 s] [] [.call (.bool false) [.cells stW 45 5]]) = some ([AEq Try.prog 7 [.int .i64 s] [.cells stW 45 5] (.bool false) [.cells stW 45 5]], .string none4)) ⟨may_out (by omega) _, trivial⟩ rfl h
    · exact evFn_sound (by kernel_rfl : evFn Try.prog 400 11 [slW 0 5, .int .i64 s] stH [.is 6 (.bool true)] = some ([Value.bool (decide (s < 0)) = .bool true], .string none4, stH, [])) ⟨db hs, trivial⟩
  rcases (by omega : 4 < s ∨ s ≤ 4) with ht | ht
  · refine ⟨none4, fun h => ?_, ?_⟩
    · exact evFn_bare (by kernel_rfl : bareRun (evFn Try.prog 400 10 [.int .i64 s] [] [.call (.bool false) [.cells stW 45 5]]) = some ([AEq Try.prog 7 [.int .i64 s] [.cells stW 45 5] (.bool false) [.cells stW 45 5]], .string none4)) ⟨may_out (by omega) _, trivial⟩ rfl h
    · exact evFn_sound (by kernel_rfl : evFn Try.prog 400 11 [slW 0 5, .int .i64 s] stH [.is 6 (.bool false), .is 11 (.bool true)] = some ([Value.bool (decide (s < 0)) = .bool false, Value.bool (decide (s ≥ 5)) = .bool true], .string none4, stH, [])) ⟨dn (by omega), db (by omega), trivial⟩
  have hc : s = 0 ∨ s = 1 ∨ s = 2 ∨ s = 3 ∨ s = 4 := by omega
  rcases hc with rfl | rfl | rfl | rfl | rfl
  · exact ⟨⟨#[105, 100, 108, 101]⟩, fun h => evFn_bare (by kernel_rfl : bareRun (evFn Try.prog 400 10 [.int .i64 0] [] []) = some ([], .string ⟨#[105, 100, 108, 101]⟩)) trivial rfl h,
      evFn_sound (by kernel_rfl : evFn Try.prog 400 11 [slW 0 5, .int .i64 0] stH [] = some ([], .string ⟨#[105, 100, 108, 101]⟩, stH, [])) trivial⟩
  · exact ⟨⟨#[112, 114, 111, 116, 101, 99, 116]⟩, fun h => evFn_bare (by kernel_rfl : bareRun (evFn Try.prog 400 10 [.int .i64 1] [] []) = some ([], .string ⟨#[112, 114, 111, 116, 101, 99, 116]⟩)) trivial rfl h,
      evFn_sound (by kernel_rfl : evFn Try.prog 400 11 [slW 0 5, .int .i64 1] stH [] = some ([], .string ⟨#[112, 114, 111, 116, 101, 99, 116]⟩, stH, [])) trivial⟩
  · exact ⟨⟨#[109, 97, 110, 117, 97, 108]⟩, fun h => evFn_bare (by kernel_rfl : bareRun (evFn Try.prog 400 10 [.int .i64 2] [] []) = some ([], .string ⟨#[109, 97, 110, 117, 97, 108]⟩)) trivial rfl h,
      evFn_sound (by kernel_rfl : evFn Try.prog 400 11 [slW 0 5, .int .i64 2] stH [] = some ([], .string ⟨#[109, 97, 110, 117, 97, 108]⟩, stH, [])) trivial⟩
  · exact ⟨⟨#[102, 111, 114, 99, 101, 100]⟩, fun h => evFn_bare (by kernel_rfl : bareRun (evFn Try.prog 400 10 [.int .i64 3] [] []) = some ([], .string ⟨#[102, 111, 114, 99, 101, 100]⟩)) trivial rfl h,
      evFn_sound (by kernel_rfl : evFn Try.prog 400 11 [slW 0 5, .int .i64 3] stH [] = some ([], .string ⟨#[102, 111, 114, 99, 101, 100]⟩, stH, [])) trivial⟩
  · exact ⟨⟨#[112, 101, 110, 100, 105, 110, 103]⟩, fun h => evFn_bare (by kernel_rfl : bareRun (evFn Try.prog 400 10 [.int .i64 4] [] []) = some ([], .string ⟨#[112, 101, 110, 100, 105, 110, 103]⟩)) trivial rfl h,
      evFn_sound (by kernel_rfl : evFn Try.prog 400 11 [slW 0 5, .int .i64 4] stH [] = some ([], .string ⟨#[112, 101, 110, 100, 105, 110, 103]⟩, stH, [])) trivial⟩

theorem ac_any (s : Int) : ∃ S, (∀ h, AEq Try.prog 13 [.int .i64 s] h (.string S) h) ∧ AEq Try.prog 11 [slW 0 14, .int .i64 s] acH (.string S) acH := by
  rcases (by omega : s < 0 ∨ 0 ≤ s) with hs | hs
  · refine ⟨none4, fun h => ?_, ?_⟩
    · exact evFn_bare (by kernel_rfl : bareRun (evFn Try.prog 400 13 [.int .i64 s] [] [.is 6 (.bool true)]) = some ([Value.bool (decide (s < 0)) = .bool true], .string none4)) ⟨db hs, trivial⟩ rfl h
    · exact evFn_sound (by kernel_rfl : evFn Try.prog 400 11 [slW 0 14, .int .i64 s] acH [.is 6 (.bool true)] = some ([Value.bool (decide (s < 0)) = .bool true], .string none4, acH, [])) ⟨db hs, trivial⟩
  rcases (by omega : 13 < s ∨ s ≤ 13) with ht | ht
  · refine ⟨none4, fun h => ?_, ?_⟩
    · exact evFn_bare (by kernel_rfl : bareRun (evFn Try.prog 400 13 [.int .i64 s] [] [.is 6 (.bool false), .is 9 (.bool true)]) = some ([Value.bool (decide (s < 0)) = .bool false, Value.bool (decide (s ≥ 14)) = .bool true], .string none4)) ⟨dn (by omega), db (by omega), trivial⟩ rfl h
    · exact evFn_sound (by kernel_rfl : evFn Try.prog 400 11 [slW 0 14, .int .i64 s] acH [.is 6 (.bool false), .is 11 (.bool true)] = some ([Value.bool (decide (s < 0)) = .bool false, Value.bool (decide (s ≥ 14)) = .bool true], .string none4, acH, [])) ⟨dn (by omega), db (by omega), trivial⟩
  have hc : s = 0 ∨ s = 1 ∨ s = 2 ∨ s = 3 ∨ s = 4 ∨ s = 5 ∨ s = 6 ∨ s = 7 ∨ s = 8 ∨ s = 9 ∨ s = 10 ∨ s = 11 ∨ s = 12 ∨ s = 13 := by omega
  rcases hc with rfl | rfl | rfl | rfl | rfl | rfl | rfl | rfl | rfl | rfl | rfl | rfl | rfl | rfl
  · exact ⟨⟨#[116, 97, 107, 101, 45, 102, 115]⟩, fun h => evFn_bare (by kernel_rfl : bareRun (evFn Try.prog 400 13 [.int .i64 0] [] []) = some ([], .string ⟨#[116, 97, 107, 101, 45, 102, 115]⟩)) trivial rfl h,
      evFn_sound (by kernel_rfl : evFn Try.prog 400 11 [slW 0 14, .int .i64 0] acH [] = some ([], .string ⟨#[116, 97, 107, 101, 45, 102, 115]⟩, acH, [])) trivial⟩
  · exact ⟨⟨#[116, 97, 107, 101, 45, 115, 102]⟩, fun h => evFn_bare (by kernel_rfl : bareRun (evFn Try.prog 400 13 [.int .i64 1] [] []) = some ([], .string ⟨#[116, 97, 107, 101, 45, 115, 102]⟩)) trivial rfl h,
      evFn_sound (by kernel_rfl : evFn Try.prog 400 11 [slW 0 14, .int .i64 1] acH [] = some ([], .string ⟨#[116, 97, 107, 101, 45, 115, 102]⟩, acH, [])) trivial⟩
  · exact ⟨⟨#[116, 97, 107, 101, 45, 109, 115]⟩, fun h => evFn_bare (by kernel_rfl : bareRun (evFn Try.prog 400 13 [.int .i64 2] [] []) = some ([], .string ⟨#[116, 97, 107, 101, 45, 109, 115]⟩)) trivial rfl h,
      evFn_sound (by kernel_rfl : evFn Try.prog 400 11 [slW 0 14, .int .i64 2] acH [] = some ([], .string ⟨#[116, 97, 107, 101, 45, 109, 115]⟩, acH, [])) trivial⟩
  · exact ⟨⟨#[111, 112, 101, 110, 45, 115, 111, 117, 110, 100]⟩, fun h => evFn_bare (by kernel_rfl : bareRun (evFn Try.prog 400 13 [.int .i64 3] [] []) = some ([], .string ⟨#[111, 112, 101, 110, 45, 115, 111, 117, 110, 100]⟩)) trivial rfl h,
      evFn_sound (by kernel_rfl : evFn Try.prog 400 11 [slW 0 14, .int .i64 3] acH [] = some ([], .string ⟨#[111, 112, 101, 110, 45, 115, 111, 117, 110, 100]⟩, acH, [])) trivial⟩
  · exact ⟨⟨#[115, 105, 108, 101, 110, 99, 101]⟩, fun h => evFn_bare (by kernel_rfl : bareRun (evFn Try.prog 400 13 [.int .i64 4] [] []) = some ([], .string ⟨#[115, 105, 108, 101, 110, 99, 101]⟩)) trivial rfl h,
      evFn_sound (by kernel_rfl : evFn Try.prog 400 11 [slW 0 14, .int .i64 4] acH [] = some ([], .string ⟨#[115, 105, 108, 101, 110, 99, 101]⟩, acH, [])) trivial⟩
  · exact ⟨⟨#[103, 117, 97, 114, 100]⟩, fun h => evFn_bare (by kernel_rfl : bareRun (evFn Try.prog 400 13 [.int .i64 5] [] []) = some ([], .string ⟨#[103, 117, 97, 114, 100]⟩)) trivial rfl h,
      evFn_sound (by kernel_rfl : evFn Try.prog 400 11 [slW 0 14, .int .i64 5] acH [] = some ([], .string ⟨#[103, 117, 97, 114, 100]⟩, acH, [])) trivial⟩
  · exact ⟨⟨#[115, 97, 121, 45, 110, 111, 110, 101]⟩, fun h => evFn_bare (by kernel_rfl : bareRun (evFn Try.prog 400 13 [.int .i64 6] [] []) = some ([], .string ⟨#[115, 97, 121, 45, 110, 111, 110, 101]⟩)) trivial rfl h,
      evFn_sound (by kernel_rfl : evFn Try.prog 400 11 [slW 0 14, .int .i64 6] acH [] = some ([], .string ⟨#[115, 97, 121, 45, 110, 111, 110, 101]⟩, acH, [])) trivial⟩
  · exact ⟨⟨#[114, 101, 115, 116]⟩, fun h => evFn_bare (by kernel_rfl : bareRun (evFn Try.prog 400 13 [.int .i64 7] [] []) = some ([], .string ⟨#[114, 101, 115, 116]⟩)) trivial rfl h,
      evFn_sound (by kernel_rfl : evFn Try.prog 400 11 [slW 0 14, .int .i64 7] acH [] = some ([], .string ⟨#[114, 101, 115, 116]⟩, acH, [])) trivial⟩
  · exact ⟨⟨#[98, 108, 111, 99, 107, 45, 119, 97, 105, 116]⟩, fun h => evFn_bare (by kernel_rfl : bareRun (evFn Try.prog 400 13 [.int .i64 8] [] []) = some ([], .string ⟨#[98, 108, 111, 99, 107, 45, 119, 97, 105, 116]⟩)) trivial rfl h,
      evFn_sound (by kernel_rfl : evFn Try.prog 400 11 [slW 0 14, .int .i64 8] acH [] = some ([], .string ⟨#[98, 108, 111, 99, 107, 45, 119, 97, 105, 116]⟩, acH, [])) trivial⟩
  · exact ⟨⟨#[115, 116, 111, 112, 45, 119, 97, 105, 116, 115]⟩, fun h => evFn_bare (by kernel_rfl : bareRun (evFn Try.prog 400 13 [.int .i64 9] [] []) = some ([], .string ⟨#[115, 116, 111, 112, 45, 119, 97, 105, 116, 115]⟩)) trivial rfl h,
      evFn_sound (by kernel_rfl : evFn Try.prog 400 11 [slW 0 14, .int .i64 9] acH [] = some ([], .string ⟨#[115, 116, 111, 112, 45, 119, 97, 105, 116, 115]⟩, acH, [])) trivial⟩
  · exact ⟨⟨#[104, 111, 109, 101]⟩, fun h => evFn_bare (by kernel_rfl : bareRun (evFn Try.prog 400 13 [.int .i64 10] [] []) = some ([], .string ⟨#[104, 111, 109, 101]⟩)) trivial rfl h,
      evFn_sound (by kernel_rfl : evFn Try.prog 400 11 [slW 0 14, .int .i64 10] acH [] = some ([], .string ⟨#[104, 111, 109, 101]⟩, acH, [])) trivial⟩
  · exact ⟨⟨#[104, 111, 109, 101, 45, 102, 97, 114]⟩, fun h => evFn_bare (by kernel_rfl : bareRun (evFn Try.prog 400 13 [.int .i64 11] [] []) = some ([], .string ⟨#[104, 111, 109, 101, 45, 102, 97, 114]⟩)) trivial rfl h,
      evFn_sound (by kernel_rfl : evFn Try.prog 400 11 [slW 0 14, .int .i64 11] acH [] = some ([], .string ⟨#[104, 111, 109, 101, 45, 102, 97, 114]⟩, acH, [])) trivial⟩
  · exact ⟨⟨#[121, 105, 101, 108, 100]⟩, fun h => evFn_bare (by kernel_rfl : bareRun (evFn Try.prog 400 13 [.int .i64 12] [] []) = some ([], .string ⟨#[121, 105, 101, 108, 100]⟩)) trivial rfl h,
      evFn_sound (by kernel_rfl : evFn Try.prog 400 11 [slW 0 14, .int .i64 12] acH [] = some ([], .string ⟨#[121, 105, 101, 108, 100]⟩, acH, [])) trivial⟩
  · exact ⟨⟨#[111, 112, 101, 110, 45, 97, 108, 108]⟩, fun h => evFn_bare (by kernel_rfl : bareRun (evFn Try.prog 400 13 [.int .i64 13] [] []) = some ([], .string ⟨#[111, 112, 101, 110, 45, 97, 108, 108]⟩)) trivial rfl h,
      evFn_sound (by kernel_rfl : evFn Try.prog 400 11 [slW 0 14, .int .i64 13] acH [] = some ([], .string ⟨#[111, 112, 101, 110, 45, 97, 108, 108]⟩, acH, [])) trivial⟩

end Go.Proofs.Chart
