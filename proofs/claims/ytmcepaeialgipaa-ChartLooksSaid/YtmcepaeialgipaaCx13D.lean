/- What chart.Look gives at each state and request. -/
import Derived.Test.YtmcepaeialgipaaCxAX21
import Derived.Test.YtmcepaeialgipaaCx13A
namespace Go.Proofs.Chart
open Go Go.AX Go.Proofs

def acts (L : List Nat) : List Value := L.map fun (n : Nat) => .int .i64 (n : Int)
def lookV (L : List Nat) (nx N : Nat) : Value :=
  match L with
  | [] => .tuple ⟨[.slice none 0 0, .int .i64 nx]⟩
  | L => .tuple ⟨[.slice (some ⟨N, 0, none⟩) L.length UNK, .int .i64 nx]⟩
def lookH (L : List Nat) : AHeap :=
  match L with
  | [] => []
  | L => [.row (acts L) 27 1]

theorem rn_lookV (L : List Nat) (nx N : Nat) : rnV (up N) (lookV L nx 0) = lookV L nx N := by
  cases L <;> simp [lookV, rnV, rn2, rn1, up]

theorem rn_acts (N : Nat) (L : List Nat) : (acts L).map (rnV (up N)) = acts L := by
  simp [acts, rnV, rn2, rn1]

theorem rn_lookH (L : List Nat) (N : Nat) : (lookH L).map (rnO (up N)) = lookH L := by
  cases L with
  | nil => rfl
  | cons a l => simp only [lookH, List.map_cons, List.map_nil, rnO, rn_acts]

theorem ok_acts (p : Nat → Bool) (L : List Nat) : (acts L).all (okIds p) = true := by
  simp [acts, okIds, okId2, okId1]

theorem ok_look (L : List Nat) (nx : Nat) : (okIds (fun i => decide (i < (lookH L).length)) (lookV L nx 0) && (lookH L).all fun o => notRo o && okObj (fun i => decide (i < (lookH L).length)) o) = true := by
  cases L with
  | nil => rfl
  | cons a l =>
    have := ok_acts (fun i => decide (i < (lookH (a :: l)).length)) (a :: l)
    simp only [lookH, lookV, List.all_cons, List.all_nil, Bool.and_true, notRo, okObj, Bool.true_and] at this ⊢
    rw [this]
    rfl

def LookIs (s k : Int) (m : Bool) (L : List Nat) (nx : Nat) : Prop :=
  ∀ h : AHeap, AEq Try.prog 6 [.int .i64 s, .int .i64 k, .bool m] h (lookV L nx h.length) (h ++ lookH L)

theorem look_of {s k : Int} {m : Bool} (keep : List Nat) {L : List Nat} {nx : Nat}
    (he : trimRun keep (evFn Try.prog 400 6 [.int .i64 s, .int .i64 k, .bool m] [] [.inl, .inl, .call vb hb]) = some ([AEq Try.prog 16 [] [] vb hb], lookV L nx 0, lookH L)) : LookIs s k m L nx := by
  intro h
  have := evFn_new keep he ⟨build_eq, trivial⟩ rfl (ok_look L nx) h
  rw [rn_lookV, rn_lookH] at this
  exact this

set_option maxRecDepth 1000000
theorem look_0_0_0 : LookIs 0 0 false [] 0 := look_of [] (by kernel_rfl)
theorem look_0_0_1 : LookIs 0 0 true [] 0 := look_of [] (by kernel_rfl)
theorem look_0_1_0 : LookIs 0 1 false [0, 9] 3 := look_of [38] (by kernel_rfl)
theorem look_0_1_1 : LookIs 0 1 true [0, 9] 3 := look_of [38] (by kernel_rfl)
theorem look_0_2_0 : LookIs 0 2 false [13, 4, 9] 3 := look_of [38] (by kernel_rfl)
theorem look_0_2_1 : LookIs 0 2 true [13, 4, 9] 3 := look_of [38] (by kernel_rfl)
theorem look_0_3_0 : LookIs 0 3 false [1, 9] 1 := look_of [38] (by kernel_rfl)
theorem look_0_3_1 : LookIs 0 3 true [1, 9] 1 := look_of [38] (by kernel_rfl)
theorem look_0_4_0 : LookIs 0 4 false [] 0 := look_of [] (by kernel_rfl)
theorem look_0_4_1 : LookIs 0 4 true [] 0 := look_of [] (by kernel_rfl)
theorem look_0_5_0 : LookIs 0 5 false [3, 4, 9] 1 := look_of [38] (by kernel_rfl)
theorem look_0_5_1 : LookIs 0 5 true [3, 4, 9] 1 := look_of [38] (by kernel_rfl)
theorem look_0_6_0 : LookIs 0 6 false [3, 4, 9] 2 := look_of [38] (by kernel_rfl)
theorem look_0_6_1 : LookIs 0 6 true [3, 4, 9] 2 := look_of [38] (by kernel_rfl)
theorem look_0_7_0 : LookIs 0 7 false [2, 9] 2 := look_of [38] (by kernel_rfl)
theorem look_0_7_1 : LookIs 0 7 true [2, 9] 2 := look_of [38] (by kernel_rfl)
theorem look_0_8_0 : LookIs 0 8 false [] 0 := look_of [] (by kernel_rfl)
theorem look_0_8_1 : LookIs 0 8 true [] 0 := look_of [] (by kernel_rfl)
theorem look_0_9_0 : LookIs 0 9 false [] 0 := look_of [] (by kernel_rfl)
theorem look_0_9_1 : LookIs 0 9 true [] 0 := look_of [] (by kernel_rfl)
theorem look_0_10_0 : LookIs 0 10 false [] 0 := look_of [] (by kernel_rfl)
theorem look_0_10_1 : LookIs 0 10 true [] 0 := look_of [] (by kernel_rfl)
theorem look_0_11_0 : LookIs 0 11 false [] 0 := look_of [] (by kernel_rfl)
theorem look_0_11_1 : LookIs 0 11 true [] 0 := look_of [] (by kernel_rfl)
theorem look_0_12_0 : LookIs 0 12 false [11] 0 := look_of [38] (by kernel_rfl)
theorem look_0_12_1 : LookIs 0 12 true [] 0 := look_of [] (by kernel_rfl)
theorem look_0_13_0 : LookIs 0 13 false [12] 0 := look_of [38] (by kernel_rfl)
theorem look_0_13_1 : LookIs 0 13 true [12] 0 := look_of [38] (by kernel_rfl)
theorem look_1_0_0 : LookIs 1 0 false [] 1 := look_of [] (by kernel_rfl)
theorem look_1_0_1 : LookIs 1 0 true [] 1 := look_of [] (by kernel_rfl)
theorem look_1_1_0 : LookIs 1 1 false [0, 9] 3 := look_of [38] (by kernel_rfl)
theorem look_1_1_1 : LookIs 1 1 true [0, 9] 3 := look_of [38] (by kernel_rfl)
theorem look_1_2_0 : LookIs 1 2 false [13, 4, 9] 3 := look_of [38] (by kernel_rfl)
theorem look_1_2_1 : LookIs 1 2 true [13, 4, 9] 3 := look_of [38] (by kernel_rfl)
theorem look_1_3_0 : LookIs 1 3 false [1, 9] 1 := look_of [38] (by kernel_rfl)
theorem look_1_3_1 : LookIs 1 3 true [1, 9] 1 := look_of [38] (by kernel_rfl)
theorem look_1_4_0 : LookIs 1 4 false [5, 6, 7] 4 := look_of [38] (by kernel_rfl)
theorem look_1_4_1 : LookIs 1 4 true [5, 6, 7] 4 := look_of [38] (by kernel_rfl)
theorem look_1_5_0 : LookIs 1 5 false [3, 4, 9] 1 := look_of [38] (by kernel_rfl)
theorem look_1_5_1 : LookIs 1 5 true [3, 4, 9] 1 := look_of [38] (by kernel_rfl)
theorem look_1_6_0 : LookIs 1 6 false [] 1 := look_of [] (by kernel_rfl)
theorem look_1_6_1 : LookIs 1 6 true [] 1 := look_of [] (by kernel_rfl)
theorem look_1_7_0 : LookIs 1 7 false [] 1 := look_of [] (by kernel_rfl)
theorem look_1_7_1 : LookIs 1 7 true [] 1 := look_of [] (by kernel_rfl)
theorem look_1_8_0 : LookIs 1 8 false [] 1 := look_of [] (by kernel_rfl)
theorem look_1_8_1 : LookIs 1 8 true [] 1 := look_of [] (by kernel_rfl)
theorem look_1_9_0 : LookIs 1 9 false [] 1 := look_of [] (by kernel_rfl)
theorem look_1_9_1 : LookIs 1 9 true [] 1 := look_of [] (by kernel_rfl)
theorem look_1_10_0 : LookIs 1 10 false [] 1 := look_of [] (by kernel_rfl)
theorem look_1_10_1 : LookIs 1 10 true [] 1 := look_of [] (by kernel_rfl)
theorem look_1_11_0 : LookIs 1 11 false [] 1 := look_of [] (by kernel_rfl)
theorem look_1_11_1 : LookIs 1 11 true [] 1 := look_of [] (by kernel_rfl)
theorem look_1_12_0 : LookIs 1 12 false [11] 0 := look_of [38] (by kernel_rfl)
theorem look_1_12_1 : LookIs 1 12 true [] 1 := look_of [] (by kernel_rfl)
theorem look_1_13_0 : LookIs 1 13 false [7] 4 := look_of [38] (by kernel_rfl)
theorem look_1_13_1 : LookIs 1 13 true [7] 4 := look_of [38] (by kernel_rfl)
theorem look_2_0_0 : LookIs 2 0 false [] 2 := look_of [] (by kernel_rfl)
theorem look_2_0_1 : LookIs 2 0 true [5, 6, 8] 4 := look_of [38] (by kernel_rfl)
theorem look_2_1_0 : LookIs 2 1 false [0, 9] 3 := look_of [38] (by kernel_rfl)
theorem look_2_1_1 : LookIs 2 1 true [0, 9] 3 := look_of [38] (by kernel_rfl)
theorem look_2_2_0 : LookIs 2 2 false [13, 4, 9] 3 := look_of [38] (by kernel_rfl)
theorem look_2_2_1 : LookIs 2 2 true [13, 4, 9] 3 := look_of [38] (by kernel_rfl)
theorem look_2_3_0 : LookIs 2 3 false [1, 9] 1 := look_of [38] (by kernel_rfl)
theorem look_2_3_1 : LookIs 2 3 true [1, 9] 1 := look_of [38] (by kernel_rfl)
theorem look_2_4_0 : LookIs 2 4 false [] 2 := look_of [] (by kernel_rfl)
theorem look_2_4_1 : LookIs 2 4 true [] 2 := look_of [] (by kernel_rfl)
theorem look_2_5_0 : LookIs 2 5 false [3, 4, 9] 1 := look_of [38] (by kernel_rfl)
theorem look_2_5_1 : LookIs 2 5 true [3, 4, 9] 1 := look_of [38] (by kernel_rfl)
theorem look_2_6_0 : LookIs 2 6 false [3, 4] 2 := look_of [38] (by kernel_rfl)
theorem look_2_6_1 : LookIs 2 6 true [5, 6, 8] 4 := look_of [38] (by kernel_rfl)
theorem look_2_7_0 : LookIs 2 7 false [] 2 := look_of [] (by kernel_rfl)
theorem look_2_7_1 : LookIs 2 7 true [] 2 := look_of [] (by kernel_rfl)
theorem look_2_8_0 : LookIs 2 8 false [] 2 := look_of [] (by kernel_rfl)
theorem look_2_8_1 : LookIs 2 8 true [] 2 := look_of [] (by kernel_rfl)
theorem look_2_9_0 : LookIs 2 9 false [] 2 := look_of [] (by kernel_rfl)
theorem look_2_9_1 : LookIs 2 9 true [] 2 := look_of [] (by kernel_rfl)
theorem look_2_10_0 : LookIs 2 10 false [] 2 := look_of [] (by kernel_rfl)
theorem look_2_10_1 : LookIs 2 10 true [] 2 := look_of [] (by kernel_rfl)
theorem look_2_11_0 : LookIs 2 11 false [] 2 := look_of [] (by kernel_rfl)
theorem look_2_11_1 : LookIs 2 11 true [] 2 := look_of [] (by kernel_rfl)
theorem look_2_12_0 : LookIs 2 12 false [11] 0 := look_of [38] (by kernel_rfl)
theorem look_2_12_1 : LookIs 2 12 true [] 2 := look_of [] (by kernel_rfl)
theorem look_2_13_0 : LookIs 2 13 false [8] 4 := look_of [38] (by kernel_rfl)
theorem look_2_13_1 : LookIs 2 13 true [] 2 := look_of [] (by kernel_rfl)
theorem look_3_0_0 : LookIs 3 0 false [] 3 := look_of [] (by kernel_rfl)
theorem look_3_0_1 : LookIs 3 0 true [5, 6, 8] 4 := look_of [38] (by kernel_rfl)
theorem look_3_1_0 : LookIs 3 1 false [0, 9] 3 := look_of [38] (by kernel_rfl)
theorem look_3_1_1 : LookIs 3 1 true [0, 9] 3 := look_of [38] (by kernel_rfl)
theorem look_3_2_0 : LookIs 3 2 false [] 3 := look_of [] (by kernel_rfl)
theorem look_3_2_1 : LookIs 3 2 true [] 3 := look_of [] (by kernel_rfl)
theorem look_3_3_0 : LookIs 3 3 false [] 3 := look_of [] (by kernel_rfl)
theorem look_3_3_1 : LookIs 3 3 true [] 3 := look_of [] (by kernel_rfl)
theorem look_3_4_0 : LookIs 3 4 false [] 3 := look_of [] (by kernel_rfl)
theorem look_3_4_1 : LookIs 3 4 true [] 3 := look_of [] (by kernel_rfl)
theorem look_3_5_0 : LookIs 3 5 false [] 3 := look_of [] (by kernel_rfl)
theorem look_3_5_1 : LookIs 3 5 true [] 3 := look_of [] (by kernel_rfl)
theorem look_3_6_0 : LookIs 3 6 false [] 3 := look_of [] (by kernel_rfl)
theorem look_3_6_1 : LookIs 3 6 true [] 3 := look_of [] (by kernel_rfl)
theorem look_3_7_0 : LookIs 3 7 false [] 3 := look_of [] (by kernel_rfl)
theorem look_3_7_1 : LookIs 3 7 true [] 3 := look_of [] (by kernel_rfl)
theorem look_3_8_0 : LookIs 3 8 false [] 3 := look_of [] (by kernel_rfl)
theorem look_3_8_1 : LookIs 3 8 true [] 3 := look_of [] (by kernel_rfl)
theorem look_3_9_0 : LookIs 3 9 false [] 3 := look_of [] (by kernel_rfl)
theorem look_3_9_1 : LookIs 3 9 true [] 3 := look_of [] (by kernel_rfl)
theorem look_3_10_0 : LookIs 3 10 false [] 3 := look_of [] (by kernel_rfl)
theorem look_3_10_1 : LookIs 3 10 true [] 3 := look_of [] (by kernel_rfl)
theorem look_3_11_0 : LookIs 3 11 false [] 3 := look_of [] (by kernel_rfl)
theorem look_3_11_1 : LookIs 3 11 true [] 3 := look_of [] (by kernel_rfl)
theorem look_3_12_0 : LookIs 3 12 false [11] 0 := look_of [38] (by kernel_rfl)
theorem look_3_12_1 : LookIs 3 12 true [] 3 := look_of [] (by kernel_rfl)
theorem look_3_13_0 : LookIs 3 13 false [8] 4 := look_of [38] (by kernel_rfl)
theorem look_3_13_1 : LookIs 3 13 true [] 3 := look_of [] (by kernel_rfl)
theorem look_4_0_0 : LookIs 4 0 false [10, 9] 0 := look_of [38] (by kernel_rfl)
theorem look_4_0_1 : LookIs 4 0 true [10, 9] 0 := look_of [38] (by kernel_rfl)
theorem look_4_1_0 : LookIs 4 1 false [0, 9] 3 := look_of [38] (by kernel_rfl)
theorem look_4_1_1 : LookIs 4 1 true [0, 9] 3 := look_of [38] (by kernel_rfl)
theorem look_4_2_0 : LookIs 4 2 false [13, 4, 9] 3 := look_of [38] (by kernel_rfl)
theorem look_4_2_1 : LookIs 4 2 true [13, 4, 9] 3 := look_of [38] (by kernel_rfl)
theorem look_4_3_0 : LookIs 4 3 false [1, 9] 1 := look_of [38] (by kernel_rfl)
theorem look_4_3_1 : LookIs 4 3 true [1, 9] 1 := look_of [38] (by kernel_rfl)
theorem look_4_4_0 : LookIs 4 4 false [] 4 := look_of [] (by kernel_rfl)
theorem look_4_4_1 : LookIs 4 4 true [] 4 := look_of [] (by kernel_rfl)
theorem look_4_5_0 : LookIs 4 5 false [3, 4, 9] 1 := look_of [38] (by kernel_rfl)
theorem look_4_5_1 : LookIs 4 5 true [3, 4, 9] 1 := look_of [38] (by kernel_rfl)
theorem look_4_6_0 : LookIs 4 6 false [3, 4, 9] 2 := look_of [38] (by kernel_rfl)
theorem look_4_6_1 : LookIs 4 6 true [3, 4, 9] 2 := look_of [38] (by kernel_rfl)
theorem look_4_7_0 : LookIs 4 7 false [2, 9] 2 := look_of [38] (by kernel_rfl)
theorem look_4_7_1 : LookIs 4 7 true [2, 9] 2 := look_of [38] (by kernel_rfl)
theorem look_4_8_0 : LookIs 4 8 false [10, 9] 0 := look_of [38] (by kernel_rfl)
theorem look_4_8_1 : LookIs 4 8 true [10, 9] 0 := look_of [38] (by kernel_rfl)
theorem look_4_9_0 : LookIs 4 9 false [] 4 := look_of [] (by kernel_rfl)
theorem look_4_9_1 : LookIs 4 9 true [] 4 := look_of [] (by kernel_rfl)
theorem look_4_10_0 : LookIs 4 10 false [10, 9] 0 := look_of [38] (by kernel_rfl)
theorem look_4_10_1 : LookIs 4 10 true [10, 9] 0 := look_of [38] (by kernel_rfl)
theorem look_4_11_0 : LookIs 4 11 false [] 4 := look_of [] (by kernel_rfl)
theorem look_4_11_1 : LookIs 4 11 true [] 4 := look_of [] (by kernel_rfl)
theorem look_4_12_0 : LookIs 4 12 false [11] 0 := look_of [38] (by kernel_rfl)
theorem look_4_12_1 : LookIs 4 12 true [] 4 := look_of [] (by kernel_rfl)
theorem look_4_13_0 : LookIs 4 13 false [12] 4 := look_of [38] (by kernel_rfl)
theorem look_4_13_1 : LookIs 4 13 true [12] 4 := look_of [38] (by kernel_rfl)

end Go.Proofs.Chart
