/- Part 5 of 6 of the proof of: ErpsOwns holds for every input, without conditions -/
import Derived.Test.YtbjjohonfbdcmaaGreatP4
import Derived.Test.YtbjjohonfbdcmaaGreatProg
namespace Go.Proofs.E17
open Go Go.AX Go.Proofs
set_option maxRecDepth 1000000
set_option linter.unusedVariables false
set_option linter.unusedSimpArgs false

def ask10_x0 (n : Nd) (now : Int) (port : Int) (fro : Int) : Nd × Bool := take n now n.rpl (Msg.mk 0 true false false 0) true
def ask10 (n : Nd) (now : Int) (port : Int) (fro : Int) : Nd × Bool × Bool :=
  bif (reqAbove (stands n) 10) then
    (n, false, false)
  else
    bif n.state == 4 then
      bif n.role != 1 then
        (n, false, false)
      else
        bif (ask10_x0 n now port fro).2 then
          ({ ((ask10_x0 n now port fro).1) with state := 0, own := 14, bank := { (((ask10_x0 n now port fro).1).bank) with r := 0, w := 0 } }, true, true)
        else
          ({ ((ask10_x0 n now port fro).1) with state := 0, own := 14, bank := { (((ask10_x0 n now port fro).1).bank) with r := 0, w := 0 } }, false, true)
    else
      (n, false, false)
def ask10_c (i : Nat) (r : Nd × Bool × Bool) : Dir := .callL (.tuple ⟨[.bool r.2.1, .bool r.2.2]⟩) [(i, .cells (Nd.enc r.1) 44 37)]
def ask10_G (n : Nd) (now : Int) (port : Int) (fro : Int) (r : Nd × Bool × Bool) : Prop := AEq Tryz.prog 36 [.pointer (some ⟨0, 0, none⟩), .agg ⟨[.int .i64 now, .int .i64 10, .int .i64 port, .int .u64 fro]⟩] [.cells (Nd.enc n) 44 37] (.tuple ⟨[.bool r.2.1, .bool r.2.2]⟩) [.cells (Nd.enc r.1) 44 37]
theorem ask10_0 (n : Nd) (now : Int) (port : Int) (fro : Int) (hr : n.role ≠ 0 → n.rpl = 0 ∨ n.rpl = 1) : ask10_G n now port fro (ask10 n now port fro) := by
  unfold ask10
  apply bi <;> intro hb0
  · refine run1 400 (stands_c (stands n) :: .heap :: reqAbove_c (reqAbove (stands n) 10) :: .heap :: gds 6 20 true ([.lit])) (o_ (stands_eq n) (o_ (reqAbove_eq (stands n) 10) (oN 6 hb0 o0))) ?_; kernel_rfl
  · apply bi <;> intro hb1
    · apply bi <;> intro hb2
      · refine run1 400 (stands_c (stands n) :: .heap :: reqAbove_c (reqAbove (stands n) 10) :: .heap :: gds 6 20 false (.inl :: lits 3 (.gd 16 true :: [.br true]))) (o_ (stands_eq n) (o_ (reqAbove_eq (stands n) 10) (oN 6 hb0 (o_ hb1 (o_ hb2 o0))))) ?_; kernel_rfl
      · refine bySame (n.own != 14) ?_
        apply bi <;> intro hb3
        · apply bi <;> intro hb4
          · refine run1 400 (stands_c (stands n) :: .heap :: reqAbove_c (reqAbove (stands n) 10) :: .heap :: gds 6 20 false (.inl :: lits 3 (.gd 16 true :: .br false :: .is 32 (.int .i64 4) :: .is 39 (.bool true) :: .callN (.tuple ⟨[.slice (some ⟨0, 0, none⟩) 2 UNK, .int .i64 0]⟩) [] [.row [.int .i64 10, .int .i64 9] 131 1] :: .heap :: .lit :: .lit :: .inl :: lits 4 (take_c 0 (ask10_x0 n now port fro) :: .gd 56 true :: .lit :: .inl :: lits 11 (.inl :: .inl :: .lit :: .inl :: .inl :: lits 3 (.inl :: lits 7 [])))))) (o_ (stands_eq n) (o_ (reqAbove_eq (stands n) 10) (oN 6 hb0 (o_ hb1 (o_ hb2 (o_ (ieq .i64 hb1) (o_ (bis hb3) (o_ look_4_10_1_eq (o_ (take_eq n now n.rpl (Msg.mk 0 true false false 0) true (by first | omega | (simp only [zor, zand, zorf, zandf, znt, znf, zeq, zne, zeqf, znef, zd, zdf] at *; omega)) 0) (o_ hb4 o0)))))))))) ?_; kernel_rfl
          · refine run1 400 (stands_c (stands n) :: .heap :: reqAbove_c (reqAbove (stands n) 10) :: .heap :: gds 6 20 false (.inl :: lits 3 (.gd 16 true :: .br false :: .is 32 (.int .i64 4) :: .is 39 (.bool true) :: .callN (.tuple ⟨[.slice (some ⟨0, 0, none⟩) 2 UNK, .int .i64 0]⟩) [] [.row [.int .i64 10, .int .i64 9] 131 1] :: .heap :: .lit :: .lit :: .inl :: lits 4 (take_c 0 (ask10_x0 n now port fro) :: .gd 56 false :: .lit :: .inl :: lits 11 (.inl :: .inl :: .lit :: .inl :: .inl :: lits 3 (.inl :: lits 7 [])))))) (o_ (stands_eq n) (o_ (reqAbove_eq (stands n) 10) (oN 6 hb0 (o_ hb1 (o_ hb2 (o_ (ieq .i64 hb1) (o_ (bis hb3) (o_ look_4_10_1_eq (o_ (take_eq n now n.rpl (Msg.mk 0 true false false 0) true (by first | omega | (simp only [zor, zand, zorf, zandf, znt, znf, zeq, zne, zeqf, znef, zd, zdf] at *; omega)) 0) (o_ hb4 o0)))))))))) ?_; kernel_rfl
        · apply bi <;> intro hb4
          · refine run1 400 (stands_c (stands n) :: .heap :: reqAbove_c (reqAbove (stands n) 10) :: .heap :: gds 6 20 false (.inl :: lits 3 (.gd 16 true :: .br false :: .is 32 (.int .i64 4) :: .is 39 (.bool false) :: .callN (.tuple ⟨[.slice (some ⟨0, 0, none⟩) 2 UNK, .int .i64 0]⟩) [] [.row [.int .i64 10, .int .i64 9] 131 1] :: .heap :: .lit :: .lit :: .inl :: lits 4 (take_c 0 (ask10_x0 n now port fro) :: .gd 56 true :: .lit :: .inl :: lits 11 (.inl :: .inl :: .lit :: .inl :: .inl :: lits 3 (.inl :: lits 7 [])))))) (o_ (stands_eq n) (o_ (reqAbove_eq (stands n) 10) (oN 6 hb0 (o_ hb1 (o_ hb2 (o_ (ieq .i64 hb1) (o_ (bis hb3) (o_ look_4_10_0_eq (o_ (take_eq n now n.rpl (Msg.mk 0 true false false 0) true (by first | omega | (simp only [zor, zand, zorf, zandf, znt, znf, zeq, zne, zeqf, znef, zd, zdf] at *; omega)) 0) (o_ hb4 o0)))))))))) ?_; kernel_rfl
          · refine run1 400 (stands_c (stands n) :: .heap :: reqAbove_c (reqAbove (stands n) 10) :: .heap :: gds 6 20 false (.inl :: lits 3 (.gd 16 true :: .br false :: .is 32 (.int .i64 4) :: .is 39 (.bool false) :: .callN (.tuple ⟨[.slice (some ⟨0, 0, none⟩) 2 UNK, .int .i64 0]⟩) [] [.row [.int .i64 10, .int .i64 9] 131 1] :: .heap :: .lit :: .lit :: .inl :: lits 4 (take_c 0 (ask10_x0 n now port fro) :: .gd 56 false :: .lit :: .inl :: lits 11 (.inl :: .inl :: .lit :: .inl :: .inl :: lits 3 (.inl :: lits 7 [])))))) (o_ (stands_eq n) (o_ (reqAbove_eq (stands n) 10) (oN 6 hb0 (o_ hb1 (o_ hb2 (o_ (ieq .i64 hb1) (o_ (bis hb3) (o_ look_4_10_0_eq (o_ (take_eq n now n.rpl (Msg.mk 0 true false false 0) true (by first | omega | (simp only [zor, zand, zorf, zandf, znt, znf, zeq, zne, zeqf, znef, zd, zdf] at *; omega)) 0) (o_ hb4 o0)))))))))) ?_; kernel_rfl
    · refine bySame (n.state == 0) ?_
      apply bi <;> intro hb2
      · refine bySame (n.own != 14) ?_
        apply bi <;> intro hb3
        · refine run1 400 (stands_c (stands n) :: .heap :: reqAbove_c (reqAbove (stands n) 10) :: .heap :: gds 6 20 false (.inl :: lits 3 (.gd 16 false :: .lit :: .is 32 (.int .i64 0) :: .is 39 (.bool true) :: .callN (.tuple ⟨[.slice none 0 0, .int .i64 0]⟩) [] [] :: .heap :: [.lit]))) (o_ (stands_eq n) (o_ (reqAbove_eq (stands n) 10) (oN 6 hb0 (o_ hb1 (o_ (ieq .i64 hb2) (o_ (bis hb3) (o_ look_0_10_1_eq o0))))))) ?_; kernel_rfl
        · refine run1 400 (stands_c (stands n) :: .heap :: reqAbove_c (reqAbove (stands n) 10) :: .heap :: gds 6 20 false (.inl :: lits 3 (.gd 16 false :: .lit :: .is 32 (.int .i64 0) :: .is 39 (.bool false) :: .callN (.tuple ⟨[.slice none 0 0, .int .i64 0]⟩) [] [] :: .heap :: [.lit]))) (o_ (stands_eq n) (o_ (reqAbove_eq (stands n) 10) (oN 6 hb0 (o_ hb1 (o_ (ieq .i64 hb2) (o_ (bis hb3) (o_ look_0_10_0_eq o0))))))) ?_; kernel_rfl
      · refine bySame (n.state == 1) ?_
        apply bi <;> intro hb3
        · refine bySame (n.own != 14) ?_
          apply bi <;> intro hb4
          · refine run1 400 (stands_c (stands n) :: .heap :: reqAbove_c (reqAbove (stands n) 10) :: .heap :: gds 6 20 false (.inl :: lits 3 (.gd 16 false :: .lit :: .is 32 (.int .i64 1) :: .is 39 (.bool true) :: .callN (.tuple ⟨[.slice none 0 0, .int .i64 1]⟩) [] [] :: .heap :: [.lit]))) (o_ (stands_eq n) (o_ (reqAbove_eq (stands n) 10) (oN 6 hb0 (o_ hb1 (o_ (ieq .i64 hb3) (o_ (bis hb4) (o_ look_1_10_1_eq o0))))))) ?_; kernel_rfl
          · refine run1 400 (stands_c (stands n) :: .heap :: reqAbove_c (reqAbove (stands n) 10) :: .heap :: gds 6 20 false (.inl :: lits 3 (.gd 16 false :: .lit :: .is 32 (.int .i64 1) :: .is 39 (.bool false) :: .callN (.tuple ⟨[.slice none 0 0, .int .i64 1]⟩) [] [] :: .heap :: [.lit]))) (o_ (stands_eq n) (o_ (reqAbove_eq (stands n) 10) (oN 6 hb0 (o_ hb1 (o_ (ieq .i64 hb3) (o_ (bis hb4) (o_ look_1_10_0_eq o0))))))) ?_; kernel_rfl
        · refine bySame (n.state == 2) ?_
          apply bi <;> intro hb4
          · refine bySame (n.own != 14) ?_
            apply bi <;> intro hb5
            · refine run1 400 (stands_c (stands n) :: .heap :: reqAbove_c (reqAbove (stands n) 10) :: .heap :: gds 6 20 false (.inl :: lits 3 (.gd 16 false :: .lit :: .is 32 (.int .i64 2) :: .is 39 (.bool true) :: .callN (.tuple ⟨[.slice none 0 0, .int .i64 2]⟩) [] [] :: .heap :: [.lit]))) (o_ (stands_eq n) (o_ (reqAbove_eq (stands n) 10) (oN 6 hb0 (o_ hb1 (o_ (ieq .i64 hb4) (o_ (bis hb5) (o_ look_2_10_1_eq o0))))))) ?_; kernel_rfl
            · refine run1 400 (stands_c (stands n) :: .heap :: reqAbove_c (reqAbove (stands n) 10) :: .heap :: gds 6 20 false (.inl :: lits 3 (.gd 16 false :: .lit :: .is 32 (.int .i64 2) :: .is 39 (.bool false) :: .callN (.tuple ⟨[.slice none 0 0, .int .i64 2]⟩) [] [] :: .heap :: [.lit]))) (o_ (stands_eq n) (o_ (reqAbove_eq (stands n) 10) (oN 6 hb0 (o_ hb1 (o_ (ieq .i64 hb4) (o_ (bis hb5) (o_ look_2_10_0_eq o0))))))) ?_; kernel_rfl
          · refine bySame (n.state == 3) ?_
            apply bi <;> intro hb5
            · refine bySame (n.own != 14) ?_
              apply bi <;> intro hb6
              · refine run1 400 (stands_c (stands n) :: .heap :: reqAbove_c (reqAbove (stands n) 10) :: .heap :: gds 6 20 false (.inl :: lits 3 (.gd 16 false :: .lit :: .is 32 (.int .i64 3) :: .is 39 (.bool true) :: .callN (.tuple ⟨[.slice none 0 0, .int .i64 3]⟩) [] [] :: .heap :: [.lit]))) (o_ (stands_eq n) (o_ (reqAbove_eq (stands n) 10) (oN 6 hb0 (o_ hb1 (o_ (ieq .i64 hb5) (o_ (bis hb6) (o_ look_3_10_1_eq o0))))))) ?_; kernel_rfl
              · refine run1 400 (stands_c (stands n) :: .heap :: reqAbove_c (reqAbove (stands n) 10) :: .heap :: gds 6 20 false (.inl :: lits 3 (.gd 16 false :: .lit :: .is 32 (.int .i64 3) :: .is 39 (.bool false) :: .callN (.tuple ⟨[.slice none 0 0, .int .i64 3]⟩) [] [] :: .heap :: [.lit]))) (o_ (stands_eq n) (o_ (reqAbove_eq (stands n) 10) (oN 6 hb0 (o_ hb1 (o_ (ieq .i64 hb5) (o_ (bis hb6) (o_ look_3_10_0_eq o0))))))) ?_; kernel_rfl
            · refine run1 400 (stands_c (stands n) :: .heap :: reqAbove_c (reqAbove (stands n) 10) :: .heap :: gds 6 20 false (.inl :: lits 3 (.gd 16 false :: .lit :: .callL (.tuple ⟨[.slice none 0 0, .int .i64 n.state]⟩) [] :: .heap :: [.lit]))) (o_ (stands_eq n) (o_ (reqAbove_eq (stands n) 10) (oN 6 hb0 (o_ hb1 (o_ (lookOut_eq n.state 10 (n.own != 14) (by first | omega | (simp only [zor, zand, zorf, zandf, znt, znf, zeq, zne, zeqf, znef, zd, zdf] at *; omega))) o0))))) ?_; kernel_rfl
theorem ask10_eq (n : Nd) (now : Int) (port : Int) (fro : Int) (hr : n.role ≠ 0 → n.rpl = 0 ∨ n.rpl = 1) (i : Nat) : AOn Tryz.prog 36 [.pointer (some ⟨i, 0, none⟩), .agg ⟨[.int .i64 now, .int .i64 10, .int .i64 port, .int .u64 fro]⟩] [(i, .cells (Nd.enc n) 44 37)] (.tuple ⟨[.bool ((ask10 n now port fro).2.1), .bool ((ask10 n now port fro).2.2)]⟩) [(i, .cells (Nd.enc ((ask10 n now port fro).1)) 44 37)] :=
  AEq.on1 (ask10_0 n now port fro hr) i rfl rfl rfl rfl
def ask10_S (n : Nd) (now : Int) (port : Int) (fro : Int) (r : Nd × Bool × Bool) : Prop := Same n r.1
theorem ask10_same (n : Nd) (now : Int) (port : Int) (fro : Int) : ask10_S n now port fro (ask10 n now port fro) := by
  unfold ask10
  refine byIte (fun _ => ?_) (fun _ => ?_)
  exact (Same.refl n)
  refine byIte (fun _ => ?_) (fun _ => ?_)
  refine byIte (fun _ => ?_) (fun _ => ?_)
  exact (Same.refl n)
  refine byIte (fun _ => ?_) (fun _ => ?_)
  exact ((Same.refl n).trans (take_same n now n.rpl (Msg.mk 0 true false false 0) true))
  exact ((Same.refl n).trans (take_same n now n.rpl (Msg.mk 0 true false false 0) true))
  exact (Same.refl n)

def ask12 (n : Nd) (now : Int) (port : Int) (fro : Int) : Nd × Bool × Bool :=
  bif (reqAbove (stands n) 12) || (n.role == 1) then
    (n, false, false)
  else
    bif (n.state == 0) || ((n.state == 1) || ((n.state == 2) || ((n.state == 3) || (n.state == 4)))) then
      bif n.own != 14 then
        (n, false, false)
      else
        ({ (homeFar n) with state := 0, own := 14 }, false, true)
    else
      (n, false, false)
def ask12_c (i : Nat) (r : Nd × Bool × Bool) : Dir := .callL (.tuple ⟨[.bool r.2.1, .bool r.2.2]⟩) [(i, .cells (Nd.enc r.1) 44 37)]
def ask12_G (n : Nd) (now : Int) (port : Int) (fro : Int) (r : Nd × Bool × Bool) : Prop := AEq Tryz.prog 36 [.pointer (some ⟨0, 0, none⟩), .agg ⟨[.int .i64 now, .int .i64 12, .int .i64 port, .int .u64 fro]⟩] [.cells (Nd.enc n) 44 37] (.tuple ⟨[.bool r.2.1, .bool r.2.2]⟩) [.cells (Nd.enc r.1) 44 37]
theorem ask12_0 (n : Nd) (now : Int) (port : Int) (fro : Int) (hr : n.role ≠ 0 → n.rpl = 0 ∨ n.rpl = 1) : ask12_G n now port fro (ask12 n now port fro) := by
  unfold ask12
  refine byOr ?_
  apply bi <;> intro hb0
  · refine run1 400 (stands_c (stands n) :: .heap :: reqAbove_c (reqAbove (stands n) 12) :: .heap :: gds 6 20 true ([.lit])) (o_ (stands_eq n) (o_ (reqAbove_eq (stands n) 12) (oN 6 hb0 o0))) ?_; kernel_rfl
  · apply bi <;> intro hb1
    · refine run1 400 (stands_c (stands n) :: .heap :: reqAbove_c (reqAbove (stands n) 12) :: .heap :: gds 6 20 false (.inl :: lits 4 ([.br true]))) (o_ (stands_eq n) (o_ (reqAbove_eq (stands n) 12) (oN 6 hb0 (o_ hb1 o0)))) ?_; kernel_rfl
    · refine byOr ?_
      apply bi <;> intro hb2
      · apply bi <;> intro hb3
        · refine run1 400 (stands_c (stands n) :: .heap :: reqAbove_c (reqAbove (stands n) 12) :: .heap :: gds 6 20 false (.inl :: lits 4 (.br false :: .is 32 (.int .i64 0) :: .is 39 (.bool true) :: .callN (.tuple ⟨[.slice none 0 0, .int .i64 0]⟩) [] [] :: .heap :: [.lit]))) (o_ (stands_eq n) (o_ (reqAbove_eq (stands n) 12) (oN 6 hb0 (o_ hb1 (o_ (ieq .i64 hb2) (o_ (bis hb3) (o_ look_0_12_1_eq o0))))))) ?_; kernel_rfl
        · refine run1 400 (stands_c (stands n) :: .heap :: reqAbove_c (reqAbove (stands n) 12) :: .heap :: gds 6 20 false (.inl :: lits 4 (.br false :: .is 32 (.int .i64 0) :: .is 39 (.bool false) :: .callN (.tuple ⟨[.slice (some ⟨0, 0, none⟩) 1 UNK, .int .i64 0]⟩) [] [.row [.int .i64 11] 131 1] :: .heap :: .lit :: .lit :: .inl :: lits 12 (homeFar_c 0 (homeFar n) :: .lit :: .lit :: .inl :: lits 7 [])))) (o_ (stands_eq n) (o_ (reqAbove_eq (stands n) 12) (oN 6 hb0 (o_ hb1 (o_ (ieq .i64 hb2) (o_ (bis hb3) (o_ look_0_12_0_eq (o_ (homeFar_eq n (by first | omega | (simp only [zor, zand, zorf, zandf, znt, znf, zeq, zne, zeqf, znef, zd, zdf] at *; omega)) 0) o0)))))))) ?_; kernel_rfl
      · refine byOr ?_
        apply bi <;> intro hb3
        · apply bi <;> intro hb4
          · refine run1 400 (stands_c (stands n) :: .heap :: reqAbove_c (reqAbove (stands n) 12) :: .heap :: gds 6 20 false (.inl :: lits 4 (.br false :: .is 32 (.int .i64 1) :: .is 39 (.bool true) :: .callN (.tuple ⟨[.slice none 0 0, .int .i64 1]⟩) [] [] :: .heap :: [.lit]))) (o_ (stands_eq n) (o_ (reqAbove_eq (stands n) 12) (oN 6 hb0 (o_ hb1 (o_ (ieq .i64 hb3) (o_ (bis hb4) (o_ look_1_12_1_eq o0))))))) ?_; kernel_rfl
          · refine run1 400 (stands_c (stands n) :: .heap :: reqAbove_c (reqAbove (stands n) 12) :: .heap :: gds 6 20 false (.inl :: lits 4 (.br false :: .is 32 (.int .i64 1) :: .is 39 (.bool false) :: .callN (.tuple ⟨[.slice (some ⟨0, 0, none⟩) 1 UNK, .int .i64 0]⟩) [] [.row [.int .i64 11] 131 1] :: .heap :: .lit :: .lit :: .inl :: lits 12 (homeFar_c 0 (homeFar n) :: .lit :: .lit :: .inl :: lits 7 [])))) (o_ (stands_eq n) (o_ (reqAbove_eq (stands n) 12) (oN 6 hb0 (o_ hb1 (o_ (ieq .i64 hb3) (o_ (bis hb4) (o_ look_1_12_0_eq (o_ (homeFar_eq n (by first | omega | (simp only [zor, zand, zorf, zandf, znt, znf, zeq, zne, zeqf, znef, zd, zdf] at *; omega)) 0) o0)))))))) ?_; kernel_rfl
        · refine byOr ?_
          apply bi <;> intro hb4
          · apply bi <;> intro hb5
            · refine run1 400 (stands_c (stands n) :: .heap :: reqAbove_c (reqAbove (stands n) 12) :: .heap :: gds 6 20 false (.inl :: lits 4 (.br false :: .is 32 (.int .i64 2) :: .is 39 (.bool true) :: .callN (.tuple ⟨[.slice none 0 0, .int .i64 2]⟩) [] [] :: .heap :: [.lit]))) (o_ (stands_eq n) (o_ (reqAbove_eq (stands n) 12) (oN 6 hb0 (o_ hb1 (o_ (ieq .i64 hb4) (o_ (bis hb5) (o_ look_2_12_1_eq o0))))))) ?_; kernel_rfl
            · refine run1 400 (stands_c (stands n) :: .heap :: reqAbove_c (reqAbove (stands n) 12) :: .heap :: gds 6 20 false (.inl :: lits 4 (.br false :: .is 32 (.int .i64 2) :: .is 39 (.bool false) :: .callN (.tuple ⟨[.slice (some ⟨0, 0, none⟩) 1 UNK, .int .i64 0]⟩) [] [.row [.int .i64 11] 131 1] :: .heap :: .lit :: .lit :: .inl :: lits 12 (homeFar_c 0 (homeFar n) :: .lit :: .lit :: .inl :: lits 7 [])))) (o_ (stands_eq n) (o_ (reqAbove_eq (stands n) 12) (oN 6 hb0 (o_ hb1 (o_ (ieq .i64 hb4) (o_ (bis hb5) (o_ look_2_12_0_eq (o_ (homeFar_eq n (by first | omega | (simp only [zor, zand, zorf, zandf, znt, znf, zeq, zne, zeqf, znef, zd, zdf] at *; omega)) 0) o0)))))))) ?_; kernel_rfl
          · refine byOr ?_
            apply bi <;> intro hb5
            · apply bi <;> intro hb6
              · refine run1 400 (stands_c (stands n) :: .heap :: reqAbove_c (reqAbove (stands n) 12) :: .heap :: gds 6 20 false (.inl :: lits 4 (.br false :: .is 32 (.int .i64 3) :: .is 39 (.bool true) :: .callN (.tuple ⟨[.slice none 0 0, .int .i64 3]⟩) [] [] :: .heap :: [.lit]))) (o_ (stands_eq n) (o_ (reqAbove_eq (stands n) 12) (oN 6 hb0 (o_ hb1 (o_ (ieq .i64 hb5) (o_ (bis hb6) (o_ look_3_12_1_eq o0))))))) ?_; kernel_rfl
              · refine run1 400 (stands_c (stands n) :: .heap :: reqAbove_c (reqAbove (stands n) 12) :: .heap :: gds 6 20 false (.inl :: lits 4 (.br false :: .is 32 (.int .i64 3) :: .is 39 (.bool false) :: .callN (.tuple ⟨[.slice (some ⟨0, 0, none⟩) 1 UNK, .int .i64 0]⟩) [] [.row [.int .i64 11] 131 1] :: .heap :: .lit :: .lit :: .inl :: lits 12 (homeFar_c 0 (homeFar n) :: .lit :: .lit :: .inl :: lits 7 [])))) (o_ (stands_eq n) (o_ (reqAbove_eq (stands n) 12) (oN 6 hb0 (o_ hb1 (o_ (ieq .i64 hb5) (o_ (bis hb6) (o_ look_3_12_0_eq (o_ (homeFar_eq n (by first | omega | (simp only [zor, zand, zorf, zandf, znt, znf, zeq, zne, zeqf, znef, zd, zdf] at *; omega)) 0) o0)))))))) ?_; kernel_rfl
            · apply bi <;> intro hb6
              · apply bi <;> intro hb7
                · refine run1 400 (stands_c (stands n) :: .heap :: reqAbove_c (reqAbove (stands n) 12) :: .heap :: gds 6 20 false (.inl :: lits 4 (.br false :: .is 32 (.int .i64 4) :: .is 39 (.bool true) :: .callN (.tuple ⟨[.slice none 0 0, .int .i64 4]⟩) [] [] :: .heap :: [.lit]))) (o_ (stands_eq n) (o_ (reqAbove_eq (stands n) 12) (oN 6 hb0 (o_ hb1 (o_ (ieq .i64 hb6) (o_ (bis hb7) (o_ look_4_12_1_eq o0))))))) ?_; kernel_rfl
                · refine run1 400 (stands_c (stands n) :: .heap :: reqAbove_c (reqAbove (stands n) 12) :: .heap :: gds 6 20 false (.inl :: lits 4 (.br false :: .is 32 (.int .i64 4) :: .is 39 (.bool false) :: .callN (.tuple ⟨[.slice (some ⟨0, 0, none⟩) 1 UNK, .int .i64 0]⟩) [] [.row [.int .i64 11] 131 1] :: .heap :: .lit :: .lit :: .inl :: lits 12 (homeFar_c 0 (homeFar n) :: .lit :: .lit :: .inl :: lits 7 [])))) (o_ (stands_eq n) (o_ (reqAbove_eq (stands n) 12) (oN 6 hb0 (o_ hb1 (o_ (ieq .i64 hb6) (o_ (bis hb7) (o_ look_4_12_0_eq (o_ (homeFar_eq n (by first | omega | (simp only [zor, zand, zorf, zandf, znt, znf, zeq, zne, zeqf, znef, zd, zdf] at *; omega)) 0) o0)))))))) ?_; kernel_rfl
              · refine run1 400 (stands_c (stands n) :: .heap :: reqAbove_c (reqAbove (stands n) 12) :: .heap :: gds 6 20 false (.inl :: lits 4 (.br false :: .callL (.tuple ⟨[.slice none 0 0, .int .i64 n.state]⟩) [] :: .heap :: [.lit]))) (o_ (stands_eq n) (o_ (reqAbove_eq (stands n) 12) (oN 6 hb0 (o_ hb1 (o_ (lookOut_eq n.state 12 (n.own != 14) (by first | omega | (simp only [zor, zand, zorf, zandf, znt, znf, zeq, zne, zeqf, znef, zd, zdf] at *; omega))) o0))))) ?_; kernel_rfl
theorem ask12_eq (n : Nd) (now : Int) (port : Int) (fro : Int) (hr : n.role ≠ 0 → n.rpl = 0 ∨ n.rpl = 1) (i : Nat) : AOn Tryz.prog 36 [.pointer (some ⟨i, 0, none⟩), .agg ⟨[.int .i64 now, .int .i64 12, .int .i64 port, .int .u64 fro]⟩] [(i, .cells (Nd.enc n) 44 37)] (.tuple ⟨[.bool ((ask12 n now port fro).2.1), .bool ((ask12 n now port fro).2.2)]⟩) [(i, .cells (Nd.enc ((ask12 n now port fro).1)) 44 37)] :=
  AEq.on1 (ask12_0 n now port fro hr) i rfl rfl rfl rfl
def ask12_S (n : Nd) (now : Int) (port : Int) (fro : Int) (r : Nd × Bool × Bool) : Prop := Same n r.1
theorem ask12_same (n : Nd) (now : Int) (port : Int) (fro : Int) : ask12_S n now port fro (ask12 n now port fro) := by
  unfold ask12
  refine byIte (fun _ => ?_) (fun _ => ?_)
  exact (Same.refl n)
  refine byIte (fun _ => ?_) (fun _ => ?_)
  refine byIte (fun _ => ?_) (fun _ => ?_)
  exact (Same.refl n)
  exact ((Same.refl n).trans (homeFar_same n))
  exact (Same.refl n)

def ask13_x0 (n : Nd) (now : Int) (port : Int) (fro : Int) : Nd × Bool × Bool := ask3 { (waitFor1 n now n.rest) with state := 4, own := 14 } now 0 0
def ask13_x1 (n : Nd) (now : Int) (port : Int) (fro : Int) : Nd × Bool × Bool := ask3 { (waitFor1 n now n.rest) with state := 4, own := 14 } now 1 0
def ask13_x2 (n : Nd) (now : Int) (port : Int) (fro : Int) : Nd × Bool × Bool := ask3 { (waitFor2 n now n.wait) with state := 4, own := 14 } now 0 0
def ask13_x3 (n : Nd) (now : Int) (port : Int) (fro : Int) : Nd × Bool × Bool := ask3 { (waitFor2 n now n.wait) with state := 4, own := 14 } now 1 0
def ask13_x4 (n : Nd) (now : Int) (port : Int) (fro : Int) : Nd × Bool × Bool := ask3 { n with state := 4, own := 14 } now 0 0
def ask13_x5 (n : Nd) (now : Int) (port : Int) (fro : Int) : Nd × Bool × Bool := ask3 { n with state := 4, own := 14 } now 1 0
def ask13_x6 (n : Nd) (now : Int) (port : Int) (fro : Int) : Nd × Bool × Bool := ask3 { (silence (openSound n)) with state := 4, own := 14 } now 0 0
def ask13_x7 (n : Nd) (now : Int) (port : Int) (fro : Int) : Nd × Bool × Bool := ask3 { (silence (openSound n)) with state := 4, own := 14 } now 1 0
def ask13 (n : Nd) (now : Int) (port : Int) (fro : Int) : Nd × Bool × Bool :=
  bif (reqAbove (stands n) 13) then
    (n, false, false)
  else
    bif n.state == 0 then
      bif (n.role != 0) || (decide (fro ≤ n.me)) then
        ({ n with state := 0, own := 14 }, false, true)
      else
        ({ (silence (openSound n)) with state := 0, own := 14 }, false, true)
    else
      bif n.state == 1 then
        bif ((waitFor1 n now n.rest).bad).w then
          bif (ask13_x0 n now port fro).2.1 then
            bif (((ask13_x0 n now port fro).1).bad).e then
              (((ask3 ((ask13_x0 n now port fro).1) now 1 0).1), true, true)
            else
              (((ask13_x0 n now port fro).1), true, true)
          else
            bif (((ask13_x0 n now port fro).1).bad).e then
              bif (ask3 ((ask13_x0 n now port fro).1) now 1 0).2.1 then
                (((ask3 ((ask13_x0 n now port fro).1) now 1 0).1), true, true)
              else
                (((ask3 ((ask13_x0 n now port fro).1) now 1 0).1), false, true)
            else
              (((ask13_x0 n now port fro).1), false, true)
        else
          bif ((waitFor1 n now n.rest).bad).e then
            bif (ask13_x1 n now port fro).2.1 then
              (((ask13_x1 n now port fro).1), true, true)
            else
              (((ask13_x1 n now port fro).1), false, true)
          else
            ({ (waitFor1 n now n.rest) with state := 4, own := 14 }, false, true)
      else
        bif (n.state == 2) || (n.state == 3) then
          bif n.own != 14 then
            (n, false, false)
          else
            bif ((waitFor2 n now n.wait).bad).w then
              bif (ask13_x2 n now port fro).2.1 then
                bif (((ask13_x2 n now port fro).1).bad).e then
                  (((ask3 ((ask13_x2 n now port fro).1) now 1 0).1), true, true)
                else
                  (((ask13_x2 n now port fro).1), true, true)
              else
                bif (((ask13_x2 n now port fro).1).bad).e then
                  bif (ask3 ((ask13_x2 n now port fro).1) now 1 0).2.1 then
                    (((ask3 ((ask13_x2 n now port fro).1) now 1 0).1), true, true)
                  else
                    (((ask3 ((ask13_x2 n now port fro).1) now 1 0).1), false, true)
                else
                  (((ask13_x2 n now port fro).1), false, true)
            else
              bif ((waitFor2 n now n.wait).bad).e then
                bif (ask13_x3 n now port fro).2.1 then
                  (((ask13_x3 n now port fro).1), true, true)
                else
                  (((ask13_x3 n now port fro).1), false, true)
              else
                ({ (waitFor2 n now n.wait) with state := 4, own := 14 }, false, true)
        else
          bif n.state == 4 then
            bif (n.role != 0) || (decide (fro ≤ n.me)) then
              bif n.bad.w then
                bif (ask13_x4 n now port fro).2.1 then
                  bif (((ask13_x4 n now port fro).1).bad).e then
                    (((ask3 ((ask13_x4 n now port fro).1) now 1 0).1), true, true)
                  else
                    (((ask13_x4 n now port fro).1), true, true)
                else
                  bif (((ask13_x4 n now port fro).1).bad).e then
                    bif (ask3 ((ask13_x4 n now port fro).1) now 1 0).2.1 then
                      (((ask3 ((ask13_x4 n now port fro).1) now 1 0).1), true, true)
                    else
                      (((ask3 ((ask13_x4 n now port fro).1) now 1 0).1), false, true)
                  else
                    (((ask13_x4 n now port fro).1), false, true)
              else
                bif n.bad.e then
                  bif (ask13_x5 n now port fro).2.1 then
                    (((ask13_x5 n now port fro).1), true, true)
                  else
                    (((ask13_x5 n now port fro).1), false, true)
                else
                  ({ n with state := 4, own := 14 }, false, true)
            else
              bif ((silence (openSound n)).bad).w then
                bif (ask13_x6 n now port fro).2.1 then
                  bif (((ask13_x6 n now port fro).1).bad).e then
                    (((ask3 ((ask13_x6 n now port fro).1) now 1 0).1), true, true)
                  else
                    (((ask13_x6 n now port fro).1), true, true)
                else
                  bif (((ask13_x6 n now port fro).1).bad).e then
                    bif (ask3 ((ask13_x6 n now port fro).1) now 1 0).2.1 then
                      (((ask3 ((ask13_x6 n now port fro).1) now 1 0).1), true, true)
                    else
                      (((ask3 ((ask13_x6 n now port fro).1) now 1 0).1), false, true)
                  else
                    (((ask13_x6 n now port fro).1), false, true)
              else
                bif ((silence (openSound n)).bad).e then
                  bif (ask13_x7 n now port fro).2.1 then
                    (((ask13_x7 n now port fro).1), true, true)
                  else
                    (((ask13_x7 n now port fro).1), false, true)
                else
                  ({ (silence (openSound n)) with state := 4, own := 14 }, false, true)
          else
            (n, false, false)
def ask13_c (i : Nat) (r : Nd × Bool × Bool) : Dir := .callL (.tuple ⟨[.bool r.2.1, .bool r.2.2]⟩) [(i, .cells (Nd.enc r.1) 44 37)]
def ask13_G (n : Nd) (now : Int) (port : Int) (fro : Int) (r : Nd × Bool × Bool) : Prop := AEq Tryz.prog 36 [.pointer (some ⟨0, 0, none⟩), .agg ⟨[.int .i64 now, .int .i64 13, .int .i64 port, .int .u64 fro]⟩] [.cells (Nd.enc n) 44 37] (.tuple ⟨[.bool r.2.1, .bool r.2.2]⟩) [.cells (Nd.enc r.1) 44 37]
theorem ask13_0 (n : Nd) (now : Int) (port : Int) (fro : Int) : ask13_G n now port fro (ask13 n now port fro) := by
  unfold ask13
  apply bi <;> intro hb0
  · refine run1 400 (stands_c (stands n) :: .heap :: reqAbove_c (reqAbove (stands n) 13) :: .heap :: gds 6 20 true ([.lit])) (o_ (stands_eq n) (o_ (reqAbove_eq (stands n) 13) (oN 6 hb0 o0))) ?_; kernel_rfl
  · apply bi <;> intro hb1
    · refine bySame (n.own != 14) ?_
      apply bi <;> intro hb2
      · refine byOr ?_
        apply bi <;> intro hb3
        · refine run1 400 (stands_c (stands n) :: .heap :: reqAbove_c (reqAbove (stands n) 13) :: .heap :: gds 6 20 false (.inl :: lits 5 (.is 32 (.int .i64 0) :: .is 39 (.bool true) :: .callN (.tuple ⟨[.slice (some ⟨0, 0, none⟩) 1 UNK, .int .i64 0]⟩) [] [.row [.int .i64 12] 131 1] :: .heap :: .lit :: .lit :: .inl :: lits 13 (gds 7 130 true (lits 3 (.inl :: lits 7 [])))))) (o_ (stands_eq n) (o_ (reqAbove_eq (stands n) 13) (oN 6 hb0 (o_ (ieq .i64 hb1) (o_ (bis hb2) (o_ look_0_13_1_eq (oN 7 hb3 o0))))))) ?_; kernel_rfl
        · apply bi <;> intro hb4
          · refine run1 400 (stands_c (stands n) :: .heap :: reqAbove_c (reqAbove (stands n) 13) :: .heap :: gds 6 20 false (.inl :: lits 5 (.is 32 (.int .i64 0) :: .is 39 (.bool true) :: .callN (.tuple ⟨[.slice (some ⟨0, 0, none⟩) 1 UNK, .int .i64 0]⟩) [] [.row [.int .i64 12] 131 1] :: .heap :: .lit :: .lit :: .inl :: lits 13 (gds 7 130 false (.br true :: .lit :: .lit :: .inl :: lits 7 []))))) (o_ (stands_eq n) (o_ (reqAbove_eq (stands n) 13) (oN 6 hb0 (o_ (ieq .i64 hb1) (o_ (bis hb2) (o_ look_0_13_1_eq (oN 7 hb3 (o_ hb4 o0)))))))) ?_; kernel_rfl
          · refine run1 400 (stands_c (stands n) :: .heap :: reqAbove_c (reqAbove (stands n) 13) :: .heap :: gds 6 20 false (.inl :: lits 5 (.is 32 (.int .i64 0) :: .is 39 (.bool true) :: .callN (.tuple ⟨[.slice (some ⟨0, 0, none⟩) 1 UNK, .int .i64 0]⟩) [] [.row [.int .i64 12] 131 1] :: .heap :: .lit :: .lit :: .inl :: lits 13 (gds 7 130 false (.br false :: openSound_c 0 (openSound n) :: silence_c 0 (silence (openSound n)) :: .lit :: .lit :: .inl :: lits 7 []))))) (o_ (stands_eq n) (o_ (reqAbove_eq (stands n) 13) (oN 6 hb0 (o_ (ieq .i64 hb1) (o_ (bis hb2) (o_ look_0_13_1_eq (oN 7 hb3 (o_ hb4 (o_ (openSound_eq n 0) (o_ (silence_eq (openSound n) 0) o0)))))))))) ?_; kernel_rfl
      · refine byOr ?_
        apply bi <;> intro hb3
        · refine run1 400 (stands_c (stands n) :: .heap :: reqAbove_c (reqAbove (stands n) 13) :: .heap :: gds 6 20 false (.inl :: lits 5 (.is 32 (.int .i64 0) :: .is 39 (.bool false) :: .callN (.tuple ⟨[.slice (some ⟨0, 0, none⟩) 1 UNK, .int .i64 0]⟩) [] [.row [.int .i64 12] 131 1] :: .heap :: .lit :: .lit :: .inl :: lits 13 (gds 7 130 true (lits 3 (.inl :: lits 7 [])))))) (o_ (stands_eq n) (o_ (reqAbove_eq (stands n) 13) (oN 6 hb0 (o_ (ieq .i64 hb1) (o_ (bis hb2) (o_ look_0_13_0_eq (oN 7 hb3 o0))))))) ?_; kernel_rfl
        · apply bi <;> intro hb4
          · refine run1 400 (stands_c (stands n) :: .heap :: reqAbove_c (reqAbove (stands n) 13) :: .heap :: gds 6 20 false (.inl :: lits 5 (.is 32 (.int .i64 0) :: .is 39 (.bool false) :: .callN (.tuple ⟨[.slice (some ⟨0, 0, none⟩) 1 UNK, .int .i64 0]⟩) [] [.row [.int .i64 12] 131 1] :: .heap :: .lit :: .lit :: .inl :: lits 13 (gds 7 130 false (.br true :: .lit :: .lit :: .inl :: lits 7 []))))) (o_ (stands_eq n) (o_ (reqAbove_eq (stands n) 13) (oN 6 hb0 (o_ (ieq .i64 hb1) (o_ (bis hb2) (o_ look_0_13_0_eq (oN 7 hb3 (o_ hb4 o0)))))))) ?_; kernel_rfl
          · refine run1 400 (stands_c (stands n) :: .heap :: reqAbove_c (reqAbove (stands n) 13) :: .heap :: gds 6 20 false (.inl :: lits 5 (.is 32 (.int .i64 0) :: .is 39 (.bool false) :: .callN (.tuple ⟨[.slice (some ⟨0, 0, none⟩) 1 UNK, .int .i64 0]⟩) [] [.row [.int .i64 12] 131 1] :: .heap :: .lit :: .lit :: .inl :: lits 13 (gds 7 130 false (.br false :: openSound_c 0 (openSound n) :: silence_c 0 (silence (openSound n)) :: .lit :: .lit :: .inl :: lits 7 []))))) (o_ (stands_eq n) (o_ (reqAbove_eq (stands n) 13) (oN 6 hb0 (o_ (ieq .i64 hb1) (o_ (bis hb2) (o_ look_0_13_0_eq (oN 7 hb3 (o_ hb4 (o_ (openSound_eq n 0) (o_ (silence_eq (openSound n) 0) o0)))))))))) ?_; kernel_rfl
    · apply bi <;> intro hb2
      · refine bySame (n.own != 14) ?_
        apply bi <;> intro hb3
        · apply bi <;> intro hb4
          · apply bi <;> intro hb5
            · apply bi <;> intro hb6
              · refine bySame ((ask3 ((ask13_x0 n now port fro).1) now 1 0).2.1) ?_
                apply bi <;> intro hb7
                · refine run1 400 (stands_c (stands n) :: .heap :: reqAbove_c (reqAbove (stands n) 13) :: .heap :: gds 6 20 false (.inl :: lits 5 (.is 32 (.int .i64 1) :: .is 39 (.bool true) :: .callN (.tuple ⟨[.slice (some ⟨0, 0, none⟩) 1 UNK, .int .i64 4]⟩) [] [.row [.int .i64 7] 131 1] :: .heap :: .lit :: .lit :: .inl :: lits 9 (waitFor1_c 0 (waitFor1 n now n.rest) :: .lit :: .lit :: .inl :: lits 8 (.br true :: ask3_c 0 (ask13_x0 n now port fro) :: .gd 114 true :: .lit :: .br true :: ask3_c 0 (ask3 ((ask13_x0 n now port fro).1) now 1 0) :: .gd 114 true :: [.lit]))))) (o_ (stands_eq n) (o_ (reqAbove_eq (stands n) 13) (oN 6 hb0 (o_ (ieq .i64 hb2) (o_ (bis hb3) (o_ look_1_13_1_eq (o_ (waitFor1_eq n now n.rest 0) (o_ hb4 (o_ (ask3_eq { (waitFor1 n now n.rest) with state := 4, own := 14 } now 0 0 (.inl rfl) 0) (o_ hb5 (o_ hb6 (o_ (ask3_eq ((ask13_x0 n now port fro).1) now 1 0 (.inr rfl) 0) (o_ hb7 o0))))))))))))) ?_; kernel_rfl
                · refine run1 400 (stands_c (stands n) :: .heap :: reqAbove_c (reqAbove (stands n) 13) :: .heap :: gds 6 20 false (.inl :: lits 5 (.is 32 (.int .i64 1) :: .is 39 (.bool true) :: .callN (.tuple ⟨[.slice (some ⟨0, 0, none⟩) 1 UNK, .int .i64 4]⟩) [] [.row [.int .i64 7] 131 1] :: .heap :: .lit :: .lit :: .inl :: lits 9 (waitFor1_c 0 (waitFor1 n now n.rest) :: .lit :: .lit :: .inl :: lits 8 (.br true :: ask3_c 0 (ask13_x0 n now port fro) :: .gd 114 true :: .lit :: .br true :: ask3_c 0 (ask3 ((ask13_x0 n now port fro).1) now 1 0) :: .gd 114 false :: [.lit]))))) (o_ (stands_eq n) (o_ (reqAbove_eq (stands n) 13) (oN 6 hb0 (o_ (ieq .i64 hb2) (o_ (bis hb3) (o_ look_1_13_1_eq (o_ (waitFor1_eq n now n.rest 0) (o_ hb4 (o_ (ask3_eq { (waitFor1 n now n.rest) with state := 4, own := 14 } now 0 0 (.inl rfl) 0) (o_ hb5 (o_ hb6 (o_ (ask3_eq ((ask13_x0 n now port fro).1) now 1 0 (.inr rfl) 0) (o_ hb7 o0))))))))))))) ?_; kernel_rfl
              · refine run1 400 (stands_c (stands n) :: .heap :: reqAbove_c (reqAbove (stands n) 13) :: .heap :: gds 6 20 false (.inl :: lits 5 (.is 32 (.int .i64 1) :: .is 39 (.bool true) :: .callN (.tuple ⟨[.slice (some ⟨0, 0, none⟩) 1 UNK, .int .i64 4]⟩) [] [.row [.int .i64 7] 131 1] :: .heap :: .lit :: .lit :: .inl :: lits 9 (waitFor1_c 0 (waitFor1 n now n.rest) :: .lit :: .lit :: .inl :: lits 8 (.br true :: ask3_c 0 (ask13_x0 n now port fro) :: .gd 114 true :: .lit :: .br false :: [.lit]))))) (o_ (stands_eq n) (o_ (reqAbove_eq (stands n) 13) (oN 6 hb0 (o_ (ieq .i64 hb2) (o_ (bis hb3) (o_ look_1_13_1_eq (o_ (waitFor1_eq n now n.rest 0) (o_ hb4 (o_ (ask3_eq { (waitFor1 n now n.rest) with state := 4, own := 14 } now 0 0 (.inl rfl) 0) (o_ hb5 (o_ hb6 o0))))))))))) ?_; kernel_rfl
            · apply bi <;> intro hb6
              · apply bi <;> intro hb7
                · refine run1 400 (stands_c (stands n) :: .heap :: reqAbove_c (reqAbove (stands n) 13) :: .heap :: gds 6 20 false (.inl :: lits 5 (.is 32 (.int .i64 1) :: .is 39 (.bool true) :: .callN (.tuple ⟨[.slice (some ⟨0, 0, none⟩) 1 UNK, .int .i64 4]⟩) [] [.row [.int .i64 7] 131 1] :: .heap :: .lit :: .lit :: .inl :: lits 9 (waitFor1_c 0 (waitFor1 n now n.rest) :: .lit :: .lit :: .inl :: lits 8 (.br true :: ask3_c 0 (ask13_x0 n now port fro) :: .gd 114 false :: .lit :: .br true :: ask3_c 0 (ask3 ((ask13_x0 n now port fro).1) now 1 0) :: .gd 114 true :: [.lit]))))) (o_ (stands_eq n) (o_ (reqAbove_eq (stands n) 13) (oN 6 hb0 (o_ (ieq .i64 hb2) (o_ (bis hb3) (o_ look_1_13_1_eq (o_ (waitFor1_eq n now n.rest 0) (o_ hb4 (o_ (ask3_eq { (waitFor1 n now n.rest) with state := 4, own := 14 } now 0 0 (.inl rfl) 0) (o_ hb5 (o_ hb6 (o_ (ask3_eq ((ask13_x0 n now port fro).1) now 1 0 (.inr rfl) 0) (o_ hb7 o0))))))))))))) ?_; kernel_rfl
                · refine run1 400 (stands_c (stands n) :: .heap :: reqAbove_c (reqAbove (stands n) 13) :: .heap :: gds 6 20 false (.inl :: lits 5 (.is 32 (.int .i64 1) :: .is 39 (.bool true) :: .callN (.tuple ⟨[.slice (some ⟨0, 0, none⟩) 1 UNK, .int .i64 4]⟩) [] [.row [.int .i64 7] 131 1] :: .heap :: .lit :: .lit :: .inl :: lits 9 (waitFor1_c 0 (waitFor1 n now n.rest) :: .lit :: .lit :: .inl :: lits 8 (.br true :: ask3_c 0 (ask13_x0 n now port fro) :: .gd 114 false :: .lit :: .br true :: ask3_c 0 (ask3 ((ask13_x0 n now port fro).1) now 1 0) :: .gd 114 false :: [.lit]))))) (o_ (stands_eq n) (o_ (reqAbove_eq (stands n) 13) (oN 6 hb0 (o_ (ieq .i64 hb2) (o_ (bis hb3) (o_ look_1_13_1_eq (o_ (waitFor1_eq n now n.rest 0) (o_ hb4 (o_ (ask3_eq { (waitFor1 n now n.rest) with state := 4, own := 14 } now 0 0 (.inl rfl) 0) (o_ hb5 (o_ hb6 (o_ (ask3_eq ((ask13_x0 n now port fro).1) now 1 0 (.inr rfl) 0) (o_ hb7 o0))))))))))))) ?_; kernel_rfl
              · refine run1 400 (stands_c (stands n) :: .heap :: reqAbove_c (reqAbove (stands n) 13) :: .heap :: gds 6 20 false (.inl :: lits 5 (.is 32 (.int .i64 1) :: .is 39 (.bool true) :: .callN (.tuple ⟨[.slice (some ⟨0, 0, none⟩) 1 UNK, .int .i64 4]⟩) [] [.row [.int .i64 7] 131 1] :: .heap :: .lit :: .lit :: .inl :: lits 9 (waitFor1_c 0 (waitFor1 n now n.rest) :: .lit :: .lit :: .inl :: lits 8 (.br true :: ask3_c 0 (ask13_x0 n now port fro) :: .gd 114 false :: .lit :: .br false :: [.lit]))))) (o_ (stands_eq n) (o_ (reqAbove_eq (stands n) 13) (oN 6 hb0 (o_ (ieq .i64 hb2) (o_ (bis hb3) (o_ look_1_13_1_eq (o_ (waitFor1_eq n now n.rest 0) (o_ hb4 (o_ (ask3_eq { (waitFor1 n now n.rest) with state := 4, own := 14 } now 0 0 (.inl rfl) 0) (o_ hb5 (o_ hb6 o0))))))))))) ?_; kernel_rfl
          · apply bi <;> intro hb5
            · apply bi <;> intro hb6
              · refine run1 400 (stands_c (stands n) :: .heap :: reqAbove_c (reqAbove (stands n) 13) :: .heap :: gds 6 20 false (.inl :: lits 5 (.is 32 (.int .i64 1) :: .is 39 (.bool true) :: .callN (.tuple ⟨[.slice (some ⟨0, 0, none⟩) 1 UNK, .int .i64 4]⟩) [] [.row [.int .i64 7] 131 1] :: .heap :: .lit :: .lit :: .inl :: lits 9 (waitFor1_c 0 (waitFor1 n now n.rest) :: .lit :: .lit :: .inl :: lits 8 (.br false :: .lit :: .br true :: ask3_c 0 (ask13_x1 n now port fro) :: .gd 114 true :: [.lit]))))) (o_ (stands_eq n) (o_ (reqAbove_eq (stands n) 13) (oN 6 hb0 (o_ (ieq .i64 hb2) (o_ (bis hb3) (o_ look_1_13_1_eq (o_ (waitFor1_eq n now n.rest 0) (o_ hb4 (o_ hb5 (o_ (ask3_eq { (waitFor1 n now n.rest) with state := 4, own := 14 } now 1 0 (.inr rfl) 0) (o_ hb6 o0))))))))))) ?_; kernel_rfl
              · refine run1 400 (stands_c (stands n) :: .heap :: reqAbove_c (reqAbove (stands n) 13) :: .heap :: gds 6 20 false (.inl :: lits 5 (.is 32 (.int .i64 1) :: .is 39 (.bool true) :: .callN (.tuple ⟨[.slice (some ⟨0, 0, none⟩) 1 UNK, .int .i64 4]⟩) [] [.row [.int .i64 7] 131 1] :: .heap :: .lit :: .lit :: .inl :: lits 9 (waitFor1_c 0 (waitFor1 n now n.rest) :: .lit :: .lit :: .inl :: lits 8 (.br false :: .lit :: .br true :: ask3_c 0 (ask13_x1 n now port fro) :: .gd 114 false :: [.lit]))))) (o_ (stands_eq n) (o_ (reqAbove_eq (stands n) 13) (oN 6 hb0 (o_ (ieq .i64 hb2) (o_ (bis hb3) (o_ look_1_13_1_eq (o_ (waitFor1_eq n now n.rest 0) (o_ hb4 (o_ hb5 (o_ (ask3_eq { (waitFor1 n now n.rest) with state := 4, own := 14 } now 1 0 (.inr rfl) 0) (o_ hb6 o0))))))))))) ?_; kernel_rfl
            · refine run1 400 (stands_c (stands n) :: .heap :: reqAbove_c (reqAbove (stands n) 13) :: .heap :: gds 6 20 false (.inl :: lits 5 (.is 32 (.int .i64 1) :: .is 39 (.bool true) :: .callN (.tuple ⟨[.slice (some ⟨0, 0, none⟩) 1 UNK, .int .i64 4]⟩) [] [.row [.int .i64 7] 131 1] :: .heap :: .lit :: .lit :: .inl :: lits 9 (waitFor1_c 0 (waitFor1 n now n.rest) :: .lit :: .lit :: .inl :: lits 8 (.br false :: .lit :: .br false :: [.lit]))))) (o_ (stands_eq n) (o_ (reqAbove_eq (stands n) 13) (oN 6 hb0 (o_ (ieq .i64 hb2) (o_ (bis hb3) (o_ look_1_13_1_eq (o_ (waitFor1_eq n now n.rest 0) (o_ hb4 (o_ hb5 o0))))))))) ?_; kernel_rfl
        · apply bi <;> intro hb4
          · apply bi <;> intro hb5
            · apply bi <;> intro hb6
              · refine bySame ((ask3 ((ask13_x0 n now port fro).1) now 1 0).2.1) ?_
                apply bi <;> intro hb7
                · refine run1 400 (stands_c (stands n) :: .heap :: reqAbove_c (reqAbove (stands n) 13) :: .heap :: gds 6 20 false (.inl :: lits 5 (.is 32 (.int .i64 1) :: .is 39 (.bool false) :: .callN (.tuple ⟨[.slice (some ⟨0, 0, none⟩) 1 UNK, .int .i64 4]⟩) [] [.row [.int .i64 7] 131 1] :: .heap :: .lit :: .lit :: .inl :: lits 9 (waitFor1_c 0 (waitFor1 n now n.rest) :: .lit :: .lit :: .inl :: lits 8 (.br true :: ask3_c 0 (ask13_x0 n now port fro) :: .gd 114 true :: .lit :: .br true :: ask3_c 0 (ask3 ((ask13_x0 n now port fro).1) now 1 0) :: .gd 114 true :: [.lit]))))) (o_ (stands_eq n) (o_ (reqAbove_eq (stands n) 13) (oN 6 hb0 (o_ (ieq .i64 hb2) (o_ (bis hb3) (o_ look_1_13_0_eq (o_ (waitFor1_eq n now n.rest 0) (o_ hb4 (o_ (ask3_eq { (waitFor1 n now n.rest) with state := 4, own := 14 } now 0 0 (.inl rfl) 0) (o_ hb5 (o_ hb6 (o_ (ask3_eq ((ask13_x0 n now port fro).1) now 1 0 (.inr rfl) 0) (o_ hb7 o0))))))))))))) ?_; kernel_rfl
                · refine run1 400 (stands_c (stands n) :: .heap :: reqAbove_c (reqAbove (stands n) 13) :: .heap :: gds 6 20 false (.inl :: lits 5 (.is 32 (.int .i64 1) :: .is 39 (.bool false) :: .callN (.tuple ⟨[.slice (some ⟨0, 0, none⟩) 1 UNK, .int .i64 4]⟩) [] [.row [.int .i64 7] 131 1] :: .heap :: .lit :: .lit :: .inl :: lits 9 (waitFor1_c 0 (waitFor1 n now n.rest) :: .lit :: .lit :: .inl :: lits 8 (.br true :: ask3_c 0 (ask13_x0 n now port fro) :: .gd 114 true :: .lit :: .br true :: ask3_c 0 (ask3 ((ask13_x0 n now port fro).1) now 1 0) :: .gd 114 false :: [.lit]))))) (o_ (stands_eq n) (o_ (reqAbove_eq (stands n) 13) (oN 6 hb0 (o_ (ieq .i64 hb2) (o_ (bis hb3) (o_ look_1_13_0_eq (o_ (waitFor1_eq n now n.rest 0) (o_ hb4 (o_ (ask3_eq { (waitFor1 n now n.rest) with state := 4, own := 14 } now 0 0 (.inl rfl) 0) (o_ hb5 (o_ hb6 (o_ (ask3_eq ((ask13_x0 n now port fro).1) now 1 0 (.inr rfl) 0) (o_ hb7 o0))))))))))))) ?_; kernel_rfl
              · refine run1 400 (stands_c (stands n) :: .heap :: reqAbove_c (reqAbove (stands n) 13) :: .heap :: gds 6 20 false (.inl :: lits 5 (.is 32 (.int .i64 1) :: .is 39 (.bool false) :: .callN (.tuple ⟨[.slice (some ⟨0, 0, none⟩) 1 UNK, .int .i64 4]⟩) [] [.row [.int .i64 7] 131 1] :: .heap :: .lit :: .lit :: .inl :: lits 9 (waitFor1_c 0 (waitFor1 n now n.rest) :: .lit :: .lit :: .inl :: lits 8 (.br true :: ask3_c 0 (ask13_x0 n now port fro) :: .gd 114 true :: .lit :: .br false :: [.lit]))))) (o_ (stands_eq n) (o_ (reqAbove_eq (stands n) 13) (oN 6 hb0 (o_ (ieq .i64 hb2) (o_ (bis hb3) (o_ look_1_13_0_eq (o_ (waitFor1_eq n now n.rest 0) (o_ hb4 (o_ (ask3_eq { (waitFor1 n now n.rest) with state := 4, own := 14 } now 0 0 (.inl rfl) 0) (o_ hb5 (o_ hb6 o0))))))))))) ?_; kernel_rfl
            · apply bi <;> intro hb6
              · apply bi <;> intro hb7
                · refine run1 400 (stands_c (stands n) :: .heap :: reqAbove_c (reqAbove (stands n) 13) :: .heap :: gds 6 20 false (.inl :: lits 5 (.is 32 (.int .i64 1) :: .is 39 (.bool false) :: .callN (.tuple ⟨[.slice (some ⟨0, 0, none⟩) 1 UNK, .int .i64 4]⟩) [] [.row [.int .i64 7] 131 1] :: .heap :: .lit :: .lit :: .inl :: lits 9 (waitFor1_c 0 (waitFor1 n now n.rest) :: .lit :: .lit :: .inl :: lits 8 (.br true :: ask3_c 0 (ask13_x0 n now port fro) :: .gd 114 false :: .lit :: .br true :: ask3_c 0 (ask3 ((ask13_x0 n now port fro).1) now 1 0) :: .gd 114 true :: [.lit]))))) (o_ (stands_eq n) (o_ (reqAbove_eq (stands n) 13) (oN 6 hb0 (o_ (ieq .i64 hb2) (o_ (bis hb3) (o_ look_1_13_0_eq (o_ (waitFor1_eq n now n.rest 0) (o_ hb4 (o_ (ask3_eq { (waitFor1 n now n.rest) with state := 4, own := 14 } now 0 0 (.inl rfl) 0) (o_ hb5 (o_ hb6 (o_ (ask3_eq ((ask13_x0 n now port fro).1) now 1 0 (.inr rfl) 0) (o_ hb7 o0))))))))))))) ?_; kernel_rfl
                · refine run1 400 (stands_c (stands n) :: .heap :: reqAbove_c (reqAbove (stands n) 13) :: .heap :: gds 6 20 false (.inl :: lits 5 (.is 32 (.int .i64 1) :: .is 39 (.bool false) :: .callN (.tuple ⟨[.slice (some ⟨0, 0, none⟩) 1 UNK, .int .i64 4]⟩) [] [.row [.int .i64 7] 131 1] :: .heap :: .lit :: .lit :: .inl :: lits 9 (waitFor1_c 0 (waitFor1 n now n.rest) :: .lit :: .lit :: .inl :: lits 8 (.br true :: ask3_c 0 (ask13_x0 n now port fro) :: .gd 114 false :: .lit :: .br true :: ask3_c 0 (ask3 ((ask13_x0 n now port fro).1) now 1 0) :: .gd 114 false :: [.lit]))))) (o_ (stands_eq n) (o_ (reqAbove_eq (stands n) 13) (oN 6 hb0 (o_ (ieq .i64 hb2) (o_ (bis hb3) (o_ look_1_13_0_eq (o_ (waitFor1_eq n now n.rest 0) (o_ hb4 (o_ (ask3_eq { (waitFor1 n now n.rest) with state := 4, own := 14 } now 0 0 (.inl rfl) 0) (o_ hb5 (o_ hb6 (o_ (ask3_eq ((ask13_x0 n now port fro).1) now 1 0 (.inr rfl) 0) (o_ hb7 o0))))))))))))) ?_; kernel_rfl
              · refine run1 400 (stands_c (stands n) :: .heap :: reqAbove_c (reqAbove (stands n) 13) :: .heap :: gds 6 20 false (.inl :: lits 5 (.is 32 (.int .i64 1) :: .is 39 (.bool false) :: .callN (.tuple ⟨[.slice (some ⟨0, 0, none⟩) 1 UNK, .int .i64 4]⟩) [] [.row [.int .i64 7] 131 1] :: .heap :: .lit :: .lit :: .inl :: lits 9 (waitFor1_c 0 (waitFor1 n now n.rest) :: .lit :: .lit :: .inl :: lits 8 (.br true :: ask3_c 0 (ask13_x0 n now port fro) :: .gd 114 false :: .lit :: .br false :: [.lit]))))) (o_ (stands_eq n) (o_ (reqAbove_eq (stands n) 13) (oN 6 hb0 (o_ (ieq .i64 hb2) (o_ (bis hb3) (o_ look_1_13_0_eq (o_ (waitFor1_eq n now n.rest 0) (o_ hb4 (o_ (ask3_eq { (waitFor1 n now n.rest) with state := 4, own := 14 } now 0 0 (.inl rfl) 0) (o_ hb5 (o_ hb6 o0))))))))))) ?_; kernel_rfl
          · apply bi <;> intro hb5
            · apply bi <;> intro hb6
              · refine run1 400 (stands_c (stands n) :: .heap :: reqAbove_c (reqAbove (stands n) 13) :: .heap :: gds 6 20 false (.inl :: lits 5 (.is 32 (.int .i64 1) :: .is 39 (.bool false) :: .callN (.tuple ⟨[.slice (some ⟨0, 0, none⟩) 1 UNK, .int .i64 4]⟩) [] [.row [.int .i64 7] 131 1] :: .heap :: .lit :: .lit :: .inl :: lits 9 (waitFor1_c 0 (waitFor1 n now n.rest) :: .lit :: .lit :: .inl :: lits 8 (.br false :: .lit :: .br true :: ask3_c 0 (ask13_x1 n now port fro) :: .gd 114 true :: [.lit]))))) (o_ (stands_eq n) (o_ (reqAbove_eq (stands n) 13) (oN 6 hb0 (o_ (ieq .i64 hb2) (o_ (bis hb3) (o_ look_1_13_0_eq (o_ (waitFor1_eq n now n.rest 0) (o_ hb4 (o_ hb5 (o_ (ask3_eq { (waitFor1 n now n.rest) with state := 4, own := 14 } now 1 0 (.inr rfl) 0) (o_ hb6 o0))))))))))) ?_; kernel_rfl
              · refine run1 400 (stands_c (stands n) :: .heap :: reqAbove_c (reqAbove (stands n) 13) :: .heap :: gds 6 20 false (.inl :: lits 5 (.is 32 (.int .i64 1) :: .is 39 (.bool false) :: .callN (.tuple ⟨[.slice (some ⟨0, 0, none⟩) 1 UNK, .int .i64 4]⟩) [] [.row [.int .i64 7] 131 1] :: .heap :: .lit :: .lit :: .inl :: lits 9 (waitFor1_c 0 (waitFor1 n now n.rest) :: .lit :: .lit :: .inl :: lits 8 (.br false :: .lit :: .br true :: ask3_c 0 (ask13_x1 n now port fro) :: .gd 114 false :: [.lit]))))) (o_ (stands_eq n) (o_ (reqAbove_eq (stands n) 13) (oN 6 hb0 (o_ (ieq .i64 hb2) (o_ (bis hb3) (o_ look_1_13_0_eq (o_ (waitFor1_eq n now n.rest 0) (o_ hb4 (o_ hb5 (o_ (ask3_eq { (waitFor1 n now n.rest) with state := 4, own := 14 } now 1 0 (.inr rfl) 0) (o_ hb6 o0))))))))))) ?_; kernel_rfl
            · refine run1 400 (stands_c (stands n) :: .heap :: reqAbove_c (reqAbove (stands n) 13) :: .heap :: gds 6 20 false (.inl :: lits 5 (.is 32 (.int .i64 1) :: .is 39 (.bool false) :: .callN (.tuple ⟨[.slice (some ⟨0, 0, none⟩) 1 UNK, .int .i64 4]⟩) [] [.row [.int .i64 7] 131 1] :: .heap :: .lit :: .lit :: .inl :: lits 9 (waitFor1_c 0 (waitFor1 n now n.rest) :: .lit :: .lit :: .inl :: lits 8 (.br false :: .lit :: .br false :: [.lit]))))) (o_ (stands_eq n) (o_ (reqAbove_eq (stands n) 13) (oN 6 hb0 (o_ (ieq .i64 hb2) (o_ (bis hb3) (o_ look_1_13_0_eq (o_ (waitFor1_eq n now n.rest 0) (o_ hb4 (o_ hb5 o0))))))))) ?_; kernel_rfl
      · refine byOr ?_
        apply bi <;> intro hb3
        · apply bi <;> intro hb4
          · refine run1 400 (stands_c (stands n) :: .heap :: reqAbove_c (reqAbove (stands n) 13) :: .heap :: gds 6 20 false (.inl :: lits 5 (.is 32 (.int .i64 2) :: .is 39 (.bool true) :: .callN (.tuple ⟨[.slice none 0 0, .int .i64 2]⟩) [] [] :: .heap :: [.lit]))) (o_ (stands_eq n) (o_ (reqAbove_eq (stands n) 13) (oN 6 hb0 (o_ (ieq .i64 hb3) (o_ (bis hb4) (o_ look_2_13_1_eq o0)))))) ?_; kernel_rfl
          · apply bi <;> intro hb5
            · apply bi <;> intro hb6
              · apply bi <;> intro hb7
                · refine bySame ((ask3 ((ask13_x2 n now port fro).1) now 1 0).2.1) ?_
                  apply bi <;> intro hb8
                  · refine run1 400 (stands_c (stands n) :: .heap :: reqAbove_c (reqAbove (stands n) 13) :: .heap :: gds 6 20 false (.inl :: lits 5 (.is 32 (.int .i64 2) :: .is 39 (.bool false) :: .callN (.tuple ⟨[.slice (some ⟨0, 0, none⟩) 1 UNK, .int .i64 4]⟩) [] [.row [.int .i64 8] 131 1] :: .heap :: .lit :: .lit :: .inl :: lits 10 (waitFor2_c 0 (waitFor2 n now n.wait) :: .lit :: .lit :: .inl :: lits 8 (.br true :: ask3_c 0 (ask13_x2 n now port fro) :: .gd 114 true :: .lit :: .br true :: ask3_c 0 (ask3 ((ask13_x2 n now port fro).1) now 1 0) :: .gd 114 true :: [.lit]))))) (o_ (stands_eq n) (o_ (reqAbove_eq (stands n) 13) (oN 6 hb0 (o_ (ieq .i64 hb3) (o_ (bis hb4) (o_ look_2_13_0_eq (o_ (waitFor2_eq n now n.wait 0) (o_ hb5 (o_ (ask3_eq { (waitFor2 n now n.wait) with state := 4, own := 14 } now 0 0 (.inl rfl) 0) (o_ hb6 (o_ hb7 (o_ (ask3_eq ((ask13_x2 n now port fro).1) now 1 0 (.inr rfl) 0) (o_ hb8 o0))))))))))))) ?_; kernel_rfl
                  · refine run1 400 (stands_c (stands n) :: .heap :: reqAbove_c (reqAbove (stands n) 13) :: .heap :: gds 6 20 false (.inl :: lits 5 (.is 32 (.int .i64 2) :: .is 39 (.bool false) :: .callN (.tuple ⟨[.slice (some ⟨0, 0, none⟩) 1 UNK, .int .i64 4]⟩) [] [.row [.int .i64 8] 131 1] :: .heap :: .lit :: .lit :: .inl :: lits 10 (waitFor2_c 0 (waitFor2 n now n.wait) :: .lit :: .lit :: .inl :: lits 8 (.br true :: ask3_c 0 (ask13_x2 n now port fro) :: .gd 114 true :: .lit :: .br true :: ask3_c 0 (ask3 ((ask13_x2 n now port fro).1) now 1 0) :: .gd 114 false :: [.lit]))))) (o_ (stands_eq n) (o_ (reqAbove_eq (stands n) 13) (oN 6 hb0 (o_ (ieq .i64 hb3) (o_ (bis hb4) (o_ look_2_13_0_eq (o_ (waitFor2_eq n now n.wait 0) (o_ hb5 (o_ (ask3_eq { (waitFor2 n now n.wait) with state := 4, own := 14 } now 0 0 (.inl rfl) 0) (o_ hb6 (o_ hb7 (o_ (ask3_eq ((ask13_x2 n now port fro).1) now 1 0 (.inr rfl) 0) (o_ hb8 o0))))))))))))) ?_; kernel_rfl
                · refine run1 400 (stands_c (stands n) :: .heap :: reqAbove_c (reqAbove (stands n) 13) :: .heap :: gds 6 20 false (.inl :: lits 5 (.is 32 (.int .i64 2) :: .is 39 (.bool false) :: .callN (.tuple ⟨[.slice (some ⟨0, 0, none⟩) 1 UNK, .int .i64 4]⟩) [] [.row [.int .i64 8] 131 1] :: .heap :: .lit :: .lit :: .inl :: lits 10 (waitFor2_c 0 (waitFor2 n now n.wait) :: .lit :: .lit :: .inl :: lits 8 (.br true :: ask3_c 0 (ask13_x2 n now port fro) :: .gd 114 true :: .lit :: .br false :: [.lit]))))) (o_ (stands_eq n) (o_ (reqAbove_eq (stands n) 13) (oN 6 hb0 (o_ (ieq .i64 hb3) (o_ (bis hb4) (o_ look_2_13_0_eq (o_ (waitFor2_eq n now n.wait 0) (o_ hb5 (o_ (ask3_eq { (waitFor2 n now n.wait) with state := 4, own := 14 } now 0 0 (.inl rfl) 0) (o_ hb6 (o_ hb7 o0))))))))))) ?_; kernel_rfl
              · apply bi <;> intro hb7
                · apply bi <;> intro hb8
                  · refine run1 400 (stands_c (stands n) :: .heap :: reqAbove_c (reqAbove (stands n) 13) :: .heap :: gds 6 20 false (.inl :: lits 5 (.is 32 (.int .i64 2) :: .is 39 (.bool false) :: .callN (.tuple ⟨[.slice (some ⟨0, 0, none⟩) 1 UNK, .int .i64 4]⟩) [] [.row [.int .i64 8] 131 1] :: .heap :: .lit :: .lit :: .inl :: lits 10 (waitFor2_c 0 (waitFor2 n now n.wait) :: .lit :: .lit :: .inl :: lits 8 (.br true :: ask3_c 0 (ask13_x2 n now port fro) :: .gd 114 false :: .lit :: .br true :: ask3_c 0 (ask3 ((ask13_x2 n now port fro).1) now 1 0) :: .gd 114 true :: [.lit]))))) (o_ (stands_eq n) (o_ (reqAbove_eq (stands n) 13) (oN 6 hb0 (o_ (ieq .i64 hb3) (o_ (bis hb4) (o_ look_2_13_0_eq (o_ (waitFor2_eq n now n.wait 0) (o_ hb5 (o_ (ask3_eq { (waitFor2 n now n.wait) with state := 4, own := 14 } now 0 0 (.inl rfl) 0) (o_ hb6 (o_ hb7 (o_ (ask3_eq ((ask13_x2 n now port fro).1) now 1 0 (.inr rfl) 0) (o_ hb8 o0))))))))))))) ?_; kernel_rfl
                  · refine run1 400 (stands_c (stands n) :: .heap :: reqAbove_c (reqAbove (stands n) 13) :: .heap :: gds 6 20 false (.inl :: lits 5 (.is 32 (.int .i64 2) :: .is 39 (.bool false) :: .callN (.tuple ⟨[.slice (some ⟨0, 0, none⟩) 1 UNK, .int .i64 4]⟩) [] [.row [.int .i64 8] 131 1] :: .heap :: .lit :: .lit :: .inl :: lits 10 (waitFor2_c 0 (waitFor2 n now n.wait) :: .lit :: .lit :: .inl :: lits 8 (.br true :: ask3_c 0 (ask13_x2 n now port fro) :: .gd 114 false :: .lit :: .br true :: ask3_c 0 (ask3 ((ask13_x2 n now port fro).1) now 1 0) :: .gd 114 false :: [.lit]))))) (o_ (stands_eq n) (o_ (reqAbove_eq (stands n) 13) (oN 6 hb0 (o_ (ieq .i64 hb3) (o_ (bis hb4) (o_ look_2_13_0_eq (o_ (waitFor2_eq n now n.wait 0) (o_ hb5 (o_ (ask3_eq { (waitFor2 n now n.wait) with state := 4, own := 14 } now 0 0 (.inl rfl) 0) (o_ hb6 (o_ hb7 (o_ (ask3_eq ((ask13_x2 n now port fro).1) now 1 0 (.inr rfl) 0) (o_ hb8 o0))))))))))))) ?_; kernel_rfl
                · refine run1 400 (stands_c (stands n) :: .heap :: reqAbove_c (reqAbove (stands n) 13) :: .heap :: gds 6 20 false (.inl :: lits 5 (.is 32 (.int .i64 2) :: .is 39 (.bool false) :: .callN (.tuple ⟨[.slice (some ⟨0, 0, none⟩) 1 UNK, .int .i64 4]⟩) [] [.row [.int .i64 8] 131 1] :: .heap :: .lit :: .lit :: .inl :: lits 10 (waitFor2_c 0 (waitFor2 n now n.wait) :: .lit :: .lit :: .inl :: lits 8 (.br true :: ask3_c 0 (ask13_x2 n now port fro) :: .gd 114 false :: .lit :: .br false :: [.lit]))))) (o_ (stands_eq n) (o_ (reqAbove_eq (stands n) 13) (oN 6 hb0 (o_ (ieq .i64 hb3) (o_ (bis hb4) (o_ look_2_13_0_eq (o_ (waitFor2_eq n now n.wait 0) (o_ hb5 (o_ (ask3_eq { (waitFor2 n now n.wait) with state := 4, own := 14 } now 0 0 (.inl rfl) 0) (o_ hb6 (o_ hb7 o0))))))))))) ?_; kernel_rfl
            · apply bi <;> intro hb6
              · apply bi <;> intro hb7
                · refine run1 400 (stands_c (stands n) :: .heap :: reqAbove_c (reqAbove (stands n) 13) :: .heap :: gds 6 20 false (.inl :: lits 5 (.is 32 (.int .i64 2) :: .is 39 (.bool false) :: .callN (.tuple ⟨[.slice (some ⟨0, 0, none⟩) 1 UNK, .int .i64 4]⟩) [] [.row [.int .i64 8] 131 1] :: .heap :: .lit :: .lit :: .inl :: lits 10 (waitFor2_c 0 (waitFor2 n now n.wait) :: .lit :: .lit :: .inl :: lits 8 (.br false :: .lit :: .br true :: ask3_c 0 (ask13_x3 n now port fro) :: .gd 114 true :: [.lit]))))) (o_ (stands_eq n) (o_ (reqAbove_eq (stands n) 13) (oN 6 hb0 (o_ (ieq .i64 hb3) (o_ (bis hb4) (o_ look_2_13_0_eq (o_ (waitFor2_eq n now n.wait 0) (o_ hb5 (o_ hb6 (o_ (ask3_eq { (waitFor2 n now n.wait) with state := 4, own := 14 } now 1 0 (.inr rfl) 0) (o_ hb7 o0))))))))))) ?_; kernel_rfl
                · refine run1 400 (stands_c (stands n) :: .heap :: reqAbove_c (reqAbove (stands n) 13) :: .heap :: gds 6 20 false (.inl :: lits 5 (.is 32 (.int .i64 2) :: .is 39 (.bool false) :: .callN (.tuple ⟨[.slice (some ⟨0, 0, none⟩) 1 UNK, .int .i64 4]⟩) [] [.row [.int .i64 8] 131 1] :: .heap :: .lit :: .lit :: .inl :: lits 10 (waitFor2_c 0 (waitFor2 n now n.wait) :: .lit :: .lit :: .inl :: lits 8 (.br false :: .lit :: .br true :: ask3_c 0 (ask13_x3 n now port fro) :: .gd 114 false :: [.lit]))))) (o_ (stands_eq n) (o_ (reqAbove_eq (stands n) 13) (oN 6 hb0 (o_ (ieq .i64 hb3) (o_ (bis hb4) (o_ look_2_13_0_eq (o_ (waitFor2_eq n now n.wait 0) (o_ hb5 (o_ hb6 (o_ (ask3_eq { (waitFor2 n now n.wait) with state := 4, own := 14 } now 1 0 (.inr rfl) 0) (o_ hb7 o0))))))))))) ?_; kernel_rfl
              · refine run1 400 (stands_c (stands n) :: .heap :: reqAbove_c (reqAbove (stands n) 13) :: .heap :: gds 6 20 false (.inl :: lits 5 (.is 32 (.int .i64 2) :: .is 39 (.bool false) :: .callN (.tuple ⟨[.slice (some ⟨0, 0, none⟩) 1 UNK, .int .i64 4]⟩) [] [.row [.int .i64 8] 131 1] :: .heap :: .lit :: .lit :: .inl :: lits 10 (waitFor2_c 0 (waitFor2 n now n.wait) :: .lit :: .lit :: .inl :: lits 8 (.br false :: .lit :: .br false :: [.lit]))))) (o_ (stands_eq n) (o_ (reqAbove_eq (stands n) 13) (oN 6 hb0 (o_ (ieq .i64 hb3) (o_ (bis hb4) (o_ look_2_13_0_eq (o_ (waitFor2_eq n now n.wait 0) (o_ hb5 (o_ hb6 o0))))))))) ?_; kernel_rfl
        · apply bi <;> intro hb4
          · apply bi <;> intro hb5
            · refine run1 400 (stands_c (stands n) :: .heap :: reqAbove_c (reqAbove (stands n) 13) :: .heap :: gds 6 20 false (.inl :: lits 5 (.is 32 (.int .i64 3) :: .is 39 (.bool true) :: .callN (.tuple ⟨[.slice none 0 0, .int .i64 3]⟩) [] [] :: .heap :: [.lit]))) (o_ (stands_eq n) (o_ (reqAbove_eq (stands n) 13) (oN 6 hb0 (o_ (ieq .i64 hb4) (o_ (bis hb5) (o_ look_3_13_1_eq o0)))))) ?_; kernel_rfl
            · apply bi <;> intro hb6
              · apply bi <;> intro hb7
                · apply bi <;> intro hb8
                  · refine bySame ((ask3 ((ask13_x2 n now port fro).1) now 1 0).2.1) ?_
                    apply bi <;> intro hb9
                    · refine run1 400 (stands_c (stands n) :: .heap :: reqAbove_c (reqAbove (stands n) 13) :: .heap :: gds 6 20 false (.inl :: lits 5 (.is 32 (.int .i64 3) :: .is 39 (.bool false) :: .callN (.tuple ⟨[.slice (some ⟨0, 0, none⟩) 1 UNK, .int .i64 4]⟩) [] [.row [.int .i64 8] 131 1] :: .heap :: .lit :: .lit :: .inl :: lits 10 (waitFor2_c 0 (waitFor2 n now n.wait) :: .lit :: .lit :: .inl :: lits 8 (.br true :: ask3_c 0 (ask13_x2 n now port fro) :: .gd 114 true :: .lit :: .br true :: ask3_c 0 (ask3 ((ask13_x2 n now port fro).1) now 1 0) :: .gd 114 true :: [.lit]))))) (o_ (stands_eq n) (o_ (reqAbove_eq (stands n) 13) (oN 6 hb0 (o_ (ieq .i64 hb4) (o_ (bis hb5) (o_ look_3_13_0_eq (o_ (waitFor2_eq n now n.wait 0) (o_ hb6 (o_ (ask3_eq { (waitFor2 n now n.wait) with state := 4, own := 14 } now 0 0 (.inl rfl) 0) (o_ hb7 (o_ hb8 (o_ (ask3_eq ((ask13_x2 n now port fro).1) now 1 0 (.inr rfl) 0) (o_ hb9 o0))))))))))))) ?_; kernel_rfl
                    · refine run1 400 (stands_c (stands n) :: .heap :: reqAbove_c (reqAbove (stands n) 13) :: .heap :: gds 6 20 false (.inl :: lits 5 (.is 32 (.int .i64 3) :: .is 39 (.bool false) :: .callN (.tuple ⟨[.slice (some ⟨0, 0, none⟩) 1 UNK, .int .i64 4]⟩) [] [.row [.int .i64 8] 131 1] :: .heap :: .lit :: .lit :: .inl :: lits 10 (waitFor2_c 0 (waitFor2 n now n.wait) :: .lit :: .lit :: .inl :: lits 8 (.br true :: ask3_c 0 (ask13_x2 n now port fro) :: .gd 114 true :: .lit :: .br true :: ask3_c 0 (ask3 ((ask13_x2 n now port fro).1) now 1 0) :: .gd 114 false :: [.lit]))))) (o_ (stands_eq n) (o_ (reqAbove_eq (stands n) 13) (oN 6 hb0 (o_ (ieq .i64 hb4) (o_ (bis hb5) (o_ look_3_13_0_eq (o_ (waitFor2_eq n now n.wait 0) (o_ hb6 (o_ (ask3_eq { (waitFor2 n now n.wait) with state := 4, own := 14 } now 0 0 (.inl rfl) 0) (o_ hb7 (o_ hb8 (o_ (ask3_eq ((ask13_x2 n now port fro).1) now 1 0 (.inr rfl) 0) (o_ hb9 o0))))))))))))) ?_; kernel_rfl
                  · refine run1 400 (stands_c (stands n) :: .heap :: reqAbove_c (reqAbove (stands n) 13) :: .heap :: gds 6 20 false (.inl :: lits 5 (.is 32 (.int .i64 3) :: .is 39 (.bool false) :: .callN (.tuple ⟨[.slice (some ⟨0, 0, none⟩) 1 UNK, .int .i64 4]⟩) [] [.row [.int .i64 8] 131 1] :: .heap :: .lit :: .lit :: .inl :: lits 10 (waitFor2_c 0 (waitFor2 n now n.wait) :: .lit :: .lit :: .inl :: lits 8 (.br true :: ask3_c 0 (ask13_x2 n now port fro) :: .gd 114 true :: .lit :: .br false :: [.lit]))))) (o_ (stands_eq n) (o_ (reqAbove_eq (stands n) 13) (oN 6 hb0 (o_ (ieq .i64 hb4) (o_ (bis hb5) (o_ look_3_13_0_eq (o_ (waitFor2_eq n now n.wait 0) (o_ hb6 (o_ (ask3_eq { (waitFor2 n now n.wait) with state := 4, own := 14 } now 0 0 (.inl rfl) 0) (o_ hb7 (o_ hb8 o0))))))))))) ?_; kernel_rfl
                · apply bi <;> intro hb8
                  · apply bi <;> intro hb9
                    · refine run1 400 (stands_c (stands n) :: .heap :: reqAbove_c (reqAbove (stands n) 13) :: .heap :: gds 6 20 false (.inl :: lits 5 (.is 32 (.int .i64 3) :: .is 39 (.bool false) :: .callN (.tuple ⟨[.slice (some ⟨0, 0, none⟩) 1 UNK, .int .i64 4]⟩) [] [.row [.int .i64 8] 131 1] :: .heap :: .lit :: .lit :: .inl :: lits 10 (waitFor2_c 0 (waitFor2 n now n.wait) :: .lit :: .lit :: .inl :: lits 8 (.br true :: ask3_c 0 (ask13_x2 n now port fro) :: .gd 114 false :: .lit :: .br true :: ask3_c 0 (ask3 ((ask13_x2 n now port fro).1) now 1 0) :: .gd 114 true :: [.lit]))))) (o_ (stands_eq n) (o_ (reqAbove_eq (stands n) 13) (oN 6 hb0 (o_ (ieq .i64 hb4) (o_ (bis hb5) (o_ look_3_13_0_eq (o_ (waitFor2_eq n now n.wait 0) (o_ hb6 (o_ (ask3_eq { (waitFor2 n now n.wait) with state := 4, own := 14 } now 0 0 (.inl rfl) 0) (o_ hb7 (o_ hb8 (o_ (ask3_eq ((ask13_x2 n now port fro).1) now 1 0 (.inr rfl) 0) (o_ hb9 o0))))))))))))) ?_; kernel_rfl
                    · refine run1 400 (stands_c (stands n) :: .heap :: reqAbove_c (reqAbove (stands n) 13) :: .heap :: gds 6 20 false (.inl :: lits 5 (.is 32 (.int .i64 3) :: .is 39 (.bool false) :: .callN (.tuple ⟨[.slice (some ⟨0, 0, none⟩) 1 UNK, .int .i64 4]⟩) [] [.row [.int .i64 8] 131 1] :: .heap :: .lit :: .lit :: .inl :: lits 10 (waitFor2_c 0 (waitFor2 n now n.wait) :: .lit :: .lit :: .inl :: lits 8 (.br true :: ask3_c 0 (ask13_x2 n now port fro) :: .gd 114 false :: .lit :: .br true :: ask3_c 0 (ask3 ((ask13_x2 n now port fro).1) now 1 0) :: .gd 114 false :: [.lit]))))) (o_ (stands_eq n) (o_ (reqAbove_eq (stands n) 13) (oN 6 hb0 (o_ (ieq .i64 hb4) (o_ (bis hb5) (o_ look_3_13_0_eq (o_ (waitFor2_eq n now n.wait 0) (o_ hb6 (o_ (ask3_eq { (waitFor2 n now n.wait) with state := 4, own := 14 } now 0 0 (.inl rfl) 0) (o_ hb7 (o_ hb8 (o_ (ask3_eq ((ask13_x2 n now port fro).1) now 1 0 (.inr rfl) 0) (o_ hb9 o0))))))))))))) ?_; kernel_rfl
                  · refine run1 400 (stands_c (stands n) :: .heap :: reqAbove_c (reqAbove (stands n) 13) :: .heap :: gds 6 20 false (.inl :: lits 5 (.is 32 (.int .i64 3) :: .is 39 (.bool false) :: .callN (.tuple ⟨[.slice (some ⟨0, 0, none⟩) 1 UNK, .int .i64 4]⟩) [] [.row [.int .i64 8] 131 1] :: .heap :: .lit :: .lit :: .inl :: lits 10 (waitFor2_c 0 (waitFor2 n now n.wait) :: .lit :: .lit :: .inl :: lits 8 (.br true :: ask3_c 0 (ask13_x2 n now port fro) :: .gd 114 false :: .lit :: .br false :: [.lit]))))) (o_ (stands_eq n) (o_ (reqAbove_eq (stands n) 13) (oN 6 hb0 (o_ (ieq .i64 hb4) (o_ (bis hb5) (o_ look_3_13_0_eq (o_ (waitFor2_eq n now n.wait 0) (o_ hb6 (o_ (ask3_eq { (waitFor2 n now n.wait) with state := 4, own := 14 } now 0 0 (.inl rfl) 0) (o_ hb7 (o_ hb8 o0))))))))))) ?_; kernel_rfl
              · apply bi <;> intro hb7
                · apply bi <;> intro hb8
                  · refine run1 400 (stands_c (stands n) :: .heap :: reqAbove_c (reqAbove (stands n) 13) :: .heap :: gds 6 20 false (.inl :: lits 5 (.is 32 (.int .i64 3) :: .is 39 (.bool false) :: .callN (.tuple ⟨[.slice (some ⟨0, 0, none⟩) 1 UNK, .int .i64 4]⟩) [] [.row [.int .i64 8] 131 1] :: .heap :: .lit :: .lit :: .inl :: lits 10 (waitFor2_c 0 (waitFor2 n now n.wait) :: .lit :: .lit :: .inl :: lits 8 (.br false :: .lit :: .br true :: ask3_c 0 (ask13_x3 n now port fro) :: .gd 114 true :: [.lit]))))) (o_ (stands_eq n) (o_ (reqAbove_eq (stands n) 13) (oN 6 hb0 (o_ (ieq .i64 hb4) (o_ (bis hb5) (o_ look_3_13_0_eq (o_ (waitFor2_eq n now n.wait 0) (o_ hb6 (o_ hb7 (o_ (ask3_eq { (waitFor2 n now n.wait) with state := 4, own := 14 } now 1 0 (.inr rfl) 0) (o_ hb8 o0))))))))))) ?_; kernel_rfl
                  · refine run1 400 (stands_c (stands n) :: .heap :: reqAbove_c (reqAbove (stands n) 13) :: .heap :: gds 6 20 false (.inl :: lits 5 (.is 32 (.int .i64 3) :: .is 39 (.bool false) :: .callN (.tuple ⟨[.slice (some ⟨0, 0, none⟩) 1 UNK, .int .i64 4]⟩) [] [.row [.int .i64 8] 131 1] :: .heap :: .lit :: .lit :: .inl :: lits 10 (waitFor2_c 0 (waitFor2 n now n.wait) :: .lit :: .lit :: .inl :: lits 8 (.br false :: .lit :: .br true :: ask3_c 0 (ask13_x3 n now port fro) :: .gd 114 false :: [.lit]))))) (o_ (stands_eq n) (o_ (reqAbove_eq (stands n) 13) (oN 6 hb0 (o_ (ieq .i64 hb4) (o_ (bis hb5) (o_ look_3_13_0_eq (o_ (waitFor2_eq n now n.wait 0) (o_ hb6 (o_ hb7 (o_ (ask3_eq { (waitFor2 n now n.wait) with state := 4, own := 14 } now 1 0 (.inr rfl) 0) (o_ hb8 o0))))))))))) ?_; kernel_rfl
                · refine run1 400 (stands_c (stands n) :: .heap :: reqAbove_c (reqAbove (stands n) 13) :: .heap :: gds 6 20 false (.inl :: lits 5 (.is 32 (.int .i64 3) :: .is 39 (.bool false) :: .callN (.tuple ⟨[.slice (some ⟨0, 0, none⟩) 1 UNK, .int .i64 4]⟩) [] [.row [.int .i64 8] 131 1] :: .heap :: .lit :: .lit :: .inl :: lits 10 (waitFor2_c 0 (waitFor2 n now n.wait) :: .lit :: .lit :: .inl :: lits 8 (.br false :: .lit :: .br false :: [.lit]))))) (o_ (stands_eq n) (o_ (reqAbove_eq (stands n) 13) (oN 6 hb0 (o_ (ieq .i64 hb4) (o_ (bis hb5) (o_ look_3_13_0_eq (o_ (waitFor2_eq n now n.wait 0) (o_ hb6 (o_ hb7 o0))))))))) ?_; kernel_rfl
          · apply bi <;> intro hb5
            · refine bySame (n.own != 14) ?_
              apply bi <;> intro hb6
              · refine byOr ?_
                apply bi <;> intro hb7
                · apply bi <;> intro hb8
                  · apply bi <;> intro hb9
                    · apply bi <;> intro hb10
                      · refine bySame ((ask3 ((ask13_x4 n now port fro).1) now 1 0).2.1) ?_
                        apply bi <;> intro hb11
                        · refine run1 400 (stands_c (stands n) :: .heap :: reqAbove_c (reqAbove (stands n) 13) :: .heap :: gds 6 20 false (.inl :: lits 5 (.is 32 (.int .i64 4) :: .is 39 (.bool true) :: .callN (.tuple ⟨[.slice (some ⟨0, 0, none⟩) 1 UNK, .int .i64 4]⟩) [] [.row [.int .i64 12] 131 1] :: .heap :: .lit :: .lit :: .inl :: lits 13 (gds 7 130 true (lits 3 (.inl :: lits 8 (.br true :: ask3_c 0 (ask13_x4 n now port fro) :: .gd 114 true :: .lit :: .br true :: ask3_c 0 (ask3 ((ask13_x4 n now port fro).1) now 1 0) :: .gd 114 true :: [.lit]))))))) (o_ (stands_eq n) (o_ (reqAbove_eq (stands n) 13) (oN 6 hb0 (o_ (ieq .i64 hb5) (o_ (bis hb6) (o_ look_4_13_1_eq (oN 7 hb7 (o_ hb8 (o_ (ask3_eq { n with state := 4, own := 14 } now 0 0 (.inl rfl) 0) (o_ hb9 (o_ hb10 (o_ (ask3_eq ((ask13_x4 n now port fro).1) now 1 0 (.inr rfl) 0) (o_ hb11 o0))))))))))))) ?_; kernel_rfl
                        · refine run1 400 (stands_c (stands n) :: .heap :: reqAbove_c (reqAbove (stands n) 13) :: .heap :: gds 6 20 false (.inl :: lits 5 (.is 32 (.int .i64 4) :: .is 39 (.bool true) :: .callN (.tuple ⟨[.slice (some ⟨0, 0, none⟩) 1 UNK, .int .i64 4]⟩) [] [.row [.int .i64 12] 131 1] :: .heap :: .lit :: .lit :: .inl :: lits 13 (gds 7 130 true (lits 3 (.inl :: lits 8 (.br true :: ask3_c 0 (ask13_x4 n now port fro) :: .gd 114 true :: .lit :: .br true :: ask3_c 0 (ask3 ((ask13_x4 n now port fro).1) now 1 0) :: .gd 114 false :: [.lit]))))))) (o_ (stands_eq n) (o_ (reqAbove_eq (stands n) 13) (oN 6 hb0 (o_ (ieq .i64 hb5) (o_ (bis hb6) (o_ look_4_13_1_eq (oN 7 hb7 (o_ hb8 (o_ (ask3_eq { n with state := 4, own := 14 } now 0 0 (.inl rfl) 0) (o_ hb9 (o_ hb10 (o_ (ask3_eq ((ask13_x4 n now port fro).1) now 1 0 (.inr rfl) 0) (o_ hb11 o0))))))))))))) ?_; kernel_rfl
                      · refine run1 400 (stands_c (stands n) :: .heap :: reqAbove_c (reqAbove (stands n) 13) :: .heap :: gds 6 20 false (.inl :: lits 5 (.is 32 (.int .i64 4) :: .is 39 (.bool true) :: .callN (.tuple ⟨[.slice (some ⟨0, 0, none⟩) 1 UNK, .int .i64 4]⟩) [] [.row [.int .i64 12] 131 1] :: .heap :: .lit :: .lit :: .inl :: lits 13 (gds 7 130 true (lits 3 (.inl :: lits 8 (.br true :: ask3_c 0 (ask13_x4 n now port fro) :: .gd 114 true :: .lit :: .br false :: [.lit]))))))) (o_ (stands_eq n) (o_ (reqAbove_eq (stands n) 13) (oN 6 hb0 (o_ (ieq .i64 hb5) (o_ (bis hb6) (o_ look_4_13_1_eq (oN 7 hb7 (o_ hb8 (o_ (ask3_eq { n with state := 4, own := 14 } now 0 0 (.inl rfl) 0) (o_ hb9 (o_ hb10 o0))))))))))) ?_; kernel_rfl
                    · apply bi <;> intro hb10
                      · apply bi <;> intro hb11
                        · refine run1 400 (stands_c (stands n) :: .heap :: reqAbove_c (reqAbove (stands n) 13) :: .heap :: gds 6 20 false (.inl :: lits 5 (.is 32 (.int .i64 4) :: .is 39 (.bool true) :: .callN (.tuple ⟨[.slice (some ⟨0, 0, none⟩) 1 UNK, .int .i64 4]⟩) [] [.row [.int .i64 12] 131 1] :: .heap :: .lit :: .lit :: .inl :: lits 13 (gds 7 130 true (lits 3 (.inl :: lits 8 (.br true :: ask3_c 0 (ask13_x4 n now port fro) :: .gd 114 false :: .lit :: .br true :: ask3_c 0 (ask3 ((ask13_x4 n now port fro).1) now 1 0) :: .gd 114 true :: [.lit]))))))) (o_ (stands_eq n) (o_ (reqAbove_eq (stands n) 13) (oN 6 hb0 (o_ (ieq .i64 hb5) (o_ (bis hb6) (o_ look_4_13_1_eq (oN 7 hb7 (o_ hb8 (o_ (ask3_eq { n with state := 4, own := 14 } now 0 0 (.inl rfl) 0) (o_ hb9 (o_ hb10 (o_ (ask3_eq ((ask13_x4 n now port fro).1) now 1 0 (.inr rfl) 0) (o_ hb11 o0))))))))))))) ?_; kernel_rfl
                        · refine run1 400 (stands_c (stands n) :: .heap :: reqAbove_c (reqAbove (stands n) 13) :: .heap :: gds 6 20 false (.inl :: lits 5 (.is 32 (.int .i64 4) :: .is 39 (.bool true) :: .callN (.tuple ⟨[.slice (some ⟨0, 0, none⟩) 1 UNK, .int .i64 4]⟩) [] [.row [.int .i64 12] 131 1] :: .heap :: .lit :: .lit :: .inl :: lits 13 (gds 7 130 true (lits 3 (.inl :: lits 8 (.br true :: ask3_c 0 (ask13_x4 n now port fro) :: .gd 114 false :: .lit :: .br true :: ask3_c 0 (ask3 ((ask13_x4 n now port fro).1) now 1 0) :: .gd 114 false :: [.lit]))))))) (o_ (stands_eq n) (o_ (reqAbove_eq (stands n) 13) (oN 6 hb0 (o_ (ieq .i64 hb5) (o_ (bis hb6) (o_ look_4_13_1_eq (oN 7 hb7 (o_ hb8 (o_ (ask3_eq { n with state := 4, own := 14 } now 0 0 (.inl rfl) 0) (o_ hb9 (o_ hb10 (o_ (ask3_eq ((ask13_x4 n now port fro).1) now 1 0 (.inr rfl) 0) (o_ hb11 o0))))))))))))) ?_; kernel_rfl
                      · refine run1 400 (stands_c (stands n) :: .heap :: reqAbove_c (reqAbove (stands n) 13) :: .heap :: gds 6 20 false (.inl :: lits 5 (.is 32 (.int .i64 4) :: .is 39 (.bool true) :: .callN (.tuple ⟨[.slice (some ⟨0, 0, none⟩) 1 UNK, .int .i64 4]⟩) [] [.row [.int .i64 12] 131 1] :: .heap :: .lit :: .lit :: .inl :: lits 13 (gds 7 130 true (lits 3 (.inl :: lits 8 (.br true :: ask3_c 0 (ask13_x4 n now port fro) :: .gd 114 false :: .lit :: .br false :: [.lit]))))))) (o_ (stands_eq n) (o_ (reqAbove_eq (stands n) 13) (oN 6 hb0 (o_ (ieq .i64 hb5) (o_ (bis hb6) (o_ look_4_13_1_eq (oN 7 hb7 (o_ hb8 (o_ (ask3_eq { n with state := 4, own := 14 } now 0 0 (.inl rfl) 0) (o_ hb9 (o_ hb10 o0))))))))))) ?_; kernel_rfl
                  · apply bi <;> intro hb9
                    · apply bi <;> intro hb10
                      · refine run1 400 (stands_c (stands n) :: .heap :: reqAbove_c (reqAbove (stands n) 13) :: .heap :: gds 6 20 false (.inl :: lits 5 (.is 32 (.int .i64 4) :: .is 39 (.bool true) :: .callN (.tuple ⟨[.slice (some ⟨0, 0, none⟩) 1 UNK, .int .i64 4]⟩) [] [.row [.int .i64 12] 131 1] :: .heap :: .lit :: .lit :: .inl :: lits 13 (gds 7 130 true (lits 3 (.inl :: lits 8 (.br false :: .lit :: .br true :: ask3_c 0 (ask13_x5 n now port fro) :: .gd 114 true :: [.lit]))))))) (o_ (stands_eq n) (o_ (reqAbove_eq (stands n) 13) (oN 6 hb0 (o_ (ieq .i64 hb5) (o_ (bis hb6) (o_ look_4_13_1_eq (oN 7 hb7 (o_ hb8 (o_ hb9 (o_ (ask3_eq { n with state := 4, own := 14 } now 1 0 (.inr rfl) 0) (o_ hb10 o0))))))))))) ?_; kernel_rfl
                      · refine run1 400 (stands_c (stands n) :: .heap :: reqAbove_c (reqAbove (stands n) 13) :: .heap :: gds 6 20 false (.inl :: lits 5 (.is 32 (.int .i64 4) :: .is 39 (.bool true) :: .callN (.tuple ⟨[.slice (some ⟨0, 0, none⟩) 1 UNK, .int .i64 4]⟩) [] [.row [.int .i64 12] 131 1] :: .heap :: .lit :: .lit :: .inl :: lits 13 (gds 7 130 true (lits 3 (.inl :: lits 8 (.br false :: .lit :: .br true :: ask3_c 0 (ask13_x5 n now port fro) :: .gd 114 false :: [.lit]))))))) (o_ (stands_eq n) (o_ (reqAbove_eq (stands n) 13) (oN 6 hb0 (o_ (ieq .i64 hb5) (o_ (bis hb6) (o_ look_4_13_1_eq (oN 7 hb7 (o_ hb8 (o_ hb9 (o_ (ask3_eq { n with state := 4, own := 14 } now 1 0 (.inr rfl) 0) (o_ hb10 o0))))))))))) ?_; kernel_rfl
                    · refine run1 400 (stands_c (stands n) :: .heap :: reqAbove_c (reqAbove (stands n) 13) :: .heap :: gds 6 20 false (.inl :: lits 5 (.is 32 (.int .i64 4) :: .is 39 (.bool true) :: .callN (.tuple ⟨[.slice (some ⟨0, 0, none⟩) 1 UNK, .int .i64 4]⟩) [] [.row [.int .i64 12] 131 1] :: .heap :: .lit :: .lit :: .inl :: lits 13 (gds 7 130 true (lits 3 (.inl :: lits 8 (.br false :: .lit :: .br false :: [.lit]))))))) (o_ (stands_eq n) (o_ (reqAbove_eq (stands n) 13) (oN 6 hb0 (o_ (ieq .i64 hb5) (o_ (bis hb6) (o_ look_4_13_1_eq (oN 7 hb7 (o_ hb8 (o_ hb9 o0))))))))) ?_; kernel_rfl
                · apply bi <;> intro hb8
                  · apply bi <;> intro hb9
                    · apply bi <;> intro hb10
                      · apply bi <;> intro hb11
                        · refine bySame ((ask3 ((ask13_x4 n now port fro).1) now 1 0).2.1) ?_
                          apply bi <;> intro hb12
                          · refine run1 400 (stands_c (stands n) :: .heap :: reqAbove_c (reqAbove (stands n) 13) :: .heap :: gds 6 20 false (.inl :: lits 5 (.is 32 (.int .i64 4) :: .is 39 (.bool true) :: .callN (.tuple ⟨[.slice (some ⟨0, 0, none⟩) 1 UNK, .int .i64 4]⟩) [] [.row [.int .i64 12] 131 1] :: .heap :: .lit :: .lit :: .inl :: lits 13 (gds 7 130 false (.br true :: .lit :: .lit :: .inl :: lits 8 (.br true :: ask3_c 0 (ask13_x4 n now port fro) :: .gd 114 true :: .lit :: .br true :: ask3_c 0 (ask3 ((ask13_x4 n now port fro).1) now 1 0) :: .gd 114 true :: [.lit])))))) (o_ (stands_eq n) (o_ (reqAbove_eq (stands n) 13) (oN 6 hb0 (o_ (ieq .i64 hb5) (o_ (bis hb6) (o_ look_4_13_1_eq (oN 7 hb7 (o_ hb8 (o_ hb9 (o_ (ask3_eq { n with state := 4, own := 14 } now 0 0 (.inl rfl) 0) (o_ hb10 (o_ hb11 (o_ (ask3_eq ((ask13_x4 n now port fro).1) now 1 0 (.inr rfl) 0) (o_ hb12 o0)))))))))))))) ?_; kernel_rfl
                          · refine run1 400 (stands_c (stands n) :: .heap :: reqAbove_c (reqAbove (stands n) 13) :: .heap :: gds 6 20 false (.inl :: lits 5 (.is 32 (.int .i64 4) :: .is 39 (.bool true) :: .callN (.tuple ⟨[.slice (some ⟨0, 0, none⟩) 1 UNK, .int .i64 4]⟩) [] [.row [.int .i64 12] 131 1] :: .heap :: .lit :: .lit :: .inl :: lits 13 (gds 7 130 false (.br true :: .lit :: .lit :: .inl :: lits 8 (.br true :: ask3_c 0 (ask13_x4 n now port fro) :: .gd 114 true :: .lit :: .br true :: ask3_c 0 (ask3 ((ask13_x4 n now port fro).1) now 1 0) :: .gd 114 false :: [.lit])))))) (o_ (stands_eq n) (o_ (reqAbove_eq (stands n) 13) (oN 6 hb0 (o_ (ieq .i64 hb5) (o_ (bis hb6) (o_ look_4_13_1_eq (oN 7 hb7 (o_ hb8 (o_ hb9 (o_ (ask3_eq { n with state := 4, own := 14 } now 0 0 (.inl rfl) 0) (o_ hb10 (o_ hb11 (o_ (ask3_eq ((ask13_x4 n now port fro).1) now 1 0 (.inr rfl) 0) (o_ hb12 o0)))))))))))))) ?_; kernel_rfl
                        · refine run1 400 (stands_c (stands n) :: .heap :: reqAbove_c (reqAbove (stands n) 13) :: .heap :: gds 6 20 false (.inl :: lits 5 (.is 32 (.int .i64 4) :: .is 39 (.bool true) :: .callN (.tuple ⟨[.slice (some ⟨0, 0, none⟩) 1 UNK, .int .i64 4]⟩) [] [.row [.int .i64 12] 131 1] :: .heap :: .lit :: .lit :: .inl :: lits 13 (gds 7 130 false (.br true :: .lit :: .lit :: .inl :: lits 8 (.br true :: ask3_c 0 (ask13_x4 n now port fro) :: .gd 114 true :: .lit :: .br false :: [.lit])))))) (o_ (stands_eq n) (o_ (reqAbove_eq (stands n) 13) (oN 6 hb0 (o_ (ieq .i64 hb5) (o_ (bis hb6) (o_ look_4_13_1_eq (oN 7 hb7 (o_ hb8 (o_ hb9 (o_ (ask3_eq { n with state := 4, own := 14 } now 0 0 (.inl rfl) 0) (o_ hb10 (o_ hb11 o0)))))))))))) ?_; kernel_rfl
                      · apply bi <;> intro hb11
                        · apply bi <;> intro hb12
                          · refine run1 400 (stands_c (stands n) :: .heap :: reqAbove_c (reqAbove (stands n) 13) :: .heap :: gds 6 20 false (.inl :: lits 5 (.is 32 (.int .i64 4) :: .is 39 (.bool true) :: .callN (.tuple ⟨[.slice (some ⟨0, 0, none⟩) 1 UNK, .int .i64 4]⟩) [] [.row [.int .i64 12] 131 1] :: .heap :: .lit :: .lit :: .inl :: lits 13 (gds 7 130 false (.br true :: .lit :: .lit :: .inl :: lits 8 (.br true :: ask3_c 0 (ask13_x4 n now port fro) :: .gd 114 false :: .lit :: .br true :: ask3_c 0 (ask3 ((ask13_x4 n now port fro).1) now 1 0) :: .gd 114 true :: [.lit])))))) (o_ (stands_eq n) (o_ (reqAbove_eq (stands n) 13) (oN 6 hb0 (o_ (ieq .i64 hb5) (o_ (bis hb6) (o_ look_4_13_1_eq (oN 7 hb7 (o_ hb8 (o_ hb9 (o_ (ask3_eq { n with state := 4, own := 14 } now 0 0 (.inl rfl) 0) (o_ hb10 (o_ hb11 (o_ (ask3_eq ((ask13_x4 n now port fro).1) now 1 0 (.inr rfl) 0) (o_ hb12 o0)))))))))))))) ?_; kernel_rfl
                          · refine run1 400 (stands_c (stands n) :: .heap :: reqAbove_c (reqAbove (stands n) 13) :: .heap :: gds 6 20 false (.inl :: lits 5 (.is 32 (.int .i64 4) :: .is 39 (.bool true) :: .callN (.tuple ⟨[.slice (some ⟨0, 0, none⟩) 1 UNK, .int .i64 4]⟩) [] [.row [.int .i64 12] 131 1] :: .heap :: .lit :: .lit :: .inl :: lits 13 (gds 7 130 false (.br true :: .lit :: .lit :: .inl :: lits 8 (.br true :: ask3_c 0 (ask13_x4 n now port fro) :: .gd 114 false :: .lit :: .br true :: ask3_c 0 (ask3 ((ask13_x4 n now port fro).1) now 1 0) :: .gd 114 false :: [.lit])))))) (o_ (stands_eq n) (o_ (reqAbove_eq (stands n) 13) (oN 6 hb0 (o_ (ieq .i64 hb5) (o_ (bis hb6) (o_ look_4_13_1_eq (oN 7 hb7 (o_ hb8 (o_ hb9 (o_ (ask3_eq { n with state := 4, own := 14 } now 0 0 (.inl rfl) 0) (o_ hb10 (o_ hb11 (o_ (ask3_eq ((ask13_x4 n now port fro).1) now 1 0 (.inr rfl) 0) (o_ hb12 o0)))))))))))))) ?_; kernel_rfl
                        · refine run1 400 (stands_c (stands n) :: .heap :: reqAbove_c (reqAbove (stands n) 13) :: .heap :: gds 6 20 false (.inl :: lits 5 (.is 32 (.int .i64 4) :: .is 39 (.bool true) :: .callN (.tuple ⟨[.slice (some ⟨0, 0, none⟩) 1 UNK, .int .i64 4]⟩) [] [.row [.int .i64 12] 131 1] :: .heap :: .lit :: .lit :: .inl :: lits 13 (gds 7 130 false (.br true :: .lit :: .lit :: .inl :: lits 8 (.br true :: ask3_c 0 (ask13_x4 n now port fro) :: .gd 114 false :: .lit :: .br false :: [.lit])))))) (o_ (stands_eq n) (o_ (reqAbove_eq (stands n) 13) (oN 6 hb0 (o_ (ieq .i64 hb5) (o_ (bis hb6) (o_ look_4_13_1_eq (oN 7 hb7 (o_ hb8 (o_ hb9 (o_ (ask3_eq { n with state := 4, own := 14 } now 0 0 (.inl rfl) 0) (o_ hb10 (o_ hb11 o0)))))))))))) ?_; kernel_rfl
                    · apply bi <;> intro hb10
                      · apply bi <;> intro hb11
                        · refine run1 400 (stands_c (stands n) :: .heap :: reqAbove_c (reqAbove (stands n) 13) :: .heap :: gds 6 20 false (.inl :: lits 5 (.is 32 (.int .i64 4) :: .is 39 (.bool true) :: .callN (.tuple ⟨[.slice (some ⟨0, 0, none⟩) 1 UNK, .int .i64 4]⟩) [] [.row [.int .i64 12] 131 1] :: .heap :: .lit :: .lit :: .inl :: lits 13 (gds 7 130 false (.br true :: .lit :: .lit :: .inl :: lits 8 (.br false :: .lit :: .br true :: ask3_c 0 (ask13_x5 n now port fro) :: .gd 114 true :: [.lit])))))) (o_ (stands_eq n) (o_ (reqAbove_eq (stands n) 13) (oN 6 hb0 (o_ (ieq .i64 hb5) (o_ (bis hb6) (o_ look_4_13_1_eq (oN 7 hb7 (o_ hb8 (o_ hb9 (o_ hb10 (o_ (ask3_eq { n with state := 4, own := 14 } now 1 0 (.inr rfl) 0) (o_ hb11 o0)))))))))))) ?_; kernel_rfl
                        · refine run1 400 (stands_c (stands n) :: .heap :: reqAbove_c (reqAbove (stands n) 13) :: .heap :: gds 6 20 false (.inl :: lits 5 (.is 32 (.int .i64 4) :: .is 39 (.bool true) :: .callN (.tuple ⟨[.slice (some ⟨0, 0, none⟩) 1 UNK, .int .i64 4]⟩) [] [.row [.int .i64 12] 131 1] :: .heap :: .lit :: .lit :: .inl :: lits 13 (gds 7 130 false (.br true :: .lit :: .lit :: .inl :: lits 8 (.br false :: .lit :: .br true :: ask3_c 0 (ask13_x5 n now port fro) :: .gd 114 false :: [.lit])))))) (o_ (stands_eq n) (o_ (reqAbove_eq (stands n) 13) (oN 6 hb0 (o_ (ieq .i64 hb5) (o_ (bis hb6) (o_ look_4_13_1_eq (oN 7 hb7 (o_ hb8 (o_ hb9 (o_ hb10 (o_ (ask3_eq { n with state := 4, own := 14 } now 1 0 (.inr rfl) 0) (o_ hb11 o0)))))))))))) ?_; kernel_rfl
                      · refine run1 400 (stands_c (stands n) :: .heap :: reqAbove_c (reqAbove (stands n) 13) :: .heap :: gds 6 20 false (.inl :: lits 5 (.is 32 (.int .i64 4) :: .is 39 (.bool true) :: .callN (.tuple ⟨[.slice (some ⟨0, 0, none⟩) 1 UNK, .int .i64 4]⟩) [] [.row [.int .i64 12] 131 1] :: .heap :: .lit :: .lit :: .inl :: lits 13 (gds 7 130 false (.br true :: .lit :: .lit :: .inl :: lits 8 (.br false :: .lit :: .br false :: [.lit])))))) (o_ (stands_eq n) (o_ (reqAbove_eq (stands n) 13) (oN 6 hb0 (o_ (ieq .i64 hb5) (o_ (bis hb6) (o_ look_4_13_1_eq (oN 7 hb7 (o_ hb8 (o_ hb9 (o_ hb10 o0)))))))))) ?_; kernel_rfl
                  · apply bi <;> intro hb9
                    · apply bi <;> intro hb10
                      · apply bi <;> intro hb11
                        · refine bySame ((ask3 ((ask13_x6 n now port fro).1) now 1 0).2.1) ?_
                          apply bi <;> intro hb12
                          · refine run1 400 (stands_c (stands n) :: .heap :: reqAbove_c (reqAbove (stands n) 13) :: .heap :: gds 6 20 false (.inl :: lits 5 (.is 32 (.int .i64 4) :: .is 39 (.bool true) :: .callN (.tuple ⟨[.slice (some ⟨0, 0, none⟩) 1 UNK, .int .i64 4]⟩) [] [.row [.int .i64 12] 131 1] :: .heap :: .lit :: .lit :: .inl :: lits 13 (gds 7 130 false (.br false :: openSound_c 0 (openSound n) :: silence_c 0 (silence (openSound n)) :: .lit :: .lit :: .inl :: lits 8 (.br true :: ask3_c 0 (ask13_x6 n now port fro) :: .gd 114 true :: .lit :: .br true :: ask3_c 0 (ask3 ((ask13_x6 n now port fro).1) now 1 0) :: .gd 114 true :: [.lit])))))) (o_ (stands_eq n) (o_ (reqAbove_eq (stands n) 13) (oN 6 hb0 (o_ (ieq .i64 hb5) (o_ (bis hb6) (o_ look_4_13_1_eq (oN 7 hb7 (o_ hb8 (o_ (openSound_eq n 0) (o_ (silence_eq (openSound n) 0) (o_ hb9 (o_ (ask3_eq { (silence (openSound n)) with state := 4, own := 14 } now 0 0 (.inl rfl) 0) (o_ hb10 (o_ hb11 (o_ (ask3_eq ((ask13_x6 n now port fro).1) now 1 0 (.inr rfl) 0) (o_ hb12 o0)))))))))))))))) ?_; kernel_rfl
                          · refine run1 400 (stands_c (stands n) :: .heap :: reqAbove_c (reqAbove (stands n) 13) :: .heap :: gds 6 20 false (.inl :: lits 5 (.is 32 (.int .i64 4) :: .is 39 (.bool true) :: .callN (.tuple ⟨[.slice (some ⟨0, 0, none⟩) 1 UNK, .int .i64 4]⟩) [] [.row [.int .i64 12] 131 1] :: .heap :: .lit :: .lit :: .inl :: lits 13 (gds 7 130 false (.br false :: openSound_c 0 (openSound n) :: silence_c 0 (silence (openSound n)) :: .lit :: .lit :: .inl :: lits 8 (.br true :: ask3_c 0 (ask13_x6 n now port fro) :: .gd 114 true :: .lit :: .br true :: ask3_c 0 (ask3 ((ask13_x6 n now port fro).1) now 1 0) :: .gd 114 false :: [.lit])))))) (o_ (stands_eq n) (o_ (reqAbove_eq (stands n) 13) (oN 6 hb0 (o_ (ieq .i64 hb5) (o_ (bis hb6) (o_ look_4_13_1_eq (oN 7 hb7 (o_ hb8 (o_ (openSound_eq n 0) (o_ (silence_eq (openSound n) 0) (o_ hb9 (o_ (ask3_eq { (silence (openSound n)) with state := 4, own := 14 } now 0 0 (.inl rfl) 0) (o_ hb10 (o_ hb11 (o_ (ask3_eq ((ask13_x6 n now port fro).1) now 1 0 (.inr rfl) 0) (o_ hb12 o0)))))))))))))))) ?_; kernel_rfl
                        · refine run1 400 (stands_c (stands n) :: .heap :: reqAbove_c (reqAbove (stands n) 13) :: .heap :: gds 6 20 false (.inl :: lits 5 (.is 32 (.int .i64 4) :: .is 39 (.bool true) :: .callN (.tuple ⟨[.slice (some ⟨0, 0, none⟩) 1 UNK, .int .i64 4]⟩) [] [.row [.int .i64 12] 131 1] :: .heap :: .lit :: .lit :: .inl :: lits 13 (gds 7 130 false (.br false :: openSound_c 0 (openSound n) :: silence_c 0 (silence (openSound n)) :: .lit :: .lit :: .inl :: lits 8 (.br true :: ask3_c 0 (ask13_x6 n now port fro) :: .gd 114 true :: .lit :: .br false :: [.lit])))))) (o_ (stands_eq n) (o_ (reqAbove_eq (stands n) 13) (oN 6 hb0 (o_ (ieq .i64 hb5) (o_ (bis hb6) (o_ look_4_13_1_eq (oN 7 hb7 (o_ hb8 (o_ (openSound_eq n 0) (o_ (silence_eq (openSound n) 0) (o_ hb9 (o_ (ask3_eq { (silence (openSound n)) with state := 4, own := 14 } now 0 0 (.inl rfl) 0) (o_ hb10 (o_ hb11 o0)))))))))))))) ?_; kernel_rfl
                      · apply bi <;> intro hb11
                        · apply bi <;> intro hb12
                          · refine run1 400 (stands_c (stands n) :: .heap :: reqAbove_c (reqAbove (stands n) 13) :: .heap :: gds 6 20 false (.inl :: lits 5 (.is 32 (.int .i64 4) :: .is 39 (.bool true) :: .callN (.tuple ⟨[.slice (some ⟨0, 0, none⟩) 1 UNK, .int .i64 4]⟩) [] [.row [.int .i64 12] 131 1] :: .heap :: .lit :: .lit :: .inl :: lits 13 (gds 7 130 false (.br false :: openSound_c 0 (openSound n) :: silence_c 0 (silence (openSound n)) :: .lit :: .lit :: .inl :: lits 8 (.br true :: ask3_c 0 (ask13_x6 n now port fro) :: .gd 114 false :: .lit :: .br true :: ask3_c 0 (ask3 ((ask13_x6 n now port fro).1) now 1 0) :: .gd 114 true :: [.lit])))))) (o_ (stands_eq n) (o_ (reqAbove_eq (stands n) 13) (oN 6 hb0 (o_ (ieq .i64 hb5) (o_ (bis hb6) (o_ look_4_13_1_eq (oN 7 hb7 (o_ hb8 (o_ (openSound_eq n 0) (o_ (silence_eq (openSound n) 0) (o_ hb9 (o_ (ask3_eq { (silence (openSound n)) with state := 4, own := 14 } now 0 0 (.inl rfl) 0) (o_ hb10 (o_ hb11 (o_ (ask3_eq ((ask13_x6 n now port fro).1) now 1 0 (.inr rfl) 0) (o_ hb12 o0)))))))))))))))) ?_; kernel_rfl
                          · refine run1 400 (stands_c (stands n) :: .heap :: reqAbove_c (reqAbove (stands n) 13) :: .heap :: gds 6 20 false (.inl :: lits 5 (.is 32 (.int .i64 4) :: .is 39 (.bool true) :: .callN (.tuple ⟨[.slice (some ⟨0, 0, none⟩) 1 UNK, .int .i64 4]⟩) [] [.row [.int .i64 12] 131 1] :: .heap :: .lit :: .lit :: .inl :: lits 13 (gds 7 130 false (.br false :: openSound_c 0 (openSound n) :: silence_c 0 (silence (openSound n)) :: .lit :: .lit :: .inl :: lits 8 (.br true :: ask3_c 0 (ask13_x6 n now port fro) :: .gd 114 false :: .lit :: .br true :: ask3_c 0 (ask3 ((ask13_x6 n now port fro).1) now 1 0) :: .gd 114 false :: [.lit])))))) (o_ (stands_eq n) (o_ (reqAbove_eq (stands n) 13) (oN 6 hb0 (o_ (ieq .i64 hb5) (o_ (bis hb6) (o_ look_4_13_1_eq (oN 7 hb7 (o_ hb8 (o_ (openSound_eq n 0) (o_ (silence_eq (openSound n) 0) (o_ hb9 (o_ (ask3_eq { (silence (openSound n)) with state := 4, own := 14 } now 0 0 (.inl rfl) 0) (o_ hb10 (o_ hb11 (o_ (ask3_eq ((ask13_x6 n now port fro).1) now 1 0 (.inr rfl) 0) (o_ hb12 o0)))))))))))))))) ?_; kernel_rfl
                        · refine run1 400 (stands_c (stands n) :: .heap :: reqAbove_c (reqAbove (stands n) 13) :: .heap :: gds 6 20 false (.inl :: lits 5 (.is 32 (.int .i64 4) :: .is 39 (.bool true) :: .callN (.tuple ⟨[.slice (some ⟨0, 0, none⟩) 1 UNK, .int .i64 4]⟩) [] [.row [.int .i64 12] 131 1] :: .heap :: .lit :: .lit :: .inl :: lits 13 (gds 7 130 false (.br false :: openSound_c 0 (openSound n) :: silence_c 0 (silence (openSound n)) :: .lit :: .lit :: .inl :: lits 8 (.br true :: ask3_c 0 (ask13_x6 n now port fro) :: .gd 114 false :: .lit :: .br false :: [.lit])))))) (o_ (stands_eq n) (o_ (reqAbove_eq (stands n) 13) (oN 6 hb0 (o_ (ieq .i64 hb5) (o_ (bis hb6) (o_ look_4_13_1_eq (oN 7 hb7 (o_ hb8 (o_ (openSound_eq n 0) (o_ (silence_eq (openSound n) 0) (o_ hb9 (o_ (ask3_eq { (silence (openSound n)) with state := 4, own := 14 } now 0 0 (.inl rfl) 0) (o_ hb10 (o_ hb11 o0)))))))))))))) ?_; kernel_rfl
                    · apply bi <;> intro hb10
                      · apply bi <;> intro hb11
                        · refine run1 400 (stands_c (stands n) :: .heap :: reqAbove_c (reqAbove (stands n) 13) :: .heap :: gds 6 20 false (.inl :: lits 5 (.is 32 (.int .i64 4) :: .is 39 (.bool true) :: .callN (.tuple ⟨[.slice (some ⟨0, 0, none⟩) 1 UNK, .int .i64 4]⟩) [] [.row [.int .i64 12] 131 1] :: .heap :: .lit :: .lit :: .inl :: lits 13 (gds 7 130 false (.br false :: openSound_c 0 (openSound n) :: silence_c 0 (silence (openSound n)) :: .lit :: .lit :: .inl :: lits 8 (.br false :: .lit :: .br true :: ask3_c 0 (ask13_x7 n now port fro) :: .gd 114 true :: [.lit])))))) (o_ (stands_eq n) (o_ (reqAbove_eq (stands n) 13) (oN 6 hb0 (o_ (ieq .i64 hb5) (o_ (bis hb6) (o_ look_4_13_1_eq (oN 7 hb7 (o_ hb8 (o_ (openSound_eq n 0) (o_ (silence_eq (openSound n) 0) (o_ hb9 (o_ hb10 (o_ (ask3_eq { (silence (openSound n)) with state := 4, own := 14 } now 1 0 (.inr rfl) 0) (o_ hb11 o0)))))))))))))) ?_; kernel_rfl
                        · refine run1 400 (stands_c (stands n) :: .heap :: reqAbove_c (reqAbove (stands n) 13) :: .heap :: gds 6 20 false (.inl :: lits 5 (.is 32 (.int .i64 4) :: .is 39 (.bool true) :: .callN (.tuple ⟨[.slice (some ⟨0, 0, none⟩) 1 UNK, .int .i64 4]⟩) [] [.row [.int .i64 12] 131 1] :: .heap :: .lit :: .lit :: .inl :: lits 13 (gds 7 130 false (.br false :: openSound_c 0 (openSound n) :: silence_c 0 (silence (openSound n)) :: .lit :: .lit :: .inl :: lits 8 (.br false :: .lit :: .br true :: ask3_c 0 (ask13_x7 n now port fro) :: .gd 114 false :: [.lit])))))) (o_ (stands_eq n) (o_ (reqAbove_eq (stands n) 13) (oN 6 hb0 (o_ (ieq .i64 hb5) (o_ (bis hb6) (o_ look_4_13_1_eq (oN 7 hb7 (o_ hb8 (o_ (openSound_eq n 0) (o_ (silence_eq (openSound n) 0) (o_ hb9 (o_ hb10 (o_ (ask3_eq { (silence (openSound n)) with state := 4, own := 14 } now 1 0 (.inr rfl) 0) (o_ hb11 o0)))))))))))))) ?_; kernel_rfl
                      · refine run1 400 (stands_c (stands n) :: .heap :: reqAbove_c (reqAbove (stands n) 13) :: .heap :: gds 6 20 false (.inl :: lits 5 (.is 32 (.int .i64 4) :: .is 39 (.bool true) :: .callN (.tuple ⟨[.slice (some ⟨0, 0, none⟩) 1 UNK, .int .i64 4]⟩) [] [.row [.int .i64 12] 131 1] :: .heap :: .lit :: .lit :: .inl :: lits 13 (gds 7 130 false (.br false :: openSound_c 0 (openSound n) :: silence_c 0 (silence (openSound n)) :: .lit :: .lit :: .inl :: lits 8 (.br false :: .lit :: .br false :: [.lit])))))) (o_ (stands_eq n) (o_ (reqAbove_eq (stands n) 13) (oN 6 hb0 (o_ (ieq .i64 hb5) (o_ (bis hb6) (o_ look_4_13_1_eq (oN 7 hb7 (o_ hb8 (o_ (openSound_eq n 0) (o_ (silence_eq (openSound n) 0) (o_ hb9 (o_ hb10 o0)))))))))))) ?_; kernel_rfl
              · refine byOr ?_
                apply bi <;> intro hb7
                · apply bi <;> intro hb8
                  · apply bi <;> intro hb9
                    · apply bi <;> intro hb10
                      · refine bySame ((ask3 ((ask13_x4 n now port fro).1) now 1 0).2.1) ?_
                        apply bi <;> intro hb11
                        · refine run1 400 (stands_c (stands n) :: .heap :: reqAbove_c (reqAbove (stands n) 13) :: .heap :: gds 6 20 false (.inl :: lits 5 (.is 32 (.int .i64 4) :: .is 39 (.bool false) :: .callN (.tuple ⟨[.slice (some ⟨0, 0, none⟩) 1 UNK, .int .i64 4]⟩) [] [.row [.int .i64 12] 131 1] :: .heap :: .lit :: .lit :: .inl :: lits 13 (gds 7 130 true (lits 3 (.inl :: lits 8 (.br true :: ask3_c 0 (ask13_x4 n now port fro) :: .gd 114 true :: .lit :: .br true :: ask3_c 0 (ask3 ((ask13_x4 n now port fro).1) now 1 0) :: .gd 114 true :: [.lit]))))))) (o_ (stands_eq n) (o_ (reqAbove_eq (stands n) 13) (oN 6 hb0 (o_ (ieq .i64 hb5) (o_ (bis hb6) (o_ look_4_13_0_eq (oN 7 hb7 (o_ hb8 (o_ (ask3_eq { n with state := 4, own := 14 } now 0 0 (.inl rfl) 0) (o_ hb9 (o_ hb10 (o_ (ask3_eq ((ask13_x4 n now port fro).1) now 1 0 (.inr rfl) 0) (o_ hb11 o0))))))))))))) ?_; kernel_rfl
                        · refine run1 400 (stands_c (stands n) :: .heap :: reqAbove_c (reqAbove (stands n) 13) :: .heap :: gds 6 20 false (.inl :: lits 5 (.is 32 (.int .i64 4) :: .is 39 (.bool false) :: .callN (.tuple ⟨[.slice (some ⟨0, 0, none⟩) 1 UNK, .int .i64 4]⟩) [] [.row [.int .i64 12] 131 1] :: .heap :: .lit :: .lit :: .inl :: lits 13 (gds 7 130 true (lits 3 (.inl :: lits 8 (.br true :: ask3_c 0 (ask13_x4 n now port fro) :: .gd 114 true :: .lit :: .br true :: ask3_c 0 (ask3 ((ask13_x4 n now port fro).1) now 1 0) :: .gd 114 false :: [.lit]))))))) (o_ (stands_eq n) (o_ (reqAbove_eq (stands n) 13) (oN 6 hb0 (o_ (ieq .i64 hb5) (o_ (bis hb6) (o_ look_4_13_0_eq (oN 7 hb7 (o_ hb8 (o_ (ask3_eq { n with state := 4, own := 14 } now 0 0 (.inl rfl) 0) (o_ hb9 (o_ hb10 (o_ (ask3_eq ((ask13_x4 n now port fro).1) now 1 0 (.inr rfl) 0) (o_ hb11 o0))))))))))))) ?_; kernel_rfl
                      · refine run1 400 (stands_c (stands n) :: .heap :: reqAbove_c (reqAbove (stands n) 13) :: .heap :: gds 6 20 false (.inl :: lits 5 (.is 32 (.int .i64 4) :: .is 39 (.bool false) :: .callN (.tuple ⟨[.slice (some ⟨0, 0, none⟩) 1 UNK, .int .i64 4]⟩) [] [.row [.int .i64 12] 131 1] :: .heap :: .lit :: .lit :: .inl :: lits 13 (gds 7 130 true (lits 3 (.inl :: lits 8 (.br true :: ask3_c 0 (ask13_x4 n now port fro) :: .gd 114 true :: .lit :: .br false :: [.lit]))))))) (o_ (stands_eq n) (o_ (reqAbove_eq (stands n) 13) (oN 6 hb0 (o_ (ieq .i64 hb5) (o_ (bis hb6) (o_ look_4_13_0_eq (oN 7 hb7 (o_ hb8 (o_ (ask3_eq { n with state := 4, own := 14 } now 0 0 (.inl rfl) 0) (o_ hb9 (o_ hb10 o0))))))))))) ?_; kernel_rfl
                    · apply bi <;> intro hb10
                      · apply bi <;> intro hb11
                        · refine run1 400 (stands_c (stands n) :: .heap :: reqAbove_c (reqAbove (stands n) 13) :: .heap :: gds 6 20 false (.inl :: lits 5 (.is 32 (.int .i64 4) :: .is 39 (.bool false) :: .callN (.tuple ⟨[.slice (some ⟨0, 0, none⟩) 1 UNK, .int .i64 4]⟩) [] [.row [.int .i64 12] 131 1] :: .heap :: .lit :: .lit :: .inl :: lits 13 (gds 7 130 true (lits 3 (.inl :: lits 8 (.br true :: ask3_c 0 (ask13_x4 n now port fro) :: .gd 114 false :: .lit :: .br true :: ask3_c 0 (ask3 ((ask13_x4 n now port fro).1) now 1 0) :: .gd 114 true :: [.lit]))))))) (o_ (stands_eq n) (o_ (reqAbove_eq (stands n) 13) (oN 6 hb0 (o_ (ieq .i64 hb5) (o_ (bis hb6) (o_ look_4_13_0_eq (oN 7 hb7 (o_ hb8 (o_ (ask3_eq { n with state := 4, own := 14 } now 0 0 (.inl rfl) 0) (o_ hb9 (o_ hb10 (o_ (ask3_eq ((ask13_x4 n now port fro).1) now 1 0 (.inr rfl) 0) (o_ hb11 o0))))))))))))) ?_; kernel_rfl
                        · refine run1 400 (stands_c (stands n) :: .heap :: reqAbove_c (reqAbove (stands n) 13) :: .heap :: gds 6 20 false (.inl :: lits 5 (.is 32 (.int .i64 4) :: .is 39 (.bool false) :: .callN (.tuple ⟨[.slice (some ⟨0, 0, none⟩) 1 UNK, .int .i64 4]⟩) [] [.row [.int .i64 12] 131 1] :: .heap :: .lit :: .lit :: .inl :: lits 13 (gds 7 130 true (lits 3 (.inl :: lits 8 (.br true :: ask3_c 0 (ask13_x4 n now port fro) :: .gd 114 false :: .lit :: .br true :: ask3_c 0 (ask3 ((ask13_x4 n now port fro).1) now 1 0) :: .gd 114 false :: [.lit]))))))) (o_ (stands_eq n) (o_ (reqAbove_eq (stands n) 13) (oN 6 hb0 (o_ (ieq .i64 hb5) (o_ (bis hb6) (o_ look_4_13_0_eq (oN 7 hb7 (o_ hb8 (o_ (ask3_eq { n with state := 4, own := 14 } now 0 0 (.inl rfl) 0) (o_ hb9 (o_ hb10 (o_ (ask3_eq ((ask13_x4 n now port fro).1) now 1 0 (.inr rfl) 0) (o_ hb11 o0))))))))))))) ?_; kernel_rfl
                      · refine run1 400 (stands_c (stands n) :: .heap :: reqAbove_c (reqAbove (stands n) 13) :: .heap :: gds 6 20 false (.inl :: lits 5 (.is 32 (.int .i64 4) :: .is 39 (.bool false) :: .callN (.tuple ⟨[.slice (some ⟨0, 0, none⟩) 1 UNK, .int .i64 4]⟩) [] [.row [.int .i64 12] 131 1] :: .heap :: .lit :: .lit :: .inl :: lits 13 (gds 7 130 true (lits 3 (.inl :: lits 8 (.br true :: ask3_c 0 (ask13_x4 n now port fro) :: .gd 114 false :: .lit :: .br false :: [.lit]))))))) (o_ (stands_eq n) (o_ (reqAbove_eq (stands n) 13) (oN 6 hb0 (o_ (ieq .i64 hb5) (o_ (bis hb6) (o_ look_4_13_0_eq (oN 7 hb7 (o_ hb8 (o_ (ask3_eq { n with state := 4, own := 14 } now 0 0 (.inl rfl) 0) (o_ hb9 (o_ hb10 o0))))))))))) ?_; kernel_rfl
                  · apply bi <;> intro hb9
                    · apply bi <;> intro hb10
                      · refine run1 400 (stands_c (stands n) :: .heap :: reqAbove_c (reqAbove (stands n) 13) :: .heap :: gds 6 20 false (.inl :: lits 5 (.is 32 (.int .i64 4) :: .is 39 (.bool false) :: .callN (.tuple ⟨[.slice (some ⟨0, 0, none⟩) 1 UNK, .int .i64 4]⟩) [] [.row [.int .i64 12] 131 1] :: .heap :: .lit :: .lit :: .inl :: lits 13 (gds 7 130 true (lits 3 (.inl :: lits 8 (.br false :: .lit :: .br true :: ask3_c 0 (ask13_x5 n now port fro) :: .gd 114 true :: [.lit]))))))) (o_ (stands_eq n) (o_ (reqAbove_eq (stands n) 13) (oN 6 hb0 (o_ (ieq .i64 hb5) (o_ (bis hb6) (o_ look_4_13_0_eq (oN 7 hb7 (o_ hb8 (o_ hb9 (o_ (ask3_eq { n with state := 4, own := 14 } now 1 0 (.inr rfl) 0) (o_ hb10 o0))))))))))) ?_; kernel_rfl
                      · refine run1 400 (stands_c (stands n) :: .heap :: reqAbove_c (reqAbove (stands n) 13) :: .heap :: gds 6 20 false (.inl :: lits 5 (.is 32 (.int .i64 4) :: .is 39 (.bool false) :: .callN (.tuple ⟨[.slice (some ⟨0, 0, none⟩) 1 UNK, .int .i64 4]⟩) [] [.row [.int .i64 12] 131 1] :: .heap :: .lit :: .lit :: .inl :: lits 13 (gds 7 130 true (lits 3 (.inl :: lits 8 (.br false :: .lit :: .br true :: ask3_c 0 (ask13_x5 n now port fro) :: .gd 114 false :: [.lit]))))))) (o_ (stands_eq n) (o_ (reqAbove_eq (stands n) 13) (oN 6 hb0 (o_ (ieq .i64 hb5) (o_ (bis hb6) (o_ look_4_13_0_eq (oN 7 hb7 (o_ hb8 (o_ hb9 (o_ (ask3_eq { n with state := 4, own := 14 } now 1 0 (.inr rfl) 0) (o_ hb10 o0))))))))))) ?_; kernel_rfl
                    · refine run1 400 (stands_c (stands n) :: .heap :: reqAbove_c (reqAbove (stands n) 13) :: .heap :: gds 6 20 false (.inl :: lits 5 (.is 32 (.int .i64 4) :: .is 39 (.bool false) :: .callN (.tuple ⟨[.slice (some ⟨0, 0, none⟩) 1 UNK, .int .i64 4]⟩) [] [.row [.int .i64 12] 131 1] :: .heap :: .lit :: .lit :: .inl :: lits 13 (gds 7 130 true (lits 3 (.inl :: lits 8 (.br false :: .lit :: .br false :: [.lit]))))))) (o_ (stands_eq n) (o_ (reqAbove_eq (stands n) 13) (oN 6 hb0 (o_ (ieq .i64 hb5) (o_ (bis hb6) (o_ look_4_13_0_eq (oN 7 hb7 (o_ hb8 (o_ hb9 o0))))))))) ?_; kernel_rfl
                · apply bi <;> intro hb8
                  · apply bi <;> intro hb9
                    · apply bi <;> intro hb10
                      · apply bi <;> intro hb11
                        · refine bySame ((ask3 ((ask13_x4 n now port fro).1) now 1 0).2.1) ?_
                          apply bi <;> intro hb12
                          · refine run1 400 (stands_c (stands n) :: .heap :: reqAbove_c (reqAbove (stands n) 13) :: .heap :: gds 6 20 false (.inl :: lits 5 (.is 32 (.int .i64 4) :: .is 39 (.bool false) :: .callN (.tuple ⟨[.slice (some ⟨0, 0, none⟩) 1 UNK, .int .i64 4]⟩) [] [.row [.int .i64 12] 131 1] :: .heap :: .lit :: .lit :: .inl :: lits 13 (gds 7 130 false (.br true :: .lit :: .lit :: .inl :: lits 8 (.br true :: ask3_c 0 (ask13_x4 n now port fro) :: .gd 114 true :: .lit :: .br true :: ask3_c 0 (ask3 ((ask13_x4 n now port fro).1) now 1 0) :: .gd 114 true :: [.lit])))))) (o_ (stands_eq n) (o_ (reqAbove_eq (stands n) 13) (oN 6 hb0 (o_ (ieq .i64 hb5) (o_ (bis hb6) (o_ look_4_13_0_eq (oN 7 hb7 (o_ hb8 (o_ hb9 (o_ (ask3_eq { n with state := 4, own := 14 } now 0 0 (.inl rfl) 0) (o_ hb10 (o_ hb11 (o_ (ask3_eq ((ask13_x4 n now port fro).1) now 1 0 (.inr rfl) 0) (o_ hb12 o0)))))))))))))) ?_; kernel_rfl
                          · refine run1 400 (stands_c (stands n) :: .heap :: reqAbove_c (reqAbove (stands n) 13) :: .heap :: gds 6 20 false (.inl :: lits 5 (.is 32 (.int .i64 4) :: .is 39 (.bool false) :: .callN (.tuple ⟨[.slice (some ⟨0, 0, none⟩) 1 UNK, .int .i64 4]⟩) [] [.row [.int .i64 12] 131 1] :: .heap :: .lit :: .lit :: .inl :: lits 13 (gds 7 130 false (.br true :: .lit :: .lit :: .inl :: lits 8 (.br true :: ask3_c 0 (ask13_x4 n now port fro) :: .gd 114 true :: .lit :: .br true :: ask3_c 0 (ask3 ((ask13_x4 n now port fro).1) now 1 0) :: .gd 114 false :: [.lit])))))) (o_ (stands_eq n) (o_ (reqAbove_eq (stands n) 13) (oN 6 hb0 (o_ (ieq .i64 hb5) (o_ (bis hb6) (o_ look_4_13_0_eq (oN 7 hb7 (o_ hb8 (o_ hb9 (o_ (ask3_eq { n with state := 4, own := 14 } now 0 0 (.inl rfl) 0) (o_ hb10 (o_ hb11 (o_ (ask3_eq ((ask13_x4 n now port fro).1) now 1 0 (.inr rfl) 0) (o_ hb12 o0)))))))))))))) ?_; kernel_rfl
                        · refine run1 400 (stands_c (stands n) :: .heap :: reqAbove_c (reqAbove (stands n) 13) :: .heap :: gds 6 20 false (.inl :: lits 5 (.is 32 (.int .i64 4) :: .is 39 (.bool false) :: .callN (.tuple ⟨[.slice (some ⟨0, 0, none⟩) 1 UNK, .int .i64 4]⟩) [] [.row [.int .i64 12] 131 1] :: .heap :: .lit :: .lit :: .inl :: lits 13 (gds 7 130 false (.br true :: .lit :: .lit :: .inl :: lits 8 (.br true :: ask3_c 0 (ask13_x4 n now port fro) :: .gd 114 true :: .lit :: .br false :: [.lit])))))) (o_ (stands_eq n) (o_ (reqAbove_eq (stands n) 13) (oN 6 hb0 (o_ (ieq .i64 hb5) (o_ (bis hb6) (o_ look_4_13_0_eq (oN 7 hb7 (o_ hb8 (o_ hb9 (o_ (ask3_eq { n with state := 4, own := 14 } now 0 0 (.inl rfl) 0) (o_ hb10 (o_ hb11 o0)))))))))))) ?_; kernel_rfl
                      · apply bi <;> intro hb11
                        · apply bi <;> intro hb12
                          · refine run1 400 (stands_c (stands n) :: .heap :: reqAbove_c (reqAbove (stands n) 13) :: .heap :: gds 6 20 false (.inl :: lits 5 (.is 32 (.int .i64 4) :: .is 39 (.bool false) :: .callN (.tuple ⟨[.slice (some ⟨0, 0, none⟩) 1 UNK, .int .i64 4]⟩) [] [.row [.int .i64 12] 131 1] :: .heap :: .lit :: .lit :: .inl :: lits 13 (gds 7 130 false (.br true :: .lit :: .lit :: .inl :: lits 8 (.br true :: ask3_c 0 (ask13_x4 n now port fro) :: .gd 114 false :: .lit :: .br true :: ask3_c 0 (ask3 ((ask13_x4 n now port fro).1) now 1 0) :: .gd 114 true :: [.lit])))))) (o_ (stands_eq n) (o_ (reqAbove_eq (stands n) 13) (oN 6 hb0 (o_ (ieq .i64 hb5) (o_ (bis hb6) (o_ look_4_13_0_eq (oN 7 hb7 (o_ hb8 (o_ hb9 (o_ (ask3_eq { n with state := 4, own := 14 } now 0 0 (.inl rfl) 0) (o_ hb10 (o_ hb11 (o_ (ask3_eq ((ask13_x4 n now port fro).1) now 1 0 (.inr rfl) 0) (o_ hb12 o0)))))))))))))) ?_; kernel_rfl
                          · refine run1 400 (stands_c (stands n) :: .heap :: reqAbove_c (reqAbove (stands n) 13) :: .heap :: gds 6 20 false (.inl :: lits 5 (.is 32 (.int .i64 4) :: .is 39 (.bool false) :: .callN (.tuple ⟨[.slice (some ⟨0, 0, none⟩) 1 UNK, .int .i64 4]⟩) [] [.row [.int .i64 12] 131 1] :: .heap :: .lit :: .lit :: .inl :: lits 13 (gds 7 130 false (.br true :: .lit :: .lit :: .inl :: lits 8 (.br true :: ask3_c 0 (ask13_x4 n now port fro) :: .gd 114 false :: .lit :: .br true :: ask3_c 0 (ask3 ((ask13_x4 n now port fro).1) now 1 0) :: .gd 114 false :: [.lit])))))) (o_ (stands_eq n) (o_ (reqAbove_eq (stands n) 13) (oN 6 hb0 (o_ (ieq .i64 hb5) (o_ (bis hb6) (o_ look_4_13_0_eq (oN 7 hb7 (o_ hb8 (o_ hb9 (o_ (ask3_eq { n with state := 4, own := 14 } now 0 0 (.inl rfl) 0) (o_ hb10 (o_ hb11 (o_ (ask3_eq ((ask13_x4 n now port fro).1) now 1 0 (.inr rfl) 0) (o_ hb12 o0)))))))))))))) ?_; kernel_rfl
                        · refine run1 400 (stands_c (stands n) :: .heap :: reqAbove_c (reqAbove (stands n) 13) :: .heap :: gds 6 20 false (.inl :: lits 5 (.is 32 (.int .i64 4) :: .is 39 (.bool false) :: .callN (.tuple ⟨[.slice (some ⟨0, 0, none⟩) 1 UNK, .int .i64 4]⟩) [] [.row [.int .i64 12] 131 1] :: .heap :: .lit :: .lit :: .inl :: lits 13 (gds 7 130 false (.br true :: .lit :: .lit :: .inl :: lits 8 (.br true :: ask3_c 0 (ask13_x4 n now port fro) :: .gd 114 false :: .lit :: .br false :: [.lit])))))) (o_ (stands_eq n) (o_ (reqAbove_eq (stands n) 13) (oN 6 hb0 (o_ (ieq .i64 hb5) (o_ (bis hb6) (o_ look_4_13_0_eq (oN 7 hb7 (o_ hb8 (o_ hb9 (o_ (ask3_eq { n with state := 4, own := 14 } now 0 0 (.inl rfl) 0) (o_ hb10 (o_ hb11 o0)))))))))))) ?_; kernel_rfl
                    · apply bi <;> intro hb10
                      · apply bi <;> intro hb11
                        · refine run1 400 (stands_c (stands n) :: .heap :: reqAbove_c (reqAbove (stands n) 13) :: .heap :: gds 6 20 false (.inl :: lits 5 (.is 32 (.int .i64 4) :: .is 39 (.bool false) :: .callN (.tuple ⟨[.slice (some ⟨0, 0, none⟩) 1 UNK, .int .i64 4]⟩) [] [.row [.int .i64 12] 131 1] :: .heap :: .lit :: .lit :: .inl :: lits 13 (gds 7 130 false (.br true :: .lit :: .lit :: .inl :: lits 8 (.br false :: .lit :: .br true :: ask3_c 0 (ask13_x5 n now port fro) :: .gd 114 true :: [.lit])))))) (o_ (stands_eq n) (o_ (reqAbove_eq (stands n) 13) (oN 6 hb0 (o_ (ieq .i64 hb5) (o_ (bis hb6) (o_ look_4_13_0_eq (oN 7 hb7 (o_ hb8 (o_ hb9 (o_ hb10 (o_ (ask3_eq { n with state := 4, own := 14 } now 1 0 (.inr rfl) 0) (o_ hb11 o0)))))))))))) ?_; kernel_rfl
                        · refine run1 400 (stands_c (stands n) :: .heap :: reqAbove_c (reqAbove (stands n) 13) :: .heap :: gds 6 20 false (.inl :: lits 5 (.is 32 (.int .i64 4) :: .is 39 (.bool false) :: .callN (.tuple ⟨[.slice (some ⟨0, 0, none⟩) 1 UNK, .int .i64 4]⟩) [] [.row [.int .i64 12] 131 1] :: .heap :: .lit :: .lit :: .inl :: lits 13 (gds 7 130 false (.br true :: .lit :: .lit :: .inl :: lits 8 (.br false :: .lit :: .br true :: ask3_c 0 (ask13_x5 n now port fro) :: .gd 114 false :: [.lit])))))) (o_ (stands_eq n) (o_ (reqAbove_eq (stands n) 13) (oN 6 hb0 (o_ (ieq .i64 hb5) (o_ (bis hb6) (o_ look_4_13_0_eq (oN 7 hb7 (o_ hb8 (o_ hb9 (o_ hb10 (o_ (ask3_eq { n with state := 4, own := 14 } now 1 0 (.inr rfl) 0) (o_ hb11 o0)))))))))))) ?_; kernel_rfl
                      · refine run1 400 (stands_c (stands n) :: .heap :: reqAbove_c (reqAbove (stands n) 13) :: .heap :: gds 6 20 false (.inl :: lits 5 (.is 32 (.int .i64 4) :: .is 39 (.bool false) :: .callN (.tuple ⟨[.slice (some ⟨0, 0, none⟩) 1 UNK, .int .i64 4]⟩) [] [.row [.int .i64 12] 131 1] :: .heap :: .lit :: .lit :: .inl :: lits 13 (gds 7 130 false (.br true :: .lit :: .lit :: .inl :: lits 8 (.br false :: .lit :: .br false :: [.lit])))))) (o_ (stands_eq n) (o_ (reqAbove_eq (stands n) 13) (oN 6 hb0 (o_ (ieq .i64 hb5) (o_ (bis hb6) (o_ look_4_13_0_eq (oN 7 hb7 (o_ hb8 (o_ hb9 (o_ hb10 o0)))))))))) ?_; kernel_rfl
                  · apply bi <;> intro hb9
                    · apply bi <;> intro hb10
                      · apply bi <;> intro hb11
                        · refine bySame ((ask3 ((ask13_x6 n now port fro).1) now 1 0).2.1) ?_
                          apply bi <;> intro hb12
                          · refine run1 400 (stands_c (stands n) :: .heap :: reqAbove_c (reqAbove (stands n) 13) :: .heap :: gds 6 20 false (.inl :: lits 5 (.is 32 (.int .i64 4) :: .is 39 (.bool false) :: .callN (.tuple ⟨[.slice (some ⟨0, 0, none⟩) 1 UNK, .int .i64 4]⟩) [] [.row [.int .i64 12] 131 1] :: .heap :: .lit :: .lit :: .inl :: lits 13 (gds 7 130 false (.br false :: openSound_c 0 (openSound n) :: silence_c 0 (silence (openSound n)) :: .lit :: .lit :: .inl :: lits 8 (.br true :: ask3_c 0 (ask13_x6 n now port fro) :: .gd 114 true :: .lit :: .br true :: ask3_c 0 (ask3 ((ask13_x6 n now port fro).1) now 1 0) :: .gd 114 true :: [.lit])))))) (o_ (stands_eq n) (o_ (reqAbove_eq (stands n) 13) (oN 6 hb0 (o_ (ieq .i64 hb5) (o_ (bis hb6) (o_ look_4_13_0_eq (oN 7 hb7 (o_ hb8 (o_ (openSound_eq n 0) (o_ (silence_eq (openSound n) 0) (o_ hb9 (o_ (ask3_eq { (silence (openSound n)) with state := 4, own := 14 } now 0 0 (.inl rfl) 0) (o_ hb10 (o_ hb11 (o_ (ask3_eq ((ask13_x6 n now port fro).1) now 1 0 (.inr rfl) 0) (o_ hb12 o0)))))))))))))))) ?_; kernel_rfl
                          · refine run1 400 (stands_c (stands n) :: .heap :: reqAbove_c (reqAbove (stands n) 13) :: .heap :: gds 6 20 false (.inl :: lits 5 (.is 32 (.int .i64 4) :: .is 39 (.bool false) :: .callN (.tuple ⟨[.slice (some ⟨0, 0, none⟩) 1 UNK, .int .i64 4]⟩) [] [.row [.int .i64 12] 131 1] :: .heap :: .lit :: .lit :: .inl :: lits 13 (gds 7 130 false (.br false :: openSound_c 0 (openSound n) :: silence_c 0 (silence (openSound n)) :: .lit :: .lit :: .inl :: lits 8 (.br true :: ask3_c 0 (ask13_x6 n now port fro) :: .gd 114 true :: .lit :: .br true :: ask3_c 0 (ask3 ((ask13_x6 n now port fro).1) now 1 0) :: .gd 114 false :: [.lit])))))) (o_ (stands_eq n) (o_ (reqAbove_eq (stands n) 13) (oN 6 hb0 (o_ (ieq .i64 hb5) (o_ (bis hb6) (o_ look_4_13_0_eq (oN 7 hb7 (o_ hb8 (o_ (openSound_eq n 0) (o_ (silence_eq (openSound n) 0) (o_ hb9 (o_ (ask3_eq { (silence (openSound n)) with state := 4, own := 14 } now 0 0 (.inl rfl) 0) (o_ hb10 (o_ hb11 (o_ (ask3_eq ((ask13_x6 n now port fro).1) now 1 0 (.inr rfl) 0) (o_ hb12 o0)))))))))))))))) ?_; kernel_rfl
                        · refine run1 400 (stands_c (stands n) :: .heap :: reqAbove_c (reqAbove (stands n) 13) :: .heap :: gds 6 20 false (.inl :: lits 5 (.is 32 (.int .i64 4) :: .is 39 (.bool false) :: .callN (.tuple ⟨[.slice (some ⟨0, 0, none⟩) 1 UNK, .int .i64 4]⟩) [] [.row [.int .i64 12] 131 1] :: .heap :: .lit :: .lit :: .inl :: lits 13 (gds 7 130 false (.br false :: openSound_c 0 (openSound n) :: silence_c 0 (silence (openSound n)) :: .lit :: .lit :: .inl :: lits 8 (.br true :: ask3_c 0 (ask13_x6 n now port fro) :: .gd 114 true :: .lit :: .br false :: [.lit])))))) (o_ (stands_eq n) (o_ (reqAbove_eq (stands n) 13) (oN 6 hb0 (o_ (ieq .i64 hb5) (o_ (bis hb6) (o_ look_4_13_0_eq (oN 7 hb7 (o_ hb8 (o_ (openSound_eq n 0) (o_ (silence_eq (openSound n) 0) (o_ hb9 (o_ (ask3_eq { (silence (openSound n)) with state := 4, own := 14 } now 0 0 (.inl rfl) 0) (o_ hb10 (o_ hb11 o0)))))))))))))) ?_; kernel_rfl
                      · apply bi <;> intro hb11
                        · apply bi <;> intro hb12
                          · refine run1 400 (stands_c (stands n) :: .heap :: reqAbove_c (reqAbove (stands n) 13) :: .heap :: gds 6 20 false (.inl :: lits 5 (.is 32 (.int .i64 4) :: .is 39 (.bool false) :: .callN (.tuple ⟨[.slice (some ⟨0, 0, none⟩) 1 UNK, .int .i64 4]⟩) [] [.row [.int .i64 12] 131 1] :: .heap :: .lit :: .lit :: .inl :: lits 13 (gds 7 130 false (.br false :: openSound_c 0 (openSound n) :: silence_c 0 (silence (openSound n)) :: .lit :: .lit :: .inl :: lits 8 (.br true :: ask3_c 0 (ask13_x6 n now port fro) :: .gd 114 false :: .lit :: .br true :: ask3_c 0 (ask3 ((ask13_x6 n now port fro).1) now 1 0) :: .gd 114 true :: [.lit])))))) (o_ (stands_eq n) (o_ (reqAbove_eq (stands n) 13) (oN 6 hb0 (o_ (ieq .i64 hb5) (o_ (bis hb6) (o_ look_4_13_0_eq (oN 7 hb7 (o_ hb8 (o_ (openSound_eq n 0) (o_ (silence_eq (openSound n) 0) (o_ hb9 (o_ (ask3_eq { (silence (openSound n)) with state := 4, own := 14 } now 0 0 (.inl rfl) 0) (o_ hb10 (o_ hb11 (o_ (ask3_eq ((ask13_x6 n now port fro).1) now 1 0 (.inr rfl) 0) (o_ hb12 o0)))))))))))))))) ?_; kernel_rfl
                          · refine run1 400 (stands_c (stands n) :: .heap :: reqAbove_c (reqAbove (stands n) 13) :: .heap :: gds 6 20 false (.inl :: lits 5 (.is 32 (.int .i64 4) :: .is 39 (.bool false) :: .callN (.tuple ⟨[.slice (some ⟨0, 0, none⟩) 1 UNK, .int .i64 4]⟩) [] [.row [.int .i64 12] 131 1] :: .heap :: .lit :: .lit :: .inl :: lits 13 (gds 7 130 false (.br false :: openSound_c 0 (openSound n) :: silence_c 0 (silence (openSound n)) :: .lit :: .lit :: .inl :: lits 8 (.br true :: ask3_c 0 (ask13_x6 n now port fro) :: .gd 114 false :: .lit :: .br true :: ask3_c 0 (ask3 ((ask13_x6 n now port fro).1) now 1 0) :: .gd 114 false :: [.lit])))))) (o_ (stands_eq n) (o_ (reqAbove_eq (stands n) 13) (oN 6 hb0 (o_ (ieq .i64 hb5) (o_ (bis hb6) (o_ look_4_13_0_eq (oN 7 hb7 (o_ hb8 (o_ (openSound_eq n 0) (o_ (silence_eq (openSound n) 0) (o_ hb9 (o_ (ask3_eq { (silence (openSound n)) with state := 4, own := 14 } now 0 0 (.inl rfl) 0) (o_ hb10 (o_ hb11 (o_ (ask3_eq ((ask13_x6 n now port fro).1) now 1 0 (.inr rfl) 0) (o_ hb12 o0)))))))))))))))) ?_; kernel_rfl
                        · refine run1 400 (stands_c (stands n) :: .heap :: reqAbove_c (reqAbove (stands n) 13) :: .heap :: gds 6 20 false (.inl :: lits 5 (.is 32 (.int .i64 4) :: .is 39 (.bool false) :: .callN (.tuple ⟨[.slice (some ⟨0, 0, none⟩) 1 UNK, .int .i64 4]⟩) [] [.row [.int .i64 12] 131 1] :: .heap :: .lit :: .lit :: .inl :: lits 13 (gds 7 130 false (.br false :: openSound_c 0 (openSound n) :: silence_c 0 (silence (openSound n)) :: .lit :: .lit :: .inl :: lits 8 (.br true :: ask3_c 0 (ask13_x6 n now port fro) :: .gd 114 false :: .lit :: .br false :: [.lit])))))) (o_ (stands_eq n) (o_ (reqAbove_eq (stands n) 13) (oN 6 hb0 (o_ (ieq .i64 hb5) (o_ (bis hb6) (o_ look_4_13_0_eq (oN 7 hb7 (o_ hb8 (o_ (openSound_eq n 0) (o_ (silence_eq (openSound n) 0) (o_ hb9 (o_ (ask3_eq { (silence (openSound n)) with state := 4, own := 14 } now 0 0 (.inl rfl) 0) (o_ hb10 (o_ hb11 o0)))))))))))))) ?_; kernel_rfl
                    · apply bi <;> intro hb10
                      · apply bi <;> intro hb11
                        · refine run1 400 (stands_c (stands n) :: .heap :: reqAbove_c (reqAbove (stands n) 13) :: .heap :: gds 6 20 false (.inl :: lits 5 (.is 32 (.int .i64 4) :: .is 39 (.bool false) :: .callN (.tuple ⟨[.slice (some ⟨0, 0, none⟩) 1 UNK, .int .i64 4]⟩) [] [.row [.int .i64 12] 131 1] :: .heap :: .lit :: .lit :: .inl :: lits 13 (gds 7 130 false (.br false :: openSound_c 0 (openSound n) :: silence_c 0 (silence (openSound n)) :: .lit :: .lit :: .inl :: lits 8 (.br false :: .lit :: .br true :: ask3_c 0 (ask13_x7 n now port fro) :: .gd 114 true :: [.lit])))))) (o_ (stands_eq n) (o_ (reqAbove_eq (stands n) 13) (oN 6 hb0 (o_ (ieq .i64 hb5) (o_ (bis hb6) (o_ look_4_13_0_eq (oN 7 hb7 (o_ hb8 (o_ (openSound_eq n 0) (o_ (silence_eq (openSound n) 0) (o_ hb9 (o_ hb10 (o_ (ask3_eq { (silence (openSound n)) with state := 4, own := 14 } now 1 0 (.inr rfl) 0) (o_ hb11 o0)))))))))))))) ?_; kernel_rfl
                        · refine run1 400 (stands_c (stands n) :: .heap :: reqAbove_c (reqAbove (stands n) 13) :: .heap :: gds 6 20 false (.inl :: lits 5 (.is 32 (.int .i64 4) :: .is 39 (.bool false) :: .callN (.tuple ⟨[.slice (some ⟨0, 0, none⟩) 1 UNK, .int .i64 4]⟩) [] [.row [.int .i64 12] 131 1] :: .heap :: .lit :: .lit :: .inl :: lits 13 (gds 7 130 false (.br false :: openSound_c 0 (openSound n) :: silence_c 0 (silence (openSound n)) :: .lit :: .lit :: .inl :: lits 8 (.br false :: .lit :: .br true :: ask3_c 0 (ask13_x7 n now port fro) :: .gd 114 false :: [.lit])))))) (o_ (stands_eq n) (o_ (reqAbove_eq (stands n) 13) (oN 6 hb0 (o_ (ieq .i64 hb5) (o_ (bis hb6) (o_ look_4_13_0_eq (oN 7 hb7 (o_ hb8 (o_ (openSound_eq n 0) (o_ (silence_eq (openSound n) 0) (o_ hb9 (o_ hb10 (o_ (ask3_eq { (silence (openSound n)) with state := 4, own := 14 } now 1 0 (.inr rfl) 0) (o_ hb11 o0)))))))))))))) ?_; kernel_rfl
                      · refine run1 400 (stands_c (stands n) :: .heap :: reqAbove_c (reqAbove (stands n) 13) :: .heap :: gds 6 20 false (.inl :: lits 5 (.is 32 (.int .i64 4) :: .is 39 (.bool false) :: .callN (.tuple ⟨[.slice (some ⟨0, 0, none⟩) 1 UNK, .int .i64 4]⟩) [] [.row [.int .i64 12] 131 1] :: .heap :: .lit :: .lit :: .inl :: lits 13 (gds 7 130 false (.br false :: openSound_c 0 (openSound n) :: silence_c 0 (silence (openSound n)) :: .lit :: .lit :: .inl :: lits 8 (.br false :: .lit :: .br false :: [.lit])))))) (o_ (stands_eq n) (o_ (reqAbove_eq (stands n) 13) (oN 6 hb0 (o_ (ieq .i64 hb5) (o_ (bis hb6) (o_ look_4_13_0_eq (oN 7 hb7 (o_ hb8 (o_ (openSound_eq n 0) (o_ (silence_eq (openSound n) 0) (o_ hb9 (o_ hb10 o0)))))))))))) ?_; kernel_rfl
            · refine run1 400 (stands_c (stands n) :: .heap :: reqAbove_c (reqAbove (stands n) 13) :: .heap :: gds 6 20 false (.inl :: lits 5 (.callL (.tuple ⟨[.slice none 0 0, .int .i64 n.state]⟩) [] :: .heap :: [.lit]))) (o_ (stands_eq n) (o_ (reqAbove_eq (stands n) 13) (oN 6 hb0 (o_ (lookOut_eq n.state 13 (n.own != 14) (by first | omega | (simp only [zor, zand, zorf, zandf, znt, znf, zeq, zne, zeqf, znef, zd, zdf] at *; omega))) o0)))) ?_; kernel_rfl
theorem ask13_eq (n : Nd) (now : Int) (port : Int) (fro : Int) (i : Nat) : AOn Tryz.prog 36 [.pointer (some ⟨i, 0, none⟩), .agg ⟨[.int .i64 now, .int .i64 13, .int .i64 port, .int .u64 fro]⟩] [(i, .cells (Nd.enc n) 44 37)] (.tuple ⟨[.bool ((ask13 n now port fro).2.1), .bool ((ask13 n now port fro).2.2)]⟩) [(i, .cells (Nd.enc ((ask13 n now port fro).1)) 44 37)] :=
  AEq.on1 (ask13_0 n now port fro) i rfl rfl rfl rfl
def ask13_S (n : Nd) (now : Int) (port : Int) (fro : Int) (r : Nd × Bool × Bool) : Prop := Same n r.1
theorem ask13_same (n : Nd) (now : Int) (port : Int) (fro : Int) : ask13_S n now port fro (ask13 n now port fro) := by
  unfold ask13
  refine byIte (fun _ => ?_) (fun _ => ?_)
  exact (Same.refl n)
  refine byIte (fun _ => ?_) (fun _ => ?_)
  refine byIte (fun _ => ?_) (fun _ => ?_)
  exact (Same.refl n)
  exact (((Same.refl n).trans (openSound_same n)).trans (silence_same (openSound n)))
  refine byIte (fun _ => ?_) (fun _ => ?_)
  refine byIte (fun _ => ?_) (fun _ => ?_)
  refine byIte (fun _ => ?_) (fun _ => ?_)
  refine byIte (fun _ => ?_) (fun _ => ?_)
  exact ((((Same.refl n).trans (waitFor1_same n now n.rest)).trans (ask3_same { (waitFor1 n now n.rest) with state := 4, own := 14 } now 0 0)).trans (ask3_same ((ask13_x0 n now port fro).1) now 1 0))
  exact (((Same.refl n).trans (waitFor1_same n now n.rest)).trans (ask3_same { (waitFor1 n now n.rest) with state := 4, own := 14 } now 0 0))
  refine byIte (fun _ => ?_) (fun _ => ?_)
  refine byIte (fun _ => ?_) (fun _ => ?_)
  exact ((((Same.refl n).trans (waitFor1_same n now n.rest)).trans (ask3_same { (waitFor1 n now n.rest) with state := 4, own := 14 } now 0 0)).trans (ask3_same ((ask13_x0 n now port fro).1) now 1 0))
  exact ((((Same.refl n).trans (waitFor1_same n now n.rest)).trans (ask3_same { (waitFor1 n now n.rest) with state := 4, own := 14 } now 0 0)).trans (ask3_same ((ask13_x0 n now port fro).1) now 1 0))
  exact (((Same.refl n).trans (waitFor1_same n now n.rest)).trans (ask3_same { (waitFor1 n now n.rest) with state := 4, own := 14 } now 0 0))
  refine byIte (fun _ => ?_) (fun _ => ?_)
  refine byIte (fun _ => ?_) (fun _ => ?_)
  exact (((Same.refl n).trans (waitFor1_same n now n.rest)).trans (ask3_same { (waitFor1 n now n.rest) with state := 4, own := 14 } now 1 0))
  exact (((Same.refl n).trans (waitFor1_same n now n.rest)).trans (ask3_same { (waitFor1 n now n.rest) with state := 4, own := 14 } now 1 0))
  exact ((Same.refl n).trans (waitFor1_same n now n.rest))
  refine byIte (fun _ => ?_) (fun _ => ?_)
  refine byIte (fun _ => ?_) (fun _ => ?_)
  exact (Same.refl n)
  refine byIte (fun _ => ?_) (fun _ => ?_)
  refine byIte (fun _ => ?_) (fun _ => ?_)
  refine byIte (fun _ => ?_) (fun _ => ?_)
  exact ((((Same.refl n).trans (waitFor2_same n now n.wait)).trans (ask3_same { (waitFor2 n now n.wait) with state := 4, own := 14 } now 0 0)).trans (ask3_same ((ask13_x2 n now port fro).1) now 1 0))
  exact (((Same.refl n).trans (waitFor2_same n now n.wait)).trans (ask3_same { (waitFor2 n now n.wait) with state := 4, own := 14 } now 0 0))
  refine byIte (fun _ => ?_) (fun _ => ?_)
  refine byIte (fun _ => ?_) (fun _ => ?_)
  exact ((((Same.refl n).trans (waitFor2_same n now n.wait)).trans (ask3_same { (waitFor2 n now n.wait) with state := 4, own := 14 } now 0 0)).trans (ask3_same ((ask13_x2 n now port fro).1) now 1 0))
  exact ((((Same.refl n).trans (waitFor2_same n now n.wait)).trans (ask3_same { (waitFor2 n now n.wait) with state := 4, own := 14 } now 0 0)).trans (ask3_same ((ask13_x2 n now port fro).1) now 1 0))
  exact (((Same.refl n).trans (waitFor2_same n now n.wait)).trans (ask3_same { (waitFor2 n now n.wait) with state := 4, own := 14 } now 0 0))
  refine byIte (fun _ => ?_) (fun _ => ?_)
  refine byIte (fun _ => ?_) (fun _ => ?_)
  exact (((Same.refl n).trans (waitFor2_same n now n.wait)).trans (ask3_same { (waitFor2 n now n.wait) with state := 4, own := 14 } now 1 0))
  exact (((Same.refl n).trans (waitFor2_same n now n.wait)).trans (ask3_same { (waitFor2 n now n.wait) with state := 4, own := 14 } now 1 0))
  exact ((Same.refl n).trans (waitFor2_same n now n.wait))
  refine byIte (fun _ => ?_) (fun _ => ?_)
  refine byIte (fun _ => ?_) (fun _ => ?_)
  refine byIte (fun _ => ?_) (fun _ => ?_)
  refine byIte (fun _ => ?_) (fun _ => ?_)
  refine byIte (fun _ => ?_) (fun _ => ?_)
  exact (((Same.refl n).trans (ask3_same { n with state := 4, own := 14 } now 0 0)).trans (ask3_same ((ask13_x4 n now port fro).1) now 1 0))
  exact ((Same.refl n).trans (ask3_same { n with state := 4, own := 14 } now 0 0))
  refine byIte (fun _ => ?_) (fun _ => ?_)
  refine byIte (fun _ => ?_) (fun _ => ?_)
  exact (((Same.refl n).trans (ask3_same { n with state := 4, own := 14 } now 0 0)).trans (ask3_same ((ask13_x4 n now port fro).1) now 1 0))
  exact (((Same.refl n).trans (ask3_same { n with state := 4, own := 14 } now 0 0)).trans (ask3_same ((ask13_x4 n now port fro).1) now 1 0))
  exact ((Same.refl n).trans (ask3_same { n with state := 4, own := 14 } now 0 0))
  refine byIte (fun _ => ?_) (fun _ => ?_)
  refine byIte (fun _ => ?_) (fun _ => ?_)
  exact ((Same.refl n).trans (ask3_same { n with state := 4, own := 14 } now 1 0))
  exact ((Same.refl n).trans (ask3_same { n with state := 4, own := 14 } now 1 0))
  exact (Same.refl n)
  refine byIte (fun _ => ?_) (fun _ => ?_)
  refine byIte (fun _ => ?_) (fun _ => ?_)
  refine byIte (fun _ => ?_) (fun _ => ?_)
  exact (((((Same.refl n).trans (openSound_same n)).trans (silence_same (openSound n))).trans (ask3_same { (silence (openSound n)) with state := 4, own := 14 } now 0 0)).trans (ask3_same ((ask13_x6 n now port fro).1) now 1 0))
  exact ((((Same.refl n).trans (openSound_same n)).trans (silence_same (openSound n))).trans (ask3_same { (silence (openSound n)) with state := 4, own := 14 } now 0 0))
  refine byIte (fun _ => ?_) (fun _ => ?_)
  refine byIte (fun _ => ?_) (fun _ => ?_)
  exact (((((Same.refl n).trans (openSound_same n)).trans (silence_same (openSound n))).trans (ask3_same { (silence (openSound n)) with state := 4, own := 14 } now 0 0)).trans (ask3_same ((ask13_x6 n now port fro).1) now 1 0))
  exact (((((Same.refl n).trans (openSound_same n)).trans (silence_same (openSound n))).trans (ask3_same { (silence (openSound n)) with state := 4, own := 14 } now 0 0)).trans (ask3_same ((ask13_x6 n now port fro).1) now 1 0))
  exact ((((Same.refl n).trans (openSound_same n)).trans (silence_same (openSound n))).trans (ask3_same { (silence (openSound n)) with state := 4, own := 14 } now 0 0))
  refine byIte (fun _ => ?_) (fun _ => ?_)
  refine byIte (fun _ => ?_) (fun _ => ?_)
  exact ((((Same.refl n).trans (openSound_same n)).trans (silence_same (openSound n))).trans (ask3_same { (silence (openSound n)) with state := 4, own := 14 } now 1 0))
  exact ((((Same.refl n).trans (openSound_same n)).trans (silence_same (openSound n))).trans (ask3_same { (silence (openSound n)) with state := 4, own := 14 } now 1 0))
  exact (((Same.refl n).trans (openSound_same n)).trans (silence_same (openSound n)))
  exact (Same.refl n)

def ask14 (n : Nd) (now : Int) (port : Int) (fro : Int) : Nd × Bool × Bool :=
  (n, false, false)
def ask14_c (i : Nat) (r : Nd × Bool × Bool) : Dir := .callL (.tuple ⟨[.bool r.2.1, .bool r.2.2]⟩) [(i, .cells (Nd.enc r.1) 44 37)]
def ask14_G (n : Nd) (now : Int) (port : Int) (fro : Int) (r : Nd × Bool × Bool) : Prop := AEq Tryz.prog 36 [.pointer (some ⟨0, 0, none⟩), .agg ⟨[.int .i64 now, .int .i64 14, .int .i64 port, .int .u64 fro]⟩] [.cells (Nd.enc n) 44 37] (.tuple ⟨[.bool r.2.1, .bool r.2.2]⟩) [.cells (Nd.enc r.1) 44 37]
theorem ask14_0 (n : Nd) (now : Int) (port : Int) (fro : Int) : ask14_G n now port fro (ask14 n now port fro) := by
  unfold ask14
  refine bySame ((reqAbove (stands n) 14)) ?_
  apply bi <;> intro hb0
  · refine run1 400 (stands_c (stands n) :: .heap :: reqAbove_c (reqAbove (stands n) 14) :: .heap :: gds 6 20 true ([.lit])) (o_ (stands_eq n) (o_ (reqAbove_eq (stands n) 14) (oN 6 hb0 o0))) ?_; kernel_rfl
  · refine bySame (n.state == 0) ?_
    apply bi <;> intro hb1
    · refine run1 400 (stands_c (stands n) :: .heap :: reqAbove_c (reqAbove (stands n) 14) :: .heap :: gds 6 20 false (.inl :: lits 5 (.is 32 (.int .i64 0) :: .callL (.tuple ⟨[.slice none 0 0, .int .i64 0]⟩) [] :: .heap :: [.lit]))) (o_ (stands_eq n) (o_ (reqAbove_eq (stands n) 14) (oN 6 hb0 (o_ (ieq .i64 hb1) (o_ (lookOut_eq 0 14 (n.own != 14) (by first | omega | (simp only [zor, zand, zorf, zandf, znt, znf, zeq, zne, zeqf, znef, zd, zdf] at *; omega))) o0))))) ?_; kernel_rfl
    · refine bySame (n.state == 1) ?_
      apply bi <;> intro hb2
      · refine run1 400 (stands_c (stands n) :: .heap :: reqAbove_c (reqAbove (stands n) 14) :: .heap :: gds 6 20 false (.inl :: lits 5 (.is 32 (.int .i64 1) :: .callL (.tuple ⟨[.slice none 0 0, .int .i64 1]⟩) [] :: .heap :: [.lit]))) (o_ (stands_eq n) (o_ (reqAbove_eq (stands n) 14) (oN 6 hb0 (o_ (ieq .i64 hb2) (o_ (lookOut_eq 1 14 (n.own != 14) (by first | omega | (simp only [zor, zand, zorf, zandf, znt, znf, zeq, zne, zeqf, znef, zd, zdf] at *; omega))) o0))))) ?_; kernel_rfl
      · refine bySame (n.state == 2) ?_
        apply bi <;> intro hb3
        · refine run1 400 (stands_c (stands n) :: .heap :: reqAbove_c (reqAbove (stands n) 14) :: .heap :: gds 6 20 false (.inl :: lits 5 (.is 32 (.int .i64 2) :: .callL (.tuple ⟨[.slice none 0 0, .int .i64 2]⟩) [] :: .heap :: [.lit]))) (o_ (stands_eq n) (o_ (reqAbove_eq (stands n) 14) (oN 6 hb0 (o_ (ieq .i64 hb3) (o_ (lookOut_eq 2 14 (n.own != 14) (by first | omega | (simp only [zor, zand, zorf, zandf, znt, znf, zeq, zne, zeqf, znef, zd, zdf] at *; omega))) o0))))) ?_; kernel_rfl
        · refine bySame (n.state == 3) ?_
          apply bi <;> intro hb4
          · refine run1 400 (stands_c (stands n) :: .heap :: reqAbove_c (reqAbove (stands n) 14) :: .heap :: gds 6 20 false (.inl :: lits 5 (.is 32 (.int .i64 3) :: .callL (.tuple ⟨[.slice none 0 0, .int .i64 3]⟩) [] :: .heap :: [.lit]))) (o_ (stands_eq n) (o_ (reqAbove_eq (stands n) 14) (oN 6 hb0 (o_ (ieq .i64 hb4) (o_ (lookOut_eq 3 14 (n.own != 14) (by first | omega | (simp only [zor, zand, zorf, zandf, znt, znf, zeq, zne, zeqf, znef, zd, zdf] at *; omega))) o0))))) ?_; kernel_rfl
          · refine bySame (n.state == 4) ?_
            apply bi <;> intro hb5
            · refine run1 400 (stands_c (stands n) :: .heap :: reqAbove_c (reqAbove (stands n) 14) :: .heap :: gds 6 20 false (.inl :: lits 5 (.is 32 (.int .i64 4) :: .callL (.tuple ⟨[.slice none 0 0, .int .i64 4]⟩) [] :: .heap :: [.lit]))) (o_ (stands_eq n) (o_ (reqAbove_eq (stands n) 14) (oN 6 hb0 (o_ (ieq .i64 hb5) (o_ (lookOut_eq 4 14 (n.own != 14) (by first | omega | (simp only [zor, zand, zorf, zandf, znt, znf, zeq, zne, zeqf, znef, zd, zdf] at *; omega))) o0))))) ?_; kernel_rfl
            · refine run1 400 (stands_c (stands n) :: .heap :: reqAbove_c (reqAbove (stands n) 14) :: .heap :: gds 6 20 false (.inl :: lits 5 (.callL (.tuple ⟨[.slice none 0 0, .int .i64 n.state]⟩) [] :: .heap :: [.lit]))) (o_ (stands_eq n) (o_ (reqAbove_eq (stands n) 14) (oN 6 hb0 (o_ (lookOut_eq n.state 14 (n.own != 14) (by first | omega | (simp only [zor, zand, zorf, zandf, znt, znf, zeq, zne, zeqf, znef, zd, zdf] at *; omega))) o0)))) ?_; kernel_rfl
theorem ask14_eq (n : Nd) (now : Int) (port : Int) (fro : Int) (i : Nat) : AOn Tryz.prog 36 [.pointer (some ⟨i, 0, none⟩), .agg ⟨[.int .i64 now, .int .i64 14, .int .i64 port, .int .u64 fro]⟩] [(i, .cells (Nd.enc n) 44 37)] (.tuple ⟨[.bool ((ask14 n now port fro).2.1), .bool ((ask14 n now port fro).2.2)]⟩) [(i, .cells (Nd.enc ((ask14 n now port fro).1)) 44 37)] :=
  AEq.on1 (ask14_0 n now port fro) i rfl rfl rfl rfl
def ask14_S (n : Nd) (now : Int) (port : Int) (fro : Int) (r : Nd × Bool × Bool) : Prop := Same n r.1
theorem ask14_same (n : Nd) (now : Int) (port : Int) (fro : Int) : ask14_S n now port fro (ask14 n now port fro) := by
  unfold ask14
  exact (Same.refl n)

end Go.Proofs.E17

namespace Go.Proofs.E17
open Go Go.AX Go.Proofs
set_option maxRecDepth 1000000
set_option linter.unusedVariables false
set_option linter.unusedSimpArgs false

def reqOf (m : Msg) : Int :=
  bif m.req == 13 then
    2
  else
    bif m.req == 11 then
      5
    else
      bif m.req == 7 then
        6
      else
        bif m.req == 0 then
          bif m.block then
            12
          else
            13
        else
          14
def reqOf_c (r : Int) : Dir := .callL (.int .i64 r) []
def reqOf_G (m : Msg) (r : Int) : Prop := AOn Tryz.prog 40 [.agg ⟨Msg.enc m⟩] [] (.int .i64 r) []
theorem reqOf_eq (m : Msg) : reqOf_G m (reqOf m) := by
  unfold reqOf
  apply bi <;> intro hb0
  · refine on0 400 [.br true] (o_ hb0 o0) ?_ rfl; kernel_rfl
  · apply bi <;> intro hb1
    · refine on0 400 [.br false, .br true] (o_ hb0 (o_ hb1 o0)) ?_ rfl; kernel_rfl
    · apply bi <;> intro hb2
      · refine on0 400 [.br false, .br false, .br true] (o_ hb0 (o_ hb1 (o_ hb2 o0))) ?_ rfl; kernel_rfl
      · apply bi <;> intro hb3
        · apply bi <;> intro hb4
          · refine on0 400 [.br false, .br false, .br false, .br true, .br true] (o_ hb0 (o_ hb1 (o_ hb2 (o_ hb3 (o_ hb4 o0))))) ?_ rfl; kernel_rfl
          · refine on0 400 [.br false, .br false, .br false, .br true, .br false] (o_ hb0 (o_ hb1 (o_ hb2 (o_ hb3 (o_ hb4 o0))))) ?_ rfl; kernel_rfl
        · refine on0 400 [.br false, .br false, .br false, .br false] (o_ hb0 (o_ hb1 (o_ hb2 (o_ hb3 o0)))) ?_ rfl; kernel_rfl
def reqOf_D (r : Int) : Prop := r = 2 ∨ r = 5 ∨ r = 6 ∨ r = 12 ∨ r = 13 ∨ r = 14
theorem reqOf_dom (m : Msg) : reqOf_D (reqOf m) := by
  unfold reqOf
  refine byIte (fun _ => ?_) (fun _ => ?_)
  unfold reqOf_D; decide
  refine byIte (fun _ => ?_) (fun _ => ?_)
  unfold reqOf_D; decide
  refine byIte (fun _ => ?_) (fun _ => ?_)
  unfold reqOf_D; decide
  refine byIte (fun _ => ?_) (fun _ => ?_)
  refine byIte (fun _ => ?_) (fun _ => ?_)
  unfold reqOf_D; decide
  unfold reqOf_D; decide
  unfold reqOf_D; decide

def order (n : Nd) (now : Int) (k : Int) (port : Int) : Nd × Bool × Int :=
  bif k == 1 then
    bif port == 0 then
      bif !((ask1 n now 0 0).2.2) then
        (n, false, 12)
      else
        ((ask1 n now 0 0).1, (ask1 n now 0 0).2.1, 0)
    else
      bif !(port == 1) then
        (n, false, 11)
      else
        bif !((ask1 n now 1 0).2.2) then
          (n, false, 12)
        else
          ((ask1 n now 1 0).1, (ask1 n now 1 0).2.1, 0)
  else
    bif k == 7 then
      bif port == 0 then
        bif !((ask7 n now 0 0).2.2) then
          (n, false, 12)
        else
          ((ask7 n now 0 0).1, (ask7 n now 0 0).2.1, 0)
      else
        bif !(port == 1) then
          (n, false, 11)
        else
          bif !((ask7 n now 1 0).2.2) then
            (n, false, 12)
          else
            ((ask7 n now 1 0).1, (ask7 n now 1 0).2.1, 0)
    else
      bif k == 0 then
        bif !((ask0 n now port 0).2.2) then
          (n, false, 12)
        else
          ((ask0 n now port 0).1, (ask0 n now port 0).2.1, 0)
      else
        (n, false, 10)
def order_c (r : Nd × Bool × Int) : Dir := .callL (.tuple ⟨[.agg ⟨Nd.enc r.1⟩, .bool r.2.1, .int .i64 r.2.2]⟩) []
def order_G (n : Nd) (now : Int) (k : Int) (port : Int) (r : Nd × Bool × Int) : Prop := AOn Tryz.prog 10 [.agg ⟨Nd.enc n⟩, .int .i64 now, .int .i64 k, .int .i64 port] [] (.tuple ⟨[.agg ⟨Nd.enc r.1⟩, .bool r.2.1, .int .i64 r.2.2]⟩) []
theorem order_eq (n : Nd) (now : Int) (k : Int) (port : Int) (hr : n.role ≠ 0 → n.rpl = 0 ∨ n.rpl = 1) : order_G n now k port (order n now k port) := by
  unfold order
  apply bi <;> intro hb0
  · apply bi <;> intro hb1
    · apply bi <;> intro hb2
      · refine on0 400 [.br true, .br true, .inl, .gd 5 true, .lit, .is 28 (.int .i64 1), .is 29 (.int .i64 0), ask1_c 2 (ask1 n now 0 0), .br true] (o_ hb0 (o_ hb0 (o_ hb1 (o_ (ieq .i64 hb0) (o_ (ieq .i64 hb1) (o_ (ask1_eq n now 0 0 (.inl rfl) 2) (o_ hb2 o0))))))) ?_ rfl; kernel_rfl
      · refine on0 400 [.br true, .br true, .inl, .gd 5 true, .lit, .is 28 (.int .i64 1), .is 29 (.int .i64 0), ask1_c 2 (ask1 n now 0 0), .br false] (o_ hb0 (o_ hb0 (o_ hb1 (o_ (ieq .i64 hb0) (o_ (ieq .i64 hb1) (o_ (ask1_eq n now 0 0 (.inl rfl) 2) (o_ hb2 o0))))))) ?_ rfl; kernel_rfl
    · apply bi <;> intro hb2
      · refine on0 400 [.br true, .br true, .inl, .gd 5 false, .br true] (o_ hb0 (o_ hb0 (o_ hb1 (o_ hb2 o0)))) ?_ rfl; kernel_rfl
      · apply bi <;> intro hb3
        · refine on0 400 [.br true, .br true, .inl, .gd 5 false, .br false, .is 28 (.int .i64 1), .is 29 (.int .i64 1), ask1_c 2 (ask1 n now 1 0), .br true] (o_ hb0 (o_ hb0 (o_ hb1 (o_ hb2 (o_ (ieq .i64 hb0) (o_ (iis .i64 (a := port) (b := 1) (by first | omega | (simp only [zor, zand, zorf, zandf, znt, znf, zeq, zne, zeqf, znef, zd, zdf] at *; omega))) (o_ (ask1_eq n now 1 0 (.inr rfl) 2) (o_ hb3 o0)))))))) ?_ rfl; kernel_rfl
        · refine on0 400 [.br true, .br true, .inl, .gd 5 false, .br false, .is 28 (.int .i64 1), .is 29 (.int .i64 1), ask1_c 2 (ask1 n now 1 0), .br false] (o_ hb0 (o_ hb0 (o_ hb1 (o_ hb2 (o_ (ieq .i64 hb0) (o_ (iis .i64 (a := port) (b := 1) (by first | omega | (simp only [zor, zand, zorf, zandf, znt, znf, zeq, zne, zeqf, znef, zd, zdf] at *; omega))) (o_ (ask1_eq n now 1 0 (.inr rfl) 2) (o_ hb3 o0)))))))) ?_ rfl; kernel_rfl
  · apply bi <;> intro hb1
    · apply bi <;> intro hb2
      · apply bi <;> intro hb3
        · refine on0 400 [.br false, .br true, .inl, .gd 5 true, .lit, .is 28 (.int .i64 7), .is 29 (.int .i64 0), ask7_c 2 (ask7 n now 0 0), .br true] (o_ hb0 (o_ hb1 (o_ hb2 (o_ (ieq .i64 hb1) (o_ (ieq .i64 hb2) (o_ (ask7_eq n now 0 0 (.inl rfl) 2) (o_ hb3 o0))))))) ?_ rfl; kernel_rfl
        · refine on0 400 [.br false, .br true, .inl, .gd 5 true, .lit, .is 28 (.int .i64 7), .is 29 (.int .i64 0), ask7_c 2 (ask7 n now 0 0), .br false] (o_ hb0 (o_ hb1 (o_ hb2 (o_ (ieq .i64 hb1) (o_ (ieq .i64 hb2) (o_ (ask7_eq n now 0 0 (.inl rfl) 2) (o_ hb3 o0))))))) ?_ rfl; kernel_rfl
      · apply bi <;> intro hb3
        · refine on0 400 [.br false, .br true, .inl, .gd 5 false, .br true] (o_ hb0 (o_ hb1 (o_ hb2 (o_ hb3 o0)))) ?_ rfl; kernel_rfl
        · apply bi <;> intro hb4
          · refine on0 400 [.br false, .br true, .inl, .gd 5 false, .br false, .is 28 (.int .i64 7), .is 29 (.int .i64 1), ask7_c 2 (ask7 n now 1 0), .br true] (o_ hb0 (o_ hb1 (o_ hb2 (o_ hb3 (o_ (ieq .i64 hb1) (o_ (iis .i64 (a := port) (b := 1) (by first | omega | (simp only [zor, zand, zorf, zandf, znt, znf, zeq, zne, zeqf, znef, zd, zdf] at *; omega))) (o_ (ask7_eq n now 1 0 (.inr rfl) 2) (o_ hb4 o0)))))))) ?_ rfl; kernel_rfl
          · refine on0 400 [.br false, .br true, .inl, .gd 5 false, .br false, .is 28 (.int .i64 7), .is 29 (.int .i64 1), ask7_c 2 (ask7 n now 1 0), .br false] (o_ hb0 (o_ hb1 (o_ hb2 (o_ hb3 (o_ (ieq .i64 hb1) (o_ (iis .i64 (a := port) (b := 1) (by first | omega | (simp only [zor, zand, zorf, zandf, znt, znf, zeq, zne, zeqf, znef, zd, zdf] at *; omega))) (o_ (ask7_eq n now 1 0 (.inr rfl) 2) (o_ hb4 o0)))))))) ?_ rfl; kernel_rfl
    · apply bi <;> intro hb2
      · apply bi <;> intro hb3
        · refine on0 400 [.br false, .br false, .br true, .is 28 (.int .i64 0), ask0_c 2 (ask0 n now port 0), .br true] (o_ hb0 (o_ hb1 (o_ hb2 (o_ (ieq .i64 hb2) (o_ (ask0_eq n now port 0 (by first | omega | (simp only [zor, zand, zorf, zandf, znt, znf, zeq, zne, zeqf, znef, zd, zdf] at *; omega)) 2) (o_ hb3 o0)))))) ?_ rfl; kernel_rfl
        · refine on0 400 [.br false, .br false, .br true, .is 28 (.int .i64 0), ask0_c 2 (ask0 n now port 0), .br false] (o_ hb0 (o_ hb1 (o_ hb2 (o_ (ieq .i64 hb2) (o_ (ask0_eq n now port 0 (by first | omega | (simp only [zor, zand, zorf, zandf, znt, znf, zeq, zne, zeqf, znef, zd, zdf] at *; omega)) 2) (o_ hb3 o0)))))) ?_ rfl; kernel_rfl
      · refine on0 400 [.br false, .br false, .br false] (o_ hb0 (o_ hb1 (o_ hb2 o0))) ?_ rfl; kernel_rfl
def order_S (n : Nd) (now : Int) (k : Int) (port : Int) (r : Nd × Bool × Int) : Prop := Same n r.1
theorem order_same (n : Nd) (now : Int) (k : Int) (port : Int) : order_S n now k port (order n now k port) := by
  unfold order
  refine byIte (fun _ => ?_) (fun _ => ?_)
  refine byIte (fun _ => ?_) (fun _ => ?_)
  refine byIte (fun _ => ?_) (fun _ => ?_)
  exact (Same.refl n)
  exact ((Same.refl n).trans (ask1_same n now 0 0))
  refine byIte (fun _ => ?_) (fun _ => ?_)
  exact (Same.refl n)
  refine byIte (fun _ => ?_) (fun _ => ?_)
  exact (Same.refl n)
  exact ((Same.refl n).trans (ask1_same n now 1 0))
  refine byIte (fun _ => ?_) (fun _ => ?_)
  refine byIte (fun _ => ?_) (fun _ => ?_)
  refine byIte (fun _ => ?_) (fun _ => ?_)
  exact (Same.refl n)
  exact ((Same.refl n).trans (ask7_same n now 0 0))
  refine byIte (fun _ => ?_) (fun _ => ?_)
  exact (Same.refl n)
  refine byIte (fun _ => ?_) (fun _ => ?_)
  exact (Same.refl n)
  exact ((Same.refl n).trans (ask7_same n now 1 0))
  refine byIte (fun _ => ?_) (fun _ => ?_)
  refine byIte (fun _ => ?_) (fun _ => ?_)
  exact (Same.refl n)
  exact ((Same.refl n).trans (ask0_same n now port 0))
  exact (Same.refl n)

def fault_x0 (n : Nd) (now : Int) (port : Int) (bad : Bool) : Nd × Bool × Bool := ask3 ({ n with bad := { n.bad with w := bad } }) now 0 0
def fault_x1 (n : Nd) (now : Int) (port : Int) (bad : Bool) : Nd × Bool × Bool := ask4 ({ n with bad := { n.bad with w := bad } }) now 0 0
def fault_x2 (n : Nd) (now : Int) (port : Int) (bad : Bool) : Nd × Bool × Bool := ask3 ({ n with bad := { n.bad with e := bad } }) now 1 0
def fault_x3 (n : Nd) (now : Int) (port : Int) (bad : Bool) : Nd × Bool × Bool := ask4 ({ n with bad := { n.bad with e := bad } }) now 1 0
def fault (n : Nd) (now : Int) (port : Int) (bad : Bool) : Nd × Bool :=
  bif port == 0 then
    bif n.bad.w == bad then
      (n, false)
    else
      bif (!bad) && n.bad.e then
        ({ n with bad := { n.bad with w := bad } }, false)
      else
        bif bad then
          ((fault_x0 n now port bad).1, (fault_x0 n now port bad).2.1)
        else
          ((fault_x1 n now port bad).1, (fault_x1 n now port bad).2.1)
  else
    bif (!(port == 1)) || (n.bad.e == bad) then
      (n, false)
    else
      bif (!bad) && n.bad.w then
        ({ n with bad := { n.bad with e := bad } }, false)
      else
        bif bad then
          ((fault_x2 n now port bad).1, (fault_x2 n now port bad).2.1)
        else
          ((fault_x3 n now port bad).1, (fault_x3 n now port bad).2.1)
def fault_c (r : Nd × Bool) : Dir := .callL (.tuple ⟨[.agg ⟨Nd.enc r.1⟩, .bool r.2]⟩) []
def fault_G (n : Nd) (now : Int) (port : Int) (bad : Bool) (r : Nd × Bool) : Prop := AOn Tryz.prog 11 [.agg ⟨Nd.enc n⟩, .int .i64 now, .int .i64 port, .bool bad] [] (.tuple ⟨[.agg ⟨Nd.enc r.1⟩, .bool r.2]⟩) []
theorem fault_eq (n : Nd) (now : Int) (port : Int) (bad : Bool) (hr : n.role ≠ 0 → n.rpl = 0 ∨ n.rpl = 1) : fault_G n now port bad (fault n now port bad) := by
  unfold fault
  apply bi <;> intro hb0
  · apply bi <;> intro hb1
    · refine on0 400 [.inl, .gd 5 true, .is 17 (.int .i64 0), .br true] (o_ hb0 (o_ (ieq .i64 hb0) (o_ hb1 o0))) ?_ rfl; kernel_rfl
    · refine byAnd ?_
      apply bi <;> intro hb2
      · apply bi <;> intro hb3
        · refine on0 400 [.inl, .gd 5 true, .is 17 (.int .i64 0), .br false, .is 25 (.int .i64 0), .gd 31 true, .is 32 (.int .i64 0), .br true] (o_ hb0 (o_ (ieq .i64 hb0) (o_ hb1 (o_ (ieq .i64 hb0) (o_ hb2 (o_ (ieq .i64 hb0) (o_ hb3 o0))))))) ?_ rfl; kernel_rfl
        · apply bi <;> intro hb4
          · refine on0 400 [.inl, .gd 5 true, .is 17 (.int .i64 0), .br false, .is 25 (.int .i64 0), .gd 31 true, .is 32 (.int .i64 0), .br false, .br true, .is 43 (.int .i64 0), ask3_c 0 (fault_x0 n now port bad)] (o_ hb0 (o_ (ieq .i64 hb0) (o_ hb1 (o_ (ieq .i64 hb0) (o_ hb2 (o_ (ieq .i64 hb0) (o_ hb3 (o_ hb4 (o_ (ieq .i64 hb0) (o_ (ask3_eq ({ n with bad := { n.bad with w := bad } }) now 0 0 (.inl rfl) 0) o0)))))))))) ?_ rfl; kernel_rfl
          · refine on0 400 [.inl, .gd 5 true, .is 17 (.int .i64 0), .br false, .is 25 (.int .i64 0), .gd 31 true, .is 32 (.int .i64 0), .br false, .br false, .is 43 (.int .i64 0), ask4_c 0 (fault_x1 n now port bad)] (o_ hb0 (o_ (ieq .i64 hb0) (o_ hb1 (o_ (ieq .i64 hb0) (o_ hb2 (o_ (ieq .i64 hb0) (o_ hb3 (o_ hb4 (o_ (ieq .i64 hb0) (o_ (ask4_eq ({ n with bad := { n.bad with w := bad } }) now 0 0 0) o0)))))))))) ?_ rfl; kernel_rfl
      · apply bi <;> intro hb3
        · refine on0 400 [.inl, .gd 5 true, .is 17 (.int .i64 0), .br false, .is 25 (.int .i64 0), .gd 31 false, .lit, .br true, .is 43 (.int .i64 0), ask3_c 0 (fault_x0 n now port bad)] (o_ hb0 (o_ (ieq .i64 hb0) (o_ hb1 (o_ (ieq .i64 hb0) (o_ hb2 (o_ hb3 (o_ (ieq .i64 hb0) (o_ (ask3_eq ({ n with bad := { n.bad with w := bad } }) now 0 0 (.inl rfl) 0) o0)))))))) ?_ rfl; kernel_rfl
        · refine on0 400 [.inl, .gd 5 true, .is 17 (.int .i64 0), .br false, .is 25 (.int .i64 0), .gd 31 false, .lit, .br false, .is 43 (.int .i64 0), ask4_c 0 (fault_x1 n now port bad)] (o_ hb0 (o_ (ieq .i64 hb0) (o_ hb1 (o_ (ieq .i64 hb0) (o_ hb2 (o_ hb3 (o_ (ieq .i64 hb0) (o_ (ask4_eq ({ n with bad := { n.bad with w := bad } }) now 0 0 0) o0)))))))) ?_ rfl; kernel_rfl
  · refine byOr ?_
    apply bi <;> intro hb1
    · refine on0 400 [.inl, .gd 5 false, .gd 16 true, .lit] (o_ hb0 (o_ hb1 o0)) ?_ rfl; kernel_rfl
    · apply bi <;> intro hb2
      · refine on0 400 [.inl, .gd 5 false, .gd 16 false, .is 17 (.int .i64 1), .br true] (o_ hb0 (o_ hb1 (o_ (iis .i64 (a := port) (b := 1) (by first | omega | (simp only [zor, zand, zorf, zandf, znt, znf, zeq, zne, zeqf, znef, zd, zdf] at *; omega))) (o_ hb2 o0)))) ?_ rfl; kernel_rfl
      · refine byAnd ?_
        apply bi <;> intro hb3
        · apply bi <;> intro hb4
          · refine on0 400 [.inl, .gd 5 false, .gd 16 false, .is 17 (.int .i64 1), .br false, .is 25 (.int .i64 1), .gd 31 true, .is 32 (.int .i64 1), .br true] (o_ hb0 (o_ hb1 (o_ (iis .i64 (a := port) (b := 1) (by first | omega | (simp only [zor, zand, zorf, zandf, znt, znf, zeq, zne, zeqf, znef, zd, zdf] at *; omega))) (o_ hb2 (o_ (iis .i64 (a := port) (b := 1) (by first | omega | (simp only [zor, zand, zorf, zandf, znt, znf, zeq, zne, zeqf, znef, zd, zdf] at *; omega))) (o_ hb3 (o_ (iis .i64 (a := port) (b := 1) (by first | omega | (simp only [zor, zand, zorf, zandf, znt, znf, zeq, zne, zeqf, znef, zd, zdf] at *; omega))) (o_ hb4 o0)))))))) ?_ rfl; kernel_rfl
          · apply bi <;> intro hb5
            · refine on0 400 [.inl, .gd 5 false, .gd 16 false, .is 17 (.int .i64 1), .br false, .is 25 (.int .i64 1), .gd 31 true, .is 32 (.int .i64 1), .br false, .br true, .is 43 (.int .i64 1), ask3_c 0 (fault_x2 n now port bad)] (o_ hb0 (o_ hb1 (o_ (iis .i64 (a := port) (b := 1) (by first | omega | (simp only [zor, zand, zorf, zandf, znt, znf, zeq, zne, zeqf, znef, zd, zdf] at *; omega))) (o_ hb2 (o_ (iis .i64 (a := port) (b := 1) (by first | omega | (simp only [zor, zand, zorf, zandf, znt, znf, zeq, zne, zeqf, znef, zd, zdf] at *; omega))) (o_ hb3 (o_ (iis .i64 (a := port) (b := 1) (by first | omega | (simp only [zor, zand, zorf, zandf, znt, znf, zeq, zne, zeqf, znef, zd, zdf] at *; omega))) (o_ hb4 (o_ hb5 (o_ (iis .i64 (a := port) (b := 1) (by first | omega | (simp only [zor, zand, zorf, zandf, znt, znf, zeq, zne, zeqf, znef, zd, zdf] at *; omega))) (o_ (ask3_eq ({ n with bad := { n.bad with e := bad } }) now 1 0 (.inr rfl) 0) o0))))))))))) ?_ rfl; kernel_rfl
            · refine on0 400 [.inl, .gd 5 false, .gd 16 false, .is 17 (.int .i64 1), .br false, .is 25 (.int .i64 1), .gd 31 true, .is 32 (.int .i64 1), .br false, .br false, .is 43 (.int .i64 1), ask4_c 0 (fault_x3 n now port bad)] (o_ hb0 (o_ hb1 (o_ (iis .i64 (a := port) (b := 1) (by first | omega | (simp only [zor, zand, zorf, zandf, znt, znf, zeq, zne, zeqf, znef, zd, zdf] at *; omega))) (o_ hb2 (o_ (iis .i64 (a := port) (b := 1) (by first | omega | (simp only [zor, zand, zorf, zandf, znt, znf, zeq, zne, zeqf, znef, zd, zdf] at *; omega))) (o_ hb3 (o_ (iis .i64 (a := port) (b := 1) (by first | omega | (simp only [zor, zand, zorf, zandf, znt, znf, zeq, zne, zeqf, znef, zd, zdf] at *; omega))) (o_ hb4 (o_ hb5 (o_ (iis .i64 (a := port) (b := 1) (by first | omega | (simp only [zor, zand, zorf, zandf, znt, znf, zeq, zne, zeqf, znef, zd, zdf] at *; omega))) (o_ (ask4_eq ({ n with bad := { n.bad with e := bad } }) now 1 0 0) o0))))))))))) ?_ rfl; kernel_rfl
        · apply bi <;> intro hb4
          · refine on0 400 [.inl, .gd 5 false, .gd 16 false, .is 17 (.int .i64 1), .br false, .is 25 (.int .i64 1), .gd 31 false, .lit, .br true, .is 43 (.int .i64 1), ask3_c 0 (fault_x2 n now port bad)] (o_ hb0 (o_ hb1 (o_ (iis .i64 (a := port) (b := 1) (by first | omega | (simp only [zor, zand, zorf, zandf, znt, znf, zeq, zne, zeqf, znef, zd, zdf] at *; omega))) (o_ hb2 (o_ (iis .i64 (a := port) (b := 1) (by first | omega | (simp only [zor, zand, zorf, zandf, znt, znf, zeq, zne, zeqf, znef, zd, zdf] at *; omega))) (o_ hb3 (o_ hb4 (o_ (iis .i64 (a := port) (b := 1) (by first | omega | (simp only [zor, zand, zorf, zandf, znt, znf, zeq, zne, zeqf, znef, zd, zdf] at *; omega))) (o_ (ask3_eq ({ n with bad := { n.bad with e := bad } }) now 1 0 (.inr rfl) 0) o0))))))))) ?_ rfl; kernel_rfl
          · refine on0 400 [.inl, .gd 5 false, .gd 16 false, .is 17 (.int .i64 1), .br false, .is 25 (.int .i64 1), .gd 31 false, .lit, .br false, .is 43 (.int .i64 1), ask4_c 0 (fault_x3 n now port bad)] (o_ hb0 (o_ hb1 (o_ (iis .i64 (a := port) (b := 1) (by first | omega | (simp only [zor, zand, zorf, zandf, znt, znf, zeq, zne, zeqf, znef, zd, zdf] at *; omega))) (o_ hb2 (o_ (iis .i64 (a := port) (b := 1) (by first | omega | (simp only [zor, zand, zorf, zandf, znt, znf, zeq, zne, zeqf, znef, zd, zdf] at *; omega))) (o_ hb3 (o_ hb4 (o_ (iis .i64 (a := port) (b := 1) (by first | omega | (simp only [zor, zand, zorf, zandf, znt, znf, zeq, zne, zeqf, znef, zd, zdf] at *; omega))) (o_ (ask4_eq ({ n with bad := { n.bad with e := bad } }) now 1 0 0) o0))))))))) ?_ rfl; kernel_rfl
def fault_S (n : Nd) (now : Int) (port : Int) (bad : Bool) (r : Nd × Bool) : Prop := Same n r.1
theorem fault_same (n : Nd) (now : Int) (port : Int) (bad : Bool) : fault_S n now port bad (fault n now port bad) := by
  unfold fault
  refine byIte (fun _ => ?_) (fun _ => ?_)
  refine byIte (fun _ => ?_) (fun _ => ?_)
  exact (Same.refl n)
  refine byIte (fun _ => ?_) (fun _ => ?_)
  exact (Same.refl n)
  refine byIte (fun _ => ?_) (fun _ => ?_)
  exact ((Same.refl n).trans (ask3_same ({ n with bad := { n.bad with w := bad } }) now 0 0))
  exact ((Same.refl n).trans (ask4_same ({ n with bad := { n.bad with w := bad } }) now 0 0))
  refine byIte (fun _ => ?_) (fun _ => ?_)
  exact (Same.refl n)
  refine byIte (fun _ => ?_) (fun _ => ?_)
  exact (Same.refl n)
  refine byIte (fun _ => ?_) (fun _ => ?_)
  exact ((Same.refl n).trans (ask3_same ({ n with bad := { n.bad with e := bad } }) now 1 0))
  exact ((Same.refl n).trans (ask4_same ({ n with bad := { n.bad with e := bad } }) now 1 0))

def hear_x0 (n : Nd) (now : Int) (port : Int) (m : Msg) : Nd × Bool × Bool := ask2 { n with pairs := (flushHear n.pairs 0 m).1 } now 0 m.node
def hear_x1 (n : Nd) (now : Int) (port : Int) (m : Msg) : Nd × Bool × Bool := ask5 { n with pairs := (flushHear n.pairs 0 m).1 } now 0 m.node
def hear_x2 (n : Nd) (now : Int) (port : Int) (m : Msg) : Nd × Bool × Bool := ask6 { n with pairs := (flushHear n.pairs 0 m).1 } now 0 m.node
def hear_x3 (n : Nd) (now : Int) (port : Int) (m : Msg) : Nd × Bool × Bool := ask12 { n with pairs := (flushHear n.pairs 0 m).1 } now 0 m.node
def hear_x4 (n : Nd) (now : Int) (port : Int) (m : Msg) : Nd × Bool × Bool := ask13 { n with pairs := (flushHear n.pairs 0 m).1 } now 0 m.node
def hear_x5 (n : Nd) (now : Int) (port : Int) (m : Msg) : Nd × Bool × Bool := ask14 { n with pairs := (flushHear n.pairs 0 m).1 } now 0 m.node
def hear_x6 (n : Nd) (now : Int) (port : Int) (m : Msg) : Nd × Bool × Bool := ask2 { n with pairs := (flushHear n.pairs 1 m).1 } now 1 m.node
def hear_x7 (n : Nd) (now : Int) (port : Int) (m : Msg) : Nd × Bool × Bool := ask5 { n with pairs := (flushHear n.pairs 1 m).1 } now 1 m.node
def hear_x8 (n : Nd) (now : Int) (port : Int) (m : Msg) : Nd × Bool × Bool := ask6 { n with pairs := (flushHear n.pairs 1 m).1 } now 1 m.node
def hear_x9 (n : Nd) (now : Int) (port : Int) (m : Msg) : Nd × Bool × Bool := ask12 { n with pairs := (flushHear n.pairs 1 m).1 } now 1 m.node
def hear_x10 (n : Nd) (now : Int) (port : Int) (m : Msg) : Nd × Bool × Bool := ask13 { n with pairs := (flushHear n.pairs 1 m).1 } now 1 m.node
def hear_x11 (n : Nd) (now : Int) (port : Int) (m : Msg) : Nd × Bool × Bool := ask14 { n with pairs := (flushHear n.pairs 1 m).1 } now 1 m.node
def hear (n : Nd) (now : Int) (port : Int) (m : Msg) : Nd × Bool :=
  bif port == 0 then
    bif (m.node == n.me) || (decide (n.bank.g > 0)) then
      (n, false)
    else
      bif (reqOf m) == 2 then
        bif (flushHear n.pairs 0 m).2 then
          ((hear_x0 n now port m).1, true)
        else
          ((hear_x0 n now port m).1, (hear_x0 n now port m).2.1)
      else
        bif (reqOf m) == 5 then
          bif (flushHear n.pairs 0 m).2 then
            ((hear_x1 n now port m).1, true)
          else
            ((hear_x1 n now port m).1, (hear_x1 n now port m).2.1)
        else
          bif (reqOf m) == 6 then
            bif (flushHear n.pairs 0 m).2 then
              ((hear_x2 n now port m).1, true)
            else
              ((hear_x2 n now port m).1, (hear_x2 n now port m).2.1)
          else
            bif (reqOf m) == 12 then
              bif (flushHear n.pairs 0 m).2 then
                ((hear_x3 n now port m).1, true)
              else
                ((hear_x3 n now port m).1, (hear_x3 n now port m).2.1)
            else
              bif (reqOf m) == 13 then
                bif (flushHear n.pairs 0 m).2 then
                  ((hear_x4 n now port m).1, true)
                else
                  ((hear_x4 n now port m).1, (hear_x4 n now port m).2.1)
              else
                bif (flushHear n.pairs 0 m).2 then
                  ((hear_x5 n now port m).1, true)
                else
                  ((hear_x5 n now port m).1, (hear_x5 n now port m).2.1)
  else
    bif (!(port == 1)) || ((m.node == n.me) || (decide (n.bank.g > 0))) then
      (n, false)
    else
      bif (reqOf m) == 2 then
        bif (flushHear n.pairs 1 m).2 then
          ((hear_x6 n now port m).1, true)
        else
          ((hear_x6 n now port m).1, (hear_x6 n now port m).2.1)
      else
        bif (reqOf m) == 5 then
          bif (flushHear n.pairs 1 m).2 then
            ((hear_x7 n now port m).1, true)
          else
            ((hear_x7 n now port m).1, (hear_x7 n now port m).2.1)
        else
          bif (reqOf m) == 6 then
            bif (flushHear n.pairs 1 m).2 then
              ((hear_x8 n now port m).1, true)
            else
              ((hear_x8 n now port m).1, (hear_x8 n now port m).2.1)
          else
            bif (reqOf m) == 12 then
              bif (flushHear n.pairs 1 m).2 then
                ((hear_x9 n now port m).1, true)
              else
                ((hear_x9 n now port m).1, (hear_x9 n now port m).2.1)
            else
              bif (reqOf m) == 13 then
                bif (flushHear n.pairs 1 m).2 then
                  ((hear_x10 n now port m).1, true)
                else
                  ((hear_x10 n now port m).1, (hear_x10 n now port m).2.1)
              else
                bif (flushHear n.pairs 1 m).2 then
                  ((hear_x11 n now port m).1, true)
                else
                  ((hear_x11 n now port m).1, (hear_x11 n now port m).2.1)
def hear_c (r : Nd × Bool) : Dir := .callL (.tuple ⟨[.agg ⟨Nd.enc r.1⟩, .bool r.2]⟩) []
def hear_G (n : Nd) (now : Int) (port : Int) (m : Msg) (r : Nd × Bool) : Prop := AOn Tryz.prog 12 [.agg ⟨Nd.enc n⟩, .int .i64 now, .int .i64 port, .agg ⟨Msg.enc m⟩] [] (.tuple ⟨[.agg ⟨Nd.enc r.1⟩, .bool r.2]⟩) []
theorem hear_eq (n : Nd) (now : Int) (port : Int) (m : Msg) (hr : n.role ≠ 0 → n.rpl = 0 ∨ n.rpl = 1) : hear_G n now port m (hear n now port m) := by
  unfold hear
  apply bi <;> intro hb0
  · refine byOr ?_
    apply bi <;> intro hb1
    · refine on0 400 [.inl, .gd 5 true, .gd 24 true, .lit] (o_ hb0 (o_ hb1 o0)) ?_ rfl; kernel_rfl
    · apply bi <;> intro hb2
      · refine on0 400 [.inl, .gd 5 true, .gd 24 false, .inl, .inl, .br true] (o_ hb0 (o_ hb1 (o_ hb2 o0))) ?_ rfl; kernel_rfl
      · apply bi <;> intro hb3
        · apply bi <;> intro hb4
          · refine on0 400 [.inl, .gd 5 true, .gd 24 false, .inl, .inl, .br false, .is 33 (.int .i64 0), flushHear_c (flushHear n.pairs 0 m), .priv [0], reqOf_c (reqOf m), .is 43 (.int .i64 2), .heap, .is 44 (.int .i64 0), ask2_c 0 (hear_x0 n now port m), .gd 53 true] (o_ hb0 (o_ hb1 (o_ hb2 (o_ (ieq .i64 hb0) (o_ (flushHear_eq n.pairs 0 m) (o_ (reqOf_eq m) (o_ (ieq .i64 hb3) (o_ (ieq .i64 hb0) (o_ (ask2_eq { n with pairs := (flushHear n.pairs 0 m).1 } now 0 m.node 0) (o_ hb4 o0)))))))))) ?_ rfl; kernel_rfl
          · refine on0 400 [.inl, .gd 5 true, .gd 24 false, .inl, .inl, .br false, .is 33 (.int .i64 0), flushHear_c (flushHear n.pairs 0 m), .priv [0], reqOf_c (reqOf m), .is 43 (.int .i64 2), .heap, .is 44 (.int .i64 0), ask2_c 0 (hear_x0 n now port m), .gd 53 false] (o_ hb0 (o_ hb1 (o_ hb2 (o_ (ieq .i64 hb0) (o_ (flushHear_eq n.pairs 0 m) (o_ (reqOf_eq m) (o_ (ieq .i64 hb3) (o_ (ieq .i64 hb0) (o_ (ask2_eq { n with pairs := (flushHear n.pairs 0 m).1 } now 0 m.node 0) (o_ hb4 o0)))))))))) ?_ rfl; kernel_rfl
        · apply bi <;> intro hb4
          · apply bi <;> intro hb5
            · refine on0 400 [.inl, .gd 5 true, .gd 24 false, .inl, .inl, .br false, .is 33 (.int .i64 0), flushHear_c (flushHear n.pairs 0 m), .priv [0], reqOf_c (reqOf m), .is 43 (.int .i64 5), .heap, .is 44 (.int .i64 0), ask5_c 0 (hear_x1 n now port m), .gd 53 true] (o_ hb0 (o_ hb1 (o_ hb2 (o_ (ieq .i64 hb0) (o_ (flushHear_eq n.pairs 0 m) (o_ (reqOf_eq m) (o_ (ieq .i64 hb4) (o_ (ieq .i64 hb0) (o_ (ask5_eq { n with pairs := (flushHear n.pairs 0 m).1 } now 0 m.node 0) (o_ hb5 o0)))))))))) ?_ rfl; kernel_rfl
            · refine on0 400 [.inl, .gd 5 true, .gd 24 false, .inl, .inl, .br false, .is 33 (.int .i64 0), flushHear_c (flushHear n.pairs 0 m), .priv [0], reqOf_c (reqOf m), .is 43 (.int .i64 5), .heap, .is 44 (.int .i64 0), ask5_c 0 (hear_x1 n now port m), .gd 53 false] (o_ hb0 (o_ hb1 (o_ hb2 (o_ (ieq .i64 hb0) (o_ (flushHear_eq n.pairs 0 m) (o_ (reqOf_eq m) (o_ (ieq .i64 hb4) (o_ (ieq .i64 hb0) (o_ (ask5_eq { n with pairs := (flushHear n.pairs 0 m).1 } now 0 m.node 0) (o_ hb5 o0)))))))))) ?_ rfl; kernel_rfl
          · apply bi <;> intro hb5
            · apply bi <;> intro hb6
              · refine on0 400 [.inl, .gd 5 true, .gd 24 false, .inl, .inl, .br false, .is 33 (.int .i64 0), flushHear_c (flushHear n.pairs 0 m), .priv [0], reqOf_c (reqOf m), .is 43 (.int .i64 6), .heap, .is 44 (.int .i64 0), ask6_c 0 (hear_x2 n now port m), .gd 53 true] (o_ hb0 (o_ hb1 (o_ hb2 (o_ (ieq .i64 hb0) (o_ (flushHear_eq n.pairs 0 m) (o_ (reqOf_eq m) (o_ (ieq .i64 hb5) (o_ (ieq .i64 hb0) (o_ (ask6_eq { n with pairs := (flushHear n.pairs 0 m).1 } now 0 m.node 0) (o_ hb6 o0)))))))))) ?_ rfl; kernel_rfl
              · refine on0 400 [.inl, .gd 5 true, .gd 24 false, .inl, .inl, .br false, .is 33 (.int .i64 0), flushHear_c (flushHear n.pairs 0 m), .priv [0], reqOf_c (reqOf m), .is 43 (.int .i64 6), .heap, .is 44 (.int .i64 0), ask6_c 0 (hear_x2 n now port m), .gd 53 false] (o_ hb0 (o_ hb1 (o_ hb2 (o_ (ieq .i64 hb0) (o_ (flushHear_eq n.pairs 0 m) (o_ (reqOf_eq m) (o_ (ieq .i64 hb5) (o_ (ieq .i64 hb0) (o_ (ask6_eq { n with pairs := (flushHear n.pairs 0 m).1 } now 0 m.node 0) (o_ hb6 o0)))))))))) ?_ rfl; kernel_rfl
            · apply bi <;> intro hb6
              · apply bi <;> intro hb7
                · refine on0 400 [.inl, .gd 5 true, .gd 24 false, .inl, .inl, .br false, .is 33 (.int .i64 0), flushHear_c (flushHear n.pairs 0 m), .priv [0], reqOf_c (reqOf m), .is 43 (.int .i64 12), .heap, .is 44 (.int .i64 0), ask12_c 0 (hear_x3 n now port m), .gd 53 true] (o_ hb0 (o_ hb1 (o_ hb2 (o_ (ieq .i64 hb0) (o_ (flushHear_eq n.pairs 0 m) (o_ (reqOf_eq m) (o_ (ieq .i64 hb6) (o_ (ieq .i64 hb0) (o_ (ask12_eq { n with pairs := (flushHear n.pairs 0 m).1 } now 0 m.node (by have := (show (reqOf m) = 2 ∨ (reqOf m) = 5 ∨ (reqOf m) = 6 ∨ (reqOf m) = 12 ∨ (reqOf m) = 13 ∨ (reqOf m) = 14 from reqOf_dom m); first | omega | (simp only [zor, zand, zorf, zandf, znt, znf, zeq, zne, zeqf, znef, zd, zdf] at *; omega)) 0) (o_ hb7 o0)))))))))) ?_ rfl; kernel_rfl
                · refine on0 400 [.inl, .gd 5 true, .gd 24 false, .inl, .inl, .br false, .is 33 (.int .i64 0), flushHear_c (flushHear n.pairs 0 m), .priv [0], reqOf_c (reqOf m), .is 43 (.int .i64 12), .heap, .is 44 (.int .i64 0), ask12_c 0 (hear_x3 n now port m), .gd 53 false] (o_ hb0 (o_ hb1 (o_ hb2 (o_ (ieq .i64 hb0) (o_ (flushHear_eq n.pairs 0 m) (o_ (reqOf_eq m) (o_ (ieq .i64 hb6) (o_ (ieq .i64 hb0) (o_ (ask12_eq { n with pairs := (flushHear n.pairs 0 m).1 } now 0 m.node (by have := (show (reqOf m) = 2 ∨ (reqOf m) = 5 ∨ (reqOf m) = 6 ∨ (reqOf m) = 12 ∨ (reqOf m) = 13 ∨ (reqOf m) = 14 from reqOf_dom m); first | omega | (simp only [zor, zand, zorf, zandf, znt, znf, zeq, zne, zeqf, znef, zd, zdf] at *; omega)) 0) (o_ hb7 o0)))))))))) ?_ rfl; kernel_rfl
              · apply bi <;> intro hb7
                · apply bi <;> intro hb8
                  · refine on0 400 [.inl, .gd 5 true, .gd 24 false, .inl, .inl, .br false, .is 33 (.int .i64 0), flushHear_c (flushHear n.pairs 0 m), .priv [0], reqOf_c (reqOf m), .is 43 (.int .i64 13), .heap, .is 44 (.int .i64 0), ask13_c 0 (hear_x4 n now port m), .gd 53 true] (o_ hb0 (o_ hb1 (o_ hb2 (o_ (ieq .i64 hb0) (o_ (flushHear_eq n.pairs 0 m) (o_ (reqOf_eq m) (o_ (ieq .i64 hb7) (o_ (ieq .i64 hb0) (o_ (ask13_eq { n with pairs := (flushHear n.pairs 0 m).1 } now 0 m.node 0) (o_ hb8 o0)))))))))) ?_ rfl; kernel_rfl
                  · refine on0 400 [.inl, .gd 5 true, .gd 24 false, .inl, .inl, .br false, .is 33 (.int .i64 0), flushHear_c (flushHear n.pairs 0 m), .priv [0], reqOf_c (reqOf m), .is 43 (.int .i64 13), .heap, .is 44 (.int .i64 0), ask13_c 0 (hear_x4 n now port m), .gd 53 false] (o_ hb0 (o_ hb1 (o_ hb2 (o_ (ieq .i64 hb0) (o_ (flushHear_eq n.pairs 0 m) (o_ (reqOf_eq m) (o_ (ieq .i64 hb7) (o_ (ieq .i64 hb0) (o_ (ask13_eq { n with pairs := (flushHear n.pairs 0 m).1 } now 0 m.node 0) (o_ hb8 o0)))))))))) ?_ rfl; kernel_rfl
                · refine byNotF ((reqOf m) == 14) (fun hb8 => ?_) (fun hb8 => ?_)
                  · apply bi <;> intro hb9
                    · refine on0 400 [.inl, .gd 5 true, .gd 24 false, .inl, .inl, .br false, .is 33 (.int .i64 0), flushHear_c (flushHear n.pairs 0 m), .priv [0], reqOf_c (reqOf m), .is 43 (.int .i64 14), .heap, .is 44 (.int .i64 0), ask14_c 0 (hear_x5 n now port m), .gd 53 true] (o_ hb0 (o_ hb1 (o_ hb2 (o_ (ieq .i64 hb0) (o_ (flushHear_eq n.pairs 0 m) (o_ (reqOf_eq m) (o_ (ieq .i64 hb8) (o_ (ieq .i64 hb0) (o_ (ask14_eq { n with pairs := (flushHear n.pairs 0 m).1 } now 0 m.node 0) (o_ hb9 o0)))))))))) ?_ rfl; kernel_rfl
                    · refine on0 400 [.inl, .gd 5 true, .gd 24 false, .inl, .inl, .br false, .is 33 (.int .i64 0), flushHear_c (flushHear n.pairs 0 m), .priv [0], reqOf_c (reqOf m), .is 43 (.int .i64 14), .heap, .is 44 (.int .i64 0), ask14_c 0 (hear_x5 n now port m), .gd 53 false] (o_ hb0 (o_ hb1 (o_ hb2 (o_ (ieq .i64 hb0) (o_ (flushHear_eq n.pairs 0 m) (o_ (reqOf_eq m) (o_ (ieq .i64 hb8) (o_ (ieq .i64 hb0) (o_ (ask14_eq { n with pairs := (flushHear n.pairs 0 m).1 } now 0 m.node 0) (o_ hb9 o0)))))))))) ?_ rfl; kernel_rfl
                  · exfalso; have := (show (reqOf m) = 2 ∨ (reqOf m) = 5 ∨ (reqOf m) = 6 ∨ (reqOf m) = 12 ∨ (reqOf m) = 13 ∨ (reqOf m) = 14 from reqOf_dom m); first | omega | (simp only [zor, zand, zorf, zandf, znt, znf, zeq, zne, zeqf, znef, zd, zdf] at *; omega)
  · refine byOr ?_
    apply bi <;> intro hb1
    · refine on0 400 [.inl, .gd 5 false, .gd 17 true, .lit] (o_ hb0 (o_ hb1 o0)) ?_ rfl; kernel_rfl
    · refine byOr ?_
      apply bi <;> intro hb2
      · refine on0 400 [.inl, .gd 5 false, .gd 17 false, .gd 24 true, .lit] (o_ hb0 (o_ hb1 (o_ hb2 o0))) ?_ rfl; kernel_rfl
      · apply bi <;> intro hb3
        · refine on0 400 [.inl, .gd 5 false, .gd 17 false, .gd 24 false, .inl, .inl, .br true] (o_ hb0 (o_ hb1 (o_ hb2 (o_ hb3 o0)))) ?_ rfl; kernel_rfl
        · apply bi <;> intro hb4
          · apply bi <;> intro hb5
            · refine on0 400 [.inl, .gd 5 false, .gd 17 false, .gd 24 false, .inl, .inl, .br false, .is 33 (.int .i64 1), flushHear_c (flushHear n.pairs 1 m), .priv [0], reqOf_c (reqOf m), .is 43 (.int .i64 2), .heap, .is 44 (.int .i64 1), ask2_c 0 (hear_x6 n now port m), .gd 53 true] (o_ hb0 (o_ hb1 (o_ hb2 (o_ hb3 (o_ (iis .i64 (a := port) (b := 1) (by first | omega | (simp only [zor, zand, zorf, zandf, znt, znf, zeq, zne, zeqf, znef, zd, zdf] at *; omega))) (o_ (flushHear_eq n.pairs 1 m) (o_ (reqOf_eq m) (o_ (ieq .i64 hb4) (o_ (iis .i64 (a := port) (b := 1) (by first | omega | (simp only [zor, zand, zorf, zandf, znt, znf, zeq, zne, zeqf, znef, zd, zdf] at *; omega))) (o_ (ask2_eq { n with pairs := (flushHear n.pairs 1 m).1 } now 1 m.node 0) (o_ hb5 o0))))))))))) ?_ rfl; kernel_rfl
            · refine on0 400 [.inl, .gd 5 false, .gd 17 false, .gd 24 false, .inl, .inl, .br false, .is 33 (.int .i64 1), flushHear_c (flushHear n.pairs 1 m), .priv [0], reqOf_c (reqOf m), .is 43 (.int .i64 2), .heap, .is 44 (.int .i64 1), ask2_c 0 (hear_x6 n now port m), .gd 53 false] (o_ hb0 (o_ hb1 (o_ hb2 (o_ hb3 (o_ (iis .i64 (a := port) (b := 1) (by first | omega | (simp only [zor, zand, zorf, zandf, znt, znf, zeq, zne, zeqf, znef, zd, zdf] at *; omega))) (o_ (flushHear_eq n.pairs 1 m) (o_ (reqOf_eq m) (o_ (ieq .i64 hb4) (o_ (iis .i64 (a := port) (b := 1) (by first | omega | (simp only [zor, zand, zorf, zandf, znt, znf, zeq, zne, zeqf, znef, zd, zdf] at *; omega))) (o_ (ask2_eq { n with pairs := (flushHear n.pairs 1 m).1 } now 1 m.node 0) (o_ hb5 o0))))))))))) ?_ rfl; kernel_rfl
          · apply bi <;> intro hb5
            · apply bi <;> intro hb6
              · refine on0 400 [.inl, .gd 5 false, .gd 17 false, .gd 24 false, .inl, .inl, .br false, .is 33 (.int .i64 1), flushHear_c (flushHear n.pairs 1 m), .priv [0], reqOf_c (reqOf m), .is 43 (.int .i64 5), .heap, .is 44 (.int .i64 1), ask5_c 0 (hear_x7 n now port m), .gd 53 true] (o_ hb0 (o_ hb1 (o_ hb2 (o_ hb3 (o_ (iis .i64 (a := port) (b := 1) (by first | omega | (simp only [zor, zand, zorf, zandf, znt, znf, zeq, zne, zeqf, znef, zd, zdf] at *; omega))) (o_ (flushHear_eq n.pairs 1 m) (o_ (reqOf_eq m) (o_ (ieq .i64 hb5) (o_ (iis .i64 (a := port) (b := 1) (by first | omega | (simp only [zor, zand, zorf, zandf, znt, znf, zeq, zne, zeqf, znef, zd, zdf] at *; omega))) (o_ (ask5_eq { n with pairs := (flushHear n.pairs 1 m).1 } now 1 m.node 0) (o_ hb6 o0))))))))))) ?_ rfl; kernel_rfl
              · refine on0 400 [.inl, .gd 5 false, .gd 17 false, .gd 24 false, .inl, .inl, .br false, .is 33 (.int .i64 1), flushHear_c (flushHear n.pairs 1 m), .priv [0], reqOf_c (reqOf m), .is 43 (.int .i64 5), .heap, .is 44 (.int .i64 1), ask5_c 0 (hear_x7 n now port m), .gd 53 false] (o_ hb0 (o_ hb1 (o_ hb2 (o_ hb3 (o_ (iis .i64 (a := port) (b := 1) (by first | omega | (simp only [zor, zand, zorf, zandf, znt, znf, zeq, zne, zeqf, znef, zd, zdf] at *; omega))) (o_ (flushHear_eq n.pairs 1 m) (o_ (reqOf_eq m) (o_ (ieq .i64 hb5) (o_ (iis .i64 (a := port) (b := 1) (by first | omega | (simp only [zor, zand, zorf, zandf, znt, znf, zeq, zne, zeqf, znef, zd, zdf] at *; omega))) (o_ (ask5_eq { n with pairs := (flushHear n.pairs 1 m).1 } now 1 m.node 0) (o_ hb6 o0))))))))))) ?_ rfl; kernel_rfl
            · apply bi <;> intro hb6
              · apply bi <;> intro hb7
                · refine on0 400 [.inl, .gd 5 false, .gd 17 false, .gd 24 false, .inl, .inl, .br false, .is 33 (.int .i64 1), flushHear_c (flushHear n.pairs 1 m), .priv [0], reqOf_c (reqOf m), .is 43 (.int .i64 6), .heap, .is 44 (.int .i64 1), ask6_c 0 (hear_x8 n now port m), .gd 53 true] (o_ hb0 (o_ hb1 (o_ hb2 (o_ hb3 (o_ (iis .i64 (a := port) (b := 1) (by first | omega | (simp only [zor, zand, zorf, zandf, znt, znf, zeq, zne, zeqf, znef, zd, zdf] at *; omega))) (o_ (flushHear_eq n.pairs 1 m) (o_ (reqOf_eq m) (o_ (ieq .i64 hb6) (o_ (iis .i64 (a := port) (b := 1) (by first | omega | (simp only [zor, zand, zorf, zandf, znt, znf, zeq, zne, zeqf, znef, zd, zdf] at *; omega))) (o_ (ask6_eq { n with pairs := (flushHear n.pairs 1 m).1 } now 1 m.node 0) (o_ hb7 o0))))))))))) ?_ rfl; kernel_rfl
                · refine on0 400 [.inl, .gd 5 false, .gd 17 false, .gd 24 false, .inl, .inl, .br false, .is 33 (.int .i64 1), flushHear_c (flushHear n.pairs 1 m), .priv [0], reqOf_c (reqOf m), .is 43 (.int .i64 6), .heap, .is 44 (.int .i64 1), ask6_c 0 (hear_x8 n now port m), .gd 53 false] (o_ hb0 (o_ hb1 (o_ hb2 (o_ hb3 (o_ (iis .i64 (a := port) (b := 1) (by first | omega | (simp only [zor, zand, zorf, zandf, znt, znf, zeq, zne, zeqf, znef, zd, zdf] at *; omega))) (o_ (flushHear_eq n.pairs 1 m) (o_ (reqOf_eq m) (o_ (ieq .i64 hb6) (o_ (iis .i64 (a := port) (b := 1) (by first | omega | (simp only [zor, zand, zorf, zandf, znt, znf, zeq, zne, zeqf, znef, zd, zdf] at *; omega))) (o_ (ask6_eq { n with pairs := (flushHear n.pairs 1 m).1 } now 1 m.node 0) (o_ hb7 o0))))))))))) ?_ rfl; kernel_rfl
              · apply bi <;> intro hb7
                · apply bi <;> intro hb8
                  · refine on0 400 [.inl, .gd 5 false, .gd 17 false, .gd 24 false, .inl, .inl, .br false, .is 33 (.int .i64 1), flushHear_c (flushHear n.pairs 1 m), .priv [0], reqOf_c (reqOf m), .is 43 (.int .i64 12), .heap, .is 44 (.int .i64 1), ask12_c 0 (hear_x9 n now port m), .gd 53 true] (o_ hb0 (o_ hb1 (o_ hb2 (o_ hb3 (o_ (iis .i64 (a := port) (b := 1) (by first | omega | (simp only [zor, zand, zorf, zandf, znt, znf, zeq, zne, zeqf, znef, zd, zdf] at *; omega))) (o_ (flushHear_eq n.pairs 1 m) (o_ (reqOf_eq m) (o_ (ieq .i64 hb7) (o_ (iis .i64 (a := port) (b := 1) (by first | omega | (simp only [zor, zand, zorf, zandf, znt, znf, zeq, zne, zeqf, znef, zd, zdf] at *; omega))) (o_ (ask12_eq { n with pairs := (flushHear n.pairs 1 m).1 } now 1 m.node (by have := (show (reqOf m) = 2 ∨ (reqOf m) = 5 ∨ (reqOf m) = 6 ∨ (reqOf m) = 12 ∨ (reqOf m) = 13 ∨ (reqOf m) = 14 from reqOf_dom m); first | omega | (simp only [zor, zand, zorf, zandf, znt, znf, zeq, zne, zeqf, znef, zd, zdf] at *; omega)) 0) (o_ hb8 o0))))))))))) ?_ rfl; kernel_rfl
                  · refine on0 400 [.inl, .gd 5 false, .gd 17 false, .gd 24 false, .inl, .inl, .br false, .is 33 (.int .i64 1), flushHear_c (flushHear n.pairs 1 m), .priv [0], reqOf_c (reqOf m), .is 43 (.int .i64 12), .heap, .is 44 (.int .i64 1), ask12_c 0 (hear_x9 n now port m), .gd 53 false] (o_ hb0 (o_ hb1 (o_ hb2 (o_ hb3 (o_ (iis .i64 (a := port) (b := 1) (by first | omega | (simp only [zor, zand, zorf, zandf, znt, znf, zeq, zne, zeqf, znef, zd, zdf] at *; omega))) (o_ (flushHear_eq n.pairs 1 m) (o_ (reqOf_eq m) (o_ (ieq .i64 hb7) (o_ (iis .i64 (a := port) (b := 1) (by first | omega | (simp only [zor, zand, zorf, zandf, znt, znf, zeq, zne, zeqf, znef, zd, zdf] at *; omega))) (o_ (ask12_eq { n with pairs := (flushHear n.pairs 1 m).1 } now 1 m.node (by have := (show (reqOf m) = 2 ∨ (reqOf m) = 5 ∨ (reqOf m) = 6 ∨ (reqOf m) = 12 ∨ (reqOf m) = 13 ∨ (reqOf m) = 14 from reqOf_dom m); first | omega | (simp only [zor, zand, zorf, zandf, znt, znf, zeq, zne, zeqf, znef, zd, zdf] at *; omega)) 0) (o_ hb8 o0))))))))))) ?_ rfl; kernel_rfl
                · apply bi <;> intro hb8
                  · apply bi <;> intro hb9
                    · refine on0 400 [.inl, .gd 5 false, .gd 17 false, .gd 24 false, .inl, .inl, .br false, .is 33 (.int .i64 1), flushHear_c (flushHear n.pairs 1 m), .priv [0], reqOf_c (reqOf m), .is 43 (.int .i64 13), .heap, .is 44 (.int .i64 1), ask13_c 0 (hear_x10 n now port m), .gd 53 true] (o_ hb0 (o_ hb1 (o_ hb2 (o_ hb3 (o_ (iis .i64 (a := port) (b := 1) (by first | omega | (simp only [zor, zand, zorf, zandf, znt, znf, zeq, zne, zeqf, znef, zd, zdf] at *; omega))) (o_ (flushHear_eq n.pairs 1 m) (o_ (reqOf_eq m) (o_ (ieq .i64 hb8) (o_ (iis .i64 (a := port) (b := 1) (by first | omega | (simp only [zor, zand, zorf, zandf, znt, znf, zeq, zne, zeqf, znef, zd, zdf] at *; omega))) (o_ (ask13_eq { n with pairs := (flushHear n.pairs 1 m).1 } now 1 m.node 0) (o_ hb9 o0))))))))))) ?_ rfl; kernel_rfl
                    · refine on0 400 [.inl, .gd 5 false, .gd 17 false, .gd 24 false, .inl, .inl, .br false, .is 33 (.int .i64 1), flushHear_c (flushHear n.pairs 1 m), .priv [0], reqOf_c (reqOf m), .is 43 (.int .i64 13), .heap, .is 44 (.int .i64 1), ask13_c 0 (hear_x10 n now port m), .gd 53 false] (o_ hb0 (o_ hb1 (o_ hb2 (o_ hb3 (o_ (iis .i64 (a := port) (b := 1) (by first | omega | (simp only [zor, zand, zorf, zandf, znt, znf, zeq, zne, zeqf, znef, zd, zdf] at *; omega))) (o_ (flushHear_eq n.pairs 1 m) (o_ (reqOf_eq m) (o_ (ieq .i64 hb8) (o_ (iis .i64 (a := port) (b := 1) (by first | omega | (simp only [zor, zand, zorf, zandf, znt, znf, zeq, zne, zeqf, znef, zd, zdf] at *; omega))) (o_ (ask13_eq { n with pairs := (flushHear n.pairs 1 m).1 } now 1 m.node 0) (o_ hb9 o0))))))))))) ?_ rfl; kernel_rfl
                  · refine byNotF ((reqOf m) == 14) (fun hb9 => ?_) (fun hb9 => ?_)
                    · apply bi <;> intro hb10
                      · refine on0 400 [.inl, .gd 5 false, .gd 17 false, .gd 24 false, .inl, .inl, .br false, .is 33 (.int .i64 1), flushHear_c (flushHear n.pairs 1 m), .priv [0], reqOf_c (reqOf m), .is 43 (.int .i64 14), .heap, .is 44 (.int .i64 1), ask14_c 0 (hear_x11 n now port m), .gd 53 true] (o_ hb0 (o_ hb1 (o_ hb2 (o_ hb3 (o_ (iis .i64 (a := port) (b := 1) (by first | omega | (simp only [zor, zand, zorf, zandf, znt, znf, zeq, zne, zeqf, znef, zd, zdf] at *; omega))) (o_ (flushHear_eq n.pairs 1 m) (o_ (reqOf_eq m) (o_ (ieq .i64 hb9) (o_ (iis .i64 (a := port) (b := 1) (by first | omega | (simp only [zor, zand, zorf, zandf, znt, znf, zeq, zne, zeqf, znef, zd, zdf] at *; omega))) (o_ (ask14_eq { n with pairs := (flushHear n.pairs 1 m).1 } now 1 m.node 0) (o_ hb10 o0))))))))))) ?_ rfl; kernel_rfl
                      · refine on0 400 [.inl, .gd 5 false, .gd 17 false, .gd 24 false, .inl, .inl, .br false, .is 33 (.int .i64 1), flushHear_c (flushHear n.pairs 1 m), .priv [0], reqOf_c (reqOf m), .is 43 (.int .i64 14), .heap, .is 44 (.int .i64 1), ask14_c 0 (hear_x11 n now port m), .gd 53 false] (o_ hb0 (o_ hb1 (o_ hb2 (o_ hb3 (o_ (iis .i64 (a := port) (b := 1) (by first | omega | (simp only [zor, zand, zorf, zandf, znt, znf, zeq, zne, zeqf, znef, zd, zdf] at *; omega))) (o_ (flushHear_eq n.pairs 1 m) (o_ (reqOf_eq m) (o_ (ieq .i64 hb9) (o_ (iis .i64 (a := port) (b := 1) (by first | omega | (simp only [zor, zand, zorf, zandf, znt, znf, zeq, zne, zeqf, znef, zd, zdf] at *; omega))) (o_ (ask14_eq { n with pairs := (flushHear n.pairs 1 m).1 } now 1 m.node 0) (o_ hb10 o0))))))))))) ?_ rfl; kernel_rfl
                    · exfalso; have := (show (reqOf m) = 2 ∨ (reqOf m) = 5 ∨ (reqOf m) = 6 ∨ (reqOf m) = 12 ∨ (reqOf m) = 13 ∨ (reqOf m) = 14 from reqOf_dom m); first | omega | (simp only [zor, zand, zorf, zandf, znt, znf, zeq, zne, zeqf, znef, zd, zdf] at *; omega)
def hear_S (n : Nd) (now : Int) (port : Int) (m : Msg) (r : Nd × Bool) : Prop := Same n r.1
theorem hear_same (n : Nd) (now : Int) (port : Int) (m : Msg) : hear_S n now port m (hear n now port m) := by
  unfold hear
  refine byIte (fun _ => ?_) (fun _ => ?_)
  refine byIte (fun _ => ?_) (fun _ => ?_)
  exact (Same.refl n)
  refine byIte (fun _ => ?_) (fun _ => ?_)
  refine byIte (fun _ => ?_) (fun _ => ?_)
  exact ((Same.refl n).trans (ask2_same { n with pairs := (flushHear n.pairs 0 m).1 } now 0 m.node))
  exact ((Same.refl n).trans (ask2_same { n with pairs := (flushHear n.pairs 0 m).1 } now 0 m.node))
  refine byIte (fun _ => ?_) (fun _ => ?_)
  refine byIte (fun _ => ?_) (fun _ => ?_)
  exact ((Same.refl n).trans (ask5_same { n with pairs := (flushHear n.pairs 0 m).1 } now 0 m.node))
  exact ((Same.refl n).trans (ask5_same { n with pairs := (flushHear n.pairs 0 m).1 } now 0 m.node))
  refine byIte (fun _ => ?_) (fun _ => ?_)
  refine byIte (fun _ => ?_) (fun _ => ?_)
  exact ((Same.refl n).trans (ask6_same { n with pairs := (flushHear n.pairs 0 m).1 } now 0 m.node))
  exact ((Same.refl n).trans (ask6_same { n with pairs := (flushHear n.pairs 0 m).1 } now 0 m.node))
  refine byIte (fun _ => ?_) (fun _ => ?_)
  refine byIte (fun _ => ?_) (fun _ => ?_)
  exact ((Same.refl n).trans (ask12_same { n with pairs := (flushHear n.pairs 0 m).1 } now 0 m.node))
  exact ((Same.refl n).trans (ask12_same { n with pairs := (flushHear n.pairs 0 m).1 } now 0 m.node))
  refine byIte (fun _ => ?_) (fun _ => ?_)
  refine byIte (fun _ => ?_) (fun _ => ?_)
  exact ((Same.refl n).trans (ask13_same { n with pairs := (flushHear n.pairs 0 m).1 } now 0 m.node))
  exact ((Same.refl n).trans (ask13_same { n with pairs := (flushHear n.pairs 0 m).1 } now 0 m.node))
  refine byIte (fun _ => ?_) (fun _ => ?_)
  exact ((Same.refl n).trans (ask14_same { n with pairs := (flushHear n.pairs 0 m).1 } now 0 m.node))
  exact ((Same.refl n).trans (ask14_same { n with pairs := (flushHear n.pairs 0 m).1 } now 0 m.node))
  refine byIte (fun _ => ?_) (fun _ => ?_)
  exact (Same.refl n)
  refine byIte (fun _ => ?_) (fun _ => ?_)
  refine byIte (fun _ => ?_) (fun _ => ?_)
  exact ((Same.refl n).trans (ask2_same { n with pairs := (flushHear n.pairs 1 m).1 } now 1 m.node))
  exact ((Same.refl n).trans (ask2_same { n with pairs := (flushHear n.pairs 1 m).1 } now 1 m.node))
  refine byIte (fun _ => ?_) (fun _ => ?_)
  refine byIte (fun _ => ?_) (fun _ => ?_)
  exact ((Same.refl n).trans (ask5_same { n with pairs := (flushHear n.pairs 1 m).1 } now 1 m.node))
  exact ((Same.refl n).trans (ask5_same { n with pairs := (flushHear n.pairs 1 m).1 } now 1 m.node))
  refine byIte (fun _ => ?_) (fun _ => ?_)
  refine byIte (fun _ => ?_) (fun _ => ?_)
  exact ((Same.refl n).trans (ask6_same { n with pairs := (flushHear n.pairs 1 m).1 } now 1 m.node))
  exact ((Same.refl n).trans (ask6_same { n with pairs := (flushHear n.pairs 1 m).1 } now 1 m.node))
  refine byIte (fun _ => ?_) (fun _ => ?_)
  refine byIte (fun _ => ?_) (fun _ => ?_)
  exact ((Same.refl n).trans (ask12_same { n with pairs := (flushHear n.pairs 1 m).1 } now 1 m.node))
  exact ((Same.refl n).trans (ask12_same { n with pairs := (flushHear n.pairs 1 m).1 } now 1 m.node))
  refine byIte (fun _ => ?_) (fun _ => ?_)
  refine byIte (fun _ => ?_) (fun _ => ?_)
  exact ((Same.refl n).trans (ask13_same { n with pairs := (flushHear n.pairs 1 m).1 } now 1 m.node))
  exact ((Same.refl n).trans (ask13_same { n with pairs := (flushHear n.pairs 1 m).1 } now 1 m.node))
  refine byIte (fun _ => ?_) (fun _ => ?_)
  exact ((Same.refl n).trans (ask14_same { n with pairs := (flushHear n.pairs 1 m).1 } now 1 m.node))
  exact ((Same.refl n).trans (ask14_same { n with pairs := (flushHear n.pairs 1 m).1 } now 1 m.node))

def runs0 (b : Bk) : Bool :=
  decide (b.g > 0)
def runs0_c (r : Bool) : Dir := .callL (.bool r) []
def runs0_G (b : Bk) (r : Bool) : Prop := AOn Tryz.prog 14 [.agg ⟨Bk.enc b⟩, .int .i64 0] [] (.bool r) []
theorem runs0_eq (b : Bk) : runs0_G b (runs0 b) := by
  unfold runs0
  refine on0 400 [.inl] o0 ?_ rfl; kernel_rfl

def due0 (b : Bk) : Int :=
  IntKind.wrap .i64 (b.g - 1)
def due0_c (r : Int) : Dir := .callL (.int .i64 r) []
def due0_G (b : Bk) (r : Int) : Prop := AOn Tryz.prog 42 [.agg ⟨Bk.enc b⟩, .int .i64 0] [] (.int .i64 r) []
theorem due0_eq (b : Bk) : due0_G b (due0 b) := by
  unfold due0
  refine on0 400 [.inl, .lit] o0 ?_ rfl; kernel_rfl

def runs1 (b : Bk) : Bool :=
  decide (b.r > 0)
def runs1_c (r : Bool) : Dir := .callL (.bool r) []
def runs1_G (b : Bk) (r : Bool) : Prop := AOn Tryz.prog 14 [.agg ⟨Bk.enc b⟩, .int .i64 1] [] (.bool r) []
theorem runs1_eq (b : Bk) : runs1_G b (runs1 b) := by
  unfold runs1
  refine on0 400 [.inl] o0 ?_ rfl; kernel_rfl

def due1 (b : Bk) : Int :=
  IntKind.wrap .i64 (b.r - 1)
def due1_c (r : Int) : Dir := .callL (.int .i64 r) []
def due1_G (b : Bk) (r : Int) : Prop := AOn Tryz.prog 42 [.agg ⟨Bk.enc b⟩, .int .i64 1] [] (.int .i64 r) []
theorem due1_eq (b : Bk) : due1_G b (due1 b) := by
  unfold due1
  refine on0 400 [.inl, .lit] o0 ?_ rfl; kernel_rfl

def runs2 (b : Bk) : Bool :=
  decide (b.w > 0)
def runs2_c (r : Bool) : Dir := .callL (.bool r) []
def runs2_G (b : Bk) (r : Bool) : Prop := AOn Tryz.prog 14 [.agg ⟨Bk.enc b⟩, .int .i64 2] [] (.bool r) []
theorem runs2_eq (b : Bk) : runs2_G b (runs2 b) := by
  unfold runs2
  refine on0 400 [.inl] o0 ?_ rfl; kernel_rfl

def due2 (b : Bk) : Int :=
  IntKind.wrap .i64 (b.w - 1)
def due2_c (r : Int) : Dir := .callL (.int .i64 r) []
def due2_G (b : Bk) (r : Int) : Prop := AOn Tryz.prog 42 [.agg ⟨Bk.enc b⟩, .int .i64 2] [] (.int .i64 r) []
theorem due2_eq (b : Bk) : due2_G b (due2 b) := by
  unfold due2
  refine on0 400 [.inl, .lit] o0 ?_ rfl; kernel_rfl

def runs3 (b : Bk) : Bool :=
  false
def runs3_c (r : Bool) : Dir := .callL (.bool r) []
def runs3_G (b : Bk) (r : Bool) : Prop := AOn Tryz.prog 14 [.agg ⟨Bk.enc b⟩, .int .i64 3] [] (.bool r) []
theorem runs3_eq (b : Bk) : runs3_G b (runs3 b) := by
  unfold runs3
  refine on0 400 [.inl] o0 ?_ rfl; kernel_rfl

def due3 (b : Bk) : Int :=
  (-1)
def due3_c (r : Int) : Dir := .callL (.int .i64 r) []
def due3_G (b : Bk) (r : Int) : Prop := AOn Tryz.prog 42 [.agg ⟨Bk.enc b⟩, .int .i64 3] [] (.int .i64 r) []
theorem due3_eq (b : Bk) : due3_G b (due3 b) := by
  unfold due3
  refine on0 400 [.inl, .lit] o0 ?_ rfl; kernel_rfl

def runs4 (b : Bk) : Bool :=
  false
def runs4_c (r : Bool) : Dir := .callL (.bool r) []
def runs4_G (b : Bk) (r : Bool) : Prop := AOn Tryz.prog 14 [.agg ⟨Bk.enc b⟩, .int .i64 4] [] (.bool r) []
theorem runs4_eq (b : Bk) : runs4_G b (runs4 b) := by
  unfold runs4
  refine on0 400 [.inl] o0 ?_ rfl; kernel_rfl

def due4 (b : Bk) : Int :=
  (-1)
def due4_c (r : Int) : Dir := .callL (.int .i64 r) []
def due4_G (b : Bk) (r : Int) : Prop := AOn Tryz.prog 42 [.agg ⟨Bk.enc b⟩, .int .i64 4] [] (.int .i64 r) []
theorem due4_eq (b : Bk) : due4_G b (due4 b) := by
  unfold due4
  refine on0 400 [.inl, .lit] o0 ?_ rfl; kernel_rfl

def runs5 (b : Bk) : Bool :=
  false
def runs5_c (r : Bool) : Dir := .callL (.bool r) []
def runs5_G (b : Bk) (r : Bool) : Prop := AOn Tryz.prog 14 [.agg ⟨Bk.enc b⟩, .int .i64 5] [] (.bool r) []
theorem runs5_eq (b : Bk) : runs5_G b (runs5 b) := by
  unfold runs5
  refine on0 400 [.inl] o0 ?_ rfl; kernel_rfl

def due5 (b : Bk) : Int :=
  (-1)
def due5_c (r : Int) : Dir := .callL (.int .i64 r) []
def due5_G (b : Bk) (r : Int) : Prop := AOn Tryz.prog 42 [.agg ⟨Bk.enc b⟩, .int .i64 5] [] (.int .i64 r) []
theorem due5_eq (b : Bk) : due5_G b (due5 b) := by
  unfold due5
  refine on0 400 [.inl, .lit] o0 ?_ rfl; kernel_rfl

def runs6 (b : Bk) : Bool :=
  false
def runs6_c (r : Bool) : Dir := .callL (.bool r) []
def runs6_G (b : Bk) (r : Bool) : Prop := AOn Tryz.prog 14 [.agg ⟨Bk.enc b⟩, .int .i64 6] [] (.bool r) []
theorem runs6_eq (b : Bk) : runs6_G b (runs6 b) := by
  unfold runs6
  refine on0 400 [.inl] o0 ?_ rfl; kernel_rfl

def due6 (b : Bk) : Int :=
  (-1)
def due6_c (r : Int) : Dir := .callL (.int .i64 r) []
def due6_G (b : Bk) (r : Int) : Prop := AOn Tryz.prog 42 [.agg ⟨Bk.enc b⟩, .int .i64 6] [] (.int .i64 r) []
theorem due6_eq (b : Bk) : due6_G b (due6 b) := by
  unfold due6
  refine on0 400 [.inl, .lit] o0 ?_ rfl; kernel_rfl

def runs7 (b : Bk) : Bool :=
  false
def runs7_c (r : Bool) : Dir := .callL (.bool r) []
def runs7_G (b : Bk) (r : Bool) : Prop := AOn Tryz.prog 14 [.agg ⟨Bk.enc b⟩, .int .i64 7] [] (.bool r) []
theorem runs7_eq (b : Bk) : runs7_G b (runs7 b) := by
  unfold runs7
  refine on0 400 [.inl] o0 ?_ rfl; kernel_rfl

def due7 (b : Bk) : Int :=
  (-1)
def due7_c (r : Int) : Dir := .callL (.int .i64 r) []
def due7_G (b : Bk) (r : Int) : Prop := AOn Tryz.prog 42 [.agg ⟨Bk.enc b⟩, .int .i64 7] [] (.int .i64 r) []
theorem due7_eq (b : Bk) : due7_G b (due7 b) := by
  unfold due7
  refine on0 400 [.inl, .lit] o0 ?_ rfl; kernel_rfl

def alike (a : Nd) (b : Nd) : Bool :=
  bif (!((runs0 a.bank) == (runs0 b.bank))) || (((due0 a.bank) != (due0 b.bank)) || ((!((runs1 a.bank) == (runs1 b.bank))) || (((due1 a.bank) != (due1 b.bank)) || ((!((runs2 a.bank) == (runs2 b.bank))) || ((due2 a.bank) != (due2 b.bank)))))) then
    false
  else
    bif (a.me == b.me) && ((a.role == b.role) && ((a.rpl == b.rpl) && ((a.revert == b.revert) && ((a.guard == b.guard) && ((a.rest == b.rest) && ((a.wait == b.wait) && ((a.state == b.state) && (((a.shut.w == b.shut.w) && ((a.shut.e == b.shut.e) && true)) && (((a.bad.w == b.bad.w) && ((a.bad.e == b.bad.e) && true)) && ((a.own == b.own) && ((((a.pairs.w.some == b.pairs.w.some) && ((a.pairs.w.east == b.pairs.w.east) && ((a.pairs.w.node == b.pairs.w.node) && true))) && (((a.pairs.e.some == b.pairs.e.some) && ((a.pairs.e.east == b.pairs.e.east) && ((a.pairs.e.node == b.pairs.e.node) && true))) && true)) && ((a.say.req == b.say.req) && ((a.say.block == b.say.block) && ((a.say.keep == b.say.keep) && ((a.say.east == b.say.east) && ((a.say.node == b.say.node) && true)))))))))))))))) then
      (a.burst.gap == b.burst.gap) && ((a.burst.period == b.burst.period) && ((a.burst.next == b.burst.next) && ((a.burst.on == b.burst.on) && ((a.burst.said == b.burst.said) && true))))
    else
      false
def alike_c (r : Bool) : Dir := .callL (.bool r) []
def alike_G (a : Nd) (b : Nd) (r : Bool) : Prop := AOn Tryz.prog 15 [.agg ⟨Nd.enc a⟩, .agg ⟨Nd.enc b⟩] [] (.bool r) []
theorem alike_eq (a : Nd) (b : Nd) : alike_G a b (alike a b) := by
  unfold alike
  refine byOr ?_
  apply bi <;> intro hb0
  · refine on0 400 (.lit :: runs0_c (runs0 a.bank) :: .heap :: runs0_c (runs0 b.bank) :: .heap :: gds 8 18 true ([.lit])) (o_ (runs0_eq a.bank) (o_ (runs0_eq b.bank) (oN 8 hb0 o0))) ?_ rfl; kernel_rfl
  · refine byOr ?_
    apply bi <;> intro hb1
    · refine on0 400 (.lit :: runs0_c (runs0 a.bank) :: .heap :: runs0_c (runs0 b.bank) :: .heap :: gds 4 18 false (due0_c (due0 a.bank) :: .heap :: gds 4 18 false (due0_c (due0 b.bank) :: [.br true]))) (o_ (runs0_eq a.bank) (o_ (runs0_eq b.bank) (oN 4 hb0 (o_ (due0_eq a.bank) (oN 4 hb0 (o_ (due0_eq b.bank) (o_ hb1 o0))))))) ?_ rfl; kernel_rfl
    · refine byOr ?_
      apply bi <;> intro hb2
      · refine on0 400 (.lit :: runs0_c (runs0 a.bank) :: .heap :: runs0_c (runs0 b.bank) :: .heap :: gds 4 18 false (due0_c (due0 a.bank) :: .heap :: gds 4 18 false (due0_c (due0 b.bank) :: .br false :: .lit :: runs1_c (runs1 a.bank) :: .heap :: runs1_c (runs1 b.bank) :: .heap :: gds 8 18 true ([.lit])))) (o_ (runs0_eq a.bank) (o_ (runs0_eq b.bank) (oN 4 hb0 (o_ (due0_eq a.bank) (oN 4 hb0 (o_ (due0_eq b.bank) (o_ hb1 (o_ (runs1_eq a.bank) (o_ (runs1_eq b.bank) (oN 8 hb2 o0)))))))))) ?_ rfl; kernel_rfl
      · refine byOr ?_
        apply bi <;> intro hb3
        · refine on0 400 (.lit :: runs0_c (runs0 a.bank) :: .heap :: runs0_c (runs0 b.bank) :: .heap :: gds 4 18 false (due0_c (due0 a.bank) :: .heap :: gds 4 18 false (due0_c (due0 b.bank) :: .br false :: .lit :: runs1_c (runs1 a.bank) :: .heap :: runs1_c (runs1 b.bank) :: .heap :: gds 4 18 false (due1_c (due1 a.bank) :: .heap :: gds 4 18 false (due1_c (due1 b.bank) :: [.br true]))))) (o_ (runs0_eq a.bank) (o_ (runs0_eq b.bank) (oN 4 hb0 (o_ (due0_eq a.bank) (oN 4 hb0 (o_ (due0_eq b.bank) (o_ hb1 (o_ (runs1_eq a.bank) (o_ (runs1_eq b.bank) (oN 4 hb2 (o_ (due1_eq a.bank) (oN 4 hb2 (o_ (due1_eq b.bank) (o_ hb3 o0)))))))))))))) ?_ rfl; kernel_rfl
        · refine byOr ?_
          apply bi <;> intro hb4
          · refine on0 400 (.lit :: runs0_c (runs0 a.bank) :: .heap :: runs0_c (runs0 b.bank) :: .heap :: gds 4 18 false (due0_c (due0 a.bank) :: .heap :: gds 4 18 false (due0_c (due0 b.bank) :: .br false :: .lit :: runs1_c (runs1 a.bank) :: .heap :: runs1_c (runs1 b.bank) :: .heap :: gds 4 18 false (due1_c (due1 a.bank) :: .heap :: gds 4 18 false (due1_c (due1 b.bank) :: .br false :: .lit :: runs2_c (runs2 a.bank) :: .heap :: runs2_c (runs2 b.bank) :: .heap :: gds 8 18 true ([.lit])))))) (o_ (runs0_eq a.bank) (o_ (runs0_eq b.bank) (oN 4 hb0 (o_ (due0_eq a.bank) (oN 4 hb0 (o_ (due0_eq b.bank) (o_ hb1 (o_ (runs1_eq a.bank) (o_ (runs1_eq b.bank) (oN 4 hb2 (o_ (due1_eq a.bank) (oN 4 hb2 (o_ (due1_eq b.bank) (o_ hb3 (o_ (runs2_eq a.bank) (o_ (runs2_eq b.bank) (oN 8 hb4 o0))))))))))))))))) ?_ rfl; kernel_rfl
          · apply bi <;> intro hb5
            · refine on0 400 (.lit :: runs0_c (runs0 a.bank) :: .heap :: runs0_c (runs0 b.bank) :: .heap :: gds 4 18 false (due0_c (due0 a.bank) :: .heap :: gds 4 18 false (due0_c (due0 b.bank) :: .br false :: .lit :: runs1_c (runs1 a.bank) :: .heap :: runs1_c (runs1 b.bank) :: .heap :: gds 4 18 false (due1_c (due1 a.bank) :: .heap :: gds 4 18 false (due1_c (due1 b.bank) :: .br false :: .lit :: runs2_c (runs2 a.bank) :: .heap :: runs2_c (runs2 b.bank) :: .heap :: gds 4 18 false (due2_c (due2 a.bank) :: .heap :: gds 4 18 false (due2_c (due2 b.bank) :: [.br true]))))))) (o_ (runs0_eq a.bank) (o_ (runs0_eq b.bank) (oN 4 hb0 (o_ (due0_eq a.bank) (oN 4 hb0 (o_ (due0_eq b.bank) (o_ hb1 (o_ (runs1_eq a.bank) (o_ (runs1_eq b.bank) (oN 4 hb2 (o_ (due1_eq a.bank) (oN 4 hb2 (o_ (due1_eq b.bank) (o_ hb3 (o_ (runs2_eq a.bank) (o_ (runs2_eq b.bank) (oN 4 hb4 (o_ (due2_eq a.bank) (oN 4 hb4 (o_ (due2_eq b.bank) (o_ hb5 o0))))))))))))))))))))) ?_ rfl; kernel_rfl
            · refine byAnd ?_
              apply bi <;> intro hb6
              · refine byAnd ?_
                apply bi <;> intro hb7
                · refine byAnd ?_
                  apply bi <;> intro hb8
                  · refine byAnd ?_
                    apply bi <;> intro hb9
                    · refine byAnd ?_
                      apply bi <;> intro hb10
                      · refine byAnd ?_
                        apply bi <;> intro hb11
                        · refine byAnd ?_
                          apply bi <;> intro hb12
                          · refine byAnd ?_
                            apply bi <;> intro hb13
                            · refine byAnd ?_
                              apply bi <;> intro hb14
                              · refine byAnd ?_
                                apply bi <;> intro hb15
                                · refine byAnd ?_
                                  apply bi <;> intro hb16
                                  · refine byAnd ?_
                                    apply bi <;> intro hb17
                                    · apply bi <;> intro hb18
                                      · refine on0 400 (.lit :: runs0_c (runs0 a.bank) :: .heap :: runs0_c (runs0 b.bank) :: .heap :: gds 4 18 false (due0_c (due0 a.bank) :: .heap :: gds 4 18 false (due0_c (due0 b.bank) :: .br false :: .lit :: runs1_c (runs1 a.bank) :: .heap :: runs1_c (runs1 b.bank) :: .heap :: gds 4 18 false (due1_c (due1 a.bank) :: .heap :: gds 4 18 false (due1_c (due1 b.bank) :: .br false :: .lit :: runs2_c (runs2 a.bank) :: .heap :: runs2_c (runs2 b.bank) :: .heap :: gds 4 18 false (due2_c (due2 a.bank) :: .heap :: gds 4 18 false (due2_c (due2 b.bank) :: .br false :: .lit :: .callL (.bool false) [] :: .heap :: .callL (.bool false) [] :: .heap :: .callL (.int .i64 (-1)) [] :: .heap :: .callL (.int .i64 (-1)) [] :: .lit :: .lit :: .callL (.bool false) [] :: .heap :: .callL (.bool false) [] :: .heap :: .callL (.int .i64 (-1)) [] :: .heap :: .callL (.int .i64 (-1)) [] :: .lit :: .lit :: .callL (.bool false) [] :: .heap :: .callL (.bool false) [] :: .heap :: .callL (.int .i64 (-1)) [] :: .heap :: .callL (.int .i64 (-1)) [] :: .lit :: .lit :: .callL (.bool false) [] :: .heap :: .callL (.bool false) [] :: .heap :: .callL (.int .i64 (-1)) [] :: .heap :: .callL (.int .i64 (-1)) [] :: .lit :: .lit :: .callL (.bool false) [] :: .heap :: .callL (.bool false) [] :: .heap :: .callL (.int .i64 (-1)) [] :: .heap :: .callL (.int .i64 (-1)) [] :: .lit :: .lit :: .gd 35 true :: .gd 42 true :: .gd 49 true :: .gd 56 true :: .gd 63 true :: .gd 70 true :: .gd 77 true :: .gd 84 true :: .gd 91 true :: .gd 98 true :: .gd 105 true :: .gd 112 true :: [.gd 119 true]))))))) (o_ (runs0_eq a.bank) (o_ (runs0_eq b.bank) (oN 4 hb0 (o_ (due0_eq a.bank) (oN 4 hb0 (o_ (due0_eq b.bank) (o_ hb1 (o_ (runs1_eq a.bank) (o_ (runs1_eq b.bank) (oN 4 hb2 (o_ (due1_eq a.bank) (oN 4 hb2 (o_ (due1_eq b.bank) (o_ hb3 (o_ (runs2_eq a.bank) (o_ (runs2_eq b.bank) (oN 4 hb4 (o_ (due2_eq a.bank) (oN 4 hb4 (o_ (due2_eq b.bank) (o_ hb5 (o_ (runs3_eq a.bank) (o_ (runs3_eq b.bank) (o_ (due3_eq a.bank) (o_ (due3_eq b.bank) (o_ (runs4_eq a.bank) (o_ (runs4_eq b.bank) (o_ (due4_eq a.bank) (o_ (due4_eq b.bank) (o_ (runs5_eq a.bank) (o_ (runs5_eq b.bank) (o_ (due5_eq a.bank) (o_ (due5_eq b.bank) (o_ (runs6_eq a.bank) (o_ (runs6_eq b.bank) (o_ (due6_eq a.bank) (o_ (due6_eq b.bank) (o_ (runs7_eq a.bank) (o_ (runs7_eq b.bank) (o_ (due7_eq a.bank) (o_ (due7_eq b.bank) (o_ hb6 (o_ hb7 (o_ hb8 (o_ hb9 (o_ hb10 (o_ hb11 (o_ hb12 (o_ hb13 (o_ hb14 (o_ hb15 (o_ hb16 (o_ hb17 (o_ hb18 o0)))))))))))))))))))))))))))))))))))))))))))))))))))))) ?_ rfl; kernel_rfl
                                      · refine on0 400 (.lit :: runs0_c (runs0 a.bank) :: .heap :: runs0_c (runs0 b.bank) :: .heap :: gds 4 18 false (due0_c (due0 a.bank) :: .heap :: gds 4 18 false (due0_c (due0 b.bank) :: .br false :: .lit :: runs1_c (runs1 a.bank) :: .heap :: runs1_c (runs1 b.bank) :: .heap :: gds 4 18 false (due1_c (due1 a.bank) :: .heap :: gds 4 18 false (due1_c (due1 b.bank) :: .br false :: .lit :: runs2_c (runs2 a.bank) :: .heap :: runs2_c (runs2 b.bank) :: .heap :: gds 4 18 false (due2_c (due2 a.bank) :: .heap :: gds 4 18 false (due2_c (due2 b.bank) :: .br false :: .lit :: .callL (.bool false) [] :: .heap :: .callL (.bool false) [] :: .heap :: .callL (.int .i64 (-1)) [] :: .heap :: .callL (.int .i64 (-1)) [] :: .lit :: .lit :: .callL (.bool false) [] :: .heap :: .callL (.bool false) [] :: .heap :: .callL (.int .i64 (-1)) [] :: .heap :: .callL (.int .i64 (-1)) [] :: .lit :: .lit :: .callL (.bool false) [] :: .heap :: .callL (.bool false) [] :: .heap :: .callL (.int .i64 (-1)) [] :: .heap :: .callL (.int .i64 (-1)) [] :: .lit :: .lit :: .callL (.bool false) [] :: .heap :: .callL (.bool false) [] :: .heap :: .callL (.int .i64 (-1)) [] :: .heap :: .callL (.int .i64 (-1)) [] :: .lit :: .lit :: .callL (.bool false) [] :: .heap :: .callL (.bool false) [] :: .heap :: .callL (.int .i64 (-1)) [] :: .heap :: .callL (.int .i64 (-1)) [] :: .lit :: .lit :: .gd 35 true :: .gd 42 true :: .gd 49 true :: .gd 56 true :: .gd 63 true :: .gd 70 true :: .gd 77 true :: .gd 84 true :: .gd 91 true :: .gd 98 true :: .gd 105 true :: .gd 112 true :: [.gd 119 false]))))))) (o_ (runs0_eq a.bank) (o_ (runs0_eq b.bank) (oN 4 hb0 (o_ (due0_eq a.bank) (oN 4 hb0 (o_ (due0_eq b.bank) (o_ hb1 (o_ (runs1_eq a.bank) (o_ (runs1_eq b.bank) (oN 4 hb2 (o_ (due1_eq a.bank) (oN 4 hb2 (o_ (due1_eq b.bank) (o_ hb3 (o_ (runs2_eq a.bank) (o_ (runs2_eq b.bank) (oN 4 hb4 (o_ (due2_eq a.bank) (oN 4 hb4 (o_ (due2_eq b.bank) (o_ hb5 (o_ (runs3_eq a.bank) (o_ (runs3_eq b.bank) (o_ (due3_eq a.bank) (o_ (due3_eq b.bank) (o_ (runs4_eq a.bank) (o_ (runs4_eq b.bank) (o_ (due4_eq a.bank) (o_ (due4_eq b.bank) (o_ (runs5_eq a.bank) (o_ (runs5_eq b.bank) (o_ (due5_eq a.bank) (o_ (due5_eq b.bank) (o_ (runs6_eq a.bank) (o_ (runs6_eq b.bank) (o_ (due6_eq a.bank) (o_ (due6_eq b.bank) (o_ (runs7_eq a.bank) (o_ (runs7_eq b.bank) (o_ (due7_eq a.bank) (o_ (due7_eq b.bank) (o_ hb6 (o_ hb7 (o_ hb8 (o_ hb9 (o_ hb10 (o_ hb11 (o_ hb12 (o_ hb13 (o_ hb14 (o_ hb15 (o_ hb16 (o_ hb17 (o_ hb18 o0)))))))))))))))))))))))))))))))))))))))))))))))))))))) ?_ rfl; kernel_rfl
                                    · refine on0 400 (.lit :: runs0_c (runs0 a.bank) :: .heap :: runs0_c (runs0 b.bank) :: .heap :: gds 4 18 false (due0_c (due0 a.bank) :: .heap :: gds 4 18 false (due0_c (due0 b.bank) :: .br false :: .lit :: runs1_c (runs1 a.bank) :: .heap :: runs1_c (runs1 b.bank) :: .heap :: gds 4 18 false (due1_c (due1 a.bank) :: .heap :: gds 4 18 false (due1_c (due1 b.bank) :: .br false :: .lit :: runs2_c (runs2 a.bank) :: .heap :: runs2_c (runs2 b.bank) :: .heap :: gds 4 18 false (due2_c (due2 a.bank) :: .heap :: gds 4 18 false (due2_c (due2 b.bank) :: .br false :: .lit :: .callL (.bool false) [] :: .heap :: .callL (.bool false) [] :: .heap :: .callL (.int .i64 (-1)) [] :: .heap :: .callL (.int .i64 (-1)) [] :: .lit :: .lit :: .callL (.bool false) [] :: .heap :: .callL (.bool false) [] :: .heap :: .callL (.int .i64 (-1)) [] :: .heap :: .callL (.int .i64 (-1)) [] :: .lit :: .lit :: .callL (.bool false) [] :: .heap :: .callL (.bool false) [] :: .heap :: .callL (.int .i64 (-1)) [] :: .heap :: .callL (.int .i64 (-1)) [] :: .lit :: .lit :: .callL (.bool false) [] :: .heap :: .callL (.bool false) [] :: .heap :: .callL (.int .i64 (-1)) [] :: .heap :: .callL (.int .i64 (-1)) [] :: .lit :: .lit :: .callL (.bool false) [] :: .heap :: .callL (.bool false) [] :: .heap :: .callL (.int .i64 (-1)) [] :: .heap :: .callL (.int .i64 (-1)) [] :: .lit :: .lit :: .gd 35 true :: .gd 42 true :: .gd 49 true :: .gd 56 true :: .gd 63 true :: .gd 70 true :: .gd 77 true :: .gd 84 true :: .gd 91 true :: .gd 98 true :: .gd 105 true :: [.gd 112 false]))))))) (o_ (runs0_eq a.bank) (o_ (runs0_eq b.bank) (oN 4 hb0 (o_ (due0_eq a.bank) (oN 4 hb0 (o_ (due0_eq b.bank) (o_ hb1 (o_ (runs1_eq a.bank) (o_ (runs1_eq b.bank) (oN 4 hb2 (o_ (due1_eq a.bank) (oN 4 hb2 (o_ (due1_eq b.bank) (o_ hb3 (o_ (runs2_eq a.bank) (o_ (runs2_eq b.bank) (oN 4 hb4 (o_ (due2_eq a.bank) (oN 4 hb4 (o_ (due2_eq b.bank) (o_ hb5 (o_ (runs3_eq a.bank) (o_ (runs3_eq b.bank) (o_ (due3_eq a.bank) (o_ (due3_eq b.bank) (o_ (runs4_eq a.bank) (o_ (runs4_eq b.bank) (o_ (due4_eq a.bank) (o_ (due4_eq b.bank) (o_ (runs5_eq a.bank) (o_ (runs5_eq b.bank) (o_ (due5_eq a.bank) (o_ (due5_eq b.bank) (o_ (runs6_eq a.bank) (o_ (runs6_eq b.bank) (o_ (due6_eq a.bank) (o_ (due6_eq b.bank) (o_ (runs7_eq a.bank) (o_ (runs7_eq b.bank) (o_ (due7_eq a.bank) (o_ (due7_eq b.bank) (o_ hb6 (o_ hb7 (o_ hb8 (o_ hb9 (o_ hb10 (o_ hb11 (o_ hb12 (o_ hb13 (o_ hb14 (o_ hb15 (o_ hb16 (o_ hb17 o0))))))))))))))))))))))))))))))))))))))))))))))))))))) ?_ rfl; kernel_rfl
                                  · refine on0 400 (.lit :: runs0_c (runs0 a.bank) :: .heap :: runs0_c (runs0 b.bank) :: .heap :: gds 4 18 false (due0_c (due0 a.bank) :: .heap :: gds 4 18 false (due0_c (due0 b.bank) :: .br false :: .lit :: runs1_c (runs1 a.bank) :: .heap :: runs1_c (runs1 b.bank) :: .heap :: gds 4 18 false (due1_c (due1 a.bank) :: .heap :: gds 4 18 false (due1_c (due1 b.bank) :: .br false :: .lit :: runs2_c (runs2 a.bank) :: .heap :: runs2_c (runs2 b.bank) :: .heap :: gds 4 18 false (due2_c (due2 a.bank) :: .heap :: gds 4 18 false (due2_c (due2 b.bank) :: .br false :: .lit :: .callL (.bool false) [] :: .heap :: .callL (.bool false) [] :: .heap :: .callL (.int .i64 (-1)) [] :: .heap :: .callL (.int .i64 (-1)) [] :: .lit :: .lit :: .callL (.bool false) [] :: .heap :: .callL (.bool false) [] :: .heap :: .callL (.int .i64 (-1)) [] :: .heap :: .callL (.int .i64 (-1)) [] :: .lit :: .lit :: .callL (.bool false) [] :: .heap :: .callL (.bool false) [] :: .heap :: .callL (.int .i64 (-1)) [] :: .heap :: .callL (.int .i64 (-1)) [] :: .lit :: .lit :: .callL (.bool false) [] :: .heap :: .callL (.bool false) [] :: .heap :: .callL (.int .i64 (-1)) [] :: .heap :: .callL (.int .i64 (-1)) [] :: .lit :: .lit :: .callL (.bool false) [] :: .heap :: .callL (.bool false) [] :: .heap :: .callL (.int .i64 (-1)) [] :: .heap :: .callL (.int .i64 (-1)) [] :: .lit :: .lit :: .gd 35 true :: .gd 42 true :: .gd 49 true :: .gd 56 true :: .gd 63 true :: .gd 70 true :: .gd 77 true :: .gd 84 true :: .gd 91 true :: .gd 98 true :: [.gd 105 false]))))))) (o_ (runs0_eq a.bank) (o_ (runs0_eq b.bank) (oN 4 hb0 (o_ (due0_eq a.bank) (oN 4 hb0 (o_ (due0_eq b.bank) (o_ hb1 (o_ (runs1_eq a.bank) (o_ (runs1_eq b.bank) (oN 4 hb2 (o_ (due1_eq a.bank) (oN 4 hb2 (o_ (due1_eq b.bank) (o_ hb3 (o_ (runs2_eq a.bank) (o_ (runs2_eq b.bank) (oN 4 hb4 (o_ (due2_eq a.bank) (oN 4 hb4 (o_ (due2_eq b.bank) (o_ hb5 (o_ (runs3_eq a.bank) (o_ (runs3_eq b.bank) (o_ (due3_eq a.bank) (o_ (due3_eq b.bank) (o_ (runs4_eq a.bank) (o_ (runs4_eq b.bank) (o_ (due4_eq a.bank) (o_ (due4_eq b.bank) (o_ (runs5_eq a.bank) (o_ (runs5_eq b.bank) (o_ (due5_eq a.bank) (o_ (due5_eq b.bank) (o_ (runs6_eq a.bank) (o_ (runs6_eq b.bank) (o_ (due6_eq a.bank) (o_ (due6_eq b.bank) (o_ (runs7_eq a.bank) (o_ (runs7_eq b.bank) (o_ (due7_eq a.bank) (o_ (due7_eq b.bank) (o_ hb6 (o_ hb7 (o_ hb8 (o_ hb9 (o_ hb10 (o_ hb11 (o_ hb12 (o_ hb13 (o_ hb14 (o_ hb15 (o_ hb16 o0)))))))))))))))))))))))))))))))))))))))))))))))))))) ?_ rfl; kernel_rfl
                                · refine on0 400 (.lit :: runs0_c (runs0 a.bank) :: .heap :: runs0_c (runs0 b.bank) :: .heap :: gds 4 18 false (due0_c (due0 a.bank) :: .heap :: gds 4 18 false (due0_c (due0 b.bank) :: .br false :: .lit :: runs1_c (runs1 a.bank) :: .heap :: runs1_c (runs1 b.bank) :: .heap :: gds 4 18 false (due1_c (due1 a.bank) :: .heap :: gds 4 18 false (due1_c (due1 b.bank) :: .br false :: .lit :: runs2_c (runs2 a.bank) :: .heap :: runs2_c (runs2 b.bank) :: .heap :: gds 4 18 false (due2_c (due2 a.bank) :: .heap :: gds 4 18 false (due2_c (due2 b.bank) :: .br false :: .lit :: .callL (.bool false) [] :: .heap :: .callL (.bool false) [] :: .heap :: .callL (.int .i64 (-1)) [] :: .heap :: .callL (.int .i64 (-1)) [] :: .lit :: .lit :: .callL (.bool false) [] :: .heap :: .callL (.bool false) [] :: .heap :: .callL (.int .i64 (-1)) [] :: .heap :: .callL (.int .i64 (-1)) [] :: .lit :: .lit :: .callL (.bool false) [] :: .heap :: .callL (.bool false) [] :: .heap :: .callL (.int .i64 (-1)) [] :: .heap :: .callL (.int .i64 (-1)) [] :: .lit :: .lit :: .callL (.bool false) [] :: .heap :: .callL (.bool false) [] :: .heap :: .callL (.int .i64 (-1)) [] :: .heap :: .callL (.int .i64 (-1)) [] :: .lit :: .lit :: .callL (.bool false) [] :: .heap :: .callL (.bool false) [] :: .heap :: .callL (.int .i64 (-1)) [] :: .heap :: .callL (.int .i64 (-1)) [] :: .lit :: .lit :: .gd 35 true :: .gd 42 true :: .gd 49 true :: .gd 56 true :: .gd 63 true :: .gd 70 true :: .gd 77 true :: .gd 84 true :: .gd 91 true :: [.gd 98 false]))))))) (o_ (runs0_eq a.bank) (o_ (runs0_eq b.bank) (oN 4 hb0 (o_ (due0_eq a.bank) (oN 4 hb0 (o_ (due0_eq b.bank) (o_ hb1 (o_ (runs1_eq a.bank) (o_ (runs1_eq b.bank) (oN 4 hb2 (o_ (due1_eq a.bank) (oN 4 hb2 (o_ (due1_eq b.bank) (o_ hb3 (o_ (runs2_eq a.bank) (o_ (runs2_eq b.bank) (oN 4 hb4 (o_ (due2_eq a.bank) (oN 4 hb4 (o_ (due2_eq b.bank) (o_ hb5 (o_ (runs3_eq a.bank) (o_ (runs3_eq b.bank) (o_ (due3_eq a.bank) (o_ (due3_eq b.bank) (o_ (runs4_eq a.bank) (o_ (runs4_eq b.bank) (o_ (due4_eq a.bank) (o_ (due4_eq b.bank) (o_ (runs5_eq a.bank) (o_ (runs5_eq b.bank) (o_ (due5_eq a.bank) (o_ (due5_eq b.bank) (o_ (runs6_eq a.bank) (o_ (runs6_eq b.bank) (o_ (due6_eq a.bank) (o_ (due6_eq b.bank) (o_ (runs7_eq a.bank) (o_ (runs7_eq b.bank) (o_ (due7_eq a.bank) (o_ (due7_eq b.bank) (o_ hb6 (o_ hb7 (o_ hb8 (o_ hb9 (o_ hb10 (o_ hb11 (o_ hb12 (o_ hb13 (o_ hb14 (o_ hb15 o0))))))))))))))))))))))))))))))))))))))))))))))))))) ?_ rfl; kernel_rfl
                              · refine on0 400 (.lit :: runs0_c (runs0 a.bank) :: .heap :: runs0_c (runs0 b.bank) :: .heap :: gds 4 18 false (due0_c (due0 a.bank) :: .heap :: gds 4 18 false (due0_c (due0 b.bank) :: .br false :: .lit :: runs1_c (runs1 a.bank) :: .heap :: runs1_c (runs1 b.bank) :: .heap :: gds 4 18 false (due1_c (due1 a.bank) :: .heap :: gds 4 18 false (due1_c (due1 b.bank) :: .br false :: .lit :: runs2_c (runs2 a.bank) :: .heap :: runs2_c (runs2 b.bank) :: .heap :: gds 4 18 false (due2_c (due2 a.bank) :: .heap :: gds 4 18 false (due2_c (due2 b.bank) :: .br false :: .lit :: .callL (.bool false) [] :: .heap :: .callL (.bool false) [] :: .heap :: .callL (.int .i64 (-1)) [] :: .heap :: .callL (.int .i64 (-1)) [] :: .lit :: .lit :: .callL (.bool false) [] :: .heap :: .callL (.bool false) [] :: .heap :: .callL (.int .i64 (-1)) [] :: .heap :: .callL (.int .i64 (-1)) [] :: .lit :: .lit :: .callL (.bool false) [] :: .heap :: .callL (.bool false) [] :: .heap :: .callL (.int .i64 (-1)) [] :: .heap :: .callL (.int .i64 (-1)) [] :: .lit :: .lit :: .callL (.bool false) [] :: .heap :: .callL (.bool false) [] :: .heap :: .callL (.int .i64 (-1)) [] :: .heap :: .callL (.int .i64 (-1)) [] :: .lit :: .lit :: .callL (.bool false) [] :: .heap :: .callL (.bool false) [] :: .heap :: .callL (.int .i64 (-1)) [] :: .heap :: .callL (.int .i64 (-1)) [] :: .lit :: .lit :: .gd 35 true :: .gd 42 true :: .gd 49 true :: .gd 56 true :: .gd 63 true :: .gd 70 true :: .gd 77 true :: .gd 84 true :: [.gd 91 false]))))))) (o_ (runs0_eq a.bank) (o_ (runs0_eq b.bank) (oN 4 hb0 (o_ (due0_eq a.bank) (oN 4 hb0 (o_ (due0_eq b.bank) (o_ hb1 (o_ (runs1_eq a.bank) (o_ (runs1_eq b.bank) (oN 4 hb2 (o_ (due1_eq a.bank) (oN 4 hb2 (o_ (due1_eq b.bank) (o_ hb3 (o_ (runs2_eq a.bank) (o_ (runs2_eq b.bank) (oN 4 hb4 (o_ (due2_eq a.bank) (oN 4 hb4 (o_ (due2_eq b.bank) (o_ hb5 (o_ (runs3_eq a.bank) (o_ (runs3_eq b.bank) (o_ (due3_eq a.bank) (o_ (due3_eq b.bank) (o_ (runs4_eq a.bank) (o_ (runs4_eq b.bank) (o_ (due4_eq a.bank) (o_ (due4_eq b.bank) (o_ (runs5_eq a.bank) (o_ (runs5_eq b.bank) (o_ (due5_eq a.bank) (o_ (due5_eq b.bank) (o_ (runs6_eq a.bank) (o_ (runs6_eq b.bank) (o_ (due6_eq a.bank) (o_ (due6_eq b.bank) (o_ (runs7_eq a.bank) (o_ (runs7_eq b.bank) (o_ (due7_eq a.bank) (o_ (due7_eq b.bank) (o_ hb6 (o_ hb7 (o_ hb8 (o_ hb9 (o_ hb10 (o_ hb11 (o_ hb12 (o_ hb13 (o_ hb14 o0)))))))))))))))))))))))))))))))))))))))))))))))))) ?_ rfl; kernel_rfl
                            · refine on0 400 (.lit :: runs0_c (runs0 a.bank) :: .heap :: runs0_c (runs0 b.bank) :: .heap :: gds 4 18 false (due0_c (due0 a.bank) :: .heap :: gds 4 18 false (due0_c (due0 b.bank) :: .br false :: .lit :: runs1_c (runs1 a.bank) :: .heap :: runs1_c (runs1 b.bank) :: .heap :: gds 4 18 false (due1_c (due1 a.bank) :: .heap :: gds 4 18 false (due1_c (due1 b.bank) :: .br false :: .lit :: runs2_c (runs2 a.bank) :: .heap :: runs2_c (runs2 b.bank) :: .heap :: gds 4 18 false (due2_c (due2 a.bank) :: .heap :: gds 4 18 false (due2_c (due2 b.bank) :: .br false :: .lit :: .callL (.bool false) [] :: .heap :: .callL (.bool false) [] :: .heap :: .callL (.int .i64 (-1)) [] :: .heap :: .callL (.int .i64 (-1)) [] :: .lit :: .lit :: .callL (.bool false) [] :: .heap :: .callL (.bool false) [] :: .heap :: .callL (.int .i64 (-1)) [] :: .heap :: .callL (.int .i64 (-1)) [] :: .lit :: .lit :: .callL (.bool false) [] :: .heap :: .callL (.bool false) [] :: .heap :: .callL (.int .i64 (-1)) [] :: .heap :: .callL (.int .i64 (-1)) [] :: .lit :: .lit :: .callL (.bool false) [] :: .heap :: .callL (.bool false) [] :: .heap :: .callL (.int .i64 (-1)) [] :: .heap :: .callL (.int .i64 (-1)) [] :: .lit :: .lit :: .callL (.bool false) [] :: .heap :: .callL (.bool false) [] :: .heap :: .callL (.int .i64 (-1)) [] :: .heap :: .callL (.int .i64 (-1)) [] :: .lit :: .lit :: .gd 35 true :: .gd 42 true :: .gd 49 true :: .gd 56 true :: .gd 63 true :: .gd 70 true :: .gd 77 true :: [.gd 84 false]))))))) (o_ (runs0_eq a.bank) (o_ (runs0_eq b.bank) (oN 4 hb0 (o_ (due0_eq a.bank) (oN 4 hb0 (o_ (due0_eq b.bank) (o_ hb1 (o_ (runs1_eq a.bank) (o_ (runs1_eq b.bank) (oN 4 hb2 (o_ (due1_eq a.bank) (oN 4 hb2 (o_ (due1_eq b.bank) (o_ hb3 (o_ (runs2_eq a.bank) (o_ (runs2_eq b.bank) (oN 4 hb4 (o_ (due2_eq a.bank) (oN 4 hb4 (o_ (due2_eq b.bank) (o_ hb5 (o_ (runs3_eq a.bank) (o_ (runs3_eq b.bank) (o_ (due3_eq a.bank) (o_ (due3_eq b.bank) (o_ (runs4_eq a.bank) (o_ (runs4_eq b.bank) (o_ (due4_eq a.bank) (o_ (due4_eq b.bank) (o_ (runs5_eq a.bank) (o_ (runs5_eq b.bank) (o_ (due5_eq a.bank) (o_ (due5_eq b.bank) (o_ (runs6_eq a.bank) (o_ (runs6_eq b.bank) (o_ (due6_eq a.bank) (o_ (due6_eq b.bank) (o_ (runs7_eq a.bank) (o_ (runs7_eq b.bank) (o_ (due7_eq a.bank) (o_ (due7_eq b.bank) (o_ hb6 (o_ hb7 (o_ hb8 (o_ hb9 (o_ hb10 (o_ hb11 (o_ hb12 (o_ hb13 o0))))))))))))))))))))))))))))))))))))))))))))))))) ?_ rfl; kernel_rfl
                          · refine on0 400 (.lit :: runs0_c (runs0 a.bank) :: .heap :: runs0_c (runs0 b.bank) :: .heap :: gds 4 18 false (due0_c (due0 a.bank) :: .heap :: gds 4 18 false (due0_c (due0 b.bank) :: .br false :: .lit :: runs1_c (runs1 a.bank) :: .heap :: runs1_c (runs1 b.bank) :: .heap :: gds 4 18 false (due1_c (due1 a.bank) :: .heap :: gds 4 18 false (due1_c (due1 b.bank) :: .br false :: .lit :: runs2_c (runs2 a.bank) :: .heap :: runs2_c (runs2 b.bank) :: .heap :: gds 4 18 false (due2_c (due2 a.bank) :: .heap :: gds 4 18 false (due2_c (due2 b.bank) :: .br false :: .lit :: .callL (.bool false) [] :: .heap :: .callL (.bool false) [] :: .heap :: .callL (.int .i64 (-1)) [] :: .heap :: .callL (.int .i64 (-1)) [] :: .lit :: .lit :: .callL (.bool false) [] :: .heap :: .callL (.bool false) [] :: .heap :: .callL (.int .i64 (-1)) [] :: .heap :: .callL (.int .i64 (-1)) [] :: .lit :: .lit :: .callL (.bool false) [] :: .heap :: .callL (.bool false) [] :: .heap :: .callL (.int .i64 (-1)) [] :: .heap :: .callL (.int .i64 (-1)) [] :: .lit :: .lit :: .callL (.bool false) [] :: .heap :: .callL (.bool false) [] :: .heap :: .callL (.int .i64 (-1)) [] :: .heap :: .callL (.int .i64 (-1)) [] :: .lit :: .lit :: .callL (.bool false) [] :: .heap :: .callL (.bool false) [] :: .heap :: .callL (.int .i64 (-1)) [] :: .heap :: .callL (.int .i64 (-1)) [] :: .lit :: .lit :: .gd 35 true :: .gd 42 true :: .gd 49 true :: .gd 56 true :: .gd 63 true :: .gd 70 true :: [.gd 77 false]))))))) (o_ (runs0_eq a.bank) (o_ (runs0_eq b.bank) (oN 4 hb0 (o_ (due0_eq a.bank) (oN 4 hb0 (o_ (due0_eq b.bank) (o_ hb1 (o_ (runs1_eq a.bank) (o_ (runs1_eq b.bank) (oN 4 hb2 (o_ (due1_eq a.bank) (oN 4 hb2 (o_ (due1_eq b.bank) (o_ hb3 (o_ (runs2_eq a.bank) (o_ (runs2_eq b.bank) (oN 4 hb4 (o_ (due2_eq a.bank) (oN 4 hb4 (o_ (due2_eq b.bank) (o_ hb5 (o_ (runs3_eq a.bank) (o_ (runs3_eq b.bank) (o_ (due3_eq a.bank) (o_ (due3_eq b.bank) (o_ (runs4_eq a.bank) (o_ (runs4_eq b.bank) (o_ (due4_eq a.bank) (o_ (due4_eq b.bank) (o_ (runs5_eq a.bank) (o_ (runs5_eq b.bank) (o_ (due5_eq a.bank) (o_ (due5_eq b.bank) (o_ (runs6_eq a.bank) (o_ (runs6_eq b.bank) (o_ (due6_eq a.bank) (o_ (due6_eq b.bank) (o_ (runs7_eq a.bank) (o_ (runs7_eq b.bank) (o_ (due7_eq a.bank) (o_ (due7_eq b.bank) (o_ hb6 (o_ hb7 (o_ hb8 (o_ hb9 (o_ hb10 (o_ hb11 (o_ hb12 o0)))))))))))))))))))))))))))))))))))))))))))))))) ?_ rfl; kernel_rfl
                        · refine on0 400 (.lit :: runs0_c (runs0 a.bank) :: .heap :: runs0_c (runs0 b.bank) :: .heap :: gds 4 18 false (due0_c (due0 a.bank) :: .heap :: gds 4 18 false (due0_c (due0 b.bank) :: .br false :: .lit :: runs1_c (runs1 a.bank) :: .heap :: runs1_c (runs1 b.bank) :: .heap :: gds 4 18 false (due1_c (due1 a.bank) :: .heap :: gds 4 18 false (due1_c (due1 b.bank) :: .br false :: .lit :: runs2_c (runs2 a.bank) :: .heap :: runs2_c (runs2 b.bank) :: .heap :: gds 4 18 false (due2_c (due2 a.bank) :: .heap :: gds 4 18 false (due2_c (due2 b.bank) :: .br false :: .lit :: .callL (.bool false) [] :: .heap :: .callL (.bool false) [] :: .heap :: .callL (.int .i64 (-1)) [] :: .heap :: .callL (.int .i64 (-1)) [] :: .lit :: .lit :: .callL (.bool false) [] :: .heap :: .callL (.bool false) [] :: .heap :: .callL (.int .i64 (-1)) [] :: .heap :: .callL (.int .i64 (-1)) [] :: .lit :: .lit :: .callL (.bool false) [] :: .heap :: .callL (.bool false) [] :: .heap :: .callL (.int .i64 (-1)) [] :: .heap :: .callL (.int .i64 (-1)) [] :: .lit :: .lit :: .callL (.bool false) [] :: .heap :: .callL (.bool false) [] :: .heap :: .callL (.int .i64 (-1)) [] :: .heap :: .callL (.int .i64 (-1)) [] :: .lit :: .lit :: .callL (.bool false) [] :: .heap :: .callL (.bool false) [] :: .heap :: .callL (.int .i64 (-1)) [] :: .heap :: .callL (.int .i64 (-1)) [] :: .lit :: .lit :: .gd 35 true :: .gd 42 true :: .gd 49 true :: .gd 56 true :: .gd 63 true :: [.gd 70 false]))))))) (o_ (runs0_eq a.bank) (o_ (runs0_eq b.bank) (oN 4 hb0 (o_ (due0_eq a.bank) (oN 4 hb0 (o_ (due0_eq b.bank) (o_ hb1 (o_ (runs1_eq a.bank) (o_ (runs1_eq b.bank) (oN 4 hb2 (o_ (due1_eq a.bank) (oN 4 hb2 (o_ (due1_eq b.bank) (o_ hb3 (o_ (runs2_eq a.bank) (o_ (runs2_eq b.bank) (oN 4 hb4 (o_ (due2_eq a.bank) (oN 4 hb4 (o_ (due2_eq b.bank) (o_ hb5 (o_ (runs3_eq a.bank) (o_ (runs3_eq b.bank) (o_ (due3_eq a.bank) (o_ (due3_eq b.bank) (o_ (runs4_eq a.bank) (o_ (runs4_eq b.bank) (o_ (due4_eq a.bank) (o_ (due4_eq b.bank) (o_ (runs5_eq a.bank) (o_ (runs5_eq b.bank) (o_ (due5_eq a.bank) (o_ (due5_eq b.bank) (o_ (runs6_eq a.bank) (o_ (runs6_eq b.bank) (o_ (due6_eq a.bank) (o_ (due6_eq b.bank) (o_ (runs7_eq a.bank) (o_ (runs7_eq b.bank) (o_ (due7_eq a.bank) (o_ (due7_eq b.bank) (o_ hb6 (o_ hb7 (o_ hb8 (o_ hb9 (o_ hb10 (o_ hb11 o0))))))))))))))))))))))))))))))))))))))))))))))) ?_ rfl; kernel_rfl
                      · refine on0 400 (.lit :: runs0_c (runs0 a.bank) :: .heap :: runs0_c (runs0 b.bank) :: .heap :: gds 4 18 false (due0_c (due0 a.bank) :: .heap :: gds 4 18 false (due0_c (due0 b.bank) :: .br false :: .lit :: runs1_c (runs1 a.bank) :: .heap :: runs1_c (runs1 b.bank) :: .heap :: gds 4 18 false (due1_c (due1 a.bank) :: .heap :: gds 4 18 false (due1_c (due1 b.bank) :: .br false :: .lit :: runs2_c (runs2 a.bank) :: .heap :: runs2_c (runs2 b.bank) :: .heap :: gds 4 18 false (due2_c (due2 a.bank) :: .heap :: gds 4 18 false (due2_c (due2 b.bank) :: .br false :: .lit :: .callL (.bool false) [] :: .heap :: .callL (.bool false) [] :: .heap :: .callL (.int .i64 (-1)) [] :: .heap :: .callL (.int .i64 (-1)) [] :: .lit :: .lit :: .callL (.bool false) [] :: .heap :: .callL (.bool false) [] :: .heap :: .callL (.int .i64 (-1)) [] :: .heap :: .callL (.int .i64 (-1)) [] :: .lit :: .lit :: .callL (.bool false) [] :: .heap :: .callL (.bool false) [] :: .heap :: .callL (.int .i64 (-1)) [] :: .heap :: .callL (.int .i64 (-1)) [] :: .lit :: .lit :: .callL (.bool false) [] :: .heap :: .callL (.bool false) [] :: .heap :: .callL (.int .i64 (-1)) [] :: .heap :: .callL (.int .i64 (-1)) [] :: .lit :: .lit :: .callL (.bool false) [] :: .heap :: .callL (.bool false) [] :: .heap :: .callL (.int .i64 (-1)) [] :: .heap :: .callL (.int .i64 (-1)) [] :: .lit :: .lit :: .gd 35 true :: .gd 42 true :: .gd 49 true :: .gd 56 true :: [.gd 63 false]))))))) (o_ (runs0_eq a.bank) (o_ (runs0_eq b.bank) (oN 4 hb0 (o_ (due0_eq a.bank) (oN 4 hb0 (o_ (due0_eq b.bank) (o_ hb1 (o_ (runs1_eq a.bank) (o_ (runs1_eq b.bank) (oN 4 hb2 (o_ (due1_eq a.bank) (oN 4 hb2 (o_ (due1_eq b.bank) (o_ hb3 (o_ (runs2_eq a.bank) (o_ (runs2_eq b.bank) (oN 4 hb4 (o_ (due2_eq a.bank) (oN 4 hb4 (o_ (due2_eq b.bank) (o_ hb5 (o_ (runs3_eq a.bank) (o_ (runs3_eq b.bank) (o_ (due3_eq a.bank) (o_ (due3_eq b.bank) (o_ (runs4_eq a.bank) (o_ (runs4_eq b.bank) (o_ (due4_eq a.bank) (o_ (due4_eq b.bank) (o_ (runs5_eq a.bank) (o_ (runs5_eq b.bank) (o_ (due5_eq a.bank) (o_ (due5_eq b.bank) (o_ (runs6_eq a.bank) (o_ (runs6_eq b.bank) (o_ (due6_eq a.bank) (o_ (due6_eq b.bank) (o_ (runs7_eq a.bank) (o_ (runs7_eq b.bank) (o_ (due7_eq a.bank) (o_ (due7_eq b.bank) (o_ hb6 (o_ hb7 (o_ hb8 (o_ hb9 (o_ hb10 o0)))))))))))))))))))))))))))))))))))))))))))))) ?_ rfl; kernel_rfl
                    · refine on0 400 (.lit :: runs0_c (runs0 a.bank) :: .heap :: runs0_c (runs0 b.bank) :: .heap :: gds 4 18 false (due0_c (due0 a.bank) :: .heap :: gds 4 18 false (due0_c (due0 b.bank) :: .br false :: .lit :: runs1_c (runs1 a.bank) :: .heap :: runs1_c (runs1 b.bank) :: .heap :: gds 4 18 false (due1_c (due1 a.bank) :: .heap :: gds 4 18 false (due1_c (due1 b.bank) :: .br false :: .lit :: runs2_c (runs2 a.bank) :: .heap :: runs2_c (runs2 b.bank) :: .heap :: gds 4 18 false (due2_c (due2 a.bank) :: .heap :: gds 4 18 false (due2_c (due2 b.bank) :: .br false :: .lit :: .callL (.bool false) [] :: .heap :: .callL (.bool false) [] :: .heap :: .callL (.int .i64 (-1)) [] :: .heap :: .callL (.int .i64 (-1)) [] :: .lit :: .lit :: .callL (.bool false) [] :: .heap :: .callL (.bool false) [] :: .heap :: .callL (.int .i64 (-1)) [] :: .heap :: .callL (.int .i64 (-1)) [] :: .lit :: .lit :: .callL (.bool false) [] :: .heap :: .callL (.bool false) [] :: .heap :: .callL (.int .i64 (-1)) [] :: .heap :: .callL (.int .i64 (-1)) [] :: .lit :: .lit :: .callL (.bool false) [] :: .heap :: .callL (.bool false) [] :: .heap :: .callL (.int .i64 (-1)) [] :: .heap :: .callL (.int .i64 (-1)) [] :: .lit :: .lit :: .callL (.bool false) [] :: .heap :: .callL (.bool false) [] :: .heap :: .callL (.int .i64 (-1)) [] :: .heap :: .callL (.int .i64 (-1)) [] :: .lit :: .lit :: .gd 35 true :: .gd 42 true :: .gd 49 true :: [.gd 56 false]))))))) (o_ (runs0_eq a.bank) (o_ (runs0_eq b.bank) (oN 4 hb0 (o_ (due0_eq a.bank) (oN 4 hb0 (o_ (due0_eq b.bank) (o_ hb1 (o_ (runs1_eq a.bank) (o_ (runs1_eq b.bank) (oN 4 hb2 (o_ (due1_eq a.bank) (oN 4 hb2 (o_ (due1_eq b.bank) (o_ hb3 (o_ (runs2_eq a.bank) (o_ (runs2_eq b.bank) (oN 4 hb4 (o_ (due2_eq a.bank) (oN 4 hb4 (o_ (due2_eq b.bank) (o_ hb5 (o_ (runs3_eq a.bank) (o_ (runs3_eq b.bank) (o_ (due3_eq a.bank) (o_ (due3_eq b.bank) (o_ (runs4_eq a.bank) (o_ (runs4_eq b.bank) (o_ (due4_eq a.bank) (o_ (due4_eq b.bank) (o_ (runs5_eq a.bank) (o_ (runs5_eq b.bank) (o_ (due5_eq a.bank) (o_ (due5_eq b.bank) (o_ (runs6_eq a.bank) (o_ (runs6_eq b.bank) (o_ (due6_eq a.bank) (o_ (due6_eq b.bank) (o_ (runs7_eq a.bank) (o_ (runs7_eq b.bank) (o_ (due7_eq a.bank) (o_ (due7_eq b.bank) (o_ hb6 (o_ hb7 (o_ hb8 (o_ hb9 o0))))))))))))))))))))))))))))))))))))))))))))) ?_ rfl; kernel_rfl
                  · refine on0 400 (.lit :: runs0_c (runs0 a.bank) :: .heap :: runs0_c (runs0 b.bank) :: .heap :: gds 4 18 false (due0_c (due0 a.bank) :: .heap :: gds 4 18 false (due0_c (due0 b.bank) :: .br false :: .lit :: runs1_c (runs1 a.bank) :: .heap :: runs1_c (runs1 b.bank) :: .heap :: gds 4 18 false (due1_c (due1 a.bank) :: .heap :: gds 4 18 false (due1_c (due1 b.bank) :: .br false :: .lit :: runs2_c (runs2 a.bank) :: .heap :: runs2_c (runs2 b.bank) :: .heap :: gds 4 18 false (due2_c (due2 a.bank) :: .heap :: gds 4 18 false (due2_c (due2 b.bank) :: .br false :: .lit :: .callL (.bool false) [] :: .heap :: .callL (.bool false) [] :: .heap :: .callL (.int .i64 (-1)) [] :: .heap :: .callL (.int .i64 (-1)) [] :: .lit :: .lit :: .callL (.bool false) [] :: .heap :: .callL (.bool false) [] :: .heap :: .callL (.int .i64 (-1)) [] :: .heap :: .callL (.int .i64 (-1)) [] :: .lit :: .lit :: .callL (.bool false) [] :: .heap :: .callL (.bool false) [] :: .heap :: .callL (.int .i64 (-1)) [] :: .heap :: .callL (.int .i64 (-1)) [] :: .lit :: .lit :: .callL (.bool false) [] :: .heap :: .callL (.bool false) [] :: .heap :: .callL (.int .i64 (-1)) [] :: .heap :: .callL (.int .i64 (-1)) [] :: .lit :: .lit :: .callL (.bool false) [] :: .heap :: .callL (.bool false) [] :: .heap :: .callL (.int .i64 (-1)) [] :: .heap :: .callL (.int .i64 (-1)) [] :: .lit :: .lit :: .gd 35 true :: .gd 42 true :: [.gd 49 false]))))))) (o_ (runs0_eq a.bank) (o_ (runs0_eq b.bank) (oN 4 hb0 (o_ (due0_eq a.bank) (oN 4 hb0 (o_ (due0_eq b.bank) (o_ hb1 (o_ (runs1_eq a.bank) (o_ (runs1_eq b.bank) (oN 4 hb2 (o_ (due1_eq a.bank) (oN 4 hb2 (o_ (due1_eq b.bank) (o_ hb3 (o_ (runs2_eq a.bank) (o_ (runs2_eq b.bank) (oN 4 hb4 (o_ (due2_eq a.bank) (oN 4 hb4 (o_ (due2_eq b.bank) (o_ hb5 (o_ (runs3_eq a.bank) (o_ (runs3_eq b.bank) (o_ (due3_eq a.bank) (o_ (due3_eq b.bank) (o_ (runs4_eq a.bank) (o_ (runs4_eq b.bank) (o_ (due4_eq a.bank) (o_ (due4_eq b.bank) (o_ (runs5_eq a.bank) (o_ (runs5_eq b.bank) (o_ (due5_eq a.bank) (o_ (due5_eq b.bank) (o_ (runs6_eq a.bank) (o_ (runs6_eq b.bank) (o_ (due6_eq a.bank) (o_ (due6_eq b.bank) (o_ (runs7_eq a.bank) (o_ (runs7_eq b.bank) (o_ (due7_eq a.bank) (o_ (due7_eq b.bank) (o_ hb6 (o_ hb7 (o_ hb8 o0)))))))))))))))))))))))))))))))))))))))))))) ?_ rfl; kernel_rfl
                · refine on0 400 (.lit :: runs0_c (runs0 a.bank) :: .heap :: runs0_c (runs0 b.bank) :: .heap :: gds 4 18 false (due0_c (due0 a.bank) :: .heap :: gds 4 18 false (due0_c (due0 b.bank) :: .br false :: .lit :: runs1_c (runs1 a.bank) :: .heap :: runs1_c (runs1 b.bank) :: .heap :: gds 4 18 false (due1_c (due1 a.bank) :: .heap :: gds 4 18 false (due1_c (due1 b.bank) :: .br false :: .lit :: runs2_c (runs2 a.bank) :: .heap :: runs2_c (runs2 b.bank) :: .heap :: gds 4 18 false (due2_c (due2 a.bank) :: .heap :: gds 4 18 false (due2_c (due2 b.bank) :: .br false :: .lit :: .callL (.bool false) [] :: .heap :: .callL (.bool false) [] :: .heap :: .callL (.int .i64 (-1)) [] :: .heap :: .callL (.int .i64 (-1)) [] :: .lit :: .lit :: .callL (.bool false) [] :: .heap :: .callL (.bool false) [] :: .heap :: .callL (.int .i64 (-1)) [] :: .heap :: .callL (.int .i64 (-1)) [] :: .lit :: .lit :: .callL (.bool false) [] :: .heap :: .callL (.bool false) [] :: .heap :: .callL (.int .i64 (-1)) [] :: .heap :: .callL (.int .i64 (-1)) [] :: .lit :: .lit :: .callL (.bool false) [] :: .heap :: .callL (.bool false) [] :: .heap :: .callL (.int .i64 (-1)) [] :: .heap :: .callL (.int .i64 (-1)) [] :: .lit :: .lit :: .callL (.bool false) [] :: .heap :: .callL (.bool false) [] :: .heap :: .callL (.int .i64 (-1)) [] :: .heap :: .callL (.int .i64 (-1)) [] :: .lit :: .lit :: .gd 35 true :: [.gd 42 false]))))))) (o_ (runs0_eq a.bank) (o_ (runs0_eq b.bank) (oN 4 hb0 (o_ (due0_eq a.bank) (oN 4 hb0 (o_ (due0_eq b.bank) (o_ hb1 (o_ (runs1_eq a.bank) (o_ (runs1_eq b.bank) (oN 4 hb2 (o_ (due1_eq a.bank) (oN 4 hb2 (o_ (due1_eq b.bank) (o_ hb3 (o_ (runs2_eq a.bank) (o_ (runs2_eq b.bank) (oN 4 hb4 (o_ (due2_eq a.bank) (oN 4 hb4 (o_ (due2_eq b.bank) (o_ hb5 (o_ (runs3_eq a.bank) (o_ (runs3_eq b.bank) (o_ (due3_eq a.bank) (o_ (due3_eq b.bank) (o_ (runs4_eq a.bank) (o_ (runs4_eq b.bank) (o_ (due4_eq a.bank) (o_ (due4_eq b.bank) (o_ (runs5_eq a.bank) (o_ (runs5_eq b.bank) (o_ (due5_eq a.bank) (o_ (due5_eq b.bank) (o_ (runs6_eq a.bank) (o_ (runs6_eq b.bank) (o_ (due6_eq a.bank) (o_ (due6_eq b.bank) (o_ (runs7_eq a.bank) (o_ (runs7_eq b.bank) (o_ (due7_eq a.bank) (o_ (due7_eq b.bank) (o_ hb6 (o_ hb7 o0))))))))))))))))))))))))))))))))))))))))))) ?_ rfl; kernel_rfl
              · refine on0 400 (.lit :: runs0_c (runs0 a.bank) :: .heap :: runs0_c (runs0 b.bank) :: .heap :: gds 4 18 false (due0_c (due0 a.bank) :: .heap :: gds 4 18 false (due0_c (due0 b.bank) :: .br false :: .lit :: runs1_c (runs1 a.bank) :: .heap :: runs1_c (runs1 b.bank) :: .heap :: gds 4 18 false (due1_c (due1 a.bank) :: .heap :: gds 4 18 false (due1_c (due1 b.bank) :: .br false :: .lit :: runs2_c (runs2 a.bank) :: .heap :: runs2_c (runs2 b.bank) :: .heap :: gds 4 18 false (due2_c (due2 a.bank) :: .heap :: gds 4 18 false (due2_c (due2 b.bank) :: .br false :: .lit :: .callL (.bool false) [] :: .heap :: .callL (.bool false) [] :: .heap :: .callL (.int .i64 (-1)) [] :: .heap :: .callL (.int .i64 (-1)) [] :: .lit :: .lit :: .callL (.bool false) [] :: .heap :: .callL (.bool false) [] :: .heap :: .callL (.int .i64 (-1)) [] :: .heap :: .callL (.int .i64 (-1)) [] :: .lit :: .lit :: .callL (.bool false) [] :: .heap :: .callL (.bool false) [] :: .heap :: .callL (.int .i64 (-1)) [] :: .heap :: .callL (.int .i64 (-1)) [] :: .lit :: .lit :: .callL (.bool false) [] :: .heap :: .callL (.bool false) [] :: .heap :: .callL (.int .i64 (-1)) [] :: .heap :: .callL (.int .i64 (-1)) [] :: .lit :: .lit :: .callL (.bool false) [] :: .heap :: .callL (.bool false) [] :: .heap :: .callL (.int .i64 (-1)) [] :: .heap :: .callL (.int .i64 (-1)) [] :: .lit :: .lit :: [.gd 35 false]))))))) (o_ (runs0_eq a.bank) (o_ (runs0_eq b.bank) (oN 4 hb0 (o_ (due0_eq a.bank) (oN 4 hb0 (o_ (due0_eq b.bank) (o_ hb1 (o_ (runs1_eq a.bank) (o_ (runs1_eq b.bank) (oN 4 hb2 (o_ (due1_eq a.bank) (oN 4 hb2 (o_ (due1_eq b.bank) (o_ hb3 (o_ (runs2_eq a.bank) (o_ (runs2_eq b.bank) (oN 4 hb4 (o_ (due2_eq a.bank) (oN 4 hb4 (o_ (due2_eq b.bank) (o_ hb5 (o_ (runs3_eq a.bank) (o_ (runs3_eq b.bank) (o_ (due3_eq a.bank) (o_ (due3_eq b.bank) (o_ (runs4_eq a.bank) (o_ (runs4_eq b.bank) (o_ (due4_eq a.bank) (o_ (due4_eq b.bank) (o_ (runs5_eq a.bank) (o_ (runs5_eq b.bank) (o_ (due5_eq a.bank) (o_ (due5_eq b.bank) (o_ (runs6_eq a.bank) (o_ (runs6_eq b.bank) (o_ (due6_eq a.bank) (o_ (due6_eq b.bank) (o_ (runs7_eq a.bank) (o_ (runs7_eq b.bank) (o_ (due7_eq a.bank) (o_ (due7_eq b.bank) (o_ hb6 o0)))))))))))))))))))))))))))))))))))))))))) ?_ rfl; kernel_rfl

end Go.Proofs.E17

namespace Go.Proofs.E17
open Go Go.AX Go.Proofs
set_option maxRecDepth 1000000
set_option linter.unusedVariables false
set_option linter.unusedSimpArgs false

def tickL_x0 (now : Int) (n : Nd) (emp : Bool) : Nd × Bool × Bool := ask8 { n with bank := (timerPop n.bank now).2.1 } now 0 0
def tickL_x1 (now : Int) (n : Nd) (emp : Bool) : Nd × Bool × Bool := ask10 { n with bank := (timerPop n.bank now).2.1 } now 0 0
noncomputable def tickL_at (now : Int) (s : Nd × Bool) : Tm × AHeap := ((Tm.told 58 [(1, .int .i64 now), (2, .pointer (some ⟨0, 0, none⟩)), (4, .pointer (some ⟨1, 0, none⟩)), (7, .bool s.2)]), [.cells (Nd.enc s.1) 44 37, .cells [.int .u64 0, .int .i64 0, .int .i64 0, .bool false, .int .i64 0, .int .i64 0, .int .i64 0, .int .i64 0, .bool false, .bool false, .bool false, .bool false, .int .i64 0, .int .i64 0, .int .i64 0, .int .i64 0, .int .i64 0, .int .i64 0, .int .i64 0, .int .i64 0, .int .i64 0, .bool false, .bool false, .int .u64 0, .bool false, .bool false, .int .u64 0, .int .u8 0, .bool false, .bool false, .bool false, .int .u64 0, .int .i64 0, .int .i64 0, .int .i64 0, .bool false, .int .i64 0] 44 37])
noncomputable def tickL_out (now : Int) (s : Nd × Bool) : Tm × AHeap := ((Tm.told 58 [(1, .int .i64 now), (2, .pointer (some ⟨0, 0, none⟩)), (4, .pointer (some ⟨1, 0, none⟩)), (7, .bool s.2)]), [.cells (Nd.enc s.1) 44 37, .cells [.int .u64 0, .int .i64 0, .int .i64 0, .bool false, .int .i64 0, .int .i64 0, .int .i64 0, .int .i64 0, .bool false, .bool false, .bool false, .bool false, .int .i64 0, .int .i64 0, .int .i64 0, .int .i64 0, .int .i64 0, .int .i64 0, .int .i64 0, .int .i64 0, .int .i64 0, .bool false, .bool false, .int .u64 0, .bool false, .bool false, .int .u64 0, .int .u8 0, .bool false, .bool false, .bool false, .int .u64 0, .int .i64 0, .int .i64 0, .int .i64 0, .bool false, .int .i64 0] 44 37])
def tickL_s (now : Int) (n : Nd) (emp : Bool) : Bool × Nd × Bool :=
  bif !((timerPop n.bank now).2.2) then
    (false, n, emp)
  else
    bif ((timerPop n.bank now).1) == 1 then
      bif (tickL_x0 now n emp).2.1 then
        (true, ((tickL_x0 now n emp).1), true)
      else
        (true, ((tickL_x0 now n emp).1), emp)
    else
      bif ((timerPop n.bank now).1) == 2 then
        bif (tickL_x1 now n emp).2.1 then
          (true, ((tickL_x1 now n emp).1), true)
        else
          (true, ((tickL_x1 now n emp).1), emp)
      else
        (true, { n with bank := (timerPop n.bank now).2.1 }, emp)
def tickL (now : Int) (s : Nd × Bool) : Bool × Nd × Bool := tickL_s now s.1 s.2
def tickL_G (now : Int) (n : Nd) (emp : Bool) (r : Bool × Nd × Bool) : Prop := AComes Tryz.prog 0 (roundAt Tryz.prog 9 0) (tickL_at now (n, emp)).1 (tickL_at now (n, emp)).2 (bif r.1 then .normal else .exit 0) (bif r.1 then tickL_at now r.2 else tickL_out now r.2).1 (bif r.1 then tickL_at now r.2 else tickL_out now r.2).2
theorem tickL_round (now : Int) (n : Nd) (emp : Bool) (hr : n.role ≠ 0 → n.rpl = 0 ∨ n.rpl = 1) : tickL_G now n emp (tickL_s now n emp) := by
  unfold tickL_s
  apply bi <;> intro hb0
  · refine codeL 400 [0, 1] [] [1, 2, 4, 7] [timerPop_c (timerPop n.bank now), .br true] (o_ (timerPop_eq n.bank now) (o_ hb0 o0)) ?_; kernel_rfl
  · apply bi <;> intro hb1
    · apply bi <;> intro hb2
      · refine codeL 400 [0, 1] [] [1, 2, 4, 7] [timerPop_c (timerPop n.bank now), .br false, .br true, .inl, .lit, ask8_c 0 (tickL_x0 now n emp), .gd 43 true] (o_ (timerPop_eq n.bank now) (o_ hb0 (o_ hb1 (o_ (ask8_eq { n with bank := (timerPop n.bank now).2.1 } now 0 0 (by first | omega | (simp only [zor, zand, zorf, zandf, znt, znf, zeq, zne, zeqf, znef, zd, zdf] at *; omega)) 0) (o_ hb2 o0))))) ?_; kernel_rfl
      · refine codeL 400 [0, 1] [] [1, 2, 4, 7] [timerPop_c (timerPop n.bank now), .br false, .br true, .inl, .lit, ask8_c 0 (tickL_x0 now n emp), .gd 43 false] (o_ (timerPop_eq n.bank now) (o_ hb0 (o_ hb1 (o_ (ask8_eq { n with bank := (timerPop n.bank now).2.1 } now 0 0 (by first | omega | (simp only [zor, zand, zorf, zandf, znt, znf, zeq, zne, zeqf, znef, zd, zdf] at *; omega)) 0) (o_ hb2 o0))))) ?_; kernel_rfl
    · apply bi <;> intro hb2
      · apply bi <;> intro hb3
        · refine codeL 400 [0, 1] [] [1, 2, 4, 7] [timerPop_c (timerPop n.bank now), .br false, .br false, .br true, .inl, .lit, ask10_c 0 (tickL_x1 now n emp), .gd 43 true] (o_ (timerPop_eq n.bank now) (o_ hb0 (o_ hb1 (o_ hb2 (o_ (ask10_eq { n with bank := (timerPop n.bank now).2.1 } now 0 0 (by first | omega | (simp only [zor, zand, zorf, zandf, znt, znf, zeq, zne, zeqf, znef, zd, zdf] at *; omega)) 0) (o_ hb3 o0)))))) ?_; kernel_rfl
        · refine codeL 400 [0, 1] [] [1, 2, 4, 7] [timerPop_c (timerPop n.bank now), .br false, .br false, .br true, .inl, .lit, ask10_c 0 (tickL_x1 now n emp), .gd 43 false] (o_ (timerPop_eq n.bank now) (o_ hb0 (o_ hb1 (o_ hb2 (o_ (ask10_eq { n with bank := (timerPop n.bank now).2.1 } now 0 0 (by first | omega | (simp only [zor, zand, zorf, zandf, znt, znf, zeq, zne, zeqf, znef, zd, zdf] at *; omega)) 0) (o_ hb3 o0)))))) ?_; kernel_rfl
      · refine codeL 400 [0, 1] [] [1, 2, 4, 7] [timerPop_c (timerPop n.bank now), .br false, .br false, .br false, .inl, .lit] (o_ (timerPop_eq n.bank now) (o_ hb0 (o_ hb1 (o_ hb2 o0)))) ?_; kernel_rfl
theorem tickL_loop (now : Int) (μ : Nd × Bool → Nat) (I : Nd × Bool → Prop) (hI0 : ∀ s, I s → (fun s : Nd × Bool => s.1.role ≠ 0 → s.1.rpl = 0 ∨ s.1.rpl = 1) s) (hI : ∀ s, I s → (tickL now s).1 = true → I (tickL now s).2) (hμ : ∀ s, I s → (tickL now s).1 = true → μ (tickL now s).2 < μ s) (N : Nat) (s : Nd × Bool) (hs : I s) (hN : μ s ≤ N) : AComes Tryz.prog 0 (loopAt Tryz.prog 9 0) (tickL_at now s).1 (tickL_at now s).2 (.exit 0) (tickL_out now (stepsN (tickL now) N s)).1 (tickL_out now (stepsN (tickL now) N s)).2 := by
  have e : loopAt Tryz.prog 9 0 = .loop (roundAt Tryz.prog 9 0) := by kernel_rfl
  rw [e]
  exact loopStepI (by simp) (tickL now) μ (tickL_at now) (tickL_out now) I hI hμ (fun s hs0 => by have hs := hI0 s hs0; exact tickL_round now s.1 s.2 hs) N s hs hN

end Go.Proofs.E17

namespace Go.Proofs.E17
open Go Go.AX Go.Proofs
set_option linter.unusedVariables false
set_option linter.unusedSimpArgs false
def cnt (b : Bk) : Nat := (if b.g > 0 then 1 else 0) + ((if b.r > 0 then 1 else 0) + (if b.w > 0 then 1 else 0))
theorem cnt_le (b : Bk) : cnt b ≤ 3 := by unfold cnt; split <;> split <;> split <;> decide

theorem take_bank (n : Nd) (now port : Int) (m : Msg) (bad : Bool) : (take n now port m bad).1.bank = n.bank := by
  unfold take
  cases port == 0 <;> cases bad <;> rfl
def Less (b c : Bk) : Prop := (c.g = b.g ∨ c.g = 0) ∧ (c.r = b.r ∨ c.r = 0) ∧ (c.w = b.w ∨ c.w = 0)
theorem Less.cnt {b c : Bk} (h : Less b c) : cnt c ≤ cnt b := by
  obtain ⟨h1, h2, h3⟩ := h
  unfold E17.cnt
  rcases h1 with h1 | h1 <;> rcases h2 with h2 | h2 <;> rcases h3 with h3 | h3 <;> rw [h1, h2, h3] <;> (repeat' split) <;> omega

theorem ask8_less (n : Nd) (now port fro : Int) : Less n.bank (ask8 n now port fro).1.bank := by
  let G : Nd × Bool × Bool → Prop := fun r => Less n.bank r.1.bank
  show G (ask8 n now port fro)
  unfold ask8 ask8_x0
  repeat' (first | (refine byIte (fun _ => ?_) (fun _ => ?_)) | exact ⟨.inl rfl, .inl rfl, .inl rfl⟩ | (show Less _ (Bk.mk _ _ _); rw [take_bank]; exact ⟨.inl rfl, .inr rfl, .inr rfl⟩))
theorem ask10_less (n : Nd) (now port fro : Int) : Less n.bank (ask10 n now port fro).1.bank := by
  let G : Nd × Bool × Bool → Prop := fun r => Less n.bank r.1.bank
  show G (ask10 n now port fro)
  unfold ask10 ask10_x0
  repeat' (first | (refine byIte (fun _ => ?_) (fun _ => ?_)) | exact ⟨.inl rfl, .inl rfl, .inl rfl⟩ | (show Less _ (Bk.mk _ _ _); rw [take_bank]; exact ⟨.inl rfl, .inr rfl, .inr rfl⟩))

theorem cnt_g (b : Bk) (h : b.g > 0) : cnt { b with g := 0 } < cnt b := by unfold cnt; simp only [h, if_true]; (repeat' split) <;> omega
theorem cnt_r (b : Bk) (h : b.r > 0) : cnt { b with r := 0 } < cnt b := by unfold cnt; simp only [h, if_true]; (repeat' split) <;> omega
theorem cnt_w (b : Bk) (h : b.w > 0) : cnt { b with w := 0 } < cnt b := by unfold cnt; simp only [h, if_true]; (repeat' split) <;> omega

def PopG (b : Bk) (r : Int × Bk × Bool) : Prop := r.2.2 = true → cnt r.2.1 < cnt b
theorem pop_cnt (b : Bk) (now : Int) : PopG b (timerPop b now) := by
  unfold timerPop
  repeat' (first | (refine byIte (fun _ => ?_) (fun _ => ?_)) | exact fun h => Bool.noConfusion h | (simp only [zd, zdf, zand] at *; first | exact fun _ => cnt_w b (by omega) | exact fun _ => cnt_r b (by omega) | exact fun _ => cnt_g b (by omega)))

def TickG (n : Nd) (r : Bool × Nd × Bool) : Prop := r.1 = true → cnt r.2.1.bank < cnt n.bank
theorem tick_mu (now : Int) (s : Nd × Bool) : TickG s.1 (tickL now s) := by
  obtain ⟨n, emp⟩ := s
  unfold tickL tickL_s tickL_x0 tickL_x1
  refine byIte (fun _ h => Bool.noConfusion h) (fun hb => ?_)
  have hp : (timerPop n.bank now).2.2 = true := by simpa using hb
  have hc := pop_cnt n.bank now hp
  have h8 : cnt (ask8 { n with bank := (timerPop n.bank now).2.1 } now 0 0).1.bank < cnt n.bank := Nat.lt_of_le_of_lt (ask8_less { n with bank := (timerPop n.bank now).2.1 } now 0 0).cnt hc
  have h10 : cnt (ask10 { n with bank := (timerPop n.bank now).2.1 } now 0 0).1.bank < cnt n.bank := Nat.lt_of_le_of_lt (ask10_less { n with bank := (timerPop n.bank now).2.1 } now 0 0).cnt hc
  refine byIte (fun _ => byIte (fun _ _ => h8) (fun _ _ => h8)) (fun _ => byIte (fun _ => byIte (fun _ _ => h10) (fun _ _ => h10)) (fun _ _ => hc))

theorem tickL_same (now : Int) (s : Nd × Bool) : Same s.1 (tickL now s).2.1 := by
  obtain ⟨n, emp⟩ := s
  let G : Bool × Nd × Bool → Prop := fun r => Same n r.2.1
  show G (tickL now (n, emp))
  unfold tickL tickL_s tickL_x0 tickL_x1
  repeat' (first | (refine byIte (fun _ => ?_) (fun _ => ?_)) | exact Same.refl n | exact ask8_same { n with bank := (timerPop n.bank now).2.1 } _ _ _ | exact ask10_same { n with bank := (timerPop n.bank now).2.1 } _ _ _)

theorem tickN_same (now : Int) : ∀ (N : Nat) (s : Nd × Bool), Same s.1 (stepsN (tickL now) N s).1
  | 0, s => tickL_same now s
  | N + 1, s => by
    unfold stepsN
    exact byIte (G := fun r : Nd × Bool => Same s.1 r.1) (fun _ => (tickL_same now s).trans (tickN_same now N _)) (fun _ => tickL_same now s)

theorem tickL_all (now : Int) (n : Nd) (emp : Bool) (hr : RoleOk n) : AComes Tryz.prog 0 (loopAt Tryz.prog 9 0) (tickL_at now (n, emp)).1 (tickL_at now (n, emp)).2 (.exit 0) (tickL_out now (stepsN (tickL now) 3 (n, emp))).1 (tickL_out now (stepsN (tickL now) 3 (n, emp))).2 :=
  tickL_loop now (fun s => cnt s.1.bank) (fun s => RoleOk s.1) (fun s h => h) (fun s h _ => (tickL_same now s).roleOk h) (fun s _ => tick_mu now s) 3 (n, emp) hr (cnt_le _)
end Go.Proofs.E17

namespace Go.Proofs.E17
open Go Go.AX Go.Proofs
set_option maxRecDepth 1000000
set_option linter.unusedVariables false
set_option linter.unusedSimpArgs false

def tick_x0 (n : Nd) (now : Int) : Burst × Bool := burstTick (((stepsN (tickL now) 3 (n, false)).1).burst) now
def tick (n : Nd) (now : Int) : Nd × Bool × Bool :=
  ({ ((stepsN (tickL now) 3 (n, false)).1) with burst := (tick_x0 n now).1 }, (tick_x0 n now).2, (stepsN (tickL now) 3 (n, false)).2)
def tick_c (r : Nd × Bool × Bool) : Dir := .callL (.tuple ⟨[.agg ⟨Nd.enc r.1⟩, .bool r.2.1, .bool r.2.2]⟩) []
def tick_G (n : Nd) (now : Int) (r : Nd × Bool × Bool) : Prop := AOn Tryz.prog 9 [.agg ⟨Nd.enc n⟩, .int .i64 now] [] (.tuple ⟨[.agg ⟨Nd.enc r.1⟩, .bool r.2.1, .bool r.2.2]⟩) []
theorem tick_eq (n : Nd) (now : Int) (hr : n.role ≠ 0 → n.rpl = 0 ∨ n.rpl = 1) : tick_G n now (tick n now) := by
  unfold tick
  refine on0 400 [.codeG [0, 1] [] [1, 2, 4, 7] (.exit 0) (tickL_out now (stepsN (tickL now) 3 (n, false))).1 (tickL_out now (stepsN (tickL now) 3 (n, false))).2, burstTick_c (tick_x0 n now)] (o_ (tickL_all now n false hr) (o_ (burstTick_eq (((stepsN (tickL now) 3 (n, false)).1).burst) now) o0)) ?_ rfl; kernel_rfl

theorem tick_same (n : Nd) (now : Int) : Same n (tick n now).1 := tickN_same now 3 (n, false)

end Go.Proofs.E17

namespace Go.Proofs.Field
open Go Go.AX
set_option linter.unusedVariables false
set_option linter.unusedSimpArgs false
def be (V k : Nat) : List Int := (List.range k).map fun j => ((V / 256 ^ (k - 1 - j) % 256 : Nat) : Int)
theorem be_length (V k : Nat) : (be V k).length = k := by simp [be]
theorem be_snoc (V x k : Nat) (hx : x < 256) : be (V * 256 + x) (k + 1) = be V k ++ [(x : Int)] := by
  unfold be
  rw [List.range_succ, List.map_append]
  congr 1
  · apply List.map_congr_left
    intro j hj
    have hj := List.mem_range.1 hj
    have e : k + 1 - 1 - j = (k - 1 - j) + 1 := by omega
    rw [e, Nat.pow_succ, Nat.mul_comm (256 ^ _) 256, ← Nat.div_div_eq_div_mul]
    have : (V * 256 + x) / 256 = V := by omega
    rw [this]
  · simp only [List.map_cons, List.map_nil, List.cons.injEq, and_true]
    have e : k + 1 - 1 - k = 0 := by omega
    rw [e, Nat.pow_zero, Nat.div_one]
    have : (V * 256 + x) % 256 = x := by omega
    rw [this]
def wb (V n : Nat) : List Int := be (V * 2 ^ ((8 - n % 8) % 8)) ((n + 7) / 8)
theorem wb_length (V n : Nat) : (wb V n).length = (n + 7) / 8 := be_length _ _

theorem wb_new (V n b : Nat) (hb : b ≤ 1) (hn : n % 8 = 0) : wb (2 * V + b) (n + 1) = wb V n ++ [((b * 128 : Nat) : Int)] := by
  unfold wb
  have e1 : (8 - n % 8) % 8 = 0 := by omega
  have e2 : (8 - (n + 1) % 8) % 8 = 7 := by omega
  have e3 : (n + 1 + 7) / 8 = (n + 7) / 8 + 1 := by omega
  rw [e1, e2, e3, ← be_snoc _ _ _ (by omega)]
  congr 1
  omega
def lastB (V n : Nat) : Nat := V * 2 ^ (8 - n % 8) % 256
theorem wb_last (V n : Nat) (hn : n % 8 ≠ 0) : wb V n = be (V * 2 ^ (8 - n % 8) / 256) (n / 8) ++ [(lastB V n : Int)] := by
  unfold wb lastB
  have e1 : (8 - n % 8) % 8 = 8 - n % 8 := by omega
  have e3 : (n + 7) / 8 = n / 8 + 1 := by omega
  rw [e1, e3, ← be_snoc _ _ _ (Nat.mod_lt _ (by omega))]
  congr 1
  omega

theorem pow_split (n : Nat) (hn : n % 8 ≠ 0) : 2 ^ (8 - n % 8) = 2 * 2 ^ (7 - n % 8) := by
  rw [← Nat.pow_succ']; congr 1; omega

theorem lastB_dvd (V n : Nat) (hn : n % 8 ≠ 0) : lastB V n = (V % 2 ^ (n % 8)) * 2 ^ (8 - n % 8) := by
  unfold lastB
  have e : 256 = 2 ^ (n % 8) * 2 ^ (8 - n % 8) := by
    rw [← Nat.pow_add]
    have : n % 8 + (8 - n % 8) = 8 := by omega
    rw [this]
  rw [e, Nat.mul_mod_mul_right]

theorem lastB_room (V n b : Nat) (hb : b ≤ 1) (hn : n % 8 ≠ 0) : lastB V n + b * 2 ^ (7 - n % 8) < 256 := by
  rw [lastB_dvd V n hn, pow_split n hn]
  have h1 : V % 2 ^ (n % 8) < 2 ^ (n % 8) := Nat.mod_lt _ (Nat.two_pow_pos _)
  have e : 2 ^ (n % 8) * (2 * 2 ^ (7 - n % 8)) = 256 := by
    rw [← pow_split n hn, ← Nat.pow_add]
    have : n % 8 + (8 - n % 8) = 8 := by omega
    rw [this]
  have h2 : (V % 2 ^ (n % 8) + 1) * (2 * 2 ^ (7 - n % 8)) ≤ 2 ^ (n % 8) * (2 * 2 ^ (7 - n % 8)) := Nat.mul_le_mul_right _ h1
  rw [e, Nat.add_mul] at h2
  have h3 : b * 2 ^ (7 - n % 8) ≤ 1 * 2 ^ (7 - n % 8) := Nat.mul_le_mul_right _ hb
  have h4 : 0 < 2 ^ (7 - n % 8) := Nat.two_pow_pos _
  omega

theorem wb_more (V n b : Nat) (hb : b ≤ 1) (hn : n % 8 ≠ 0) : wb (2 * V + b) (n + 1) = be (V * 2 ^ (8 - n % 8) / 256) (n / 8) ++ [((lastB V n + b * 2 ^ (7 - n % 8) : Nat) : Int)] := by
  unfold wb
  have e2 : (8 - (n + 1) % 8) % 8 = 7 - n % 8 := by omega
  have e3 : (n + 1 + 7) / 8 = n / 8 + 1 := by omega
  rw [e2, e3, ← be_snoc _ _ _ (lastB_room V n b hb hn)]
  congr 1
  unfold lastB
  rw [Nat.add_mul, pow_split n hn]
  have := Nat.div_add_mod (V * (2 * 2 ^ (7 - n % 8))) 256
  have e4 : 2 * V * 2 ^ (7 - n % 8) = V * (2 * 2 ^ (7 - n % 8)) := by rw [Nat.mul_comm 2 V, Nat.mul_assoc]
  omega

/-! What the machine reckons. -/

theorem wrap_nat (k : IntKind) (n : Nat) (h : (n : Int) ≤ k.max) : k.wrap (n : Int) = n := wrap_in k (by cases k <;> simp [IntKind.min, IntKind.signed, IntKind.bits] <;> omega) h

theorem and_one (v : Nat) (h : v < 2 ^ 64) : ibits .and .u64 (v : Int) 1 = ((v % 2 : Nat) : Int) := by
  show IntKind.wrap .u64 ((BitVec.ofInt 64 (v : Int) &&& BitVec.ofInt 64 1).toNat : Int) = _
  have e : (BitVec.ofInt 64 (v : Int) &&& BitVec.ofInt 64 1).toNat = v % 2 := by
    rw [BitVec.toNat_and]
    have h1 : (BitVec.ofInt 64 (v : Int)).toNat = v := by
      rw [BitVec.ofInt_natCast, BitVec.toNat_ofNat, Nat.mod_eq_of_lt h]
    have h2 : (BitVec.ofInt 64 1).toNat = 1 := by decide
    rw [h1, h2, Nat.and_one_is_mod]
  rw [e]
  exact wrap_nat .u64 _ (show ((v % 2 : Nat) : Int) ≤ 18446744073709551615 by omega)

theorem shl_byte (b s : Nat) (hb : b ≤ 1) (hs : s ≤ 7) : ishl .u8 (b : Int) (s : Int) = ((b * 2 ^ s : Nat) : Int) := by
  unfold ishl
  have e : min (s : Int).toNat IntKind.u8.bits = s := by simp [IntKind.bits]; omega
  rw [e]
  have h1 : (b : Int) * 2 ^ s = ((b * 2 ^ s : Nat) : Int) := by simp
  rw [h1]
  refine wrap_nat .u8 _ ?_
  have h2 : b * 2 ^ s ≤ 1 * 2 ^ 7 := Nat.mul_le_mul hb (Nat.pow_le_pow_right (by omega) hs)
  show ((b * 2 ^ s : Nat) : Int) ≤ 255
  omega

theorem or_bytes (x y : Nat) (s a : Nat) (hx : x = a * 2 ^ s) (hy : y < 2 ^ s) (h : x + y < 256) : ibits .or .u8 (x : Int) (y : Int) = ((x + y : Nat) : Int) := by
  show IntKind.wrap .u8 ((BitVec.ofInt 8 (x : Int) ||| BitVec.ofInt 8 (y : Int)).toNat : Int) = _
  have e : (BitVec.ofInt 8 (x : Int) ||| BitVec.ofInt 8 (y : Int)).toNat = x + y := by
    rw [BitVec.toNat_or]
    have h1 : ∀ z : Nat, z < 256 → (BitVec.ofInt 8 (z : Int)).toNat = z := by
      intro z hz
      rw [BitVec.ofInt_natCast, BitVec.toNat_ofNat, Nat.mod_eq_of_lt hz]
    rw [h1 x (by omega), h1 y (by omega), hx, ← Nat.shiftLeft_eq, ← Nat.shiftLeft_add_eq_or_of_lt hy]
  rw [e]
  exact wrap_nat .u8 _ (show ((x + y : Nat) : Int) ≤ 255 by omega)

theorem shr_nat (x s : Nat) (hs : s ≤ 64) (k : IntKind) (hk : k.bits = 64) : ishr k (x : Int) (s : Int) = ((x / 2 ^ s : Nat) : Int) := by
  unfold ishr
  have e : min (s : Int).toNat k.bits = s := by rw [hk]; simp; omega
  rw [e]
  have h1 : ((2 : Int) ^ s) = ((2 ^ s : Nat) : Int) := by simp
  rw [h1, Int.fdiv_eq_ediv_of_nonneg _ (by exact Int.natCast_nonneg _)]
  rfl

theorem bits_step (x w i : Nat) (hi : i < w) : x / 2 ^ (w - (i + 1)) = 2 * (x / 2 ^ (w - i)) + x / 2 ^ (w - 1 - i) % 2 := by
  have e : w - i = (w - (i + 1)) + 1 := by omega
  have e2 : w - 1 - i = w - (i + 1) := by omega
  rw [e, e2, Nat.pow_succ, ← Nat.div_div_eq_div_mul]
  omega
end Go.Proofs.Field

namespace Go.Proofs.Field
open Go Go.AX Go.Proofs
set_option maxRecDepth 1000000
set_option linter.unusedVariables false
set_option linter.unusedSimpArgs false

def fieldMay (width : Int) : Bool :=
  bif decide (width ≥ 1) then
    decide (width ≤ 64)
  else
    false
def fieldMay_c (r : Bool) : Dir := .callL (.bool r) []
def fieldMay_G (width : Int) (r : Bool) : Prop := AOn Tryz.prog 102 [.int .i64 width] [] (.bool r) []
theorem fieldMay_eq (width : Int) : fieldMay_G width (fieldMay width) := by
  unfold fieldMay
  apply bi <;> intro hb0
  · refine on0 400 [.gd 5 true] (o_ hb0 o0) ?_ rfl; kernel_rfl
  · refine on0 400 [.gd 5 false] (o_ hb0 o0) ?_ rfl; kernel_rfl

end Go.Proofs.Field

namespace Go.Proofs.Field
open Go Go.AX Go.Proofs
set_option maxRecDepth 1000000
set_option linter.unusedVariables false
set_option linter.unusedSimpArgs false

def pv (L : List (Int × Int)) : List Value := (L.map fun p => [Value.int .i64 p.1, .int .u64 p.2]).flatten
def bv (B : List Int) : List Value := B.map (Value.int .u8)
def wslice (i : Nat) (B : List Int) : Value :=
  match B with
  | [] => .slice none 0 0
  | _ :: _ => .slice (some ⟨i, 0, none⟩) B.length UNK
def wrow (B : List Int) : AHeap :=
  match B with
  | [] => []
  | _ :: _ => [.row (bv B) 5 1]

noncomputable def inTs (len : Nat) (idx : Int) (W i : Nat) : Tm := Tm.told 61 [(4, .pointer (some ⟨1, 0, none⟩)), (6, .pointer (some ⟨2, 0, none⟩)), (10, .slice (some ⟨0, 0, none⟩) len UNR), (11, .int .i64 (len : Int)), (12, .int .i64 idx), (34, .int .i64 (W : Int)), (35, .int .i64 (i : Int))]
def inHp (L : List (Int × Int)) (B : List Int) (n W X : Nat) : AHeap := .ro (pv L) 2 :: .cells [wslice 3 B, .int .i64 (n : Int)] 183 2 :: .cells [.int .i64 (W : Int), .int .u64 (X : Int)] 136 2 :: wrow B

theorem iw {k : IntKind} {a : Int} {b : Nat} (h : a = b) (h0 : k.min ≤ (b : Int)) (h1 : (b : Int) ≤ k.max) : Value.int k (k.wrap a) = .int k (b : Int) := by
  rw [h, wrap_in k h0 h1]
theorem sub_nat {a b : Nat} (h : b ≤ a) : (a : Int) - (b : Int) = ((a - b : Nat) : Int) := by omega
theorem tmod8 (n : Nat) : Int.tmod (n : Int) 8 = ((n % 8 : Nat) : Int) := by rw [Int.tmod_eq_emod_of_nonneg (by omega)]; omega
theorem tdiv8 (n : Nat) : Int.tdiv (n : Int) 8 = ((n / 8 : Nat) : Int) := by rw [Int.tdiv_eq_ediv_of_nonneg (by omega)]; omega
theorem min64 : IntKind.i64.min = -9223372036854775808 := by decide
theorem max64 : IntKind.i64.max = 9223372036854775807 := by decide
theorem wi {a : Int} {b : Nat} (h : a = b) (h1 : b < 2 ^ 62) : Value.int .i64 (IntKind.wrap .i64 a) = .int .i64 (b : Int) :=
  iw h (by rw [min64]; omega) (by rw [max64]; omega)
theorem ptr_is {i a b : Nat} (h : a = b) : Value.pointer (some ⟨i, a, none⟩) = .pointer (some ⟨i, b, none⟩) := by rw [h]

theorem pv_bare (L : List (Int × Int)) : bareO (.ro (pv L) 2) = true := by
  show (pv L).all _ = true
  induction L with
  | nil => rfl
  | cons p L ih =>
    show (Value.int .i64 p.1 :: Value.int .u64 p.2 :: pv L).all _ = true
    simp only [List.all_cons, ih]; rfl
theorem bv_all (B : List Int) : (bv B).all (okIds fun _ => false) = true := by
  unfold bv; simp [okIds, okId2, okId1]
theorem row_bare (B : List Int) (e sz : Nat) : bareO (.row (bv B) e sz) = true := bv_all B
theorem row_set_bare (B : List Int) (k : Nat) (x : Int) (e sz : Nat) : bareO (.row (lset (bv B) k (.int .u8 x)) e sz) = true := by
  show (lset (bv B) k (.int .u8 x)).all _ = true
  have : lset (bv B) k (.int .u8 x) = bv (B.set k x) := by rw [lset_eq]; unfold bv; rw [List.map_set]
  rw [this]; exact bv_all _
theorem row_app_bare (B : List Int) (k : Nat) (x : Int) (e sz : Nat) : bareO (.row (lset (bv B ++ [Value.int .u8 0]) k (.int .u8 x)) e sz) = true := by
  have : bv B ++ [Value.int .u8 0] = bv (B ++ [0]) := by simp [bv]
  rw [this]; exact row_set_bare _ _ _ _ _

def bitOf (X W i : Nat) : Nat := X / 2 ^ (W - 1 - i) % 2
theorem bitOf_le (X W i : Nat) : bitOf X W i ≤ 1 := by unfold bitOf; omega

section
variable {L : List (Int × Int)} {idx : Int} {n W X i : Nat}
theorem round_first (hW : W ≤ 64) (hX : X < 2 ^ 64) (hi : i < W) :
    AComes Tryz.prog 1 (roundAt Tryz.prog 70 1) (inTs L.length idx W i) (inHp L [] 0 W X) .normal (inTs L.length idx W (i + 1)) (inHp L [((bitOf X W i * 128 : Nat) : Int)] 1 W X) := by
  have hx : X / 2 ^ (W - 1 - i) < 2 ^ 64 := Nat.lt_of_le_of_lt (Nat.div_le_self _ _) hX
  have hb := bitOf_le X W i
  refine codeL 400 [0, 1, 2, 4] [0] [4, 6, 10, 11, 12, 34, 35] [.br true, .is 43 (.int .i64 ((W - 1 : Nat) : Int)), .is 45 (.int .i64 ((W - 1 - i : Nat) : Int)), .owe 46, .is 46 (.int .u64 ((X / 2 ^ (W - 1 - i) : Nat) : Int)), .inl, .lit,
    .is 31 (.int .u64 ((bitOf X W i : Nat) : Int)), .is 32 (.int .u8 ((bitOf X W i : Nat) : Int)), .is 39 (.int .u8 ((bitOf X W i * 2 ^ 7 : Nat) : Int)), .is 40 (.int .u8 ((bitOf X W i * 128 : Nat) : Int)), .is 46 (.int .i64 ((1 : Nat) : Int)), .is 48 (.pointer (some ⟨1, 1, none⟩)), .is 48 (.int .i64 ((i + 1 : Nat) : Int))]
    (o_ (pv_bare L)
    (o_ (show decide ((i : Int) < (W : Int)) = true by rw [decide_eq_true_eq]; omega)
    (o_ (wi (show (W : Int) - 1 = ((W - 1 : Nat) : Int) by omega) (by omega))
    (o_ (wi (show ((W - 1 : Nat) : Int) - (i : Int) = ((W - 1 - i : Nat) : Int) by omega) (by omega))
    (o_ (bs1 (b0 := decide (0 ≤ ((W - 1 - i : Nat) : Int))) (by rw [decide_eq_true_eq]; omega))
    (o_ (iis .u64 (shr_nat X (W - 1 - i) (by omega) .u64 rfl))
    (o_ (iis .u64 (and_one _ hx))
    (o_ (iw (k := .u8) (rfl : ((bitOf X W i : Nat) : Int) = _) (show (0 : Int) ≤ _ by omega) (show _ ≤ (255 : Int) by omega))
    (o_ (iis .u8 (shl_byte _ 7 hb (by omega)))
    (o_ (iis .u8 (show ibits .or .u8 0 ((bitOf X W i * 2 ^ 7 : Nat) : Int) = ((bitOf X W i * 128 : Nat) : Int) by
      have := or_bytes 0 (bitOf X W i * 2 ^ 7) 8 0 (by omega) (by omega) (by omega)
      simpa using this))
    (o_ (wi (show ((0 : Nat) : Int) + 1 = ((1 : Nat) : Int) by rfl) (by omega))
    (o_ (rfl : Value.pointer (some ⟨1, 1, none⟩) = .pointer (some ⟨1, 1, none⟩))
    (o_ (wi (show (i : Int) + 1 = ((i + 1 : Nat) : Int) by omega) (by omega)) o0))))))))))))) ?_
  kernel_rfl
theorem round_new {b0 : Int} {B : List Int} (hW : W ≤ 64) (hX : X < 2 ^ 64) (hi : i < W) (hn : n % 8 = 0) (hl : (b0 :: B).length = n / 8) (hN : n < 2 ^ 40) :
    AComes Tryz.prog 1 (roundAt Tryz.prog 70 1) (inTs L.length idx W i) (inHp L (b0 :: B) n W X) .normal (inTs L.length idx W (i + 1)) (inHp L ((b0 :: B) ++ [((bitOf X W i * 128 : Nat) : Int)]) (n + 1) W X) := by
  have hx : X / 2 ^ (W - 1 - i) < 2 ^ 64 := Nat.lt_of_le_of_lt (Nat.div_le_self _ _) hX
  have hb := bitOf_le X W i
  have hbl : (bv (b0 :: B)).length = n / 8 := by simpa [bv] using hl
  have key : AComes Tryz.prog 1 (roundAt Tryz.prog 70 1) (inTs L.length idx W i) (inHp L (b0 :: B) n W X) .normal (inTs L.length idx W (i + 1))
      (.ro (pv L) 2 :: .cells [.slice (some ⟨3, 0, none⟩) ((b0 :: B).length + 1) UNK, .int .i64 ((n + 1 : Nat) : Int)] 183 2 :: .cells [.int .i64 (W : Int), .int .u64 (X : Int)] 136 2 :: [.row (lset (bv (b0 :: B) ++ [Value.int .u8 0]) (n / 8) (.int .u8 ((bitOf X W i * 128 : Nat) : Int))) 5 1]) := by
    refine codeL 400 [0, 1, 2, 5] [0, 5] [4, 6, 10, 11, 12, 34, 35] [.br true, .is 43 (.int .i64 ((W - 1 : Nat) : Int)), .is 45 (.int .i64 ((W - 1 - i : Nat) : Int)), .owe 46, .is 46 (.int .u64 ((X / 2 ^ (W - 1 - i) : Nat) : Int)), .inl, .is 8 (.int .i64 0), .lit, .owe 16,
      .is 27 (.int .i64 ((n / 8 : Nat) : Int)), .owe 28, .is 28 (.pointer (some ⟨5, n / 8, none⟩)), .hint 29 (.val (.int .u8 0)), .is 31 (.int .u64 ((bitOf X W i : Nat) : Int)), .is 32 (.int .u8 ((bitOf X W i : Nat) : Int)), .is 37 (.int .i64 0), .is 39 (.int .u8 ((bitOf X W i * 2 ^ 7 : Nat) : Int)), .is 40 (.int .u8 ((bitOf X W i * 128 : Nat) : Int)),
      .owe 41, .is 41 (.pointer (some ⟨5, n / 8, none⟩)), .owe 1000000, .is 46 (.int .i64 ((n + 1 : Nat) : Int)), .is 48 (.pointer (some ⟨1, 1, none⟩)), .is 48 (.int .i64 ((i + 1 : Nat) : Int))]
      (o_ (pv_bare L) (o_ (row_app_bare (b0 :: B) (n / 8) ((bitOf X W i * 128 : Nat) : Int) 5 1)
      (o_ (show decide ((i : Int) < (W : Int)) = true by rw [decide_eq_true_eq]; omega)
      (o_ (wi (show (W : Int) - 1 = ((W - 1 : Nat) : Int) by omega) (by omega))
      (o_ (wi (show ((W - 1 : Nat) : Int) - (i : Int) = ((W - 1 - i : Nat) : Int) by omega) (by omega))
      (o_ (bs1 (b0 := decide (0 ≤ ((W - 1 - i : Nat) : Int))) (by rw [decide_eq_true_eq]; omega))
      (o_ (iis .u64 (shr_nat X (W - 1 - i) (by omega) .u64 rfl))
      (o_ (iis .i64 (show Int.tmod (n : Int) 8 = 0 by rw [tmod8, hn]; rfl))
      (o_ (bs2 (b0 := decide (roomFor ((b0 :: B).length + 1) 1)) (b1 := decide ((bv (b0 :: B)).length = (b0 :: B).length * 1)) (by rw [decide_eq_true_eq]; unfold roomFor; omega) (by rw [decide_eq_true_eq]; omega))
      (o_ (wi (tdiv8 n) (by omega))
      (o_ (bs1 (b0 := decide (0 ≤ ((n / 8 : Nat) : Int) ∧ ((n / 8 : Nat) : Int) < (((b0 :: B).length + 1 : Nat) : Int))) (by rw [decide_eq_true_eq]; omega))
      (o_ (ptr_is (i := 5) (show 0 + ((n / 8 : Nat) : Int).toNat * 1 = n / 8 by omega))
      (o_ (show (bv (b0 :: B) ++ [Value.int .u8 0])[n / 8]? = some (.int .u8 0) by rw [← hbl]; simp)
      (o_ (iis .u64 (and_one _ hx))
      (o_ (iw (k := .u8) (rfl : ((bitOf X W i : Nat) : Int) = _) (show (0 : Int) ≤ _ by omega) (show _ ≤ (255 : Int) by omega))
      (o_ (iis .i64 (show Int.tmod (n : Int) 8 = 0 by rw [tmod8, hn]; rfl))
      (o_ (iis .u8 (shl_byte _ 7 hb (by omega)))
      (o_ (iis .u8 (show ibits .or .u8 0 ((bitOf X W i * 2 ^ 7 : Nat) : Int) = ((bitOf X W i * 128 : Nat) : Int) by
        have := or_bytes 0 (bitOf X W i * 2 ^ 7) 8 0 (by omega) (by omega) (by omega)
        simpa using this))
      (o_ (bs1 (b0 := decide (0 ≤ ((n / 8 : Nat) : Int) ∧ ((n / 8 : Nat) : Int) < (((b0 :: B).length + 1 : Nat) : Int))) (by rw [decide_eq_true_eq]; omega))
      (o_ (ptr_is (i := 5) (show 0 + ((n / 8 : Nat) : Int).toNat * 1 = n / 8 by omega))
      (o_ (bs2 (b0 := decide (n / 8 + 1 ≤ (bv (b0 :: B) ++ [Value.int .u8 0]).length)) (b1 := decide (0 < (bv (b0 :: B) ++ [Value.int .u8 0]).length)) (by rw [decide_eq_true_eq, List.length_append, hbl]; simp) (by rw [decide_eq_true_eq, List.length_append]; simp))
      (o_ (wi (show (n : Int) + 1 = ((n + 1 : Nat) : Int) by omega) (by omega))
      (o_ (rfl : Value.pointer (some ⟨1, 1, none⟩) = .pointer (some ⟨1, 1, none⟩))
      (o_ (wi (show (i : Int) + 1 = ((i + 1 : Nat) : Int) by omega) (by omega)) o0)))))))))))))))))))))))) ?_
    kernel_rfl
  have e : lset (bv (b0 :: B) ++ [Value.int .u8 0]) (n / 8) (.int .u8 ((bitOf X W i * 128 : Nat) : Int)) = bv ((b0 :: B) ++ [((bitOf X W i * 128 : Nat) : Int)]) := by
    rw [lset_eq, ← hbl, List.set_append_right _ _ (Nat.le_refl _)]
    simp [bv]
  rw [e] at key
  have e2 : inHp L ((b0 :: B) ++ [((bitOf X W i * 128 : Nat) : Int)]) (n + 1) W X = .ro (pv L) 2 :: .cells [.slice (some ⟨3, 0, none⟩) ((b0 :: B).length + 1) UNK, .int .i64 ((n + 1 : Nat) : Int)] 183 2 :: .cells [.int .i64 (W : Int), .int .u64 (X : Int)] 136 2 :: [.row (bv ((b0 :: B) ++ [((bitOf X W i * 128 : Nat) : Int)])) 5 1] := by
    simp [inHp, wslice, wrow]
  rw [e2]
  exact key
theorem round_more {b0 : Int} {B : List Int} {x : Nat} (hW : W ≤ 64) (hX : X < 2 ^ 64) (hi : i < W) (hn : n % 8 ≠ 0) (hl : (b0 :: B).length = n / 8 + 1) (hN : n < 2 ^ 40)
    (hx8 : (b0 :: B)[n / 8]? = some (x : Int)) (hxd : ∃ a, x = a * 2 ^ (8 - n % 8)) (hxr : x + bitOf X W i * 2 ^ (7 - n % 8) < 256) :
    AComes Tryz.prog 1 (roundAt Tryz.prog 70 1) (inTs L.length idx W i) (inHp L (b0 :: B) n W X) .normal (inTs L.length idx W (i + 1)) (inHp L ((b0 :: B).set (n / 8) ((x + bitOf X W i * 2 ^ (7 - n % 8) : Nat) : Int)) (n + 1) W X) := by
  have hx : X / 2 ^ (W - 1 - i) < 2 ^ 64 := Nat.lt_of_le_of_lt (Nat.div_le_self _ _) hX
  have hb := bitOf_le X W i
  have hbl : (bv (b0 :: B)).length = n / 8 + 1 := by simpa [bv] using hl
  have key : AComes Tryz.prog 1 (roundAt Tryz.prog 70 1) (inTs L.length idx W i) (inHp L (b0 :: B) n W X) .normal (inTs L.length idx W (i + 1))
      (.ro (pv L) 2 :: .cells [.slice (some ⟨3, 0, none⟩) (b0 :: B).length UNK, .int .i64 ((n + 1 : Nat) : Int)] 183 2 :: .cells [.int .i64 (W : Int), .int .u64 (X : Int)] 136 2 :: [.row (lset (bv (b0 :: B)) (n / 8) (.int .u8 ((x + bitOf X W i * 2 ^ (7 - n % 8) : Nat) : Int))) 5 1]) := by
    refine codeL 400 [0, 1, 2, 3] [0, 3] [4, 6, 10, 11, 12, 34, 35] [.br true, .is 43 (.int .i64 ((W - 1 : Nat) : Int)), .is 45 (.int .i64 ((W - 1 - i : Nat) : Int)), .owe 46, .is 46 (.int .u64 ((X / 2 ^ (W - 1 - i) : Nat) : Int)), .inl, .is 8 (.int .i64 ((n % 8 : Nat) : Int)), .br false,
      .is 27 (.int .i64 ((n / 8 : Nat) : Int)), .owe 28, .is 28 (.pointer (some ⟨3, n / 8, none⟩)), .hint 29 (.val (.int .u8 (x : Int))), .is 31 (.int .u64 ((bitOf X W i : Nat) : Int)), .is 32 (.int .u8 ((bitOf X W i : Nat) : Int)), .is 37 (.int .i64 ((n % 8 : Nat) : Int)), .is 38 (.int .i64 ((7 - n % 8 : Nat) : Int)), .owe 39, .is 39 (.int .u8 ((bitOf X W i * 2 ^ (7 - n % 8) : Nat) : Int)), .is 40 (.int .u8 ((x + bitOf X W i * 2 ^ (7 - n % 8) : Nat) : Int)),
      .owe 41, .is 41 (.pointer (some ⟨3, n / 8, none⟩)), .owe 1000000, .is 46 (.int .i64 ((n + 1 : Nat) : Int)), .is 48 (.pointer (some ⟨1, 1, none⟩)), .is 48 (.int .i64 ((i + 1 : Nat) : Int))]
      (o_ (pv_bare L) (o_ (row_set_bare (b0 :: B) (n / 8) ((x + bitOf X W i * 2 ^ (7 - n % 8) : Nat) : Int) 5 1)
      (o_ (show decide ((i : Int) < (W : Int)) = true by rw [decide_eq_true_eq]; omega)
      (o_ (wi (show (W : Int) - 1 = ((W - 1 : Nat) : Int) by omega) (by omega))
      (o_ (wi (show ((W - 1 : Nat) : Int) - (i : Int) = ((W - 1 - i : Nat) : Int) by omega) (by omega))
      (o_ (bs1 (b0 := decide (0 ≤ ((W - 1 - i : Nat) : Int))) (by rw [decide_eq_true_eq]; omega))
      (o_ (iis .u64 (shr_nat X (W - 1 - i) (by omega) .u64 rfl))
      (o_ (iis .i64 (tmod8 n))
      (o_ (show (((n % 8 : Nat) : Int) == 0) = false by rw [beq_eq_false_iff_ne]; omega)
      (o_ (wi (tdiv8 n) (by omega))
      (o_ (bs1 (b0 := decide (0 ≤ ((n / 8 : Nat) : Int) ∧ ((n / 8 : Nat) : Int) < (((b0 :: B).length : Nat) : Int))) (by rw [decide_eq_true_eq]; omega))
      (o_ (ptr_is (i := 3) (show 0 + ((n / 8 : Nat) : Int).toNat * 1 = n / 8 by omega))
      (o_ (show (bv (b0 :: B))[n / 8]? = some (.int .u8 (x : Int)) by unfold bv; rw [List.getElem?_map, hx8]; rfl)
      (o_ (iis .u64 (and_one _ hx))
      (o_ (iw (k := .u8) (rfl : ((bitOf X W i : Nat) : Int) = _) (show (0 : Int) ≤ _ by omega) (show _ ≤ (255 : Int) by omega))
      (o_ (iis .i64 (tmod8 n))
      (o_ (wi (show (7 : Int) - ((n % 8 : Nat) : Int) = ((7 - n % 8 : Nat) : Int) by omega) (by omega))
      (o_ (bs1 (b0 := decide (0 ≤ ((7 - n % 8 : Nat) : Int))) (by rw [decide_eq_true_eq]; omega))
      (o_ (iis .u8 (shl_byte _ (7 - n % 8) hb (by omega)))
      (o_ (iis .u8 (by
        obtain ⟨a, ha⟩ := hxd
        refine or_bytes x (bitOf X W i * 2 ^ (7 - n % 8)) (8 - n % 8) a ha ?_ hxr
        have h1 := pow_split n hn
        have h2 : bitOf X W i * 2 ^ (7 - n % 8) ≤ 1 * 2 ^ (7 - n % 8) := Nat.mul_le_mul_right _ hb
        have h3 : 0 < 2 ^ (7 - n % 8) := Nat.two_pow_pos _
        omega))
      (o_ (bs1 (b0 := decide (0 ≤ ((n / 8 : Nat) : Int) ∧ ((n / 8 : Nat) : Int) < (((b0 :: B).length : Nat) : Int))) (by rw [decide_eq_true_eq]; omega))
      (o_ (ptr_is (i := 3) (show 0 + ((n / 8 : Nat) : Int).toNat * 1 = n / 8 by omega))
      (o_ (bs2 (b0 := decide (n / 8 + 1 ≤ (bv (b0 :: B)).length)) (b1 := decide (0 < (bv (b0 :: B)).length)) (by rw [decide_eq_true_eq, hbl]; omega) (by rw [decide_eq_true_eq, hbl]; omega))
      (o_ (wi (show (n : Int) + 1 = ((n + 1 : Nat) : Int) by omega) (by omega))
      (o_ (rfl : Value.pointer (some ⟨1, 1, none⟩) = .pointer (some ⟨1, 1, none⟩))
      (o_ (wi (show (i : Int) + 1 = ((i + 1 : Nat) : Int) by omega) (by omega)) o0)))))))))))))))))))))))))) ?_
    kernel_rfl
  have e : lset (bv (b0 :: B)) (n / 8) (.int .u8 ((x + bitOf X W i * 2 ^ (7 - n % 8) : Nat) : Int)) = bv ((b0 :: B).set (n / 8) ((x + bitOf X W i * 2 ^ (7 - n % 8) : Nat) : Int)) := by
    rw [lset_eq]; unfold bv; rw [List.map_set]
  rw [e] at key
  have e2 : ∀ C : List Int, C.length = (b0 :: B).length → inHp L C (n + 1) W X = .ro (pv L) 2 :: .cells [.slice (some ⟨3, 0, none⟩) (b0 :: B).length UNK, .int .i64 ((n + 1 : Nat) : Int)] 183 2 :: .cells [.int .i64 (W : Int), .int .u64 (X : Int)] 136 2 :: [.row (bv C) 5 1] := by
    intro C hC
    cases C with
    | nil => simp at hC
    | cons c C => simp only [inHp, wslice, wrow, hC]
  rw [e2 _ (by simp)]
  exact key
theorem round_out {b0 : Int} {B : List Int} (hW : W ≤ 64) :
    AComes Tryz.prog 1 (roundAt Tryz.prog 70 1) (inTs L.length idx W W) (inHp L (b0 :: B) n W X) (.exit 2) (Tm.told 61 [(4, .pointer (some ⟨1, 0, none⟩)), (10, .slice (some ⟨0, 0, none⟩) L.length UNR), (11, .int .i64 (L.length : Int)), (12, .int .i64 idx)])
      (.ro (pv L) 2 :: .cells [wslice 2 (b0 :: B), .int .i64 (n : Int)] 183 2 :: wrow (b0 :: B)) := by
  refine codeL 400 [0, 1, 3] [0, 3] [4, 10, 11, 12] [.br false] (o_ (pv_bare L) (o_ (row_bare (b0 :: B) 5 1) (o_ (show decide ((W : Int) < (W : Int)) = false by rw [decide_eq_false_iff_not]; omega) o0))) ?_
  kernel_rfl
end
end Go.Proofs.Field

namespace Go.Proofs.Field
open Go Go.AX Go.Proofs
set_option maxRecDepth 1000000
set_option linter.unusedVariables false
set_option linter.unusedSimpArgs false

noncomputable def outTs (len : Nat) (idx : Int) : Tm := Tm.told 61 [(4, .pointer (some ⟨1, 0, none⟩)), (10, .slice (some ⟨0, 0, none⟩) len UNR), (11, .int .i64 (len : Int)), (12, .int .i64 idx)]
def outHp (L : List (Int × Int)) (B : List Int) (n : Nat) : AHeap := .ro (pv L) 2 :: .cells [wslice 2 B, .int .i64 (n : Int)] 183 2 :: wrow B

theorem wb_zero (V : Nat) : wb V 0 = [] := List.eq_nil_of_length_eq_zero (by rw [wb_length])
theorem part_loop {L : List (Int × Int)} {idx : Int} {V n W X : Nat} (hW0 : 1 ≤ W) (hW : W ≤ 64) (hX : X < 2 ^ W) (hn : n < 2 ^ 39) :
    AComes Tryz.prog 1 (loopAt Tryz.prog 70 1) (inTs L.length idx W 0) (inHp L (wb V n) n W X) (.exit 2) (outTs L.length idx) (outHp L (wb (V * 2 ^ W + X) (n + W)) (n + W)) := by
  have hX64 : X < 2 ^ 64 := Nat.lt_of_lt_of_le hX (Nat.pow_le_pow_right (by omega) hW)
  have e : loopAt Tryz.prog 70 1 = .loop (roundAt Tryz.prog 70 1) := by kernel_rfl
  rw [e]
  have key := AComes.loop (P := Tryz.prog) (m := 1) (c := roundAt Tryz.prog 70 1) (ex := .exit 2) (ts' := outTs L.length idx) (h' := outHp L (wb (V * 2 ^ W + X) (n + W)) (n + W)) (by simp) W
    (fun k => (inTs L.length idx W k, inHp L (wb (V * 2 ^ k + X / 2 ^ (W - k)) (n + k)) (n + k) W X)) ?_ ?_
  · simp only [Nat.pow_zero, Nat.mul_one, Nat.sub_zero, Nat.add_zero, Nat.div_eq_of_lt hX] at key
    exact key
  · intro k hk
    have hb := bitOf_le X W k
    have hnext : V * 2 ^ (k + 1) + X / 2 ^ (W - (k + 1)) = 2 * (V * 2 ^ k + X / 2 ^ (W - k)) + bitOf X W k := by
      rw [bits_step X W k hk, Nat.pow_succ]; unfold bitOf; rw [← Nat.mul_assoc]; omega
    simp only [hnext]
    generalize V * 2 ^ k + X / 2 ^ (W - k) = V'
    have hn' : n + k < 2 ^ 40 := by omega
    rw [show n + (k + 1) = (n + k) + 1 by omega]
    generalize n + k = n' at *
    by_cases h0 : n' = 0
    · subst h0
      have h1 := wb_new V' 0 _ hb rfl
      rw [h1, wb_zero]
      exact round_first hW hX64 hk
    · have hlen := wb_length V' n'
      cases hB : wb V' n' with
      | nil => rw [hB] at hlen; simp at hlen; omega
      | cons b0 B =>
        rw [hB] at hlen
        by_cases h8 : n' % 8 = 0
        · rw [wb_new V' n' _ hb h8, hB]
          exact round_new hW hX64 hk h8 (by omega) hn'
        · have hw := wb_last V' n' h8
          rw [hB] at hw
          have hset : (b0 :: B).set (n' / 8) ((lastB V' n' + bitOf X W k * 2 ^ (7 - n' % 8) : Nat) : Int) = wb (2 * V' + bitOf X W k) (n' + 1) := by
            rw [wb_more V' n' _ hb h8, hw, List.set_append_right _ _ (by rw [be_length]; exact Nat.le_refl _), be_length]
            simp
          rw [← hset]
          refine round_more hW hX64 hk h8 (by omega) hn' ?_ ⟨_, lastB_dvd V' n' h8⟩ (lastB_room V' n' _ hb h8)
          rw [hw, List.getElem?_append_right (by rw [be_length]; exact Nat.le_refl _), be_length]
          simp
  · simp only [Nat.sub_self, Nat.pow_zero, Nat.div_one]
    have hlen := wb_length (V * 2 ^ W + X) (n + W)
    cases hB : wb (V * 2 ^ W + X) (n + W) with
    | nil => rw [hB] at hlen; simp at hlen; omega
    | cons b0 B => exact round_out hW
def okPart (p : Int × Int) : Bool := (decide (1 ≤ p.1) && decide (p.1 ≤ 64)) && (decide (64 ≤ p.1) || decide (p.2.toNat < 2 ^ p.1.toNat))
def valN (L : List (Int × Int)) : Nat × Nat := L.foldl (fun s p => (s.1 * 2 ^ p.1.toNat + p.2.toNat, s.2 + p.1.toNat)) (0, 0)

theorem pv_length (L : List (Int × Int)) : (pv L).length = 2 * L.length := by
  induction L with
  | nil => rfl
  | cons p L ih =>
    show (Value.int .i64 p.1 :: Value.int .u64 p.2 :: pv L).length = _
    simp only [List.length_cons, ih]; omega
theorem pv_part (L : List (Int × Int)) (i : Nat) (p : Int × Int) (h : L[i]? = some p) : ((pv L).drop (2 * i)).take 2 = [.int .i64 p.1, .int .u64 p.2] := by
  induction L generalizing i with
  | nil => simp at h
  | cons q L ih =>
    show ((Value.int .i64 q.1 :: Value.int .u64 q.2 :: pv L).drop (2 * i)).take 2 = _
    cases i with
    | zero => simp only [List.getElem?_cons_zero, Option.some.injEq] at h; subst h; rfl
    | succ i =>
      rw [show 2 * (i + 1) = 2 * i + 1 + 1 by omega, List.drop_succ_cons, List.drop_succ_cons]
      exact ih i (by simpa using h)

theorem mayOf {w : Int} (h1 : 1 ≤ w) (h2 : w ≤ 64) : fieldMay w = true := by unfold fieldMay; simp; omega
theorem mayNot {w : Int} (h : ¬ (1 ≤ w ∧ w ≤ 64)) : fieldMay w = false := by
  unfold fieldMay
  by_cases h1 : w ≥ 1
  · rw [decide_eq_true h1, cond_true]; simp; omega
  · rw [decide_eq_false h1, cond_false]

section
variable {L : List (Int × Int)} {B : List Int} {n k : Nat} {w v : Int}

theorem hd1 (hk : L[k]? = some (w, v)) : k < L.length := (List.getElem?_eq_some_iff.1 hk).1
theorem out_round {V : Nat} {W X : Nat} (hlen : L.length < 2 ^ 30) (hk : L[k]? = some ((W : Int), (X : Int))) (hW0 : 1 ≤ W) (hW : W ≤ 64) (hX : X < 2 ^ W) (hn : n < 2 ^ 39) :
    AComes Tryz.prog 1 (roundAt Tryz.prog 70 0) (outTs L.length (k : Int)) (outHp L (wb V n) n) .normal (outTs L.length ((k + 1 : Nat) : Int)) (outHp L (wb (V * 2 ^ W + X) (n + W)) (n + W)) := by
  have hkl := hd1 hk
  have hX64 : X < 2 ^ 64 := Nat.lt_of_lt_of_le hX (Nat.pow_le_pow_right (by omega) hW)
  have hpart := part_loop (L := L) (idx := (k : Int)) (V := V) (n := n) hW0 hW hX hn
  have hp2 := pv_part L k _ hk
  have hl2 := wb_length (V * 2 ^ W + X) (n + W)
  cases hB2 : wb (V * 2 ^ W + X) (n + W) with
  | nil => rw [hB2] at hl2; simp at hl2; omega
  | cons c0 C =>
  rw [hB2] at hpart
  have hshr : ∀ hlt : W < 64, ishr .u64 (X : Int) (W : Int) = 0 := by
    intro hlt
    rw [shr_nat X W (by omega) .u64 rfl, Nat.div_eq_of_lt hX]; rfl
  have key : ∀ (B : List Int) (keep bares : List Nat), (∃ h0, outHp L B n = h0 ∧ True) → wb V n = B → (B = [] ∧ keep = [0, 1, 2] ∧ bares = [0] ∨ (∃ b0 B', B = b0 :: B') ∧ keep = [0, 1, 3, 2] ∧ bares = [0, 2]) →
      AComes Tryz.prog 1 (roundAt Tryz.prog 70 0) (outTs L.length (k : Int)) (outHp L B n) .normal (outTs L.length ((k + 1 : Nat) : Int)) (outHp L (c0 :: C) (n + W)) := by
    rintro B keep bares _ hVB (⟨rfl, rfl, rfl⟩ | ⟨⟨b0, B', rfl⟩, rfl, rfl⟩)
    · rw [hVB] at hpart
      by_cases hlt : W < 64
      · refine codeL 400 [0, 1, 2] [0, 2] [4, 10, 11, 12] [.br true, .owe 14, .is 14 (.pointer (some ⟨0, 2 * k, none⟩)), .hint 15 (.cells [.int .i64 (W : Int), .int .u64 (X : Int)]), .callL (.bool true) [], .is 23 (.bool true), .owe 29, .is 29 (.int .u64 0), .lit, .codeG [0, 1, 2] [0] [4, 6, 10, 11, 12, 34, 35] (.exit 2) (outTs L.length (k : Int)) (outHp L (c0 :: C) (n + W)), .is 49 (.int .i64 ((k + 1 : Nat) : Int))]
          (o_ (pv_bare L) (o_ (row_bare (c0 :: C) 5 1)
          (o_ (show decide ((k : Int) < (L.length : Int)) = true by rw [decide_eq_true_eq]; omega)
          (o_ (bs1 (b0 := decide (0 ≤ (k : Int) ∧ (k : Int) < (L.length : Int))) (by rw [decide_eq_true_eq]; omega))
          (o_ (ptr_is (i := 0) (show 0 + (k : Int).toNat * 2 = 2 * k by omega))
          (o_ (show ((pv L).drop (2 * k)).take 2 = [Value.int .i64 (W : Int), .int .u64 (X : Int)] from hp2) (o_ (rfl : [Value.int .i64 (W : Int), Value.int .u64 (X : Int)].length = 2)
          (o_ (show AOn Tryz.prog 102 [.int .i64 (W : Int)] [] (.bool true) [] by have := fieldMay_eq (W : Int); unfold fieldMay_G at this; rw [mayOf (by omega) (by omega)] at this; exact this)
          (o_ (bis (show decide ((W : Int) < 64) = true by rw [decide_eq_true_eq]; omega))
          (o_ (bs1 (b0 := decide (0 ≤ (W : Int))) (by rw [decide_eq_true_eq]; omega))
          (o_ (iis .u64 (hshr hlt))
          (o_ (pv_bare L)
          (o_ hpart
          (o_ (wi (show (k : Int) + 1 = ((k + 1 : Nat) : Int) by omega) (by omega)) o0)))))))))))))) ?_
        kernel_rfl
      · refine codeL 400 [0, 1, 2] [0, 2] [4, 10, 11, 12] [.br true, .owe 14, .is 14 (.pointer (some ⟨0, 2 * k, none⟩)), .hint 15 (.cells [.int .i64 (W : Int), .int .u64 (X : Int)]), .callL (.bool true) [], .is 23 (.bool false), .lit, .codeG [0, 1, 2] [0] [4, 6, 10, 11, 12, 34, 35] (.exit 2) (outTs L.length (k : Int)) (outHp L (c0 :: C) (n + W)), .is 49 (.int .i64 ((k + 1 : Nat) : Int))]
          (o_ (pv_bare L) (o_ (row_bare (c0 :: C) 5 1)
          (o_ (show decide ((k : Int) < (L.length : Int)) = true by rw [decide_eq_true_eq]; omega)
          (o_ (bs1 (b0 := decide (0 ≤ (k : Int) ∧ (k : Int) < (L.length : Int))) (by rw [decide_eq_true_eq]; omega))
          (o_ (ptr_is (i := 0) (show 0 + (k : Int).toNat * 2 = 2 * k by omega))
          (o_ (show ((pv L).drop (2 * k)).take 2 = [Value.int .i64 (W : Int), .int .u64 (X : Int)] from hp2) (o_ (rfl : [Value.int .i64 (W : Int), Value.int .u64 (X : Int)].length = 2)
          (o_ (show AOn Tryz.prog 102 [.int .i64 (W : Int)] [] (.bool true) [] by have := fieldMay_eq (W : Int); unfold fieldMay_G at this; rw [mayOf (by omega) (by omega)] at this; exact this)
          (o_ (bis (show decide ((W : Int) < 64) = false by rw [decide_eq_false_iff_not]; omega))
          (o_ (pv_bare L)
          (o_ hpart
          (o_ (wi (show (k : Int) + 1 = ((k + 1 : Nat) : Int) by omega) (by omega)) o0)))))))))))) ?_
        kernel_rfl
    · rw [hVB] at hpart
      by_cases hlt : W < 64
      · refine codeL 400 [0, 1, 2] [0, 2] [4, 10, 11, 12] [.br true, .owe 14, .is 14 (.pointer (some ⟨0, 2 * k, none⟩)), .hint 15 (.cells [.int .i64 (W : Int), .int .u64 (X : Int)]), .callL (.bool true) [], .is 23 (.bool true), .owe 29, .is 29 (.int .u64 0), .lit, .codeG [0, 1, 3, 2] [0, 2] [4, 6, 10, 11, 12, 34, 35] (.exit 2) (outTs L.length (k : Int)) (outHp L (c0 :: C) (n + W)), .is 49 (.int .i64 ((k + 1 : Nat) : Int))]
          (o_ (pv_bare L) (o_ (row_bare (c0 :: C) 5 1)
          (o_ (show decide ((k : Int) < (L.length : Int)) = true by rw [decide_eq_true_eq]; omega)
          (o_ (bs1 (b0 := decide (0 ≤ (k : Int) ∧ (k : Int) < (L.length : Int))) (by rw [decide_eq_true_eq]; omega))
          (o_ (ptr_is (i := 0) (show 0 + (k : Int).toNat * 2 = 2 * k by omega))
          (o_ (show ((pv L).drop (2 * k)).take 2 = [Value.int .i64 (W : Int), .int .u64 (X : Int)] from hp2) (o_ (rfl : [Value.int .i64 (W : Int), Value.int .u64 (X : Int)].length = 2)
          (o_ (show AOn Tryz.prog 102 [.int .i64 (W : Int)] [] (.bool true) [] by have := fieldMay_eq (W : Int); unfold fieldMay_G at this; rw [mayOf (by omega) (by omega)] at this; exact this)
          (o_ (bis (show decide ((W : Int) < 64) = true by rw [decide_eq_true_eq]; omega))
          (o_ (bs1 (b0 := decide (0 ≤ (W : Int))) (by rw [decide_eq_true_eq]; omega))
          (o_ (iis .u64 (hshr hlt))
          (o_ (pv_bare L) (o_ (row_bare (b0 :: B') 5 1)
          (o_ hpart
          (o_ (wi (show (k : Int) + 1 = ((k + 1 : Nat) : Int) by omega) (by omega)) o0))))))))))))))) ?_
        kernel_rfl
      · refine codeL 400 [0, 1, 2] [0, 2] [4, 10, 11, 12] [.br true, .owe 14, .is 14 (.pointer (some ⟨0, 2 * k, none⟩)), .hint 15 (.cells [.int .i64 (W : Int), .int .u64 (X : Int)]), .callL (.bool true) [], .is 23 (.bool false), .lit, .codeG [0, 1, 3, 2] [0, 2] [4, 6, 10, 11, 12, 34, 35] (.exit 2) (outTs L.length (k : Int)) (outHp L (c0 :: C) (n + W)), .is 49 (.int .i64 ((k + 1 : Nat) : Int))]
          (o_ (pv_bare L) (o_ (row_bare (c0 :: C) 5 1)
          (o_ (show decide ((k : Int) < (L.length : Int)) = true by rw [decide_eq_true_eq]; omega)
          (o_ (bs1 (b0 := decide (0 ≤ (k : Int) ∧ (k : Int) < (L.length : Int))) (by rw [decide_eq_true_eq]; omega))
          (o_ (ptr_is (i := 0) (show 0 + (k : Int).toNat * 2 = 2 * k by omega))
          (o_ (show ((pv L).drop (2 * k)).take 2 = [Value.int .i64 (W : Int), .int .u64 (X : Int)] from hp2) (o_ (rfl : [Value.int .i64 (W : Int), Value.int .u64 (X : Int)].length = 2)
          (o_ (show AOn Tryz.prog 102 [.int .i64 (W : Int)] [] (.bool true) [] by have := fieldMay_eq (W : Int); unfold fieldMay_G at this; rw [mayOf (by omega) (by omega)] at this; exact this)
          (o_ (bis (show decide ((W : Int) < 64) = false by rw [decide_eq_false_iff_not]; omega))
          (o_ (pv_bare L) (o_ (row_bare (b0 :: B') 5 1)
          (o_ hpart
          (o_ (wi (show (k : Int) + 1 = ((k + 1 : Nat) : Int) by omega) (by omega)) o0))))))))))))) ?_
        kernel_rfl
  cases hB : wb V n with
  | nil => exact key [] [0, 1, 2] [0] ⟨_, rfl, trivial⟩ hB (.inl ⟨rfl, rfl, rfl⟩)
  | cons b0 B' => exact key (b0 :: B') [0, 1, 3, 2] [0, 2] ⟨_, rfl, trivial⟩ hB (.inr ⟨⟨b0, B', rfl⟩, rfl, rfl⟩)
end
end Go.Proofs.Field

namespace Go.Proofs.Field
open Go Go.AX Go.Proofs
set_option maxRecDepth 1000000
set_option linter.unusedVariables false
set_option linter.unusedSimpArgs false

section
variable {L : List (Int × Int)} {n k : Nat} {w v : Int}
theorem out_end (V : Nat) : AComes Tryz.prog 1 (roundAt Tryz.prog 70 0) (outTs L.length (L.length : Int)) (outHp L (wb V n) n) (.exit 0) (Tm.told 61 [(4, .pointer (some ⟨1, 0, none⟩))]) (outHp L (wb V n) n) := by
  cases hB : wb V n with
  | nil =>
    refine codeL 400 [0, 1] [0] [4] [.br false] (o_ (pv_bare L) (o_ (show decide ((L.length : Int) < (L.length : Int)) = false by rw [decide_eq_false_iff_not]; omega) o0)) ?_
    kernel_rfl
  | cons b0 B =>
    refine codeL 400 [0, 1, 2] [0, 2] [4] [.br false] (o_ (pv_bare L) (o_ (row_bare (b0 :: B) 5 1) (o_ (show decide ((L.length : Int) < (L.length : Int)) = false by rw [decide_eq_false_iff_not]; omega) o0))) ?_
    kernel_rfl

noncomputable def badTs : Tm := Tm.told 61 [(2, .string ⟨#[]⟩), (3, .int .i64 4)]
theorem out_bad1 (V : Nat) (hlen : L.length < 2 ^ 30) (hk : L[k]? = some (w, v)) (hw : ¬ (1 ≤ w ∧ w ≤ 64)) :
    AComes Tryz.prog 1 (roundAt Tryz.prog 70 0) (outTs L.length (k : Int)) (outHp L (wb V n) n) .ret badTs [.ro (pv L) 2] := by
  have hkl := hd1 hk
  have hp2 := pv_part L k _ hk
  have hmay : AOn Tryz.prog 102 [.int .i64 w] [] (.bool false) [] := by have := fieldMay_eq w; unfold fieldMay_G at this; rw [mayNot hw] at this; exact this
  cases hB : wb V n with
  | nil =>
    refine codeL 400 [0] [0] [2, 3] [.br true, .owe 14, .is 14 (.pointer (some ⟨0, 2 * k, none⟩)), .hint 15 (.cells [.int .i64 w, .int .u64 v]), .callL (.bool false) [], .lit]
      (o_ (pv_bare L)
      (o_ (show decide ((k : Int) < (L.length : Int)) = true by rw [decide_eq_true_eq]; omega)
      (o_ (bs1 (b0 := decide (0 ≤ (k : Int) ∧ (k : Int) < (L.length : Int))) (by rw [decide_eq_true_eq]; omega))
      (o_ (ptr_is (i := 0) (show 0 + (k : Int).toNat * 2 = 2 * k by omega))
      (o_ (show ((pv L).drop (2 * k)).take 2 = [Value.int .i64 w, .int .u64 v] from hp2) (o_ (rfl : [Value.int .i64 w, Value.int .u64 v].length = 2)
      (o_ hmay o0))))))) ?_
    kernel_rfl
  | cons b0 B =>
    refine codeL 400 [0] [0] [2, 3] [.br true, .owe 14, .is 14 (.pointer (some ⟨0, 2 * k, none⟩)), .hint 15 (.cells [.int .i64 w, .int .u64 v]), .callL (.bool false) [], .lit]
      (o_ (pv_bare L)
      (o_ (show decide ((k : Int) < (L.length : Int)) = true by rw [decide_eq_true_eq]; omega)
      (o_ (bs1 (b0 := decide (0 ≤ (k : Int) ∧ (k : Int) < (L.length : Int))) (by rw [decide_eq_true_eq]; omega))
      (o_ (ptr_is (i := 0) (show 0 + (k : Int).toNat * 2 = 2 * k by omega))
      (o_ (show ((pv L).drop (2 * k)).take 2 = [Value.int .i64 w, .int .u64 v] from hp2) (o_ (rfl : [Value.int .i64 w, Value.int .u64 v].length = 2)
      (o_ hmay o0))))))) ?_
    kernel_rfl
theorem out_bad2 (V : Nat) {W X : Nat} (hlen : L.length < 2 ^ 30) (hk : L[k]? = some ((W : Int), (X : Int))) (hW0 : 1 ≤ W) (hW : W < 64) (hX : 2 ^ W ≤ X) :
    AComes Tryz.prog 1 (roundAt Tryz.prog 70 0) (outTs L.length (k : Int)) (outHp L (wb V n) n) .ret badTs [.ro (pv L) 2] := by
  have hkl := hd1 hk
  have hp2 := pv_part L k _ hk
  have hmay : AOn Tryz.prog 102 [.int .i64 (W : Int)] [] (.bool true) [] := by have := fieldMay_eq (W : Int); unfold fieldMay_G at this; rw [mayOf (by omega) (by omega)] at this; exact this
  have hshr : (0 : Int) < ((X / 2 ^ W : Nat) : Int) := by
    have : 0 < X / 2 ^ W := Nat.div_pos hX (Nat.two_pow_pos _)
    omega
  cases hB : wb V n with
  | nil =>
    refine codeL 400 [0] [0] [2, 3] [.br true, .owe 14, .is 14 (.pointer (some ⟨0, 2 * k, none⟩)), .hint 15 (.cells [.int .i64 (W : Int), .int .u64 (X : Int)]), .callL (.bool true) [], .is 23 (.bool true), .owe 29, .is 29 (.int .u64 ((X / 2 ^ W : Nat) : Int)), .is 30 (.bool true), .lit]
      (o_ (pv_bare L)
      (o_ (show decide ((k : Int) < (L.length : Int)) = true by rw [decide_eq_true_eq]; omega)
      (o_ (bs1 (b0 := decide (0 ≤ (k : Int) ∧ (k : Int) < (L.length : Int))) (by rw [decide_eq_true_eq]; omega))
      (o_ (ptr_is (i := 0) (show 0 + (k : Int).toNat * 2 = 2 * k by omega))
      (o_ (show ((pv L).drop (2 * k)).take 2 = [Value.int .i64 (W : Int), .int .u64 (X : Int)] from hp2) (o_ (rfl : [Value.int .i64 (W : Int), Value.int .u64 (X : Int)].length = 2)
      (o_ hmay
      (o_ (bis (show decide ((W : Int) < 64) = true by rw [decide_eq_true_eq]; omega))
      (o_ (bs1 (b0 := decide (0 ≤ (W : Int))) (by rw [decide_eq_true_eq]; omega))
      (o_ (iis .u64 (shr_nat X W (by omega) .u64 rfl))
      (o_ (bis (show decide (((X / 2 ^ W : Nat) : Int) > 0) = true by rw [decide_eq_true_eq]; exact hshr)) o0))))))))))) ?_
    kernel_rfl
  | cons b0 B =>
    refine codeL 400 [0] [0] [2, 3] [.br true, .owe 14, .is 14 (.pointer (some ⟨0, 2 * k, none⟩)), .hint 15 (.cells [.int .i64 (W : Int), .int .u64 (X : Int)]), .callL (.bool true) [], .is 23 (.bool true), .owe 29, .is 29 (.int .u64 ((X / 2 ^ W : Nat) : Int)), .is 30 (.bool true), .lit]
      (o_ (pv_bare L)
      (o_ (show decide ((k : Int) < (L.length : Int)) = true by rw [decide_eq_true_eq]; omega)
      (o_ (bs1 (b0 := decide (0 ≤ (k : Int) ∧ (k : Int) < (L.length : Int))) (by rw [decide_eq_true_eq]; omega))
      (o_ (ptr_is (i := 0) (show 0 + (k : Int).toNat * 2 = 2 * k by omega))
      (o_ (show ((pv L).drop (2 * k)).take 2 = [Value.int .i64 (W : Int), .int .u64 (X : Int)] from hp2) (o_ (rfl : [Value.int .i64 (W : Int), Value.int .u64 (X : Int)].length = 2)
      (o_ hmay
      (o_ (bis (show decide ((W : Int) < 64) = true by rw [decide_eq_true_eq]; omega))
      (o_ (bs1 (b0 := decide (0 ≤ (W : Int))) (by rw [decide_eq_true_eq]; omega))
      (o_ (iis .u64 (shr_nat X W (by omega) .u64 rfl))
      (o_ (bis (show decide (((X / 2 ^ W : Nat) : Int) > 0) = true by rw [decide_eq_true_eq]; exact hshr)) o0))))))))))) ?_
    kernel_rfl
end

def addP (s : Nat × Nat) (p : Int × Int) : Nat × Nat := (s.1 * 2 ^ p.1.toNat + p.2.toNat, s.2 + p.1.toNat)
def packN (L : List (Int × Int)) : Nat × Nat := L.foldl addP (0, 0)
def pack (L : List (Int × Int)) : ByteArray × Int :=
  bif L.all okPart then (bif (packN L).2 % 8 == 0 then (bstr (wb (packN L).1 (packN L).2), 0) else (⟨#[]⟩, 3)) else (⟨#[]⟩, 4)

theorem okPart_spec {p : Int × Int} (h : okPart p = true) (hr : 0 ≤ p.2 ∧ p.2 < 2 ^ 64) : ∃ W X : Nat, p = ((W : Int), (X : Int)) ∧ 1 ≤ W ∧ W ≤ 64 ∧ X < 2 ^ W := by
  obtain ⟨w, v⟩ := p
  simp only [okPart, Bool.and_eq_true, Bool.or_eq_true, decide_eq_true_eq] at h
  refine ⟨w.toNat, v.toNat, ?_, by omega, by omega, ?_⟩
  · simp only [Prod.mk.injEq]; omega
  · rcases h.2 with h2 | h2
    · have e : w.toNat = 64 := by omega
      rw [e]
      have := hr.2
      simp only at this
      omega
    · exact h2

theorem packN_take {L : List (Int × Int)} {k : Nat} {p : Int × Int} (h : L[k]? = some p) : packN (L.take (k + 1)) = addP (packN (L.take k)) p := by
  have hl := (List.getElem?_eq_some_iff.1 h).1
  have e : L.take (k + 1) = L.take k ++ [p] := by
    rw [List.take_add_one, h]; rfl
  rw [e]
  unfold packN
  rw [List.foldl_append]
  rfl

theorem packN_le {L : List (Int × Int)} (h : L.all okPart = true) : (packN L).2 ≤ 64 * L.length := by
  have : ∀ (L : List (Int × Int)) (s : Nat × Nat), L.all okPart = true → (L.foldl addP s).2 ≤ s.2 + 64 * L.length := by
    intro L
    induction L with
    | nil => intro s _; simp
    | cons p L ih =>
      intro s h
      simp only [List.all_cons, Bool.and_eq_true] at h
      have h2 := ih (addP s p) h.2
      have h1 := h.1
      simp only [okPart, Bool.and_eq_true, decide_eq_true_eq] at h1
      simp only [List.foldl_cons, List.length_cons]
      simp only [addP] at h2 ⊢
      omega
  have := this L (0, 0) h
  simpa [packN] using this

theorem all_take {L : List (Int × Int)} (k : Nat) (h : L.all okPart = true) : (L.take k).all okPart = true :=
  List.all_eq_true.2 fun p hp => List.all_eq_true.1 h p (List.mem_of_mem_take hp)
theorem parts_round {L : List (Int × Int)} (hlen : L.length < 2 ^ 30) (hr : ∀ p ∈ L, 0 ≤ p.2 ∧ p.2 < 2 ^ 64) (g : Nat) (hg : g ≤ L.length) (hall : (L.take g).all okPart = true) (k : Nat) (hk : k < g) :
    AComes Tryz.prog 1 (roundAt Tryz.prog 70 0) (outTs L.length (k : Int)) (outHp L (wb (packN (L.take k)).1 (packN (L.take k)).2) (packN (L.take k)).2) .normal (outTs L.length ((k + 1 : Nat) : Int)) (outHp L (wb (packN (L.take (k + 1))).1 (packN (L.take (k + 1))).2) (packN (L.take (k + 1))).2) := by
  have hkl : k < L.length := by omega
  have hp : L[k]? = some L[k] := List.getElem?_eq_getElem hkl
  have hmem : L[k] ∈ L.take g := by
    rw [List.mem_take_iff_getElem]
    exact ⟨k, by omega, rfl⟩
  obtain ⟨W, X, he, h1, h2, h3⟩ := okPart_spec (List.all_eq_true.1 hall _ hmem) (hr _ (List.getElem_mem hkl))
  have hadd := packN_take hp
  rw [he] at hp hadd
  have hle : (packN (L.take k)).2 ≤ 64 * (L.take k).length := packN_le (by
    have := all_take k hall
    rw [List.take_take, Nat.min_eq_left (by omega)] at this
    exact this)
  rw [hadd]
  exact out_round hlen hp h1 h2 h3 (by
    have : (L.take k).length ≤ L.length := by simp; omega
    omega)

theorem packLoop_ok {L : List (Int × Int)} (hlen : L.length < 2 ^ 30) (hr : ∀ p ∈ L, 0 ≤ p.2 ∧ p.2 < 2 ^ 64) (hall : L.all okPart = true) :
    AComes Tryz.prog 1 (loopAt Tryz.prog 70 0) (outTs L.length 0) (outHp L [] 0) (.exit 0) (Tm.told 61 [(4, .pointer (some ⟨1, 0, none⟩))]) (outHp L (wb (packN L).1 (packN L).2) (packN L).2) := by
  have e : loopAt Tryz.prog 70 0 = .loop (roundAt Tryz.prog 70 0) := by kernel_rfl
  rw [e]
  have key := AComes.loop (P := Tryz.prog) (m := 1) (c := roundAt Tryz.prog 70 0) (ex := .exit 0) (ts' := Tm.told 61 [(4, .pointer (some ⟨1, 0, none⟩))]) (h' := outHp L (wb (packN L).1 (packN L).2) (packN L).2) (by simp) L.length
    (fun k => (outTs L.length (k : Int), outHp L (wb (packN (L.take k)).1 (packN (L.take k)).2) (packN (L.take k)).2))
    (fun k hk => parts_round hlen hr L.length (Nat.le_refl _) (by rw [List.take_length]; exact hall) k hk)
    (by simp only [List.take_length]; exact out_end _)
  simp only [List.take_zero] at key
  exact key

theorem first_bad : ∀ (L : List (Int × Int)), L.all okPart = false → ∃ g p, L[g]? = some p ∧ okPart p = false ∧ (L.take g).all okPart = true
  | [], h => by simp at h
  | p :: L, h => by
    cases hp : okPart p with
    | false => exact ⟨0, p, rfl, hp, rfl⟩
    | true =>
      rw [List.all_cons, hp, Bool.true_and] at h
      obtain ⟨g, q, h1, h2, h3⟩ := first_bad L h
      exact ⟨g + 1, q, by simpa using h1, h2, by rw [List.take_succ_cons, List.all_cons, hp, h3]; rfl⟩

theorem packLoop_bad {L : List (Int × Int)} (hlen : L.length < 2 ^ 30) (hr : ∀ p ∈ L, 0 ≤ p.2 ∧ p.2 < 2 ^ 64) (hall : L.all okPart = false) :
    AComes Tryz.prog 1 (loopAt Tryz.prog 70 0) (outTs L.length 0) (outHp L [] 0) .ret badTs [.ro (pv L) 2] := by
  obtain ⟨g, p, h1, h2, h3⟩ := first_bad L hall
  have hgl := (List.getElem?_eq_some_iff.1 h1).1
  have e : loopAt Tryz.prog 70 0 = .loop (roundAt Tryz.prog 70 0) := by kernel_rfl
  rw [e]
  have key := AComes.loop (P := Tryz.prog) (m := 1) (c := roundAt Tryz.prog 70 0) (ex := .ret) (ts' := badTs) (h' := [.ro (pv L) 2]) (by simp) g
    (fun k => (outTs L.length (k : Int), outHp L (wb (packN (L.take k)).1 (packN (L.take k)).2) (packN (L.take k)).2))
    (fun k hk => parts_round hlen hr g (by omega) h3 k hk)
    (by
      obtain ⟨w, v⟩ := p
      by_cases hw : 1 ≤ w ∧ w ≤ 64
      · have hv := hr _ (List.mem_of_getElem? h1)
        simp only at hv
        have hb : w < 64 ∧ 2 ^ w.toNat ≤ v.toNat := by
          simp only [okPart, Bool.and_eq_false_iff, Bool.or_eq_false_iff, decide_eq_false_iff_not] at h2
          rcases h2 with (h2 | h2) | ⟨h2, h4⟩
          · exact absurd hw.1 h2
          · exact absurd hw.2 h2
          · exact ⟨by omega, by omega⟩
        have e1 : w = ((w.toNat : Nat) : Int) := by omega
        have e2 : v = ((v.toNat : Nat) : Int) := by omega
        rw [e1, e2] at h1
        exact out_bad2 _ hlen h1 (by omega) (by omega) hb.2
      · exact out_bad1 _ hlen h1 hw)
  simp only [List.take_zero] at key
  exact key
end Go.Proofs.Field
