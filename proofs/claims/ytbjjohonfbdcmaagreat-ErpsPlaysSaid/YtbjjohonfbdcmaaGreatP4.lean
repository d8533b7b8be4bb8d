/- Part 4 of 6 of the proof of: ErpsPlays holds for every input, without conditions -/
import Derived.Test.YtbjjohonfbdcmaaGreatP3
import Derived.Test.YtbjjohonfbdcmaaGreatProg
import Derived.Shelf.Strings.Repeat
namespace Go.Proofs.E17
open Go Go.AX Go.Proofs
set_option maxRecDepth 1000000
set_option linter.unusedVariables false
set_option linter.unusedSimpArgs false

def reqOf (m : Msg) : Int :=
  bif m.req == 13 then
    2
  else
    bif m.req == 11 then
      5
    else
      bif m.req == 7 then
        6
      else
        bif m.req == 0 then
          bif m.block then
            12
          else
            13
        else
          14
def reqOf_c (r : Int) : Dir := .callL (.int .i64 r) []
def reqOf_E (r : Int) : Value := .int .i64 r
theorem reqOf_eq (m : Msg) : AOn Tryz.prog 40 [.agg ⟨Msg.enc m⟩] [] (reqOf_E (reqOf m)) [] := by
  unfold reqOf
  apply onT 400 reqOf_E
  apply ki 5
  intro hb0
  exact kl
  intro hb0
  apply ki 7
  intro hb1
  exact kl
  intro hb1
  apply ki 9
  intro hb2
  exact kl
  intro hb2
  apply ki 11
  intro hb3
  apply ki 14
  intro hb4
  exact kl
  intro hb4
  exact kl
  intro hb3
  exact kl
  kernel_rfl
  rfl
def reqOf_D (r : Int) : Prop := r = 2 ∨ r = 5 ∨ r = 6 ∨ r = 12 ∨ r = 13 ∨ r = 14
theorem reqOf_dom (m : Msg) : reqOf_D (reqOf m) := by
  unfold reqOf
  refine byIte (fun _ => ?_) (fun _ => ?_)
  unfold reqOf_D; decide
  refine byIte (fun _ => ?_) (fun _ => ?_)
  unfold reqOf_D; decide
  refine byIte (fun _ => ?_) (fun _ => ?_)
  unfold reqOf_D; decide
  refine byIte (fun _ => ?_) (fun _ => ?_)
  refine byIte (fun _ => ?_) (fun _ => ?_)
  unfold reqOf_D; decide
  unfold reqOf_D; decide
  unfold reqOf_D; decide

def order (n : Nd) (now : Int) (k : Int) (port : Int) : Nd × Bool × Int :=
  bif k == 1 then
    bif port == 0 then
      bif !((ask1 n now 0 0).2.2) then
        (n, false, 12)
      else
        (((ask1 n now 0 0).1), (ask1 n now 0 0).2.1, 0)
    else
      bif !(port == 1) then
        (n, false, 11)
      else
        bif !((ask1 n now 1 0).2.2) then
          (n, false, 12)
        else
          (((ask1 n now 1 0).1), (ask1 n now 1 0).2.1, 0)
  else
    bif k == 7 then
      bif port == 0 then
        bif !((ask7 n now 0 0).2.2) then
          (n, false, 12)
        else
          (((ask7 n now 0 0).1), (ask7 n now 0 0).2.1, 0)
      else
        bif !(port == 1) then
          (n, false, 11)
        else
          bif !((ask7 n now 1 0).2.2) then
            (n, false, 12)
          else
            (((ask7 n now 1 0).1), (ask7 n now 1 0).2.1, 0)
    else
      bif k == 0 then
        bif !((ask0 n now port 0).2.2) then
          (n, false, 12)
        else
          (((ask0 n now port 0).1), (ask0 n now port 0).2.1, 0)
      else
        (n, false, 10)
def order_c (r : Nd × Bool × Int) : Dir := .callL (.tuple ⟨[.agg ⟨Nd.enc r.1⟩, .bool r.2.1, .int .i64 r.2.2]⟩) []
def order_E (r : Nd × Bool × Int) : Value := .tuple ⟨[.agg ⟨Nd.enc r.1⟩, .bool r.2.1, .int .i64 r.2.2]⟩
theorem order_eq (n : Nd) (now : Int) (k : Int) (port : Int) (hr : n.role ≠ 0 → n.rpl = 0 ∨ n.rpl = 1) : AOn Tryz.prog 10 [.agg ⟨Nd.enc n⟩, .int .i64 now, .int .i64 k, .int .i64 port] [] (order_E (order n now k port)) [] := by
  unfold order
  apply onT 400 order_E
  apply ki 16
  intro hb0
  apply kr 16 hb0
  apply kd .inl
  apply kj 50006
  intro hb1
  apply kv 28 (ieq .i64 hb0)
  apply kv 29 (ieq .i64 hb1)
  apply kk (ask1_eq n now 0 0 (.inl rfl) 2)
  apply ki 35
  intro hb2
  exact kl
  intro hb2
  exact kl
  intro hb1
  apply ki 21
  intro hb2
  exact kl
  intro hb2
  apply kv 28 (ieq .i64 hb0)
  apply kv 29 (iis .i64 (a := port) (b := 1) (by first | omega | (simp only [zor, zand, zorf, zandf, znt, znf, zeq, zne, zeqf, znef, zd, zdf] at *; omega)))
  apply kk (ask1_eq n now 1 0 (.inr rfl) 2)
  apply ki 35
  intro hb3
  exact kl
  intro hb3
  exact kl
  intro hb0
  apply ki 16
  intro hb1
  apply kd .inl
  apply kj 50006
  intro hb2
  apply kv 28 (ieq .i64 hb1)
  apply kv 29 (ieq .i64 hb2)
  apply kk (ask7_eq n now 0 0 (.inl rfl) 2)
  apply ki 35
  intro hb3
  exact kl
  intro hb3
  exact kl
  intro hb2
  apply ki 21
  intro hb3
  exact kl
  intro hb3
  apply kv 28 (ieq .i64 hb1)
  apply kv 29 (iis .i64 (a := port) (b := 1) (by first | omega | (simp only [zor, zand, zorf, zandf, znt, znf, zeq, zne, zeqf, znef, zd, zdf] at *; omega)))
  apply kk (ask7_eq n now 1 0 (.inr rfl) 2)
  apply ki 35
  intro hb4
  exact kl
  intro hb4
  exact kl
  intro hb1
  apply ki 23
  intro hb2
  apply kv 28 (ieq .i64 hb2)
  apply kk (ask0_eq n now port 0 (by first | omega | (simp only [zor, zand, zorf, zandf, znt, znf, zeq, zne, zeqf, znef, zd, zdf] at *; omega)) 2)
  apply ki 35
  intro hb3
  exact kl
  intro hb3
  exact kl
  intro hb2
  exact kl
  kernel_rfl
  rfl
def order_S (n : Nd) (now : Int) (k : Int) (port : Int) (r : Nd × Bool × Int) : Prop := Same n r.1
theorem order_same (n : Nd) (now : Int) (k : Int) (port : Int) : order_S n now k port (order n now k port) := by
  unfold order
  refine byIte (fun _ => ?_) (fun _ => ?_)
  refine byIte (fun _ => ?_) (fun _ => ?_)
  refine byIte (fun _ => ?_) (fun _ => ?_)
  exact (Same.refl n)
  exact ((Same.refl n).trans (ask1_same n now 0 0))
  refine byIte (fun _ => ?_) (fun _ => ?_)
  exact (Same.refl n)
  refine byIte (fun _ => ?_) (fun _ => ?_)
  exact (Same.refl n)
  exact ((Same.refl n).trans (ask1_same n now 1 0))
  refine byIte (fun _ => ?_) (fun _ => ?_)
  refine byIte (fun _ => ?_) (fun _ => ?_)
  refine byIte (fun _ => ?_) (fun _ => ?_)
  exact (Same.refl n)
  exact ((Same.refl n).trans (ask7_same n now 0 0))
  refine byIte (fun _ => ?_) (fun _ => ?_)
  exact (Same.refl n)
  refine byIte (fun _ => ?_) (fun _ => ?_)
  exact (Same.refl n)
  exact ((Same.refl n).trans (ask7_same n now 1 0))
  refine byIte (fun _ => ?_) (fun _ => ?_)
  refine byIte (fun _ => ?_) (fun _ => ?_)
  exact (Same.refl n)
  exact ((Same.refl n).trans (ask0_same n now port 0))
  exact (Same.refl n)

def fault_x0 (n : Nd) (now : Int) (port : Int) (bad : Bool) : Nd × Bool × Bool := ask3 ({ n with bad := { n.bad with w := bad } }) now 0 0
def fault_x1 (n : Nd) (now : Int) (port : Int) (bad : Bool) : Nd × Bool × Bool := ask4 ({ n with bad := { n.bad with w := bad } }) now 0 0
def fault_x2 (n : Nd) (now : Int) (port : Int) (bad : Bool) : Nd × Bool × Bool := ask3 ({ n with bad := { n.bad with e := bad } }) now 1 0
def fault_x3 (n : Nd) (now : Int) (port : Int) (bad : Bool) : Nd × Bool × Bool := ask4 ({ n with bad := { n.bad with e := bad } }) now 1 0
def fault (n : Nd) (now : Int) (port : Int) (bad : Bool) : Nd × Bool :=
  bif port == 0 then
    bif n.bad.w == bad then
      (n, false)
    else
      bif (!bad) && n.bad.e then
        ({ n with bad := { n.bad with w := bad } }, false)
      else
        bif bad then
          (((fault_x0 n now port bad).1), (fault_x0 n now port bad).2.1)
        else
          (((fault_x1 n now port bad).1), (fault_x1 n now port bad).2.1)
  else
    bif (!(port == 1)) || (n.bad.e == bad) then
      (n, false)
    else
      bif (!bad) && n.bad.w then
        ({ n with bad := { n.bad with e := bad } }, false)
      else
        bif bad then
          (((fault_x2 n now port bad).1), (fault_x2 n now port bad).2.1)
        else
          (((fault_x3 n now port bad).1), (fault_x3 n now port bad).2.1)
def fault_c (r : Nd × Bool) : Dir := .callL (.tuple ⟨[.agg ⟨Nd.enc r.1⟩, .bool r.2]⟩) []
def fault_E (r : Nd × Bool) : Value := .tuple ⟨[.agg ⟨Nd.enc r.1⟩, .bool r.2]⟩
theorem fault_eq (n : Nd) (now : Int) (port : Int) (bad : Bool) (hr : n.role ≠ 0 → n.rpl = 0 ∨ n.rpl = 1) : AOn Tryz.prog 11 [.agg ⟨Nd.enc n⟩, .int .i64 now, .int .i64 port, .bool bad] [] (fault_E (fault n now port bad)) [] := by
  unfold fault
  apply onT 400 fault_E
  apply kd .inl
  apply kj 50006
  intro hb0
  apply kv 17 (ieq .i64 hb0)
  apply ki 23
  intro hb1
  exact kl
  intro hb1
  apply kv 25 (ieq .i64 hb0)
  apply kand
  apply kj 310032
  intro hb2
  apply kv 32 (ieq .i64 hb0)
  apply ki 37
  intro hb3
  exact kl
  intro hb3
  apply ki 39
  intro hb4
  apply kv 43 (ieq .i64 hb0)
  apply kk (ask3_eq ({ n with bad := { n.bad with w := bad } }) now 0 0 (.inl rfl) 0)
  exact kl
  intro hb4
  apply kv 43 (ieq .i64 hb0)
  apply kk (ask4_eq ({ n with bad := { n.bad with w := bad } }) now 0 0 0)
  exact kl
  intro hb2
  apply ki 39
  intro hb3
  apply kv 43 (ieq .i64 hb0)
  apply kk (ask3_eq ({ n with bad := { n.bad with w := bad } }) now 0 0 (.inl rfl) 0)
  exact kl
  intro hb3
  apply kv 43 (ieq .i64 hb0)
  apply kk (ask4_eq ({ n with bad := { n.bad with w := bad } }) now 0 0 0)
  exact kl
  intro hb0
  apply kor
  apply kj 160017
  intro hb1
  exact kl
  intro hb1
  have hq1 := (iis .i64 (a := port) (b := 1) (by first | omega | (simp only [zor, zand, zorf, zandf, znt, znf, zeq, zne, zeqf, znef, zd, zdf] at *; omega)))
  apply kv 17 hq1
  apply ki 23
  intro hb2
  exact kl
  intro hb2
  apply kv 25 hq1
  apply kand
  apply kj 310032
  intro hb3
  apply kv 32 hq1
  apply ki 37
  intro hb4
  exact kl
  intro hb4
  apply ki 39
  intro hb5
  apply kv 43 hq1
  apply kk (ask3_eq ({ n with bad := { n.bad with e := bad } }) now 1 0 (.inr rfl) 0)
  exact kl
  intro hb5
  apply kv 43 hq1
  apply kk (ask4_eq ({ n with bad := { n.bad with e := bad } }) now 1 0 0)
  exact kl
  intro hb3
  apply ki 39
  intro hb4
  apply kv 43 hq1
  apply kk (ask3_eq ({ n with bad := { n.bad with e := bad } }) now 1 0 (.inr rfl) 0)
  exact kl
  intro hb4
  apply kv 43 hq1
  apply kk (ask4_eq ({ n with bad := { n.bad with e := bad } }) now 1 0 0)
  exact kl
  kernel_rfl
  rfl
def fault_S (n : Nd) (now : Int) (port : Int) (bad : Bool) (r : Nd × Bool) : Prop := Same n r.1
theorem fault_same (n : Nd) (now : Int) (port : Int) (bad : Bool) : fault_S n now port bad (fault n now port bad) := by
  unfold fault
  refine byIte (fun _ => ?_) (fun _ => ?_)
  refine byIte (fun _ => ?_) (fun _ => ?_)
  exact (Same.refl n)
  refine byIte (fun _ => ?_) (fun _ => ?_)
  exact (Same.refl n)
  refine byIte (fun _ => ?_) (fun _ => ?_)
  exact ((Same.refl n).trans (ask3_same ({ n with bad := { n.bad with w := bad } }) now 0 0))
  exact ((Same.refl n).trans (ask4_same ({ n with bad := { n.bad with w := bad } }) now 0 0))
  refine byIte (fun _ => ?_) (fun _ => ?_)
  exact (Same.refl n)
  refine byIte (fun _ => ?_) (fun _ => ?_)
  exact (Same.refl n)
  refine byIte (fun _ => ?_) (fun _ => ?_)
  exact ((Same.refl n).trans (ask3_same ({ n with bad := { n.bad with e := bad } }) now 1 0))
  exact ((Same.refl n).trans (ask4_same ({ n with bad := { n.bad with e := bad } }) now 1 0))

def hear_x0 (n : Nd) (now : Int) (port : Int) (m : Msg) : Nd × Bool × Bool := ask2 { n with pairs := (flushHear n.pairs 0 m).1 } now 0 m.node
def hear_x1 (n : Nd) (now : Int) (port : Int) (m : Msg) : Nd × Bool × Bool := ask5 { n with pairs := (flushHear n.pairs 0 m).1 } now 0 m.node
def hear_x2 (n : Nd) (now : Int) (port : Int) (m : Msg) : Nd × Bool × Bool := ask6 { n with pairs := (flushHear n.pairs 0 m).1 } now 0 m.node
def hear_x3 (n : Nd) (now : Int) (port : Int) (m : Msg) : Nd × Bool × Bool := ask12 { n with pairs := (flushHear n.pairs 0 m).1 } now 0 m.node
def hear_x4 (n : Nd) (now : Int) (port : Int) (m : Msg) : Nd × Bool × Bool := ask13 { n with pairs := (flushHear n.pairs 0 m).1 } now 0 m.node
def hear_x5 (n : Nd) (now : Int) (port : Int) (m : Msg) : Nd × Bool × Bool := ask14 { n with pairs := (flushHear n.pairs 0 m).1 } now 0 m.node
def hear_x6 (n : Nd) (now : Int) (port : Int) (m : Msg) : Nd × Bool × Bool := ask2 { n with pairs := (flushHear n.pairs 1 m).1 } now 1 m.node
def hear_x7 (n : Nd) (now : Int) (port : Int) (m : Msg) : Nd × Bool × Bool := ask5 { n with pairs := (flushHear n.pairs 1 m).1 } now 1 m.node
def hear_x8 (n : Nd) (now : Int) (port : Int) (m : Msg) : Nd × Bool × Bool := ask6 { n with pairs := (flushHear n.pairs 1 m).1 } now 1 m.node
def hear_x9 (n : Nd) (now : Int) (port : Int) (m : Msg) : Nd × Bool × Bool := ask12 { n with pairs := (flushHear n.pairs 1 m).1 } now 1 m.node
def hear_x10 (n : Nd) (now : Int) (port : Int) (m : Msg) : Nd × Bool × Bool := ask13 { n with pairs := (flushHear n.pairs 1 m).1 } now 1 m.node
def hear_x11 (n : Nd) (now : Int) (port : Int) (m : Msg) : Nd × Bool × Bool := ask14 { n with pairs := (flushHear n.pairs 1 m).1 } now 1 m.node
def hear (n : Nd) (now : Int) (port : Int) (m : Msg) : Nd × Bool :=
  bif port == 0 then
    bif (m.node == n.me) || (decide (n.bank.g > 0)) then
      (n, false)
    else
      bif (reqOf m) == 2 then
        bif (flushHear n.pairs 0 m).2 then
          (((hear_x0 n now port m).1), true)
        else
          (((hear_x0 n now port m).1), (hear_x0 n now port m).2.1)
      else
        bif (reqOf m) == 5 then
          bif (flushHear n.pairs 0 m).2 then
            (((hear_x1 n now port m).1), true)
          else
            (((hear_x1 n now port m).1), (hear_x1 n now port m).2.1)
        else
          bif (reqOf m) == 6 then
            bif (flushHear n.pairs 0 m).2 then
              (((hear_x2 n now port m).1), true)
            else
              (((hear_x2 n now port m).1), (hear_x2 n now port m).2.1)
          else
            bif (reqOf m) == 12 then
              bif (flushHear n.pairs 0 m).2 then
                (((hear_x3 n now port m).1), true)
              else
                (((hear_x3 n now port m).1), (hear_x3 n now port m).2.1)
            else
              bif (reqOf m) == 13 then
                bif (flushHear n.pairs 0 m).2 then
                  (((hear_x4 n now port m).1), true)
                else
                  (((hear_x4 n now port m).1), (hear_x4 n now port m).2.1)
              else
                bif (flushHear n.pairs 0 m).2 then
                  (((hear_x5 n now port m).1), true)
                else
                  (((hear_x5 n now port m).1), (hear_x5 n now port m).2.1)
  else
    bif (!(port == 1)) || ((m.node == n.me) || (decide (n.bank.g > 0))) then
      (n, false)
    else
      bif (reqOf m) == 2 then
        bif (flushHear n.pairs 1 m).2 then
          (((hear_x6 n now port m).1), true)
        else
          (((hear_x6 n now port m).1), (hear_x6 n now port m).2.1)
      else
        bif (reqOf m) == 5 then
          bif (flushHear n.pairs 1 m).2 then
            (((hear_x7 n now port m).1), true)
          else
            (((hear_x7 n now port m).1), (hear_x7 n now port m).2.1)
        else
          bif (reqOf m) == 6 then
            bif (flushHear n.pairs 1 m).2 then
              (((hear_x8 n now port m).1), true)
            else
              (((hear_x8 n now port m).1), (hear_x8 n now port m).2.1)
          else
            bif (reqOf m) == 12 then
              bif (flushHear n.pairs 1 m).2 then
                (((hear_x9 n now port m).1), true)
              else
                (((hear_x9 n now port m).1), (hear_x9 n now port m).2.1)
            else
              bif (reqOf m) == 13 then
                bif (flushHear n.pairs 1 m).2 then
                  (((hear_x10 n now port m).1), true)
                else
                  (((hear_x10 n now port m).1), (hear_x10 n now port m).2.1)
              else
                bif (flushHear n.pairs 1 m).2 then
                  (((hear_x11 n now port m).1), true)
                else
                  (((hear_x11 n now port m).1), (hear_x11 n now port m).2.1)
def hear_c (r : Nd × Bool) : Dir := .callL (.tuple ⟨[.agg ⟨Nd.enc r.1⟩, .bool r.2]⟩) []
def hear_E (r : Nd × Bool) : Value := .tuple ⟨[.agg ⟨Nd.enc r.1⟩, .bool r.2]⟩
theorem hear_eq (n : Nd) (now : Int) (port : Int) (m : Msg) (hr : n.role ≠ 0 → n.rpl = 0 ∨ n.rpl = 1) : AOn Tryz.prog 12 [.agg ⟨Nd.enc n⟩, .int .i64 now, .int .i64 port, .agg ⟨Msg.enc m⟩] [] (hear_E (hear n now port m)) [] := by
  unfold hear
  apply onT 400 hear_E
  apply kd .inl
  apply kj 50006
  intro hb0
  apply kor
  apply kj 240025
  intro hb1
  exact kl
  intro hb1
  apply kd .inl
  apply kd .inl
  apply ki 28
  intro hb2
  exact kl
  intro hb2
  apply kv 33 (ieq .i64 hb0)
  apply kk (flushHear_eq n.pairs 0 m)
  apply kc
  intro hb3
  apply kf [.priv [0], reqOf_c (reqOf m), .is 43 (.int .i64 2), .is 44 (.int .i64 0), ask2_c 0 (hear_x0 n now port m)] (o_ (reqOf_eq m) (o_ (ieq .i64 hb3) (o_ (ieq .i64 hb0) (o_ (ask2_eq { n with pairs := (flushHear n.pairs 0 m).1 } now 0 m.node 0) o0))))
  apply kj 530054
  intro hb4
  exact kl
  intro hb4
  exact kl
  intro hb3
  apply kc
  intro hb4
  apply kf [.priv [0], reqOf_c (reqOf m), .is 43 (.int .i64 5), .is 44 (.int .i64 0), ask5_c 0 (hear_x1 n now port m)] (o_ (reqOf_eq m) (o_ (ieq .i64 hb4) (o_ (ieq .i64 hb0) (o_ (ask5_eq { n with pairs := (flushHear n.pairs 0 m).1 } now 0 m.node 0) o0))))
  apply kj 530054
  intro hb5
  exact kl
  intro hb5
  exact kl
  intro hb4
  apply kc
  intro hb5
  apply kf [.priv [0], reqOf_c (reqOf m), .is 43 (.int .i64 6), .is 44 (.int .i64 0), ask6_c 0 (hear_x2 n now port m)] (o_ (reqOf_eq m) (o_ (ieq .i64 hb5) (o_ (ieq .i64 hb0) (o_ (ask6_eq { n with pairs := (flushHear n.pairs 0 m).1 } now 0 m.node 0) o0))))
  apply kj 530054
  intro hb6
  exact kl
  intro hb6
  exact kl
  intro hb5
  apply kc
  intro hb6
  apply kf [.priv [0], reqOf_c (reqOf m), .is 43 (.int .i64 12), .is 44 (.int .i64 0), ask12_c 0 (hear_x3 n now port m)] (o_ (reqOf_eq m) (o_ (ieq .i64 hb6) (o_ (ieq .i64 hb0) (o_ (ask12_eq { n with pairs := (flushHear n.pairs 0 m).1 } now 0 m.node (by have := (show (reqOf m) = 2 ∨ (reqOf m) = 5 ∨ (reqOf m) = 6 ∨ (reqOf m) = 12 ∨ (reqOf m) = 13 ∨ (reqOf m) = 14 from reqOf_dom m); first | omega | (simp only [zor, zand, zorf, zandf, znt, znf, zeq, zne, zeqf, znef, zd, zdf] at *; omega)) 0) o0))))
  apply kj 530054
  intro hb7
  exact kl
  intro hb7
  exact kl
  intro hb6
  apply kc
  intro hb7
  apply kf [.priv [0], reqOf_c (reqOf m), .is 43 (.int .i64 13), .is 44 (.int .i64 0), ask13_c 0 (hear_x4 n now port m)] (o_ (reqOf_eq m) (o_ (ieq .i64 hb7) (o_ (ieq .i64 hb0) (o_ (ask13_eq { n with pairs := (flushHear n.pairs 0 m).1 } now 0 m.node 0) o0))))
  apply kj 530054
  intro hb8
  exact kl
  intro hb8
  exact kl
  intro hb7
  apply kcs ((reqOf m) == 14)
  intro hb8
  apply kf [.priv [0], reqOf_c (reqOf m), .is 43 (.int .i64 14), .is 44 (.int .i64 0), ask14_c 0 (hear_x5 n now port m)] (o_ (reqOf_eq m) (o_ (ieq .i64 hb8) (o_ (ieq .i64 hb0) (o_ (ask14_eq { n with pairs := (flushHear n.pairs 0 m).1 } now 0 m.node 0) o0))))
  apply kj 530054
  intro hb9
  exact kl
  intro hb9
  exact kl
  intro hb8
  exact kx (by have := (show (reqOf m) = 2 ∨ (reqOf m) = 5 ∨ (reqOf m) = 6 ∨ (reqOf m) = 12 ∨ (reqOf m) = 13 ∨ (reqOf m) = 14 from reqOf_dom m); first | omega | (simp only [zor, zand, zorf, zandf, znt, znf, zeq, zne, zeqf, znef, zd, zdf] at *; omega))
  intro hb0
  apply kor
  apply kj 170018
  intro hb1
  exact kl
  intro hb1
  apply kor
  apply kj 240025
  intro hb2
  exact kl
  intro hb2
  apply kd .inl
  apply kd .inl
  apply ki 28
  intro hb3
  exact kl
  intro hb3
  have hq1 := (iis .i64 (a := port) (b := 1) (by first | omega | (simp only [zor, zand, zorf, zandf, znt, znf, zeq, zne, zeqf, znef, zd, zdf] at *; omega)))
  apply kv 33 hq1
  apply kk (flushHear_eq n.pairs 1 m)
  apply kc
  intro hb4
  apply kf [.priv [0], reqOf_c (reqOf m), .is 43 (.int .i64 2), .is 44 (.int .i64 1), ask2_c 0 (hear_x6 n now port m)] (o_ (reqOf_eq m) (o_ (ieq .i64 hb4) (o_ hq1 (o_ (ask2_eq { n with pairs := (flushHear n.pairs 1 m).1 } now 1 m.node 0) o0))))
  apply kj 530054
  intro hb5
  exact kl
  intro hb5
  exact kl
  intro hb4
  apply kc
  intro hb5
  apply kf [.priv [0], reqOf_c (reqOf m), .is 43 (.int .i64 5), .is 44 (.int .i64 1), ask5_c 0 (hear_x7 n now port m)] (o_ (reqOf_eq m) (o_ (ieq .i64 hb5) (o_ hq1 (o_ (ask5_eq { n with pairs := (flushHear n.pairs 1 m).1 } now 1 m.node 0) o0))))
  apply kj 530054
  intro hb6
  exact kl
  intro hb6
  exact kl
  intro hb5
  apply kc
  intro hb6
  apply kf [.priv [0], reqOf_c (reqOf m), .is 43 (.int .i64 6), .is 44 (.int .i64 1), ask6_c 0 (hear_x8 n now port m)] (o_ (reqOf_eq m) (o_ (ieq .i64 hb6) (o_ hq1 (o_ (ask6_eq { n with pairs := (flushHear n.pairs 1 m).1 } now 1 m.node 0) o0))))
  apply kj 530054
  intro hb7
  exact kl
  intro hb7
  exact kl
  intro hb6
  apply kc
  intro hb7
  apply kf [.priv [0], reqOf_c (reqOf m), .is 43 (.int .i64 12), .is 44 (.int .i64 1), ask12_c 0 (hear_x9 n now port m)] (o_ (reqOf_eq m) (o_ (ieq .i64 hb7) (o_ hq1 (o_ (ask12_eq { n with pairs := (flushHear n.pairs 1 m).1 } now 1 m.node (by have := (show (reqOf m) = 2 ∨ (reqOf m) = 5 ∨ (reqOf m) = 6 ∨ (reqOf m) = 12 ∨ (reqOf m) = 13 ∨ (reqOf m) = 14 from reqOf_dom m); first | omega | (simp only [zor, zand, zorf, zandf, znt, znf, zeq, zne, zeqf, znef, zd, zdf] at *; omega)) 0) o0))))
  apply kj 530054
  intro hb8
  exact kl
  intro hb8
  exact kl
  intro hb7
  apply kc
  intro hb8
  apply kf [.priv [0], reqOf_c (reqOf m), .is 43 (.int .i64 13), .is 44 (.int .i64 1), ask13_c 0 (hear_x10 n now port m)] (o_ (reqOf_eq m) (o_ (ieq .i64 hb8) (o_ hq1 (o_ (ask13_eq { n with pairs := (flushHear n.pairs 1 m).1 } now 1 m.node 0) o0))))
  apply kj 530054
  intro hb9
  exact kl
  intro hb9
  exact kl
  intro hb8
  apply kcs ((reqOf m) == 14)
  intro hb9
  apply kf [.priv [0], reqOf_c (reqOf m), .is 43 (.int .i64 14), .is 44 (.int .i64 1), ask14_c 0 (hear_x11 n now port m)] (o_ (reqOf_eq m) (o_ (ieq .i64 hb9) (o_ hq1 (o_ (ask14_eq { n with pairs := (flushHear n.pairs 1 m).1 } now 1 m.node 0) o0))))
  apply kj 530054
  intro hb10
  exact kl
  intro hb10
  exact kl
  intro hb9
  exact kx (by have := (show (reqOf m) = 2 ∨ (reqOf m) = 5 ∨ (reqOf m) = 6 ∨ (reqOf m) = 12 ∨ (reqOf m) = 13 ∨ (reqOf m) = 14 from reqOf_dom m); first | omega | (simp only [zor, zand, zorf, zandf, znt, znf, zeq, zne, zeqf, znef, zd, zdf] at *; omega))
  kernel_rfl
  rfl
def hear_S (n : Nd) (now : Int) (port : Int) (m : Msg) (r : Nd × Bool) : Prop := Same n r.1
theorem hear_same (n : Nd) (now : Int) (port : Int) (m : Msg) : hear_S n now port m (hear n now port m) := by
  unfold hear
  refine byIte (fun _ => ?_) (fun _ => ?_)
  refine byIte (fun _ => ?_) (fun _ => ?_)
  exact (Same.refl n)
  refine byIte (fun _ => ?_) (fun _ => ?_)
  refine byIte (fun _ => ?_) (fun _ => ?_)
  exact ((Same.refl n).trans (ask2_same { n with pairs := (flushHear n.pairs 0 m).1 } now 0 m.node))
  exact ((Same.refl n).trans (ask2_same { n with pairs := (flushHear n.pairs 0 m).1 } now 0 m.node))
  refine byIte (fun _ => ?_) (fun _ => ?_)
  refine byIte (fun _ => ?_) (fun _ => ?_)
  exact ((Same.refl n).trans (ask5_same { n with pairs := (flushHear n.pairs 0 m).1 } now 0 m.node))
  exact ((Same.refl n).trans (ask5_same { n with pairs := (flushHear n.pairs 0 m).1 } now 0 m.node))
  refine byIte (fun _ => ?_) (fun _ => ?_)
  refine byIte (fun _ => ?_) (fun _ => ?_)
  exact ((Same.refl n).trans (ask6_same { n with pairs := (flushHear n.pairs 0 m).1 } now 0 m.node))
  exact ((Same.refl n).trans (ask6_same { n with pairs := (flushHear n.pairs 0 m).1 } now 0 m.node))
  refine byIte (fun _ => ?_) (fun _ => ?_)
  refine byIte (fun _ => ?_) (fun _ => ?_)
  exact ((Same.refl n).trans (ask12_same { n with pairs := (flushHear n.pairs 0 m).1 } now 0 m.node))
  exact ((Same.refl n).trans (ask12_same { n with pairs := (flushHear n.pairs 0 m).1 } now 0 m.node))
  refine byIte (fun _ => ?_) (fun _ => ?_)
  refine byIte (fun _ => ?_) (fun _ => ?_)
  exact ((Same.refl n).trans (ask13_same { n with pairs := (flushHear n.pairs 0 m).1 } now 0 m.node))
  exact ((Same.refl n).trans (ask13_same { n with pairs := (flushHear n.pairs 0 m).1 } now 0 m.node))
  refine byIte (fun _ => ?_) (fun _ => ?_)
  exact ((Same.refl n).trans (ask14_same { n with pairs := (flushHear n.pairs 0 m).1 } now 0 m.node))
  exact ((Same.refl n).trans (ask14_same { n with pairs := (flushHear n.pairs 0 m).1 } now 0 m.node))
  refine byIte (fun _ => ?_) (fun _ => ?_)
  exact (Same.refl n)
  refine byIte (fun _ => ?_) (fun _ => ?_)
  refine byIte (fun _ => ?_) (fun _ => ?_)
  exact ((Same.refl n).trans (ask2_same { n with pairs := (flushHear n.pairs 1 m).1 } now 1 m.node))
  exact ((Same.refl n).trans (ask2_same { n with pairs := (flushHear n.pairs 1 m).1 } now 1 m.node))
  refine byIte (fun _ => ?_) (fun _ => ?_)
  refine byIte (fun _ => ?_) (fun _ => ?_)
  exact ((Same.refl n).trans (ask5_same { n with pairs := (flushHear n.pairs 1 m).1 } now 1 m.node))
  exact ((Same.refl n).trans (ask5_same { n with pairs := (flushHear n.pairs 1 m).1 } now 1 m.node))
  refine byIte (fun _ => ?_) (fun _ => ?_)
  refine byIte (fun _ => ?_) (fun _ => ?_)
  exact ((Same.refl n).trans (ask6_same { n with pairs := (flushHear n.pairs 1 m).1 } now 1 m.node))
  exact ((Same.refl n).trans (ask6_same { n with pairs := (flushHear n.pairs 1 m).1 } now 1 m.node))
  refine byIte (fun _ => ?_) (fun _ => ?_)
  refine byIte (fun _ => ?_) (fun _ => ?_)
  exact ((Same.refl n).trans (ask12_same { n with pairs := (flushHear n.pairs 1 m).1 } now 1 m.node))
  exact ((Same.refl n).trans (ask12_same { n with pairs := (flushHear n.pairs 1 m).1 } now 1 m.node))
  refine byIte (fun _ => ?_) (fun _ => ?_)
  refine byIte (fun _ => ?_) (fun _ => ?_)
  exact ((Same.refl n).trans (ask13_same { n with pairs := (flushHear n.pairs 1 m).1 } now 1 m.node))
  exact ((Same.refl n).trans (ask13_same { n with pairs := (flushHear n.pairs 1 m).1 } now 1 m.node))
  refine byIte (fun _ => ?_) (fun _ => ?_)
  exact ((Same.refl n).trans (ask14_same { n with pairs := (flushHear n.pairs 1 m).1 } now 1 m.node))
  exact ((Same.refl n).trans (ask14_same { n with pairs := (flushHear n.pairs 1 m).1 } now 1 m.node))

def runs0 (b : Bk) : Bool :=
  decide (b.g > 0)
def runs0_c (r : Bool) : Dir := .callL (.bool r) []
def runs0_E (r : Bool) : Value := .bool r
theorem runs0_eq (b : Bk) : AOn Tryz.prog 14 [.agg ⟨Bk.enc b⟩, .int .i64 0] [] (runs0_E (runs0 b)) [] := by
  unfold runs0
  apply onT 400 runs0_E
  apply kd .inl
  exact kl
  kernel_rfl
  rfl

def due0 (b : Bk) : Int :=
  IntKind.wrap .i64 (b.g - 1)
def due0_c (r : Int) : Dir := .callL (.int .i64 r) []
def due0_E (r : Int) : Value := .int .i64 r
theorem due0_eq (b : Bk) : AOn Tryz.prog 42 [.agg ⟨Bk.enc b⟩, .int .i64 0] [] (due0_E (due0 b)) [] := by
  unfold due0
  apply onT 400 due0_E
  apply kd .inl
  exact kl
  kernel_rfl
  rfl

def runs1 (b : Bk) : Bool :=
  decide (b.r > 0)
def runs1_c (r : Bool) : Dir := .callL (.bool r) []
def runs1_E (r : Bool) : Value := .bool r
theorem runs1_eq (b : Bk) : AOn Tryz.prog 14 [.agg ⟨Bk.enc b⟩, .int .i64 1] [] (runs1_E (runs1 b)) [] := by
  unfold runs1
  apply onT 400 runs1_E
  apply kd .inl
  exact kl
  kernel_rfl
  rfl

def due1 (b : Bk) : Int :=
  IntKind.wrap .i64 (b.r - 1)
def due1_c (r : Int) : Dir := .callL (.int .i64 r) []
def due1_E (r : Int) : Value := .int .i64 r
theorem due1_eq (b : Bk) : AOn Tryz.prog 42 [.agg ⟨Bk.enc b⟩, .int .i64 1] [] (due1_E (due1 b)) [] := by
  unfold due1
  apply onT 400 due1_E
  apply kd .inl
  exact kl
  kernel_rfl
  rfl

def runs2 (b : Bk) : Bool :=
  decide (b.w > 0)
def runs2_c (r : Bool) : Dir := .callL (.bool r) []
def runs2_E (r : Bool) : Value := .bool r
theorem runs2_eq (b : Bk) : AOn Tryz.prog 14 [.agg ⟨Bk.enc b⟩, .int .i64 2] [] (runs2_E (runs2 b)) [] := by
  unfold runs2
  apply onT 400 runs2_E
  apply kd .inl
  exact kl
  kernel_rfl
  rfl

def due2 (b : Bk) : Int :=
  IntKind.wrap .i64 (b.w - 1)
def due2_c (r : Int) : Dir := .callL (.int .i64 r) []
def due2_E (r : Int) : Value := .int .i64 r
theorem due2_eq (b : Bk) : AOn Tryz.prog 42 [.agg ⟨Bk.enc b⟩, .int .i64 2] [] (due2_E (due2 b)) [] := by
  unfold due2
  apply onT 400 due2_E
  apply kd .inl
  exact kl
  kernel_rfl
  rfl

def runs3 (b : Bk) : Bool :=
  false
def runs3_c (r : Bool) : Dir := .callL (.bool r) []
def runs3_E (r : Bool) : Value := .bool r
theorem runs3_eq (b : Bk) : AOn Tryz.prog 14 [.agg ⟨Bk.enc b⟩, .int .i64 3] [] (runs3_E (runs3 b)) [] := by
  unfold runs3
  apply onT 400 runs3_E
  apply kd .inl
  exact kl
  kernel_rfl
  rfl

def due3 (b : Bk) : Int :=
  (-1)
def due3_c (r : Int) : Dir := .callL (.int .i64 r) []
def due3_E (r : Int) : Value := .int .i64 r
theorem due3_eq (b : Bk) : AOn Tryz.prog 42 [.agg ⟨Bk.enc b⟩, .int .i64 3] [] (due3_E (due3 b)) [] := by
  unfold due3
  apply onT 400 due3_E
  apply kd .inl
  exact kl
  kernel_rfl
  rfl

def runs4 (b : Bk) : Bool :=
  false
def runs4_c (r : Bool) : Dir := .callL (.bool r) []
def runs4_E (r : Bool) : Value := .bool r
theorem runs4_eq (b : Bk) : AOn Tryz.prog 14 [.agg ⟨Bk.enc b⟩, .int .i64 4] [] (runs4_E (runs4 b)) [] := by
  unfold runs4
  apply onT 400 runs4_E
  apply kd .inl
  exact kl
  kernel_rfl
  rfl

def due4 (b : Bk) : Int :=
  (-1)
def due4_c (r : Int) : Dir := .callL (.int .i64 r) []
def due4_E (r : Int) : Value := .int .i64 r
theorem due4_eq (b : Bk) : AOn Tryz.prog 42 [.agg ⟨Bk.enc b⟩, .int .i64 4] [] (due4_E (due4 b)) [] := by
  unfold due4
  apply onT 400 due4_E
  apply kd .inl
  exact kl
  kernel_rfl
  rfl

def runs5 (b : Bk) : Bool :=
  false
def runs5_c (r : Bool) : Dir := .callL (.bool r) []
def runs5_E (r : Bool) : Value := .bool r
theorem runs5_eq (b : Bk) : AOn Tryz.prog 14 [.agg ⟨Bk.enc b⟩, .int .i64 5] [] (runs5_E (runs5 b)) [] := by
  unfold runs5
  apply onT 400 runs5_E
  apply kd .inl
  exact kl
  kernel_rfl
  rfl

def due5 (b : Bk) : Int :=
  (-1)
def due5_c (r : Int) : Dir := .callL (.int .i64 r) []
def due5_E (r : Int) : Value := .int .i64 r
theorem due5_eq (b : Bk) : AOn Tryz.prog 42 [.agg ⟨Bk.enc b⟩, .int .i64 5] [] (due5_E (due5 b)) [] := by
  unfold due5
  apply onT 400 due5_E
  apply kd .inl
  exact kl
  kernel_rfl
  rfl

def runs6 (b : Bk) : Bool :=
  false
def runs6_c (r : Bool) : Dir := .callL (.bool r) []
def runs6_E (r : Bool) : Value := .bool r
theorem runs6_eq (b : Bk) : AOn Tryz.prog 14 [.agg ⟨Bk.enc b⟩, .int .i64 6] [] (runs6_E (runs6 b)) [] := by
  unfold runs6
  apply onT 400 runs6_E
  apply kd .inl
  exact kl
  kernel_rfl
  rfl

def due6 (b : Bk) : Int :=
  (-1)
def due6_c (r : Int) : Dir := .callL (.int .i64 r) []
def due6_E (r : Int) : Value := .int .i64 r
theorem due6_eq (b : Bk) : AOn Tryz.prog 42 [.agg ⟨Bk.enc b⟩, .int .i64 6] [] (due6_E (due6 b)) [] := by
  unfold due6
  apply onT 400 due6_E
  apply kd .inl
  exact kl
  kernel_rfl
  rfl

def runs7 (b : Bk) : Bool :=
  false
def runs7_c (r : Bool) : Dir := .callL (.bool r) []
def runs7_E (r : Bool) : Value := .bool r
theorem runs7_eq (b : Bk) : AOn Tryz.prog 14 [.agg ⟨Bk.enc b⟩, .int .i64 7] [] (runs7_E (runs7 b)) [] := by
  unfold runs7
  apply onT 400 runs7_E
  apply kd .inl
  exact kl
  kernel_rfl
  rfl

def due7 (b : Bk) : Int :=
  (-1)
def due7_c (r : Int) : Dir := .callL (.int .i64 r) []
def due7_E (r : Int) : Value := .int .i64 r
theorem due7_eq (b : Bk) : AOn Tryz.prog 42 [.agg ⟨Bk.enc b⟩, .int .i64 7] [] (due7_E (due7 b)) [] := by
  unfold due7
  apply onT 400 due7_E
  apply kd .inl
  exact kl
  kernel_rfl
  rfl

def alike (a : Nd) (b : Nd) : Bool :=
  bif (!((runs0 a.bank) == (runs0 b.bank))) || (((due0 a.bank) != (due0 b.bank)) || ((!((runs1 a.bank) == (runs1 b.bank))) || (((due1 a.bank) != (due1 b.bank)) || ((!((runs2 a.bank) == (runs2 b.bank))) || ((due2 a.bank) != (due2 b.bank)))))) then
    false
  else
    bif (a.me == b.me) && ((a.role == b.role) && ((a.rpl == b.rpl) && ((a.revert == b.revert) && ((a.guard == b.guard) && ((a.rest == b.rest) && ((a.wait == b.wait) && ((a.state == b.state) && (((a.shut.w == b.shut.w) && ((a.shut.e == b.shut.e) && true)) && (((a.bad.w == b.bad.w) && ((a.bad.e == b.bad.e) && true)) && ((a.own == b.own) && ((((a.pairs.w.some == b.pairs.w.some) && ((a.pairs.w.east == b.pairs.w.east) && ((a.pairs.w.node == b.pairs.w.node) && true))) && (((a.pairs.e.some == b.pairs.e.some) && ((a.pairs.e.east == b.pairs.e.east) && ((a.pairs.e.node == b.pairs.e.node) && true))) && true)) && ((a.say.req == b.say.req) && ((a.say.block == b.say.block) && ((a.say.keep == b.say.keep) && ((a.say.east == b.say.east) && ((a.say.node == b.say.node) && true)))))))))))))))) then
      (a.burst.gap == b.burst.gap) && ((a.burst.period == b.burst.period) && ((a.burst.next == b.burst.next) && ((a.burst.on == b.burst.on) && ((a.burst.said == b.burst.said) && true))))
    else
      false
def alike_c (r : Bool) : Dir := .callL (.bool r) []
def alike_E (r : Bool) : Value := .bool r
theorem alike_eq (a : Nd) (b : Nd) : AOn Tryz.prog 15 [.agg ⟨Nd.enc a⟩, .agg ⟨Nd.enc b⟩] [] (alike_E (alike a b)) [] := by
  unfold alike
  apply onT 400 alike_E
  apply kor
  apply kc
  intro hb0
  apply kf (runs0_c (runs0 a.bank) :: runs0_c (runs0 b.bank) :: gds 7 18 true []) (o_ (runs0_eq a.bank) (o_ (runs0_eq b.bank) (oN 7 hb0 o0)))
  apply ku 180026 hb0
  exact kl
  intro hb0
  apply kf (runs0_c (runs0 a.bank) :: runs0_c (runs0 b.bank) :: gds 4 18 false (due0_c (due0 a.bank) :: gds 3 18 false [])) (o_ (runs0_eq a.bank) (o_ (runs0_eq b.bank) (oN 4 hb0 (o_ (due0_eq a.bank) (oN 3 hb0 o0)))))
  apply ku 180026 hb0
  apply kk (due0_eq b.bank)
  apply kor
  apply ki 28
  intro hb1
  exact kl
  intro hb1
  apply kor
  apply kc
  intro hb2
  apply kf (runs1_c (runs1 a.bank) :: runs1_c (runs1 b.bank) :: gds 7 18 true []) (o_ (runs1_eq a.bank) (o_ (runs1_eq b.bank) (oN 7 hb2 o0)))
  apply ku 180026 hb2
  exact kl
  intro hb2
  apply kf (runs1_c (runs1 a.bank) :: runs1_c (runs1 b.bank) :: gds 4 18 false (due1_c (due1 a.bank) :: gds 3 18 false [])) (o_ (runs1_eq a.bank) (o_ (runs1_eq b.bank) (oN 4 hb2 (o_ (due1_eq a.bank) (oN 3 hb2 o0)))))
  apply ku 180026 hb2
  apply kk (due1_eq b.bank)
  apply kor
  apply ki 28
  intro hb3
  exact kl
  intro hb3
  apply kor
  apply kc
  intro hb4
  apply kf (runs2_c (runs2 a.bank) :: runs2_c (runs2 b.bank) :: gds 7 18 true []) (o_ (runs2_eq a.bank) (o_ (runs2_eq b.bank) (oN 7 hb4 o0)))
  apply ku 180026 hb4
  exact kl
  intro hb4
  apply kf (runs2_c (runs2 a.bank) :: runs2_c (runs2 b.bank) :: gds 4 18 false (due2_c (due2 a.bank) :: gds 3 18 false [])) (o_ (runs2_eq a.bank) (o_ (runs2_eq b.bank) (oN 4 hb4 (o_ (due2_eq a.bank) (oN 3 hb4 o0)))))
  apply ku 180026 hb4
  apply kk (due2_eq b.bank)
  apply ki 28
  intro hb5
  exact kl
  intro hb5
  apply kf [.callL (.bool false) [], .callL (.bool false) [], .callL (.int .i64 (-1)) []] (o_ (runs3_eq a.bank) (o_ (runs3_eq b.bank) (o_ (due3_eq a.bank) o0)))
  apply kk (due3_eq b.bank)
  apply kf [.callL (.bool false) [], .callL (.bool false) [], .callL (.int .i64 (-1)) []] (o_ (runs4_eq a.bank) (o_ (runs4_eq b.bank) (o_ (due4_eq a.bank) o0)))
  apply kk (due4_eq b.bank)
  apply kf [.callL (.bool false) [], .callL (.bool false) [], .callL (.int .i64 (-1)) []] (o_ (runs5_eq a.bank) (o_ (runs5_eq b.bank) (o_ (due5_eq a.bank) o0)))
  apply kk (due5_eq b.bank)
  apply kf [.callL (.bool false) [], .callL (.bool false) [], .callL (.int .i64 (-1)) []] (o_ (runs6_eq a.bank) (o_ (runs6_eq b.bank) (o_ (due6_eq a.bank) o0)))
  apply kk (due6_eq b.bank)
  apply kf [.callL (.bool false) [], .callL (.bool false) [], .callL (.int .i64 (-1)) []] (o_ (runs7_eq a.bank) (o_ (runs7_eq b.bank) (o_ (due7_eq a.bank) o0)))
  apply kk (due7_eq b.bank)
  apply kand
  apply kj 350036
  intro hb6
  apply kand
  apply kj 420043
  intro hb7
  apply kand
  apply kj 490050
  intro hb8
  apply kand
  apply kj 560057
  intro hb9
  apply kand
  apply kj 630064
  intro hb10
  apply kand
  apply kj 700071
  intro hb11
  apply kand
  apply kj 770078
  intro hb12
  apply kand
  apply kj 840085
  intro hb13
  apply kand
  apply kj 910092
  intro hb14
  apply kand
  apply kj 980099
  intro hb15
  apply kand
  apply kj 1050106
  intro hb16
  apply kand
  apply kj 1120113
  intro hb17
  apply kj 1190120
  intro hb18
  exact kl
  intro hb18
  exact kl
  intro hb17
  exact kl
  intro hb16
  exact kl
  intro hb15
  exact kl
  intro hb14
  exact kl
  intro hb13
  exact kl
  intro hb12
  exact kl
  intro hb11
  exact kl
  intro hb10
  exact kl
  intro hb9
  exact kl
  intro hb8
  exact kl
  intro hb7
  exact kl
  intro hb6
  exact kl
  kernel_rfl
  rfl

end Go.Proofs.E17

namespace Go.Proofs.E17
open Go Go.AX Go.Proofs
set_option maxRecDepth 1000000
set_option linter.unusedVariables false
set_option linter.unusedSimpArgs false

def erpsNew_x0 (p : Plan) (i : Int) (now : Int) : Nd := says (Nd.mk (planNode p i) 0 (-1) p.revert p.guard p.rest p.wait 4 (B2.mk false true) (B2.mk false false) 14 (Bk.mk 0 0 0) (P2.mk (Pair.mk false false 0) (Pair.mk false false 0)) (Msg.mk 0 false false false 0) ((burstNew p.gap p.period).1)) now (Msg.mk 0 false false true 0)
def erpsNew_x1 (p : Plan) (i : Int) (now : Int) : Nd := start1 (erpsNew_x0 p i now) now ((erpsNew_x0 p i now).rest)
def erpsNew_x2 (p : Plan) (i : Int) (now : Int) : Nd := says (Nd.mk (planNode p i) 1 1 p.revert p.guard p.rest p.wait 4 (B2.mk false true) (B2.mk false false) 14 (Bk.mk 0 0 0) (P2.mk (Pair.mk false false 0) (Pair.mk false false 0)) (Msg.mk 0 false false false 0) ((burstNew p.gap p.period).1)) now (Msg.mk 0 false false true 0)
def erpsNew_x3 (p : Plan) (i : Int) (now : Int) : Nd := start1 (erpsNew_x2 p i now) now ((erpsNew_x2 p i now).rest)
def erpsNew_x4 (p : Plan) (i : Int) (now : Int) : Nd := says (Nd.mk (planNode p i) 2 0 p.revert p.guard p.rest p.wait 4 (B2.mk true false) (B2.mk false false) 14 (Bk.mk 0 0 0) (P2.mk (Pair.mk false false 0) (Pair.mk false false 0)) (Msg.mk 0 false false false 0) ((burstNew p.gap p.period).1)) now (Msg.mk 0 false false false 0)
def erpsNew_x5 (p : Plan) (i : Int) (now : Int) : Nd := start1 (erpsNew_x4 p i now) now ((erpsNew_x4 p i now).rest)
def erpsNew (p : Plan) (i : Int) (now : Int) : Nd × Int :=
  bif (planCheck p) != 0 then
    ((Nd.mk 0 0 0 false 0 0 0 0 (B2.mk false false) (B2.mk false false) 0 (Bk.mk 0 0 0) (P2.mk (Pair.mk false false 0) (Pair.mk false false 0)) (Msg.mk 0 false false false 0) (Burst.mk 0 0 0 false 0)), (planCheck p))
  else
    bif (decide (i < 0)) || ((decide (i ≥ p.nodes)) || ((decide (now < 0)) || (decide (now > 1099509530624)))) then
      ((Nd.mk 0 0 0 false 0 0 0 0 (B2.mk false false) (B2.mk false false) 0 (Bk.mk 0 0 0) (P2.mk (Pair.mk false false 0) (Pair.mk false false 0)) (Msg.mk 0 false false false 0) (Burst.mk 0 0 0 false 0)), 4)
    else
      bif ((burstNew p.gap p.period).2) != 0 then
        ((Nd.mk 0 0 0 false 0 0 0 0 (B2.mk false false) (B2.mk false false) 0 (Bk.mk 0 0 0) (P2.mk (Pair.mk false false 0) (Pair.mk false false 0)) (Msg.mk 0 false false false 0) (Burst.mk 0 0 0 false 0)), (burstNew p.gap p.period).2)
      else
        bif !(decide (i < p.nodes)) then
          bif (((erpsNew_x0 p i now).role) == 1) && ((erpsNew_x0 p i now).revert) then
            ((erpsNew_x1 p i now), 0)
          else
            ((erpsNew_x0 p i now), 0)
        else
          bif i == p.owner then
            bif (((erpsNew_x2 p i now).role) == 1) && ((erpsNew_x2 p i now).revert) then
              ((erpsNew_x3 p i now), 0)
            else
              ((erpsNew_x2 p i now), 0)
          else
            bif i == (Int.tmod (IntKind.wrap .i64 (p.owner + 1)) p.nodes) then
              bif (((erpsNew_x4 p i now).role) == 1) && ((erpsNew_x4 p i now).revert) then
                ((erpsNew_x5 p i now), 0)
              else
                ((erpsNew_x4 p i now), 0)
            else
              bif (((erpsNew_x0 p i now).role) == 1) && ((erpsNew_x0 p i now).revert) then
                ((erpsNew_x1 p i now), 0)
              else
                ((erpsNew_x0 p i now), 0)
def erpsNew_c (r : Nd × Int) : Dir := .callL (.tuple ⟨[.agg ⟨Nd.enc r.1⟩, .int .i64 r.2]⟩) []
def erpsNew_E (r : Nd × Int) : Value := .tuple ⟨[.agg ⟨Nd.enc r.1⟩, .int .i64 r.2]⟩
theorem erpsNew_eq (p : Plan) (i : Int) (now : Int) : AOn Tryz.prog 6 [.agg ⟨Plan.enc p⟩, .int .i64 i, .int .i64 now] [] (erpsNew_E (erpsNew p i now)) [] := by
  unfold erpsNew
  apply onT 400 erpsNew_E
  apply kk (planCheck_eq p)
  apply ki 16
  intro hb0
  exact kl
  intro hb0
  apply kor
  apply kj 210022
  intro hb1
  exact kl
  intro hb1
  apply kor
  apply kj 270028
  intro hb2
  exact kl
  intro hb2
  apply kor
  apply kj 310032
  intro hb3
  exact kl
  intro hb3
  apply ki 34
  intro hb4
  exact kl
  intro hb4
  apply kk (burstNew_eq p.gap p.period)
  apply ki 45
  intro hb5
  exact kl
  intro hb5
  apply kf [planNode_c (planNode p i)] (o_ (planNode_eq p i) o0)
  apply kd .inl
  apply kd .inl
  apply kk (planCheck_eq p)
  apply ku 80009 (show ((planCheck p) == 0) = true from by first | omega | (simp only [zor, zand, zorf, zandf, znt, znf, zeq, zne, zeqf, znef, zd, zdf] at *; omega))
  apply ku 120013 (show (decide (i ≥ 0)) = true from by first | omega | (simp only [zor, zand, zorf, zandf, znt, znf, zeq, zne, zeqf, znef, zd, zdf] at *; omega))
  apply ki 6
  intro hb6
  apply kk (says_eq (Nd.mk (planNode p i) 0 (-1) p.revert p.guard p.rest p.wait 4 (B2.mk false true) (B2.mk false false) 14 (Bk.mk 0 0 0) (P2.mk (Pair.mk false false 0) (Pair.mk false false 0)) (Msg.mk 0 false false false 0) ((burstNew p.gap p.period).1)) now (Msg.mk 0 false false true 0) 3)
  apply kd .inl
  apply kand
  apply kj 60007
  intro hb7
  apply ki 83
  intro hb8
  apply kk (start1_eq (erpsNew_x0 p i now) now ((erpsNew_x0 p i now).rest) 3)
  exact kl
  intro hb8
  exact kl
  intro hb7
  exact kl
  intro hb6
  apply ki 11
  intro hb7
  apply kk (says_eq (Nd.mk (planNode p i) 1 1 p.revert p.guard p.rest p.wait 4 (B2.mk false true) (B2.mk false false) 14 (Bk.mk 0 0 0) (P2.mk (Pair.mk false false 0) (Pair.mk false false 0)) (Msg.mk 0 false false false 0) ((burstNew p.gap p.period).1)) now (Msg.mk 0 false false true 0) 3)
  apply kd .inl
  apply kand
  apply kj 60007
  intro hb8
  apply ki 83
  intro hb9
  apply kk (start1_eq (erpsNew_x2 p i now) now ((erpsNew_x2 p i now).rest) 3)
  exact kl
  intro hb9
  exact kl
  intro hb8
  exact kl
  intro hb7
  apply kd (.owe 23)
  apply kp (bs1 (b0 := decide (p.nodes ≠ 0)) (by first | omega | (simp only [zor, zand, zorf, zandf, znt, znf, zeq, zne, zeqf, znef, zd, zdf] at *; omega)))
  apply ki 16
  intro hb8
  apply kk (says_eq (Nd.mk (planNode p i) 2 0 p.revert p.guard p.rest p.wait 4 (B2.mk true false) (B2.mk false false) 14 (Bk.mk 0 0 0) (P2.mk (Pair.mk false false 0) (Pair.mk false false 0)) (Msg.mk 0 false false false 0) ((burstNew p.gap p.period).1)) now (Msg.mk 0 false false false 0) 3)
  apply kd .inl
  apply kand
  apply kj 60007
  intro hb9
  apply ki 83
  intro hb10
  apply kk (start1_eq (erpsNew_x4 p i now) now ((erpsNew_x4 p i now).rest) 3)
  exact kl
  intro hb10
  exact kl
  intro hb9
  exact kl
  intro hb8
  apply kk (says_eq (Nd.mk (planNode p i) 0 (-1) p.revert p.guard p.rest p.wait 4 (B2.mk false true) (B2.mk false false) 14 (Bk.mk 0 0 0) (P2.mk (Pair.mk false false 0) (Pair.mk false false 0)) (Msg.mk 0 false false false 0) ((burstNew p.gap p.period).1)) now (Msg.mk 0 false false true 0) 3)
  apply kd .inl
  apply kand
  apply kj 60007
  intro hb9
  apply ki 83
  intro hb10
  apply kk (start1_eq (erpsNew_x0 p i now) now ((erpsNew_x0 p i now).rest) 3)
  exact kl
  intro hb10
  exact kl
  intro hb9
  exact kl
  kernel_rfl
  rfl

theorem erpsNew_role (p : Plan) (i : Int) (now : Int) : RoleOk (erpsNew p i now).1 := by
  let G : Nd × Int → Prop := fun r => RoleOk r.1
  show G (erpsNew p i now)
  have h0 : RoleOk (erpsNew_x0 p i now) := (says_same _ _ _).roleOk (fun h => absurd rfl h)
  have h2 : RoleOk (erpsNew_x2 p i now) := (says_same _ _ _).roleOk (fun _ => .inr rfl)
  have h4 : RoleOk (erpsNew_x4 p i now) := (says_same _ _ _).roleOk (fun _ => .inl rfl)
  have h1 : RoleOk (erpsNew_x1 p i now) := (start1_same _ _ _).roleOk h0
  have h3 : RoleOk (erpsNew_x3 p i now) := (start1_same _ _ _).roleOk h2
  have h5 : RoleOk (erpsNew_x5 p i now) := (start1_same _ _ _).roleOk h4
  unfold erpsNew
  repeat' (first | (refine byIte (fun _ => ?_) (fun _ => ?_)) | exact h0 | exact h1 | exact h2 | exact h3 | exact h4 | exact h5 | exact fun h => absurd rfl h)

end Go.Proofs.E17

namespace Go.Proofs.E17
open Go Go.AX Go.Proofs
set_option maxRecDepth 1000000
set_option linter.unusedVariables false
set_option linter.unusedSimpArgs false

def tickL_x0 (now : Int) (n : Nd) (emp : Bool) : Nd × Bool × Bool := ask8 { n with bank := (timerPop n.bank now).2.1 } now 0 0
def tickL_x1 (now : Int) (n : Nd) (emp : Bool) : Nd × Bool × Bool := ask10 { n with bank := (timerPop n.bank now).2.1 } now 0 0
noncomputable def tickL_at (now : Int) (s : Nd × Bool) : Tm × AHeap := ((Tm.told 58 [(1, .int .i64 now), (2, .pointer (some ⟨0, 0, none⟩)), (4, .pointer (some ⟨1, 0, none⟩)), (7, .bool s.2)]), [.cells (Nd.enc s.1) 44 37, .cells [.int .u64 0, .int .i64 0, .int .i64 0, .bool false, .int .i64 0, .int .i64 0, .int .i64 0, .int .i64 0, .bool false, .bool false, .bool false, .bool false, .int .i64 0, .int .i64 0, .int .i64 0, .int .i64 0, .int .i64 0, .int .i64 0, .int .i64 0, .int .i64 0, .int .i64 0, .bool false, .bool false, .int .u64 0, .bool false, .bool false, .int .u64 0, .int .u8 0, .bool false, .bool false, .bool false, .int .u64 0, .int .i64 0, .int .i64 0, .int .i64 0, .bool false, .int .i64 0] 44 37])
noncomputable def tickL_out (now : Int) (s : Nd × Bool) : Tm × AHeap := ((Tm.told 58 [(1, .int .i64 now), (2, .pointer (some ⟨0, 0, none⟩)), (4, .pointer (some ⟨1, 0, none⟩)), (7, .bool s.2)]), [.cells (Nd.enc s.1) 44 37, .cells [.int .u64 0, .int .i64 0, .int .i64 0, .bool false, .int .i64 0, .int .i64 0, .int .i64 0, .int .i64 0, .bool false, .bool false, .bool false, .bool false, .int .i64 0, .int .i64 0, .int .i64 0, .int .i64 0, .int .i64 0, .int .i64 0, .int .i64 0, .int .i64 0, .int .i64 0, .bool false, .bool false, .int .u64 0, .bool false, .bool false, .int .u64 0, .int .u8 0, .bool false, .bool false, .bool false, .int .u64 0, .int .i64 0, .int .i64 0, .int .i64 0, .bool false, .int .i64 0] 44 37])
def tickL_s (now : Int) (n : Nd) (emp : Bool) : Bool × Nd × Bool :=
  bif !((timerPop n.bank now).2.2) then
    (false, n, emp)
  else
    bif ((timerPop n.bank now).1) == 1 then
      bif (tickL_x0 now n emp).2.1 then
        (true, ((tickL_x0 now n emp).1), true)
      else
        (true, ((tickL_x0 now n emp).1), emp)
    else
      bif ((timerPop n.bank now).1) == 2 then
        bif (tickL_x1 now n emp).2.1 then
          (true, ((tickL_x1 now n emp).1), true)
        else
          (true, ((tickL_x1 now n emp).1), emp)
      else
        (true, { n with bank := (timerPop n.bank now).2.1 }, emp)
def tickL (now : Int) (s : Nd × Bool) : Bool × Nd × Bool := tickL_s now s.1 s.2
noncomputable def tickL_E (now : Int) (r : Bool × Nd × Bool) : Exit × Tm × AHeap := (bif r.1 then .normal else .exit 0, bif r.1 then tickL_at now r.2 else tickL_out now r.2)
theorem tickL_round (now : Int) (n : Nd) (emp : Bool) (hr : n.role ≠ 0 → n.rpl = 0 ∨ n.rpl = 1) : AComes Tryz.prog 0 (roundAt Tryz.prog 9 0) (tickL_at now (n, emp)).1 (tickL_at now (n, emp)).2 (tickL_E now (tickL_s now n emp)).1 (tickL_E now (tickL_s now n emp)).2.1 (tickL_E now (tickL_s now n emp)).2.2 := by
  unfold tickL_s
  apply codeT 400 (tickL_E now)
  apply kk (timerPop_eq n.bank now)
  apply ki 25
  intro hb0
  exact kg [0, 1] [] [1, 2, 4, 7] o0
  intro hb0
  apply ki 29
  intro hb1
  apply kd .inl
  apply kk (ask8_eq { n with bank := (timerPop n.bank now).2.1 } now 0 0 (by first | omega | (simp only [zor, zand, zorf, zandf, znt, znf, zeq, zne, zeqf, znef, zd, zdf] at *; omega)) 0)
  apply kj 430044
  intro hb2
  exact kg [0, 1] [] [1, 2, 4, 7] o0
  intro hb2
  exact kg [0, 1] [] [1, 2, 4, 7] o0
  intro hb1
  apply ki 31
  intro hb2
  apply kd .inl
  apply kk (ask10_eq { n with bank := (timerPop n.bank now).2.1 } now 0 0 (by first | omega | (simp only [zor, zand, zorf, zandf, znt, znf, zeq, zne, zeqf, znef, zd, zdf] at *; omega)) 0)
  apply kj 430044
  intro hb3
  exact kg [0, 1] [] [1, 2, 4, 7] o0
  intro hb3
  exact kg [0, 1] [] [1, 2, 4, 7] o0
  intro hb2
  apply kd .inl
  exact kg [0, 1] [] [1, 2, 4, 7] o0
  kernel_rfl
theorem tickL_loop (now : Int) (μ : Nd × Bool → Nat) (I : Nd × Bool → Prop) (hI0 : ∀ s, I s → (fun s : Nd × Bool => (s.1.role ≠ 0 → s.1.rpl = 0 ∨ s.1.rpl = 1)) s) (hI : ∀ s, I s → (tickL now s).1 = true → I (tickL now s).2) (hμ : ∀ s, I s → (tickL now s).1 = true → μ (tickL now s).2 < μ s) (N : Nat) (s : Nd × Bool) (hs : I s) (hN : μ s ≤ N) : AComes Tryz.prog 0 (loopAt Tryz.prog 9 0) (tickL_at now s).1 (tickL_at now s).2 (.exit 0) (tickL_out now (stepsN (tickL now) N s)).1 (tickL_out now (stepsN (tickL now) N s)).2 := by
  have e : loopAt Tryz.prog 9 0 = .loop (roundAt Tryz.prog 9 0) := by kernel_rfl
  rw [e]
  exact loopStepI (by simp) (tickL now) μ (tickL_at now) (tickL_out now) I hI hμ (fun s hs0 => by have hs := hI0 s hs0; exact tickL_round now s.1 s.2 hs) N s hs hN

end Go.Proofs.E17

namespace Go.Proofs.E17
open Go Go.AX Go.Proofs
set_option linter.unusedVariables false
set_option linter.unusedSimpArgs false
def cnt (b : Bk) : Nat := (if b.g > 0 then 1 else 0) + ((if b.r > 0 then 1 else 0) + (if b.w > 0 then 1 else 0))
theorem cnt_le (b : Bk) : cnt b ≤ 3 := by unfold cnt; split <;> split <;> split <;> decide

theorem take_bank (n : Nd) (now port : Int) (m : Msg) (bad : Bool) : (take n now port m bad).1.bank = n.bank := by
  unfold take
  cases port == 0 <;> cases bad <;> rfl

theorem do10_bank (n : Nd) (now k port fro : Int) : (do10 n now k port fro).1.bank = n.bank := take_bank _ _ _ _ _
def Less (b c : Bk) : Prop := (c.g = b.g ∨ c.g = 0) ∧ (c.r = b.r ∨ c.r = 0) ∧ (c.w = b.w ∨ c.w = 0)
theorem Less.cnt {b c : Bk} (h : Less b c) : cnt c ≤ cnt b := by
  obtain ⟨h1, h2, h3⟩ := h
  unfold E17.cnt
  rcases h1 with h1 | h1 <;> rcases h2 with h2 | h2 <;> rcases h3 with h3 | h3 <;> rw [h1, h2, h3] <;> (repeat' split) <;> omega

theorem ask8_less (n : Nd) (now port fro : Int) : Less n.bank (ask8 n now port fro).1.bank := by
  let G : Nd × Bool × Bool → Prop := fun r => Less n.bank r.1.bank
  show G (ask8 n now port fro)
  unfold ask8
  repeat' (first | (refine byIte (fun _ => ?_) (fun _ => ?_)) | exact ⟨.inl rfl, .inl rfl, .inl rfl⟩ | (show Less _ (Bk.mk (do10 n now 8 port fro).1.bank.g 0 0); rw [do10_bank]; exact ⟨.inl rfl, .inr rfl, .inr rfl⟩))
theorem ask10_less (n : Nd) (now port fro : Int) : Less n.bank (ask10 n now port fro).1.bank := by
  let G : Nd × Bool × Bool → Prop := fun r => Less n.bank r.1.bank
  show G (ask10 n now port fro)
  unfold ask10
  repeat' (first | (refine byIte (fun _ => ?_) (fun _ => ?_)) | exact ⟨.inl rfl, .inl rfl, .inl rfl⟩ | (show Less _ (Bk.mk (do10 n now 10 port fro).1.bank.g 0 0); rw [do10_bank]; exact ⟨.inl rfl, .inr rfl, .inr rfl⟩))

theorem cnt_g (b : Bk) (h : b.g > 0) : cnt { b with g := 0 } < cnt b := by unfold cnt; simp only [h, if_true]; (repeat' split) <;> omega
theorem cnt_r (b : Bk) (h : b.r > 0) : cnt { b with r := 0 } < cnt b := by unfold cnt; simp only [h, if_true]; (repeat' split) <;> omega
theorem cnt_w (b : Bk) (h : b.w > 0) : cnt { b with w := 0 } < cnt b := by unfold cnt; simp only [h, if_true]; (repeat' split) <;> omega

def PopG (b : Bk) (r : Int × Bk × Bool) : Prop := r.2.2 = true → cnt r.2.1 < cnt b
theorem pop_cnt (b : Bk) (now : Int) : PopG b (timerPop b now) := by
  unfold timerPop
  repeat' (first | (refine byIte (fun _ => ?_) (fun _ => ?_)) | exact fun h => Bool.noConfusion h | (simp only [zd, zdf, zand] at *; first | exact fun _ => cnt_w b (by omega) | exact fun _ => cnt_r b (by omega) | exact fun _ => cnt_g b (by omega)))

def TickG (n : Nd) (r : Bool × Nd × Bool) : Prop := r.1 = true → cnt r.2.1.bank < cnt n.bank
theorem tick_mu (now : Int) (s : Nd × Bool) : TickG s.1 (tickL now s) := by
  obtain ⟨n, emp⟩ := s
  unfold tickL tickL_s tickL_x0 tickL_x1
  refine byIte (fun _ h => Bool.noConfusion h) (fun hb => ?_)
  have hp : (timerPop n.bank now).2.2 = true := by simpa using hb
  have hc := pop_cnt n.bank now hp
  have h8 : cnt (ask8 { n with bank := (timerPop n.bank now).2.1 } now 0 0).1.bank < cnt n.bank := Nat.lt_of_le_of_lt (ask8_less { n with bank := (timerPop n.bank now).2.1 } now 0 0).cnt hc
  have h10 : cnt (ask10 { n with bank := (timerPop n.bank now).2.1 } now 0 0).1.bank < cnt n.bank := Nat.lt_of_le_of_lt (ask10_less { n with bank := (timerPop n.bank now).2.1 } now 0 0).cnt hc
  refine byIte (fun _ => byIte (fun _ _ => h8) (fun _ _ => h8)) (fun _ => byIte (fun _ => byIte (fun _ _ => h10) (fun _ _ => h10)) (fun _ _ => hc))

theorem tickL_same (now : Int) (s : Nd × Bool) : Same s.1 (tickL now s).2.1 := by
  obtain ⟨n, emp⟩ := s
  let G : Bool × Nd × Bool → Prop := fun r => Same n r.2.1
  show G (tickL now (n, emp))
  unfold tickL tickL_s tickL_x0 tickL_x1
  repeat' (first | (refine byIte (fun _ => ?_) (fun _ => ?_)) | exact Same.refl n | exact ask8_same { n with bank := (timerPop n.bank now).2.1 } _ _ _ | exact ask10_same { n with bank := (timerPop n.bank now).2.1 } _ _ _)

theorem tickN_same (now : Int) : ∀ (N : Nat) (s : Nd × Bool), Same s.1 (stepsN (tickL now) N s).1
  | 0, s => tickL_same now s
  | N + 1, s => by
    unfold stepsN
    exact byIte (G := fun r : Nd × Bool => Same s.1 r.1) (fun _ => (tickL_same now s).trans (tickN_same now N _)) (fun _ => tickL_same now s)

theorem tickL_all (now : Int) (n : Nd) (emp : Bool) (hr : RoleOk n) : AComes Tryz.prog 0 (loopAt Tryz.prog 9 0) (tickL_at now (n, emp)).1 (tickL_at now (n, emp)).2 (.exit 0) (tickL_out now (stepsN (tickL now) 3 (n, emp))).1 (tickL_out now (stepsN (tickL now) 3 (n, emp))).2 :=
  tickL_loop now (fun s => cnt s.1.bank) (fun s => RoleOk s.1) (fun s h => h) (fun s h _ => (tickL_same now s).roleOk h) (fun s _ => tick_mu now s) 3 (n, emp) hr (cnt_le _)
end Go.Proofs.E17

namespace Go.Proofs.E17
open Go Go.AX Go.Proofs
set_option maxRecDepth 1000000
set_option linter.unusedVariables false
set_option linter.unusedSimpArgs false

def tick_x0 (n : Nd) (now : Int) : Burst × Bool := burstTick (((stepsN (tickL now) 3 (n, false)).1).burst) now
def tick (n : Nd) (now : Int) : Nd × Bool × Bool :=
  ({ ((stepsN (tickL now) 3 (n, false)).1) with burst := (tick_x0 n now).1 }, (tick_x0 n now).2, (stepsN (tickL now) 3 (n, false)).2)
def tick_c (r : Nd × Bool × Bool) : Dir := .callL (.tuple ⟨[.agg ⟨Nd.enc r.1⟩, .bool r.2.1, .bool r.2.2]⟩) []
def tick_E (r : Nd × Bool × Bool) : Value := .tuple ⟨[.agg ⟨Nd.enc r.1⟩, .bool r.2.1, .bool r.2.2]⟩
theorem tick_eq (n : Nd) (now : Int) (hr : n.role ≠ 0 → n.rpl = 0 ∨ n.rpl = 1) : AOn Tryz.prog 9 [.agg ⟨Nd.enc n⟩, .int .i64 now] [] (tick_E (tick n now)) [] := by
  unfold tick
  apply onT 400 tick_E
  apply kL [0, 1] [] [1, 2, 4, 7] o0 (tickL_all now n false hr)
  apply kk (burstTick_eq (((stepsN (tickL now) 3 (n, false)).1).burst) now)
  exact kl
  kernel_rfl
  rfl

theorem tick_same (n : Nd) (now : Int) : Same n (tick n now).1 := tickN_same now 3 (n, false)

end Go.Proofs.E17

namespace Go.Proofs.E17
open Go Go.AX Go.Proofs
set_option maxRecDepth 1000000
set_option linter.unusedVariables false
set_option linter.unusedSimpArgs false

structure Act17 where
  kind : Int
  later : Int
  order : Int
  port : Int
  bad : Bool
  m : Msg
def Act17.enc (x : Act17) : List Value := [.int .u8 x.kind, .int .u16 x.later, .int .i64 x.order, .int .i64 x.port, .bool x.bad, .int .u8 x.m.req, .bool x.m.block, .bool x.m.keep, .bool x.m.east, .int .u64 x.m.node]
theorem Act17_len (x : Act17) : (Act17.enc x).length = 10 := rfl
theorem Act17_bare (x : Act17) : (Act17.enc x).all (okIds fun _ => false) = true := rfl
instance : Inhabited Act17 := ⟨⟨0, 0, 0, 0, false, ⟨0, false, false, false, 0⟩⟩⟩

end Go.Proofs.E17

namespace Go.Proofs.Field
open Go Go.AX
set_option linter.unusedVariables false
set_option linter.unusedSimpArgs false
def be (V k : Nat) : List Int := (List.range k).map fun j => ((V / 256 ^ (k - 1 - j) % 256 : Nat) : Int)
theorem be_length (V k : Nat) : (be V k).length = k := by simp [be]
theorem be_snoc (V x k : Nat) (hx : x < 256) : be (V * 256 + x) (k + 1) = be V k ++ [(x : Int)] := by
  unfold be
  rw [List.range_succ, List.map_append]
  congr 1
  · apply List.map_congr_left
    intro j hj
    have hj := List.mem_range.1 hj
    have e : k + 1 - 1 - j = (k - 1 - j) + 1 := by omega
    rw [e, Nat.pow_succ, Nat.mul_comm (256 ^ _) 256, ← Nat.div_div_eq_div_mul]
    have : (V * 256 + x) / 256 = V := by omega
    rw [this]
  · simp only [List.map_cons, List.map_nil, List.cons.injEq, and_true]
    have e : k + 1 - 1 - k = 0 := by omega
    rw [e, Nat.pow_zero, Nat.div_one]
    have : (V * 256 + x) % 256 = x := by omega
    rw [this]
def wb (V n : Nat) : List Int := be (V * 2 ^ ((8 - n % 8) % 8)) ((n + 7) / 8)
theorem wb_length (V n : Nat) : (wb V n).length = (n + 7) / 8 := be_length _ _

theorem wb_new (V n b : Nat) (hb : b ≤ 1) (hn : n % 8 = 0) : wb (2 * V + b) (n + 1) = wb V n ++ [((b * 128 : Nat) : Int)] := by
  unfold wb
  have e1 : (8 - n % 8) % 8 = 0 := by omega
  have e2 : (8 - (n + 1) % 8) % 8 = 7 := by omega
  have e3 : (n + 1 + 7) / 8 = (n + 7) / 8 + 1 := by omega
  rw [e1, e2, e3, ← be_snoc _ _ _ (by omega)]
  congr 1
  omega
def lastB (V n : Nat) : Nat := V * 2 ^ (8 - n % 8) % 256
theorem wb_last (V n : Nat) (hn : n % 8 ≠ 0) : wb V n = be (V * 2 ^ (8 - n % 8) / 256) (n / 8) ++ [(lastB V n : Int)] := by
  unfold wb lastB
  have e1 : (8 - n % 8) % 8 = 8 - n % 8 := by omega
  have e3 : (n + 7) / 8 = n / 8 + 1 := by omega
  rw [e1, e3, ← be_snoc _ _ _ (Nat.mod_lt _ (by omega))]
  congr 1
  omega

theorem pow_split (n : Nat) (hn : n % 8 ≠ 0) : 2 ^ (8 - n % 8) = 2 * 2 ^ (7 - n % 8) := by
  rw [← Nat.pow_succ']; congr 1; omega

theorem lastB_dvd (V n : Nat) (hn : n % 8 ≠ 0) : lastB V n = (V % 2 ^ (n % 8)) * 2 ^ (8 - n % 8) := by
  unfold lastB
  have e : 256 = 2 ^ (n % 8) * 2 ^ (8 - n % 8) := by
    rw [← Nat.pow_add]
    have : n % 8 + (8 - n % 8) = 8 := by omega
    rw [this]
  rw [e, Nat.mul_mod_mul_right]

theorem lastB_room (V n b : Nat) (hb : b ≤ 1) (hn : n % 8 ≠ 0) : lastB V n + b * 2 ^ (7 - n % 8) < 256 := by
  rw [lastB_dvd V n hn, pow_split n hn]
  have h1 : V % 2 ^ (n % 8) < 2 ^ (n % 8) := Nat.mod_lt _ (Nat.two_pow_pos _)
  have e : 2 ^ (n % 8) * (2 * 2 ^ (7 - n % 8)) = 256 := by
    rw [← pow_split n hn, ← Nat.pow_add]
    have : n % 8 + (8 - n % 8) = 8 := by omega
    rw [this]
  have h2 : (V % 2 ^ (n % 8) + 1) * (2 * 2 ^ (7 - n % 8)) ≤ 2 ^ (n % 8) * (2 * 2 ^ (7 - n % 8)) := Nat.mul_le_mul_right _ h1
  rw [e, Nat.add_mul] at h2
  have h3 : b * 2 ^ (7 - n % 8) ≤ 1 * 2 ^ (7 - n % 8) := Nat.mul_le_mul_right _ hb
  have h4 : 0 < 2 ^ (7 - n % 8) := Nat.two_pow_pos _
  omega

theorem wb_more (V n b : Nat) (hb : b ≤ 1) (hn : n % 8 ≠ 0) : wb (2 * V + b) (n + 1) = be (V * 2 ^ (8 - n % 8) / 256) (n / 8) ++ [((lastB V n + b * 2 ^ (7 - n % 8) : Nat) : Int)] := by
  unfold wb
  have e2 : (8 - (n + 1) % 8) % 8 = 7 - n % 8 := by omega
  have e3 : (n + 1 + 7) / 8 = n / 8 + 1 := by omega
  rw [e2, e3, ← be_snoc _ _ _ (lastB_room V n b hb hn)]
  congr 1
  unfold lastB
  rw [Nat.add_mul, pow_split n hn]
  have := Nat.div_add_mod (V * (2 * 2 ^ (7 - n % 8))) 256
  have e4 : 2 * V * 2 ^ (7 - n % 8) = V * (2 * 2 ^ (7 - n % 8)) := by rw [Nat.mul_comm 2 V, Nat.mul_assoc]
  omega

/-! What the machine reckons. -/

theorem wrap_nat (k : IntKind) (n : Nat) (h : (n : Int) ≤ k.max) : k.wrap (n : Int) = n := wrap_in k (by cases k <;> simp [IntKind.min, IntKind.signed, IntKind.bits] <;> omega) h

theorem and_one (v : Nat) (h : v < 2 ^ 64) : ibits .and .u64 (v : Int) 1 = ((v % 2 : Nat) : Int) := by
  show IntKind.wrap .u64 ((BitVec.ofInt 64 (v : Int) &&& BitVec.ofInt 64 1).toNat : Int) = _
  have e : (BitVec.ofInt 64 (v : Int) &&& BitVec.ofInt 64 1).toNat = v % 2 := by
    rw [BitVec.toNat_and]
    have h1 : (BitVec.ofInt 64 (v : Int)).toNat = v := by
      rw [BitVec.ofInt_natCast, BitVec.toNat_ofNat, Nat.mod_eq_of_lt h]
    have h2 : (BitVec.ofInt 64 1).toNat = 1 := by decide
    rw [h1, h2, Nat.and_one_is_mod]
  rw [e]
  exact wrap_nat .u64 _ (show ((v % 2 : Nat) : Int) ≤ 18446744073709551615 by omega)

theorem shl_byte (b s : Nat) (hb : b ≤ 1) (hs : s ≤ 7) : ishl .u8 (b : Int) (s : Int) = ((b * 2 ^ s : Nat) : Int) := by
  unfold ishl
  have e : min (s : Int).toNat IntKind.u8.bits = s := by simp [IntKind.bits]; omega
  rw [e]
  have h1 : (b : Int) * 2 ^ s = ((b * 2 ^ s : Nat) : Int) := by simp
  rw [h1]
  refine wrap_nat .u8 _ ?_
  have h2 : b * 2 ^ s ≤ 1 * 2 ^ 7 := Nat.mul_le_mul hb (Nat.pow_le_pow_right (by omega) hs)
  show ((b * 2 ^ s : Nat) : Int) ≤ 255
  omega

theorem or_bytes (x y : Nat) (s a : Nat) (hx : x = a * 2 ^ s) (hy : y < 2 ^ s) (h : x + y < 256) : ibits .or .u8 (x : Int) (y : Int) = ((x + y : Nat) : Int) := by
  show IntKind.wrap .u8 ((BitVec.ofInt 8 (x : Int) ||| BitVec.ofInt 8 (y : Int)).toNat : Int) = _
  have e : (BitVec.ofInt 8 (x : Int) ||| BitVec.ofInt 8 (y : Int)).toNat = x + y := by
    rw [BitVec.toNat_or]
    have h1 : ∀ z : Nat, z < 256 → (BitVec.ofInt 8 (z : Int)).toNat = z := by
      intro z hz
      rw [BitVec.ofInt_natCast, BitVec.toNat_ofNat, Nat.mod_eq_of_lt hz]
    rw [h1 x (by omega), h1 y (by omega), hx, ← Nat.shiftLeft_eq, ← Nat.shiftLeft_add_eq_or_of_lt hy]
  rw [e]
  exact wrap_nat .u8 _ (show ((x + y : Nat) : Int) ≤ 255 by omega)

theorem shr_nat (x s : Nat) (hs : s ≤ 64) (k : IntKind) (hk : k.bits = 64) : ishr k (x : Int) (s : Int) = ((x / 2 ^ s : Nat) : Int) := by
  unfold ishr
  have e : min (s : Int).toNat k.bits = s := by rw [hk]; simp; omega
  rw [e]
  have h1 : ((2 : Int) ^ s) = ((2 ^ s : Nat) : Int) := by simp
  rw [h1, Int.fdiv_eq_ediv_of_nonneg _ (by exact Int.natCast_nonneg _)]
  rfl

theorem bits_step (x w i : Nat) (hi : i < w) : x / 2 ^ (w - (i + 1)) = 2 * (x / 2 ^ (w - i)) + x / 2 ^ (w - 1 - i) % 2 := by
  have e : w - i = (w - (i + 1)) + 1 := by omega
  have e2 : w - 1 - i = w - (i + 1) := by omega
  rw [e, e2, Nat.pow_succ, ← Nat.div_div_eq_div_mul]
  omega
end Go.Proofs.Field

namespace Go.Proofs.Field
open Go Go.AX Go.Proofs
set_option maxRecDepth 1000000
set_option linter.unusedVariables false
set_option linter.unusedSimpArgs false

def fieldMay (width : Int) : Bool :=
  bif decide (width ≥ 1) then
    decide (width ≤ 64)
  else
    false
def fieldMay_c (r : Bool) : Dir := .callL (.bool r) []
def fieldMay_E (r : Bool) : Value := .bool r
theorem fieldMay_eq (width : Int) : AOn Tryz.prog 102 [.int .i64 width] [] (fieldMay_E (fieldMay width)) [] := by
  unfold fieldMay
  apply onT 400 fieldMay_E
  apply kj 50006
  intro hb0
  exact kl
  intro hb0
  exact kl
  kernel_rfl
  rfl

end Go.Proofs.Field

namespace Go.Proofs.Field
open Go Go.AX Go.Proofs
set_option maxRecDepth 1000000
set_option linter.unusedVariables false
set_option linter.unusedSimpArgs false

def pv (L : List (Int × Int)) : List Value := (L.map fun p => [Value.int .i64 p.1, .int .u64 p.2]).flatten
def bv (B : List Int) : List Value := B.map (Value.int .u8)
def wslice (i : Nat) (B : List Int) : Value :=
  match B with
  | [] => .slice none 0 0
  | _ :: _ => .slice (some ⟨i, 0, none⟩) B.length UNK
def wrow (B : List Int) : AHeap :=
  match B with
  | [] => []
  | _ :: _ => [.row (bv B) 5 1]

noncomputable def inTs (len : Nat) (idx : Int) (W i : Nat) : Tm := Tm.told 61 [(4, .pointer (some ⟨1, 0, none⟩)), (6, .pointer (some ⟨2, 0, none⟩)), (10, .slice (some ⟨0, 0, none⟩) len UNR), (11, .int .i64 (len : Int)), (12, .int .i64 idx), (34, .int .i64 (W : Int)), (35, .int .i64 (i : Int))]
def inHp (L : List (Int × Int)) (B : List Int) (n W X : Nat) : AHeap := .ro (pv L) 2 :: .cells [wslice 3 B, .int .i64 (n : Int)] 183 2 :: .cells [.int .i64 (W : Int), .int .u64 (X : Int)] 136 2 :: wrow B

theorem iw {k : IntKind} {a : Int} {b : Nat} (h : a = b) (h0 : k.min ≤ (b : Int)) (h1 : (b : Int) ≤ k.max) : Value.int k (k.wrap a) = .int k (b : Int) := by
  rw [h, wrap_in k h0 h1]
theorem sub_nat {a b : Nat} (h : b ≤ a) : (a : Int) - (b : Int) = ((a - b : Nat) : Int) := by omega
theorem tmod8 (n : Nat) : Int.tmod (n : Int) 8 = ((n % 8 : Nat) : Int) := by rw [Int.tmod_eq_emod_of_nonneg (by omega)]; omega
theorem tdiv8 (n : Nat) : Int.tdiv (n : Int) 8 = ((n / 8 : Nat) : Int) := by rw [Int.tdiv_eq_ediv_of_nonneg (by omega)]; omega
theorem min64 : IntKind.i64.min = -9223372036854775808 := by decide
theorem max64 : IntKind.i64.max = 9223372036854775807 := by decide
theorem wi {a : Int} {b : Nat} (h : a = b) (h1 : b < 2 ^ 62) : Value.int .i64 (IntKind.wrap .i64 a) = .int .i64 (b : Int) :=
  iw h (by rw [min64]; omega) (by rw [max64]; omega)
theorem ptr_is {i a b : Nat} (h : a = b) : Value.pointer (some ⟨i, a, none⟩) = .pointer (some ⟨i, b, none⟩) := by rw [h]

theorem pv_bare (L : List (Int × Int)) : bareO (.ro (pv L) 2) = true := by
  show (pv L).all _ = true
  induction L with
  | nil => rfl
  | cons p L ih =>
    show (Value.int .i64 p.1 :: Value.int .u64 p.2 :: pv L).all _ = true
    simp only [List.all_cons, ih]; rfl
theorem bv_all (B : List Int) : (bv B).all (okIds fun _ => false) = true := by
  unfold bv; simp [okIds, okId2, okId1]
theorem row_bare (B : List Int) (e sz : Nat) : bareO (.row (bv B) e sz) = true := bv_all B
theorem row_set_bare (B : List Int) (k : Nat) (x : Int) (e sz : Nat) : bareO (.row (lset (bv B) k (.int .u8 x)) e sz) = true := by
  show (lset (bv B) k (.int .u8 x)).all _ = true
  have : lset (bv B) k (.int .u8 x) = bv (B.set k x) := by rw [lset_eq]; unfold bv; rw [List.map_set]
  rw [this]; exact bv_all _
theorem row_app_bare (B : List Int) (k : Nat) (x : Int) (e sz : Nat) : bareO (.row (lset (bv B ++ [Value.int .u8 0]) k (.int .u8 x)) e sz) = true := by
  have : bv B ++ [Value.int .u8 0] = bv (B ++ [0]) := by simp [bv]
  rw [this]; exact row_set_bare _ _ _ _ _

def bitOf (X W i : Nat) : Nat := X / 2 ^ (W - 1 - i) % 2
theorem bitOf_le (X W i : Nat) : bitOf X W i ≤ 1 := by unfold bitOf; omega

section
variable {L : List (Int × Int)} {idx : Int} {n W X i : Nat}
theorem round_first (hW : W ≤ 64) (hX : X < 2 ^ 64) (hi : i < W) :
    AComes Tryz.prog 1 (roundAt Tryz.prog 70 1) (inTs L.length idx W i) (inHp L [] 0 W X) .normal (inTs L.length idx W (i + 1)) (inHp L [((bitOf X W i * 128 : Nat) : Int)] 1 W X) := by
  have hx : X / 2 ^ (W - 1 - i) < 2 ^ 64 := Nat.lt_of_le_of_lt (Nat.div_le_self _ _) hX
  have hb := bitOf_le X W i
  refine codeL 400 [0, 1, 2, 4] [0] [4, 6, 10, 11, 12, 34, 35] [.br true, .is 43 (.int .i64 ((W - 1 : Nat) : Int)), .is 45 (.int .i64 ((W - 1 - i : Nat) : Int)), .owe 46, .is 46 (.int .u64 ((X / 2 ^ (W - 1 - i) : Nat) : Int)), .inl, .lit,
    .is 31 (.int .u64 ((bitOf X W i : Nat) : Int)), .is 32 (.int .u8 ((bitOf X W i : Nat) : Int)), .is 39 (.int .u8 ((bitOf X W i * 2 ^ 7 : Nat) : Int)), .is 40 (.int .u8 ((bitOf X W i * 128 : Nat) : Int)), .is 46 (.int .i64 ((1 : Nat) : Int)), .is 48 (.pointer (some ⟨1, 1, none⟩)), .is 48 (.int .i64 ((i + 1 : Nat) : Int))]
    (o_ (pv_bare L)
    (o_ (show decide ((i : Int) < (W : Int)) = true by rw [decide_eq_true_eq]; omega)
    (o_ (wi (show (W : Int) - 1 = ((W - 1 : Nat) : Int) by omega) (by omega))
    (o_ (wi (show ((W - 1 : Nat) : Int) - (i : Int) = ((W - 1 - i : Nat) : Int) by omega) (by omega))
    (o_ (bs1 (b0 := decide (0 ≤ ((W - 1 - i : Nat) : Int))) (by rw [decide_eq_true_eq]; omega))
    (o_ (iis .u64 (shr_nat X (W - 1 - i) (by omega) .u64 rfl))
    (o_ (iis .u64 (and_one _ hx))
    (o_ (iw (k := .u8) (rfl : ((bitOf X W i : Nat) : Int) = _) (show (0 : Int) ≤ _ by omega) (show _ ≤ (255 : Int) by omega))
    (o_ (iis .u8 (shl_byte _ 7 hb (by omega)))
    (o_ (iis .u8 (show ibits .or .u8 0 ((bitOf X W i * 2 ^ 7 : Nat) : Int) = ((bitOf X W i * 128 : Nat) : Int) by
      have := or_bytes 0 (bitOf X W i * 2 ^ 7) 8 0 (by omega) (by omega) (by omega)
      simpa using this))
    (o_ (wi (show ((0 : Nat) : Int) + 1 = ((1 : Nat) : Int) by rfl) (by omega))
    (o_ (rfl : Value.pointer (some ⟨1, 1, none⟩) = .pointer (some ⟨1, 1, none⟩))
    (o_ (wi (show (i : Int) + 1 = ((i + 1 : Nat) : Int) by omega) (by omega)) o0))))))))))))) ?_
  kernel_rfl
theorem round_new {b0 : Int} {B : List Int} (hW : W ≤ 64) (hX : X < 2 ^ 64) (hi : i < W) (hn : n % 8 = 0) (hl : (b0 :: B).length = n / 8) (hN : n < 2 ^ 40) :
    AComes Tryz.prog 1 (roundAt Tryz.prog 70 1) (inTs L.length idx W i) (inHp L (b0 :: B) n W X) .normal (inTs L.length idx W (i + 1)) (inHp L ((b0 :: B) ++ [((bitOf X W i * 128 : Nat) : Int)]) (n + 1) W X) := by
  have hx : X / 2 ^ (W - 1 - i) < 2 ^ 64 := Nat.lt_of_le_of_lt (Nat.div_le_self _ _) hX
  have hb := bitOf_le X W i
  have hbl : (bv (b0 :: B)).length = n / 8 := by simpa [bv] using hl
  have key : AComes Tryz.prog 1 (roundAt Tryz.prog 70 1) (inTs L.length idx W i) (inHp L (b0 :: B) n W X) .normal (inTs L.length idx W (i + 1))
      (.ro (pv L) 2 :: .cells [.slice (some ⟨3, 0, none⟩) ((b0 :: B).length + 1) UNK, .int .i64 ((n + 1 : Nat) : Int)] 183 2 :: .cells [.int .i64 (W : Int), .int .u64 (X : Int)] 136 2 :: [.row (lset (bv (b0 :: B) ++ [Value.int .u8 0]) (n / 8) (.int .u8 ((bitOf X W i * 128 : Nat) : Int))) 5 1]) := by
    refine codeL 400 [0, 1, 2, 5] [0, 5] [4, 6, 10, 11, 12, 34, 35] [.br true, .is 43 (.int .i64 ((W - 1 : Nat) : Int)), .is 45 (.int .i64 ((W - 1 - i : Nat) : Int)), .owe 46, .is 46 (.int .u64 ((X / 2 ^ (W - 1 - i) : Nat) : Int)), .inl, .is 8 (.int .i64 0), .lit, .owe 16,
      .is 27 (.int .i64 ((n / 8 : Nat) : Int)), .owe 28, .is 28 (.pointer (some ⟨5, n / 8, none⟩)), .hint 29 (.val (.int .u8 0)), .is 31 (.int .u64 ((bitOf X W i : Nat) : Int)), .is 32 (.int .u8 ((bitOf X W i : Nat) : Int)), .is 37 (.int .i64 0), .is 39 (.int .u8 ((bitOf X W i * 2 ^ 7 : Nat) : Int)), .is 40 (.int .u8 ((bitOf X W i * 128 : Nat) : Int)),
      .owe 41, .is 41 (.pointer (some ⟨5, n / 8, none⟩)), .owe 1000000, .is 46 (.int .i64 ((n + 1 : Nat) : Int)), .is 48 (.pointer (some ⟨1, 1, none⟩)), .is 48 (.int .i64 ((i + 1 : Nat) : Int))]
      (o_ (pv_bare L) (o_ (row_app_bare (b0 :: B) (n / 8) ((bitOf X W i * 128 : Nat) : Int) 5 1)
      (o_ (show decide ((i : Int) < (W : Int)) = true by rw [decide_eq_true_eq]; omega)
      (o_ (wi (show (W : Int) - 1 = ((W - 1 : Nat) : Int) by omega) (by omega))
      (o_ (wi (show ((W - 1 : Nat) : Int) - (i : Int) = ((W - 1 - i : Nat) : Int) by omega) (by omega))
      (o_ (bs1 (b0 := decide (0 ≤ ((W - 1 - i : Nat) : Int))) (by rw [decide_eq_true_eq]; omega))
      (o_ (iis .u64 (shr_nat X (W - 1 - i) (by omega) .u64 rfl))
      (o_ (iis .i64 (show Int.tmod (n : Int) 8 = 0 by rw [tmod8, hn]; rfl))
      (o_ (bs2 (b0 := decide (roomFor ((b0 :: B).length + 1) 1)) (b1 := decide ((bv (b0 :: B)).length = (b0 :: B).length * 1)) (by rw [decide_eq_true_eq]; unfold roomFor; omega) (by rw [decide_eq_true_eq]; omega))
      (o_ (wi (tdiv8 n) (by omega))
      (o_ (bs1 (b0 := decide (0 ≤ ((n / 8 : Nat) : Int) ∧ ((n / 8 : Nat) : Int) < (((b0 :: B).length + 1 : Nat) : Int))) (by rw [decide_eq_true_eq]; omega))
      (o_ (ptr_is (i := 5) (show 0 + ((n / 8 : Nat) : Int).toNat * 1 = n / 8 by omega))
      (o_ (show (bv (b0 :: B) ++ [Value.int .u8 0])[n / 8]? = some (.int .u8 0) by rw [← hbl]; simp)
      (o_ (iis .u64 (and_one _ hx))
      (o_ (iw (k := .u8) (rfl : ((bitOf X W i : Nat) : Int) = _) (show (0 : Int) ≤ _ by omega) (show _ ≤ (255 : Int) by omega))
      (o_ (iis .i64 (show Int.tmod (n : Int) 8 = 0 by rw [tmod8, hn]; rfl))
      (o_ (iis .u8 (shl_byte _ 7 hb (by omega)))
      (o_ (iis .u8 (show ibits .or .u8 0 ((bitOf X W i * 2 ^ 7 : Nat) : Int) = ((bitOf X W i * 128 : Nat) : Int) by
        have := or_bytes 0 (bitOf X W i * 2 ^ 7) 8 0 (by omega) (by omega) (by omega)
        simpa using this))
      (o_ (bs1 (b0 := decide (0 ≤ ((n / 8 : Nat) : Int) ∧ ((n / 8 : Nat) : Int) < (((b0 :: B).length + 1 : Nat) : Int))) (by rw [decide_eq_true_eq]; omega))
      (o_ (ptr_is (i := 5) (show 0 + ((n / 8 : Nat) : Int).toNat * 1 = n / 8 by omega))
      (o_ (bs2 (b0 := decide (n / 8 + 1 ≤ (bv (b0 :: B) ++ [Value.int .u8 0]).length)) (b1 := decide (0 < (bv (b0 :: B) ++ [Value.int .u8 0]).length)) (by rw [decide_eq_true_eq, List.length_append, hbl]; simp) (by rw [decide_eq_true_eq, List.length_append]; simp))
      (o_ (wi (show (n : Int) + 1 = ((n + 1 : Nat) : Int) by omega) (by omega))
      (o_ (rfl : Value.pointer (some ⟨1, 1, none⟩) = .pointer (some ⟨1, 1, none⟩))
      (o_ (wi (show (i : Int) + 1 = ((i + 1 : Nat) : Int) by omega) (by omega)) o0)))))))))))))))))))))))) ?_
    kernel_rfl
  have e : lset (bv (b0 :: B) ++ [Value.int .u8 0]) (n / 8) (.int .u8 ((bitOf X W i * 128 : Nat) : Int)) = bv ((b0 :: B) ++ [((bitOf X W i * 128 : Nat) : Int)]) := by
    rw [lset_eq, ← hbl, List.set_append_right _ _ (Nat.le_refl _)]
    simp [bv]
  rw [e] at key
  have e2 : inHp L ((b0 :: B) ++ [((bitOf X W i * 128 : Nat) : Int)]) (n + 1) W X = .ro (pv L) 2 :: .cells [.slice (some ⟨3, 0, none⟩) ((b0 :: B).length + 1) UNK, .int .i64 ((n + 1 : Nat) : Int)] 183 2 :: .cells [.int .i64 (W : Int), .int .u64 (X : Int)] 136 2 :: [.row (bv ((b0 :: B) ++ [((bitOf X W i * 128 : Nat) : Int)])) 5 1] := by
    simp [inHp, wslice, wrow]
  rw [e2]
  exact key
theorem round_more {b0 : Int} {B : List Int} {x : Nat} (hW : W ≤ 64) (hX : X < 2 ^ 64) (hi : i < W) (hn : n % 8 ≠ 0) (hl : (b0 :: B).length = n / 8 + 1) (hN : n < 2 ^ 40)
    (hx8 : (b0 :: B)[n / 8]? = some (x : Int)) (hxd : ∃ a, x = a * 2 ^ (8 - n % 8)) (hxr : x + bitOf X W i * 2 ^ (7 - n % 8) < 256) :
    AComes Tryz.prog 1 (roundAt Tryz.prog 70 1) (inTs L.length idx W i) (inHp L (b0 :: B) n W X) .normal (inTs L.length idx W (i + 1)) (inHp L ((b0 :: B).set (n / 8) ((x + bitOf X W i * 2 ^ (7 - n % 8) : Nat) : Int)) (n + 1) W X) := by
  have hx : X / 2 ^ (W - 1 - i) < 2 ^ 64 := Nat.lt_of_le_of_lt (Nat.div_le_self _ _) hX
  have hb := bitOf_le X W i
  have hbl : (bv (b0 :: B)).length = n / 8 + 1 := by simpa [bv] using hl
  have key : AComes Tryz.prog 1 (roundAt Tryz.prog 70 1) (inTs L.length idx W i) (inHp L (b0 :: B) n W X) .normal (inTs L.length idx W (i + 1))
      (.ro (pv L) 2 :: .cells [.slice (some ⟨3, 0, none⟩) (b0 :: B).length UNK, .int .i64 ((n + 1 : Nat) : Int)] 183 2 :: .cells [.int .i64 (W : Int), .int .u64 (X : Int)] 136 2 :: [.row (lset (bv (b0 :: B)) (n / 8) (.int .u8 ((x + bitOf X W i * 2 ^ (7 - n % 8) : Nat) : Int))) 5 1]) := by
    refine codeL 400 [0, 1, 2, 3] [0, 3] [4, 6, 10, 11, 12, 34, 35] [.br true, .is 43 (.int .i64 ((W - 1 : Nat) : Int)), .is 45 (.int .i64 ((W - 1 - i : Nat) : Int)), .owe 46, .is 46 (.int .u64 ((X / 2 ^ (W - 1 - i) : Nat) : Int)), .inl, .is 8 (.int .i64 ((n % 8 : Nat) : Int)), .br false,
      .is 27 (.int .i64 ((n / 8 : Nat) : Int)), .owe 28, .is 28 (.pointer (some ⟨3, n / 8, none⟩)), .hint 29 (.val (.int .u8 (x : Int))), .is 31 (.int .u64 ((bitOf X W i : Nat) : Int)), .is 32 (.int .u8 ((bitOf X W i : Nat) : Int)), .is 37 (.int .i64 ((n % 8 : Nat) : Int)), .is 38 (.int .i64 ((7 - n % 8 : Nat) : Int)), .owe 39, .is 39 (.int .u8 ((bitOf X W i * 2 ^ (7 - n % 8) : Nat) : Int)), .is 40 (.int .u8 ((x + bitOf X W i * 2 ^ (7 - n % 8) : Nat) : Int)),
      .owe 41, .is 41 (.pointer (some ⟨3, n / 8, none⟩)), .owe 1000000, .is 46 (.int .i64 ((n + 1 : Nat) : Int)), .is 48 (.pointer (some ⟨1, 1, none⟩)), .is 48 (.int .i64 ((i + 1 : Nat) : Int))]
      (o_ (pv_bare L) (o_ (row_set_bare (b0 :: B) (n / 8) ((x + bitOf X W i * 2 ^ (7 - n % 8) : Nat) : Int) 5 1)
      (o_ (show decide ((i : Int) < (W : Int)) = true by rw [decide_eq_true_eq]; omega)
      (o_ (wi (show (W : Int) - 1 = ((W - 1 : Nat) : Int) by omega) (by omega))
      (o_ (wi (show ((W - 1 : Nat) : Int) - (i : Int) = ((W - 1 - i : Nat) : Int) by omega) (by omega))
      (o_ (bs1 (b0 := decide (0 ≤ ((W - 1 - i : Nat) : Int))) (by rw [decide_eq_true_eq]; omega))
      (o_ (iis .u64 (shr_nat X (W - 1 - i) (by omega) .u64 rfl))
      (o_ (iis .i64 (tmod8 n))
      (o_ (show (((n % 8 : Nat) : Int) == 0) = false by rw [beq_eq_false_iff_ne]; omega)
      (o_ (wi (tdiv8 n) (by omega))
      (o_ (bs1 (b0 := decide (0 ≤ ((n / 8 : Nat) : Int) ∧ ((n / 8 : Nat) : Int) < (((b0 :: B).length : Nat) : Int))) (by rw [decide_eq_true_eq]; omega))
      (o_ (ptr_is (i := 3) (show 0 + ((n / 8 : Nat) : Int).toNat * 1 = n / 8 by omega))
      (o_ (show (bv (b0 :: B))[n / 8]? = some (.int .u8 (x : Int)) by unfold bv; rw [List.getElem?_map, hx8]; rfl)
      (o_ (iis .u64 (and_one _ hx))
      (o_ (iw (k := .u8) (rfl : ((bitOf X W i : Nat) : Int) = _) (show (0 : Int) ≤ _ by omega) (show _ ≤ (255 : Int) by omega))
      (o_ (iis .i64 (tmod8 n))
      (o_ (wi (show (7 : Int) - ((n % 8 : Nat) : Int) = ((7 - n % 8 : Nat) : Int) by omega) (by omega))
      (o_ (bs1 (b0 := decide (0 ≤ ((7 - n % 8 : Nat) : Int))) (by rw [decide_eq_true_eq]; omega))
      (o_ (iis .u8 (shl_byte _ (7 - n % 8) hb (by omega)))
      (o_ (iis .u8 (by
        obtain ⟨a, ha⟩ := hxd
        refine or_bytes x (bitOf X W i * 2 ^ (7 - n % 8)) (8 - n % 8) a ha ?_ hxr
        have h1 := pow_split n hn
        have h2 : bitOf X W i * 2 ^ (7 - n % 8) ≤ 1 * 2 ^ (7 - n % 8) := Nat.mul_le_mul_right _ hb
        have h3 : 0 < 2 ^ (7 - n % 8) := Nat.two_pow_pos _
        omega))
      (o_ (bs1 (b0 := decide (0 ≤ ((n / 8 : Nat) : Int) ∧ ((n / 8 : Nat) : Int) < (((b0 :: B).length : Nat) : Int))) (by rw [decide_eq_true_eq]; omega))
      (o_ (ptr_is (i := 3) (show 0 + ((n / 8 : Nat) : Int).toNat * 1 = n / 8 by omega))
      (o_ (bs2 (b0 := decide (n / 8 + 1 ≤ (bv (b0 :: B)).length)) (b1 := decide (0 < (bv (b0 :: B)).length)) (by rw [decide_eq_true_eq, hbl]; omega) (by rw [decide_eq_true_eq, hbl]; omega))
      (o_ (wi (show (n : Int) + 1 = ((n + 1 : Nat) : Int) by omega) (by omega))
      (o_ (rfl : Value.pointer (some ⟨1, 1, none⟩) = .pointer (some ⟨1, 1, none⟩))
      (o_ (wi (show (i : Int) + 1 = ((i + 1 : Nat) : Int) by omega) (by omega)) o0)))))))))))))))))))))))))) ?_
    kernel_rfl
  have e : lset (bv (b0 :: B)) (n / 8) (.int .u8 ((x + bitOf X W i * 2 ^ (7 - n % 8) : Nat) : Int)) = bv ((b0 :: B).set (n / 8) ((x + bitOf X W i * 2 ^ (7 - n % 8) : Nat) : Int)) := by
    rw [lset_eq]; unfold bv; rw [List.map_set]
  rw [e] at key
  have e2 : ∀ C : List Int, C.length = (b0 :: B).length → inHp L C (n + 1) W X = .ro (pv L) 2 :: .cells [.slice (some ⟨3, 0, none⟩) (b0 :: B).length UNK, .int .i64 ((n + 1 : Nat) : Int)] 183 2 :: .cells [.int .i64 (W : Int), .int .u64 (X : Int)] 136 2 :: [.row (bv C) 5 1] := by
    intro C hC
    cases C with
    | nil => simp at hC
    | cons c C => simp only [inHp, wslice, wrow, hC]
  rw [e2 _ (by simp)]
  exact key
theorem round_out {b0 : Int} {B : List Int} (hW : W ≤ 64) :
    AComes Tryz.prog 1 (roundAt Tryz.prog 70 1) (inTs L.length idx W W) (inHp L (b0 :: B) n W X) (.exit 2) (Tm.told 61 [(4, .pointer (some ⟨1, 0, none⟩)), (10, .slice (some ⟨0, 0, none⟩) L.length UNR), (11, .int .i64 (L.length : Int)), (12, .int .i64 idx)])
      (.ro (pv L) 2 :: .cells [wslice 2 (b0 :: B), .int .i64 (n : Int)] 183 2 :: wrow (b0 :: B)) := by
  refine codeL 400 [0, 1, 3] [0, 3] [4, 10, 11, 12] [.br false] (o_ (pv_bare L) (o_ (row_bare (b0 :: B) 5 1) (o_ (show decide ((W : Int) < (W : Int)) = false by rw [decide_eq_false_iff_not]; omega) o0))) ?_
  kernel_rfl
end
end Go.Proofs.Field

namespace Go.Proofs.Field
open Go Go.AX Go.Proofs
set_option maxRecDepth 1000000
set_option linter.unusedVariables false
set_option linter.unusedSimpArgs false

noncomputable def outTs (len : Nat) (idx : Int) : Tm := Tm.told 61 [(4, .pointer (some ⟨1, 0, none⟩)), (10, .slice (some ⟨0, 0, none⟩) len UNR), (11, .int .i64 (len : Int)), (12, .int .i64 idx)]
def outHp (L : List (Int × Int)) (B : List Int) (n : Nat) : AHeap := .ro (pv L) 2 :: .cells [wslice 2 B, .int .i64 (n : Int)] 183 2 :: wrow B

theorem wb_zero (V : Nat) : wb V 0 = [] := List.eq_nil_of_length_eq_zero (by rw [wb_length])
theorem part_loop {L : List (Int × Int)} {idx : Int} {V n W X : Nat} (hW0 : 1 ≤ W) (hW : W ≤ 64) (hX : X < 2 ^ W) (hn : n < 2 ^ 39) :
    AComes Tryz.prog 1 (loopAt Tryz.prog 70 1) (inTs L.length idx W 0) (inHp L (wb V n) n W X) (.exit 2) (outTs L.length idx) (outHp L (wb (V * 2 ^ W + X) (n + W)) (n + W)) := by
  have hX64 : X < 2 ^ 64 := Nat.lt_of_lt_of_le hX (Nat.pow_le_pow_right (by omega) hW)
  have e : loopAt Tryz.prog 70 1 = .loop (roundAt Tryz.prog 70 1) := by kernel_rfl
  rw [e]
  have key := AComes.loop (P := Tryz.prog) (m := 1) (c := roundAt Tryz.prog 70 1) (ex := .exit 2) (ts' := outTs L.length idx) (h' := outHp L (wb (V * 2 ^ W + X) (n + W)) (n + W)) (by simp) W
    (fun k => (inTs L.length idx W k, inHp L (wb (V * 2 ^ k + X / 2 ^ (W - k)) (n + k)) (n + k) W X)) ?_ ?_
  · simp only [Nat.pow_zero, Nat.mul_one, Nat.sub_zero, Nat.add_zero, Nat.div_eq_of_lt hX] at key
    exact key
  · intro k hk
    have hb := bitOf_le X W k
    have hnext : V * 2 ^ (k + 1) + X / 2 ^ (W - (k + 1)) = 2 * (V * 2 ^ k + X / 2 ^ (W - k)) + bitOf X W k := by
      rw [bits_step X W k hk, Nat.pow_succ]; unfold bitOf; rw [← Nat.mul_assoc]; omega
    simp only [hnext]
    generalize V * 2 ^ k + X / 2 ^ (W - k) = V'
    have hn' : n + k < 2 ^ 40 := by omega
    rw [show n + (k + 1) = (n + k) + 1 by omega]
    generalize n + k = n' at *
    by_cases h0 : n' = 0
    · subst h0
      have h1 := wb_new V' 0 _ hb rfl
      rw [h1, wb_zero]
      exact round_first hW hX64 hk
    · have hlen := wb_length V' n'
      cases hB : wb V' n' with
      | nil => rw [hB] at hlen; simp at hlen; omega
      | cons b0 B =>
        rw [hB] at hlen
        by_cases h8 : n' % 8 = 0
        · rw [wb_new V' n' _ hb h8, hB]
          exact round_new hW hX64 hk h8 (by omega) hn'
        · have hw := wb_last V' n' h8
          rw [hB] at hw
          have hset : (b0 :: B).set (n' / 8) ((lastB V' n' + bitOf X W k * 2 ^ (7 - n' % 8) : Nat) : Int) = wb (2 * V' + bitOf X W k) (n' + 1) := by
            rw [wb_more V' n' _ hb h8, hw, List.set_append_right _ _ (by rw [be_length]; exact Nat.le_refl _), be_length]
            simp
          rw [← hset]
          refine round_more hW hX64 hk h8 (by omega) hn' ?_ ⟨_, lastB_dvd V' n' h8⟩ (lastB_room V' n' _ hb h8)
          rw [hw, List.getElem?_append_right (by rw [be_length]; exact Nat.le_refl _), be_length]
          simp
  · simp only [Nat.sub_self, Nat.pow_zero, Nat.div_one]
    have hlen := wb_length (V * 2 ^ W + X) (n + W)
    cases hB : wb (V * 2 ^ W + X) (n + W) with
    | nil => rw [hB] at hlen; simp at hlen; omega
    | cons b0 B => exact round_out hW
def okPart (p : Int × Int) : Bool := (decide (1 ≤ p.1) && decide (p.1 ≤ 64)) && (decide (64 ≤ p.1) || decide (p.2.toNat < 2 ^ p.1.toNat))
def valN (L : List (Int × Int)) : Nat × Nat := L.foldl (fun s p => (s.1 * 2 ^ p.1.toNat + p.2.toNat, s.2 + p.1.toNat)) (0, 0)

theorem pv_length (L : List (Int × Int)) : (pv L).length = 2 * L.length := by
  induction L with
  | nil => rfl
  | cons p L ih =>
    show (Value.int .i64 p.1 :: Value.int .u64 p.2 :: pv L).length = _
    simp only [List.length_cons, ih]; omega
theorem pv_part (L : List (Int × Int)) (i : Nat) (p : Int × Int) (h : L[i]? = some p) : ((pv L).drop (2 * i)).take 2 = [.int .i64 p.1, .int .u64 p.2] := by
  induction L generalizing i with
  | nil => simp at h
  | cons q L ih =>
    show ((Value.int .i64 q.1 :: Value.int .u64 q.2 :: pv L).drop (2 * i)).take 2 = _
    cases i with
    | zero => simp only [List.getElem?_cons_zero, Option.some.injEq] at h; subst h; rfl
    | succ i =>
      rw [show 2 * (i + 1) = 2 * i + 1 + 1 by omega, List.drop_succ_cons, List.drop_succ_cons]
      exact ih i (by simpa using h)

theorem mayOf {w : Int} (h1 : 1 ≤ w) (h2 : w ≤ 64) : fieldMay w = true := by unfold fieldMay; simp; omega
theorem mayNot {w : Int} (h : ¬ (1 ≤ w ∧ w ≤ 64)) : fieldMay w = false := by
  unfold fieldMay
  by_cases h1 : w ≥ 1
  · rw [decide_eq_true h1, cond_true]; simp; omega
  · rw [decide_eq_false h1, cond_false]

section
variable {L : List (Int × Int)} {B : List Int} {n k : Nat} {w v : Int}

theorem hd1 (hk : L[k]? = some (w, v)) : k < L.length := (List.getElem?_eq_some_iff.1 hk).1
theorem out_round {V : Nat} {W X : Nat} (hlen : L.length < 2 ^ 30) (hk : L[k]? = some ((W : Int), (X : Int))) (hW0 : 1 ≤ W) (hW : W ≤ 64) (hX : X < 2 ^ W) (hn : n < 2 ^ 39) :
    AComes Tryz.prog 1 (roundAt Tryz.prog 70 0) (outTs L.length (k : Int)) (outHp L (wb V n) n) .normal (outTs L.length ((k + 1 : Nat) : Int)) (outHp L (wb (V * 2 ^ W + X) (n + W)) (n + W)) := by
  have hkl := hd1 hk
  have hX64 : X < 2 ^ 64 := Nat.lt_of_lt_of_le hX (Nat.pow_le_pow_right (by omega) hW)
  have hpart := part_loop (L := L) (idx := (k : Int)) (V := V) (n := n) hW0 hW hX hn
  have hp2 := pv_part L k _ hk
  have hl2 := wb_length (V * 2 ^ W + X) (n + W)
  cases hB2 : wb (V * 2 ^ W + X) (n + W) with
  | nil => rw [hB2] at hl2; simp at hl2; omega
  | cons c0 C =>
  rw [hB2] at hpart
  have hshr : ∀ hlt : W < 64, ishr .u64 (X : Int) (W : Int) = 0 := by
    intro hlt
    rw [shr_nat X W (by omega) .u64 rfl, Nat.div_eq_of_lt hX]; rfl
  have key : ∀ (B : List Int) (keep bares : List Nat), (∃ h0, outHp L B n = h0 ∧ True) → wb V n = B → (B = [] ∧ keep = [0, 1, 2] ∧ bares = [0] ∨ (∃ b0 B', B = b0 :: B') ∧ keep = [0, 1, 3, 2] ∧ bares = [0, 2]) →
      AComes Tryz.prog 1 (roundAt Tryz.prog 70 0) (outTs L.length (k : Int)) (outHp L B n) .normal (outTs L.length ((k + 1 : Nat) : Int)) (outHp L (c0 :: C) (n + W)) := by
    rintro B keep bares _ hVB (⟨rfl, rfl, rfl⟩ | ⟨⟨b0, B', rfl⟩, rfl, rfl⟩)
    · rw [hVB] at hpart
      by_cases hlt : W < 64
      · refine codeL 400 [0, 1, 2] [0, 2] [4, 10, 11, 12] [.br true, .owe 14, .is 14 (.pointer (some ⟨0, 2 * k, none⟩)), .hint 15 (.cells [.int .i64 (W : Int), .int .u64 (X : Int)]), .callL (.bool true) [], .is 23 (.bool true), .owe 29, .is 29 (.int .u64 0), .lit, .codeG [0, 1, 2] [0] [4, 6, 10, 11, 12, 34, 35] (.exit 2) (outTs L.length (k : Int)) (outHp L (c0 :: C) (n + W)), .is 49 (.int .i64 ((k + 1 : Nat) : Int))]
          (o_ (pv_bare L) (o_ (row_bare (c0 :: C) 5 1)
          (o_ (show decide ((k : Int) < (L.length : Int)) = true by rw [decide_eq_true_eq]; omega)
          (o_ (bs1 (b0 := decide (0 ≤ (k : Int) ∧ (k : Int) < (L.length : Int))) (by rw [decide_eq_true_eq]; omega))
          (o_ (ptr_is (i := 0) (show 0 + (k : Int).toNat * 2 = 2 * k by omega))
          (o_ (show ((pv L).drop (2 * k)).take 2 = [Value.int .i64 (W : Int), .int .u64 (X : Int)] from hp2) (o_ (rfl : [Value.int .i64 (W : Int), Value.int .u64 (X : Int)].length = 2)
          (o_ (show AOn Tryz.prog 102 [.int .i64 (W : Int)] [] (.bool true) [] by have := fieldMay_eq (W : Int); rw [mayOf (by omega) (by omega)] at this; exact this)
          (o_ (bis (show decide ((W : Int) < 64) = true by rw [decide_eq_true_eq]; omega))
          (o_ (bs1 (b0 := decide (0 ≤ (W : Int))) (by rw [decide_eq_true_eq]; omega))
          (o_ (iis .u64 (hshr hlt))
          (o_ (pv_bare L)
          (o_ hpart
          (o_ (wi (show (k : Int) + 1 = ((k + 1 : Nat) : Int) by omega) (by omega)) o0)))))))))))))) ?_
        kernel_rfl
      · refine codeL 400 [0, 1, 2] [0, 2] [4, 10, 11, 12] [.br true, .owe 14, .is 14 (.pointer (some ⟨0, 2 * k, none⟩)), .hint 15 (.cells [.int .i64 (W : Int), .int .u64 (X : Int)]), .callL (.bool true) [], .is 23 (.bool false), .lit, .codeG [0, 1, 2] [0] [4, 6, 10, 11, 12, 34, 35] (.exit 2) (outTs L.length (k : Int)) (outHp L (c0 :: C) (n + W)), .is 49 (.int .i64 ((k + 1 : Nat) : Int))]
          (o_ (pv_bare L) (o_ (row_bare (c0 :: C) 5 1)
          (o_ (show decide ((k : Int) < (L.length : Int)) = true by rw [decide_eq_true_eq]; omega)
          (o_ (bs1 (b0 := decide (0 ≤ (k : Int) ∧ (k : Int) < (L.length : Int))) (by rw [decide_eq_true_eq]; omega))
          (o_ (ptr_is (i := 0) (show 0 + (k : Int).toNat * 2 = 2 * k by omega))
          (o_ (show ((pv L).drop (2 * k)).take 2 = [Value.int .i64 (W : Int), .int .u64 (X : Int)] from hp2) (o_ (rfl : [Value.int .i64 (W : Int), Value.int .u64 (X : Int)].length = 2)
          (o_ (show AOn Tryz.prog 102 [.int .i64 (W : Int)] [] (.bool true) [] by have := fieldMay_eq (W : Int); rw [mayOf (by omega) (by omega)] at this; exact this)
          (o_ (bis (show decide ((W : Int) < 64) = false by rw [decide_eq_false_iff_not]; omega))
          (o_ (pv_bare L)
          (o_ hpart
          (o_ (wi (show (k : Int) + 1 = ((k + 1 : Nat) : Int) by omega) (by omega)) o0)))))))))))) ?_
        kernel_rfl
    · rw [hVB] at hpart
      by_cases hlt : W < 64
      · refine codeL 400 [0, 1, 2] [0, 2] [4, 10, 11, 12] [.br true, .owe 14, .is 14 (.pointer (some ⟨0, 2 * k, none⟩)), .hint 15 (.cells [.int .i64 (W : Int), .int .u64 (X : Int)]), .callL (.bool true) [], .is 23 (.bool true), .owe 29, .is 29 (.int .u64 0), .lit, .codeG [0, 1, 3, 2] [0, 2] [4, 6, 10, 11, 12, 34, 35] (.exit 2) (outTs L.length (k : Int)) (outHp L (c0 :: C) (n + W)), .is 49 (.int .i64 ((k + 1 : Nat) : Int))]
          (o_ (pv_bare L) (o_ (row_bare (c0 :: C) 5 1)
          (o_ (show decide ((k : Int) < (L.length : Int)) = true by rw [decide_eq_true_eq]; omega)
          (o_ (bs1 (b0 := decide (0 ≤ (k : Int) ∧ (k : Int) < (L.length : Int))) (by rw [decide_eq_true_eq]; omega))
          (o_ (ptr_is (i := 0) (show 0 + (k : Int).toNat * 2 = 2 * k by omega))
          (o_ (show ((pv L).drop (2 * k)).take 2 = [Value.int .i64 (W : Int), .int .u64 (X : Int)] from hp2) (o_ (rfl : [Value.int .i64 (W : Int), Value.int .u64 (X : Int)].length = 2)
          (o_ (show AOn Tryz.prog 102 [.int .i64 (W : Int)] [] (.bool true) [] by have := fieldMay_eq (W : Int); rw [mayOf (by omega) (by omega)] at this; exact this)
          (o_ (bis (show decide ((W : Int) < 64) = true by rw [decide_eq_true_eq]; omega))
          (o_ (bs1 (b0 := decide (0 ≤ (W : Int))) (by rw [decide_eq_true_eq]; omega))
          (o_ (iis .u64 (hshr hlt))
          (o_ (pv_bare L) (o_ (row_bare (b0 :: B') 5 1)
          (o_ hpart
          (o_ (wi (show (k : Int) + 1 = ((k + 1 : Nat) : Int) by omega) (by omega)) o0))))))))))))))) ?_
        kernel_rfl
      · refine codeL 400 [0, 1, 2] [0, 2] [4, 10, 11, 12] [.br true, .owe 14, .is 14 (.pointer (some ⟨0, 2 * k, none⟩)), .hint 15 (.cells [.int .i64 (W : Int), .int .u64 (X : Int)]), .callL (.bool true) [], .is 23 (.bool false), .lit, .codeG [0, 1, 3, 2] [0, 2] [4, 6, 10, 11, 12, 34, 35] (.exit 2) (outTs L.length (k : Int)) (outHp L (c0 :: C) (n + W)), .is 49 (.int .i64 ((k + 1 : Nat) : Int))]
          (o_ (pv_bare L) (o_ (row_bare (c0 :: C) 5 1)
          (o_ (show decide ((k : Int) < (L.length : Int)) = true by rw [decide_eq_true_eq]; omega)
          (o_ (bs1 (b0 := decide (0 ≤ (k : Int) ∧ (k : Int) < (L.length : Int))) (by rw [decide_eq_true_eq]; omega))
          (o_ (ptr_is (i := 0) (show 0 + (k : Int).toNat * 2 = 2 * k by omega))
          (o_ (show ((pv L).drop (2 * k)).take 2 = [Value.int .i64 (W : Int), .int .u64 (X : Int)] from hp2) (o_ (rfl : [Value.int .i64 (W : Int), Value.int .u64 (X : Int)].length = 2)
          (o_ (show AOn Tryz.prog 102 [.int .i64 (W : Int)] [] (.bool true) [] by have := fieldMay_eq (W : Int); rw [mayOf (by omega) (by omega)] at this; exact this)
          (o_ (bis (show decide ((W : Int) < 64) = false by rw [decide_eq_false_iff_not]; omega))
          (o_ (pv_bare L) (o_ (row_bare (b0 :: B') 5 1)
          (o_ hpart
          (o_ (wi (show (k : Int) + 1 = ((k + 1 : Nat) : Int) by omega) (by omega)) o0))))))))))))) ?_
        kernel_rfl
  cases hB : wb V n with
  | nil => exact key [] [0, 1, 2] [0] ⟨_, rfl, trivial⟩ hB (.inl ⟨rfl, rfl, rfl⟩)
  | cons b0 B' => exact key (b0 :: B') [0, 1, 3, 2] [0, 2] ⟨_, rfl, trivial⟩ hB (.inr ⟨⟨b0, B', rfl⟩, rfl, rfl⟩)
end
end Go.Proofs.Field

namespace Go.Proofs.Field
open Go Go.AX Go.Proofs
set_option maxRecDepth 1000000
set_option linter.unusedVariables false
set_option linter.unusedSimpArgs false

section
variable {L : List (Int × Int)} {n k : Nat} {w v : Int}
theorem out_end (V : Nat) : AComes Tryz.prog 1 (roundAt Tryz.prog 70 0) (outTs L.length (L.length : Int)) (outHp L (wb V n) n) (.exit 0) (Tm.told 61 [(4, .pointer (some ⟨1, 0, none⟩))]) (outHp L (wb V n) n) := by
  cases hB : wb V n with
  | nil =>
    refine codeL 400 [0, 1] [0] [4] [.br false] (o_ (pv_bare L) (o_ (show decide ((L.length : Int) < (L.length : Int)) = false by rw [decide_eq_false_iff_not]; omega) o0)) ?_
    kernel_rfl
  | cons b0 B =>
    refine codeL 400 [0, 1, 2] [0, 2] [4] [.br false] (o_ (pv_bare L) (o_ (row_bare (b0 :: B) 5 1) (o_ (show decide ((L.length : Int) < (L.length : Int)) = false by rw [decide_eq_false_iff_not]; omega) o0))) ?_
    kernel_rfl

noncomputable def badTs : Tm := Tm.told 61 [(2, .string ⟨#[]⟩), (3, .int .i64 4)]
theorem out_bad1 (V : Nat) (hlen : L.length < 2 ^ 30) (hk : L[k]? = some (w, v)) (hw : ¬ (1 ≤ w ∧ w ≤ 64)) :
    AComes Tryz.prog 1 (roundAt Tryz.prog 70 0) (outTs L.length (k : Int)) (outHp L (wb V n) n) .ret badTs [.ro (pv L) 2] := by
  have hkl := hd1 hk
  have hp2 := pv_part L k _ hk
  have hmay : AOn Tryz.prog 102 [.int .i64 w] [] (.bool false) [] := by have := fieldMay_eq w; rw [mayNot hw] at this; exact this
  cases hB : wb V n with
  | nil =>
    refine codeL 400 [0] [0] [2, 3] [.br true, .owe 14, .is 14 (.pointer (some ⟨0, 2 * k, none⟩)), .hint 15 (.cells [.int .i64 w, .int .u64 v]), .callL (.bool false) [], .lit]
      (o_ (pv_bare L)
      (o_ (show decide ((k : Int) < (L.length : Int)) = true by rw [decide_eq_true_eq]; omega)
      (o_ (bs1 (b0 := decide (0 ≤ (k : Int) ∧ (k : Int) < (L.length : Int))) (by rw [decide_eq_true_eq]; omega))
      (o_ (ptr_is (i := 0) (show 0 + (k : Int).toNat * 2 = 2 * k by omega))
      (o_ (show ((pv L).drop (2 * k)).take 2 = [Value.int .i64 w, .int .u64 v] from hp2) (o_ (rfl : [Value.int .i64 w, Value.int .u64 v].length = 2)
      (o_ hmay o0))))))) ?_
    kernel_rfl
  | cons b0 B =>
    refine codeL 400 [0] [0] [2, 3] [.br true, .owe 14, .is 14 (.pointer (some ⟨0, 2 * k, none⟩)), .hint 15 (.cells [.int .i64 w, .int .u64 v]), .callL (.bool false) [], .lit]
      (o_ (pv_bare L)
      (o_ (show decide ((k : Int) < (L.length : Int)) = true by rw [decide_eq_true_eq]; omega)
      (o_ (bs1 (b0 := decide (0 ≤ (k : Int) ∧ (k : Int) < (L.length : Int))) (by rw [decide_eq_true_eq]; omega))
      (o_ (ptr_is (i := 0) (show 0 + (k : Int).toNat * 2 = 2 * k by omega))
      (o_ (show ((pv L).drop (2 * k)).take 2 = [Value.int .i64 w, .int .u64 v] from hp2) (o_ (rfl : [Value.int .i64 w, Value.int .u64 v].length = 2)
      (o_ hmay o0))))))) ?_
    kernel_rfl
theorem out_bad2 (V : Nat) {W X : Nat} (hlen : L.length < 2 ^ 30) (hk : L[k]? = some ((W : Int), (X : Int))) (hW0 : 1 ≤ W) (hW : W < 64) (hX : 2 ^ W ≤ X) :
    AComes Tryz.prog 1 (roundAt Tryz.prog 70 0) (outTs L.length (k : Int)) (outHp L (wb V n) n) .ret badTs [.ro (pv L) 2] := by
  have hkl := hd1 hk
  have hp2 := pv_part L k _ hk
  have hmay : AOn Tryz.prog 102 [.int .i64 (W : Int)] [] (.bool true) [] := by have := fieldMay_eq (W : Int); rw [mayOf (by omega) (by omega)] at this; exact this
  have hshr : (0 : Int) < ((X / 2 ^ W : Nat) : Int) := by
    have : 0 < X / 2 ^ W := Nat.div_pos hX (Nat.two_pow_pos _)
    omega
  cases hB : wb V n with
  | nil =>
    refine codeL 400 [0] [0] [2, 3] [.br true, .owe 14, .is 14 (.pointer (some ⟨0, 2 * k, none⟩)), .hint 15 (.cells [.int .i64 (W : Int), .int .u64 (X : Int)]), .callL (.bool true) [], .is 23 (.bool true), .owe 29, .is 29 (.int .u64 ((X / 2 ^ W : Nat) : Int)), .is 30 (.bool true), .lit]
      (o_ (pv_bare L)
      (o_ (show decide ((k : Int) < (L.length : Int)) = true by rw [decide_eq_true_eq]; omega)
      (o_ (bs1 (b0 := decide (0 ≤ (k : Int) ∧ (k : Int) < (L.length : Int))) (by rw [decide_eq_true_eq]; omega))
      (o_ (ptr_is (i := 0) (show 0 + (k : Int).toNat * 2 = 2 * k by omega))
      (o_ (show ((pv L).drop (2 * k)).take 2 = [Value.int .i64 (W : Int), .int .u64 (X : Int)] from hp2) (o_ (rfl : [Value.int .i64 (W : Int), Value.int .u64 (X : Int)].length = 2)
      (o_ hmay
      (o_ (bis (show decide ((W : Int) < 64) = true by rw [decide_eq_true_eq]; omega))
      (o_ (bs1 (b0 := decide (0 ≤ (W : Int))) (by rw [decide_eq_true_eq]; omega))
      (o_ (iis .u64 (shr_nat X W (by omega) .u64 rfl))
      (o_ (bis (show decide (((X / 2 ^ W : Nat) : Int) > 0) = true by rw [decide_eq_true_eq]; exact hshr)) o0))))))))))) ?_
    kernel_rfl
  | cons b0 B =>
    refine codeL 400 [0] [0] [2, 3] [.br true, .owe 14, .is 14 (.pointer (some ⟨0, 2 * k, none⟩)), .hint 15 (.cells [.int .i64 (W : Int), .int .u64 (X : Int)]), .callL (.bool true) [], .is 23 (.bool true), .owe 29, .is 29 (.int .u64 ((X / 2 ^ W : Nat) : Int)), .is 30 (.bool true), .lit]
      (o_ (pv_bare L)
      (o_ (show decide ((k : Int) < (L.length : Int)) = true by rw [decide_eq_true_eq]; omega)
      (o_ (bs1 (b0 := decide (0 ≤ (k : Int) ∧ (k : Int) < (L.length : Int))) (by rw [decide_eq_true_eq]; omega))
      (o_ (ptr_is (i := 0) (show 0 + (k : Int).toNat * 2 = 2 * k by omega))
      (o_ (show ((pv L).drop (2 * k)).take 2 = [Value.int .i64 (W : Int), .int .u64 (X : Int)] from hp2) (o_ (rfl : [Value.int .i64 (W : Int), Value.int .u64 (X : Int)].length = 2)
      (o_ hmay
      (o_ (bis (show decide ((W : Int) < 64) = true by rw [decide_eq_true_eq]; omega))
      (o_ (bs1 (b0 := decide (0 ≤ (W : Int))) (by rw [decide_eq_true_eq]; omega))
      (o_ (iis .u64 (shr_nat X W (by omega) .u64 rfl))
      (o_ (bis (show decide (((X / 2 ^ W : Nat) : Int) > 0) = true by rw [decide_eq_true_eq]; exact hshr)) o0))))))))))) ?_
    kernel_rfl
end

def addP (s : Nat × Nat) (p : Int × Int) : Nat × Nat := (s.1 * 2 ^ p.1.toNat + p.2.toNat, s.2 + p.1.toNat)
def packN (L : List (Int × Int)) : Nat × Nat := L.foldl addP (0, 0)
def pack (L : List (Int × Int)) : ByteArray × Int :=
  bif L.all okPart then (bif (packN L).2 % 8 == 0 then (bstr (wb (packN L).1 (packN L).2), 0) else (⟨#[]⟩, 3)) else (⟨#[]⟩, 4)

theorem okPart_spec {p : Int × Int} (h : okPart p = true) (hr : 0 ≤ p.2 ∧ p.2 < 2 ^ 64) : ∃ W X : Nat, p = ((W : Int), (X : Int)) ∧ 1 ≤ W ∧ W ≤ 64 ∧ X < 2 ^ W := by
  obtain ⟨w, v⟩ := p
  simp only [okPart, Bool.and_eq_true, Bool.or_eq_true, decide_eq_true_eq] at h
  refine ⟨w.toNat, v.toNat, ?_, by omega, by omega, ?_⟩
  · simp only [Prod.mk.injEq]; omega
  · rcases h.2 with h2 | h2
    · have e : w.toNat = 64 := by omega
      rw [e]
      have := hr.2
      simp only at this
      omega
    · exact h2

theorem packN_take {L : List (Int × Int)} {k : Nat} {p : Int × Int} (h : L[k]? = some p) : packN (L.take (k + 1)) = addP (packN (L.take k)) p := by
  have hl := (List.getElem?_eq_some_iff.1 h).1
  have e : L.take (k + 1) = L.take k ++ [p] := by
    rw [List.take_add_one, h]; rfl
  rw [e]
  unfold packN
  rw [List.foldl_append]
  rfl

theorem packN_le {L : List (Int × Int)} (h : L.all okPart = true) : (packN L).2 ≤ 64 * L.length := by
  have : ∀ (L : List (Int × Int)) (s : Nat × Nat), L.all okPart = true → (L.foldl addP s).2 ≤ s.2 + 64 * L.length := by
    intro L
    induction L with
    | nil => intro s _; simp
    | cons p L ih =>
      intro s h
      simp only [List.all_cons, Bool.and_eq_true] at h
      have h2 := ih (addP s p) h.2
      have h1 := h.1
      simp only [okPart, Bool.and_eq_true, decide_eq_true_eq] at h1
      simp only [List.foldl_cons, List.length_cons]
      simp only [addP] at h2 ⊢
      omega
  have := this L (0, 0) h
  simpa [packN] using this

theorem all_take {L : List (Int × Int)} (k : Nat) (h : L.all okPart = true) : (L.take k).all okPart = true :=
  List.all_eq_true.2 fun p hp => List.all_eq_true.1 h p (List.mem_of_mem_take hp)
theorem parts_round {L : List (Int × Int)} (hlen : L.length < 2 ^ 30) (hr : ∀ p ∈ L, 0 ≤ p.2 ∧ p.2 < 2 ^ 64) (g : Nat) (hg : g ≤ L.length) (hall : (L.take g).all okPart = true) (k : Nat) (hk : k < g) :
    AComes Tryz.prog 1 (roundAt Tryz.prog 70 0) (outTs L.length (k : Int)) (outHp L (wb (packN (L.take k)).1 (packN (L.take k)).2) (packN (L.take k)).2) .normal (outTs L.length ((k + 1 : Nat) : Int)) (outHp L (wb (packN (L.take (k + 1))).1 (packN (L.take (k + 1))).2) (packN (L.take (k + 1))).2) := by
  have hkl : k < L.length := by omega
  have hp : L[k]? = some L[k] := List.getElem?_eq_getElem hkl
  have hmem : L[k] ∈ L.take g := by
    rw [List.mem_take_iff_getElem]
    exact ⟨k, by omega, rfl⟩
  obtain ⟨W, X, he, h1, h2, h3⟩ := okPart_spec (List.all_eq_true.1 hall _ hmem) (hr _ (List.getElem_mem hkl))
  have hadd := packN_take hp
  rw [he] at hp hadd
  have hle : (packN (L.take k)).2 ≤ 64 * (L.take k).length := packN_le (by
    have := all_take k hall
    rw [List.take_take, Nat.min_eq_left (by omega)] at this
    exact this)
  rw [hadd]
  exact out_round hlen hp h1 h2 h3 (by
    have : (L.take k).length ≤ L.length := by simp; omega
    omega)

theorem packLoop_ok {L : List (Int × Int)} (hlen : L.length < 2 ^ 30) (hr : ∀ p ∈ L, 0 ≤ p.2 ∧ p.2 < 2 ^ 64) (hall : L.all okPart = true) :
    AComes Tryz.prog 1 (loopAt Tryz.prog 70 0) (outTs L.length 0) (outHp L [] 0) (.exit 0) (Tm.told 61 [(4, .pointer (some ⟨1, 0, none⟩))]) (outHp L (wb (packN L).1 (packN L).2) (packN L).2) := by
  have e : loopAt Tryz.prog 70 0 = .loop (roundAt Tryz.prog 70 0) := by kernel_rfl
  rw [e]
  have key := AComes.loop (P := Tryz.prog) (m := 1) (c := roundAt Tryz.prog 70 0) (ex := .exit 0) (ts' := Tm.told 61 [(4, .pointer (some ⟨1, 0, none⟩))]) (h' := outHp L (wb (packN L).1 (packN L).2) (packN L).2) (by simp) L.length
    (fun k => (outTs L.length (k : Int), outHp L (wb (packN (L.take k)).1 (packN (L.take k)).2) (packN (L.take k)).2))
    (fun k hk => parts_round hlen hr L.length (Nat.le_refl _) (by rw [List.take_length]; exact hall) k hk)
    (by simp only [List.take_length]; exact out_end _)
  simp only [List.take_zero] at key
  exact key

theorem first_bad : ∀ (L : List (Int × Int)), L.all okPart = false → ∃ g p, L[g]? = some p ∧ okPart p = false ∧ (L.take g).all okPart = true
  | [], h => by simp at h
  | p :: L, h => by
    cases hp : okPart p with
    | false => exact ⟨0, p, rfl, hp, rfl⟩
    | true =>
      rw [List.all_cons, hp, Bool.true_and] at h
      obtain ⟨g, q, h1, h2, h3⟩ := first_bad L h
      exact ⟨g + 1, q, by simpa using h1, h2, by rw [List.take_succ_cons, List.all_cons, hp, h3]; rfl⟩

theorem packLoop_bad {L : List (Int × Int)} (hlen : L.length < 2 ^ 30) (hr : ∀ p ∈ L, 0 ≤ p.2 ∧ p.2 < 2 ^ 64) (hall : L.all okPart = false) :
    AComes Tryz.prog 1 (loopAt Tryz.prog 70 0) (outTs L.length 0) (outHp L [] 0) .ret badTs [.ro (pv L) 2] := by
  obtain ⟨g, p, h1, h2, h3⟩ := first_bad L hall
  have hgl := (List.getElem?_eq_some_iff.1 h1).1
  have e : loopAt Tryz.prog 70 0 = .loop (roundAt Tryz.prog 70 0) := by kernel_rfl
  rw [e]
  have key := AComes.loop (P := Tryz.prog) (m := 1) (c := roundAt Tryz.prog 70 0) (ex := .ret) (ts' := badTs) (h' := [.ro (pv L) 2]) (by simp) g
    (fun k => (outTs L.length (k : Int), outHp L (wb (packN (L.take k)).1 (packN (L.take k)).2) (packN (L.take k)).2))
    (fun k hk => parts_round hlen hr g (by omega) h3 k hk)
    (by
      obtain ⟨w, v⟩ := p
      by_cases hw : 1 ≤ w ∧ w ≤ 64
      · have hv := hr _ (List.mem_of_getElem? h1)
        simp only at hv
        have hb : w < 64 ∧ 2 ^ w.toNat ≤ v.toNat := by
          simp only [okPart, Bool.and_eq_false_iff, Bool.or_eq_false_iff, decide_eq_false_iff_not] at h2
          rcases h2 with (h2 | h2) | ⟨h2, h4⟩
          · exact absurd hw.1 h2
          · exact absurd hw.2 h2
          · exact ⟨by omega, by omega⟩
        have e1 : w = ((w.toNat : Nat) : Int) := by omega
        have e2 : v = ((v.toNat : Nat) : Int) := by omega
        rw [e1, e2] at h1
        exact out_bad2 _ hlen h1 (by omega) (by omega) hb.2
      · exact out_bad1 _ hlen h1 hw)
  simp only [List.take_zero] at key
  exact key
end Go.Proofs.Field

namespace Go.Proofs.Field
open Go Go.AX Go.Proofs
set_option maxRecDepth 1000000
set_option linter.unusedVariables false
set_option linter.unusedSimpArgs false
noncomputable def headRun (r : FRes) : Option (List Prop × Value × AObj) :=
  match r with
  | some (ob, v, o :: _, _) =>
    match okIds (fun i => decide (i < 1)) v with
    | true => some (ob, v, o)
    | false => none
  | _ => none

theorem runHead {P : Program} {k : FuncId} {args : List Value} {o o' : AObj} {v : Value} (n : Nat) (scr : Script) {ob : List Prop} (ho : AllP ob) (hb : bareO o' = true)
    (he : headRun (evFn P n k args [o] scr) = some (ob, v, o')) : AEq P k args [o] v [o'] := by
  unfold headRun at he
  split at he
  · rename_i ob1 v1 o1 rest s1 hr
    split at he
    · rename_i hv
      simp only [Option.some.injEq, Prod.mk.injEq] at he
      obtain ⟨rfl, rfl, rfl⟩ := he
      have t := evFn_sound hr ho
      exact AEq.keep (h1 := [o1]) (g := rest) t rfl hv (by
        simp only [List.all_cons, List.all_nil, Bool.and_true]
        cases o1 with
        | mp es =>
          refine List.all_eq_true.2 fun x hx => ?_
          have := List.all_eq_true.1 hb x hx
          rw [Bool.and_eq_true] at this ⊢
          exact ⟨okIds_mono (fun _ h => Bool.noConfusion h) this.1, okIds_mono (fun _ h => Bool.noConfusion h) this.2⟩
        | gone => rfl
        | cells vs e sz => exact List.all_eq_true.2 fun v hv => okIds_mono (fun _ h => Bool.noConfusion h) (List.all_eq_true.1 hb v hv)
        | row vs e sz => exact List.all_eq_true.2 fun v hv => okIds_mono (fun _ h => Bool.noConfusion h) (List.all_eq_true.1 hb v hv)
        | ro vs sz => exact List.all_eq_true.2 fun v hv => okIds_mono (fun _ h => Bool.noConfusion h) (List.all_eq_true.1 hb v hv))
    · simp at he
  · simp at he

section
variable {L : List (Int × Int)}

theorem packRun (hlen : L.length < 2 ^ 30) (hr : ∀ p ∈ L, 0 ≤ p.2 ∧ p.2 < 2 ^ 64) :
    AEq Tryz.prog 70 [.slice (some ⟨0, 0, none⟩) L.length UNR] [.ro (pv L) 2] (.tuple ⟨[.string (pack L).1, .int .i64 (pack L).2]⟩) [.ro (pv L) 2] := by
  cases hall : L.all okPart with
  | false =>
    have e : pack L = (⟨#[]⟩, 4) := by unfold pack; rw [hall]; rfl
    rw [e]
    refine runHead 400 [.codeG [0, 1] [0] [4, 10, 11, 12] .ret badTs [.ro (pv L) 2]] (o_ (pv_bare L) (o_ (packLoop_bad hlen hr hall) o0)) (pv_bare L) ?_
    kernel_rfl
  | true =>
    by_cases hm : (packN L).2 % 8 = 0
    · have e : pack L = (bstr (wb (packN L).1 (packN L).2), 0) := by unfold pack; rw [hall, hm]; rfl
      rw [e]
      have hloop := packLoop_ok hlen hr hall
      cases hB : wb (packN L).1 (packN L).2 with
      | nil =>
        rw [hB] at hloop
        refine runHead 400 [.codeG [0, 1] [0] [4, 10, 11, 12] (.exit 0) (Tm.told 61 [(4, .pointer (some ⟨1, 0, none⟩))]) (outHp L [] (packN L).2), .is 54 (.int .i64 0)]
          (o_ (pv_bare L) (o_ hloop (o_ (show Value.int .i64 (Int.tmod ((packN L).2 : Int) 8) = .int .i64 0 by rw [tmod8, hm]; rfl) o0))) (pv_bare L) ?_
        kernel_rfl
      | cons b0 B =>
        rw [hB] at hloop
        refine runHead 400 [.codeG [0, 1] [0] [4, 10, 11, 12] (.exit 0) (Tm.told 61 [(4, .pointer (some ⟨1, 0, none⟩))]) (outHp L (b0 :: B) (packN L).2), .is 54 (.int .i64 0), .hint 60 (.str (bstr (b0 :: B)))]
          (o_ (pv_bare L) (o_ hloop (o_ (show Value.int .i64 (Int.tmod ((packN L).2 : Int) 8) = .int .i64 0 by rw [tmod8, hm]; rfl)
          (o_ (D_iff.2 (show 0 < (b0 :: B).length by simp)) (o_ (D_iff.2 (show (((bv (b0 :: B)).drop 0).take (b0 :: B).length).length = (b0 :: B).length by simp [bv]))
          (o_ (show ∃ ns : List Int, ((bv (b0 :: B)).drop 0).take (b0 :: B).length = ns.map (Value.int .u8) ∧ bstr (b0 :: B) = bstr ns from ⟨b0 :: B, by rw [List.drop_zero]; show (bv (b0 :: B)).take _ = bv (b0 :: B); rw [List.take_of_length_le]; simp [bv], rfl⟩) o0)))))) (pv_bare L) ?_
        kernel_rfl
    · have e : pack L = (⟨#[]⟩, 3) := by
        unfold pack; rw [hall]
        have : ((packN L).2 % 8 == 0) = false := by rw [beq_eq_false_iff_ne]; exact hm
        rw [this]; rfl
      rw [e]
      have hloop := packLoop_ok hlen hr hall
      have hne : (((packN L).2 % 8 : Nat) : Int) ≠ 0 := by omega
      cases hB : wb (packN L).1 (packN L).2 with
      | nil =>
        rw [hB] at hloop
        refine runHead 400 [.codeG [0, 1] [0] [4, 10, 11, 12] (.exit 0) (Tm.told 61 [(4, .pointer (some ⟨1, 0, none⟩))]) (outHp L [] (packN L).2), .is 54 (.int .i64 (((packN L).2 % 8 : Nat) : Int)), .is 55 (.bool true)]
          (o_ (pv_bare L) (o_ hloop (o_ (show Value.int .i64 (Int.tmod ((packN L).2 : Int) 8) = .int .i64 _ by rw [tmod8]) (o_ (show Value.bool (!decide ((((packN L).2 % 8 : Nat) : Int) = 0)) = .bool true by rw [decide_eq_false hne]; rfl) o0)))) (pv_bare L) ?_
        kernel_rfl
      | cons b0 B =>
        rw [hB] at hloop
        refine runHead 400 [.codeG [0, 1] [0] [4, 10, 11, 12] (.exit 0) (Tm.told 61 [(4, .pointer (some ⟨1, 0, none⟩))]) (outHp L (b0 :: B) (packN L).2), .is 54 (.int .i64 (((packN L).2 % 8 : Nat) : Int)), .is 55 (.bool true)]
          (o_ (pv_bare L) (o_ hloop (o_ (show Value.int .i64 (Int.tmod ((packN L).2 : Int) 8) = .int .i64 _ by rw [tmod8]) (o_ (show Value.bool (!decide ((((packN L).2 % 8 : Nat) : Int) = 0)) = .bool true by rw [decide_eq_false hne]; rfl) o0)))) (pv_bare L) ?_
        kernel_rfl
end

theorem AEq.weak {P : Program} {k : FuncId} {args args1 : List Value} {h h' : AHeap} {v : Value} (t : AEq P k args h v h') (hr : ∀ E l, RepL E args1 l → RepL E args l) : AEq P k args1 h v h' :=
  fun E w args' g ra => t E w args' g (hr E args' ra)

theorem rep_unr {E : Env} {i n c : Nat} {x : Value} (h : Rep E (.slice (some ⟨i, 0, none⟩) n c) x) : Rep E (.slice (some ⟨i, 0, none⟩) n UNR) x := by
  cases h with
  | slX _ _ _ _ _ hi ha hn hc => exact .slR _ _ _ _ _ hi ha hn
  | slU _ _ _ hi h0 hn hz => exact .slR _ _ _ _ _ hi (fun _ => rfl) hn
  | slE _ hi => exact .slR _ _ _ _ _ hi (fun h => absurd h (Nat.lt_irrefl 0)) (Nat.le_refl 0)
  | slR _ _ _ _ _ hi ha hn => exact .slR _ _ _ _ _ hi ha hn

theorem packOn {L : List (Int × Int)} (hlen : L.length < 2 ^ 30) (hr : ∀ p ∈ L, 0 ≤ p.2 ∧ p.2 < 2 ^ 64) (i c : Nat) (o : AObj) (ho : lends (.ro (pv L) 2) o) :
    AOn Tryz.prog 70 [.slice (some ⟨i, 0, none⟩) L.length c] [(i, o)] (.tuple ⟨[.string (pack L).1, .int .i64 (pack L).2]⟩) [(i, o)] := by
  intro H hH
  have hset : setL H [(i, o)] = H := by
    show H.set i o = H
    obtain ⟨hl, he⟩ := List.getElem?_eq_some_iff.1 hH.1
    rw [← he, List.set_getElem_self]
  rw [hset]
  have hpv : rnO (fun _ => i) (.ro (pv L) 2) = .ro (pv L) 2 := by
    show AObj.ro ((pv L).map (rnV fun _ => i)) 2 = .ro (pv L) 2
    have : (pv L).map (rnV fun _ => i) = (pv L).map id := List.map_congr_left fun v hv => rnV_bare (List.all_eq_true.1 (pv_bare L) v hv)
    rw [this, List.map_id]
  have hok : ([AObj.ro (pv L) 2].all (okObj fun i => decide (i < 1))) = true := by
    simp only [List.all_cons, List.all_nil, Bool.and_true]
    exact List.all_eq_true.2 fun v hv => okIds_mono (fun _ h => Bool.noConfusion h) (List.all_eq_true.1 (pv_bare L) v hv)
  have t := (packRun hlen hr).at (fun _ => i) H (fun a b ha hb _ => by simp only [List.length_cons, List.length_nil] at ha hb; omega)
    (fun j o' hj => by
      cases j with
      | zero =>
        simp only [List.getElem?_cons_zero, Option.some.injEq] at hj
        subst hj
        exact ⟨o, hH.1, by rw [hpv]; exact ho⟩
      | succ j => simp at hj)
    hok rfl rfl hok
    (fun j o' hj h => by
      cases j with
      | zero =>
        simp only [List.getElem?_cons_zero, Option.some.injEq] at hj
        subst hj
        exact h _ rfl
      | succ j => simp at hj)
    (Nat.le_refl _)
  refine AEq.weak (args := [.slice (some ⟨i, 0, none⟩) L.length UNR]) ?_ (fun E l h => by
    cases h with
    | cons _ _ _ _ h t => exact .cons _ _ _ _ (rep_unr h) t)
  have hm : mergeH (fun _ => i) H [AObj.ro (pv L) 2] [AObj.ro (pv L) 2] = H := by simp [mergeH, putBack]
  rw [hm] at t
  exact t
end Go.Proofs.Field

namespace Go.Proofs.Field
open Go Go.AX Go.Proofs
set_option maxRecDepth 1000000
set_option linter.unusedVariables false
set_option linter.unusedSimpArgs false
def packS (L : List (Int × Int)) : ByteArray := bstr (wb (packN L).1 (packN L).2)

theorem packS_size (L : List (Int × Int)) : (packS L).size = ((packN L).2 + 7) / 8 := by
  have : (packS L).size = (wb (packN L).1 (packN L).2).length := by
    show ((wb (packN L).1 (packN L).2).map fun n => UInt8.ofNat n.toNat).length = _
    rw [List.length_map]
  rw [this, wb_length]

def sumW : List Int → Nat
  | [] => 0
  | w :: l => w.toNat + sumW l
theorem packN_snd (L : List (Int × Int)) : (packN L).2 = sumW (L.map Prod.fst) := by
  have key : ∀ (L : List (Int × Int)) (s : Nat × Nat), (L.foldl addP s).2 = s.2 + sumW (L.map Prod.fst) := by
    intro L
    induction L with
    | nil => intro s; rfl
    | cons p L ih => intro s; rw [List.foldl_cons, ih]; show s.2 + p.1.toNat + _ = s.2 + (p.1.toNat + _); omega
  rw [packN, key]; simp
theorem packS_len (L : List (Int × Int)) (ws : List Int) (hw : L.map Prod.fst = ws) (k : Nat) (hk : decide (sumW ws = 8 * k) = true) : (packS L).size = k := by
  rw [packS_size, packN_snd, hw, of_decide_eq_true hk]; omega

structure PartsOk (L : List (Int × Int)) : Prop where
  all : L.all okPart = true
  rng : ∀ p ∈ L, 0 ≤ p.2 ∧ p.2 < 2 ^ 64

theorem partsNil : PartsOk [] := ⟨rfl, fun p h => by simp at h⟩
theorem partsCons {w v b : Int} {L : List (Int × Int)} (hw : decide (1 ≤ w ∧ w ≤ 64) = true) (hb : b = 2 ^ w.toNat) (h0 : 0 ≤ v) (h1 : v < b) (t : PartsOk L) : PartsOk ((w, v) :: L) := by
  rw [decide_eq_true_eq] at hw
  have hp : (2 : Int) ^ w.toNat ≤ 2 ^ 64 := by
    have : (2 : Nat) ^ w.toNat ≤ 2 ^ 64 := Nat.pow_le_pow_right (by omega) (by omega)
    have h2 : ((2 ^ w.toNat : Nat) : Int) ≤ ((2 ^ 64 : Nat) : Int) := Int.ofNat_le.2 this
    simpa using h2
  refine ⟨?_, fun p hm => ?_⟩
  · rw [List.all_cons, t.all, Bool.and_true]
    unfold okPart
    simp only [Bool.and_eq_true, Bool.or_eq_true, decide_eq_true_eq]
    refine ⟨hw, .inr ?_⟩
    subst hb
    have : (v.toNat : Int) < ((2 ^ w.toNat : Nat) : Int) := by
      rw [Int.toNat_of_nonneg h0]; simpa using h1
    exact Int.ofNat_lt.1 this
  · rcases List.mem_cons.1 hm with rfl | h
    · exact ⟨h0, by subst hb; exact Int.lt_of_lt_of_le h1 hp⟩
    · exact t.rng p h

theorem packOn_ok {L : List (Int × Int)} (n : Nat) (hn : L.length = n) (hlen : decide (n < 2 ^ 30) = true) (hL : PartsOk L) (ws : List Int) (hw : L.map Prod.fst = ws) (k : Nat) (hk : decide (sumW ws = 8 * k) = true) (i c : Nat) (o : AObj) (ho : lends (.ro (pv L) 2) o) :
    AOn Tryz.prog 70 [.slice (some ⟨i, 0, none⟩) n c] [(i, o)] (.tuple ⟨[.string (packS L), .int .i64 0]⟩) [(i, o)] := by
  subst hn
  have t := packOn (L := L) (of_decide_eq_true hlen) hL.rng i c o ho
  have hm : (packN L).2 % 8 = 0 := by rw [packN_snd, hw, of_decide_eq_true hk]; omega
  have e : pack L = (packS L, 0) := by unfold pack; rw [hL.all, hm]; rfl
  rw [e] at t
  exact t

theorem packOn_lit {L : List (Int × Int)} {args : List Value} {old new : List (Nat × AObj)} (s : ByteArray) (h : packS L = s) (t : AOn Tryz.prog 70 args old (.tuple ⟨[.string (packS L), .int .i64 0]⟩) new) :
    AOn Tryz.prog 70 args old (.tuple ⟨[.string s, .int .i64 0]⟩) new := by subst h; exact t
theorem lendsCells {vs us : List Value} {e sz : Nat} (r : List Value) (h : us = vs ++ r) : lends (.ro vs sz) (.cells us e sz) := ⟨rfl, r, h⟩
theorem lendsRow {vs us : List Value} {e sz : Nat} (r : List Value) (h : us = vs ++ r) : lends (.ro vs sz) (.row us e sz) := ⟨rfl, r, h⟩
theorem app_size {a b : ByteArray} {n m k : Nat} (ha : a.size = n) (hb : b.size = m) (hk : n + m = k) : (a ++ b).size = k := by
  rw [ByteArray.size_append, ha, hb, hk]
theorem size_is {s : ByteArray} {n : Nat} (h : s.size = n) : Value.int .i64 (s.size : Int) = .int .i64 (n : Int) := by rw [h]
theorem szle {a b : ByteArray} {n m : Nat} (ha : a.size = n) (hb : b.size = m) (h : decide (n + m ≤ 9223372036854775807) = true) : decide (a.size + b.size ≤ 9223372036854775807) = true := by rw [ha, hb]; exact h
end Go.Proofs.Field

namespace Go.Proofs
open Go.Shelf
def Tryz.lays105_ren : Go.Shelf.Ren := ⟨fun | 105 => 119 | 212 => 128 | 99 => 129 | 165 => 130 | 166 => 131 | 170 => 132 | 169 => 133 | 263 => 137 | 264 => 138 | 206 => 139 | 240 => 140 | 241 => 141 | 276 => 142 | 277 => 143 | n => n, fun | 9 => 9 | 3 => 3 | 4 => 4 | 20 => 20 | 0 => 0 | 46 => 201 | 109 => 208 | 5 => 5 | 72 => 213 | 76 => 217 | 51 => 176 | 146 => 222 | 53 => 26 | 148 => 224 | 70 => 211 | 37 => 181 | 75 => 216 | 127 => 226 | 164 => 227 | 80 => 132 | n => n, fun | n => n⟩
theorem Tryz.lays105 : Go.Proofs.Lays.n105 Tryz.prog Tryz.lays105_ren := {
  mixed := by kernel_rfl
  f99 := Tryz.func129.trans (congrArg some (by kernel_rfl))
  f105 := Tryz.func119.trans (congrArg some (by kernel_rfl))
  f165 := Tryz.func130.trans (congrArg some (by kernel_rfl))
  f166 := Tryz.func131.trans (congrArg some (by kernel_rfl))
  f169 := Tryz.func133.trans (congrArg some (by kernel_rfl))
  f170 := Tryz.func132.trans (congrArg some (by kernel_rfl))
  f206 := Tryz.func139.trans (congrArg some (by kernel_rfl))
  f212 := Tryz.func128.trans (congrArg some (by kernel_rfl))
  f240 := Tryz.func140.trans (congrArg some (by kernel_rfl))
  f241 := Tryz.func141.trans (congrArg some (by kernel_rfl))
  f263 := Tryz.func137.trans (congrArg some (by kernel_rfl))
  f264 := Tryz.func138.trans (congrArg some (by kernel_rfl))
  f276 := Tryz.func142.trans (congrArg some (by kernel_rfl))
  f277 := Tryz.func143.trans (congrArg some (by kernel_rfl))
  t0 := Tryz.underlying0
  a0 := Tryz.isAgg0
  z0 := Tryz.sizeOf0
  v0 := Tryz.zeroValue0
  t3 := Tryz.underlying3
  a3 := Tryz.isAgg3
  z3 := Tryz.sizeOf3
  v3 := Tryz.zeroValue3
  t4 := Tryz.underlying4
  a4 := Tryz.isAgg4
  z4 := Tryz.sizeOf4
  v4 := Tryz.zeroValue4
  t5 := Tryz.underlying5
  a5 := Tryz.isAgg5
  z5 := Tryz.sizeOf5
  v5 := Tryz.zeroValue5
  t9 := Tryz.underlying9
  a9 := Tryz.isAgg9
  z9 := Tryz.sizeOf9
  v9 := Tryz.zeroValue9
  t20 := Tryz.underlying20
  a20 := Tryz.isAgg20
  z20 := Tryz.sizeOf20
  v20 := Tryz.zeroValue20
  t37 := Tryz.underlying181
  a37 := Tryz.isAgg181
  z37 := Tryz.sizeOf181
  v37 := Tryz.zeroValue181
  t46 := Tryz.underlying201
  a46 := Tryz.isAgg201
  z46 := Tryz.sizeOf201
  v46 := Tryz.zeroValue201
  t51 := Tryz.underlying176
  a51 := Tryz.isAgg176
  z51 := Tryz.sizeOf176
  v51 := Tryz.zeroValue176
  t53 := Tryz.underlying26
  a53 := Tryz.isAgg26
  z53 := Tryz.sizeOf26
  v53 := Tryz.zeroValue26
  t70 := Tryz.underlying211
  a70 := Tryz.isAgg211
  z70 := Tryz.sizeOf211
  v70 := Tryz.zeroValue211
  t72 := Tryz.underlying213
  a72 := Tryz.isAgg213
  z72 := Tryz.sizeOf213
  v72 := Tryz.zeroValue213
  t75 := Tryz.underlying216
  a75 := Tryz.isAgg216
  z75 := Tryz.sizeOf216
  v75 := Tryz.zeroValue216
  t76 := Tryz.underlying217
  a76 := Tryz.isAgg217
  z76 := Tryz.sizeOf217
  v76 := Tryz.zeroValue217
  t109 := Tryz.underlying208
  a109 := Tryz.isAgg208
  z109 := Tryz.sizeOf208
  v109 := Tryz.zeroValue208
  t127 := Tryz.underlying226
  a127 := Tryz.isAgg226
  z127 := Tryz.sizeOf226
  v127 := Tryz.zeroValue226
  t146 := Tryz.underlying222
  a146 := Tryz.isAgg222
  z146 := Tryz.sizeOf222
  v146 := Tryz.zeroValue222
  t148 := Tryz.underlying224
  a148 := Tryz.isAgg224
  z148 := Tryz.sizeOf224
  v148 := Tryz.zeroValue224
  t164 := Tryz.underlying227
  a164 := Tryz.isAgg227
  z164 := Tryz.sizeOf227
  v164 := Tryz.zeroValue227 }
theorem Tryz.Builder_Extra_105 : Builder.Extra Tryz.prog Tryz.lays105_ren := {
  sizeBuilder := by kernel_rfl
  liesBuilder := by kernel_rfl
  t5 := Tryz.underlying5
  a5 := Tryz.isAgg5
  z5 := Tryz.sizeOf5
  v5 := Tryz.zeroValue5
  infoByte := by kernel_rfl
  cellsByte := by kernel_rfl
  sizeByte := by kernel_rfl
  neB5 := by decide }
end Go.Proofs

namespace Go.Proofs.E17
open Go Go.AX Go.Proofs
set_option linter.unusedVariables false
set_option linter.unusedSimpArgs false
def rep (s : ByteArray) (c : Nat) : ByteArray := ⟨(Lib.repeatL s.data.toList c).toArray⟩
theorem strings_Repeat (s : ByteArray) (c : Nat) (hc : decide (c ≤ 140737488355328) = true) (hlen : decide (s.size * c ≤ 140737488355328) = true) : AOn Tryz.prog 119 [.string s, .int .i64 (c : Int)] [] (.string (rep s c)) [] :=
  AOn.ofCalls (fun w => Any.strings_Repeat Tryz.lays105 Tryz.Builder_Extra_105 s c w (by have := of_decide_eq_true hc; omega) (of_decide_eq_true hlen))
    (fun E l h => by cases h with | cons _ _ _ _ h t => cases h; cases t with | cons _ _ _ _ h t => cases h; cases t; rfl) (fun E => .str _)
end Go.Proofs.E17

namespace Go.Proofs.E17
open Go Go.AX Go.Proofs
set_option maxRecDepth 1000000
set_option linter.unusedVariables false
set_option linter.unusedSimpArgs false

def rapsWrong (m : Msg) : Int :=
  bif (m.req == 7) || ((m.req == 11) || (m.req == 13)) then
    bif m.block then
      3
    else
      bif (!(decide (m.node ≤ 281474976710655))) || ((ibits .and .u64 (ishr .u64 m.node 40) 1) == 1) then
        4
      else
        0
  else
    bif m.req == 0 then
      bif (!(decide (m.node ≤ 281474976710655))) || ((ibits .and .u64 (ishr .u64 m.node 40) 1) == 1) then
        4
      else
        0
    else
      8
def rapsWrong_c (r : Int) : Dir := .callL (.int .i64 r) []
def rapsWrong_E (r : Int) : Value := .int .i64 r
theorem rapsWrong_eq (m : Msg) : AOn Tryz.prog 68 [.agg ⟨Msg.enc m⟩] [] (rapsWrong_E (rapsWrong m)) [] := by
  unfold rapsWrong
  apply onT 400 rapsWrong_E
  apply kor
  apply ki 5
  intro hb0
  apply ki 13
  intro hb1
  exact kl
  intro hb1
  apply kd .inl
  apply kor
  apply kj 180019
  intro hb2
  exact kl
  intro hb2
  apply kd .inl
  apply kd .inl
  apply ku 50006 (show (decide (m.node ≤ 281474976710655)) = true from by first | omega | (simp only [zor, zand, zorf, zandf, znt, znf, zeq, zne, zeqf, znef, zd, zdf] at *; omega))
  apply ki 22
  intro hb3
  exact kl
  intro hb3
  exact kl
  intro hb0
  apply kor
  apply ki 7
  intro hb1
  apply kr 7 hb1
  apply ki 13
  intro hb2
  exact kl
  intro hb2
  apply kd .inl
  apply kor
  apply kj 180019
  intro hb3
  exact kl
  intro hb3
  apply kd .inl
  apply kd .inl
  apply ku 50006 (show (decide (m.node ≤ 281474976710655)) = true from by first | omega | (simp only [zor, zand, zorf, zandf, znt, znf, zeq, zne, zeqf, znef, zd, zdf] at *; omega))
  apply ki 22
  intro hb4
  exact kl
  intro hb4
  exact kl
  intro hb1
  apply ki 7
  intro hb2
  apply ki 13
  intro hb3
  exact kl
  intro hb3
  apply kd .inl
  apply kor
  apply kj 180019
  intro hb4
  exact kl
  intro hb4
  apply kd .inl
  apply kd .inl
  apply ku 50006 (show (decide (m.node ≤ 281474976710655)) = true from by first | omega | (simp only [zor, zand, zorf, zandf, znt, znf, zeq, zne, zeqf, znef, zd, zdf] at *; omega))
  apply ki 22
  intro hb5
  exact kl
  intro hb5
  exact kl
  intro hb2
  apply ki 10
  intro hb3
  apply kd .inl
  apply kor
  apply kj 180019
  intro hb4
  exact kl
  intro hb4
  apply kd .inl
  apply kd .inl
  apply ku 50006 (show (decide (m.node ≤ 281474976710655)) = true from by first | omega | (simp only [zor, zand, zorf, zandf, znt, znf, zeq, zne, zeqf, znef, zd, zdf] at *; omega))
  apply ki 22
  intro hb5
  exact kl
  intro hb5
  exact kl
  intro hb3
  exact kl
  kernel_rfl
  rfl

def rapsWrong_F (m : Msg) (r : Int) : Prop := r = 0 → (m.req = 0 ∨ m.req = 7 ∨ m.req = 11 ∨ m.req = 13) ∧ m.node < 281474976710656
theorem rapsWrong_fact (m : Msg) : rapsWrong_F m (rapsWrong m) := by
  unfold rapsWrong
  repeat' (apply bi <;> intro _)
  all_goals (unfold rapsWrong_F; intro _; first | omega | (simp only [zor, zand, zorf, zandf, znt, znf, zeq, zne, zeqf, znef, zd, zdf] at *; try omega))

def rapsClose_x0 (m : Msg) (level : Int) : ByteArray := Field.packS [(4, m.req), (4, 0), (1, 1), (1, 1), (1, 1), (5, 0), (48, m.node), (64, 0), (64, 0), (64, 0)]
def rapsClose_x1 (m : Msg) (level : Int) : ByteArray := Field.packS [(3, level), (5, 1), (8, 40), (8, 0), (8, 32)]
def rapsClose_x2 (m : Msg) (level : Int) : ByteArray := Field.packS [(4, m.req), (4, 0), (1, 1), (1, 1), (1, 0), (5, 0), (48, m.node), (64, 0), (64, 0), (64, 0)]
def rapsClose_x3 (m : Msg) (level : Int) : ByteArray := Field.packS [(4, m.req), (4, 0), (1, 1), (1, 0), (1, 1), (5, 0), (48, m.node), (64, 0), (64, 0), (64, 0)]
def rapsClose_x4 (m : Msg) (level : Int) : ByteArray := Field.packS [(4, m.req), (4, 0), (1, 1), (1, 0), (1, 0), (5, 0), (48, m.node), (64, 0), (64, 0), (64, 0)]
def rapsClose_x5 (m : Msg) (level : Int) : ByteArray := Field.packS [(4, m.req), (4, 0), (1, 0), (1, 1), (1, 1), (5, 0), (48, m.node), (64, 0), (64, 0), (64, 0)]
def rapsClose_x6 (m : Msg) (level : Int) : ByteArray := Field.packS [(4, m.req), (4, 0), (1, 0), (1, 1), (1, 0), (5, 0), (48, m.node), (64, 0), (64, 0), (64, 0)]
def rapsClose_x7 (m : Msg) (level : Int) : ByteArray := Field.packS [(4, m.req), (4, 0), (1, 0), (1, 0), (1, 1), (5, 0), (48, m.node), (64, 0), (64, 0), (64, 0)]
def rapsClose_x8 (m : Msg) (level : Int) : ByteArray := Field.packS [(4, m.req), (4, 0), (1, 0), (1, 0), (1, 0), (5, 0), (48, m.node), (64, 0), (64, 0), (64, 0)]
def rapsClose (m : Msg) (level : Int) : ByteArray × Int :=
  bif decide (level > 7) then
    ((⟨#[]⟩ : ByteArray), 4)
  else
    bif (rapsWrong m) != 0 then
      ((⟨#[]⟩ : ByteArray), (rapsWrong m))
    else
      bif m.block then
        bif m.keep then
          bif m.east then
            (((rapsClose_x1 m level) ++ (rapsClose_x0 m level)) ++ (⟨#[0]⟩ : ByteArray), 0)
          else
            (((rapsClose_x1 m level) ++ (rapsClose_x2 m level)) ++ (⟨#[0]⟩ : ByteArray), 0)
        else
          bif m.east then
            (((rapsClose_x1 m level) ++ (rapsClose_x3 m level)) ++ (⟨#[0]⟩ : ByteArray), 0)
          else
            (((rapsClose_x1 m level) ++ (rapsClose_x4 m level)) ++ (⟨#[0]⟩ : ByteArray), 0)
      else
        bif m.keep then
          bif m.east then
            (((rapsClose_x1 m level) ++ (rapsClose_x5 m level)) ++ (⟨#[0]⟩ : ByteArray), 0)
          else
            (((rapsClose_x1 m level) ++ (rapsClose_x6 m level)) ++ (⟨#[0]⟩ : ByteArray), 0)
        else
          bif m.east then
            (((rapsClose_x1 m level) ++ (rapsClose_x7 m level)) ++ (⟨#[0]⟩ : ByteArray), 0)
          else
            (((rapsClose_x1 m level) ++ (rapsClose_x8 m level)) ++ (⟨#[0]⟩ : ByteArray), 0)
def rapsClose_c (r : ByteArray × Int) : Dir := .callL (.tuple ⟨[.string r.1, .int .i64 r.2]⟩) []
def rapsClose_E (r : ByteArray × Int) : Value := .tuple ⟨[.string r.1, .int .i64 r.2]⟩
theorem rapsClose_eq (m : Msg) (level : Int) (hn : 0 ≤ m.node) (hl : 0 ≤ level) : AOn Tryz.prog 33 [.agg ⟨Msg.enc m⟩, .int .u8 level] [] (rapsClose_E (rapsClose m level)) [] := by
  unfold rapsClose
  apply onT 400 rapsClose_E
  apply ki 11
  intro hb0
  exact kl
  intro hb0
  apply kk (rapsWrong_eq m)
  apply ki 15
  intro hb1
  exact kl
  intro hb1
  apply kc
  intro hb2
  apply kc
  intro hb3
  apply kc
  intro hb4
  apply kf [.is 19 (.int .u64 m.req), .heap, .heap, .inl, .lit, .br true, .lit, .br true, .lit, .br true, .lit, .heap] (o_ (wr_u64 (n := m.req) (by have := (show (rapsWrong m) = 0 → (m.req = 0 ∨ m.req = 7 ∨ m.req = 11 ∨ m.req = 13) ∧ m.node < 281474976710656 from rapsWrong_fact m); first | omega | (simp only [zor, zand, zorf, zandf, znt, znf, zeq, zne, zeqf, znef, zd, zdf] at *; omega)) (by have := (show (rapsWrong m) = 0 → (m.req = 0 ∨ m.req = 7 ∨ m.req = 11 ∨ m.req = 13) ∧ m.node < 281474976710656 from rapsWrong_fact m); first | omega | (simp only [zor, zand, zorf, zandf, znt, znf, zeq, zne, zeqf, znef, zd, zdf] at *; omega))) (o_ (hsame [.cells (Msg.enc m) 40 5]) (o_ (hsame [.cells (Msg.enc m) 40 5, .gone]) (o_ hb2 (o_ hb3 (o_ hb4 (o_ (hsame [.cells (Msg.enc m) 40 5, .gone, .cells [.bool m.block, .bool m.keep, .bool m.east] 4 1]) o0)))))))
  apply kk (Field.packOn_ok (L := [(4, m.req), (4, 0), (1, 1), (1, 1), (1, 1), (5, 0), (48, m.node), (64, 0), (64, 0), (64, 0)]) 10 rfl rfl (Field.partsCons (w := 4) (v := m.req) (b := 16) rfl rfl (by have := (show (rapsWrong m) = 0 → (m.req = 0 ∨ m.req = 7 ∨ m.req = 11 ∨ m.req = 13) ∧ m.node < 281474976710656 from rapsWrong_fact m); first | omega | (simp only [zor, zand, zorf, zandf, znt, znf, zeq, zne, zeqf, znef, zd, zdf] at *; omega)) (by have := (show (rapsWrong m) = 0 → (m.req = 0 ∨ m.req = 7 ∨ m.req = 11 ∨ m.req = 13) ∧ m.node < 281474976710656 from rapsWrong_fact m); first | omega | (simp only [zor, zand, zorf, zandf, znt, znf, zeq, zne, zeqf, znef, zd, zdf] at *; omega)) (Field.partsCons (w := 4) (v := 0) (b := 16) rfl rfl (by decide) (by decide) (Field.partsCons (w := 1) (v := 1) (b := 2) rfl rfl (by decide) (by decide) (Field.partsCons (w := 1) (v := 1) (b := 2) rfl rfl (by decide) (by decide) (Field.partsCons (w := 1) (v := 1) (b := 2) rfl rfl (by decide) (by decide) (Field.partsCons (w := 5) (v := 0) (b := 32) rfl rfl (by decide) (by decide) (Field.partsCons (w := 48) (v := m.node) (b := 281474976710656) rfl rfl (by have := (show (rapsWrong m) = 0 → (m.req = 0 ∨ m.req = 7 ∨ m.req = 11 ∨ m.req = 13) ∧ m.node < 281474976710656 from rapsWrong_fact m); first | omega | (simp only [zor, zand, zorf, zandf, znt, znf, zeq, zne, zeqf, znef, zd, zdf] at *; omega)) (by have := (show (rapsWrong m) = 0 → (m.req = 0 ∨ m.req = 7 ∨ m.req = 11 ∨ m.req = 13) ∧ m.node < 281474976710656 from rapsWrong_fact m); first | omega | (simp only [zor, zand, zorf, zandf, znt, znf, zeq, zne, zeqf, znef, zd, zdf] at *; omega)) (Field.partsCons (w := 64) (v := 0) (b := 18446744073709551616) rfl rfl (by decide) (by decide) (Field.partsCons (w := 64) (v := 0) (b := 18446744073709551616) rfl rfl (by decide) (by decide) (Field.partsCons (w := 64) (v := 0) (b := 18446744073709551616) rfl rfl (by decide) (by decide) Field.partsNil)))))))))) [4, 4, 1, 1, 1, 5, 48, 64, 64, 64] rfl 32 rfl 14 UNK (.row [.int .i64 4, .int .u64 m.req, .int .i64 4, .int .u64 0, .int .i64 1, .int .u64 1, .int .i64 1, .int .u64 1, .int .i64 1, .int .u64 1, .int .i64 5, .int .u64 0, .int .i64 48, .int .u64 m.node, .int .i64 64, .int .u64 0, .int .i64 64, .int .u64 0, .int .i64 64, .int .u64 0] 136 2) (Field.lendsRow [] rfl))
  apply kd .inl
  apply kv 11 (wr_u64 (n := level) (by have := (show (rapsWrong m) = 0 → (m.req = 0 ∨ m.req = 7 ∨ m.req = 11 ∨ m.req = 13) ∧ m.node < 281474976710656 from rapsWrong_fact m); first | omega | (simp only [zor, zand, zorf, zandf, znt, znf, zeq, zne, zeqf, znef, zd, zdf] at *; omega)) (by have := (show (rapsWrong m) = 0 → (m.req = 0 ∨ m.req = 7 ∨ m.req = 11 ∨ m.req = 13) ∧ m.node < 281474976710656 from rapsWrong_fact m); first | omega | (simp only [zor, zand, zorf, zandf, znt, znf, zeq, zne, zeqf, znef, zd, zdf] at *; omega)))
  apply kk (Field.packOn_ok (L := [(3, level), (5, 1), (8, 40), (8, 0), (8, 32)]) 5 rfl rfl (Field.partsCons (w := 3) (v := level) (b := 8) rfl rfl (by have := (show (rapsWrong m) = 0 → (m.req = 0 ∨ m.req = 7 ∨ m.req = 11 ∨ m.req = 13) ∧ m.node < 281474976710656 from rapsWrong_fact m); first | omega | (simp only [zor, zand, zorf, zandf, znt, znf, zeq, zne, zeqf, znef, zd, zdf] at *; omega)) (by have := (show (rapsWrong m) = 0 → (m.req = 0 ∨ m.req = 7 ∨ m.req = 11 ∨ m.req = 13) ∧ m.node < 281474976710656 from rapsWrong_fact m); first | omega | (simp only [zor, zand, zorf, zandf, znt, znf, zeq, zne, zeqf, znef, zd, zdf] at *; omega)) (Field.partsCons (w := 5) (v := 1) (b := 32) rfl rfl (by decide) (by decide) (Field.partsCons (w := 8) (v := 40) (b := 256) rfl rfl (by decide) (by decide) (Field.partsCons (w := 8) (v := 0) (b := 256) rfl rfl (by decide) (by decide) (Field.partsCons (w := 8) (v := 32) (b := 256) rfl rfl (by decide) (by decide) Field.partsNil))))) [3, 5, 8, 8, 8] rfl 4 rfl 16 5 (.cells [.int .i64 3, .int .u64 level, .int .i64 5, .int .u64 1, .int .i64 8, .int .u64 40, .int .i64 8, .int .u64 0, .int .i64 8, .int .u64 32] 136 2) (Field.lendsCells [] rfl))
  apply kv 39 (show Value.int .i64 ((((rapsClose_x0 m level)).size : Nat) : Int) = .int .i64 32 from Field.size_is (show ((rapsClose_x0 m level)).size = 32 from Field.packS_len [(4, m.req), (4, 0), (1, 1), (1, 1), (1, 1), (5, 0), (48, m.node), (64, 0), (64, 0), (64, 0)] [4, 4, 1, 1, 1, 5, 48, 64, 64, 64] rfl 32 rfl))
  apply kd (.owe 46)
  apply kp (bs1 (b0 := decide (((rapsClose_x1 m level)).size + ((rapsClose_x0 m level)).size ≤ 9223372036854775807)) (Field.szle (show ((rapsClose_x1 m level)).size = 4 from Field.packS_len [(3, level), (5, 1), (8, 40), (8, 0), (8, 32)] [3, 5, 8, 8, 8] rfl 4 rfl) (show ((rapsClose_x0 m level)).size = 32 from Field.packS_len [(4, m.req), (4, 0), (1, 1), (1, 1), (1, 1), (5, 0), (48, m.node), (64, 0), (64, 0), (64, 0)] [4, 4, 1, 1, 1, 5, 48, 64, 64, 64] rfl 32 rfl) rfl))
  apply kd (.owe 47)
  apply kp (bs1 (b0 := decide ((((rapsClose_x1 m level) ++ (rapsClose_x0 m level))).size + ((⟨#[0]⟩ : ByteArray)).size ≤ 9223372036854775807)) (Field.szle (Field.app_size (show ((rapsClose_x1 m level)).size = 4 from Field.packS_len [(3, level), (5, 1), (8, 40), (8, 0), (8, 32)] [3, 5, 8, 8, 8] rfl 4 rfl) (show ((rapsClose_x0 m level)).size = 32 from Field.packS_len [(4, m.req), (4, 0), (1, 1), (1, 1), (1, 1), (5, 0), (48, m.node), (64, 0), (64, 0), (64, 0)] [4, 4, 1, 1, 1, 5, 48, 64, 64, 64] rfl 32 rfl) (k := 36) rfl) (rfl : (⟨#[0]⟩ : ByteArray).size = 1) rfl))
  exact kl
  intro hb4
  apply kf [.is 19 (.int .u64 m.req), .heap, .heap, .inl, .lit, .br true, .lit, .br true, .lit, .br false, .lit, .heap] (o_ (wr_u64 (n := m.req) (by have := (show (rapsWrong m) = 0 → (m.req = 0 ∨ m.req = 7 ∨ m.req = 11 ∨ m.req = 13) ∧ m.node < 281474976710656 from rapsWrong_fact m); first | omega | (simp only [zor, zand, zorf, zandf, znt, znf, zeq, zne, zeqf, znef, zd, zdf] at *; omega)) (by have := (show (rapsWrong m) = 0 → (m.req = 0 ∨ m.req = 7 ∨ m.req = 11 ∨ m.req = 13) ∧ m.node < 281474976710656 from rapsWrong_fact m); first | omega | (simp only [zor, zand, zorf, zandf, znt, znf, zeq, zne, zeqf, znef, zd, zdf] at *; omega))) (o_ (hsame [.cells (Msg.enc m) 40 5]) (o_ (hsame [.cells (Msg.enc m) 40 5, .gone]) (o_ hb2 (o_ hb3 (o_ hb4 (o_ (hsame [.cells (Msg.enc m) 40 5, .gone, .cells [.bool m.block, .bool m.keep, .bool m.east] 4 1]) o0)))))))
  apply kk (Field.packOn_ok (L := [(4, m.req), (4, 0), (1, 1), (1, 1), (1, 0), (5, 0), (48, m.node), (64, 0), (64, 0), (64, 0)]) 10 rfl rfl (Field.partsCons (w := 4) (v := m.req) (b := 16) rfl rfl (by have := (show (rapsWrong m) = 0 → (m.req = 0 ∨ m.req = 7 ∨ m.req = 11 ∨ m.req = 13) ∧ m.node < 281474976710656 from rapsWrong_fact m); first | omega | (simp only [zor, zand, zorf, zandf, znt, znf, zeq, zne, zeqf, znef, zd, zdf] at *; omega)) (by have := (show (rapsWrong m) = 0 → (m.req = 0 ∨ m.req = 7 ∨ m.req = 11 ∨ m.req = 13) ∧ m.node < 281474976710656 from rapsWrong_fact m); first | omega | (simp only [zor, zand, zorf, zandf, znt, znf, zeq, zne, zeqf, znef, zd, zdf] at *; omega)) (Field.partsCons (w := 4) (v := 0) (b := 16) rfl rfl (by decide) (by decide) (Field.partsCons (w := 1) (v := 1) (b := 2) rfl rfl (by decide) (by decide) (Field.partsCons (w := 1) (v := 1) (b := 2) rfl rfl (by decide) (by decide) (Field.partsCons (w := 1) (v := 0) (b := 2) rfl rfl (by decide) (by decide) (Field.partsCons (w := 5) (v := 0) (b := 32) rfl rfl (by decide) (by decide) (Field.partsCons (w := 48) (v := m.node) (b := 281474976710656) rfl rfl (by have := (show (rapsWrong m) = 0 → (m.req = 0 ∨ m.req = 7 ∨ m.req = 11 ∨ m.req = 13) ∧ m.node < 281474976710656 from rapsWrong_fact m); first | omega | (simp only [zor, zand, zorf, zandf, znt, znf, zeq, zne, zeqf, znef, zd, zdf] at *; omega)) (by have := (show (rapsWrong m) = 0 → (m.req = 0 ∨ m.req = 7 ∨ m.req = 11 ∨ m.req = 13) ∧ m.node < 281474976710656 from rapsWrong_fact m); first | omega | (simp only [zor, zand, zorf, zandf, znt, znf, zeq, zne, zeqf, znef, zd, zdf] at *; omega)) (Field.partsCons (w := 64) (v := 0) (b := 18446744073709551616) rfl rfl (by decide) (by decide) (Field.partsCons (w := 64) (v := 0) (b := 18446744073709551616) rfl rfl (by decide) (by decide) (Field.partsCons (w := 64) (v := 0) (b := 18446744073709551616) rfl rfl (by decide) (by decide) Field.partsNil)))))))))) [4, 4, 1, 1, 1, 5, 48, 64, 64, 64] rfl 32 rfl 14 UNK (.row [.int .i64 4, .int .u64 m.req, .int .i64 4, .int .u64 0, .int .i64 1, .int .u64 1, .int .i64 1, .int .u64 1, .int .i64 1, .int .u64 0, .int .i64 5, .int .u64 0, .int .i64 48, .int .u64 m.node, .int .i64 64, .int .u64 0, .int .i64 64, .int .u64 0, .int .i64 64, .int .u64 0] 136 2) (Field.lendsRow [] rfl))
  apply kd .inl
  apply kv 11 (wr_u64 (n := level) (by have := (show (rapsWrong m) = 0 → (m.req = 0 ∨ m.req = 7 ∨ m.req = 11 ∨ m.req = 13) ∧ m.node < 281474976710656 from rapsWrong_fact m); first | omega | (simp only [zor, zand, zorf, zandf, znt, znf, zeq, zne, zeqf, znef, zd, zdf] at *; omega)) (by have := (show (rapsWrong m) = 0 → (m.req = 0 ∨ m.req = 7 ∨ m.req = 11 ∨ m.req = 13) ∧ m.node < 281474976710656 from rapsWrong_fact m); first | omega | (simp only [zor, zand, zorf, zandf, znt, znf, zeq, zne, zeqf, znef, zd, zdf] at *; omega)))
  apply kk (Field.packOn_ok (L := [(3, level), (5, 1), (8, 40), (8, 0), (8, 32)]) 5 rfl rfl (Field.partsCons (w := 3) (v := level) (b := 8) rfl rfl (by have := (show (rapsWrong m) = 0 → (m.req = 0 ∨ m.req = 7 ∨ m.req = 11 ∨ m.req = 13) ∧ m.node < 281474976710656 from rapsWrong_fact m); first | omega | (simp only [zor, zand, zorf, zandf, znt, znf, zeq, zne, zeqf, znef, zd, zdf] at *; omega)) (by have := (show (rapsWrong m) = 0 → (m.req = 0 ∨ m.req = 7 ∨ m.req = 11 ∨ m.req = 13) ∧ m.node < 281474976710656 from rapsWrong_fact m); first | omega | (simp only [zor, zand, zorf, zandf, znt, znf, zeq, zne, zeqf, znef, zd, zdf] at *; omega)) (Field.partsCons (w := 5) (v := 1) (b := 32) rfl rfl (by decide) (by decide) (Field.partsCons (w := 8) (v := 40) (b := 256) rfl rfl (by decide) (by decide) (Field.partsCons (w := 8) (v := 0) (b := 256) rfl rfl (by decide) (by decide) (Field.partsCons (w := 8) (v := 32) (b := 256) rfl rfl (by decide) (by decide) Field.partsNil))))) [3, 5, 8, 8, 8] rfl 4 rfl 16 5 (.cells [.int .i64 3, .int .u64 level, .int .i64 5, .int .u64 1, .int .i64 8, .int .u64 40, .int .i64 8, .int .u64 0, .int .i64 8, .int .u64 32] 136 2) (Field.lendsCells [] rfl))
  apply kv 39 (show Value.int .i64 ((((rapsClose_x2 m level)).size : Nat) : Int) = .int .i64 32 from Field.size_is (show ((rapsClose_x2 m level)).size = 32 from Field.packS_len [(4, m.req), (4, 0), (1, 1), (1, 1), (1, 0), (5, 0), (48, m.node), (64, 0), (64, 0), (64, 0)] [4, 4, 1, 1, 1, 5, 48, 64, 64, 64] rfl 32 rfl))
  apply kd (.owe 46)
  apply kp (bs1 (b0 := decide (((rapsClose_x1 m level)).size + ((rapsClose_x2 m level)).size ≤ 9223372036854775807)) (Field.szle (show ((rapsClose_x1 m level)).size = 4 from Field.packS_len [(3, level), (5, 1), (8, 40), (8, 0), (8, 32)] [3, 5, 8, 8, 8] rfl 4 rfl) (show ((rapsClose_x2 m level)).size = 32 from Field.packS_len [(4, m.req), (4, 0), (1, 1), (1, 1), (1, 0), (5, 0), (48, m.node), (64, 0), (64, 0), (64, 0)] [4, 4, 1, 1, 1, 5, 48, 64, 64, 64] rfl 32 rfl) rfl))
  apply kd (.owe 47)
  apply kp (bs1 (b0 := decide ((((rapsClose_x1 m level) ++ (rapsClose_x2 m level))).size + ((⟨#[0]⟩ : ByteArray)).size ≤ 9223372036854775807)) (Field.szle (Field.app_size (show ((rapsClose_x1 m level)).size = 4 from Field.packS_len [(3, level), (5, 1), (8, 40), (8, 0), (8, 32)] [3, 5, 8, 8, 8] rfl 4 rfl) (show ((rapsClose_x2 m level)).size = 32 from Field.packS_len [(4, m.req), (4, 0), (1, 1), (1, 1), (1, 0), (5, 0), (48, m.node), (64, 0), (64, 0), (64, 0)] [4, 4, 1, 1, 1, 5, 48, 64, 64, 64] rfl 32 rfl) (k := 36) rfl) (rfl : (⟨#[0]⟩ : ByteArray).size = 1) rfl))
  exact kl
  intro hb3
  apply kc
  intro hb4
  apply kf [.is 19 (.int .u64 m.req), .heap, .heap, .inl, .lit, .br true, .lit, .br false, .lit, .br true, .lit, .heap] (o_ (wr_u64 (n := m.req) (by have := (show (rapsWrong m) = 0 → (m.req = 0 ∨ m.req = 7 ∨ m.req = 11 ∨ m.req = 13) ∧ m.node < 281474976710656 from rapsWrong_fact m); first | omega | (simp only [zor, zand, zorf, zandf, znt, znf, zeq, zne, zeqf, znef, zd, zdf] at *; omega)) (by have := (show (rapsWrong m) = 0 → (m.req = 0 ∨ m.req = 7 ∨ m.req = 11 ∨ m.req = 13) ∧ m.node < 281474976710656 from rapsWrong_fact m); first | omega | (simp only [zor, zand, zorf, zandf, znt, znf, zeq, zne, zeqf, znef, zd, zdf] at *; omega))) (o_ (hsame [.cells (Msg.enc m) 40 5]) (o_ (hsame [.cells (Msg.enc m) 40 5, .gone]) (o_ hb2 (o_ hb3 (o_ hb4 (o_ (hsame [.cells (Msg.enc m) 40 5, .gone, .cells [.bool m.block, .bool m.keep, .bool m.east] 4 1]) o0)))))))
  apply kk (Field.packOn_ok (L := [(4, m.req), (4, 0), (1, 1), (1, 0), (1, 1), (5, 0), (48, m.node), (64, 0), (64, 0), (64, 0)]) 10 rfl rfl (Field.partsCons (w := 4) (v := m.req) (b := 16) rfl rfl (by have := (show (rapsWrong m) = 0 → (m.req = 0 ∨ m.req = 7 ∨ m.req = 11 ∨ m.req = 13) ∧ m.node < 281474976710656 from rapsWrong_fact m); first | omega | (simp only [zor, zand, zorf, zandf, znt, znf, zeq, zne, zeqf, znef, zd, zdf] at *; omega)) (by have := (show (rapsWrong m) = 0 → (m.req = 0 ∨ m.req = 7 ∨ m.req = 11 ∨ m.req = 13) ∧ m.node < 281474976710656 from rapsWrong_fact m); first | omega | (simp only [zor, zand, zorf, zandf, znt, znf, zeq, zne, zeqf, znef, zd, zdf] at *; omega)) (Field.partsCons (w := 4) (v := 0) (b := 16) rfl rfl (by decide) (by decide) (Field.partsCons (w := 1) (v := 1) (b := 2) rfl rfl (by decide) (by decide) (Field.partsCons (w := 1) (v := 0) (b := 2) rfl rfl (by decide) (by decide) (Field.partsCons (w := 1) (v := 1) (b := 2) rfl rfl (by decide) (by decide) (Field.partsCons (w := 5) (v := 0) (b := 32) rfl rfl (by decide) (by decide) (Field.partsCons (w := 48) (v := m.node) (b := 281474976710656) rfl rfl (by have := (show (rapsWrong m) = 0 → (m.req = 0 ∨ m.req = 7 ∨ m.req = 11 ∨ m.req = 13) ∧ m.node < 281474976710656 from rapsWrong_fact m); first | omega | (simp only [zor, zand, zorf, zandf, znt, znf, zeq, zne, zeqf, znef, zd, zdf] at *; omega)) (by have := (show (rapsWrong m) = 0 → (m.req = 0 ∨ m.req = 7 ∨ m.req = 11 ∨ m.req = 13) ∧ m.node < 281474976710656 from rapsWrong_fact m); first | omega | (simp only [zor, zand, zorf, zandf, znt, znf, zeq, zne, zeqf, znef, zd, zdf] at *; omega)) (Field.partsCons (w := 64) (v := 0) (b := 18446744073709551616) rfl rfl (by decide) (by decide) (Field.partsCons (w := 64) (v := 0) (b := 18446744073709551616) rfl rfl (by decide) (by decide) (Field.partsCons (w := 64) (v := 0) (b := 18446744073709551616) rfl rfl (by decide) (by decide) Field.partsNil)))))))))) [4, 4, 1, 1, 1, 5, 48, 64, 64, 64] rfl 32 rfl 14 UNK (.row [.int .i64 4, .int .u64 m.req, .int .i64 4, .int .u64 0, .int .i64 1, .int .u64 1, .int .i64 1, .int .u64 0, .int .i64 1, .int .u64 1, .int .i64 5, .int .u64 0, .int .i64 48, .int .u64 m.node, .int .i64 64, .int .u64 0, .int .i64 64, .int .u64 0, .int .i64 64, .int .u64 0] 136 2) (Field.lendsRow [] rfl))
  apply kd .inl
  apply kv 11 (wr_u64 (n := level) (by have := (show (rapsWrong m) = 0 → (m.req = 0 ∨ m.req = 7 ∨ m.req = 11 ∨ m.req = 13) ∧ m.node < 281474976710656 from rapsWrong_fact m); first | omega | (simp only [zor, zand, zorf, zandf, znt, znf, zeq, zne, zeqf, znef, zd, zdf] at *; omega)) (by have := (show (rapsWrong m) = 0 → (m.req = 0 ∨ m.req = 7 ∨ m.req = 11 ∨ m.req = 13) ∧ m.node < 281474976710656 from rapsWrong_fact m); first | omega | (simp only [zor, zand, zorf, zandf, znt, znf, zeq, zne, zeqf, znef, zd, zdf] at *; omega)))
  apply kk (Field.packOn_ok (L := [(3, level), (5, 1), (8, 40), (8, 0), (8, 32)]) 5 rfl rfl (Field.partsCons (w := 3) (v := level) (b := 8) rfl rfl (by have := (show (rapsWrong m) = 0 → (m.req = 0 ∨ m.req = 7 ∨ m.req = 11 ∨ m.req = 13) ∧ m.node < 281474976710656 from rapsWrong_fact m); first | omega | (simp only [zor, zand, zorf, zandf, znt, znf, zeq, zne, zeqf, znef, zd, zdf] at *; omega)) (by have := (show (rapsWrong m) = 0 → (m.req = 0 ∨ m.req = 7 ∨ m.req = 11 ∨ m.req = 13) ∧ m.node < 281474976710656 from rapsWrong_fact m); first | omega | (simp only [zor, zand, zorf, zandf, znt, znf, zeq, zne, zeqf, znef, zd, zdf] at *; omega)) (Field.partsCons (w := 5) (v := 1) (b := 32) rfl rfl (by decide) (by decide) (Field.partsCons (w := 8) (v := 40) (b := 256) rfl rfl (by decide) (by decide) (Field.partsCons (w := 8) (v := 0) (b := 256) rfl rfl (by decide) (by decide) (Field.partsCons (w := 8) (v := 32) (b := 256) rfl rfl (by decide) (by decide) Field.partsNil))))) [3, 5, 8, 8, 8] rfl 4 rfl 16 5 (.cells [.int .i64 3, .int .u64 level, .int .i64 5, .int .u64 1, .int .i64 8, .int .u64 40, .int .i64 8, .int .u64 0, .int .i64 8, .int .u64 32] 136 2) (Field.lendsCells [] rfl))
  apply kv 39 (show Value.int .i64 ((((rapsClose_x3 m level)).size : Nat) : Int) = .int .i64 32 from Field.size_is (show ((rapsClose_x3 m level)).size = 32 from Field.packS_len [(4, m.req), (4, 0), (1, 1), (1, 0), (1, 1), (5, 0), (48, m.node), (64, 0), (64, 0), (64, 0)] [4, 4, 1, 1, 1, 5, 48, 64, 64, 64] rfl 32 rfl))
  apply kd (.owe 46)
  apply kp (bs1 (b0 := decide (((rapsClose_x1 m level)).size + ((rapsClose_x3 m level)).size ≤ 9223372036854775807)) (Field.szle (show ((rapsClose_x1 m level)).size = 4 from Field.packS_len [(3, level), (5, 1), (8, 40), (8, 0), (8, 32)] [3, 5, 8, 8, 8] rfl 4 rfl) (show ((rapsClose_x3 m level)).size = 32 from Field.packS_len [(4, m.req), (4, 0), (1, 1), (1, 0), (1, 1), (5, 0), (48, m.node), (64, 0), (64, 0), (64, 0)] [4, 4, 1, 1, 1, 5, 48, 64, 64, 64] rfl 32 rfl) rfl))
  apply kd (.owe 47)
  apply kp (bs1 (b0 := decide ((((rapsClose_x1 m level) ++ (rapsClose_x3 m level))).size + ((⟨#[0]⟩ : ByteArray)).size ≤ 9223372036854775807)) (Field.szle (Field.app_size (show ((rapsClose_x1 m level)).size = 4 from Field.packS_len [(3, level), (5, 1), (8, 40), (8, 0), (8, 32)] [3, 5, 8, 8, 8] rfl 4 rfl) (show ((rapsClose_x3 m level)).size = 32 from Field.packS_len [(4, m.req), (4, 0), (1, 1), (1, 0), (1, 1), (5, 0), (48, m.node), (64, 0), (64, 0), (64, 0)] [4, 4, 1, 1, 1, 5, 48, 64, 64, 64] rfl 32 rfl) (k := 36) rfl) (rfl : (⟨#[0]⟩ : ByteArray).size = 1) rfl))
  exact kl
  intro hb4
  apply kf [.is 19 (.int .u64 m.req), .heap, .heap, .inl, .lit, .br true, .lit, .br false, .lit, .br false, .lit, .heap] (o_ (wr_u64 (n := m.req) (by have := (show (rapsWrong m) = 0 → (m.req = 0 ∨ m.req = 7 ∨ m.req = 11 ∨ m.req = 13) ∧ m.node < 281474976710656 from rapsWrong_fact m); first | omega | (simp only [zor, zand, zorf, zandf, znt, znf, zeq, zne, zeqf, znef, zd, zdf] at *; omega)) (by have := (show (rapsWrong m) = 0 → (m.req = 0 ∨ m.req = 7 ∨ m.req = 11 ∨ m.req = 13) ∧ m.node < 281474976710656 from rapsWrong_fact m); first | omega | (simp only [zor, zand, zorf, zandf, znt, znf, zeq, zne, zeqf, znef, zd, zdf] at *; omega))) (o_ (hsame [.cells (Msg.enc m) 40 5]) (o_ (hsame [.cells (Msg.enc m) 40 5, .gone]) (o_ hb2 (o_ hb3 (o_ hb4 (o_ (hsame [.cells (Msg.enc m) 40 5, .gone, .cells [.bool m.block, .bool m.keep, .bool m.east] 4 1]) o0)))))))
  apply kk (Field.packOn_ok (L := [(4, m.req), (4, 0), (1, 1), (1, 0), (1, 0), (5, 0), (48, m.node), (64, 0), (64, 0), (64, 0)]) 10 rfl rfl (Field.partsCons (w := 4) (v := m.req) (b := 16) rfl rfl (by have := (show (rapsWrong m) = 0 → (m.req = 0 ∨ m.req = 7 ∨ m.req = 11 ∨ m.req = 13) ∧ m.node < 281474976710656 from rapsWrong_fact m); first | omega | (simp only [zor, zand, zorf, zandf, znt, znf, zeq, zne, zeqf, znef, zd, zdf] at *; omega)) (by have := (show (rapsWrong m) = 0 → (m.req = 0 ∨ m.req = 7 ∨ m.req = 11 ∨ m.req = 13) ∧ m.node < 281474976710656 from rapsWrong_fact m); first | omega | (simp only [zor, zand, zorf, zandf, znt, znf, zeq, zne, zeqf, znef, zd, zdf] at *; omega)) (Field.partsCons (w := 4) (v := 0) (b := 16) rfl rfl (by decide) (by decide) (Field.partsCons (w := 1) (v := 1) (b := 2) rfl rfl (by decide) (by decide) (Field.partsCons (w := 1) (v := 0) (b := 2) rfl rfl (by decide) (by decide) (Field.partsCons (w := 1) (v := 0) (b := 2) rfl rfl (by decide) (by decide) (Field.partsCons (w := 5) (v := 0) (b := 32) rfl rfl (by decide) (by decide) (Field.partsCons (w := 48) (v := m.node) (b := 281474976710656) rfl rfl (by have := (show (rapsWrong m) = 0 → (m.req = 0 ∨ m.req = 7 ∨ m.req = 11 ∨ m.req = 13) ∧ m.node < 281474976710656 from rapsWrong_fact m); first | omega | (simp only [zor, zand, zorf, zandf, znt, znf, zeq, zne, zeqf, znef, zd, zdf] at *; omega)) (by have := (show (rapsWrong m) = 0 → (m.req = 0 ∨ m.req = 7 ∨ m.req = 11 ∨ m.req = 13) ∧ m.node < 281474976710656 from rapsWrong_fact m); first | omega | (simp only [zor, zand, zorf, zandf, znt, znf, zeq, zne, zeqf, znef, zd, zdf] at *; omega)) (Field.partsCons (w := 64) (v := 0) (b := 18446744073709551616) rfl rfl (by decide) (by decide) (Field.partsCons (w := 64) (v := 0) (b := 18446744073709551616) rfl rfl (by decide) (by decide) (Field.partsCons (w := 64) (v := 0) (b := 18446744073709551616) rfl rfl (by decide) (by decide) Field.partsNil)))))))))) [4, 4, 1, 1, 1, 5, 48, 64, 64, 64] rfl 32 rfl 14 UNK (.row [.int .i64 4, .int .u64 m.req, .int .i64 4, .int .u64 0, .int .i64 1, .int .u64 1, .int .i64 1, .int .u64 0, .int .i64 1, .int .u64 0, .int .i64 5, .int .u64 0, .int .i64 48, .int .u64 m.node, .int .i64 64, .int .u64 0, .int .i64 64, .int .u64 0, .int .i64 64, .int .u64 0] 136 2) (Field.lendsRow [] rfl))
  apply kd .inl
  apply kv 11 (wr_u64 (n := level) (by have := (show (rapsWrong m) = 0 → (m.req = 0 ∨ m.req = 7 ∨ m.req = 11 ∨ m.req = 13) ∧ m.node < 281474976710656 from rapsWrong_fact m); first | omega | (simp only [zor, zand, zorf, zandf, znt, znf, zeq, zne, zeqf, znef, zd, zdf] at *; omega)) (by have := (show (rapsWrong m) = 0 → (m.req = 0 ∨ m.req = 7 ∨ m.req = 11 ∨ m.req = 13) ∧ m.node < 281474976710656 from rapsWrong_fact m); first | omega | (simp only [zor, zand, zorf, zandf, znt, znf, zeq, zne, zeqf, znef, zd, zdf] at *; omega)))
  apply kk (Field.packOn_ok (L := [(3, level), (5, 1), (8, 40), (8, 0), (8, 32)]) 5 rfl rfl (Field.partsCons (w := 3) (v := level) (b := 8) rfl rfl (by have := (show (rapsWrong m) = 0 → (m.req = 0 ∨ m.req = 7 ∨ m.req = 11 ∨ m.req = 13) ∧ m.node < 281474976710656 from rapsWrong_fact m); first | omega | (simp only [zor, zand, zorf, zandf, znt, znf, zeq, zne, zeqf, znef, zd, zdf] at *; omega)) (by have := (show (rapsWrong m) = 0 → (m.req = 0 ∨ m.req = 7 ∨ m.req = 11 ∨ m.req = 13) ∧ m.node < 281474976710656 from rapsWrong_fact m); first | omega | (simp only [zor, zand, zorf, zandf, znt, znf, zeq, zne, zeqf, znef, zd, zdf] at *; omega)) (Field.partsCons (w := 5) (v := 1) (b := 32) rfl rfl (by decide) (by decide) (Field.partsCons (w := 8) (v := 40) (b := 256) rfl rfl (by decide) (by decide) (Field.partsCons (w := 8) (v := 0) (b := 256) rfl rfl (by decide) (by decide) (Field.partsCons (w := 8) (v := 32) (b := 256) rfl rfl (by decide) (by decide) Field.partsNil))))) [3, 5, 8, 8, 8] rfl 4 rfl 16 5 (.cells [.int .i64 3, .int .u64 level, .int .i64 5, .int .u64 1, .int .i64 8, .int .u64 40, .int .i64 8, .int .u64 0, .int .i64 8, .int .u64 32] 136 2) (Field.lendsCells [] rfl))
  apply kv 39 (show Value.int .i64 ((((rapsClose_x4 m level)).size : Nat) : Int) = .int .i64 32 from Field.size_is (show ((rapsClose_x4 m level)).size = 32 from Field.packS_len [(4, m.req), (4, 0), (1, 1), (1, 0), (1, 0), (5, 0), (48, m.node), (64, 0), (64, 0), (64, 0)] [4, 4, 1, 1, 1, 5, 48, 64, 64, 64] rfl 32 rfl))
  apply kd (.owe 46)
  apply kp (bs1 (b0 := decide (((rapsClose_x1 m level)).size + ((rapsClose_x4 m level)).size ≤ 9223372036854775807)) (Field.szle (show ((rapsClose_x1 m level)).size = 4 from Field.packS_len [(3, level), (5, 1), (8, 40), (8, 0), (8, 32)] [3, 5, 8, 8, 8] rfl 4 rfl) (show ((rapsClose_x4 m level)).size = 32 from Field.packS_len [(4, m.req), (4, 0), (1, 1), (1, 0), (1, 0), (5, 0), (48, m.node), (64, 0), (64, 0), (64, 0)] [4, 4, 1, 1, 1, 5, 48, 64, 64, 64] rfl 32 rfl) rfl))
  apply kd (.owe 47)
  apply kp (bs1 (b0 := decide ((((rapsClose_x1 m level) ++ (rapsClose_x4 m level))).size + ((⟨#[0]⟩ : ByteArray)).size ≤ 9223372036854775807)) (Field.szle (Field.app_size (show ((rapsClose_x1 m level)).size = 4 from Field.packS_len [(3, level), (5, 1), (8, 40), (8, 0), (8, 32)] [3, 5, 8, 8, 8] rfl 4 rfl) (show ((rapsClose_x4 m level)).size = 32 from Field.packS_len [(4, m.req), (4, 0), (1, 1), (1, 0), (1, 0), (5, 0), (48, m.node), (64, 0), (64, 0), (64, 0)] [4, 4, 1, 1, 1, 5, 48, 64, 64, 64] rfl 32 rfl) (k := 36) rfl) (rfl : (⟨#[0]⟩ : ByteArray).size = 1) rfl))
  exact kl
  intro hb2
  apply kc
  intro hb3
  apply kc
  intro hb4
  apply kf [.is 19 (.int .u64 m.req), .heap, .heap, .inl, .lit, .br false, .lit, .br true, .lit, .br true, .lit, .heap] (o_ (wr_u64 (n := m.req) (by have := (show (rapsWrong m) = 0 → (m.req = 0 ∨ m.req = 7 ∨ m.req = 11 ∨ m.req = 13) ∧ m.node < 281474976710656 from rapsWrong_fact m); first | omega | (simp only [zor, zand, zorf, zandf, znt, znf, zeq, zne, zeqf, znef, zd, zdf] at *; omega)) (by have := (show (rapsWrong m) = 0 → (m.req = 0 ∨ m.req = 7 ∨ m.req = 11 ∨ m.req = 13) ∧ m.node < 281474976710656 from rapsWrong_fact m); first | omega | (simp only [zor, zand, zorf, zandf, znt, znf, zeq, zne, zeqf, znef, zd, zdf] at *; omega))) (o_ (hsame [.cells (Msg.enc m) 40 5]) (o_ (hsame [.cells (Msg.enc m) 40 5, .gone]) (o_ hb2 (o_ hb3 (o_ hb4 (o_ (hsame [.cells (Msg.enc m) 40 5, .gone, .cells [.bool m.block, .bool m.keep, .bool m.east] 4 1]) o0)))))))
  apply kk (Field.packOn_ok (L := [(4, m.req), (4, 0), (1, 0), (1, 1), (1, 1), (5, 0), (48, m.node), (64, 0), (64, 0), (64, 0)]) 10 rfl rfl (Field.partsCons (w := 4) (v := m.req) (b := 16) rfl rfl (by have := (show (rapsWrong m) = 0 → (m.req = 0 ∨ m.req = 7 ∨ m.req = 11 ∨ m.req = 13) ∧ m.node < 281474976710656 from rapsWrong_fact m); first | omega | (simp only [zor, zand, zorf, zandf, znt, znf, zeq, zne, zeqf, znef, zd, zdf] at *; omega)) (by have := (show (rapsWrong m) = 0 → (m.req = 0 ∨ m.req = 7 ∨ m.req = 11 ∨ m.req = 13) ∧ m.node < 281474976710656 from rapsWrong_fact m); first | omega | (simp only [zor, zand, zorf, zandf, znt, znf, zeq, zne, zeqf, znef, zd, zdf] at *; omega)) (Field.partsCons (w := 4) (v := 0) (b := 16) rfl rfl (by decide) (by decide) (Field.partsCons (w := 1) (v := 0) (b := 2) rfl rfl (by decide) (by decide) (Field.partsCons (w := 1) (v := 1) (b := 2) rfl rfl (by decide) (by decide) (Field.partsCons (w := 1) (v := 1) (b := 2) rfl rfl (by decide) (by decide) (Field.partsCons (w := 5) (v := 0) (b := 32) rfl rfl (by decide) (by decide) (Field.partsCons (w := 48) (v := m.node) (b := 281474976710656) rfl rfl (by have := (show (rapsWrong m) = 0 → (m.req = 0 ∨ m.req = 7 ∨ m.req = 11 ∨ m.req = 13) ∧ m.node < 281474976710656 from rapsWrong_fact m); first | omega | (simp only [zor, zand, zorf, zandf, znt, znf, zeq, zne, zeqf, znef, zd, zdf] at *; omega)) (by have := (show (rapsWrong m) = 0 → (m.req = 0 ∨ m.req = 7 ∨ m.req = 11 ∨ m.req = 13) ∧ m.node < 281474976710656 from rapsWrong_fact m); first | omega | (simp only [zor, zand, zorf, zandf, znt, znf, zeq, zne, zeqf, znef, zd, zdf] at *; omega)) (Field.partsCons (w := 64) (v := 0) (b := 18446744073709551616) rfl rfl (by decide) (by decide) (Field.partsCons (w := 64) (v := 0) (b := 18446744073709551616) rfl rfl (by decide) (by decide) (Field.partsCons (w := 64) (v := 0) (b := 18446744073709551616) rfl rfl (by decide) (by decide) Field.partsNil)))))))))) [4, 4, 1, 1, 1, 5, 48, 64, 64, 64] rfl 32 rfl 14 UNK (.row [.int .i64 4, .int .u64 m.req, .int .i64 4, .int .u64 0, .int .i64 1, .int .u64 0, .int .i64 1, .int .u64 1, .int .i64 1, .int .u64 1, .int .i64 5, .int .u64 0, .int .i64 48, .int .u64 m.node, .int .i64 64, .int .u64 0, .int .i64 64, .int .u64 0, .int .i64 64, .int .u64 0] 136 2) (Field.lendsRow [] rfl))
  apply kd .inl
  apply kv 11 (wr_u64 (n := level) (by have := (show (rapsWrong m) = 0 → (m.req = 0 ∨ m.req = 7 ∨ m.req = 11 ∨ m.req = 13) ∧ m.node < 281474976710656 from rapsWrong_fact m); first | omega | (simp only [zor, zand, zorf, zandf, znt, znf, zeq, zne, zeqf, znef, zd, zdf] at *; omega)) (by have := (show (rapsWrong m) = 0 → (m.req = 0 ∨ m.req = 7 ∨ m.req = 11 ∨ m.req = 13) ∧ m.node < 281474976710656 from rapsWrong_fact m); first | omega | (simp only [zor, zand, zorf, zandf, znt, znf, zeq, zne, zeqf, znef, zd, zdf] at *; omega)))
  apply kk (Field.packOn_ok (L := [(3, level), (5, 1), (8, 40), (8, 0), (8, 32)]) 5 rfl rfl (Field.partsCons (w := 3) (v := level) (b := 8) rfl rfl (by have := (show (rapsWrong m) = 0 → (m.req = 0 ∨ m.req = 7 ∨ m.req = 11 ∨ m.req = 13) ∧ m.node < 281474976710656 from rapsWrong_fact m); first | omega | (simp only [zor, zand, zorf, zandf, znt, znf, zeq, zne, zeqf, znef, zd, zdf] at *; omega)) (by have := (show (rapsWrong m) = 0 → (m.req = 0 ∨ m.req = 7 ∨ m.req = 11 ∨ m.req = 13) ∧ m.node < 281474976710656 from rapsWrong_fact m); first | omega | (simp only [zor, zand, zorf, zandf, znt, znf, zeq, zne, zeqf, znef, zd, zdf] at *; omega)) (Field.partsCons (w := 5) (v := 1) (b := 32) rfl rfl (by decide) (by decide) (Field.partsCons (w := 8) (v := 40) (b := 256) rfl rfl (by decide) (by decide) (Field.partsCons (w := 8) (v := 0) (b := 256) rfl rfl (by decide) (by decide) (Field.partsCons (w := 8) (v := 32) (b := 256) rfl rfl (by decide) (by decide) Field.partsNil))))) [3, 5, 8, 8, 8] rfl 4 rfl 16 5 (.cells [.int .i64 3, .int .u64 level, .int .i64 5, .int .u64 1, .int .i64 8, .int .u64 40, .int .i64 8, .int .u64 0, .int .i64 8, .int .u64 32] 136 2) (Field.lendsCells [] rfl))
  apply kv 39 (show Value.int .i64 ((((rapsClose_x5 m level)).size : Nat) : Int) = .int .i64 32 from Field.size_is (show ((rapsClose_x5 m level)).size = 32 from Field.packS_len [(4, m.req), (4, 0), (1, 0), (1, 1), (1, 1), (5, 0), (48, m.node), (64, 0), (64, 0), (64, 0)] [4, 4, 1, 1, 1, 5, 48, 64, 64, 64] rfl 32 rfl))
  apply kd (.owe 46)
  apply kp (bs1 (b0 := decide (((rapsClose_x1 m level)).size + ((rapsClose_x5 m level)).size ≤ 9223372036854775807)) (Field.szle (show ((rapsClose_x1 m level)).size = 4 from Field.packS_len [(3, level), (5, 1), (8, 40), (8, 0), (8, 32)] [3, 5, 8, 8, 8] rfl 4 rfl) (show ((rapsClose_x5 m level)).size = 32 from Field.packS_len [(4, m.req), (4, 0), (1, 0), (1, 1), (1, 1), (5, 0), (48, m.node), (64, 0), (64, 0), (64, 0)] [4, 4, 1, 1, 1, 5, 48, 64, 64, 64] rfl 32 rfl) rfl))
  apply kd (.owe 47)
  apply kp (bs1 (b0 := decide ((((rapsClose_x1 m level) ++ (rapsClose_x5 m level))).size + ((⟨#[0]⟩ : ByteArray)).size ≤ 9223372036854775807)) (Field.szle (Field.app_size (show ((rapsClose_x1 m level)).size = 4 from Field.packS_len [(3, level), (5, 1), (8, 40), (8, 0), (8, 32)] [3, 5, 8, 8, 8] rfl 4 rfl) (show ((rapsClose_x5 m level)).size = 32 from Field.packS_len [(4, m.req), (4, 0), (1, 0), (1, 1), (1, 1), (5, 0), (48, m.node), (64, 0), (64, 0), (64, 0)] [4, 4, 1, 1, 1, 5, 48, 64, 64, 64] rfl 32 rfl) (k := 36) rfl) (rfl : (⟨#[0]⟩ : ByteArray).size = 1) rfl))
  exact kl
  intro hb4
  apply kf [.is 19 (.int .u64 m.req), .heap, .heap, .inl, .lit, .br false, .lit, .br true, .lit, .br false, .lit, .heap] (o_ (wr_u64 (n := m.req) (by have := (show (rapsWrong m) = 0 → (m.req = 0 ∨ m.req = 7 ∨ m.req = 11 ∨ m.req = 13) ∧ m.node < 281474976710656 from rapsWrong_fact m); first | omega | (simp only [zor, zand, zorf, zandf, znt, znf, zeq, zne, zeqf, znef, zd, zdf] at *; omega)) (by have := (show (rapsWrong m) = 0 → (m.req = 0 ∨ m.req = 7 ∨ m.req = 11 ∨ m.req = 13) ∧ m.node < 281474976710656 from rapsWrong_fact m); first | omega | (simp only [zor, zand, zorf, zandf, znt, znf, zeq, zne, zeqf, znef, zd, zdf] at *; omega))) (o_ (hsame [.cells (Msg.enc m) 40 5]) (o_ (hsame [.cells (Msg.enc m) 40 5, .gone]) (o_ hb2 (o_ hb3 (o_ hb4 (o_ (hsame [.cells (Msg.enc m) 40 5, .gone, .cells [.bool m.block, .bool m.keep, .bool m.east] 4 1]) o0)))))))
  apply kk (Field.packOn_ok (L := [(4, m.req), (4, 0), (1, 0), (1, 1), (1, 0), (5, 0), (48, m.node), (64, 0), (64, 0), (64, 0)]) 10 rfl rfl (Field.partsCons (w := 4) (v := m.req) (b := 16) rfl rfl (by have := (show (rapsWrong m) = 0 → (m.req = 0 ∨ m.req = 7 ∨ m.req = 11 ∨ m.req = 13) ∧ m.node < 281474976710656 from rapsWrong_fact m); first | omega | (simp only [zor, zand, zorf, zandf, znt, znf, zeq, zne, zeqf, znef, zd, zdf] at *; omega)) (by have := (show (rapsWrong m) = 0 → (m.req = 0 ∨ m.req = 7 ∨ m.req = 11 ∨ m.req = 13) ∧ m.node < 281474976710656 from rapsWrong_fact m); first | omega | (simp only [zor, zand, zorf, zandf, znt, znf, zeq, zne, zeqf, znef, zd, zdf] at *; omega)) (Field.partsCons (w := 4) (v := 0) (b := 16) rfl rfl (by decide) (by decide) (Field.partsCons (w := 1) (v := 0) (b := 2) rfl rfl (by decide) (by decide) (Field.partsCons (w := 1) (v := 1) (b := 2) rfl rfl (by decide) (by decide) (Field.partsCons (w := 1) (v := 0) (b := 2) rfl rfl (by decide) (by decide) (Field.partsCons (w := 5) (v := 0) (b := 32) rfl rfl (by decide) (by decide) (Field.partsCons (w := 48) (v := m.node) (b := 281474976710656) rfl rfl (by have := (show (rapsWrong m) = 0 → (m.req = 0 ∨ m.req = 7 ∨ m.req = 11 ∨ m.req = 13) ∧ m.node < 281474976710656 from rapsWrong_fact m); first | omega | (simp only [zor, zand, zorf, zandf, znt, znf, zeq, zne, zeqf, znef, zd, zdf] at *; omega)) (by have := (show (rapsWrong m) = 0 → (m.req = 0 ∨ m.req = 7 ∨ m.req = 11 ∨ m.req = 13) ∧ m.node < 281474976710656 from rapsWrong_fact m); first | omega | (simp only [zor, zand, zorf, zandf, znt, znf, zeq, zne, zeqf, znef, zd, zdf] at *; omega)) (Field.partsCons (w := 64) (v := 0) (b := 18446744073709551616) rfl rfl (by decide) (by decide) (Field.partsCons (w := 64) (v := 0) (b := 18446744073709551616) rfl rfl (by decide) (by decide) (Field.partsCons (w := 64) (v := 0) (b := 18446744073709551616) rfl rfl (by decide) (by decide) Field.partsNil)))))))))) [4, 4, 1, 1, 1, 5, 48, 64, 64, 64] rfl 32 rfl 14 UNK (.row [.int .i64 4, .int .u64 m.req, .int .i64 4, .int .u64 0, .int .i64 1, .int .u64 0, .int .i64 1, .int .u64 1, .int .i64 1, .int .u64 0, .int .i64 5, .int .u64 0, .int .i64 48, .int .u64 m.node, .int .i64 64, .int .u64 0, .int .i64 64, .int .u64 0, .int .i64 64, .int .u64 0] 136 2) (Field.lendsRow [] rfl))
  apply kd .inl
  apply kv 11 (wr_u64 (n := level) (by have := (show (rapsWrong m) = 0 → (m.req = 0 ∨ m.req = 7 ∨ m.req = 11 ∨ m.req = 13) ∧ m.node < 281474976710656 from rapsWrong_fact m); first | omega | (simp only [zor, zand, zorf, zandf, znt, znf, zeq, zne, zeqf, znef, zd, zdf] at *; omega)) (by have := (show (rapsWrong m) = 0 → (m.req = 0 ∨ m.req = 7 ∨ m.req = 11 ∨ m.req = 13) ∧ m.node < 281474976710656 from rapsWrong_fact m); first | omega | (simp only [zor, zand, zorf, zandf, znt, znf, zeq, zne, zeqf, znef, zd, zdf] at *; omega)))
  apply kk (Field.packOn_ok (L := [(3, level), (5, 1), (8, 40), (8, 0), (8, 32)]) 5 rfl rfl (Field.partsCons (w := 3) (v := level) (b := 8) rfl rfl (by have := (show (rapsWrong m) = 0 → (m.req = 0 ∨ m.req = 7 ∨ m.req = 11 ∨ m.req = 13) ∧ m.node < 281474976710656 from rapsWrong_fact m); first | omega | (simp only [zor, zand, zorf, zandf, znt, znf, zeq, zne, zeqf, znef, zd, zdf] at *; omega)) (by have := (show (rapsWrong m) = 0 → (m.req = 0 ∨ m.req = 7 ∨ m.req = 11 ∨ m.req = 13) ∧ m.node < 281474976710656 from rapsWrong_fact m); first | omega | (simp only [zor, zand, zorf, zandf, znt, znf, zeq, zne, zeqf, znef, zd, zdf] at *; omega)) (Field.partsCons (w := 5) (v := 1) (b := 32) rfl rfl (by decide) (by decide) (Field.partsCons (w := 8) (v := 40) (b := 256) rfl rfl (by decide) (by decide) (Field.partsCons (w := 8) (v := 0) (b := 256) rfl rfl (by decide) (by decide) (Field.partsCons (w := 8) (v := 32) (b := 256) rfl rfl (by decide) (by decide) Field.partsNil))))) [3, 5, 8, 8, 8] rfl 4 rfl 16 5 (.cells [.int .i64 3, .int .u64 level, .int .i64 5, .int .u64 1, .int .i64 8, .int .u64 40, .int .i64 8, .int .u64 0, .int .i64 8, .int .u64 32] 136 2) (Field.lendsCells [] rfl))
  apply kv 39 (show Value.int .i64 ((((rapsClose_x6 m level)).size : Nat) : Int) = .int .i64 32 from Field.size_is (show ((rapsClose_x6 m level)).size = 32 from Field.packS_len [(4, m.req), (4, 0), (1, 0), (1, 1), (1, 0), (5, 0), (48, m.node), (64, 0), (64, 0), (64, 0)] [4, 4, 1, 1, 1, 5, 48, 64, 64, 64] rfl 32 rfl))
  apply kd (.owe 46)
  apply kp (bs1 (b0 := decide (((rapsClose_x1 m level)).size + ((rapsClose_x6 m level)).size ≤ 9223372036854775807)) (Field.szle (show ((rapsClose_x1 m level)).size = 4 from Field.packS_len [(3, level), (5, 1), (8, 40), (8, 0), (8, 32)] [3, 5, 8, 8, 8] rfl 4 rfl) (show ((rapsClose_x6 m level)).size = 32 from Field.packS_len [(4, m.req), (4, 0), (1, 0), (1, 1), (1, 0), (5, 0), (48, m.node), (64, 0), (64, 0), (64, 0)] [4, 4, 1, 1, 1, 5, 48, 64, 64, 64] rfl 32 rfl) rfl))
  apply kd (.owe 47)
  apply kp (bs1 (b0 := decide ((((rapsClose_x1 m level) ++ (rapsClose_x6 m level))).size + ((⟨#[0]⟩ : ByteArray)).size ≤ 9223372036854775807)) (Field.szle (Field.app_size (show ((rapsClose_x1 m level)).size = 4 from Field.packS_len [(3, level), (5, 1), (8, 40), (8, 0), (8, 32)] [3, 5, 8, 8, 8] rfl 4 rfl) (show ((rapsClose_x6 m level)).size = 32 from Field.packS_len [(4, m.req), (4, 0), (1, 0), (1, 1), (1, 0), (5, 0), (48, m.node), (64, 0), (64, 0), (64, 0)] [4, 4, 1, 1, 1, 5, 48, 64, 64, 64] rfl 32 rfl) (k := 36) rfl) (rfl : (⟨#[0]⟩ : ByteArray).size = 1) rfl))
  exact kl
  intro hb3
  apply kc
  intro hb4
  apply kf [.is 19 (.int .u64 m.req), .heap, .heap, .inl, .lit, .br false, .lit, .br false, .lit, .br true, .lit, .heap] (o_ (wr_u64 (n := m.req) (by have := (show (rapsWrong m) = 0 → (m.req = 0 ∨ m.req = 7 ∨ m.req = 11 ∨ m.req = 13) ∧ m.node < 281474976710656 from rapsWrong_fact m); first | omega | (simp only [zor, zand, zorf, zandf, znt, znf, zeq, zne, zeqf, znef, zd, zdf] at *; omega)) (by have := (show (rapsWrong m) = 0 → (m.req = 0 ∨ m.req = 7 ∨ m.req = 11 ∨ m.req = 13) ∧ m.node < 281474976710656 from rapsWrong_fact m); first | omega | (simp only [zor, zand, zorf, zandf, znt, znf, zeq, zne, zeqf, znef, zd, zdf] at *; omega))) (o_ (hsame [.cells (Msg.enc m) 40 5]) (o_ (hsame [.cells (Msg.enc m) 40 5, .gone]) (o_ hb2 (o_ hb3 (o_ hb4 (o_ (hsame [.cells (Msg.enc m) 40 5, .gone, .cells [.bool m.block, .bool m.keep, .bool m.east] 4 1]) o0)))))))
  apply kk (Field.packOn_ok (L := [(4, m.req), (4, 0), (1, 0), (1, 0), (1, 1), (5, 0), (48, m.node), (64, 0), (64, 0), (64, 0)]) 10 rfl rfl (Field.partsCons (w := 4) (v := m.req) (b := 16) rfl rfl (by have := (show (rapsWrong m) = 0 → (m.req = 0 ∨ m.req = 7 ∨ m.req = 11 ∨ m.req = 13) ∧ m.node < 281474976710656 from rapsWrong_fact m); first | omega | (simp only [zor, zand, zorf, zandf, znt, znf, zeq, zne, zeqf, znef, zd, zdf] at *; omega)) (by have := (show (rapsWrong m) = 0 → (m.req = 0 ∨ m.req = 7 ∨ m.req = 11 ∨ m.req = 13) ∧ m.node < 281474976710656 from rapsWrong_fact m); first | omega | (simp only [zor, zand, zorf, zandf, znt, znf, zeq, zne, zeqf, znef, zd, zdf] at *; omega)) (Field.partsCons (w := 4) (v := 0) (b := 16) rfl rfl (by decide) (by decide) (Field.partsCons (w := 1) (v := 0) (b := 2) rfl rfl (by decide) (by decide) (Field.partsCons (w := 1) (v := 0) (b := 2) rfl rfl (by decide) (by decide) (Field.partsCons (w := 1) (v := 1) (b := 2) rfl rfl (by decide) (by decide) (Field.partsCons (w := 5) (v := 0) (b := 32) rfl rfl (by decide) (by decide) (Field.partsCons (w := 48) (v := m.node) (b := 281474976710656) rfl rfl (by have := (show (rapsWrong m) = 0 → (m.req = 0 ∨ m.req = 7 ∨ m.req = 11 ∨ m.req = 13) ∧ m.node < 281474976710656 from rapsWrong_fact m); first | omega | (simp only [zor, zand, zorf, zandf, znt, znf, zeq, zne, zeqf, znef, zd, zdf] at *; omega)) (by have := (show (rapsWrong m) = 0 → (m.req = 0 ∨ m.req = 7 ∨ m.req = 11 ∨ m.req = 13) ∧ m.node < 281474976710656 from rapsWrong_fact m); first | omega | (simp only [zor, zand, zorf, zandf, znt, znf, zeq, zne, zeqf, znef, zd, zdf] at *; omega)) (Field.partsCons (w := 64) (v := 0) (b := 18446744073709551616) rfl rfl (by decide) (by decide) (Field.partsCons (w := 64) (v := 0) (b := 18446744073709551616) rfl rfl (by decide) (by decide) (Field.partsCons (w := 64) (v := 0) (b := 18446744073709551616) rfl rfl (by decide) (by decide) Field.partsNil)))))))))) [4, 4, 1, 1, 1, 5, 48, 64, 64, 64] rfl 32 rfl 14 UNK (.row [.int .i64 4, .int .u64 m.req, .int .i64 4, .int .u64 0, .int .i64 1, .int .u64 0, .int .i64 1, .int .u64 0, .int .i64 1, .int .u64 1, .int .i64 5, .int .u64 0, .int .i64 48, .int .u64 m.node, .int .i64 64, .int .u64 0, .int .i64 64, .int .u64 0, .int .i64 64, .int .u64 0] 136 2) (Field.lendsRow [] rfl))
  apply kd .inl
  apply kv 11 (wr_u64 (n := level) (by have := (show (rapsWrong m) = 0 → (m.req = 0 ∨ m.req = 7 ∨ m.req = 11 ∨ m.req = 13) ∧ m.node < 281474976710656 from rapsWrong_fact m); first | omega | (simp only [zor, zand, zorf, zandf, znt, znf, zeq, zne, zeqf, znef, zd, zdf] at *; omega)) (by have := (show (rapsWrong m) = 0 → (m.req = 0 ∨ m.req = 7 ∨ m.req = 11 ∨ m.req = 13) ∧ m.node < 281474976710656 from rapsWrong_fact m); first | omega | (simp only [zor, zand, zorf, zandf, znt, znf, zeq, zne, zeqf, znef, zd, zdf] at *; omega)))
  apply kk (Field.packOn_ok (L := [(3, level), (5, 1), (8, 40), (8, 0), (8, 32)]) 5 rfl rfl (Field.partsCons (w := 3) (v := level) (b := 8) rfl rfl (by have := (show (rapsWrong m) = 0 → (m.req = 0 ∨ m.req = 7 ∨ m.req = 11 ∨ m.req = 13) ∧ m.node < 281474976710656 from rapsWrong_fact m); first | omega | (simp only [zor, zand, zorf, zandf, znt, znf, zeq, zne, zeqf, znef, zd, zdf] at *; omega)) (by have := (show (rapsWrong m) = 0 → (m.req = 0 ∨ m.req = 7 ∨ m.req = 11 ∨ m.req = 13) ∧ m.node < 281474976710656 from rapsWrong_fact m); first | omega | (simp only [zor, zand, zorf, zandf, znt, znf, zeq, zne, zeqf, znef, zd, zdf] at *; omega)) (Field.partsCons (w := 5) (v := 1) (b := 32) rfl rfl (by decide) (by decide) (Field.partsCons (w := 8) (v := 40) (b := 256) rfl rfl (by decide) (by decide) (Field.partsCons (w := 8) (v := 0) (b := 256) rfl rfl (by decide) (by decide) (Field.partsCons (w := 8) (v := 32) (b := 256) rfl rfl (by decide) (by decide) Field.partsNil))))) [3, 5, 8, 8, 8] rfl 4 rfl 16 5 (.cells [.int .i64 3, .int .u64 level, .int .i64 5, .int .u64 1, .int .i64 8, .int .u64 40, .int .i64 8, .int .u64 0, .int .i64 8, .int .u64 32] 136 2) (Field.lendsCells [] rfl))
  apply kv 39 (show Value.int .i64 ((((rapsClose_x7 m level)).size : Nat) : Int) = .int .i64 32 from Field.size_is (show ((rapsClose_x7 m level)).size = 32 from Field.packS_len [(4, m.req), (4, 0), (1, 0), (1, 0), (1, 1), (5, 0), (48, m.node), (64, 0), (64, 0), (64, 0)] [4, 4, 1, 1, 1, 5, 48, 64, 64, 64] rfl 32 rfl))
  apply kd (.owe 46)
  apply kp (bs1 (b0 := decide (((rapsClose_x1 m level)).size + ((rapsClose_x7 m level)).size ≤ 9223372036854775807)) (Field.szle (show ((rapsClose_x1 m level)).size = 4 from Field.packS_len [(3, level), (5, 1), (8, 40), (8, 0), (8, 32)] [3, 5, 8, 8, 8] rfl 4 rfl) (show ((rapsClose_x7 m level)).size = 32 from Field.packS_len [(4, m.req), (4, 0), (1, 0), (1, 0), (1, 1), (5, 0), (48, m.node), (64, 0), (64, 0), (64, 0)] [4, 4, 1, 1, 1, 5, 48, 64, 64, 64] rfl 32 rfl) rfl))
  apply kd (.owe 47)
  apply kp (bs1 (b0 := decide ((((rapsClose_x1 m level) ++ (rapsClose_x7 m level))).size + ((⟨#[0]⟩ : ByteArray)).size ≤ 9223372036854775807)) (Field.szle (Field.app_size (show ((rapsClose_x1 m level)).size = 4 from Field.packS_len [(3, level), (5, 1), (8, 40), (8, 0), (8, 32)] [3, 5, 8, 8, 8] rfl 4 rfl) (show ((rapsClose_x7 m level)).size = 32 from Field.packS_len [(4, m.req), (4, 0), (1, 0), (1, 0), (1, 1), (5, 0), (48, m.node), (64, 0), (64, 0), (64, 0)] [4, 4, 1, 1, 1, 5, 48, 64, 64, 64] rfl 32 rfl) (k := 36) rfl) (rfl : (⟨#[0]⟩ : ByteArray).size = 1) rfl))
  exact kl
  intro hb4
  apply kf [.is 19 (.int .u64 m.req), .heap, .heap, .inl, .lit, .br false, .lit, .br false, .lit, .br false, .lit, .heap] (o_ (wr_u64 (n := m.req) (by have := (show (rapsWrong m) = 0 → (m.req = 0 ∨ m.req = 7 ∨ m.req = 11 ∨ m.req = 13) ∧ m.node < 281474976710656 from rapsWrong_fact m); first | omega | (simp only [zor, zand, zorf, zandf, znt, znf, zeq, zne, zeqf, znef, zd, zdf] at *; omega)) (by have := (show (rapsWrong m) = 0 → (m.req = 0 ∨ m.req = 7 ∨ m.req = 11 ∨ m.req = 13) ∧ m.node < 281474976710656 from rapsWrong_fact m); first | omega | (simp only [zor, zand, zorf, zandf, znt, znf, zeq, zne, zeqf, znef, zd, zdf] at *; omega))) (o_ (hsame [.cells (Msg.enc m) 40 5]) (o_ (hsame [.cells (Msg.enc m) 40 5, .gone]) (o_ hb2 (o_ hb3 (o_ hb4 (o_ (hsame [.cells (Msg.enc m) 40 5, .gone, .cells [.bool m.block, .bool m.keep, .bool m.east] 4 1]) o0)))))))
  apply kk (Field.packOn_ok (L := [(4, m.req), (4, 0), (1, 0), (1, 0), (1, 0), (5, 0), (48, m.node), (64, 0), (64, 0), (64, 0)]) 10 rfl rfl (Field.partsCons (w := 4) (v := m.req) (b := 16) rfl rfl (by have := (show (rapsWrong m) = 0 → (m.req = 0 ∨ m.req = 7 ∨ m.req = 11 ∨ m.req = 13) ∧ m.node < 281474976710656 from rapsWrong_fact m); first | omega | (simp only [zor, zand, zorf, zandf, znt, znf, zeq, zne, zeqf, znef, zd, zdf] at *; omega)) (by have := (show (rapsWrong m) = 0 → (m.req = 0 ∨ m.req = 7 ∨ m.req = 11 ∨ m.req = 13) ∧ m.node < 281474976710656 from rapsWrong_fact m); first | omega | (simp only [zor, zand, zorf, zandf, znt, znf, zeq, zne, zeqf, znef, zd, zdf] at *; omega)) (Field.partsCons (w := 4) (v := 0) (b := 16) rfl rfl (by decide) (by decide) (Field.partsCons (w := 1) (v := 0) (b := 2) rfl rfl (by decide) (by decide) (Field.partsCons (w := 1) (v := 0) (b := 2) rfl rfl (by decide) (by decide) (Field.partsCons (w := 1) (v := 0) (b := 2) rfl rfl (by decide) (by decide) (Field.partsCons (w := 5) (v := 0) (b := 32) rfl rfl (by decide) (by decide) (Field.partsCons (w := 48) (v := m.node) (b := 281474976710656) rfl rfl (by have := (show (rapsWrong m) = 0 → (m.req = 0 ∨ m.req = 7 ∨ m.req = 11 ∨ m.req = 13) ∧ m.node < 281474976710656 from rapsWrong_fact m); first | omega | (simp only [zor, zand, zorf, zandf, znt, znf, zeq, zne, zeqf, znef, zd, zdf] at *; omega)) (by have := (show (rapsWrong m) = 0 → (m.req = 0 ∨ m.req = 7 ∨ m.req = 11 ∨ m.req = 13) ∧ m.node < 281474976710656 from rapsWrong_fact m); first | omega | (simp only [zor, zand, zorf, zandf, znt, znf, zeq, zne, zeqf, znef, zd, zdf] at *; omega)) (Field.partsCons (w := 64) (v := 0) (b := 18446744073709551616) rfl rfl (by decide) (by decide) (Field.partsCons (w := 64) (v := 0) (b := 18446744073709551616) rfl rfl (by decide) (by decide) (Field.partsCons (w := 64) (v := 0) (b := 18446744073709551616) rfl rfl (by decide) (by decide) Field.partsNil)))))))))) [4, 4, 1, 1, 1, 5, 48, 64, 64, 64] rfl 32 rfl 14 UNK (.row [.int .i64 4, .int .u64 m.req, .int .i64 4, .int .u64 0, .int .i64 1, .int .u64 0, .int .i64 1, .int .u64 0, .int .i64 1, .int .u64 0, .int .i64 5, .int .u64 0, .int .i64 48, .int .u64 m.node, .int .i64 64, .int .u64 0, .int .i64 64, .int .u64 0, .int .i64 64, .int .u64 0] 136 2) (Field.lendsRow [] rfl))
  apply kd .inl
  apply kv 11 (wr_u64 (n := level) (by have := (show (rapsWrong m) = 0 → (m.req = 0 ∨ m.req = 7 ∨ m.req = 11 ∨ m.req = 13) ∧ m.node < 281474976710656 from rapsWrong_fact m); first | omega | (simp only [zor, zand, zorf, zandf, znt, znf, zeq, zne, zeqf, znef, zd, zdf] at *; omega)) (by have := (show (rapsWrong m) = 0 → (m.req = 0 ∨ m.req = 7 ∨ m.req = 11 ∨ m.req = 13) ∧ m.node < 281474976710656 from rapsWrong_fact m); first | omega | (simp only [zor, zand, zorf, zandf, znt, znf, zeq, zne, zeqf, znef, zd, zdf] at *; omega)))
  apply kk (Field.packOn_ok (L := [(3, level), (5, 1), (8, 40), (8, 0), (8, 32)]) 5 rfl rfl (Field.partsCons (w := 3) (v := level) (b := 8) rfl rfl (by have := (show (rapsWrong m) = 0 → (m.req = 0 ∨ m.req = 7 ∨ m.req = 11 ∨ m.req = 13) ∧ m.node < 281474976710656 from rapsWrong_fact m); first | omega | (simp only [zor, zand, zorf, zandf, znt, znf, zeq, zne, zeqf, znef, zd, zdf] at *; omega)) (by have := (show (rapsWrong m) = 0 → (m.req = 0 ∨ m.req = 7 ∨ m.req = 11 ∨ m.req = 13) ∧ m.node < 281474976710656 from rapsWrong_fact m); first | omega | (simp only [zor, zand, zorf, zandf, znt, znf, zeq, zne, zeqf, znef, zd, zdf] at *; omega)) (Field.partsCons (w := 5) (v := 1) (b := 32) rfl rfl (by decide) (by decide) (Field.partsCons (w := 8) (v := 40) (b := 256) rfl rfl (by decide) (by decide) (Field.partsCons (w := 8) (v := 0) (b := 256) rfl rfl (by decide) (by decide) (Field.partsCons (w := 8) (v := 32) (b := 256) rfl rfl (by decide) (by decide) Field.partsNil))))) [3, 5, 8, 8, 8] rfl 4 rfl 16 5 (.cells [.int .i64 3, .int .u64 level, .int .i64 5, .int .u64 1, .int .i64 8, .int .u64 40, .int .i64 8, .int .u64 0, .int .i64 8, .int .u64 32] 136 2) (Field.lendsCells [] rfl))
  apply kv 39 (show Value.int .i64 ((((rapsClose_x8 m level)).size : Nat) : Int) = .int .i64 32 from Field.size_is (show ((rapsClose_x8 m level)).size = 32 from Field.packS_len [(4, m.req), (4, 0), (1, 0), (1, 0), (1, 0), (5, 0), (48, m.node), (64, 0), (64, 0), (64, 0)] [4, 4, 1, 1, 1, 5, 48, 64, 64, 64] rfl 32 rfl))
  apply kd (.owe 46)
  apply kp (bs1 (b0 := decide (((rapsClose_x1 m level)).size + ((rapsClose_x8 m level)).size ≤ 9223372036854775807)) (Field.szle (show ((rapsClose_x1 m level)).size = 4 from Field.packS_len [(3, level), (5, 1), (8, 40), (8, 0), (8, 32)] [3, 5, 8, 8, 8] rfl 4 rfl) (show ((rapsClose_x8 m level)).size = 32 from Field.packS_len [(4, m.req), (4, 0), (1, 0), (1, 0), (1, 0), (5, 0), (48, m.node), (64, 0), (64, 0), (64, 0)] [4, 4, 1, 1, 1, 5, 48, 64, 64, 64] rfl 32 rfl) rfl))
  apply kd (.owe 47)
  apply kp (bs1 (b0 := decide ((((rapsClose_x1 m level) ++ (rapsClose_x8 m level))).size + ((⟨#[0]⟩ : ByteArray)).size ≤ 9223372036854775807)) (Field.szle (Field.app_size (show ((rapsClose_x1 m level)).size = 4 from Field.packS_len [(3, level), (5, 1), (8, 40), (8, 0), (8, 32)] [3, 5, 8, 8, 8] rfl 4 rfl) (show ((rapsClose_x8 m level)).size = 32 from Field.packS_len [(4, m.req), (4, 0), (1, 0), (1, 0), (1, 0), (5, 0), (48, m.node), (64, 0), (64, 0), (64, 0)] [4, 4, 1, 1, 1, 5, 48, 64, 64, 64] rfl 32 rfl) (k := 36) rfl) (rfl : (⟨#[0]⟩ : ByteArray).size = 1) rfl))
  exact kl
  kernel_rfl
  rfl

def mayMsg (m : Msg) : Bool :=
  ((rapsClose m 0).2) == 0
def mayMsg_c (r : Bool) : Dir := .callL (.bool r) []
def mayMsg_E (r : Bool) : Value := .bool r
theorem mayMsg_eq (m : Msg) (hn : 0 ≤ m.node) : AOn Tryz.prog 8 [.agg ⟨Msg.enc m⟩] [] (mayMsg_E (mayMsg m)) [] := by
  unfold mayMsg
  apply onT 400 mayMsg_E
  apply kk (rapsClose_eq m 0 (by first | omega | (simp only [zor, zand, zorf, zandf, znt, znf, zeq, zne, zeqf, znef, zd, zdf] at *; omega)) (by first | omega | (simp only [zor, zand, zorf, zandf, znt, znf, zeq, zne, zeqf, znef, zd, zdf] at *; omega)))
  exact kl
  kernel_rfl
  rfl

end Go.Proofs.E17

namespace Go.Proofs.E17
open Go Go.AX Go.Proofs
set_option maxRecDepth 1000000
set_option linter.unusedVariables false
set_option linter.unusedSimpArgs false

theorem parse_ex : AOn Tryz.prog 95 [.string ⟨#[48, 49, 58, 49, 57, 58, 97, 55, 58, 48, 48, 58, 48, 48, 58, 48, 49]⟩] [] (.tuple ⟨[.int .u64 1209687605249, .int .i64 0]⟩) [] := by
  refine on0 400 [] o0 ?_ rfl; kernel_rfl

def awake01 : Bool :=
  true
def awake01_E (r : Bool) : Value := .bool r
theorem awake01_eq : AOn Tryz.prog 96 [] [] (awake01_E (awake01)) [] := by
  unfold awake01
  apply onT 400 awake01_E
  apply kk (Field.packOn_lit ⟨#[160, 100]⟩ (by kernel_rfl) (Field.packOn_ok (L := [(3, 5), (1, 0), (12, 100)]) 3 rfl rfl (Field.partsCons (w := 3) (v := 5) (b := 8) rfl rfl (by decide) (by decide) (Field.partsCons (w := 1) (v := 0) (b := 2) rfl rfl (by decide) (by decide) (Field.partsCons (w := 12) (v := 100) (b := 4096) rfl rfl (by decide) (by decide) Field.partsNil))) [3, 1, 12] rfl 2 rfl 0 3 (.cells [.int .i64 3, .int .u64 5, .int .i64 1, .int .u64 0, .int .i64 12, .int .u64 100] 136 2) (Field.lendsCells [] rfl)))
  exact kl
  kernel_rfl
  rfl

def awake02 : Bool :=
  true
def awake02_E (r : Bool) : Value := .bool r
theorem awake02_eq : AOn Tryz.prog 66 [] [] (awake02_E (awake02)) [] := by
  unfold awake02
  apply onT 400 awake02_E
  apply kk parse_ex
  apply kk (awake01_eq)
  apply kd .inl
  apply kd .inl
  apply kd .inl
  apply kk (Field.packOn_lit ⟨#[1, 25, 167, 0, 0, 1]⟩ (by kernel_rfl) (Field.packOn_ok (L := [(48, 1209687605249)]) 1 rfl rfl (Field.partsCons (w := 48) (v := 1209687605249) (b := 281474976710656) rfl rfl (by decide) (by decide) Field.partsNil) [48] rfl 6 rfl 0 1 (.cells [.int .i64 48, .int .u64 1209687605249] 136 2) (Field.lendsCells [] rfl)))
  apply kd .inl
  apply kd .inl
  exact kl
  kernel_rfl
  rfl

def awake04_x0 : ByteArray := Field.packS [(3, 7), (5, 1), (8, 40), (8, 0), (8, 0)]
def awake04 : Bool :=
  true
def awake04_E (r : Bool) : Value := .bool r
theorem awake04_eq : AOn Tryz.prog 94 [] [] (awake04_E (awake04)) [] := by
  unfold awake04
  apply onT 400 awake04_E
  apply kd .inl
  apply kk (Field.packOn_lit ⟨#[225, 40, 0, 0]⟩ (by kernel_rfl) (Field.packOn_ok (L := [(3, 7), (5, 1), (8, 40), (8, 0), (8, 0)]) 5 rfl rfl (Field.partsCons (w := 3) (v := 7) (b := 8) rfl rfl (by decide) (by decide) (Field.partsCons (w := 5) (v := 1) (b := 32) rfl rfl (by decide) (by decide) (Field.partsCons (w := 8) (v := 40) (b := 256) rfl rfl (by decide) (by decide) (Field.partsCons (w := 8) (v := 0) (b := 256) rfl rfl (by decide) (by decide) (Field.partsCons (w := 8) (v := 0) (b := 256) rfl rfl (by decide) (by decide) Field.partsNil))))) [3, 5, 8, 8, 8] rfl 4 rfl 1 5 (.cells [.int .i64 3, .int .u64 7, .int .i64 5, .int .u64 1, .int .i64 8, .int .u64 40, .int .i64 8, .int .u64 0, .int .i64 8, .int .u64 0] 136 2) (Field.lendsCells [] rfl)))
  apply kk (awake01_eq)
  exact kl
  kernel_rfl
  rfl

def awake05_x0 : ByteArray := Field.packS [(4, 0), (4, 0), (1, 1), (1, 0), (1, 0), (5, 0), (48, 2), (64, 0), (64, 0), (64, 0)]
def awake05_x1 : ByteArray := Field.packS [(3, 7), (5, 1), (8, 40), (8, 0), (8, 32)]
def awake05 : Bool :=
  true
def awake05_E (r : Bool) : Value := .bool r
theorem awake05_eq : AOn Tryz.prog 64 [] [] (awake05_E (awake05)) [] := by
  unfold awake05
  apply onT 400 awake05_E
  apply kd .inl
  apply kd .inl
  apply kd .inl
  apply kd .inl
  apply kd .inl
  apply kf (.heap :: .heap :: .inl :: lits 7 ([.heap])) (o_ (hsame [.cells [.int .u8 0, .bool true, .bool false, .bool false, .int .u64 2] 40 5, .cells [.int .u8 0, .bool true, .bool false, .bool false, .int .u64 2] 40 5]) (o_ (hsame [.cells [.int .u8 0, .bool true, .bool false, .bool false, .int .u64 2] 40 5, .cells [.int .u8 0, .bool true, .bool false, .bool false, .int .u64 2] 40 5, .gone]) (o_ (hsame [.cells [.int .u8 0, .bool true, .bool false, .bool false, .int .u64 2] 40 5, .cells [.int .u8 0, .bool true, .bool false, .bool false, .int .u64 2] 40 5, .gone, .cells [.bool true, .bool false, .bool false] 4 1]) o0)))
  apply kk (Field.packOn_lit ⟨#[0, 128, 0, 0, 0, 0, 0, 2, 0, 0, 0, 0, 0, 0, 0, 0, 0, 0, 0, 0, 0, 0, 0, 0, 0, 0, 0, 0, 0, 0, 0, 0]⟩ (by kernel_rfl) (Field.packOn_ok (L := [(4, 0), (4, 0), (1, 1), (1, 0), (1, 0), (5, 0), (48, 2), (64, 0), (64, 0), (64, 0)]) 10 rfl rfl (Field.partsCons (w := 4) (v := 0) (b := 16) rfl rfl (by decide) (by decide) (Field.partsCons (w := 4) (v := 0) (b := 16) rfl rfl (by decide) (by decide) (Field.partsCons (w := 1) (v := 1) (b := 2) rfl rfl (by decide) (by decide) (Field.partsCons (w := 1) (v := 0) (b := 2) rfl rfl (by decide) (by decide) (Field.partsCons (w := 1) (v := 0) (b := 2) rfl rfl (by decide) (by decide) (Field.partsCons (w := 5) (v := 0) (b := 32) rfl rfl (by decide) (by decide) (Field.partsCons (w := 48) (v := 2) (b := 281474976710656) rfl rfl (by decide) (by decide) (Field.partsCons (w := 64) (v := 0) (b := 18446744073709551616) rfl rfl (by decide) (by decide) (Field.partsCons (w := 64) (v := 0) (b := 18446744073709551616) rfl rfl (by decide) (by decide) (Field.partsCons (w := 64) (v := 0) (b := 18446744073709551616) rfl rfl (by decide) (by decide) Field.partsNil)))))))))) [4, 4, 1, 1, 1, 5, 48, 64, 64, 64] rfl 32 rfl 15 UNK (.row [.int .i64 4, .int .u64 0, .int .i64 4, .int .u64 0, .int .i64 1, .int .u64 1, .int .i64 1, .int .u64 0, .int .i64 1, .int .u64 0, .int .i64 5, .int .u64 0, .int .i64 48, .int .u64 2, .int .i64 64, .int .u64 0, .int .i64 64, .int .u64 0, .int .i64 64, .int .u64 0] 136 2) (Field.lendsRow [] rfl)))
  apply kd .inl
  apply kk (Field.packOn_lit ⟨#[225, 40, 0, 32]⟩ (by kernel_rfl) (Field.packOn_ok (L := [(3, 7), (5, 1), (8, 40), (8, 0), (8, 32)]) 5 rfl rfl (Field.partsCons (w := 3) (v := 7) (b := 8) rfl rfl (by decide) (by decide) (Field.partsCons (w := 5) (v := 1) (b := 32) rfl rfl (by decide) (by decide) (Field.partsCons (w := 8) (v := 40) (b := 256) rfl rfl (by decide) (by decide) (Field.partsCons (w := 8) (v := 0) (b := 256) rfl rfl (by decide) (by decide) (Field.partsCons (w := 8) (v := 32) (b := 256) rfl rfl (by decide) (by decide) Field.partsNil))))) [3, 5, 8, 8, 8] rfl 4 rfl 17 5 (.cells [.int .i64 3, .int .u64 7, .int .i64 5, .int .u64 1, .int .i64 8, .int .u64 40, .int .i64 8, .int .u64 0, .int .i64 8, .int .u64 32] 136 2) (Field.lendsCells [] rfl)))
  apply kk (awake02_eq)
  apply kk (awake04_eq)
  exact kl
  kernel_rfl
  rfl

def awake06_x0 : ByteArray := Field.packS [(3, 0), (5, 0), (8, 1), (8, 132), (8, 70)]
def awake06 : Bool :=
  true
def awake06_E (r : Bool) : Value := .bool r
theorem awake06_eq : AOn Tryz.prog 67 [] [] (awake06_E (awake06)) [] := by
  unfold awake06
  apply onT 400 awake06_E
  apply kd .inl
  apply kk (show AOn Tryz.prog 119 [.string ⟨#[0]⟩, .int .i64 47] [] (.string ⟨#[0, 0, 0, 0, 0, 0, 0, 0, 0, 0, 0, 0, 0, 0, 0, 0, 0, 0, 0, 0, 0, 0, 0, 0, 0, 0, 0, 0, 0, 0, 0, 0, 0, 0, 0, 0, 0, 0, 0, 0, 0, 0, 0, 0, 0, 0, 0]⟩) [] from strings_Repeat ⟨#[0]⟩ 47 rfl rfl)
  apply kd .inl
  apply kd .inl
  apply kk (Field.packOn_lit ⟨#[0, 0, 0, 0, 0, 1]⟩ (by kernel_rfl) (Field.packOn_ok (L := [(32, 0), (16, 1)]) 2 rfl rfl (Field.partsCons (w := 32) (v := 0) (b := 4294967296) rfl rfl (by decide) (by decide) (Field.partsCons (w := 16) (v := 1) (b := 65536) rfl rfl (by decide) (by decide) Field.partsNil)) [32, 16] rfl 6 rfl 2 2 (.cells [.int .i64 32, .int .u64 0, .int .i64 16, .int .u64 1] 136 2) (Field.lendsCells [] rfl)))
  apply kf [.callL (.string ⟨#[0, 0, 0, 0, 0, 0, 0, 0, 0, 0, 0, 0, 0, 0, 0, 0]⟩) [], .inl, .callL (.tuple ⟨[.string ⟨#[0, 1, 132, 70]⟩, .int .i64 0]⟩) [(4, .cells [.int .i64 3, .int .u64 0, .int .i64 5, .int .u64 0, .int .i64 8, .int .u64 1, .int .i64 8, .int .u64 132, .int .i64 8, .int .u64 70] 136 2)], .lit, .lit, .heap] (o_ (show AOn Tryz.prog 119 [.string ⟨#[0]⟩, .int .i64 16] [] (.string ⟨#[0, 0, 0, 0, 0, 0, 0, 0, 0, 0, 0, 0, 0, 0, 0, 0]⟩) [] from strings_Repeat ⟨#[0]⟩ 16 rfl rfl) (o_ (Field.packOn_lit ⟨#[0, 1, 132, 70]⟩ (by kernel_rfl) (Field.packOn_ok (L := [(3, 0), (5, 0), (8, 1), (8, 132), (8, 70)]) 5 rfl rfl (Field.partsCons (w := 3) (v := 0) (b := 8) rfl rfl (by decide) (by decide) (Field.partsCons (w := 5) (v := 0) (b := 32) rfl rfl (by decide) (by decide) (Field.partsCons (w := 8) (v := 1) (b := 256) rfl rfl (by decide) (by decide) (Field.partsCons (w := 8) (v := 132) (b := 256) rfl rfl (by decide) (by decide) (Field.partsCons (w := 8) (v := 70) (b := 256) rfl rfl (by decide) (by decide) Field.partsNil))))) [3, 5, 8, 8, 8] rfl 4 rfl 4 5 (.cells [.int .i64 3, .int .u64 0, .int .i64 5, .int .u64 0, .int .i64 8, .int .u64 1, .int .i64 8, .int .u64 132, .int .i64 8, .int .u64 70] 136 2) (Field.lendsCells [] rfl))) (o_ (hsame [.cells [.bool true, .int .u8 4, .int .u32 0, .int .u16 1, .string ⟨#[120, 0, 0, 0, 0, 0, 0, 0, 0, 0, 0, 0, 0, 0, 0, 0, 0, 0, 0, 0, 0, 0, 0, 0, 0, 0, 0, 0, 0, 0, 0, 0, 0, 0, 0, 0, 0, 0, 0, 0, 0, 0, 0, 0, 0, 0, 0, 0]⟩] 178 5, .cells [.bool true, .int .u8 4, .int .u32 0, .int .u16 1, .string ⟨#[120, 0, 0, 0, 0, 0, 0, 0, 0, 0, 0, 0, 0, 0, 0, 0, 0, 0, 0, 0, 0, 0, 0, 0, 0, 0, 0, 0, 0, 0, 0, 0, 0, 0, 0, 0, 0, 0, 0, 0, 0, 0, 0, 0, 0, 0, 0, 0]⟩] 178 5, .cells [.int .i64 32, .int .u64 0, .int .i64 16, .int .u64 1] 136 2]) o0)))
  apply kk (awake04_eq)
  exact kl
  kernel_rfl
  rfl

def awake08 : Bool :=
  bif (!((timerPop (Bk.mk 0 0 16) 14).2.2)) && ((timerPop (Bk.mk 0 0 16) 15).2.2) then
    ((timerPop (Bk.mk 0 0 16) 15).1) == 2
  else
    false
def awake08_E (r : Bool) : Value := .bool r
theorem awake08_eq : AOn Tryz.prog 28 [] [] (awake08_E (awake08)) [] := by
  unfold awake08
  apply onT 400 awake08_E
  apply kd .inl
  apply kd .inl
  apply kk (timerPop_eq (Bk.mk 0 0 16) 14)
  apply kk (timerPop_eq (Bk.mk 0 0 16) 15)
  apply kand
  apply kj 320033
  intro hb0
  apply kj 350036
  intro hb1
  exact kl
  intro hb1
  exact kl
  intro hb0
  exact kl
  kernel_rfl
  rfl

theorem awake08_ok : AOn Tryz.prog 28 [] [] (.bool true) [] := by
  have h := awake08_eq
  rw [show awake08 = true by kernel_rfl] at h; exact h

def awake12 : Bool :=
  true
def awake12_E (r : Bool) : Value := .bool r
theorem awake12_eq : AOn Tryz.prog 62 [] [] (awake12_E (awake12)) [] := by
  unfold awake12
  apply onT 400 awake12_E
  apply kk (awake05_eq)
  apply kd .inl
  apply kd .inl
  apply kd .inl
  apply kd .inl
  apply kd .inl
  apply kd .inl
  apply kd .inl
  apply kd .inl
  apply kd .inl
  apply kd .inl
  apply kd .inl
  apply kd .inl
  exact kl
  kernel_rfl
  rfl

def awake13 : Bool :=
  true
def awake13_E (r : Bool) : Value := .bool r
theorem awake13_eq : AOn Tryz.prog 29 [] [] (awake13_E (awake13)) [] := by
  unfold awake13
  apply onT 400 awake13_E
  apply kn look_0_3_0_eq
  apply kk (awake12_eq)
  apply kd .inl
  apply kd .inl
  exact kl
  kernel_rfl
  rfl

def awake14_x0 : P2 × Bool := flushHear (P2.mk (Pair.mk false false 0) (Pair.mk false false 0)) 0 (Msg.mk 11 false false false 3)
def awake14_x1 : P2 × Bool := flushHear ((awake14_x0).1) 1 (Msg.mk 11 false false false 3)
def awake14 : Bool :=
  bif (awake14_x0).2 then
    !((awake14_x1).2)
  else
    false
def awake14_E (r : Bool) : Value := .bool r
theorem awake14_eq : AOn Tryz.prog 30 [] [] (awake14_E (awake14)) [] := by
  unfold awake14
  apply onT 400 awake14_E
  apply kk (flushHear_eq (P2.mk (Pair.mk false false 0) (Pair.mk false false 0)) 0 (Msg.mk 11 false false false 3))
  apply kk (flushHear_eq ((awake14_x0).1) 1 (Msg.mk 11 false false false 3))
  apply kk (awake05_eq)
  apply kj 230024
  intro hb0
  exact kl
  intro hb0
  exact kl
  kernel_rfl
  rfl

theorem awake14_ok : AOn Tryz.prog 30 [] [] (.bool true) [] := by
  have h := awake14_eq
  rw [show awake14 = true by kernel_rfl] at h; exact h

def awake15_x0 : Burst × Bool := burstTick (burstBegin (Burst.mk 2 5 0 false 0) 10) 10
def awake15_x1 : Burst × Bool := burstTick ((burstTick ((awake15_x0).1) 11).1) 12
def awake15 : Bool :=
  bif ((awake15_x0).2) && (!((burstTick ((awake15_x0).1) 11).2)) then
    (awake15_x1).2
  else
    false
def awake15_E (r : Bool) : Value := .bool r
theorem awake15_eq : AOn Tryz.prog 31 [] [] (awake15_E (awake15)) [] := by
  unfold awake15
  apply onT 400 awake15_E
  apply kd .inl
  apply kd .inl
  apply kd .inl
  apply kk (burstBegin_eq (Burst.mk 2 5 0 false 0) 10)
  apply kk (burstTick_eq (burstBegin (Burst.mk 2 5 0 false 0) 10) 10)
  apply kk (burstTick_eq ((awake15_x0).1) 11)
  apply kk (burstTick_eq ((burstTick ((awake15_x0).1) 11).1) 12)
  apply kand
  apply kj 330034
  intro hb0
  apply kj 370038
  intro hb1
  exact kl
  intro hb1
  exact kl
  intro hb0
  exact kl
  kernel_rfl
  rfl

theorem awake15_ok : AOn Tryz.prog 31 [] [] (.bool true) [] := by
  have h := awake15_eq
  rw [show awake15 = true by kernel_rfl] at h; exact h

def awake16_x0 : Int := planCheck (Plan.mk 4 0 7 10 20 2 0 5 20 10 1 6 100 16 16 true)
def awake16 : Bool :=
  (awake16_x0) == 0
def awake16_E (r : Bool) : Value := .bool r
theorem awake16_eq : AOn Tryz.prog 32 [] [] (awake16_E (awake16)) [] := by
  unfold awake16
  apply onT 400 awake16_E
  apply kd .inl
  apply kd .inl
  apply kd .inl
  have hq1 := (planCheck_eq (Plan.mk 4 0 7 10 20 2 0 5 20 10 1 6 100 16 16 true))
  apply kk hq1
  apply kbool
  apply kj 80009
  intro hb0
  apply kk (awake02_eq)
  apply kk (awake06_eq)
  apply kk hq1
  apply ku 190020 hb0
  exact kl
  intro hb0
  apply kk (awake02_eq)
  apply kk (awake06_eq)
  apply kk hq1
  apply ku 190020 hb0
  exact kl
  kernel_rfl
  rfl

theorem awake16_ok : AOn Tryz.prog 32 [] [] (.bool true) [] := by
  have h := awake16_eq
  rw [show awake16 = true by kernel_rfl] at h; exact h

def awake17_x0 : Nd × Int := erpsNew (Plan.mk 4 0 7 10 20 2 0 5 20 10 1 6 100 16 16 true) 2 0
def awake17_x1 : Nd × Bool := hear ((awake17_x0).1) 1 0 (Msg.mk 0 true false false 1)
def awake17 : Bool :=
  bif (((awake17_x0).2) == 0) && (((((awake17_x0).1).state) == 4) && (((((((awake17_x0).1).shut).w) == false) && ((((((awake17_x0).1).shut).e) == true) && true)) && ((((awake17_x1).1).state) == 0))) then
    (((((awake17_x1).1).shut).w) == false) && ((((((awake17_x1).1).shut).e) == false) && true)
  else
    false
def awake17_E (r : Bool) : Value := .bool r
theorem awake17_eq : AOn Tryz.prog 7 [] [] (awake17_E (awake17)) [] := by
  unfold awake17
  apply onT 400 awake17_E
  apply kd .inl
  apply kk (erpsNew_eq (Plan.mk 4 0 7 10 20 2 0 5 20 10 1 6 100 16 16 true) 2 0)
  apply kk (hear_eq ((awake17_x0).1) 1 0 (Msg.mk 0 true false false 1) (by have := (show (awake17_x0).1.role ≠ 0 → (awake17_x0).1.rpl = 0 ∨ (awake17_x0).1.rpl = 1 from erpsNew_role (Plan.mk 4 0 7 10 20 2 0 5 20 10 1 6 100 16 16 true) 2 0); first | omega | (simp only [zor, zand, zorf, zandf, znt, znf, zeq, zne, zeqf, znef, zd, zdf] at *; omega)))
  apply kk awake08_ok
  apply kk (awake13_eq)
  apply kk awake14_ok
  apply kk awake15_ok
  apply kk awake16_ok
  apply kand
  apply kj 330034
  intro hb0
  apply kand
  apply kj 380039
  intro hb1
  apply kand
  apply kj 440045
  intro hb2
  apply kj 490050
  intro hb3
  exact kl
  intro hb3
  exact kl
  intro hb2
  exact kl
  intro hb1
  exact kl
  intro hb0
  exact kl
  kernel_rfl
  rfl

theorem awake17_ok : AOn Tryz.prog 7 [] [] (.bool true) [] := by
  have h := awake17_eq
  rw [show awake17 = true by kernel_rfl] at h; exact h

end Go.Proofs.E17

namespace Go.Proofs.E17
open Go Go.AX Go.Proofs
set_option maxRecDepth 1000000
set_option linter.unusedVariables false
set_option linter.unusedSimpArgs false

def rcheck (p : Plan) : Int :=
  bif (decide (p.nodes < 3)) || ((decide (p.nodes > 16)) || ((decide (p.owner < 0)) || ((decide (p.owner > (IntKind.wrap .i64 (p.nodes - 1)))) || (decide (p.level > 7))))) then
    4
  else
    bif (p.data == 0) || ((decide (p.data > 4094)) || ((p.ring == 0) || ((decide (p.ring > 4094)) || (p.data == p.ring)))) then
      5
    else
      bif (decide (p.interval < 1)) || ((decide (p.interval > 1048576)) || ((decide (p.guard < 1)) || ((decide (p.guard > 1048576)) || ((decide (p.rest < 1)) || ((decide (p.rest > 1048576)) || ((decide (p.wait < 1)) || ((decide (p.wait > 1048576)) || ((decide (p.gap < 1)) || ((decide (p.gap > 1048576)) || ((decide (p.period < 1)) || ((decide (p.period > 1048576)) || ((decide (p.age < 1)) || ((decide (p.age > 1048576)) || ((decide ((IntKind.wrap .i64 (p.hold + 1)) < 1)) || ((decide ((IntKind.wrap .i64 (p.hold + 1)) > 1048577)) || ((decide (p.room < 1)) || ((decide (p.room > 1024)) || ((decide (p.queue < 1)) || (decide (p.queue > 256)))))))))))))))))))) then
        4
      else
        0
def rcheck_c (r : Int) : Dir := .callL (.int .i64 r) []
def rcheck_E (r : Int) : Value := .int .i64 r
theorem rcheck_eq (p : Plan) : AOn Tryz.prog 43 [.agg ⟨Plan.enc p⟩] [] (rcheck_E (rcheck p)) [] := by
  unfold rcheck
  apply onT 400 rcheck_E
  apply kor
  apply kj 90010
  intro hb0
  exact kl
  intro hb0
  apply kor
  apply kj 140015
  intro hb1
  exact kl
  intro hb1
  apply kor
  apply kj 190020
  intro hb2
  exact kl
  intro hb2
  apply kor
  apply kj 270028
  intro hb3
  exact kl
  intro hb3
  apply ki 31
  intro hb4
  exact kl
  intro hb4
  apply kor
  apply kj 350036
  intro hb5
  exact kl
  intro hb5
  apply kor
  apply kj 400041
  intro hb6
  exact kl
  intro hb6
  apply kor
  apply kj 450046
  intro hb7
  exact kl
  intro hb7
  apply kor
  apply kj 500051
  intro hb8
  exact kl
  intro hb8
  apply ki 56
  intro hb9
  exact kl
  intro hb9
  apply kor
  apply kj 900091
  intro hb10
  exact kl
  intro hb10
  apply kor
  apply ki 97
  intro hb11
  exact kl
  intro hb11
  apply kor
  apply kj 900091
  intro hb12
  exact kl
  intro hb12
  apply kor
  apply ki 97
  intro hb13
  exact kl
  intro hb13
  apply kor
  apply kj 900091
  intro hb14
  exact kl
  intro hb14
  apply kor
  apply ki 97
  intro hb15
  exact kl
  intro hb15
  apply kor
  apply kj 900091
  intro hb16
  exact kl
  intro hb16
  apply kor
  apply ki 97
  intro hb17
  exact kl
  intro hb17
  apply kor
  apply kj 900091
  intro hb18
  exact kl
  intro hb18
  apply kor
  apply ki 97
  intro hb19
  exact kl
  intro hb19
  apply kor
  apply kj 900091
  intro hb20
  exact kl
  intro hb20
  apply kor
  apply ki 97
  intro hb21
  exact kl
  intro hb21
  apply kor
  apply kj 900091
  intro hb22
  exact kl
  intro hb22
  apply kor
  apply ki 97
  intro hb23
  exact kl
  intro hb23
  apply kor
  apply kj 900091
  intro hb24
  exact kl
  intro hb24
  apply kor
  apply ki 97
  intro hb25
  exact kl
  intro hb25
  apply kor
  apply kj 1010102
  intro hb26
  exact kl
  intro hb26
  apply kor
  apply kj 1060107
  intro hb27
  exact kl
  intro hb27
  apply kor
  apply kj 1110112
  intro hb28
  exact kl
  intro hb28
  apply ki 115
  intro hb29
  exact kl
  intro hb29
  exact kl
  kernel_rfl
  rfl

def rnode (p : Plan) (i : Int) : Int :=
  bif ((rcheck p) == 0) && (decide (i ≥ 0)) then
    bif !(decide (i < p.nodes)) then
      0
    else
      IntKind.wrap .u64 (2199023255553 + (IntKind.wrap .u64 i))
  else
    0
def rnode_c (r : Int) : Dir := .callL (.int .u64 r) []
def rnode_E (r : Int) : Value := .int .u64 r
theorem rnode_eq (p : Plan) (i : Int) : AOn Tryz.prog 44 [.agg ⟨Plan.enc p⟩, .int .i64 i] [] (rnode_E (rnode p i)) [] := by
  unfold rnode
  apply onT 400 rnode_E
  apply kd .inl
  apply kk (rcheck_eq p)
  apply kand
  apply kj 80009
  intro hb0
  apply kj 120013
  intro hb1
  apply ki 8
  intro hb2
  exact kl
  intro hb2
  exact kl
  intro hb1
  exact kl
  intro hb0
  exact kl
  kernel_rfl
  rfl

def rfar1 (p : Plan) (i : Int) : Int × Int :=
  bif ((rcheck p) == 0) && (decide (i ≥ 0)) then
    bif !(decide (i < p.nodes)) then
      ((-1), (-1))
    else
      bif i == (IntKind.wrap .i64 (p.nodes - 1)) then
        (0, 0)
      else
        (IntKind.wrap .i64 (i + 1), 0)
  else
    ((-1), (-1))
def rfar1_c (r : Int × Int) : Dir := .callL (.tuple ⟨[.int .i64 r.1, .int .i64 r.2]⟩) []
def rfar1_E (r : Int × Int) : Value := .tuple ⟨[.int .i64 r.1, .int .i64 r.2]⟩
theorem rfar1_eq (p : Plan) (i : Int) : AOn Tryz.prog 80 [.agg ⟨Plan.enc p⟩, .int .i64 i, .int .i64 1] [] (rfar1_E (rfar1 p i)) [] := by
  unfold rfar1
  apply onT 400 rfar1_E
  apply kd .inl
  apply kk (rcheck_eq p)
  apply kand
  apply kj 80009
  intro hb0
  apply kj 120013
  intro hb1
  apply kj 120013
  intro hb2
  exact kl
  intro hb2
  apply ki 26
  intro hb3
  exact kl
  intro hb3
  exact kl
  intro hb1
  exact kl
  intro hb0
  exact kl
  kernel_rfl
  rfl

def rrole (p : Plan) (i : Int) : Int × Int :=
  bif ((rcheck p) == 0) && ((decide (i ≥ 0)) && (decide (i < p.nodes))) then
    bif i == p.owner then
      (1, 1)
    else
      bif i == ((rfar1 p p.owner).1) then
        (2, 0)
      else
        (0, (-1))
  else
    (0, (-1))
def rrole_c (r : Int × Int) : Dir := .callL (.tuple ⟨[.int .i64 r.1, .int .i64 r.2]⟩) []
def rrole_E (r : Int × Int) : Value := .tuple ⟨[.int .i64 r.1, .int .i64 r.2]⟩
theorem rrole_eq (p : Plan) (i : Int) : AOn Tryz.prog 45 [.agg ⟨Plan.enc p⟩, .int .i64 i] [] (rrole_E (rrole p i)) [] := by
  unfold rrole
  apply onT 400 rrole_E
  apply kd .inl
  apply kk (rcheck_eq p)
  apply kand
  apply kj 80009
  intro hb0
  apply kand
  apply kj 120013
  intro hb1
  apply kj 110012
  intro hb2
  apply ki 16
  intro hb3
  exact kl
  intro hb3
  apply kk (rfar1_eq p p.owner)
  apply kd .inl
  apply kk (rcheck_eq p)
  apply ku 80009 hb0
  apply ku 120013 hb1
  apply ku 270028 hb2
  apply ki 31
  intro hb4
  exact kl
  intro hb4
  exact kl
  intro hb2
  apply kk (rfar1_eq p p.owner)
  apply kd .inl
  apply kk (rcheck_eq p)
  apply ku 80009 hb0
  apply ku 120013 hb1
  apply ku 270028 hb2
  exact kl
  intro hb1
  apply kk (rfar1_eq p p.owner)
  apply kd .inl
  apply kk (rcheck_eq p)
  apply ku 80009 hb0
  apply ku 120013 hb1
  exact kl
  intro hb0
  apply kk (rfar1_eq p p.owner)
  apply kd .inl
  apply kk (rcheck_eq p)
  apply ku 80009 hb0
  exact kl
  kernel_rfl
  rfl

def rbegin (b : Burst) (now : Int) : Burst :=
  { b with next := now, on := true, said := 0 }
def rbegin_c (r : Burst) : Dir := .callL (.agg ⟨Burst.enc r⟩) []
def rbegin_E (r : Burst) : Value := .agg ⟨Burst.enc r⟩
theorem rbegin_eq (b : Burst) (now : Int) : AOn Tryz.prog 81 [.agg ⟨Burst.enc b⟩, .int .i64 now] [] (rbegin_E (rbegin b now)) [] := by
  unfold rbegin
  apply onT 400 rbegin_E
  exact kl
  kernel_rfl
  rfl

def rend (b : Burst) : Burst :=
  { b with next := 0, on := false, said := 0 }
def rend_c (r : Burst) : Dir := .callL (.agg ⟨Burst.enc r⟩) []
def rend_E (r : Burst) : Value := .agg ⟨Burst.enc r⟩
theorem rend_eq (b : Burst) : AOn Tryz.prog 134 [.agg ⟨Burst.enc b⟩] [] (rend_E (rend b)) [] := by
  unfold rend
  apply onT 400 rend_E
  exact kl
  kernel_rfl
  rfl

def rburst (b : Burst) (now : Int) : Burst × Bool :=
  bif (!b.on) || (decide (now < b.next)) then
    (b, false)
  else
    bif decide (b.said < 2) then
      ({ b with next := IntKind.wrap .i64 (now + b.gap), said := IntKind.wrap .i64 (b.said + 1) }, true)
    else
      bif decide (b.said < 3) then
        ({ b with next := IntKind.wrap .i64 (now + b.period), said := IntKind.wrap .i64 (b.said + 1) }, true)
      else
        ({ b with next := IntKind.wrap .i64 (now + b.period) }, true)
def rburst_c (r : Burst × Bool) : Dir := .callL (.tuple ⟨[.agg ⟨Burst.enc r.1⟩, .bool r.2]⟩) []
def rburst_E (r : Burst × Bool) : Value := .tuple ⟨[.agg ⟨Burst.enc r.1⟩, .bool r.2]⟩
theorem rburst_eq (b : Burst) (now : Int) : AOn Tryz.prog 87 [.agg ⟨Burst.enc b⟩, .int .i64 now] [] (rburst_E (rburst b now)) [] := by
  unfold rburst
  apply onT 400 rburst_E
  apply kor
  apply kj 90010
  intro hb0
  exact kl
  intro hb0
  apply ki 14
  intro hb1
  exact kl
  intro hb1
  apply ki 18
  intro hb2
  apply kr 31 (show (decide (b.said < 3)) = true from by first | omega | (simp only [zor, zand, zorf, zandf, znt, znf, zeq, zne, zeqf, znef, zd, zdf] at *; omega))
  exact kl
  intro hb2
  apply ki 31
  intro hb3
  exact kl
  intro hb3
  exact kl
  kernel_rfl
  rfl

def rpairs (p : P2) (port : Int) (m : Msg) : P2 × Bool :=
  bif (decide (port < 0)) || (decide (port > 1)) then
    (p, false)
  else
    bif (m.req == 0) && (!m.block) then
      bif port == 0 then
        ({ p with w := (Pair.mk false false 0) }, false)
      else
        ({ p with e := (Pair.mk false false 0) }, false)
    else
      bif port == 0 then
        bif p.w.some && ((p.w.east == m.east) && (p.w.node == m.node)) then
          (p, false)
        else
          bif m.keep || (p.e.some && ((p.e.east == m.east) && (p.e.node == m.node))) then
            ({ p with w := (Pair.mk true m.east m.node) }, false)
          else
            ({ p with w := (Pair.mk true m.east m.node) }, true)
      else
        bif p.e.some && ((p.e.east == m.east) && (p.e.node == m.node)) then
          (p, false)
        else
          bif m.keep || (p.w.some && ((p.w.east == m.east) && (p.w.node == m.node))) then
            ({ p with e := (Pair.mk true m.east m.node) }, false)
          else
            ({ p with e := (Pair.mk true m.east m.node) }, true)
def rpairs_c (r : P2 × Bool) : Dir := .callL (.tuple ⟨[.agg ⟨P2.enc r.1⟩, .bool r.2]⟩) []
def rpairs_E (r : P2 × Bool) : Value := .tuple ⟨[.agg ⟨P2.enc r.1⟩, .bool r.2]⟩
theorem rpairs_eq (p : P2) (port : Int) (m : Msg) : AOn Tryz.prog 88 [.agg ⟨P2.enc p⟩, .int .i64 port, .agg ⟨Msg.enc m⟩] [] (rpairs_E (rpairs p port m)) [] := by
  unfold rpairs
  apply onT 400 rpairs_E
  apply kor
  apply kj 100011
  intro hb0
  exact kl
  intro hb0
  apply ki 13
  intro hb1
  exact kl
  intro hb1
  apply kand
  apply kj 180019
  intro hb2
  apply ki 22
  intro hb3
  apply kc
  intro hb4
  apply kv 23 (ieq .i64 hb4)
  exact kl
  intro hb4
  apply kcs (port == 1)
  intro hb5
  apply kv 23 (ieq .i64 hb5)
  exact kl
  intro hb5
  exact kx (by first | omega | (simp only [zor, zand, zorf, zandf, znt, znf, zeq, zne, zeqf, znef, zd, zdf] at *; omega))
  intro hb3
  apply kc
  intro hb4
  apply kf [.is 27 (.int .i64 0)] (o_ (ieq .i64 hb4) o0)
  apply kd .inl
  apply kand
  apply kj 70008
  intro hb5
  apply kand
  apply kj 140015
  intro hb6
  apply ki 31
  intro hb7
  exact kl
  intro hb7
  apply kv 33 (ieq .i64 hb4)
  apply kor
  apply kc
  intro hb8
  apply kf (gds 5 42 true []) (oN 5 hb8 o0)
  apply ku 420048 hb8
  exact kl
  intro hb8
  apply kf (.gd 42 false :: .is 43 (.int .i64 0) :: gds 4 42 false []) (o_ hb8 (o_ (ieq .i64 hb4) (oN 4 hb8 o0)))
  apply ku 420048 hb8
  apply kd .inl
  apply kand
  apply kj 70008
  intro hb9
  apply kand
  apply kj 140015
  intro hb10
  apply ki 49
  intro hb11
  exact kl
  intro hb11
  exact kl
  intro hb10
  exact kl
  intro hb9
  exact kl
  intro hb6
  apply kv 33 (ieq .i64 hb4)
  apply kor
  apply kc
  intro hb7
  apply kf (gds 5 42 true []) (oN 5 hb7 o0)
  apply ku 420048 hb7
  exact kl
  intro hb7
  apply kf (.gd 42 false :: .is 43 (.int .i64 0) :: gds 4 42 false []) (o_ hb7 (o_ (ieq .i64 hb4) (oN 4 hb7 o0)))
  apply ku 420048 hb7
  apply kd .inl
  apply kand
  apply kj 70008
  intro hb8
  apply kand
  apply kj 140015
  intro hb9
  apply ki 49
  intro hb10
  exact kl
  intro hb10
  exact kl
  intro hb9
  exact kl
  intro hb8
  exact kl
  intro hb5
  apply kv 33 (ieq .i64 hb4)
  apply kor
  apply kc
  intro hb6
  apply kf (gds 5 42 true []) (oN 5 hb6 o0)
  apply ku 420048 hb6
  exact kl
  intro hb6
  apply kf (.gd 42 false :: .is 43 (.int .i64 0) :: gds 4 42 false []) (o_ hb6 (o_ (ieq .i64 hb4) (oN 4 hb6 o0)))
  apply ku 420048 hb6
  apply kd .inl
  apply kand
  apply kj 70008
  intro hb7
  apply kand
  apply kj 140015
  intro hb8
  apply ki 49
  intro hb9
  exact kl
  intro hb9
  exact kl
  intro hb8
  exact kl
  intro hb7
  exact kl
  intro hb4
  apply kcs (port == 1)
  intro hb5
  apply kf [.is 27 (.int .i64 1)] (o_ (ieq .i64 hb5) o0)
  apply kd .inl
  apply kand
  apply kj 70008
  intro hb6
  apply kand
  apply kj 140015
  intro hb7
  apply ki 31
  intro hb8
  exact kl
  intro hb8
  apply kv 33 (ieq .i64 hb5)
  apply kor
  apply kc
  intro hb9
  apply kf (gds 5 42 true []) (oN 5 hb9 o0)
  apply ku 420048 hb9
  exact kl
  intro hb9
  apply kf (.gd 42 false :: .is 43 (.int .i64 1) :: gds 4 42 false []) (o_ hb9 (o_ (ieq .i64 hb5) (oN 4 hb9 o0)))
  apply ku 420048 hb9
  apply kd .inl
  apply kand
  apply kj 70008
  intro hb10
  apply kand
  apply kj 140015
  intro hb11
  apply ki 49
  intro hb12
  exact kl
  intro hb12
  exact kl
  intro hb11
  exact kl
  intro hb10
  exact kl
  intro hb7
  apply kv 33 (ieq .i64 hb5)
  apply kor
  apply kc
  intro hb8
  apply kf (gds 5 42 true []) (oN 5 hb8 o0)
  apply ku 420048 hb8
  exact kl
  intro hb8
  apply kf (.gd 42 false :: .is 43 (.int .i64 1) :: gds 4 42 false []) (o_ hb8 (o_ (ieq .i64 hb5) (oN 4 hb8 o0)))
  apply ku 420048 hb8
  apply kd .inl
  apply kand
  apply kj 70008
  intro hb9
  apply kand
  apply kj 140015
  intro hb10
  apply ki 49
  intro hb11
  exact kl
  intro hb11
  exact kl
  intro hb10
  exact kl
  intro hb9
  exact kl
  intro hb6
  apply kv 33 (ieq .i64 hb5)
  apply kor
  apply kc
  intro hb7
  apply kf (gds 5 42 true []) (oN 5 hb7 o0)
  apply ku 420048 hb7
  exact kl
  intro hb7
  apply kf (.gd 42 false :: .is 43 (.int .i64 1) :: gds 4 42 false []) (o_ hb7 (o_ (ieq .i64 hb5) (oN 4 hb7 o0)))
  apply ku 420048 hb7
  apply kd .inl
  apply kand
  apply kj 70008
  intro hb8
  apply kand
  apply kj 140015
  intro hb9
  apply ki 49
  intro hb10
  exact kl
  intro hb10
  exact kl
  intro hb9
  exact kl
  intro hb8
  exact kl
  intro hb5
  exact kx (by first | omega | (simp only [zor, zand, zorf, zandf, znt, znf, zeq, zne, zeqf, znef, zd, zdf] at *; omega))
  intro hb2
  apply kc
  intro hb3
  apply kf [.is 27 (.int .i64 0)] (o_ (ieq .i64 hb3) o0)
  apply kd .inl
  apply kand
  apply kj 70008
  intro hb4
  apply kand
  apply kj 140015
  intro hb5
  apply ki 31
  intro hb6
  exact kl
  intro hb6
  apply kv 33 (ieq .i64 hb3)
  apply kor
  apply kc
  intro hb7
  apply kf (gds 5 42 true []) (oN 5 hb7 o0)
  apply ku 420048 hb7
  exact kl
  intro hb7
  apply kf (.gd 42 false :: .is 43 (.int .i64 0) :: gds 4 42 false []) (o_ hb7 (o_ (ieq .i64 hb3) (oN 4 hb7 o0)))
  apply ku 420048 hb7
  apply kd .inl
  apply kand
  apply kj 70008
  intro hb8
  apply kand
  apply kj 140015
  intro hb9
  apply ki 49
  intro hb10
  exact kl
  intro hb10
  exact kl
  intro hb9
  exact kl
  intro hb8
  exact kl
  intro hb5
  apply kv 33 (ieq .i64 hb3)
  apply kor
  apply kc
  intro hb6
  apply kf (gds 5 42 true []) (oN 5 hb6 o0)
  apply ku 420048 hb6
  exact kl
  intro hb6
  apply kf (.gd 42 false :: .is 43 (.int .i64 0) :: gds 4 42 false []) (o_ hb6 (o_ (ieq .i64 hb3) (oN 4 hb6 o0)))
  apply ku 420048 hb6
  apply kd .inl
  apply kand
  apply kj 70008
  intro hb7
  apply kand
  apply kj 140015
  intro hb8
  apply ki 49
  intro hb9
  exact kl
  intro hb9
  exact kl
  intro hb8
  exact kl
  intro hb7
  exact kl
  intro hb4
  apply kv 33 (ieq .i64 hb3)
  apply kor
  apply kc
  intro hb5
  apply kf (gds 5 42 true []) (oN 5 hb5 o0)
  apply ku 420048 hb5
  exact kl
  intro hb5
  apply kf (.gd 42 false :: .is 43 (.int .i64 0) :: gds 4 42 false []) (o_ hb5 (o_ (ieq .i64 hb3) (oN 4 hb5 o0)))
  apply ku 420048 hb5
  apply kd .inl
  apply kand
  apply kj 70008
  intro hb6
  apply kand
  apply kj 140015
  intro hb7
  apply ki 49
  intro hb8
  exact kl
  intro hb8
  exact kl
  intro hb7
  exact kl
  intro hb6
  exact kl
  intro hb3
  apply kcs (port == 1)
  intro hb4
  apply kf [.is 27 (.int .i64 1)] (o_ (ieq .i64 hb4) o0)
  apply kd .inl
  apply kand
  apply kj 70008
  intro hb5
  apply kand
  apply kj 140015
  intro hb6
  apply ki 31
  intro hb7
  exact kl
  intro hb7
  apply kv 33 (ieq .i64 hb4)
  apply kor
  apply kc
  intro hb8
  apply kf (gds 5 42 true []) (oN 5 hb8 o0)
  apply ku 420048 hb8
  exact kl
  intro hb8
  apply kf (.gd 42 false :: .is 43 (.int .i64 1) :: gds 4 42 false []) (o_ hb8 (o_ (ieq .i64 hb4) (oN 4 hb8 o0)))
  apply ku 420048 hb8
  apply kd .inl
  apply kand
  apply kj 70008
  intro hb9
  apply kand
  apply kj 140015
  intro hb10
  apply ki 49
  intro hb11
  exact kl
  intro hb11
  exact kl
  intro hb10
  exact kl
  intro hb9
  exact kl
  intro hb6
  apply kv 33 (ieq .i64 hb4)
  apply kor
  apply kc
  intro hb7
  apply kf (gds 5 42 true []) (oN 5 hb7 o0)
  apply ku 420048 hb7
  exact kl
  intro hb7
  apply kf (.gd 42 false :: .is 43 (.int .i64 1) :: gds 4 42 false []) (o_ hb7 (o_ (ieq .i64 hb4) (oN 4 hb7 o0)))
  apply ku 420048 hb7
  apply kd .inl
  apply kand
  apply kj 70008
  intro hb8
  apply kand
  apply kj 140015
  intro hb9
  apply ki 49
  intro hb10
  exact kl
  intro hb10
  exact kl
  intro hb9
  exact kl
  intro hb8
  exact kl
  intro hb5
  apply kv 33 (ieq .i64 hb4)
  apply kor
  apply kc
  intro hb6
  apply kf (gds 5 42 true []) (oN 5 hb6 o0)
  apply ku 420048 hb6
  exact kl
  intro hb6
  apply kf (.gd 42 false :: .is 43 (.int .i64 1) :: gds 4 42 false []) (o_ hb6 (o_ (ieq .i64 hb4) (oN 4 hb6 o0)))
  apply ku 420048 hb6
  apply kd .inl
  apply kand
  apply kj 70008
  intro hb7
  apply kand
  apply kj 140015
  intro hb8
  apply ki 49
  intro hb9
  exact kl
  intro hb9
  exact kl
  intro hb8
  exact kl
  intro hb7
  exact kl
  intro hb4
  exact kx (by first | omega | (simp only [zor, zand, zorf, zandf, znt, znf, zeq, zne, zeqf, znef, zd, zdf] at *; omega))
  kernel_rfl
  rfl

def rstart0 (b : RBk) (now : Int) (length : Int) : RBk × Int :=
  bif (decide (now < 0)) || ((decide (now > 1099511627776)) || ((decide (length < 0)) || (decide (length > 1048576)))) then
    (b, 4)
  else
    bif decide ((IntKind.wrap .i64 (now + length)) > 1099511627776) then
      ((RBk.mk { b.runs with g := true } { b.due with g := 1099511627776 }), 0)
    else
      ((RBk.mk { b.runs with g := true } { b.due with g := IntKind.wrap .i64 (now + length) }), 0)
def rstart0_c (r : RBk × Int) : Dir := .callL (.tuple ⟨[.agg ⟨RBk.enc r.1⟩, .int .i64 r.2]⟩) []
def rstart0_E (r : RBk × Int) : Value := .tuple ⟨[.agg ⟨RBk.enc r.1⟩, .int .i64 r.2]⟩
theorem rstart0_eq (b : RBk) (now : Int) (length : Int) : AOn Tryz.prog 47 [.agg ⟨RBk.enc b⟩, .int .i64 0, .int .i64 now, .int .i64 length] [] (rstart0_E (rstart0 b now length)) [] := by
  unfold rstart0
  apply onT 400 rstart0_E
  apply kor
  apply kj 190020
  intro hb0
  exact kl
  intro hb0
  apply kor
  apply kj 230024
  intro hb1
  exact kl
  intro hb1
  apply kor
  apply kj 270028
  intro hb2
  exact kl
  intro hb2
  apply ki 30
  intro hb3
  exact kl
  intro hb3
  apply ki 45
  intro hb4
  exact kl
  intro hb4
  exact kl
  kernel_rfl
  rfl

def rstop0 (b : RBk) : RBk :=
  (RBk.mk { b.runs with g := false } { b.due with g := 0 })
def rstop0_c (r : RBk) : Dir := .callL (.agg ⟨RBk.enc r⟩) []
def rstop0_E (r : RBk) : Value := .agg ⟨RBk.enc r⟩
theorem rstop0_eq (b : RBk) : AOn Tryz.prog 109 [.agg ⟨RBk.enc b⟩, .int .i64 0] [] (rstop0_E (rstop0 b)) [] := by
  unfold rstop0
  apply onT 400 rstop0_E
  exact kl
  kernel_rfl
  rfl

def rruns0 (b : RBk) : Bool :=
  b.runs.g
def rruns0_c (r : Bool) : Dir := .callL (.bool r) []
def rruns0_E (r : Bool) : Value := .bool r
theorem rruns0_eq (b : RBk) : AOn Tryz.prog 82 [.agg ⟨RBk.enc b⟩, .int .i64 0] [] (rruns0_E (rruns0 b)) [] := by
  unfold rruns0
  apply onT 400 rruns0_E
  exact kl
  kernel_rfl
  rfl

def rstart1 (b : RBk) (now : Int) (length : Int) : RBk × Int :=
  bif (decide (now < 0)) || ((decide (now > 1099511627776)) || ((decide (length < 0)) || (decide (length > 1048576)))) then
    (b, 4)
  else
    bif decide ((IntKind.wrap .i64 (now + length)) > 1099511627776) then
      ((RBk.mk { b.runs with r := true } { b.due with r := 1099511627776 }), 0)
    else
      ((RBk.mk { b.runs with r := true } { b.due with r := IntKind.wrap .i64 (now + length) }), 0)
def rstart1_c (r : RBk × Int) : Dir := .callL (.tuple ⟨[.agg ⟨RBk.enc r.1⟩, .int .i64 r.2]⟩) []
def rstart1_E (r : RBk × Int) : Value := .tuple ⟨[.agg ⟨RBk.enc r.1⟩, .int .i64 r.2]⟩
theorem rstart1_eq (b : RBk) (now : Int) (length : Int) : AOn Tryz.prog 47 [.agg ⟨RBk.enc b⟩, .int .i64 1, .int .i64 now, .int .i64 length] [] (rstart1_E (rstart1 b now length)) [] := by
  unfold rstart1
  apply onT 400 rstart1_E
  apply kor
  apply kj 190020
  intro hb0
  exact kl
  intro hb0
  apply kor
  apply kj 230024
  intro hb1
  exact kl
  intro hb1
  apply kor
  apply kj 270028
  intro hb2
  exact kl
  intro hb2
  apply ki 30
  intro hb3
  exact kl
  intro hb3
  apply ki 45
  intro hb4
  exact kl
  intro hb4
  exact kl
  kernel_rfl
  rfl

def rstop1 (b : RBk) : RBk :=
  (RBk.mk { b.runs with r := false } { b.due with r := 0 })
def rstop1_c (r : RBk) : Dir := .callL (.agg ⟨RBk.enc r⟩) []
def rstop1_E (r : RBk) : Value := .agg ⟨RBk.enc r⟩
theorem rstop1_eq (b : RBk) : AOn Tryz.prog 109 [.agg ⟨RBk.enc b⟩, .int .i64 1] [] (rstop1_E (rstop1 b)) [] := by
  unfold rstop1
  apply onT 400 rstop1_E
  exact kl
  kernel_rfl
  rfl

def rruns1 (b : RBk) : Bool :=
  b.runs.r
def rruns1_c (r : Bool) : Dir := .callL (.bool r) []
def rruns1_E (r : Bool) : Value := .bool r
theorem rruns1_eq (b : RBk) : AOn Tryz.prog 82 [.agg ⟨RBk.enc b⟩, .int .i64 1] [] (rruns1_E (rruns1 b)) [] := by
  unfold rruns1
  apply onT 400 rruns1_E
  exact kl
  kernel_rfl
  rfl

def rstart2 (b : RBk) (now : Int) (length : Int) : RBk × Int :=
  bif (decide (now < 0)) || ((decide (now > 1099511627776)) || ((decide (length < 0)) || (decide (length > 1048576)))) then
    (b, 4)
  else
    bif decide ((IntKind.wrap .i64 (now + length)) > 1099511627776) then
      ((RBk.mk { b.runs with w := true } { b.due with w := 1099511627776 }), 0)
    else
      ((RBk.mk { b.runs with w := true } { b.due with w := IntKind.wrap .i64 (now + length) }), 0)
def rstart2_c (r : RBk × Int) : Dir := .callL (.tuple ⟨[.agg ⟨RBk.enc r.1⟩, .int .i64 r.2]⟩) []
def rstart2_E (r : RBk × Int) : Value := .tuple ⟨[.agg ⟨RBk.enc r.1⟩, .int .i64 r.2]⟩
theorem rstart2_eq (b : RBk) (now : Int) (length : Int) : AOn Tryz.prog 47 [.agg ⟨RBk.enc b⟩, .int .i64 2, .int .i64 now, .int .i64 length] [] (rstart2_E (rstart2 b now length)) [] := by
  unfold rstart2
  apply onT 400 rstart2_E
  apply kor
  apply kj 190020
  intro hb0
  exact kl
  intro hb0
  apply kor
  apply kj 230024
  intro hb1
  exact kl
  intro hb1
  apply kor
  apply kj 270028
  intro hb2
  exact kl
  intro hb2
  apply ki 30
  intro hb3
  exact kl
  intro hb3
  apply ki 45
  intro hb4
  exact kl
  intro hb4
  exact kl
  kernel_rfl
  rfl

def rstop2 (b : RBk) : RBk :=
  (RBk.mk { b.runs with w := false } { b.due with w := 0 })
def rstop2_c (r : RBk) : Dir := .callL (.agg ⟨RBk.enc r⟩) []
def rstop2_E (r : RBk) : Value := .agg ⟨RBk.enc r⟩
theorem rstop2_eq (b : RBk) : AOn Tryz.prog 109 [.agg ⟨RBk.enc b⟩, .int .i64 2] [] (rstop2_E (rstop2 b)) [] := by
  unfold rstop2
  apply onT 400 rstop2_E
  exact kl
  kernel_rfl
  rfl

def rruns2 (b : RBk) : Bool :=
  b.runs.w
def rruns2_c (r : Bool) : Dir := .callL (.bool r) []
def rruns2_E (r : Bool) : Value := .bool r
theorem rruns2_eq (b : RBk) : AOn Tryz.prog 82 [.agg ⟨RBk.enc b⟩, .int .i64 2] [] (rruns2_E (rruns2 b)) [] := by
  unfold rruns2
  apply onT 400 rruns2_E
  exact kl
  kernel_rfl
  rfl

def rpop (b : RBk) (now : Int) : Int × RBk × Bool :=
  bif b.runs.w && (b.runs.w && (decide (b.due.w ≤ now))) then
    bif b.runs.r && ((b.runs.r && (decide (b.due.r ≤ now))) && (decide (b.due.r ≤ b.due.w))) then
      bif b.runs.g && ((b.runs.g && (decide (b.due.g ≤ now))) && (decide (b.due.g ≤ b.due.r))) then
        (0, (rstop0 b), true)
      else
        (1, (rstop1 b), true)
    else
      bif b.runs.g && ((b.runs.g && (decide (b.due.g ≤ now))) && (decide (b.due.g ≤ b.due.w))) then
        (0, (rstop0 b), true)
      else
        (2, (rstop2 b), true)
  else
    bif b.runs.r && (b.runs.r && (decide (b.due.r ≤ now))) then
      bif b.runs.g && ((b.runs.g && (decide (b.due.g ≤ now))) && (decide (b.due.g ≤ b.due.r))) then
        (0, (rstop0 b), true)
      else
        (1, (rstop1 b), true)
    else
      bif b.runs.g && (b.runs.g && (decide (b.due.g ≤ now))) then
        (0, (rstop0 b), true)
      else
        ((-1), b, false)
def rpop_c (r : Int × RBk × Bool) : Dir := .callL (.tuple ⟨[.int .i64 r.1, .agg ⟨RBk.enc r.2.1⟩, .bool r.2.2]⟩) []
def rpop_E (r : Int × RBk × Bool) : Value := .tuple ⟨[.int .i64 r.1, .agg ⟨RBk.enc r.2.1⟩, .bool r.2.2]⟩
theorem rpop_eq (b : RBk) (now : Int) : AOn Tryz.prog 85 [.agg ⟨RBk.enc b⟩, .int .i64 now] [] (rpop_E (rpop b now)) [] := by
  unfold rpop
  apply onT 400 rpop_E
  apply kf [] o0
  apply kf [] o0
  apply kf [] o0
  apply kf [] o0
  apply kf [] o0
  apply kand
  apply kc
  intro hb0
  apply kc
  intro hb1
  apply kf (gds 6 17 true (gds 3 25 true [])) (oN 6 hb0 (oN 3 hb1 o0))
  apply ku 250038 hb1
  apply kand
  apply kc
  intro hb2
  apply kand
  apply kc
  intro hb3
  apply kf (gds 6 17 true (gds 3 25 true [])) (oN 6 hb2 (oN 3 hb3 o0))
  apply ku 250038 hb3
  apply ki 39
  intro hb4
  apply kand
  apply kc
  intro hb5
  apply kand
  apply kc
  intro hb6
  apply kf (gds 6 17 true (gds 3 25 true [])) (oN 6 hb5 (oN 3 hb6 o0))
  apply ku 250038 hb6
  apply ki 39
  intro hb7
  apply kk (rstop0_eq b)
  exact kl
  intro hb7
  apply kk (rstop1_eq b)
  exact kl
  intro hb6
  apply kf (gds 6 17 true (gds 3 25 false [])) (oN 6 hb5 (oN 3 hb6 o0))
  apply ku 250038 hb6
  apply kk (rstop1_eq b)
  exact kl
  intro hb5
  apply kf (gds 6 17 false ([.hint 24 (.bool false)])) (oN 7 hb5 o0)
  apply kk (rstop1_eq b)
  exact kl
  intro hb4
  apply kand
  apply kc
  intro hb5
  apply kand
  apply kc
  intro hb6
  apply kf (gds 6 17 true (gds 3 25 true [])) (oN 6 hb5 (oN 3 hb6 o0))
  apply ku 250038 hb6
  apply ki 39
  intro hb7
  apply kk (rstop0_eq b)
  exact kl
  intro hb7
  apply kk (rstop2_eq b)
  exact kl
  intro hb6
  apply kf (gds 6 17 true (gds 3 25 false [])) (oN 6 hb5 (oN 3 hb6 o0))
  apply ku 250038 hb6
  apply kk (rstop2_eq b)
  exact kl
  intro hb5
  apply kf (gds 6 17 false ([.hint 24 (.bool false)])) (oN 7 hb5 o0)
  apply kk (rstop2_eq b)
  exact kl
  intro hb3
  apply kf (gds 6 17 true (gds 3 25 false [])) (oN 6 hb2 (oN 3 hb3 o0))
  apply ku 250038 hb3
  apply kand
  apply kc
  intro hb4
  apply kand
  apply kc
  intro hb5
  apply kf (gds 6 17 true (gds 3 25 true [])) (oN 6 hb4 (oN 3 hb5 o0))
  apply ku 250038 hb5
  apply ki 39
  intro hb6
  apply kk (rstop0_eq b)
  exact kl
  intro hb6
  apply kk (rstop2_eq b)
  exact kl
  intro hb5
  apply kf (gds 6 17 true (gds 3 25 false [])) (oN 6 hb4 (oN 3 hb5 o0))
  apply ku 250038 hb5
  apply kk (rstop2_eq b)
  exact kl
  intro hb4
  apply kf (gds 6 17 false ([.hint 24 (.bool false)])) (oN 7 hb4 o0)
  apply kk (rstop2_eq b)
  exact kl
  intro hb2
  apply kf (gds 6 17 false ([.hint 24 (.bool false)])) (oN 7 hb2 o0)
  apply kand
  apply kc
  intro hb3
  apply kand
  apply kc
  intro hb4
  apply kf (gds 6 17 true (gds 3 25 true [])) (oN 6 hb3 (oN 3 hb4 o0))
  apply ku 250038 hb4
  apply ki 39
  intro hb5
  apply kk (rstop0_eq b)
  exact kl
  intro hb5
  apply kk (rstop2_eq b)
  exact kl
  intro hb4
  apply kf (gds 6 17 true (gds 3 25 false [])) (oN 6 hb3 (oN 3 hb4 o0))
  apply ku 250038 hb4
  apply kk (rstop2_eq b)
  exact kl
  intro hb3
  apply kf (gds 6 17 false ([.hint 24 (.bool false)])) (oN 7 hb3 o0)
  apply kk (rstop2_eq b)
  exact kl
  intro hb1
  apply kf (gds 6 17 true (gds 3 25 false [])) (oN 6 hb0 (oN 3 hb1 o0))
  apply ku 250038 hb1
  apply kand
  apply kc
  intro hb2
  apply kc
  intro hb3
  apply kf (gds 6 17 true (gds 3 25 true [])) (oN 6 hb2 (oN 3 hb3 o0))
  apply ku 250038 hb3
  apply kand
  apply kc
  intro hb4
  apply kand
  apply kc
  intro hb5
  apply kf (gds 6 17 true (gds 3 25 true [])) (oN 6 hb4 (oN 3 hb5 o0))
  apply ku 250038 hb5
  apply ki 39
  intro hb6
  apply kk (rstop0_eq b)
  exact kl
  intro hb6
  apply kk (rstop1_eq b)
  exact kl
  intro hb5
  apply kf (gds 6 17 true (gds 3 25 false [])) (oN 6 hb4 (oN 3 hb5 o0))
  apply ku 250038 hb5
  apply kk (rstop1_eq b)
  exact kl
  intro hb4
  apply kf (gds 6 17 false ([.hint 24 (.bool false)])) (oN 7 hb4 o0)
  apply kk (rstop1_eq b)
  exact kl
  intro hb3
  apply kf (gds 6 17 true (gds 3 25 false [])) (oN 6 hb2 (oN 3 hb3 o0))
  apply ku 250038 hb3
  apply kand
  apply kc
  intro hb4
  apply kc
  intro hb5
  apply kf (gds 6 17 true (gds 3 25 true [])) (oN 6 hb4 (oN 3 hb5 o0))
  apply ku 250038 hb5
  apply kk (rstop0_eq b)
  exact kl
  intro hb5
  apply kf (gds 6 17 true (gds 3 25 false [])) (oN 6 hb4 (oN 3 hb5 o0))
  apply ku 250038 hb5
  exact kl
  intro hb4
  apply kf (gds 6 17 false ([.hint 24 (.bool false)])) (oN 7 hb4 o0)
  exact kl
  intro hb2
  apply kf (gds 6 17 false ([.hint 24 (.bool false)])) (oN 7 hb2 o0)
  apply kand
  apply kc
  intro hb3
  apply kc
  intro hb4
  apply kf (gds 6 17 true (gds 3 25 true [])) (oN 6 hb3 (oN 3 hb4 o0))
  apply ku 250038 hb4
  apply kk (rstop0_eq b)
  exact kl
  intro hb4
  apply kf (gds 6 17 true (gds 3 25 false [])) (oN 6 hb3 (oN 3 hb4 o0))
  apply ku 250038 hb4
  exact kl
  intro hb3
  apply kf (gds 6 17 false ([.hint 24 (.bool false)])) (oN 7 hb3 o0)
  exact kl
  intro hb0
  apply kf (gds 6 17 false ([.hint 24 (.bool false)])) (oN 7 hb0 o0)
  apply kand
  apply kc
  intro hb1
  apply kc
  intro hb2
  apply kf (gds 6 17 true (gds 3 25 true [])) (oN 6 hb1 (oN 3 hb2 o0))
  apply ku 250038 hb2
  apply kand
  apply kc
  intro hb3
  apply kand
  apply kc
  intro hb4
  apply kf (gds 6 17 true (gds 3 25 true [])) (oN 6 hb3 (oN 3 hb4 o0))
  apply ku 250038 hb4
  apply ki 39
  intro hb5
  apply kk (rstop0_eq b)
  exact kl
  intro hb5
  apply kk (rstop1_eq b)
  exact kl
  intro hb4
  apply kf (gds 6 17 true (gds 3 25 false [])) (oN 6 hb3 (oN 3 hb4 o0))
  apply ku 250038 hb4
  apply kk (rstop1_eq b)
  exact kl
  intro hb3
  apply kf (gds 6 17 false ([.hint 24 (.bool false)])) (oN 7 hb3 o0)
  apply kk (rstop1_eq b)
  exact kl
  intro hb2
  apply kf (gds 6 17 true (gds 3 25 false [])) (oN 6 hb1 (oN 3 hb2 o0))
  apply ku 250038 hb2
  apply kand
  apply kc
  intro hb3
  apply kc
  intro hb4
  apply kf (gds 6 17 true (gds 3 25 true [])) (oN 6 hb3 (oN 3 hb4 o0))
  apply ku 250038 hb4
  apply kk (rstop0_eq b)
  exact kl
  intro hb4
  apply kf (gds 6 17 true (gds 3 25 false [])) (oN 6 hb3 (oN 3 hb4 o0))
  apply ku 250038 hb4
  exact kl
  intro hb3
  apply kf (gds 6 17 false ([.hint 24 (.bool false)])) (oN 7 hb3 o0)
  exact kl
  intro hb1
  apply kf (gds 6 17 false ([.hint 24 (.bool false)])) (oN 7 hb1 o0)
  apply kand
  apply kc
  intro hb2
  apply kc
  intro hb3
  apply kf (gds 6 17 true (gds 3 25 true [])) (oN 6 hb2 (oN 3 hb3 o0))
  apply ku 250038 hb3
  apply kk (rstop0_eq b)
  exact kl
  intro hb3
  apply kf (gds 6 17 true (gds 3 25 false [])) (oN 6 hb2 (oN 3 hb3 o0))
  apply ku 250038 hb3
  exact kl
  intro hb2
  apply kf (gds 6 17 false ([.hint 24 (.bool false)])) (oN 7 hb2 o0)
  exact kl
  kernel_rfl
  rfl

def rabove (a : Int) (b : Int) : Bool :=
  bif decide (a ≥ 0) then
    bif !(decide (a ≤ 13)) then
      false
    else
      bif decide (b ≥ 0) then
        bif !(decide (b ≤ 13)) then
          true
        else
          decide (a < b)
      else
        true
  else
    false
def rabove_c (r : Bool) : Dir := .callL (.bool r) []
def rabove_E (r : Bool) : Value := .bool r
theorem rabove_eq (a : Int) (b : Int) : AOn Tryz.prog 110 [.int .i64 a, .int .i64 b] [] (rabove_E (rabove a b)) [] := by
  unfold rabove
  apply onT 400 rabove_E
  apply kd .inl
  apply kj 50006
  intro hb0
  apply ki 7
  intro hb1
  exact kl
  intro hb1
  apply kd .inl
  apply kj 50006
  intro hb2
  apply kj 110012
  intro hb3
  exact kl
  intro hb3
  exact kl
  intro hb2
  exact kl
  intro hb0
  exact kl
  kernel_rfl
  rfl

def rof (m : Msg) : Int :=
  bif m.req == 13 then
    2
  else
    bif m.req == 11 then
      5
    else
      bif m.req == 7 then
        6
      else
        bif m.req == 0 then
          bif m.block then
            12
          else
            13
        else
          14
def rof_c (r : Int) : Dir := .callL (.int .i64 r) []
def rof_E (r : Int) : Value := .int .i64 r
theorem rof_eq (m : Msg) : AOn Tryz.prog 89 [.agg ⟨Msg.enc m⟩] [] (rof_E (rof m)) [] := by
  unfold rof
  apply onT 400 rof_E
  apply ki 5
  intro hb0
  exact kl
  intro hb0
  apply ki 8
  intro hb1
  exact kl
  intro hb1
  apply ki 11
  intro hb2
  exact kl
  intro hb2
  apply kj 150016
  intro hb3
  apply ki 18
  intro hb4
  exact kl
  intro hb4
  apply kv 20 (ieq .u8 hb3)
  exact kl
  intro hb3
  apply kr 21 hb3
  exact kl
  kernel_rfl
  rfl
def rof_D (r : Int) : Prop := r = 2 ∨ r = 5 ∨ r = 6 ∨ r = 12 ∨ r = 13 ∨ r = 14
theorem rof_dom (m : Msg) : rof_D (rof m) := by
  unfold rof
  refine byIte (fun _ => ?_) (fun _ => ?_)
  unfold rof_D; decide
  refine byIte (fun _ => ?_) (fun _ => ?_)
  unfold rof_D; decide
  refine byIte (fun _ => ?_) (fun _ => ?_)
  unfold rof_D; decide
  refine byIte (fun _ => ?_) (fun _ => ?_)
  refine byIte (fun _ => ?_) (fun _ => ?_)
  unfold rof_D; decide
  unfold rof_D; decide
  unfold rof_D; decide

def rstands (n : RNd) : Int :=
  bif n.own == 1 then
    1
  else
    bif n.own == 7 then
      bif n.bad.w || n.bad.e then
        3
      else
        7
    else
      bif n.bad.w || n.bad.e then
        3
      else
        bif (rruns1 n.bank) then
          9
        else
          bif (rruns2 n.bank) then
            11
          else
            14
def rstands_c (r : Int) : Dir := .callL (.int .i64 r) []
def rstands_E (r : Int) : Value := .int .i64 r
theorem rstands_eq (n : RNd) (ho : n.own = 1 ∨ n.own = 7 ∨ n.own = 14) : AOn Tryz.prog 111 [.agg ⟨RNd.enc n⟩] [] (rstands_E (rstands n)) [] := by
  unfold rstands
  apply onT 400 rstands_E
  apply kc
  intro hb0
  apply kv 5 (ieq .i64 hb0)
  apply kjs 100011 (n.bad.w)
  intro hb1
  apply kk (rruns1_eq n.bank)
  apply kis 20 ((rruns1 n.bank))
  intro hb2
  apply kk (rruns2_eq n.bank)
  apply kis 26 ((rruns2 n.bank))
  intro hb3
  apply kd .inl
  exact kl
  intro hb3
  apply kd .inl
  exact kl
  intro hb2
  apply kk (rruns2_eq n.bank)
  apply kis 26 ((rruns2 n.bank))
  intro hb3
  apply kd .inl
  exact kl
  intro hb3
  apply kd .inl
  exact kl
  intro hb1
  apply kis 14 (n.bad.e)
  intro hb2
  apply kk (rruns1_eq n.bank)
  apply kis 20 ((rruns1 n.bank))
  intro hb3
  apply kk (rruns2_eq n.bank)
  apply kis 26 ((rruns2 n.bank))
  intro hb4
  apply kd .inl
  exact kl
  intro hb4
  apply kd .inl
  exact kl
  intro hb3
  apply kk (rruns2_eq n.bank)
  apply kis 26 ((rruns2 n.bank))
  intro hb4
  apply kd .inl
  exact kl
  intro hb4
  apply kd .inl
  exact kl
  intro hb2
  apply kk (rruns1_eq n.bank)
  apply kis 20 ((rruns1 n.bank))
  intro hb3
  apply kk (rruns2_eq n.bank)
  apply kis 26 ((rruns2 n.bank))
  intro hb4
  apply kd .inl
  exact kl
  intro hb4
  apply kd .inl
  exact kl
  intro hb3
  apply kk (rruns2_eq n.bank)
  apply kis 26 ((rruns2 n.bank))
  intro hb4
  apply kd .inl
  exact kl
  intro hb4
  apply kd .inl
  exact kl
  intro hb0
  apply kc
  intro hb1
  apply kv 5 (ieq .i64 hb1)
  apply kor
  apply kj 100011
  intro hb2
  apply kk (rruns1_eq n.bank)
  apply kis 20 ((rruns1 n.bank))
  intro hb3
  apply kk (rruns2_eq n.bank)
  apply kis 26 ((rruns2 n.bank))
  intro hb4
  apply kd .inl
  exact kl
  intro hb4
  apply kd .inl
  exact kl
  intro hb3
  apply kk (rruns2_eq n.bank)
  apply kis 26 ((rruns2 n.bank))
  intro hb4
  apply kd .inl
  exact kl
  intro hb4
  apply kd .inl
  exact kl
  intro hb2
  apply ki 14
  intro hb3
  apply kk (rruns1_eq n.bank)
  apply kis 20 ((rruns1 n.bank))
  intro hb4
  apply kk (rruns2_eq n.bank)
  apply kis 26 ((rruns2 n.bank))
  intro hb5
  apply kd .inl
  exact kl
  intro hb5
  apply kd .inl
  exact kl
  intro hb4
  apply kk (rruns2_eq n.bank)
  apply kis 26 ((rruns2 n.bank))
  intro hb5
  apply kd .inl
  exact kl
  intro hb5
  apply kd .inl
  exact kl
  intro hb3
  apply kk (rruns1_eq n.bank)
  apply kis 20 ((rruns1 n.bank))
  intro hb4
  apply kk (rruns2_eq n.bank)
  apply kis 26 ((rruns2 n.bank))
  intro hb5
  apply kd .inl
  exact kl
  intro hb5
  apply kd .inl
  exact kl
  intro hb4
  apply kk (rruns2_eq n.bank)
  apply kis 26 ((rruns2 n.bank))
  intro hb5
  apply kd .inl
  exact kl
  intro hb5
  apply kd .inl
  exact kl
  intro hb1
  apply kv 5 (ieq .i64 (show (n.own == 14) = true by rw [zeq]; first | omega | (simp only [zor, zand, zorf, zandf, znt, znf, zeq, zne, zeqf, znef, zd, zdf] at *; omega)))
  apply kor
  apply kj 100011
  intro hb2
  apply kk (rruns1_eq n.bank)
  apply kis 20 ((rruns1 n.bank))
  intro hb3
  apply kk (rruns2_eq n.bank)
  apply kis 26 ((rruns2 n.bank))
  intro hb4
  apply kd .inl
  exact kl
  intro hb4
  apply kd .inl
  exact kl
  intro hb3
  apply kk (rruns2_eq n.bank)
  apply kis 26 ((rruns2 n.bank))
  intro hb4
  apply kd .inl
  exact kl
  intro hb4
  apply kd .inl
  exact kl
  intro hb2
  apply ki 14
  intro hb3
  apply kk (rruns1_eq n.bank)
  apply kis 20 ((rruns1 n.bank))
  intro hb4
  apply kk (rruns2_eq n.bank)
  apply kis 26 ((rruns2 n.bank))
  intro hb5
  apply kd .inl
  exact kl
  intro hb5
  apply kd .inl
  exact kl
  intro hb4
  apply kk (rruns2_eq n.bank)
  apply kis 26 ((rruns2 n.bank))
  intro hb5
  apply kd .inl
  exact kl
  intro hb5
  apply kd .inl
  exact kl
  intro hb3
  apply kk (rruns1_eq n.bank)
  apply ki 20
  intro hb4
  apply kk (rruns2_eq n.bank)
  apply kis 26 ((rruns2 n.bank))
  intro hb5
  apply kd .inl
  exact kl
  intro hb5
  apply kd .inl
  exact kl
  intro hb4
  apply kk (rruns2_eq n.bank)
  apply ki 26
  intro hb5
  apply kd .inl
  exact kl
  intro hb5
  apply kd .inl
  exact kl
  kernel_rfl
  rfl

def rsay (n : RNd) (now : Int) (m : Msg) : RNd :=
  { n with say := { m with node := n.me }, burst := rbegin n.burst now }
def rsay_c (r : RNd) : Dir := .callL (.agg ⟨RNd.enc r⟩) []
def rsay_E (r : RNd) : Value := .agg ⟨RNd.enc r⟩
theorem rsay_eq (n : RNd) (now : Int) (m : Msg) : AOn Tryz.prog 46 [.agg ⟨RNd.enc n⟩, .int .i64 now, .agg ⟨Msg.enc m⟩] [] (rsay_E (rsay n now m)) [] := by
  unfold rsay
  apply onT 400 rsay_E
  apply kk (rbegin_eq n.burst now)
  exact kl
  kernel_rfl
  rfl

theorem rsay_keep (n : RNd) (now : Int) (m : Msg) : (rsay n now m).rpl = n.rpl ∧ (rsay n now m).role = n.role := by
  let G : RNd → Prop := fun r => r.rpl = n.rpl ∧ r.role = n.role
  show G (rsay n now m)
  unfold rsay
  repeat' (first | (refine byIte (fun _ => ?_) (fun _ => ?_)) | exact ⟨rfl, rfl⟩)

def rsilent (n : RNd) : RNd :=
  { n with say := (Msg.mk 0 false false false 0), burst := rend n.burst }
def rsilent_c (r : RNd) : Dir := .callL (.agg ⟨RNd.enc r⟩) []
def rsilent_E (r : RNd) : Value := .agg ⟨RNd.enc r⟩
theorem rsilent_eq (n : RNd) : AOn Tryz.prog 125 [.agg ⟨RNd.enc n⟩] [] (rsilent_E (rsilent n)) [] := by
  unfold rsilent
  apply onT 400 rsilent_E
  apply kk (rend_eq n.burst)
  exact kl
  kernel_rfl
  rfl

theorem rsilent_keep (n : RNd) : (rsilent n).rpl = n.rpl ∧ (rsilent n).role = n.role := by
  let G : RNd → Prop := fun r => r.rpl = n.rpl ∧ r.role = n.role
  show G (rsilent n)
  unfold rsilent
  repeat' (first | (refine byIte (fun _ => ?_) (fun _ => ?_)) | exact ⟨rfl, rfl⟩)

def rsound (n : RNd) : RNd :=
  bif !n.bad.w then
    bif !n.bad.e then
      { n with shut := (B2.mk false false) }
    else
      { n with shut := { n.shut with w := false } }
  else
    bif !n.bad.e then
      { n with shut := { n.shut with e := false } }
    else
      n
def rsound_c (r : RNd) : Dir := .callL (.agg ⟨RNd.enc r⟩) []
def rsound_E (r : RNd) : Value := .agg ⟨RNd.enc r⟩
theorem rsound_eq (n : RNd) : AOn Tryz.prog 124 [.agg ⟨RNd.enc n⟩] [] (rsound_E (rsound n)) [] := by
  unfold rsound
  apply onT 400 rsound_E
  apply ki 12
  intro hb0
  apply ki 12
  intro hb1
  exact kl
  intro hb1
  exact kl
  intro hb0
  apply ki 12
  intro hb1
  exact kl
  intro hb1
  exact kl
  kernel_rfl
  rfl

theorem rsound_keep (n : RNd) : (rsound n).rpl = n.rpl ∧ (rsound n).role = n.role := by
  let G : RNd → Prop := fun r => r.rpl = n.rpl ∧ r.role = n.role
  show G (rsound n)
  unfold rsound
  repeat' (first | (refine byIte (fun _ => ?_) (fun _ => ?_)) | exact ⟨rfl, rfl⟩)

def rtake_x0 (n : RNd) (now : Int) (port : Int) (m : Msg) (bad : Bool) : RNd := rsay ({ n with shut := { n.bad with w := true } }) now { m with keep := n.shut.w, east := false }
def rtake_x1 (n : RNd) (now : Int) (port : Int) (m : Msg) (bad : Bool) : RNd := rsay { n with shut := (B2.mk true false) } now { m with keep := n.shut.w, east := false }
def rtake_x2 (n : RNd) (now : Int) (port : Int) (m : Msg) (bad : Bool) : RNd := rsay ({ n with shut := { n.bad with e := true } }) now { m with keep := n.shut.e, east := true }
def rtake_x3 (n : RNd) (now : Int) (port : Int) (m : Msg) (bad : Bool) : RNd := rsay { n with shut := (B2.mk false true) } now { m with keep := n.shut.e, east := true }
def rtake (n : RNd) (now : Int) (port : Int) (m : Msg) (bad : Bool) : RNd × Bool :=
  bif port == 0 then
    bif bad then
      ((rtake_x0 n now port m bad), !n.shut.w)
    else
      ((rtake_x1 n now port m bad), !n.shut.w)
  else
    bif bad then
      ((rtake_x2 n now port m bad), !n.shut.e)
    else
      ((rtake_x3 n now port m bad), !n.shut.e)
def rtake_c (r : RNd × Bool) : Dir := .callL (.tuple ⟨[.agg ⟨RNd.enc r.1⟩, .bool r.2]⟩) []
def rtake_E (r : RNd × Bool) : Value := .tuple ⟨[.agg ⟨RNd.enc r.1⟩, .bool r.2]⟩
theorem rtake_eq (n : RNd) (now : Int) (port : Int) (m : Msg) (bad : Bool) (hp : port = 0 ∨ port = 1) : AOn Tryz.prog 123 [.agg ⟨RNd.enc n⟩, .int .i64 now, .int .i64 port, .agg ⟨Msg.enc m⟩, .bool bad] [] (rtake_E (rtake n now port m bad)) [] := by
  unfold rtake
  apply onT 400 rtake_E
  apply kc
  intro hb0
  apply kv 13 (ieq .i64 hb0)
  apply kv 17 (ieq .i64 hb0)
  apply kv 20 (ieq .i64 hb0)
  apply ki 24
  intro hb1
  apply kv 25 (ieq .i64 hb0)
  apply kv 27 (ieq .i64 hb0)
  apply kv 36 (ieq .i64 hb0)
  apply kk (rsay_eq ({ n with shut := { n.bad with w := true } }) now { m with keep := n.shut.w, east := false })
  exact kl
  intro hb1
  apply kv 36 (ieq .i64 hb0)
  apply kk (rsay_eq { n with shut := (B2.mk true false) } now { m with keep := n.shut.w, east := false })
  exact kl
  intro hb0
  apply kcs (port == 1)
  intro hb1
  apply kv 13 (ieq .i64 hb1)
  apply kv 17 (ieq .i64 hb1)
  apply kv 20 (ieq .i64 hb1)
  apply ki 24
  intro hb2
  apply kv 25 (ieq .i64 hb1)
  apply kv 27 (ieq .i64 hb1)
  apply kv 36 (ieq .i64 hb1)
  apply kk (rsay_eq ({ n with shut := { n.bad with e := true } }) now { m with keep := n.shut.e, east := true })
  exact kl
  intro hb2
  apply kv 36 (ieq .i64 hb1)
  apply kk (rsay_eq { n with shut := (B2.mk false true) } now { m with keep := n.shut.e, east := true })
  exact kl
  intro hb1
  exact kx (by first | omega | (simp only [zor, zand, zorf, zandf, znt, znf, zeq, zne, zeqf, znef, zd, zdf] at *; omega))
  kernel_rfl
  rfl

end Go.Proofs.E17

namespace Go.Proofs.E17
open Go Go.AX Go.Proofs
set_option maxRecDepth 1000000
set_option linter.unusedVariables false
set_option linter.unusedSimpArgs false

def ract0_x0 (n : RNd) (now : Int) (port : Int) (fro : Int) : RNd × Bool := rtake n now port (Msg.mk 13 false false false 0) false
def ract0 (n : RNd) (now : Int) (port : Int) (fro : Int) : RNd × Bool :=
  (((ract0_x0 n now port fro).1), (ract0_x0 n now port fro).2)
def ract0_c (r : RNd × Bool) : Dir := .callL (.tuple ⟨[.agg ⟨RNd.enc r.1⟩, .bool r.2]⟩) []
def ract0_E (r : RNd × Bool) : Value := .tuple ⟨[.agg ⟨RNd.enc r.1⟩, .bool r.2]⟩
theorem ract0_eq (n : RNd) (now : Int) (port : Int) (fro : Int) (hp : port = 0 ∨ port = 1) : AOn Tryz.prog 113 [.agg ⟨RNd.enc n⟩, .int .i64 0, .int .i64 now, .int .i64 port, .int .u64 fro] [] (ract0_E (ract0 n now port fro)) [] := by
  unfold ract0
  apply onT 400 ract0_E
  apply kjs 160017 (n.role == 1)
  intro hb0
  apply kk (rtake_eq n now port (Msg.mk 13 false false false 0) false (by first | omega | (simp only [zor, zand, zorf, zandf, znt, znf, zeq, zne, zeqf, znef, zd, zdf] at *; omega)))
  exact kl
  intro hb0
  apply kk (rtake_eq n now port (Msg.mk 13 false false false 0) false (by first | omega | (simp only [zor, zand, zorf, zandf, znt, znf, zeq, zne, zeqf, znef, zd, zdf] at *; omega)))
  exact kl
  kernel_rfl
  rfl

def ract1_x0 (n : RNd) (now : Int) (port : Int) (fro : Int) : RNd × Bool := rtake n now port (Msg.mk 11 false false false 0) true
def ract1 (n : RNd) (now : Int) (port : Int) (fro : Int) : RNd × Bool :=
  (((ract1_x0 n now port fro).1), (ract1_x0 n now port fro).2)
def ract1_c (r : RNd × Bool) : Dir := .callL (.tuple ⟨[.agg ⟨RNd.enc r.1⟩, .bool r.2]⟩) []
def ract1_E (r : RNd × Bool) : Value := .tuple ⟨[.agg ⟨RNd.enc r.1⟩, .bool r.2]⟩
theorem ract1_eq (n : RNd) (now : Int) (port : Int) (fro : Int) (hp : port = 0 ∨ port = 1) : AOn Tryz.prog 113 [.agg ⟨RNd.enc n⟩, .int .i64 1, .int .i64 now, .int .i64 port, .int .u64 fro] [] (ract1_E (ract1 n now port fro)) [] := by
  unfold ract1
  apply onT 400 ract1_E
  apply kjs 160017 (n.role == 1)
  intro hb0
  apply kk (rtake_eq n now port (Msg.mk 11 false false false 0) true (by first | omega | (simp only [zor, zand, zorf, zandf, znt, znf, zeq, zne, zeqf, znef, zd, zdf] at *; omega)))
  exact kl
  intro hb0
  apply kk (rtake_eq n now port (Msg.mk 11 false false false 0) true (by first | omega | (simp only [zor, zand, zorf, zandf, znt, znf, zeq, zne, zeqf, znef, zd, zdf] at *; omega)))
  exact kl
  kernel_rfl
  rfl

def ract2_x0 (n : RNd) (now : Int) (port : Int) (fro : Int) : RNd × Bool := rtake n now port (Msg.mk 7 false false false 0) false
def ract2 (n : RNd) (now : Int) (port : Int) (fro : Int) : RNd × Bool :=
  (((ract2_x0 n now port fro).1), (ract2_x0 n now port fro).2)
def ract2_c (r : RNd × Bool) : Dir := .callL (.tuple ⟨[.agg ⟨RNd.enc r.1⟩, .bool r.2]⟩) []
def ract2_E (r : RNd × Bool) : Value := .tuple ⟨[.agg ⟨RNd.enc r.1⟩, .bool r.2]⟩
theorem ract2_eq (n : RNd) (now : Int) (port : Int) (fro : Int) (hp : port = 0 ∨ port = 1) : AOn Tryz.prog 113 [.agg ⟨RNd.enc n⟩, .int .i64 2, .int .i64 now, .int .i64 port, .int .u64 fro] [] (ract2_E (ract2 n now port fro)) [] := by
  unfold ract2
  apply onT 400 ract2_E
  apply kjs 160017 (n.role == 1)
  intro hb0
  apply kk (rtake_eq n now port (Msg.mk 7 false false false 0) false (by first | omega | (simp only [zor, zand, zorf, zandf, znt, znf, zeq, zne, zeqf, znef, zd, zdf] at *; omega)))
  exact kl
  intro hb0
  apply kk (rtake_eq n now port (Msg.mk 7 false false false 0) false (by first | omega | (simp only [zor, zand, zorf, zandf, znt, znf, zeq, zne, zeqf, znef, zd, zdf] at *; omega)))
  exact kl
  kernel_rfl
  rfl

def ract3 (n : RNd) (now : Int) (port : Int) (fro : Int) : RNd × Bool :=
  ((rsound n), false)
def ract3_c (r : RNd × Bool) : Dir := .callL (.tuple ⟨[.agg ⟨RNd.enc r.1⟩, .bool r.2]⟩) []
def ract3_E (r : RNd × Bool) : Value := .tuple ⟨[.agg ⟨RNd.enc r.1⟩, .bool r.2]⟩
theorem ract3_eq (n : RNd) (now : Int) (port : Int) (fro : Int) : AOn Tryz.prog 113 [.agg ⟨RNd.enc n⟩, .int .i64 3, .int .i64 now, .int .i64 port, .int .u64 fro] [] (ract3_E (ract3 n now port fro)) [] := by
  unfold ract3
  apply onT 400 ract3_E
  apply kjs 160017 (n.role == 1)
  intro hb0
  apply kk (rsound_eq n)
  exact kl
  intro hb0
  apply kk (rsound_eq n)
  exact kl
  kernel_rfl
  rfl

def ract4 (n : RNd) (now : Int) (port : Int) (fro : Int) : RNd × Bool :=
  ((rsilent n), false)
def ract4_c (r : RNd × Bool) : Dir := .callL (.tuple ⟨[.agg ⟨RNd.enc r.1⟩, .bool r.2]⟩) []
def ract4_E (r : RNd × Bool) : Value := .tuple ⟨[.agg ⟨RNd.enc r.1⟩, .bool r.2]⟩
theorem ract4_eq (n : RNd) (now : Int) (port : Int) (fro : Int) : AOn Tryz.prog 113 [.agg ⟨RNd.enc n⟩, .int .i64 4, .int .i64 now, .int .i64 port, .int .u64 fro] [] (ract4_E (ract4 n now port fro)) [] := by
  unfold ract4
  apply onT 400 ract4_E
  apply kjs 160017 (n.role == 1)
  intro hb0
  apply kk (rsilent_eq n)
  exact kl
  intro hb0
  apply kk (rsilent_eq n)
  exact kl
  kernel_rfl
  rfl

def ract5 (n : RNd) (now : Int) (port : Int) (fro : Int) : RNd × Bool :=
  ({ n with bank := (rstart0 n.bank now n.guard).1 }, false)
def ract5_c (r : RNd × Bool) : Dir := .callL (.tuple ⟨[.agg ⟨RNd.enc r.1⟩, .bool r.2]⟩) []
def ract5_E (r : RNd × Bool) : Value := .tuple ⟨[.agg ⟨RNd.enc r.1⟩, .bool r.2]⟩
theorem ract5_eq (n : RNd) (now : Int) (port : Int) (fro : Int) : AOn Tryz.prog 113 [.agg ⟨RNd.enc n⟩, .int .i64 5, .int .i64 now, .int .i64 port, .int .u64 fro] [] (ract5_E (ract5 n now port fro)) [] := by
  unfold ract5
  apply onT 400 ract5_E
  apply kjs 160017 (n.role == 1)
  intro hb0
  apply kk (rstart0_eq n.bank now n.guard)
  exact kl
  intro hb0
  apply kk (rstart0_eq n.bank now n.guard)
  exact kl
  kernel_rfl
  rfl

def ract6_x0 (n : RNd) (now : Int) (port : Int) (fro : Int) : RNd := rsay n now (Msg.mk 0 false false (!n.shut.w) 0)
def ract6 (n : RNd) (now : Int) (port : Int) (fro : Int) : RNd × Bool :=
  bif n.shut.e then
    ((ract6_x0 n now port fro), false)
  else
    ((rsay n now (Msg.mk 0 false false false 0)), false)
def ract6_c (r : RNd × Bool) : Dir := .callL (.tuple ⟨[.agg ⟨RNd.enc r.1⟩, .bool r.2]⟩) []
def ract6_E (r : RNd × Bool) : Value := .tuple ⟨[.agg ⟨RNd.enc r.1⟩, .bool r.2]⟩
theorem ract6_eq (n : RNd) (now : Int) (port : Int) (fro : Int) : AOn Tryz.prog 113 [.agg ⟨RNd.enc n⟩, .int .i64 6, .int .i64 now, .int .i64 port, .int .u64 fro] [] (ract6_E (ract6 n now port fro)) [] := by
  unfold ract6
  apply onT 400 ract6_E
  apply kjs 160017 (n.role == 1)
  intro hb0
  apply kj 750076
  intro hb1
  apply kk (rsay_eq n now (Msg.mk 0 false false (!n.shut.w) 0))
  exact kl
  intro hb1
  apply kk (rsay_eq n now (Msg.mk 0 false false false 0))
  exact kl
  intro hb0
  apply kj 750076
  intro hb1
  apply kk (rsay_eq n now (Msg.mk 0 false false (!n.shut.w) 0))
  exact kl
  intro hb1
  apply kk (rsay_eq n now (Msg.mk 0 false false false 0))
  exact kl
  kernel_rfl
  rfl

def ract7 (n : RNd) (now : Int) (port : Int) (fro : Int) : RNd × Bool :=
  bif (n.role == 1) && n.revert then
    ({ n with bank := (rstart1 n.bank now n.rest).1 }, false)
  else
    (n, false)
def ract7_c (r : RNd × Bool) : Dir := .callL (.tuple ⟨[.agg ⟨RNd.enc r.1⟩, .bool r.2]⟩) []
def ract7_E (r : RNd × Bool) : Value := .tuple ⟨[.agg ⟨RNd.enc r.1⟩, .bool r.2]⟩
theorem ract7_eq (n : RNd) (now : Int) (port : Int) (fro : Int) : AOn Tryz.prog 113 [.agg ⟨RNd.enc n⟩, .int .i64 7, .int .i64 now, .int .i64 port, .int .u64 fro] [] (ract7_E (ract7 n now port fro)) [] := by
  unfold ract7
  apply onT 400 ract7_E
  apply kand
  apply kj 160017
  intro hb0
  apply ki 85
  intro hb1
  apply kk (rstart1_eq n.bank now n.rest)
  exact kl
  intro hb1
  exact kl
  intro hb0
  exact kl
  kernel_rfl
  rfl

def ract8 (n : RNd) (now : Int) (port : Int) (fro : Int) : RNd × Bool :=
  bif (n.role == 1) && n.revert then
    ({ n with bank := (rstart2 n.bank now n.wait).1 }, false)
  else
    (n, false)
def ract8_c (r : RNd × Bool) : Dir := .callL (.tuple ⟨[.agg ⟨RNd.enc r.1⟩, .bool r.2]⟩) []
def ract8_E (r : RNd × Bool) : Value := .tuple ⟨[.agg ⟨RNd.enc r.1⟩, .bool r.2]⟩
theorem ract8_eq (n : RNd) (now : Int) (port : Int) (fro : Int) : AOn Tryz.prog 113 [.agg ⟨RNd.enc n⟩, .int .i64 8, .int .i64 now, .int .i64 port, .int .u64 fro] [] (ract8_E (ract8 n now port fro)) [] := by
  unfold ract8
  apply onT 400 ract8_E
  apply kand
  apply kj 160017
  intro hb0
  apply ki 98
  intro hb1
  apply kk (rstart2_eq n.bank now n.wait)
  exact kl
  intro hb1
  exact kl
  intro hb0
  exact kl
  kernel_rfl
  rfl

def ract9 (n : RNd) (now : Int) (port : Int) (fro : Int) : RNd × Bool :=
  ({ n with bank := rstop2 (rstop1 n.bank) }, false)
def ract9_c (r : RNd × Bool) : Dir := .callL (.tuple ⟨[.agg ⟨RNd.enc r.1⟩, .bool r.2]⟩) []
def ract9_E (r : RNd × Bool) : Value := .tuple ⟨[.agg ⟨RNd.enc r.1⟩, .bool r.2]⟩
theorem ract9_eq (n : RNd) (now : Int) (port : Int) (fro : Int) : AOn Tryz.prog 113 [.agg ⟨RNd.enc n⟩, .int .i64 9, .int .i64 now, .int .i64 port, .int .u64 fro] [] (ract9_E (ract9 n now port fro)) [] := by
  unfold ract9
  apply onT 400 ract9_E
  apply kjs 160017 (n.role == 1)
  intro hb0
  apply kk (rstop1_eq n.bank)
  apply kk (rstop2_eq (rstop1 n.bank))
  exact kl
  intro hb0
  apply kk (rstop1_eq n.bank)
  apply kk (rstop2_eq (rstop1 n.bank))
  exact kl
  kernel_rfl
  rfl

def ract10_x0 (n : RNd) (now : Int) (port : Int) (fro : Int) : RNd × Bool := rtake n now n.rpl (Msg.mk 0 true false false 0) true
def ract10 (n : RNd) (now : Int) (port : Int) (fro : Int) : RNd × Bool :=
  (((ract10_x0 n now port fro).1), (ract10_x0 n now port fro).2)
def ract10_c (r : RNd × Bool) : Dir := .callL (.tuple ⟨[.agg ⟨RNd.enc r.1⟩, .bool r.2]⟩) []
def ract10_E (r : RNd × Bool) : Value := .tuple ⟨[.agg ⟨RNd.enc r.1⟩, .bool r.2]⟩
theorem ract10_eq (n : RNd) (now : Int) (port : Int) (fro : Int) (hh : n.rpl = 0 ∨ n.rpl = 1) : AOn Tryz.prog 113 [.agg ⟨RNd.enc n⟩, .int .i64 10, .int .i64 now, .int .i64 port, .int .u64 fro] [] (ract10_E (ract10 n now port fro)) [] := by
  unfold ract10
  apply onT 400 ract10_E
  apply kjs 160017 (n.role == 1)
  intro hb0
  apply kk (rtake_eq n now n.rpl (Msg.mk 0 true false false 0) true (by first | omega | (simp only [zor, zand, zorf, zandf, znt, znf, zeq, zne, zeqf, znef, zd, zdf] at *; omega)))
  exact kl
  intro hb0
  apply kk (rtake_eq n now n.rpl (Msg.mk 0 true false false 0) true (by first | omega | (simp only [zor, zand, zorf, zandf, znt, znf, zeq, zne, zeqf, znef, zd, zdf] at *; omega)))
  exact kl
  kernel_rfl
  rfl

def ract11 (n : RNd) (now : Int) (port : Int) (fro : Int) : RNd × Bool :=
  bif ((rsilent (rsound n)).role) == 2 then
    bif ((rsilent (rsound n)).rpl) == 0 then
      ({ (rsilent (rsound n)) with shut := { ((rsilent (rsound n)).shut) with w := true } }, false)
    else
      ({ (rsilent (rsound n)) with shut := { ((rsilent (rsound n)).shut) with e := true } }, false)
  else
    ((rsilent (rsound n)), false)
def ract11_c (r : RNd × Bool) : Dir := .callL (.tuple ⟨[.agg ⟨RNd.enc r.1⟩, .bool r.2]⟩) []
def ract11_E (r : RNd × Bool) : Value := .tuple ⟨[.agg ⟨RNd.enc r.1⟩, .bool r.2]⟩
theorem ract11_eq (n : RNd) (now : Int) (port : Int) (fro : Int) (hr : n.role = 2 → n.rpl = 0 ∨ n.rpl = 1) : AOn Tryz.prog 113 [.agg ⟨RNd.enc n⟩, .int .i64 11, .int .i64 now, .int .i64 port, .int .u64 fro] [] (ract11_E (ract11 n now port fro)) [] := by
  unfold ract11
  apply onT 400 ract11_E
  apply kjs 160017 (n.role == 1)
  intro hb0
  apply kk (rsound_eq n)
  apply kk (rsilent_eq (rsound n))
  apply ki 133
  intro hb1
  apply kc
  intro hb2
  apply kv 135 (ieq .i64 hb2)
  exact kl
  intro hb2
  apply kcs (((rsilent (rsound n)).rpl) == 1)
  intro hb3
  apply kv 135 (ieq .i64 hb3)
  exact kl
  intro hb3
  exact kx (by have := (show (rsound n).rpl = n.rpl ∧ (rsound n).role = n.role from rsound_keep n); have := (show (rsilent (rsound n)).rpl = (rsound n).rpl ∧ (rsilent (rsound n)).role = (rsound n).role from rsilent_keep (rsound n)); first | omega | (simp only [zor, zand, zorf, zandf, znt, znf, zeq, zne, zeqf, znef, zd, zdf] at *; omega))
  intro hb1
  exact kl
  intro hb0
  apply kk (rsound_eq n)
  apply kk (rsilent_eq (rsound n))
  apply ki 133
  intro hb1
  apply kc
  intro hb2
  apply kv 135 (ieq .i64 hb2)
  exact kl
  intro hb2
  apply kcs (((rsilent (rsound n)).rpl) == 1)
  intro hb3
  apply kv 135 (ieq .i64 hb3)
  exact kl
  intro hb3
  exact kx (by have := (show (rsound n).rpl = n.rpl ∧ (rsound n).role = n.role from rsound_keep n); have := (show (rsilent (rsound n)).rpl = (rsound n).rpl ∧ (rsilent (rsound n)).role = (rsound n).role from rsilent_keep (rsound n)); first | omega | (simp only [zor, zand, zorf, zandf, znt, znf, zeq, zne, zeqf, znef, zd, zdf] at *; omega))
  intro hb1
  exact kl
  kernel_rfl
  rfl

def ract12 (n : RNd) (now : Int) (port : Int) (fro : Int) : RNd × Bool :=
  bif n.role == 1 then
    (n, false)
  else
    bif (n.role == 0) && (decide (fro > n.me)) then
      ((rsilent (rsound n)), false)
    else
      (n, false)
def ract12_c (r : RNd × Bool) : Dir := .callL (.tuple ⟨[.agg ⟨RNd.enc r.1⟩, .bool r.2]⟩) []
def ract12_E (r : RNd × Bool) : Value := .tuple ⟨[.agg ⟨RNd.enc r.1⟩, .bool r.2]⟩
theorem ract12_eq (n : RNd) (now : Int) (port : Int) (fro : Int) : AOn Tryz.prog 113 [.agg ⟨RNd.enc n⟩, .int .i64 12, .int .i64 now, .int .i64 port, .int .u64 fro] [] (ract12_E (ract12 n now port fro)) [] := by
  unfold ract12
  apply onT 400 ract12_E
  apply kj 160017
  intro hb0
  apply kv 141 (ieq .i64 hb0)
  exact kl
  intro hb0
  apply kand
  apply kj 1430144
  intro hb1
  apply ki 148
  intro hb2
  apply kk (rsound_eq n)
  apply kk (rsilent_eq (rsound n))
  exact kl
  intro hb2
  exact kl
  intro hb1
  exact kl
  kernel_rfl
  rfl

def ract13 (n : RNd) (now : Int) (port : Int) (fro : Int) : RNd × Bool :=
  ({ n with shut := (B2.mk false false) }, false)
def ract13_c (r : RNd × Bool) : Dir := .callL (.tuple ⟨[.agg ⟨RNd.enc r.1⟩, .bool r.2]⟩) []
def ract13_E (r : RNd × Bool) : Value := .tuple ⟨[.agg ⟨RNd.enc r.1⟩, .bool r.2]⟩
theorem ract13_eq (n : RNd) (now : Int) (port : Int) (fro : Int) : AOn Tryz.prog 113 [.agg ⟨RNd.enc n⟩, .int .i64 13, .int .i64 now, .int .i64 port, .int .u64 fro] [] (ract13_E (ract13 n now port fro)) [] := by
  unfold ract13
  apply onT 400 ract13_E
  apply kjs 160017 (n.role == 1)
  intro hb0
  exact kl
  intro hb0
  exact kl
  kernel_rfl
  rfl

end Go.Proofs.E17
