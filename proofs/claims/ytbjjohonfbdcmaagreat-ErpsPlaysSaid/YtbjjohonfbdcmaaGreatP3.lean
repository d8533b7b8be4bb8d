/- Part 3 of 6 of the proof of: ErpsPlays holds for every input, without conditions -/
import Derived.Test.YtbjjohonfbdcmaaGreatP2
import Derived.Test.YtbjjohonfbdcmaaGreatProg
namespace Go.Proofs.E17
open Go Go.AX Go.Proofs
set_option maxRecDepth 1000000
set_option linter.unusedVariables false
set_option linter.unusedSimpArgs false

structure Plan where
  nodes : Int
  owner : Int
  level : Int
  data : Int
  ring : Int
  interval : Int
  hold : Int
  guard : Int
  rest : Int
  wait : Int
  gap : Int
  period : Int
  age : Int
  room : Int
  queue : Int
  revert : Bool
def Plan.enc (x : Plan) : List Value := [.int .i64 x.nodes, .int .i64 x.owner, .int .u8 x.level, .int .u16 x.data, .int .u16 x.ring, .int .i64 x.interval, .int .i64 x.hold, .int .i64 x.guard, .int .i64 x.rest, .int .i64 x.wait, .int .i64 x.gap, .int .i64 x.period, .int .i64 x.age, .int .i64 x.room, .int .i64 x.queue, .bool x.revert]
structure Bk where
  g : Int
  r : Int
  w : Int
def Bk.enc (x : Bk) : List Value := [.int .i64 x.g, .int .i64 x.r, .int .i64 x.w, .int .i64 0, .int .i64 0, .int .i64 0, .int .i64 0, .int .i64 0]
structure B2 where
  w : Bool
  e : Bool
def B2.enc (x : B2) : List Value := [.bool x.w, .bool x.e]
structure Pair where
  some : Bool
  east : Bool
  node : Int
def Pair.enc (x : Pair) : List Value := [.bool x.some, .bool x.east, .int .u64 x.node]
structure P2 where
  w : Pair
  e : Pair
def P2.enc (x : P2) : List Value := [.bool x.w.some, .bool x.w.east, .int .u64 x.w.node, .bool x.e.some, .bool x.e.east, .int .u64 x.e.node]
structure Msg where
  req : Int
  block : Bool
  keep : Bool
  east : Bool
  node : Int
def Msg.enc (x : Msg) : List Value := [.int .u8 x.req, .bool x.block, .bool x.keep, .bool x.east, .int .u64 x.node]
structure Burst where
  gap : Int
  period : Int
  next : Int
  on : Bool
  said : Int
def Burst.enc (x : Burst) : List Value := [.int .i64 x.gap, .int .i64 x.period, .int .i64 x.next, .bool x.on, .int .i64 x.said]
structure Nd where
  me : Int
  role : Int
  rpl : Int
  revert : Bool
  guard : Int
  rest : Int
  wait : Int
  state : Int
  shut : B2
  bad : B2
  own : Int
  bank : Bk
  pairs : P2
  say : Msg
  burst : Burst
def Nd.enc (x : Nd) : List Value := [.int .u64 x.me, .int .i64 x.role, .int .i64 x.rpl, .bool x.revert, .int .i64 x.guard, .int .i64 x.rest, .int .i64 x.wait, .int .i64 x.state, .bool x.shut.w, .bool x.shut.e, .bool x.bad.w, .bool x.bad.e, .int .i64 x.own, .int .i64 x.bank.g, .int .i64 x.bank.r, .int .i64 x.bank.w, .int .i64 0, .int .i64 0, .int .i64 0, .int .i64 0, .int .i64 0, .bool x.pairs.w.some, .bool x.pairs.w.east, .int .u64 x.pairs.w.node, .bool x.pairs.e.some, .bool x.pairs.e.east, .int .u64 x.pairs.e.node, .int .u8 x.say.req, .bool x.say.block, .bool x.say.keep, .bool x.say.east, .int .u64 x.say.node, .int .i64 x.burst.gap, .int .i64 x.burst.period, .int .i64 x.burst.next, .bool x.burst.on, .int .i64 x.burst.said]
structure Asked where
  now : Int
  k : Int
  port : Int
  fro : Int
def Asked.enc (x : Asked) : List Value := [.int .i64 x.now, .int .i64 x.k, .int .i64 x.port, .int .u64 x.fro]
structure RRun where
  g : Bool
  r : Bool
  w : Bool
def RRun.enc (x : RRun) : List Value := [.bool x.g, .bool x.r, .bool x.w, .bool false, .bool false, .bool false, .bool false, .bool false]
structure RDue where
  g : Int
  r : Int
  w : Int
def RDue.enc (x : RDue) : List Value := [.int .i64 x.g, .int .i64 x.r, .int .i64 x.w, .int .i64 0, .int .i64 0, .int .i64 0, .int .i64 0, .int .i64 0]
structure RBk where
  runs : RRun
  due : RDue
def RBk.enc (x : RBk) : List Value := [.bool x.runs.g, .bool x.runs.r, .bool x.runs.w, .bool false, .bool false, .bool false, .bool false, .bool false, .int .i64 x.due.g, .int .i64 x.due.r, .int .i64 x.due.w, .int .i64 0, .int .i64 0, .int .i64 0, .int .i64 0, .int .i64 0]
structure RNd where
  me : Int
  role : Int
  rpl : Int
  revert : Bool
  guard : Int
  rest : Int
  wait : Int
  state : Int
  shut : B2
  bad : B2
  own : Int
  bank : RBk
  pairs : P2
  say : Msg
  burst : Burst
def RNd.enc (x : RNd) : List Value := [.int .u64 x.me, .int .i64 x.role, .int .i64 x.rpl, .bool x.revert, .int .i64 x.guard, .int .i64 x.rest, .int .i64 x.wait, .int .i64 x.state, .bool x.shut.w, .bool x.shut.e, .bool x.bad.w, .bool x.bad.e, .int .i64 x.own, .bool x.bank.runs.g, .bool x.bank.runs.r, .bool x.bank.runs.w, .bool false, .bool false, .bool false, .bool false, .bool false, .int .i64 x.bank.due.g, .int .i64 x.bank.due.r, .int .i64 x.bank.due.w, .int .i64 0, .int .i64 0, .int .i64 0, .int .i64 0, .int .i64 0, .bool x.pairs.w.some, .bool x.pairs.w.east, .int .u64 x.pairs.w.node, .bool x.pairs.e.some, .bool x.pairs.e.east, .int .u64 x.pairs.e.node, .int .u8 x.say.req, .bool x.say.block, .bool x.say.keep, .bool x.say.east, .int .u64 x.say.node, .int .i64 x.burst.gap, .int .i64 x.burst.period, .int .i64 x.burst.next, .bool x.burst.on, .int .i64 x.burst.said]
def Same (a b : Nd) : Prop := b.me = a.me ∧ b.role = a.role ∧ b.rpl = a.rpl ∧ b.revert = a.revert ∧ b.guard = a.guard ∧ b.rest = a.rest ∧ b.wait = a.wait
theorem Same.refl (a : Nd) : Same a a := ⟨rfl, rfl, rfl, rfl, rfl, rfl, rfl⟩
theorem Same.trans {a b c : Nd} (h : Same a b) (k : Same b c) : Same a c := ⟨k.1.trans h.1, k.2.1.trans h.2.1, k.2.2.1.trans h.2.2.1, k.2.2.2.1.trans h.2.2.2.1, k.2.2.2.2.1.trans h.2.2.2.2.1, k.2.2.2.2.2.1.trans h.2.2.2.2.2.1, k.2.2.2.2.2.2.trans h.2.2.2.2.2.2⟩
def RoleOk (n : Nd) : Prop := n.role ≠ 0 → n.rpl = 0 ∨ n.rpl = 1
theorem Same.roleOk {a b : Nd} (h : Same a b) (k : RoleOk a) : RoleOk b := by
  unfold RoleOk at *
  rw [h.2.1, h.2.2.1]; exact k

end Go.Proofs.E17

namespace Go.Proofs.E17
open Go Go.AX Go.Proofs
set_option maxRecDepth 1000000
set_option linter.unusedVariables false
set_option linter.unusedSimpArgs false

def planCheck (p : Plan) : Int :=
  bif (decide (p.nodes < 3)) || ((decide (p.nodes > 16)) || ((decide (p.owner < 0)) || ((decide (p.owner ≥ p.nodes)) || (decide (p.level > 7))))) then
    4
  else
    bif decide (p.data ≥ 1) then
      bif !(decide (p.data ≤ 4094)) then
        5
      else
        bif decide (p.ring ≥ 1) then
          bif (!(decide (p.ring ≤ 4094))) || (p.data == p.ring) then
            5
          else
            bif (decide (p.interval < 1)) || ((decide (p.interval > 1048576)) || ((decide (p.guard < 1)) || ((decide (p.guard > 1048576)) || ((decide (p.rest < 1)) || ((decide (p.rest > 1048576)) || ((decide (p.wait < 1)) || ((decide (p.wait > 1048576)) || ((decide (p.gap < 1)) || ((decide (p.gap > 1048576)) || ((decide (p.period < 1)) || ((decide (p.period > 1048576)) || ((decide (p.age < 1)) || ((decide (p.age > 1048576)) || ((decide (p.hold < 0)) || ((decide (p.hold > 1048576)) || ((decide (p.room < 1)) || ((decide (p.room > 1024)) || ((decide (p.queue < 1)) || (decide (p.queue > 256)))))))))))))))))))) then
              4
            else
              0
        else
          5
    else
      5
def planCheck_c (r : Int) : Dir := .callL (.int .i64 r) []
def planCheck_E (r : Int) : Value := .int .i64 r
theorem planCheck_eq (p : Plan) : AOn Tryz.prog 20 [.agg ⟨Plan.enc p⟩] [] (planCheck_E (planCheck p)) [] := by
  unfold planCheck
  apply onT 400 planCheck_E
  apply kor
  apply kj 70008
  intro hb0
  exact kl
  intro hb0
  apply kor
  apply ki 3
  intro hb1
  exact kl
  intro hb1
  apply kor
  apply kj 160017
  intro hb2
  exact kl
  intro hb2
  apply kor
  apply kj 230024
  intro hb3
  exact kl
  intro hb3
  apply ki 12
  intro hb4
  exact kl
  intro hb4
  apply kd .inl
  apply kj 50006
  intro hb5
  apply kj 330034
  intro hb6
  exact kl
  intro hb6
  apply kd .inl
  apply kj 50006
  intro hb7
  apply kor
  apply kj 390040
  intro hb8
  exact kl
  intro hb8
  apply ki 28
  intro hb9
  exact kl
  intro hb9
  apply kd .inl
  apply kor
  apply kj 130014
  intro hb10
  exact kl
  intro hb10
  apply kor
  apply ki 16
  intro hb11
  exact kl
  intro hb11
  apply kor
  apply kj 130014
  intro hb12
  exact kl
  intro hb12
  apply kor
  apply ki 16
  intro hb13
  exact kl
  intro hb13
  apply kor
  apply kj 130014
  intro hb14
  exact kl
  intro hb14
  apply kor
  apply ki 16
  intro hb15
  exact kl
  intro hb15
  apply kor
  apply kj 130014
  intro hb16
  exact kl
  intro hb16
  apply kor
  apply ki 16
  intro hb17
  exact kl
  intro hb17
  apply kor
  apply kj 130014
  intro hb18
  exact kl
  intro hb18
  apply kor
  apply ki 16
  intro hb19
  exact kl
  intro hb19
  apply kor
  apply kj 130014
  intro hb20
  exact kl
  intro hb20
  apply kor
  apply ki 16
  intro hb21
  exact kl
  intro hb21
  apply kor
  apply kj 130014
  intro hb22
  exact kl
  intro hb22
  apply kor
  apply ki 16
  intro hb23
  exact kl
  intro hb23
  apply kor
  apply kj 690070
  intro hb24
  exact kl
  intro hb24
  apply kor
  apply ki 46
  intro hb25
  exact kl
  intro hb25
  apply kor
  apply kj 780079
  intro hb26
  exact kl
  intro hb26
  apply kor
  apply kj 830084
  intro hb27
  exact kl
  intro hb27
  apply kor
  apply kj 880089
  intro hb28
  exact kl
  intro hb28
  apply ki 74
  intro hb29
  exact kl
  intro hb29
  exact kl
  intro hb7
  exact kl
  intro hb5
  exact kl
  kernel_rfl
  rfl

def planNode (p : Plan) (i : Int) : Int :=
  bif ((planCheck p) == 0) && (decide (i ≥ 0)) then
    bif !(decide (i < p.nodes)) then
      0
    else
      IntKind.wrap .u64 (2199023255553 + (IntKind.wrap .u64 i))
  else
    0
def planNode_c (r : Int) : Dir := .callL (.int .u64 r) []
def planNode_E (r : Int) : Value := .int .u64 r
theorem planNode_eq (p : Plan) (i : Int) : AOn Tryz.prog 22 [.agg ⟨Plan.enc p⟩, .int .i64 i] [] (planNode_E (planNode p i)) [] := by
  unfold planNode
  apply onT 400 planNode_E
  apply kd .inl
  apply kk (planCheck_eq p)
  apply kand
  apply kj 80009
  intro hb0
  apply kj 120013
  intro hb1
  apply ki 8
  intro hb2
  exact kl
  intro hb2
  exact kl
  intro hb1
  exact kl
  intro hb0
  exact kl
  kernel_rfl
  rfl

def burstNew (gap : Int) (period : Int) : Burst × Int :=
  bif decide (gap ≥ 1) then
    bif !(decide (gap ≤ 1048576)) then
      ((Burst.mk 0 0 0 false 0), 4)
    else
      bif decide (period ≥ 1) then
        bif !(decide (period ≤ 1048576)) then
          ((Burst.mk 0 0 0 false 0), 4)
        else
          ((Burst.mk gap period 0 false 0), 0)
      else
        ((Burst.mk 0 0 0 false 0), 4)
  else
    ((Burst.mk 0 0 0 false 0), 4)
def burstNew_c (r : Burst × Int) : Dir := .callL (.tuple ⟨[.agg ⟨Burst.enc r.1⟩, .int .i64 r.2]⟩) []
def burstNew_E (r : Burst × Int) : Value := .tuple ⟨[.agg ⟨Burst.enc r.1⟩, .int .i64 r.2]⟩
theorem burstNew_eq (gap : Int) (period : Int) : AOn Tryz.prog 21 [.int .i64 gap, .int .i64 period] [] (burstNew_E (burstNew gap period)) [] := by
  unfold burstNew
  apply onT 400 burstNew_E
  apply kd .inl
  apply kj 50006
  intro hb0
  apply kj 90010
  intro hb1
  exact kl
  intro hb1
  apply kd .inl
  apply kj 50006
  intro hb2
  apply ki 13
  intro hb3
  exact kl
  intro hb3
  exact kl
  intro hb2
  exact kl
  intro hb0
  exact kl
  kernel_rfl
  rfl

def burstBegin (b : Burst) (now : Int) : Burst :=
  { b with next := now, on := true, said := 0 }
def burstBegin_c (r : Burst) : Dir := .callL (.agg ⟨Burst.enc r⟩) []
def burstBegin_E (r : Burst) : Value := .agg ⟨Burst.enc r⟩
theorem burstBegin_eq (b : Burst) (now : Int) : AOn Tryz.prog 59 [.agg ⟨Burst.enc b⟩, .int .i64 now] [] (burstBegin_E (burstBegin b now)) [] := by
  unfold burstBegin
  apply onT 400 burstBegin_E
  exact kl
  kernel_rfl
  rfl

def burstEnd (b : Burst) : Burst :=
  { b with next := 0, on := false, said := 0 }
def burstEnd_c (r : Burst) : Dir := .callL (.agg ⟨Burst.enc r⟩) []
def burstEnd_E (r : Burst) : Value := .agg ⟨Burst.enc r⟩
theorem burstEnd_eq (b : Burst) : AOn Tryz.prog 120 [.agg ⟨Burst.enc b⟩] [] (burstEnd_E (burstEnd b)) [] := by
  unfold burstEnd
  apply onT 400 burstEnd_E
  exact kl
  kernel_rfl
  rfl

def burstTick (b : Burst) (now : Int) : Burst × Bool :=
  bif (!b.on) || (decide (b.next > now)) then
    (b, false)
  else
    bif b.said == 0 then
      ({ b with next := IntKind.wrap .i64 (now + b.gap), said := 1 }, true)
    else
      bif b.said == 1 then
        ({ b with next := IntKind.wrap .i64 (now + b.gap), said := 2 }, true)
      else
        ({ b with next := IntKind.wrap .i64 (now + b.period), said := if 3 < (IntKind.wrap .i64 (b.said + 1)) then 3 else (IntKind.wrap .i64 (b.said + 1)) }, true)
def burstTick_c (r : Burst × Bool) : Dir := .callL (.tuple ⟨[.agg ⟨Burst.enc r.1⟩, .bool r.2]⟩) []
def burstTick_E (r : Burst × Bool) : Value := .tuple ⟨[.agg ⟨Burst.enc r.1⟩, .bool r.2]⟩
theorem burstTick_eq (b : Burst) (now : Int) : AOn Tryz.prog 37 [.agg ⟨Burst.enc b⟩, .int .i64 now] [] (burstTick_E (burstTick b now)) [] := by
  unfold burstTick
  apply onT 400 burstTick_E
  apply kor
  apply kj 90010
  intro hb0
  exact kl
  intro hb0
  apply ki 14
  intro hb1
  exact kl
  intro hb1
  apply ki 23
  intro hb2
  apply kv 33 (ieq .i64 hb2)
  exact kl
  intro hb2
  apply ki 25
  intro hb3
  apply kv 33 (ieq .i64 hb3)
  exact kl
  intro hb3
  exact kl
  kernel_rfl
  rfl

def timerPop (b : Bk) (now : Int) : Int × Bk × Bool :=
  bif decide (b.g > 0) then
    bif (decide (b.r > 0)) && (decide (b.r < b.g)) then
      bif (decide (b.w > 0)) && (decide (b.w < b.r)) then
        bif decide ((IntKind.wrap .i64 (b.w - 1)) > now) then
          ((-1), b, false)
        else
          (2, { b with w := 0 }, true)
      else
        bif decide ((IntKind.wrap .i64 (b.r - 1)) > now) then
          ((-1), b, false)
        else
          (1, { b with r := 0 }, true)
    else
      bif (decide (b.w > 0)) && (decide (b.w < b.g)) then
        bif decide ((IntKind.wrap .i64 (b.w - 1)) > now) then
          ((-1), b, false)
        else
          (2, { b with w := 0 }, true)
      else
        bif decide ((IntKind.wrap .i64 (b.g - 1)) > now) then
          ((-1), b, false)
        else
          (0, { b with g := 0 }, true)
  else
    bif decide (b.r > 0) then
      bif (decide (b.w > 0)) && (decide (b.w < b.r)) then
        bif decide ((IntKind.wrap .i64 (b.w - 1)) > now) then
          ((-1), b, false)
        else
          (2, { b with w := 0 }, true)
      else
        bif decide ((IntKind.wrap .i64 (b.r - 1)) > now) then
          ((-1), b, false)
        else
          (1, { b with r := 0 }, true)
    else
      bif decide (b.w > 0) then
        bif decide ((IntKind.wrap .i64 (b.w - 1)) > now) then
          ((-1), b, false)
        else
          (2, { b with w := 0 }, true)
      else
        ((-1), b, false)
def timerPop_c (r : Int × Bk × Bool) : Dir := .callL (.tuple ⟨[.int .i64 r.1, .agg ⟨Bk.enc r.2.1⟩, .bool r.2.2]⟩) []
def timerPop_E (r : Int × Bk × Bool) : Value := .tuple ⟨[.int .i64 r.1, .agg ⟨Bk.enc r.2.1⟩, .bool r.2.2]⟩
theorem timerPop_eq (b : Bk) (now : Int) : AOn Tryz.prog 34 [.agg ⟨Bk.enc b⟩, .int .i64 now] [] (timerPop_E (timerPop b now)) [] := by
  unfold timerPop
  apply onT 400 timerPop_E
  apply kd .inl
  apply kc
  intro hb0
  apply kf (gds 3 13 true []) (oN 3 hb0 o0)
  apply ku 130026 hb0
  apply kand
  apply kc
  intro hb1
  apply kf (gds 3 13 true []) (oN 3 hb1 o0)
  apply ku 130026 hb1
  apply ki 27
  intro hb2
  apply kand
  apply kc
  intro hb3
  apply kf (gds 3 13 true []) (oN 3 hb3 o0)
  apply ku 130026 hb3
  apply ki 27
  intro hb4
  apply kd .inl
  apply kd .inl
  apply ki 18
  intro hb5
  exact kl
  intro hb5
  apply kd .inl
  apply kd .inl
  exact kl
  intro hb4
  apply kd .inl
  apply kd .inl
  apply ki 18
  intro hb5
  exact kl
  intro hb5
  apply kd .inl
  apply kd .inl
  exact kl
  intro hb3
  apply kf (gds 3 13 false []) (oN 3 hb3 o0)
  apply ku 130026 hb3
  apply kd .inl
  apply kd .inl
  apply ki 18
  intro hb4
  exact kl
  intro hb4
  apply kd .inl
  apply kd .inl
  exact kl
  intro hb2
  apply kand
  apply kc
  intro hb3
  apply kf (gds 3 13 true []) (oN 3 hb3 o0)
  apply ku 130026 hb3
  apply ki 27
  intro hb4
  apply kd .inl
  apply kd .inl
  apply ki 18
  intro hb5
  exact kl
  intro hb5
  apply kd .inl
  apply kd .inl
  exact kl
  intro hb4
  apply kd .inl
  apply kd .inl
  apply ki 18
  intro hb5
  exact kl
  intro hb5
  apply kd .inl
  apply kd .inl
  exact kl
  intro hb3
  apply kf (gds 3 13 false []) (oN 3 hb3 o0)
  apply ku 130026 hb3
  apply kd .inl
  apply kd .inl
  apply ki 18
  intro hb4
  exact kl
  intro hb4
  apply kd .inl
  apply kd .inl
  exact kl
  intro hb1
  apply kf (gds 3 13 false []) (oN 3 hb1 o0)
  apply ku 130026 hb1
  apply kand
  apply kc
  intro hb2
  apply kf (gds 3 13 true []) (oN 3 hb2 o0)
  apply ku 130026 hb2
  apply ki 27
  intro hb3
  apply kd .inl
  apply kd .inl
  apply ki 18
  intro hb4
  exact kl
  intro hb4
  apply kd .inl
  apply kd .inl
  exact kl
  intro hb3
  apply kd .inl
  apply kd .inl
  apply ki 18
  intro hb4
  exact kl
  intro hb4
  apply kd .inl
  apply kd .inl
  exact kl
  intro hb2
  apply kf (gds 3 13 false []) (oN 3 hb2 o0)
  apply ku 130026 hb2
  apply kd .inl
  apply kd .inl
  apply ki 18
  intro hb3
  exact kl
  intro hb3
  apply kd .inl
  apply kd .inl
  exact kl
  intro hb0
  apply kf (gds 3 13 false []) (oN 3 hb0 o0)
  apply ku 130026 hb0
  apply kc
  intro hb1
  apply kf (gds 3 13 true []) (oN 3 hb1 o0)
  apply ku 130026 hb1
  apply kand
  apply kc
  intro hb2
  apply kf (gds 3 13 true []) (oN 3 hb2 o0)
  apply ku 130026 hb2
  apply ki 27
  intro hb3
  apply kd .inl
  apply kd .inl
  apply ki 18
  intro hb4
  exact kl
  intro hb4
  apply kd .inl
  apply kd .inl
  exact kl
  intro hb3
  apply kd .inl
  apply kd .inl
  apply ki 18
  intro hb4
  exact kl
  intro hb4
  apply kd .inl
  apply kd .inl
  exact kl
  intro hb2
  apply kf (gds 3 13 false []) (oN 3 hb2 o0)
  apply ku 130026 hb2
  apply kd .inl
  apply kd .inl
  apply ki 18
  intro hb3
  exact kl
  intro hb3
  apply kd .inl
  apply kd .inl
  exact kl
  intro hb1
  apply kf (gds 3 13 false []) (oN 3 hb1 o0)
  apply ku 130026 hb1
  apply kc
  intro hb2
  apply kf (gds 3 13 true []) (oN 3 hb2 o0)
  apply ku 130026 hb2
  apply kd .inl
  apply kd .inl
  apply ki 18
  intro hb3
  exact kl
  intro hb3
  apply kd .inl
  apply kd .inl
  exact kl
  intro hb2
  apply kf (gds 3 13 false []) (oN 3 hb2 o0)
  apply ku 130026 hb2
  exact kl
  kernel_rfl
  rfl

def flushHear (p : P2) (port : Int) (m : Msg) : P2 × Bool :=
  bif port != 0 then
    bif port != 1 then
      (p, false)
    else
      bif (m.req == 0) && (!m.block) then
        ({ p with e := (Pair.mk false false 0) }, false)
      else
        bif (p.e.some == true) && ((p.e.east == m.east) && ((p.e.node == m.node) && true)) then
          (p, false)
        else
          bif !m.keep then
            ({ p with e := (Pair.mk true m.east m.node) }, (!m.keep) && (!((p.w.some == true) && ((p.w.east == m.east) && ((p.w.node == m.node) && true)))))
          else
            ({ p with e := (Pair.mk true m.east m.node) }, false)
  else
    bif (m.req == 0) && (!m.block) then
      ({ p with w := (Pair.mk false false 0) }, false)
    else
      bif (p.w.some == true) && ((p.w.east == m.east) && ((p.w.node == m.node) && true)) then
        (p, false)
      else
        bif !m.keep then
          ({ p with w := (Pair.mk true m.east m.node) }, (!m.keep) && (!((p.e.some == true) && ((p.e.east == m.east) && ((p.e.node == m.node) && true)))))
        else
          ({ p with w := (Pair.mk true m.east m.node) }, false)
def flushHear_c (r : P2 × Bool) : Dir := .callL (.tuple ⟨[.agg ⟨P2.enc r.1⟩, .bool r.2]⟩) []
def flushHear_E (r : P2 × Bool) : Value := .tuple ⟨[.agg ⟨P2.enc r.1⟩, .bool r.2]⟩
theorem flushHear_eq (p : P2) (port : Int) (m : Msg) : AOn Tryz.prog 39 [.agg ⟨P2.enc p⟩, .int .i64 port, .agg ⟨Msg.enc m⟩] [] (flushHear_E (flushHear p port m)) [] := by
  unfold flushHear
  apply onT 400 flushHear_E
  apply kj 110012
  intro hb0
  apply ki 14
  intro hb1
  exact kl
  intro hb1
  apply kand
  apply kj 250026
  intro hb2
  apply ki 21
  intro hb3
  apply kv 30 (ieqn .i64 hb1)
  exact kl
  intro hb3
  apply kf [.is 35 (.int .i64 1)] (o_ (ieqn .i64 hb1) o0)
  apply ki 34
  intro hb4
  exact kl
  intro hb4
  apply kv 41 (ieqn .i64 hb1)
  apply kc
  intro hb5
  apply kf (.priv [2] :: .gd 48 true :: .is 49 (.int .i64 1) :: gds 5 48 true []) (o_ hb5 (o_ (ieqn .i64 hb1) (oN 5 hb5 o0)))
  exact kl
  intro hb5
  apply kf (.priv [2] :: gds 6 48 false ([.hint 55 (.bool false)])) (oN 7 hb5 o0)
  exact kl
  intro hb2
  apply kf [.is 35 (.int .i64 1)] (o_ (ieqn .i64 hb1) o0)
  apply ki 34
  intro hb3
  exact kl
  intro hb3
  apply kv 41 (ieqn .i64 hb1)
  apply kc
  intro hb4
  apply kf (.priv [2] :: .gd 48 true :: .is 49 (.int .i64 1) :: gds 5 48 true []) (o_ hb4 (o_ (ieqn .i64 hb1) (oN 5 hb4 o0)))
  exact kl
  intro hb4
  apply kf (.priv [2] :: gds 6 48 false ([.hint 55 (.bool false)])) (oN 7 hb4 o0)
  exact kl
  intro hb0
  apply kand
  apply kj 250026
  intro hb1
  apply ki 21
  intro hb2
  apply kv 30 (ieqn .i64 hb0)
  exact kl
  intro hb2
  apply kf [.is 35 (.int .i64 0)] (o_ (ieqn .i64 hb0) o0)
  apply ki 34
  intro hb3
  exact kl
  intro hb3
  apply kv 41 (ieqn .i64 hb0)
  apply kc
  intro hb4
  apply kf (.priv [2] :: .gd 48 true :: .is 49 (.int .i64 0) :: gds 5 48 true []) (o_ hb4 (o_ (ieqn .i64 hb0) (oN 5 hb4 o0)))
  exact kl
  intro hb4
  apply kf (.priv [2] :: gds 6 48 false ([.hint 55 (.bool false)])) (oN 7 hb4 o0)
  exact kl
  intro hb1
  apply kf [.is 35 (.int .i64 0)] (o_ (ieqn .i64 hb0) o0)
  apply ki 34
  intro hb2
  exact kl
  intro hb2
  apply kv 41 (ieqn .i64 hb0)
  apply kc
  intro hb3
  apply kf (.priv [2] :: .gd 48 true :: .is 49 (.int .i64 0) :: gds 5 48 true []) (o_ hb3 (o_ (ieqn .i64 hb0) (oN 5 hb3 o0)))
  exact kl
  intro hb3
  apply kf (.priv [2] :: gds 6 48 false ([.hint 55 (.bool false)])) (oN 7 hb3 o0)
  exact kl
  kernel_rfl
  rfl

def reqAbove (k : Int) (l : Int) : Bool :=
  bif (decide (k ≥ 0)) && (decide (k ≤ 13)) then
    bif decide (l ≥ 0) then
      bif !(decide (l ≤ 13)) then
        true
      else
        decide (k < l)
    else
      true
  else
    false
def reqAbove_c (r : Bool) : Dir := .callL (.bool r) []
def reqAbove_E (r : Bool) : Value := .bool r
theorem reqAbove_eq (k : Int) (l : Int) : AOn Tryz.prog 75 [.int .i64 k, .int .i64 l] [] (reqAbove_E (reqAbove k l)) [] := by
  unfold reqAbove
  apply onT 400 reqAbove_E
  apply kd .inl
  apply kand
  apply kj 50006
  intro hb0
  apply kj 70008
  intro hb1
  apply kd .inl
  apply kj 50006
  intro hb2
  apply kj 110012
  intro hb3
  exact kl
  intro hb3
  exact kl
  intro hb2
  exact kl
  intro hb1
  exact kl
  intro hb0
  exact kl
  kernel_rfl
  rfl

def stands (n : Nd) : Int :=
  bif n.bad.w || n.bad.e then
    bif decide (n.bank.r > 0) then
      bif decide (n.bank.w > 0) then
        bif (reqAbove n.own 14) then
          bif (reqAbove 3 n.own) then
            3
          else
            bif (reqAbove 9 n.own) then
              9
            else
              bif (reqAbove 11 n.own) then
                11
              else
                n.own
        else
          3
      else
        bif (reqAbove n.own 14) then
          bif (reqAbove 3 n.own) then
            3
          else
            bif (reqAbove 9 n.own) then
              9
            else
              n.own
        else
          3
    else
      bif decide (n.bank.w > 0) then
        bif (reqAbove n.own 14) then
          bif (reqAbove 3 n.own) then
            3
          else
            bif (reqAbove 11 n.own) then
              11
            else
              n.own
        else
          3
      else
        bif (reqAbove n.own 14) then
          bif (reqAbove 3 n.own) then
            3
          else
            n.own
        else
          3
  else
    bif decide (n.bank.r > 0) then
      bif decide (n.bank.w > 0) then
        bif (reqAbove n.own 14) then
          bif (reqAbove 9 n.own) then
            9
          else
            bif (reqAbove 11 n.own) then
              11
            else
              n.own
        else
          9
      else
        bif (reqAbove n.own 14) then
          bif (reqAbove 9 n.own) then
            9
          else
            n.own
        else
          9
    else
      bif decide (n.bank.w > 0) then
        bif (reqAbove n.own 14) then
          bif (reqAbove 11 n.own) then
            11
          else
            n.own
        else
          11
      else
        bif (reqAbove n.own 14) then
          n.own
        else
          14
def stands_c (r : Int) : Dir := .callL (.int .i64 r) []
def stands_E (r : Int) : Value := .int .i64 r
theorem stands_eq (n : Nd) : AOn Tryz.prog 74 [.agg ⟨Nd.enc n⟩] [] (stands_E (stands n)) [] := by
  unfold stands
  apply onT 400 stands_E
  apply kor
  apply kj 100011
  intro hb0
  apply kd .inl
  apply kd .inl
  apply ki 20
  intro hb1
  apply kd .inl
  apply kd .inl
  apply ki 26
  intro hb2
  apply kd .inl
  apply kk (reqAbove_eq n.own 14)
  apply ki 14
  intro hb3
  apply kk (reqAbove_eq 3 n.own)
  apply ki 14
  intro hb4
  apply kd .inl
  apply kd .inl
  apply kd .inl
  apply kd .inl
  apply kd .inl
  apply kd .inl
  exact kl
  intro hb4
  apply kk (reqAbove_eq 9 n.own)
  apply ki 14
  intro hb5
  apply kd .inl
  apply kd .inl
  apply kd .inl
  exact kl
  intro hb5
  apply kk (reqAbove_eq 11 n.own)
  apply ki 14
  intro hb6
  exact kl
  intro hb6
  exact kl
  intro hb3
  apply kd .inl
  apply kd .inl
  apply kd .inl
  apply kd .inl
  apply kd .inl
  apply kd .inl
  apply kd .inl
  apply kd .inl
  apply kd .inl
  exact kl
  intro hb2
  apply kd .inl
  apply kk (reqAbove_eq n.own 14)
  apply ki 14
  intro hb3
  apply kk (reqAbove_eq 3 n.own)
  apply ki 14
  intro hb4
  apply kd .inl
  apply kd .inl
  apply kd .inl
  exact kl
  intro hb4
  apply kk (reqAbove_eq 9 n.own)
  apply ki 14
  intro hb5
  exact kl
  intro hb5
  exact kl
  intro hb3
  apply kd .inl
  apply kd .inl
  apply kd .inl
  apply kd .inl
  apply kd .inl
  apply kd .inl
  exact kl
  intro hb1
  apply kd .inl
  apply kd .inl
  apply ki 26
  intro hb2
  apply kd .inl
  apply kk (reqAbove_eq n.own 14)
  apply ki 14
  intro hb3
  apply kk (reqAbove_eq 3 n.own)
  apply ki 14
  intro hb4
  apply kd .inl
  apply kd .inl
  apply kd .inl
  exact kl
  intro hb4
  apply kk (reqAbove_eq 11 n.own)
  apply ki 14
  intro hb5
  exact kl
  intro hb5
  exact kl
  intro hb3
  apply kd .inl
  apply kd .inl
  apply kd .inl
  apply kd .inl
  apply kd .inl
  apply kd .inl
  exact kl
  intro hb2
  apply kd .inl
  apply kk (reqAbove_eq n.own 14)
  apply ki 14
  intro hb3
  apply kk (reqAbove_eq 3 n.own)
  apply ki 14
  intro hb4
  exact kl
  intro hb4
  exact kl
  intro hb3
  apply kd .inl
  apply kd .inl
  apply kd .inl
  exact kl
  intro hb0
  apply ki 14
  intro hb1
  apply kd .inl
  apply kd .inl
  apply ki 20
  intro hb2
  apply kd .inl
  apply kd .inl
  apply ki 26
  intro hb3
  apply kd .inl
  apply kk (reqAbove_eq n.own 14)
  apply ki 14
  intro hb4
  apply kk (reqAbove_eq 3 n.own)
  apply ki 14
  intro hb5
  apply kd .inl
  apply kd .inl
  apply kd .inl
  apply kd .inl
  apply kd .inl
  apply kd .inl
  exact kl
  intro hb5
  apply kk (reqAbove_eq 9 n.own)
  apply ki 14
  intro hb6
  apply kd .inl
  apply kd .inl
  apply kd .inl
  exact kl
  intro hb6
  apply kk (reqAbove_eq 11 n.own)
  apply ki 14
  intro hb7
  exact kl
  intro hb7
  exact kl
  intro hb4
  apply kd .inl
  apply kd .inl
  apply kd .inl
  apply kd .inl
  apply kd .inl
  apply kd .inl
  apply kd .inl
  apply kd .inl
  apply kd .inl
  exact kl
  intro hb3
  apply kd .inl
  apply kk (reqAbove_eq n.own 14)
  apply ki 14
  intro hb4
  apply kk (reqAbove_eq 3 n.own)
  apply ki 14
  intro hb5
  apply kd .inl
  apply kd .inl
  apply kd .inl
  exact kl
  intro hb5
  apply kk (reqAbove_eq 9 n.own)
  apply ki 14
  intro hb6
  exact kl
  intro hb6
  exact kl
  intro hb4
  apply kd .inl
  apply kd .inl
  apply kd .inl
  apply kd .inl
  apply kd .inl
  apply kd .inl
  exact kl
  intro hb2
  apply kd .inl
  apply kd .inl
  apply ki 26
  intro hb3
  apply kd .inl
  apply kk (reqAbove_eq n.own 14)
  apply ki 14
  intro hb4
  apply kk (reqAbove_eq 3 n.own)
  apply ki 14
  intro hb5
  apply kd .inl
  apply kd .inl
  apply kd .inl
  exact kl
  intro hb5
  apply kk (reqAbove_eq 11 n.own)
  apply ki 14
  intro hb6
  exact kl
  intro hb6
  exact kl
  intro hb4
  apply kd .inl
  apply kd .inl
  apply kd .inl
  apply kd .inl
  apply kd .inl
  apply kd .inl
  exact kl
  intro hb3
  apply kd .inl
  apply kk (reqAbove_eq n.own 14)
  apply ki 14
  intro hb4
  apply kk (reqAbove_eq 3 n.own)
  apply ki 14
  intro hb5
  exact kl
  intro hb5
  exact kl
  intro hb4
  apply kd .inl
  apply kd .inl
  apply kd .inl
  exact kl
  intro hb1
  apply kd .inl
  apply kd .inl
  apply ki 20
  intro hb2
  apply kd .inl
  apply kd .inl
  apply ki 26
  intro hb3
  apply kd .inl
  apply kk (reqAbove_eq n.own 14)
  apply ki 14
  intro hb4
  apply kk (reqAbove_eq 9 n.own)
  apply ki 14
  intro hb5
  apply kd .inl
  apply kd .inl
  apply kd .inl
  exact kl
  intro hb5
  apply kk (reqAbove_eq 11 n.own)
  apply ki 14
  intro hb6
  exact kl
  intro hb6
  exact kl
  intro hb4
  apply kd .inl
  apply kd .inl
  apply kd .inl
  apply kd .inl
  apply kd .inl
  apply kd .inl
  exact kl
  intro hb3
  apply kd .inl
  apply kk (reqAbove_eq n.own 14)
  apply ki 14
  intro hb4
  apply kk (reqAbove_eq 9 n.own)
  apply ki 14
  intro hb5
  exact kl
  intro hb5
  exact kl
  intro hb4
  apply kd .inl
  apply kd .inl
  apply kd .inl
  exact kl
  intro hb2
  apply kd .inl
  apply kd .inl
  apply ki 26
  intro hb3
  apply kd .inl
  apply kk (reqAbove_eq n.own 14)
  apply ki 14
  intro hb4
  apply kk (reqAbove_eq 11 n.own)
  apply ki 14
  intro hb5
  exact kl
  intro hb5
  exact kl
  intro hb4
  apply kd .inl
  apply kd .inl
  apply kd .inl
  exact kl
  intro hb3
  apply kd .inl
  apply kk (reqAbove_eq n.own 14)
  apply ki 14
  intro hb4
  exact kl
  intro hb4
  exact kl
  kernel_rfl
  rfl

def says (n : Nd) (now : Int) (m : Msg) : Nd :=
  { n with say := { m with node := n.me }, burst := burstBegin n.burst now }
def says_c (i : Nat) (r : Nd) : Dir := .callL (.tuple ⟨[]⟩) [(i, .cells (Nd.enc r) 44 37)]
def says_E (r : Nd) : Value × AHeap := (.tuple ⟨[]⟩, [.cells (Nd.enc r) 44 37])
theorem says_0 (n : Nd) (now : Int) (m : Msg) : AEq Tryz.prog 24 [.pointer (some ⟨0, 0, none⟩), .int .i64 now, .agg ⟨Msg.enc m⟩] [.cells (Nd.enc n) 44 37] (says_E (says n now m)).1 (says_E (says n now m)).2 := by
  unfold says
  apply ptrT 400 says_E
  apply kk (burstBegin_eq n.burst now)
  exact kl
  kernel_rfl
theorem says_eq (n : Nd) (now : Int) (m : Msg) (i : Nat) : AOn Tryz.prog 24 [.pointer (some ⟨i, 0, none⟩), .int .i64 now, .agg ⟨Msg.enc m⟩] [(i, .cells (Nd.enc n) 44 37)] (.tuple ⟨[]⟩) [(i, .cells (Nd.enc (says n now m)) 44 37)] :=
  AEq.on1 (says_0 n now m) i rfl rfl rfl rfl
def says_S (n : Nd) (now : Int) (m : Msg) (r : Nd) : Prop := Same n r
theorem says_same (n : Nd) (now : Int) (m : Msg) : says_S n now m (says n now m) := by
  unfold says
  exact (Same.refl n)

def start0 (n : Nd) (now : Int) (length : Int) : Nd :=
  bif (decide (now < 0)) || ((decide (now > 1099511627776)) || ((decide (length < 0)) || (decide (length > 1048576)))) then
    n
  else
    { n with bank := { n.bank with g := IntKind.wrap .i64 ((if 1099511627776 < (IntKind.wrap .i64 (now + length)) then 1099511627776 else (IntKind.wrap .i64 (now + length))) + 1) } }
def start0_c (i : Nat) (r : Nd) : Dir := .callL (.tuple ⟨[]⟩) [(i, .cells (Nd.enc r) 44 37)]
def start0_E (r : Nd) : Value × AHeap := (.tuple ⟨[]⟩, [.cells (Nd.enc r) 44 37])
theorem start0_0 (n : Nd) (now : Int) (length : Int) : AEq Tryz.prog 26 [.pointer (some ⟨0, 0, none⟩), .int .i64 0, .int .i64 now, .int .i64 length] [.cells (Nd.enc n) 44 37] (start0_E (start0 n now length)).1 (start0_E (start0 n now length)).2 := by
  unfold start0
  apply ptrT 400 start0_E
  apply kd .inl
  apply kd .inl
  apply kor
  apply kj 180019
  intro hb0
  exact kl
  intro hb0
  apply kor
  apply kj 220023
  intro hb1
  exact kl
  intro hb1
  apply kor
  apply kj 260027
  intro hb2
  exact kl
  intro hb2
  apply ki 15
  intro hb3
  exact kl
  intro hb3
  exact kl
  kernel_rfl
theorem start0_eq (n : Nd) (now : Int) (length : Int) (i : Nat) : AOn Tryz.prog 26 [.pointer (some ⟨i, 0, none⟩), .int .i64 0, .int .i64 now, .int .i64 length] [(i, .cells (Nd.enc n) 44 37)] (.tuple ⟨[]⟩) [(i, .cells (Nd.enc (start0 n now length)) 44 37)] :=
  AEq.on1 (start0_0 n now length) i rfl rfl rfl rfl
def start0_S (n : Nd) (now : Int) (length : Int) (r : Nd) : Prop := Same n r
theorem start0_same (n : Nd) (now : Int) (length : Int) : start0_S n now length (start0 n now length) := by
  unfold start0
  refine byIte (fun _ => ?_) (fun _ => ?_)
  exact (Same.refl n)
  exact (Same.refl n)

def start1 (n : Nd) (now : Int) (length : Int) : Nd :=
  bif (decide (now < 0)) || ((decide (now > 1099511627776)) || ((decide (length < 0)) || (decide (length > 1048576)))) then
    n
  else
    { n with bank := { n.bank with r := IntKind.wrap .i64 ((if 1099511627776 < (IntKind.wrap .i64 (now + length)) then 1099511627776 else (IntKind.wrap .i64 (now + length))) + 1) } }
def start1_c (i : Nat) (r : Nd) : Dir := .callL (.tuple ⟨[]⟩) [(i, .cells (Nd.enc r) 44 37)]
def start1_E (r : Nd) : Value × AHeap := (.tuple ⟨[]⟩, [.cells (Nd.enc r) 44 37])
theorem start1_0 (n : Nd) (now : Int) (length : Int) : AEq Tryz.prog 26 [.pointer (some ⟨0, 0, none⟩), .int .i64 1, .int .i64 now, .int .i64 length] [.cells (Nd.enc n) 44 37] (start1_E (start1 n now length)).1 (start1_E (start1 n now length)).2 := by
  unfold start1
  apply ptrT 400 start1_E
  apply kd .inl
  apply kd .inl
  apply kor
  apply kj 180019
  intro hb0
  exact kl
  intro hb0
  apply kor
  apply kj 220023
  intro hb1
  exact kl
  intro hb1
  apply kor
  apply kj 260027
  intro hb2
  exact kl
  intro hb2
  apply ki 15
  intro hb3
  exact kl
  intro hb3
  exact kl
  kernel_rfl
theorem start1_eq (n : Nd) (now : Int) (length : Int) (i : Nat) : AOn Tryz.prog 26 [.pointer (some ⟨i, 0, none⟩), .int .i64 1, .int .i64 now, .int .i64 length] [(i, .cells (Nd.enc n) 44 37)] (.tuple ⟨[]⟩) [(i, .cells (Nd.enc (start1 n now length)) 44 37)] :=
  AEq.on1 (start1_0 n now length) i rfl rfl rfl rfl
def start1_S (n : Nd) (now : Int) (length : Int) (r : Nd) : Prop := Same n r
theorem start1_same (n : Nd) (now : Int) (length : Int) : start1_S n now length (start1 n now length) := by
  unfold start1
  refine byIte (fun _ => ?_) (fun _ => ?_)
  exact (Same.refl n)
  exact (Same.refl n)

def start2 (n : Nd) (now : Int) (length : Int) : Nd :=
  bif (decide (now < 0)) || ((decide (now > 1099511627776)) || ((decide (length < 0)) || (decide (length > 1048576)))) then
    n
  else
    { n with bank := { n.bank with w := IntKind.wrap .i64 ((if 1099511627776 < (IntKind.wrap .i64 (now + length)) then 1099511627776 else (IntKind.wrap .i64 (now + length))) + 1) } }
def start2_c (i : Nat) (r : Nd) : Dir := .callL (.tuple ⟨[]⟩) [(i, .cells (Nd.enc r) 44 37)]
def start2_E (r : Nd) : Value × AHeap := (.tuple ⟨[]⟩, [.cells (Nd.enc r) 44 37])
theorem start2_0 (n : Nd) (now : Int) (length : Int) : AEq Tryz.prog 26 [.pointer (some ⟨0, 0, none⟩), .int .i64 2, .int .i64 now, .int .i64 length] [.cells (Nd.enc n) 44 37] (start2_E (start2 n now length)).1 (start2_E (start2 n now length)).2 := by
  unfold start2
  apply ptrT 400 start2_E
  apply kd .inl
  apply kd .inl
  apply kor
  apply kj 180019
  intro hb0
  exact kl
  intro hb0
  apply kor
  apply kj 220023
  intro hb1
  exact kl
  intro hb1
  apply kor
  apply kj 260027
  intro hb2
  exact kl
  intro hb2
  apply ki 15
  intro hb3
  exact kl
  intro hb3
  exact kl
  kernel_rfl
theorem start2_eq (n : Nd) (now : Int) (length : Int) (i : Nat) : AOn Tryz.prog 26 [.pointer (some ⟨i, 0, none⟩), .int .i64 2, .int .i64 now, .int .i64 length] [(i, .cells (Nd.enc n) 44 37)] (.tuple ⟨[]⟩) [(i, .cells (Nd.enc (start2 n now length)) 44 37)] :=
  AEq.on1 (start2_0 n now length) i rfl rfl rfl rfl
def start2_S (n : Nd) (now : Int) (length : Int) (r : Nd) : Prop := Same n r
theorem start2_same (n : Nd) (now : Int) (length : Int) : start2_S n now length (start2 n now length) := by
  unfold start2
  refine byIte (fun _ => ?_) (fun _ => ?_)
  exact (Same.refl n)
  exact (Same.refl n)

def take_x0 (n : Nd) (now : Int) (port : Int) (m : Msg) (bad : Bool) : Nd := says { n with shut := (B2.mk true (bad && n.bad.e)) } now { m with keep := n.shut.w, east := false }
def take_x1 (n : Nd) (now : Int) (port : Int) (m : Msg) (bad : Bool) : Nd := says { n with shut := (B2.mk true false) } now { m with keep := n.shut.w, east := false }
def take_x2 (n : Nd) (now : Int) (port : Int) (m : Msg) (bad : Bool) : Nd := says { n with shut := (B2.mk (bad && n.bad.w) true) } now { m with keep := n.shut.e, east := true }
def take_x3 (n : Nd) (now : Int) (port : Int) (m : Msg) (bad : Bool) : Nd := says { n with shut := (B2.mk false true) } now { m with keep := n.shut.e, east := true }
def take (n : Nd) (now : Int) (port : Int) (m : Msg) (bad : Bool) : Nd × Bool :=
  bif port == 0 then
    bif bad then
      ((take_x0 n now port m bad), !n.shut.w)
    else
      ((take_x1 n now port m bad), !n.shut.w)
  else
    bif bad then
      ((take_x2 n now port m bad), !n.shut.e)
    else
      ((take_x3 n now port m bad), !n.shut.e)
def take_c (i : Nat) (r : Nd × Bool) : Dir := .callL (.bool r.2) [(i, .cells (Nd.enc r.1) 44 37)]
def take_E (r : Nd × Bool) : Value × AHeap := (.bool r.2, [.cells (Nd.enc r.1) 44 37])
theorem take_0 (n : Nd) (now : Int) (port : Int) (m : Msg) (bad : Bool) (hp : port = 0 ∨ port = 1) : AEq Tryz.prog 104 [.pointer (some ⟨0, 0, none⟩), .int .i64 now, .int .i64 port, .agg ⟨Msg.enc m⟩, .bool bad] [.cells (Nd.enc n) 44 37] (take_E (take n now port m bad)).1 (take_E (take n now port m bad)).2 := by
  unfold take
  apply ptrT 400 take_E
  apply kc
  intro hb0
  apply kv 12 (ieq .i64 hb0)
  apply kv 17 (ieq .i64 hb0)
  apply kv 22 (ieq .i64 hb0)
  apply kc
  intro hb1
  apply kf (.is 27 (.int .i64 0) :: .gd 30 true :: .gd 30 true :: .is 32 (.int .i64 0) :: gds 5 30 true []) (o_ (ieq .i64 hb0) (o_ hb1 (o_ hb1 (o_ (ieq .i64 hb0) (oN 5 hb1 o0)))))
  apply kk (says_eq { n with shut := (B2.mk true (bad && n.bad.e)) } now { m with keep := n.shut.w, east := false } 0)
  exact kl
  intro hb1
  apply kf (.is 27 (.int .i64 0) :: gds 7 30 false ([.hint 38 (.bool false)])) (o_ (ieq .i64 hb0) (oN 8 hb1 o0))
  apply kk (says_eq { n with shut := (B2.mk true false) } now { m with keep := n.shut.w, east := false } 0)
  exact kl
  intro hb0
  apply kcs (port == 1)
  intro hb1
  apply kv 12 (ieq .i64 hb1)
  apply kv 17 (ieq .i64 hb1)
  apply kv 22 (ieq .i64 hb1)
  apply kc
  intro hb2
  apply kf (.is 27 (.int .i64 1) :: .gd 30 true :: .gd 30 true :: .is 32 (.int .i64 1) :: gds 5 30 true []) (o_ (ieq .i64 hb1) (o_ hb2 (o_ hb2 (o_ (ieq .i64 hb1) (oN 5 hb2 o0)))))
  apply kk (says_eq { n with shut := (B2.mk (bad && n.bad.w) true) } now { m with keep := n.shut.e, east := true } 0)
  exact kl
  intro hb2
  apply kf (.is 27 (.int .i64 1) :: gds 7 30 false ([.hint 38 (.bool false)])) (o_ (ieq .i64 hb1) (oN 8 hb2 o0))
  apply kk (says_eq { n with shut := (B2.mk false true) } now { m with keep := n.shut.e, east := true } 0)
  exact kl
  intro hb1
  exact kx (by first | omega | (simp only [zor, zand, zorf, zandf, znt, znf, zeq, zne, zeqf, znef, zd, zdf] at *; omega))
  kernel_rfl
theorem take_eq (n : Nd) (now : Int) (port : Int) (m : Msg) (bad : Bool) (hp : port = 0 ∨ port = 1) (i : Nat) : AOn Tryz.prog 104 [.pointer (some ⟨i, 0, none⟩), .int .i64 now, .int .i64 port, .agg ⟨Msg.enc m⟩, .bool bad] [(i, .cells (Nd.enc n) 44 37)] (.bool ((take n now port m bad).2)) [(i, .cells (Nd.enc ((take n now port m bad).1)) 44 37)] :=
  AEq.on1 (take_0 n now port m bad hp) i rfl rfl rfl rfl
def take_S (n : Nd) (now : Int) (port : Int) (m : Msg) (bad : Bool) (r : Nd × Bool) : Prop := Same n r.1
theorem take_same (n : Nd) (now : Int) (port : Int) (m : Msg) (bad : Bool) : take_S n now port m bad (take n now port m bad) := by
  unfold take
  refine byIte (fun _ => ?_) (fun _ => ?_)
  refine byIte (fun _ => ?_) (fun _ => ?_)
  exact ((Same.refl n).trans (says_same { n with shut := (B2.mk true (bad && n.bad.e)) } now { m with keep := n.shut.w, east := false }))
  exact ((Same.refl n).trans (says_same { n with shut := (B2.mk true false) } now { m with keep := n.shut.w, east := false }))
  refine byIte (fun _ => ?_) (fun _ => ?_)
  exact ((Same.refl n).trans (says_same { n with shut := (B2.mk (bad && n.bad.w) true) } now { m with keep := n.shut.e, east := true }))
  exact ((Same.refl n).trans (says_same { n with shut := (B2.mk false true) } now { m with keep := n.shut.e, east := true }))

def openSound (n : Nd) : Nd :=
  bif n.shut.w then
    bif n.shut.e then
      { n with shut := (B2.mk (n.shut.w && n.bad.w) (n.shut.e && n.bad.e)) }
    else
      { n with shut := (B2.mk (n.shut.w && n.bad.w) false) }
  else
    bif n.shut.e then
      { n with shut := (B2.mk false (n.shut.e && n.bad.e)) }
    else
      { n with shut := (B2.mk false false) }
def openSound_c (i : Nat) (r : Nd) : Dir := .callL (.tuple ⟨[]⟩) [(i, .cells (Nd.enc r) 44 37)]
def openSound_E (r : Nd) : Value × AHeap := (.tuple ⟨[]⟩, [.cells (Nd.enc r) 44 37])
theorem openSound_0 (n : Nd) : AEq Tryz.prog 105 [.pointer (some ⟨0, 0, none⟩)] [.cells (Nd.enc n) 44 37] (openSound_E (openSound n)).1 (openSound_E (openSound n)).2 := by
  unfold openSound
  apply ptrT 400 openSound_E
  apply kc
  intro hb0
  apply kf (gds 6 14 true []) (oN 6 hb0 o0)
  apply kc
  intro hb1
  apply kf (gds 6 14 true []) (oN 6 hb1 o0)
  exact kl
  intro hb1
  apply kf (gds 6 14 false ([.hint 21 (.bool false)])) (oN 7 hb1 o0)
  exact kl
  intro hb0
  apply kf (gds 6 14 false ([.hint 21 (.bool false)])) (oN 7 hb0 o0)
  apply kc
  intro hb1
  apply kf (gds 6 14 true []) (oN 6 hb1 o0)
  exact kl
  intro hb1
  apply kf (gds 6 14 false ([.hint 21 (.bool false)])) (oN 7 hb1 o0)
  exact kl
  kernel_rfl
theorem openSound_eq (n : Nd) (i : Nat) : AOn Tryz.prog 105 [.pointer (some ⟨i, 0, none⟩)] [(i, .cells (Nd.enc n) 44 37)] (.tuple ⟨[]⟩) [(i, .cells (Nd.enc (openSound n)) 44 37)] :=
  AEq.on1 (openSound_0 n) i rfl rfl rfl rfl
def openSound_S (n : Nd) (r : Nd) : Prop := Same n r
theorem openSound_same (n : Nd) : openSound_S n (openSound n) := by
  unfold openSound
  refine byIte (fun _ => ?_) (fun _ => ?_)
  refine byIte (fun _ => ?_) (fun _ => ?_)
  exact (Same.refl n)
  exact (Same.refl n)
  refine byIte (fun _ => ?_) (fun _ => ?_)
  exact (Same.refl n)
  exact (Same.refl n)

def silence (n : Nd) : Nd :=
  { n with say := (Msg.mk 0 false false false 0), burst := burstEnd n.burst }
def silence_c (i : Nat) (r : Nd) : Dir := .callL (.tuple ⟨[]⟩) [(i, .cells (Nd.enc r) 44 37)]
def silence_E (r : Nd) : Value × AHeap := (.tuple ⟨[]⟩, [.cells (Nd.enc r) 44 37])
theorem silence_0 (n : Nd) : AEq Tryz.prog 108 [.pointer (some ⟨0, 0, none⟩)] [.cells (Nd.enc n) 44 37] (silence_E (silence n)).1 (silence_E (silence n)).2 := by
  unfold silence
  apply ptrT 400 silence_E
  apply kk (burstEnd_eq n.burst)
  exact kl
  kernel_rfl
theorem silence_eq (n : Nd) (i : Nat) : AOn Tryz.prog 108 [.pointer (some ⟨i, 0, none⟩)] [(i, .cells (Nd.enc n) 44 37)] (.tuple ⟨[]⟩) [(i, .cells (Nd.enc (silence n)) 44 37)] :=
  AEq.on1 (silence_0 n) i rfl rfl rfl rfl
def silence_S (n : Nd) (r : Nd) : Prop := Same n r
theorem silence_same (n : Nd) : silence_S n (silence n) := by
  unfold silence
  exact (Same.refl n)

def waitFor1 (n : Nd) (now : Int) (length : Int) : Nd :=
  bif (n.role == 1) && n.revert then
    (start1 n now length)
  else
    n
def waitFor1_c (i : Nat) (r : Nd) : Dir := .callL (.tuple ⟨[]⟩) [(i, .cells (Nd.enc r) 44 37)]
def waitFor1_E (r : Nd) : Value × AHeap := (.tuple ⟨[]⟩, [.cells (Nd.enc r) 44 37])
theorem waitFor1_0 (n : Nd) (now : Int) (length : Int) : AEq Tryz.prog 106 [.pointer (some ⟨0, 0, none⟩), .int .i64 1, .int .i64 now, .int .i64 length] [.cells (Nd.enc n) 44 37] (waitFor1_E (waitFor1 n now length)).1 (waitFor1_E (waitFor1 n now length)).2 := by
  unfold waitFor1
  apply ptrT 400 waitFor1_E
  apply kd .inl
  apply kand
  apply kj 60007
  intro hb0
  apply ki 11
  intro hb1
  apply kk (start1_eq n now length 0)
  exact kl
  intro hb1
  exact kl
  intro hb0
  exact kl
  kernel_rfl
theorem waitFor1_eq (n : Nd) (now : Int) (length : Int) (i : Nat) : AOn Tryz.prog 106 [.pointer (some ⟨i, 0, none⟩), .int .i64 1, .int .i64 now, .int .i64 length] [(i, .cells (Nd.enc n) 44 37)] (.tuple ⟨[]⟩) [(i, .cells (Nd.enc (waitFor1 n now length)) 44 37)] :=
  AEq.on1 (waitFor1_0 n now length) i rfl rfl rfl rfl
def waitFor1_S (n : Nd) (now : Int) (length : Int) (r : Nd) : Prop := Same n r
theorem waitFor1_same (n : Nd) (now : Int) (length : Int) : waitFor1_S n now length (waitFor1 n now length) := by
  unfold waitFor1
  refine byIte (fun _ => ?_) (fun _ => ?_)
  exact ((Same.refl n).trans (start1_same n now length))
  exact (Same.refl n)

def waitFor2 (n : Nd) (now : Int) (length : Int) : Nd :=
  bif (n.role == 1) && n.revert then
    (start2 n now length)
  else
    n
def waitFor2_c (i : Nat) (r : Nd) : Dir := .callL (.tuple ⟨[]⟩) [(i, .cells (Nd.enc r) 44 37)]
def waitFor2_E (r : Nd) : Value × AHeap := (.tuple ⟨[]⟩, [.cells (Nd.enc r) 44 37])
theorem waitFor2_0 (n : Nd) (now : Int) (length : Int) : AEq Tryz.prog 106 [.pointer (some ⟨0, 0, none⟩), .int .i64 2, .int .i64 now, .int .i64 length] [.cells (Nd.enc n) 44 37] (waitFor2_E (waitFor2 n now length)).1 (waitFor2_E (waitFor2 n now length)).2 := by
  unfold waitFor2
  apply ptrT 400 waitFor2_E
  apply kd .inl
  apply kand
  apply kj 60007
  intro hb0
  apply ki 11
  intro hb1
  apply kk (start2_eq n now length 0)
  exact kl
  intro hb1
  exact kl
  intro hb0
  exact kl
  kernel_rfl
theorem waitFor2_eq (n : Nd) (now : Int) (length : Int) (i : Nat) : AOn Tryz.prog 106 [.pointer (some ⟨i, 0, none⟩), .int .i64 2, .int .i64 now, .int .i64 length] [(i, .cells (Nd.enc n) 44 37)] (.tuple ⟨[]⟩) [(i, .cells (Nd.enc (waitFor2 n now length)) 44 37)] :=
  AEq.on1 (waitFor2_0 n now length) i rfl rfl rfl rfl
def waitFor2_S (n : Nd) (now : Int) (length : Int) (r : Nd) : Prop := Same n r
theorem waitFor2_same (n : Nd) (now : Int) (length : Int) : waitFor2_S n now length (waitFor2 n now length) := by
  unfold waitFor2
  refine byIte (fun _ => ?_) (fun _ => ?_)
  exact ((Same.refl n).trans (start2_same n now length))
  exact (Same.refl n)

def homeFar_x0 (n : Nd) : Nd := silence ({ (openSound n) with shut := { ((openSound n).shut) with w := true } })
def homeFar_x1 (n : Nd) : Nd := silence ({ (openSound n) with shut := { ((openSound n).shut) with e := true } })
def homeFar (n : Nd) : Nd :=
  bif n.role == 2 then
    bif n.rpl == 0 then
      (homeFar_x0 n)
    else
      (homeFar_x1 n)
  else
    (silence (openSound n))
def homeFar_c (i : Nat) (r : Nd) : Dir := .callL (.tuple ⟨[]⟩) [(i, .cells (Nd.enc r) 44 37)]
def homeFar_E (r : Nd) : Value × AHeap := (.tuple ⟨[]⟩, [.cells (Nd.enc r) 44 37])
theorem homeFar_0 (n : Nd) (hr : n.role = 2 → n.rpl = 0 ∨ n.rpl = 1) : AEq Tryz.prog 107 [.pointer (some ⟨0, 0, none⟩)] [.cells (Nd.enc n) 44 37] (homeFar_E (homeFar n)).1 (homeFar_E (homeFar n)).2 := by
  unfold homeFar
  apply ptrT 400 homeFar_E
  apply kk (openSound_eq n 0)
  apply kv 7 (iis .i64 (((Same.refl n).trans (openSound_same n)).2.1))
  apply ki 8
  intro hb0
  apply kc
  intro hb1
  apply kf [.is 13 (.int .i64 0)] (o_ ((iis .i64 (((Same.refl n).trans (openSound_same n)).2.2.1)).trans (ieq .i64 hb1)) o0)
  apply kk (silence_eq ({ (openSound n) with shut := { ((openSound n).shut) with w := true } }) 0)
  exact kl
  intro hb1
  apply kcs (n.rpl == 1)
  intro hb2
  apply kf [.is 13 (.int .i64 1)] (o_ ((iis .i64 (((Same.refl n).trans (openSound_same n)).2.2.1)).trans (ieq .i64 hb2)) o0)
  apply kk (silence_eq ({ (openSound n) with shut := { ((openSound n).shut) with e := true } }) 0)
  exact kl
  intro hb2
  exact kx (by first | omega | (simp only [zor, zand, zorf, zandf, znt, znf, zeq, zne, zeqf, znef, zd, zdf] at *; omega))
  intro hb0
  apply kk (silence_eq (openSound n) 0)
  exact kl
  kernel_rfl
theorem homeFar_eq (n : Nd) (hr : n.role = 2 → n.rpl = 0 ∨ n.rpl = 1) (i : Nat) : AOn Tryz.prog 107 [.pointer (some ⟨i, 0, none⟩)] [(i, .cells (Nd.enc n) 44 37)] (.tuple ⟨[]⟩) [(i, .cells (Nd.enc (homeFar n)) 44 37)] :=
  AEq.on1 (homeFar_0 n hr) i rfl rfl rfl rfl
def homeFar_S (n : Nd) (r : Nd) : Prop := Same n r
theorem homeFar_same (n : Nd) : homeFar_S n (homeFar n) := by
  unfold homeFar
  refine byIte (fun _ => ?_) (fun _ => ?_)
  refine byIte (fun _ => ?_) (fun _ => ?_)
  exact (((Same.refl n).trans (openSound_same n)).trans (silence_same ({ (openSound n) with shut := { ((openSound n).shut) with w := true } })))
  exact (((Same.refl n).trans (openSound_same n)).trans (silence_same ({ (openSound n) with shut := { ((openSound n).shut) with e := true } })))
  exact (((Same.refl n).trans (openSound_same n)).trans (silence_same (openSound n)))

end Go.Proofs.E17

namespace Go.Proofs.E17
open Go Go.AX Go.Proofs
set_option maxRecDepth 1000000
set_option linter.unusedVariables false
set_option linter.unusedSimpArgs false

def chartBuild_V : Value := .pointer (some ⟨0, 0, none⟩)
def chartBuild_H : AHeap := [.cells [.slice none 0 0, .int .i64 0, .slice none 0 0, .int .i64 0, .slice (some ⟨1, 0, none⟩) 2 2, .int .i64 3, .slice (some ⟨1, 0, none⟩) 2 2, .int .i64 3, .slice (some ⟨2, 0, none⟩) 3 3, .int .i64 3, .slice (some ⟨2, 0, none⟩) 3 3, .int .i64 3, .slice (some ⟨3, 0, none⟩) 2 2, .int .i64 1, .slice (some ⟨3, 0, none⟩) 2 2, .int .i64 1, .slice none 0 0, .int .i64 0, .slice none 0 0, .int .i64 0, .slice (some ⟨5, 0, none⟩) 3 3, .int .i64 1, .slice (some ⟨5, 0, none⟩) 3 3, .int .i64 1, .slice (some ⟨6, 0, none⟩) 3 3, .int .i64 2, .slice (some ⟨6, 0, none⟩) 3 3, .int .i64 2, .slice (some ⟨9, 0, none⟩) 2 2, .int .i64 2, .slice (some ⟨9, 0, none⟩) 2 2, .int .i64 2, .slice none 0 0, .int .i64 0, .slice none 0 0, .int .i64 0, .slice none 0 0, .int .i64 0, .slice none 0 0, .int .i64 0, .slice none 0 0, .int .i64 0, .slice none 0 0, .int .i64 0, .slice none 0 0, .int .i64 0, .slice none 0 0, .int .i64 0, .slice (some ⟨14, 0, none⟩) 1 1, .int .i64 0, .slice none 0 0, .int .i64 0, .slice (some ⟨15, 0, none⟩) 1 1, .int .i64 0, .slice (some ⟨15, 0, none⟩) 1 1, .int .i64 0, .slice none 0 0, .int .i64 1, .slice none 0 0, .int .i64 1, .slice (some ⟨1, 0, none⟩) 2 2, .int .i64 3, .slice (some ⟨1, 0, none⟩) 2 2, .int .i64 3, .slice (some ⟨2, 0, none⟩) 3 3, .int .i64 3, .slice (some ⟨2, 0, none⟩) 3 3, .int .i64 3, .slice (some ⟨3, 0, none⟩) 2 2, .int .i64 1, .slice (some ⟨3, 0, none⟩) 2 2, .int .i64 1, .slice (some ⟨4, 0, none⟩) 3 3, .int .i64 4, .slice (some ⟨4, 0, none⟩) 3 3, .int .i64 4, .slice (some ⟨5, 0, none⟩) 3 3, .int .i64 1, .slice (some ⟨5, 0, none⟩) 3 3, .int .i64 1, .slice none 0 0, .int .i64 1, .slice none 0 0, .int .i64 1, .slice none 0 0, .int .i64 1, .slice none 0 0, .int .i64 1, .slice none 0 0, .int .i64 1, .slice none 0 0, .int .i64 1, .slice none 0 0, .int .i64 1, .slice none 0 0, .int .i64 1, .slice none 0 0, .int .i64 1, .slice none 0 0, .int .i64 1, .slice none 0 0, .int .i64 1, .slice none 0 0, .int .i64 1, .slice (some ⟨14, 0, none⟩) 1 1, .int .i64 0, .slice none 0 0, .int .i64 1, .slice (some ⟨17, 0, none⟩) 1 1, .int .i64 4, .slice (some ⟨17, 0, none⟩) 1 1, .int .i64 4, .slice none 0 0, .int .i64 2, .slice (some ⟨10, 0, none⟩) 3 3, .int .i64 4, .slice (some ⟨1, 0, none⟩) 2 2, .int .i64 3, .slice (some ⟨1, 0, none⟩) 2 2, .int .i64 3, .slice (some ⟨2, 0, none⟩) 3 3, .int .i64 3, .slice (some ⟨2, 0, none⟩) 3 3, .int .i64 3, .slice (some ⟨3, 0, none⟩) 2 2, .int .i64 1, .slice (some ⟨3, 0, none⟩) 2 2, .int .i64 1, .slice none 0 0, .int .i64 2, .slice none 0 0, .int .i64 2, .slice (some ⟨5, 0, none⟩) 3 3, .int .i64 1, .slice (some ⟨5, 0, none⟩) 3 3, .int .i64 1, .slice (some ⟨8, 0, none⟩) 2 2, .int .i64 2, .slice (some ⟨7, 0, none⟩) 3 3, .int .i64 4, .slice none 0 0, .int .i64 2, .slice none 0 0, .int .i64 2, .slice none 0 0, .int .i64 2, .slice none 0 0, .int .i64 2, .slice none 0 0, .int .i64 2, .slice none 0 0, .int .i64 2, .slice none 0 0, .int .i64 2, .slice none 0 0, .int .i64 2, .slice none 0 0, .int .i64 2, .slice none 0 0, .int .i64 2, .slice (some ⟨14, 0, none⟩) 1 1, .int .i64 0, .slice none 0 0, .int .i64 2, .slice (some ⟨18, 0, none⟩) 1 1, .int .i64 4, .slice none 0 0, .int .i64 2, .slice none 0 0, .int .i64 3, .slice (some ⟨10, 0, none⟩) 3 3, .int .i64 4, .slice (some ⟨1, 0, none⟩) 2 2, .int .i64 3, .slice (some ⟨1, 0, none⟩) 2 2, .int .i64 3, .slice none 0 0, .int .i64 3, .slice none 0 0, .int .i64 3, .slice none 0 0, .int .i64 3, .slice none 0 0, .int .i64 3, .slice none 0 0, .int .i64 3, .slice none 0 0, .int .i64 3, .slice none 0 0, .int .i64 3, .slice none 0 0, .int .i64 3, .slice none 0 0, .int .i64 3, .slice none 0 0, .int .i64 3, .slice none 0 0, .int .i64 3, .slice none 0 0, .int .i64 3, .slice none 0 0, .int .i64 3, .slice none 0 0, .int .i64 3, .slice none 0 0, .int .i64 3, .slice none 0 0, .int .i64 3, .slice none 0 0, .int .i64 3, .slice none 0 0, .int .i64 3, .slice none 0 0, .int .i64 3, .slice none 0 0, .int .i64 3, .slice (some ⟨14, 0, none⟩) 1 1, .int .i64 0, .slice none 0 0, .int .i64 3, .slice (some ⟨18, 0, none⟩) 1 1, .int .i64 4, .slice none 0 0, .int .i64 3, .slice (some ⟨11, 0, none⟩) 2 2, .int .i64 0, .slice (some ⟨11, 0, none⟩) 2 2, .int .i64 0, .slice (some ⟨1, 0, none⟩) 2 2, .int .i64 3, .slice (some ⟨1, 0, none⟩) 2 2, .int .i64 3, .slice (some ⟨2, 0, none⟩) 3 3, .int .i64 3, .slice (some ⟨2, 0, none⟩) 3 3, .int .i64 3, .slice (some ⟨3, 0, none⟩) 2 2, .int .i64 1, .slice (some ⟨3, 0, none⟩) 2 2, .int .i64 1, .slice none 0 0, .int .i64 4, .slice none 0 0, .int .i64 4, .slice (some ⟨5, 0, none⟩) 3 3, .int .i64 1, .slice (some ⟨5, 0, none⟩) 3 3, .int .i64 1, .slice (some ⟨6, 0, none⟩) 3 3, .int .i64 2, .slice (some ⟨6, 0, none⟩) 3 3, .int .i64 2, .slice (some ⟨9, 0, none⟩) 2 2, .int .i64 2, .slice (some ⟨9, 0, none⟩) 2 2, .int .i64 2, .slice (some ⟨12, 0, none⟩) 2 2, .int .i64 0, .slice (some ⟨12, 0, none⟩) 2 2, .int .i64 0, .slice none 0 0, .int .i64 4, .slice none 0 0, .int .i64 4, .slice (some ⟨13, 0, none⟩) 2 2, .int .i64 0, .slice (some ⟨13, 0, none⟩) 2 2, .int .i64 0, .slice none 0 0, .int .i64 4, .slice none 0 0, .int .i64 4, .slice (some ⟨14, 0, none⟩) 1 1, .int .i64 0, .slice none 0 0, .int .i64 4, .slice (some ⟨16, 0, none⟩) 1 1, .int .i64 4, .slice (some ⟨16, 0, none⟩) 1 1, .int .i64 4] 196 280, .cells [.int .i64 0, .int .i64 9] 131 1, .cells [.int .i64 13, .int .i64 4, .int .i64 9] 131 1, .cells [.int .i64 1, .int .i64 9] 131 1, .cells [.int .i64 5, .int .i64 6, .int .i64 7] 131 1, .cells [.int .i64 3, .int .i64 4, .int .i64 9] 131 1, .cells [.int .i64 3, .int .i64 4, .int .i64 9] 131 1, .cells [.int .i64 5, .int .i64 6, .int .i64 8] 131 1, .cells [.int .i64 3, .int .i64 4] 131 1, .cells [.int .i64 2, .int .i64 9] 131 1, .cells [.int .i64 5, .int .i64 6, .int .i64 8] 131 1, .cells [.int .i64 10, .int .i64 9] 131 1, .cells [.int .i64 10, .int .i64 9] 131 1, .cells [.int .i64 10, .int .i64 9] 131 1, .cells [.int .i64 11] 131 1, .cells [.int .i64 12] 131 1, .cells [.int .i64 12] 131 1, .cells [.int .i64 7] 131 1, .cells [.int .i64 8] 131 1]
theorem chartBuild_eq : AOnN Tryz.prog 90 [] [] chartBuild_V [] chartBuild_H :=
  onN 400 (lits 291 (.inl :: lits 21 (.inl :: lits 17 (.inl :: lits 17 (.inl :: lits 5 (.inl :: lits 17 (.inl :: lits 9 (.inl :: lits 4 (.inl :: lits 4 (.inl :: lits 9 (.inl :: lits 8 (.inl :: lits 6 (.inl :: lits 6 (.inl :: lits 6 (.inl :: lits 16 (.inl :: lits 5 (.inl :: lits 5 (.inl :: lits 5 (.inl :: lits 7 []))))))))))))))))))) [0, 8, 9, 10, 12, 13, 14, 16, 18, 19, 20, 23, 25, 27, 28, 30, 32, 34, 35] o0 (by kernel_rfl) rfl (by kernel_rfl)

theorem look_0_0_0_eq : AOnN Tryz.prog 61 [.int .i64 0, .int .i64 0, .bool false] [] (.tuple ⟨[.slice none 0 0, .int .i64 0]⟩) [] [] :=
  onN 400 [.inl, .inl, .lit, .lit, .callN chartBuild_V [] chartBuild_H, .inl, .lit, .heap] [] (o_ chartBuild_eq (o_ (hsame (chartBuild_H ++ [.cells [.slice none 0 0, .int .i64 0] 164 2])) o0)) (by kernel_rfl) rfl (by kernel_rfl)

theorem look_0_0_1_eq : AOnN Tryz.prog 61 [.int .i64 0, .int .i64 0, .bool true] [] (.tuple ⟨[.slice none 0 0, .int .i64 0]⟩) [] [] :=
  onN 400 [.inl, .inl, .lit, .lit, .callN chartBuild_V [] chartBuild_H, .inl, .lit, .heap] [] (o_ chartBuild_eq (o_ (hsame (chartBuild_H ++ [.cells [.slice none 0 0, .int .i64 0] 164 2])) o0)) (by kernel_rfl) rfl (by kernel_rfl)

theorem look_0_1_0_eq : AOnN Tryz.prog 61 [.int .i64 0, .int .i64 1, .bool false] [] (.tuple ⟨[.slice (some ⟨0, 0, none⟩) 2 UNK, .int .i64 3]⟩) [] [.row [.int .i64 0, .int .i64 9] 131 1] :=
  onN 400 [.inl, .inl, .lit, .lit, .callN chartBuild_V [] chartBuild_H, .inl, .lit, .heap] [21] (o_ chartBuild_eq (o_ (hsame (chartBuild_H ++ [.cells [.slice (some ⟨1, 0, none⟩) 2 2, .int .i64 3] 164 2])) o0)) (by kernel_rfl) rfl (by kernel_rfl)

theorem look_0_1_1_eq : AOnN Tryz.prog 61 [.int .i64 0, .int .i64 1, .bool true] [] (.tuple ⟨[.slice (some ⟨0, 0, none⟩) 2 UNK, .int .i64 3]⟩) [] [.row [.int .i64 0, .int .i64 9] 131 1] :=
  onN 400 [.inl, .inl, .lit, .lit, .callN chartBuild_V [] chartBuild_H, .inl, .lit, .heap] [21] (o_ chartBuild_eq (o_ (hsame (chartBuild_H ++ [.cells [.slice (some ⟨1, 0, none⟩) 2 2, .int .i64 3] 164 2])) o0)) (by kernel_rfl) rfl (by kernel_rfl)

theorem look_0_2_0_eq : AOnN Tryz.prog 61 [.int .i64 0, .int .i64 2, .bool false] [] (.tuple ⟨[.slice (some ⟨0, 0, none⟩) 3 UNK, .int .i64 3]⟩) [] [.row [.int .i64 13, .int .i64 4, .int .i64 9] 131 1] :=
  onN 400 [.inl, .inl, .lit, .lit, .callN chartBuild_V [] chartBuild_H, .inl, .lit, .heap] [21] (o_ chartBuild_eq (o_ (hsame (chartBuild_H ++ [.cells [.slice (some ⟨2, 0, none⟩) 3 3, .int .i64 3] 164 2])) o0)) (by kernel_rfl) rfl (by kernel_rfl)

theorem look_0_2_1_eq : AOnN Tryz.prog 61 [.int .i64 0, .int .i64 2, .bool true] [] (.tuple ⟨[.slice (some ⟨0, 0, none⟩) 3 UNK, .int .i64 3]⟩) [] [.row [.int .i64 13, .int .i64 4, .int .i64 9] 131 1] :=
  onN 400 [.inl, .inl, .lit, .lit, .callN chartBuild_V [] chartBuild_H, .inl, .lit, .heap] [21] (o_ chartBuild_eq (o_ (hsame (chartBuild_H ++ [.cells [.slice (some ⟨2, 0, none⟩) 3 3, .int .i64 3] 164 2])) o0)) (by kernel_rfl) rfl (by kernel_rfl)

theorem look_0_3_0_eq : AOnN Tryz.prog 61 [.int .i64 0, .int .i64 3, .bool false] [] (.tuple ⟨[.slice (some ⟨0, 0, none⟩) 2 UNK, .int .i64 1]⟩) [] [.row [.int .i64 1, .int .i64 9] 131 1] :=
  onN 400 [.inl, .inl, .lit, .lit, .callN chartBuild_V [] chartBuild_H, .inl, .lit, .heap] [21] (o_ chartBuild_eq (o_ (hsame (chartBuild_H ++ [.cells [.slice (some ⟨3, 0, none⟩) 2 2, .int .i64 1] 164 2])) o0)) (by kernel_rfl) rfl (by kernel_rfl)

theorem look_0_3_1_eq : AOnN Tryz.prog 61 [.int .i64 0, .int .i64 3, .bool true] [] (.tuple ⟨[.slice (some ⟨0, 0, none⟩) 2 UNK, .int .i64 1]⟩) [] [.row [.int .i64 1, .int .i64 9] 131 1] :=
  onN 400 [.inl, .inl, .lit, .lit, .callN chartBuild_V [] chartBuild_H, .inl, .lit, .heap] [21] (o_ chartBuild_eq (o_ (hsame (chartBuild_H ++ [.cells [.slice (some ⟨3, 0, none⟩) 2 2, .int .i64 1] 164 2])) o0)) (by kernel_rfl) rfl (by kernel_rfl)

theorem look_0_4_0_eq : AOnN Tryz.prog 61 [.int .i64 0, .int .i64 4, .bool false] [] (.tuple ⟨[.slice none 0 0, .int .i64 0]⟩) [] [] :=
  onN 400 [.inl, .inl, .lit, .lit, .callN chartBuild_V [] chartBuild_H, .inl, .lit, .heap] [] (o_ chartBuild_eq (o_ (hsame (chartBuild_H ++ [.cells [.slice none 0 0, .int .i64 0] 164 2])) o0)) (by kernel_rfl) rfl (by kernel_rfl)

theorem look_0_4_1_eq : AOnN Tryz.prog 61 [.int .i64 0, .int .i64 4, .bool true] [] (.tuple ⟨[.slice none 0 0, .int .i64 0]⟩) [] [] :=
  onN 400 [.inl, .inl, .lit, .lit, .callN chartBuild_V [] chartBuild_H, .inl, .lit, .heap] [] (o_ chartBuild_eq (o_ (hsame (chartBuild_H ++ [.cells [.slice none 0 0, .int .i64 0] 164 2])) o0)) (by kernel_rfl) rfl (by kernel_rfl)

theorem look_0_5_0_eq : AOnN Tryz.prog 61 [.int .i64 0, .int .i64 5, .bool false] [] (.tuple ⟨[.slice (some ⟨0, 0, none⟩) 3 UNK, .int .i64 1]⟩) [] [.row [.int .i64 3, .int .i64 4, .int .i64 9] 131 1] :=
  onN 400 [.inl, .inl, .lit, .lit, .callN chartBuild_V [] chartBuild_H, .inl, .lit, .heap] [21] (o_ chartBuild_eq (o_ (hsame (chartBuild_H ++ [.cells [.slice (some ⟨5, 0, none⟩) 3 3, .int .i64 1] 164 2])) o0)) (by kernel_rfl) rfl (by kernel_rfl)

theorem look_0_5_1_eq : AOnN Tryz.prog 61 [.int .i64 0, .int .i64 5, .bool true] [] (.tuple ⟨[.slice (some ⟨0, 0, none⟩) 3 UNK, .int .i64 1]⟩) [] [.row [.int .i64 3, .int .i64 4, .int .i64 9] 131 1] :=
  onN 400 [.inl, .inl, .lit, .lit, .callN chartBuild_V [] chartBuild_H, .inl, .lit, .heap] [21] (o_ chartBuild_eq (o_ (hsame (chartBuild_H ++ [.cells [.slice (some ⟨5, 0, none⟩) 3 3, .int .i64 1] 164 2])) o0)) (by kernel_rfl) rfl (by kernel_rfl)

theorem look_0_6_0_eq : AOnN Tryz.prog 61 [.int .i64 0, .int .i64 6, .bool false] [] (.tuple ⟨[.slice (some ⟨0, 0, none⟩) 3 UNK, .int .i64 2]⟩) [] [.row [.int .i64 3, .int .i64 4, .int .i64 9] 131 1] :=
  onN 400 [.inl, .inl, .lit, .lit, .callN chartBuild_V [] chartBuild_H, .inl, .lit, .heap] [21] (o_ chartBuild_eq (o_ (hsame (chartBuild_H ++ [.cells [.slice (some ⟨6, 0, none⟩) 3 3, .int .i64 2] 164 2])) o0)) (by kernel_rfl) rfl (by kernel_rfl)

theorem look_0_6_1_eq : AOnN Tryz.prog 61 [.int .i64 0, .int .i64 6, .bool true] [] (.tuple ⟨[.slice (some ⟨0, 0, none⟩) 3 UNK, .int .i64 2]⟩) [] [.row [.int .i64 3, .int .i64 4, .int .i64 9] 131 1] :=
  onN 400 [.inl, .inl, .lit, .lit, .callN chartBuild_V [] chartBuild_H, .inl, .lit, .heap] [21] (o_ chartBuild_eq (o_ (hsame (chartBuild_H ++ [.cells [.slice (some ⟨6, 0, none⟩) 3 3, .int .i64 2] 164 2])) o0)) (by kernel_rfl) rfl (by kernel_rfl)

theorem look_0_7_0_eq : AOnN Tryz.prog 61 [.int .i64 0, .int .i64 7, .bool false] [] (.tuple ⟨[.slice (some ⟨0, 0, none⟩) 2 UNK, .int .i64 2]⟩) [] [.row [.int .i64 2, .int .i64 9] 131 1] :=
  onN 400 [.inl, .inl, .lit, .lit, .callN chartBuild_V [] chartBuild_H, .inl, .lit, .heap] [21] (o_ chartBuild_eq (o_ (hsame (chartBuild_H ++ [.cells [.slice (some ⟨9, 0, none⟩) 2 2, .int .i64 2] 164 2])) o0)) (by kernel_rfl) rfl (by kernel_rfl)

theorem look_0_7_1_eq : AOnN Tryz.prog 61 [.int .i64 0, .int .i64 7, .bool true] [] (.tuple ⟨[.slice (some ⟨0, 0, none⟩) 2 UNK, .int .i64 2]⟩) [] [.row [.int .i64 2, .int .i64 9] 131 1] :=
  onN 400 [.inl, .inl, .lit, .lit, .callN chartBuild_V [] chartBuild_H, .inl, .lit, .heap] [21] (o_ chartBuild_eq (o_ (hsame (chartBuild_H ++ [.cells [.slice (some ⟨9, 0, none⟩) 2 2, .int .i64 2] 164 2])) o0)) (by kernel_rfl) rfl (by kernel_rfl)

theorem look_0_8_0_eq : AOnN Tryz.prog 61 [.int .i64 0, .int .i64 8, .bool false] [] (.tuple ⟨[.slice none 0 0, .int .i64 0]⟩) [] [] :=
  onN 400 [.inl, .inl, .lit, .lit, .callN chartBuild_V [] chartBuild_H, .inl, .lit, .heap] [] (o_ chartBuild_eq (o_ (hsame (chartBuild_H ++ [.cells [.slice none 0 0, .int .i64 0] 164 2])) o0)) (by kernel_rfl) rfl (by kernel_rfl)

theorem look_0_8_1_eq : AOnN Tryz.prog 61 [.int .i64 0, .int .i64 8, .bool true] [] (.tuple ⟨[.slice none 0 0, .int .i64 0]⟩) [] [] :=
  onN 400 [.inl, .inl, .lit, .lit, .callN chartBuild_V [] chartBuild_H, .inl, .lit, .heap] [] (o_ chartBuild_eq (o_ (hsame (chartBuild_H ++ [.cells [.slice none 0 0, .int .i64 0] 164 2])) o0)) (by kernel_rfl) rfl (by kernel_rfl)

theorem look_0_9_0_eq : AOnN Tryz.prog 61 [.int .i64 0, .int .i64 9, .bool false] [] (.tuple ⟨[.slice none 0 0, .int .i64 0]⟩) [] [] :=
  onN 400 [.inl, .inl, .lit, .lit, .callN chartBuild_V [] chartBuild_H, .inl, .lit, .heap] [] (o_ chartBuild_eq (o_ (hsame (chartBuild_H ++ [.cells [.slice none 0 0, .int .i64 0] 164 2])) o0)) (by kernel_rfl) rfl (by kernel_rfl)

theorem look_0_9_1_eq : AOnN Tryz.prog 61 [.int .i64 0, .int .i64 9, .bool true] [] (.tuple ⟨[.slice none 0 0, .int .i64 0]⟩) [] [] :=
  onN 400 [.inl, .inl, .lit, .lit, .callN chartBuild_V [] chartBuild_H, .inl, .lit, .heap] [] (o_ chartBuild_eq (o_ (hsame (chartBuild_H ++ [.cells [.slice none 0 0, .int .i64 0] 164 2])) o0)) (by kernel_rfl) rfl (by kernel_rfl)

theorem look_0_10_0_eq : AOnN Tryz.prog 61 [.int .i64 0, .int .i64 10, .bool false] [] (.tuple ⟨[.slice none 0 0, .int .i64 0]⟩) [] [] :=
  onN 400 [.inl, .inl, .lit, .lit, .callN chartBuild_V [] chartBuild_H, .inl, .lit, .heap] [] (o_ chartBuild_eq (o_ (hsame (chartBuild_H ++ [.cells [.slice none 0 0, .int .i64 0] 164 2])) o0)) (by kernel_rfl) rfl (by kernel_rfl)

theorem look_0_10_1_eq : AOnN Tryz.prog 61 [.int .i64 0, .int .i64 10, .bool true] [] (.tuple ⟨[.slice none 0 0, .int .i64 0]⟩) [] [] :=
  onN 400 [.inl, .inl, .lit, .lit, .callN chartBuild_V [] chartBuild_H, .inl, .lit, .heap] [] (o_ chartBuild_eq (o_ (hsame (chartBuild_H ++ [.cells [.slice none 0 0, .int .i64 0] 164 2])) o0)) (by kernel_rfl) rfl (by kernel_rfl)

theorem look_0_11_0_eq : AOnN Tryz.prog 61 [.int .i64 0, .int .i64 11, .bool false] [] (.tuple ⟨[.slice none 0 0, .int .i64 0]⟩) [] [] :=
  onN 400 [.inl, .inl, .lit, .lit, .callN chartBuild_V [] chartBuild_H, .inl, .lit, .heap] [] (o_ chartBuild_eq (o_ (hsame (chartBuild_H ++ [.cells [.slice none 0 0, .int .i64 0] 164 2])) o0)) (by kernel_rfl) rfl (by kernel_rfl)

theorem look_0_11_1_eq : AOnN Tryz.prog 61 [.int .i64 0, .int .i64 11, .bool true] [] (.tuple ⟨[.slice none 0 0, .int .i64 0]⟩) [] [] :=
  onN 400 [.inl, .inl, .lit, .lit, .callN chartBuild_V [] chartBuild_H, .inl, .lit, .heap] [] (o_ chartBuild_eq (o_ (hsame (chartBuild_H ++ [.cells [.slice none 0 0, .int .i64 0] 164 2])) o0)) (by kernel_rfl) rfl (by kernel_rfl)

theorem look_0_12_0_eq : AOnN Tryz.prog 61 [.int .i64 0, .int .i64 12, .bool false] [] (.tuple ⟨[.slice (some ⟨0, 0, none⟩) 1 UNK, .int .i64 0]⟩) [] [.row [.int .i64 11] 131 1] :=
  onN 400 [.inl, .inl, .lit, .lit, .callN chartBuild_V [] chartBuild_H, .inl, .lit, .heap] [21] (o_ chartBuild_eq (o_ (hsame (chartBuild_H ++ [.cells [.slice (some ⟨14, 0, none⟩) 1 1, .int .i64 0] 164 2])) o0)) (by kernel_rfl) rfl (by kernel_rfl)

theorem look_0_12_1_eq : AOnN Tryz.prog 61 [.int .i64 0, .int .i64 12, .bool true] [] (.tuple ⟨[.slice none 0 0, .int .i64 0]⟩) [] [] :=
  onN 400 [.inl, .inl, .lit, .lit, .callN chartBuild_V [] chartBuild_H, .inl, .lit, .heap] [] (o_ chartBuild_eq (o_ (hsame (chartBuild_H ++ [.cells [.slice none 0 0, .int .i64 0] 164 2])) o0)) (by kernel_rfl) rfl (by kernel_rfl)

theorem look_0_13_0_eq : AOnN Tryz.prog 61 [.int .i64 0, .int .i64 13, .bool false] [] (.tuple ⟨[.slice (some ⟨0, 0, none⟩) 1 UNK, .int .i64 0]⟩) [] [.row [.int .i64 12] 131 1] :=
  onN 400 [.inl, .inl, .lit, .lit, .callN chartBuild_V [] chartBuild_H, .inl, .lit, .heap] [21] (o_ chartBuild_eq (o_ (hsame (chartBuild_H ++ [.cells [.slice (some ⟨15, 0, none⟩) 1 1, .int .i64 0] 164 2])) o0)) (by kernel_rfl) rfl (by kernel_rfl)

theorem look_0_13_1_eq : AOnN Tryz.prog 61 [.int .i64 0, .int .i64 13, .bool true] [] (.tuple ⟨[.slice (some ⟨0, 0, none⟩) 1 UNK, .int .i64 0]⟩) [] [.row [.int .i64 12] 131 1] :=
  onN 400 [.inl, .inl, .lit, .lit, .callN chartBuild_V [] chartBuild_H, .inl, .lit, .heap] [21] (o_ chartBuild_eq (o_ (hsame (chartBuild_H ++ [.cells [.slice (some ⟨15, 0, none⟩) 1 1, .int .i64 0] 164 2])) o0)) (by kernel_rfl) rfl (by kernel_rfl)

theorem look_1_0_0_eq : AOnN Tryz.prog 61 [.int .i64 1, .int .i64 0, .bool false] [] (.tuple ⟨[.slice none 0 0, .int .i64 1]⟩) [] [] :=
  onN 400 [.inl, .inl, .lit, .lit, .callN chartBuild_V [] chartBuild_H, .inl, .lit, .heap] [] (o_ chartBuild_eq (o_ (hsame (chartBuild_H ++ [.cells [.slice none 0 0, .int .i64 1] 164 2])) o0)) (by kernel_rfl) rfl (by kernel_rfl)

theorem look_1_0_1_eq : AOnN Tryz.prog 61 [.int .i64 1, .int .i64 0, .bool true] [] (.tuple ⟨[.slice none 0 0, .int .i64 1]⟩) [] [] :=
  onN 400 [.inl, .inl, .lit, .lit, .callN chartBuild_V [] chartBuild_H, .inl, .lit, .heap] [] (o_ chartBuild_eq (o_ (hsame (chartBuild_H ++ [.cells [.slice none 0 0, .int .i64 1] 164 2])) o0)) (by kernel_rfl) rfl (by kernel_rfl)

theorem look_1_1_0_eq : AOnN Tryz.prog 61 [.int .i64 1, .int .i64 1, .bool false] [] (.tuple ⟨[.slice (some ⟨0, 0, none⟩) 2 UNK, .int .i64 3]⟩) [] [.row [.int .i64 0, .int .i64 9] 131 1] :=
  onN 400 [.inl, .inl, .lit, .lit, .callN chartBuild_V [] chartBuild_H, .inl, .lit, .heap] [21] (o_ chartBuild_eq (o_ (hsame (chartBuild_H ++ [.cells [.slice (some ⟨1, 0, none⟩) 2 2, .int .i64 3] 164 2])) o0)) (by kernel_rfl) rfl (by kernel_rfl)

theorem look_1_1_1_eq : AOnN Tryz.prog 61 [.int .i64 1, .int .i64 1, .bool true] [] (.tuple ⟨[.slice (some ⟨0, 0, none⟩) 2 UNK, .int .i64 3]⟩) [] [.row [.int .i64 0, .int .i64 9] 131 1] :=
  onN 400 [.inl, .inl, .lit, .lit, .callN chartBuild_V [] chartBuild_H, .inl, .lit, .heap] [21] (o_ chartBuild_eq (o_ (hsame (chartBuild_H ++ [.cells [.slice (some ⟨1, 0, none⟩) 2 2, .int .i64 3] 164 2])) o0)) (by kernel_rfl) rfl (by kernel_rfl)

theorem look_1_2_0_eq : AOnN Tryz.prog 61 [.int .i64 1, .int .i64 2, .bool false] [] (.tuple ⟨[.slice (some ⟨0, 0, none⟩) 3 UNK, .int .i64 3]⟩) [] [.row [.int .i64 13, .int .i64 4, .int .i64 9] 131 1] :=
  onN 400 [.inl, .inl, .lit, .lit, .callN chartBuild_V [] chartBuild_H, .inl, .lit, .heap] [21] (o_ chartBuild_eq (o_ (hsame (chartBuild_H ++ [.cells [.slice (some ⟨2, 0, none⟩) 3 3, .int .i64 3] 164 2])) o0)) (by kernel_rfl) rfl (by kernel_rfl)

theorem look_1_2_1_eq : AOnN Tryz.prog 61 [.int .i64 1, .int .i64 2, .bool true] [] (.tuple ⟨[.slice (some ⟨0, 0, none⟩) 3 UNK, .int .i64 3]⟩) [] [.row [.int .i64 13, .int .i64 4, .int .i64 9] 131 1] :=
  onN 400 [.inl, .inl, .lit, .lit, .callN chartBuild_V [] chartBuild_H, .inl, .lit, .heap] [21] (o_ chartBuild_eq (o_ (hsame (chartBuild_H ++ [.cells [.slice (some ⟨2, 0, none⟩) 3 3, .int .i64 3] 164 2])) o0)) (by kernel_rfl) rfl (by kernel_rfl)

theorem look_1_3_0_eq : AOnN Tryz.prog 61 [.int .i64 1, .int .i64 3, .bool false] [] (.tuple ⟨[.slice (some ⟨0, 0, none⟩) 2 UNK, .int .i64 1]⟩) [] [.row [.int .i64 1, .int .i64 9] 131 1] :=
  onN 400 [.inl, .inl, .lit, .lit, .callN chartBuild_V [] chartBuild_H, .inl, .lit, .heap] [21] (o_ chartBuild_eq (o_ (hsame (chartBuild_H ++ [.cells [.slice (some ⟨3, 0, none⟩) 2 2, .int .i64 1] 164 2])) o0)) (by kernel_rfl) rfl (by kernel_rfl)

theorem look_1_3_1_eq : AOnN Tryz.prog 61 [.int .i64 1, .int .i64 3, .bool true] [] (.tuple ⟨[.slice (some ⟨0, 0, none⟩) 2 UNK, .int .i64 1]⟩) [] [.row [.int .i64 1, .int .i64 9] 131 1] :=
  onN 400 [.inl, .inl, .lit, .lit, .callN chartBuild_V [] chartBuild_H, .inl, .lit, .heap] [21] (o_ chartBuild_eq (o_ (hsame (chartBuild_H ++ [.cells [.slice (some ⟨3, 0, none⟩) 2 2, .int .i64 1] 164 2])) o0)) (by kernel_rfl) rfl (by kernel_rfl)

theorem look_1_4_0_eq : AOnN Tryz.prog 61 [.int .i64 1, .int .i64 4, .bool false] [] (.tuple ⟨[.slice (some ⟨0, 0, none⟩) 3 UNK, .int .i64 4]⟩) [] [.row [.int .i64 5, .int .i64 6, .int .i64 7] 131 1] :=
  onN 400 [.inl, .inl, .lit, .lit, .callN chartBuild_V [] chartBuild_H, .inl, .lit, .heap] [21] (o_ chartBuild_eq (o_ (hsame (chartBuild_H ++ [.cells [.slice (some ⟨4, 0, none⟩) 3 3, .int .i64 4] 164 2])) o0)) (by kernel_rfl) rfl (by kernel_rfl)

theorem look_1_4_1_eq : AOnN Tryz.prog 61 [.int .i64 1, .int .i64 4, .bool true] [] (.tuple ⟨[.slice (some ⟨0, 0, none⟩) 3 UNK, .int .i64 4]⟩) [] [.row [.int .i64 5, .int .i64 6, .int .i64 7] 131 1] :=
  onN 400 [.inl, .inl, .lit, .lit, .callN chartBuild_V [] chartBuild_H, .inl, .lit, .heap] [21] (o_ chartBuild_eq (o_ (hsame (chartBuild_H ++ [.cells [.slice (some ⟨4, 0, none⟩) 3 3, .int .i64 4] 164 2])) o0)) (by kernel_rfl) rfl (by kernel_rfl)

theorem look_1_5_0_eq : AOnN Tryz.prog 61 [.int .i64 1, .int .i64 5, .bool false] [] (.tuple ⟨[.slice (some ⟨0, 0, none⟩) 3 UNK, .int .i64 1]⟩) [] [.row [.int .i64 3, .int .i64 4, .int .i64 9] 131 1] :=
  onN 400 [.inl, .inl, .lit, .lit, .callN chartBuild_V [] chartBuild_H, .inl, .lit, .heap] [21] (o_ chartBuild_eq (o_ (hsame (chartBuild_H ++ [.cells [.slice (some ⟨5, 0, none⟩) 3 3, .int .i64 1] 164 2])) o0)) (by kernel_rfl) rfl (by kernel_rfl)

theorem look_1_5_1_eq : AOnN Tryz.prog 61 [.int .i64 1, .int .i64 5, .bool true] [] (.tuple ⟨[.slice (some ⟨0, 0, none⟩) 3 UNK, .int .i64 1]⟩) [] [.row [.int .i64 3, .int .i64 4, .int .i64 9] 131 1] :=
  onN 400 [.inl, .inl, .lit, .lit, .callN chartBuild_V [] chartBuild_H, .inl, .lit, .heap] [21] (o_ chartBuild_eq (o_ (hsame (chartBuild_H ++ [.cells [.slice (some ⟨5, 0, none⟩) 3 3, .int .i64 1] 164 2])) o0)) (by kernel_rfl) rfl (by kernel_rfl)

theorem look_1_6_0_eq : AOnN Tryz.prog 61 [.int .i64 1, .int .i64 6, .bool false] [] (.tuple ⟨[.slice none 0 0, .int .i64 1]⟩) [] [] :=
  onN 400 [.inl, .inl, .lit, .lit, .callN chartBuild_V [] chartBuild_H, .inl, .lit, .heap] [] (o_ chartBuild_eq (o_ (hsame (chartBuild_H ++ [.cells [.slice none 0 0, .int .i64 1] 164 2])) o0)) (by kernel_rfl) rfl (by kernel_rfl)

theorem look_1_6_1_eq : AOnN Tryz.prog 61 [.int .i64 1, .int .i64 6, .bool true] [] (.tuple ⟨[.slice none 0 0, .int .i64 1]⟩) [] [] :=
  onN 400 [.inl, .inl, .lit, .lit, .callN chartBuild_V [] chartBuild_H, .inl, .lit, .heap] [] (o_ chartBuild_eq (o_ (hsame (chartBuild_H ++ [.cells [.slice none 0 0, .int .i64 1] 164 2])) o0)) (by kernel_rfl) rfl (by kernel_rfl)

theorem look_1_7_0_eq : AOnN Tryz.prog 61 [.int .i64 1, .int .i64 7, .bool false] [] (.tuple ⟨[.slice none 0 0, .int .i64 1]⟩) [] [] :=
  onN 400 [.inl, .inl, .lit, .lit, .callN chartBuild_V [] chartBuild_H, .inl, .lit, .heap] [] (o_ chartBuild_eq (o_ (hsame (chartBuild_H ++ [.cells [.slice none 0 0, .int .i64 1] 164 2])) o0)) (by kernel_rfl) rfl (by kernel_rfl)

theorem look_1_7_1_eq : AOnN Tryz.prog 61 [.int .i64 1, .int .i64 7, .bool true] [] (.tuple ⟨[.slice none 0 0, .int .i64 1]⟩) [] [] :=
  onN 400 [.inl, .inl, .lit, .lit, .callN chartBuild_V [] chartBuild_H, .inl, .lit, .heap] [] (o_ chartBuild_eq (o_ (hsame (chartBuild_H ++ [.cells [.slice none 0 0, .int .i64 1] 164 2])) o0)) (by kernel_rfl) rfl (by kernel_rfl)

theorem look_1_8_0_eq : AOnN Tryz.prog 61 [.int .i64 1, .int .i64 8, .bool false] [] (.tuple ⟨[.slice none 0 0, .int .i64 1]⟩) [] [] :=
  onN 400 [.inl, .inl, .lit, .lit, .callN chartBuild_V [] chartBuild_H, .inl, .lit, .heap] [] (o_ chartBuild_eq (o_ (hsame (chartBuild_H ++ [.cells [.slice none 0 0, .int .i64 1] 164 2])) o0)) (by kernel_rfl) rfl (by kernel_rfl)

theorem look_1_8_1_eq : AOnN Tryz.prog 61 [.int .i64 1, .int .i64 8, .bool true] [] (.tuple ⟨[.slice none 0 0, .int .i64 1]⟩) [] [] :=
  onN 400 [.inl, .inl, .lit, .lit, .callN chartBuild_V [] chartBuild_H, .inl, .lit, .heap] [] (o_ chartBuild_eq (o_ (hsame (chartBuild_H ++ [.cells [.slice none 0 0, .int .i64 1] 164 2])) o0)) (by kernel_rfl) rfl (by kernel_rfl)

theorem look_1_9_0_eq : AOnN Tryz.prog 61 [.int .i64 1, .int .i64 9, .bool false] [] (.tuple ⟨[.slice none 0 0, .int .i64 1]⟩) [] [] :=
  onN 400 [.inl, .inl, .lit, .lit, .callN chartBuild_V [] chartBuild_H, .inl, .lit, .heap] [] (o_ chartBuild_eq (o_ (hsame (chartBuild_H ++ [.cells [.slice none 0 0, .int .i64 1] 164 2])) o0)) (by kernel_rfl) rfl (by kernel_rfl)

theorem look_1_9_1_eq : AOnN Tryz.prog 61 [.int .i64 1, .int .i64 9, .bool true] [] (.tuple ⟨[.slice none 0 0, .int .i64 1]⟩) [] [] :=
  onN 400 [.inl, .inl, .lit, .lit, .callN chartBuild_V [] chartBuild_H, .inl, .lit, .heap] [] (o_ chartBuild_eq (o_ (hsame (chartBuild_H ++ [.cells [.slice none 0 0, .int .i64 1] 164 2])) o0)) (by kernel_rfl) rfl (by kernel_rfl)

theorem look_1_10_0_eq : AOnN Tryz.prog 61 [.int .i64 1, .int .i64 10, .bool false] [] (.tuple ⟨[.slice none 0 0, .int .i64 1]⟩) [] [] :=
  onN 400 [.inl, .inl, .lit, .lit, .callN chartBuild_V [] chartBuild_H, .inl, .lit, .heap] [] (o_ chartBuild_eq (o_ (hsame (chartBuild_H ++ [.cells [.slice none 0 0, .int .i64 1] 164 2])) o0)) (by kernel_rfl) rfl (by kernel_rfl)

theorem look_1_10_1_eq : AOnN Tryz.prog 61 [.int .i64 1, .int .i64 10, .bool true] [] (.tuple ⟨[.slice none 0 0, .int .i64 1]⟩) [] [] :=
  onN 400 [.inl, .inl, .lit, .lit, .callN chartBuild_V [] chartBuild_H, .inl, .lit, .heap] [] (o_ chartBuild_eq (o_ (hsame (chartBuild_H ++ [.cells [.slice none 0 0, .int .i64 1] 164 2])) o0)) (by kernel_rfl) rfl (by kernel_rfl)

theorem look_1_11_0_eq : AOnN Tryz.prog 61 [.int .i64 1, .int .i64 11, .bool false] [] (.tuple ⟨[.slice none 0 0, .int .i64 1]⟩) [] [] :=
  onN 400 [.inl, .inl, .lit, .lit, .callN chartBuild_V [] chartBuild_H, .inl, .lit, .heap] [] (o_ chartBuild_eq (o_ (hsame (chartBuild_H ++ [.cells [.slice none 0 0, .int .i64 1] 164 2])) o0)) (by kernel_rfl) rfl (by kernel_rfl)

theorem look_1_11_1_eq : AOnN Tryz.prog 61 [.int .i64 1, .int .i64 11, .bool true] [] (.tuple ⟨[.slice none 0 0, .int .i64 1]⟩) [] [] :=
  onN 400 [.inl, .inl, .lit, .lit, .callN chartBuild_V [] chartBuild_H, .inl, .lit, .heap] [] (o_ chartBuild_eq (o_ (hsame (chartBuild_H ++ [.cells [.slice none 0 0, .int .i64 1] 164 2])) o0)) (by kernel_rfl) rfl (by kernel_rfl)

theorem look_1_12_0_eq : AOnN Tryz.prog 61 [.int .i64 1, .int .i64 12, .bool false] [] (.tuple ⟨[.slice (some ⟨0, 0, none⟩) 1 UNK, .int .i64 0]⟩) [] [.row [.int .i64 11] 131 1] :=
  onN 400 [.inl, .inl, .lit, .lit, .callN chartBuild_V [] chartBuild_H, .inl, .lit, .heap] [21] (o_ chartBuild_eq (o_ (hsame (chartBuild_H ++ [.cells [.slice (some ⟨14, 0, none⟩) 1 1, .int .i64 0] 164 2])) o0)) (by kernel_rfl) rfl (by kernel_rfl)

theorem look_1_12_1_eq : AOnN Tryz.prog 61 [.int .i64 1, .int .i64 12, .bool true] [] (.tuple ⟨[.slice none 0 0, .int .i64 1]⟩) [] [] :=
  onN 400 [.inl, .inl, .lit, .lit, .callN chartBuild_V [] chartBuild_H, .inl, .lit, .heap] [] (o_ chartBuild_eq (o_ (hsame (chartBuild_H ++ [.cells [.slice none 0 0, .int .i64 1] 164 2])) o0)) (by kernel_rfl) rfl (by kernel_rfl)

theorem look_1_13_0_eq : AOnN Tryz.prog 61 [.int .i64 1, .int .i64 13, .bool false] [] (.tuple ⟨[.slice (some ⟨0, 0, none⟩) 1 UNK, .int .i64 4]⟩) [] [.row [.int .i64 7] 131 1] :=
  onN 400 [.inl, .inl, .lit, .lit, .callN chartBuild_V [] chartBuild_H, .inl, .lit, .heap] [21] (o_ chartBuild_eq (o_ (hsame (chartBuild_H ++ [.cells [.slice (some ⟨17, 0, none⟩) 1 1, .int .i64 4] 164 2])) o0)) (by kernel_rfl) rfl (by kernel_rfl)

theorem look_1_13_1_eq : AOnN Tryz.prog 61 [.int .i64 1, .int .i64 13, .bool true] [] (.tuple ⟨[.slice (some ⟨0, 0, none⟩) 1 UNK, .int .i64 4]⟩) [] [.row [.int .i64 7] 131 1] :=
  onN 400 [.inl, .inl, .lit, .lit, .callN chartBuild_V [] chartBuild_H, .inl, .lit, .heap] [21] (o_ chartBuild_eq (o_ (hsame (chartBuild_H ++ [.cells [.slice (some ⟨17, 0, none⟩) 1 1, .int .i64 4] 164 2])) o0)) (by kernel_rfl) rfl (by kernel_rfl)

theorem look_2_0_0_eq : AOnN Tryz.prog 61 [.int .i64 2, .int .i64 0, .bool false] [] (.tuple ⟨[.slice none 0 0, .int .i64 2]⟩) [] [] :=
  onN 400 [.inl, .inl, .lit, .lit, .callN chartBuild_V [] chartBuild_H, .inl, .lit, .heap] [] (o_ chartBuild_eq (o_ (hsame (chartBuild_H ++ [.cells [.slice none 0 0, .int .i64 2] 164 2])) o0)) (by kernel_rfl) rfl (by kernel_rfl)

theorem look_2_0_1_eq : AOnN Tryz.prog 61 [.int .i64 2, .int .i64 0, .bool true] [] (.tuple ⟨[.slice (some ⟨0, 0, none⟩) 3 UNK, .int .i64 4]⟩) [] [.row [.int .i64 5, .int .i64 6, .int .i64 8] 131 1] :=
  onN 400 [.inl, .inl, .lit, .lit, .callN chartBuild_V [] chartBuild_H, .inl, .lit, .heap] [21] (o_ chartBuild_eq (o_ (hsame (chartBuild_H ++ [.cells [.slice (some ⟨10, 0, none⟩) 3 3, .int .i64 4] 164 2])) o0)) (by kernel_rfl) rfl (by kernel_rfl)

theorem look_2_1_0_eq : AOnN Tryz.prog 61 [.int .i64 2, .int .i64 1, .bool false] [] (.tuple ⟨[.slice (some ⟨0, 0, none⟩) 2 UNK, .int .i64 3]⟩) [] [.row [.int .i64 0, .int .i64 9] 131 1] :=
  onN 400 [.inl, .inl, .lit, .lit, .callN chartBuild_V [] chartBuild_H, .inl, .lit, .heap] [21] (o_ chartBuild_eq (o_ (hsame (chartBuild_H ++ [.cells [.slice (some ⟨1, 0, none⟩) 2 2, .int .i64 3] 164 2])) o0)) (by kernel_rfl) rfl (by kernel_rfl)

theorem look_2_1_1_eq : AOnN Tryz.prog 61 [.int .i64 2, .int .i64 1, .bool true] [] (.tuple ⟨[.slice (some ⟨0, 0, none⟩) 2 UNK, .int .i64 3]⟩) [] [.row [.int .i64 0, .int .i64 9] 131 1] :=
  onN 400 [.inl, .inl, .lit, .lit, .callN chartBuild_V [] chartBuild_H, .inl, .lit, .heap] [21] (o_ chartBuild_eq (o_ (hsame (chartBuild_H ++ [.cells [.slice (some ⟨1, 0, none⟩) 2 2, .int .i64 3] 164 2])) o0)) (by kernel_rfl) rfl (by kernel_rfl)

theorem look_2_2_0_eq : AOnN Tryz.prog 61 [.int .i64 2, .int .i64 2, .bool false] [] (.tuple ⟨[.slice (some ⟨0, 0, none⟩) 3 UNK, .int .i64 3]⟩) [] [.row [.int .i64 13, .int .i64 4, .int .i64 9] 131 1] :=
  onN 400 [.inl, .inl, .lit, .lit, .callN chartBuild_V [] chartBuild_H, .inl, .lit, .heap] [21] (o_ chartBuild_eq (o_ (hsame (chartBuild_H ++ [.cells [.slice (some ⟨2, 0, none⟩) 3 3, .int .i64 3] 164 2])) o0)) (by kernel_rfl) rfl (by kernel_rfl)

theorem look_2_2_1_eq : AOnN Tryz.prog 61 [.int .i64 2, .int .i64 2, .bool true] [] (.tuple ⟨[.slice (some ⟨0, 0, none⟩) 3 UNK, .int .i64 3]⟩) [] [.row [.int .i64 13, .int .i64 4, .int .i64 9] 131 1] :=
  onN 400 [.inl, .inl, .lit, .lit, .callN chartBuild_V [] chartBuild_H, .inl, .lit, .heap] [21] (o_ chartBuild_eq (o_ (hsame (chartBuild_H ++ [.cells [.slice (some ⟨2, 0, none⟩) 3 3, .int .i64 3] 164 2])) o0)) (by kernel_rfl) rfl (by kernel_rfl)

theorem look_2_3_0_eq : AOnN Tryz.prog 61 [.int .i64 2, .int .i64 3, .bool false] [] (.tuple ⟨[.slice (some ⟨0, 0, none⟩) 2 UNK, .int .i64 1]⟩) [] [.row [.int .i64 1, .int .i64 9] 131 1] :=
  onN 400 [.inl, .inl, .lit, .lit, .callN chartBuild_V [] chartBuild_H, .inl, .lit, .heap] [21] (o_ chartBuild_eq (o_ (hsame (chartBuild_H ++ [.cells [.slice (some ⟨3, 0, none⟩) 2 2, .int .i64 1] 164 2])) o0)) (by kernel_rfl) rfl (by kernel_rfl)

theorem look_2_3_1_eq : AOnN Tryz.prog 61 [.int .i64 2, .int .i64 3, .bool true] [] (.tuple ⟨[.slice (some ⟨0, 0, none⟩) 2 UNK, .int .i64 1]⟩) [] [.row [.int .i64 1, .int .i64 9] 131 1] :=
  onN 400 [.inl, .inl, .lit, .lit, .callN chartBuild_V [] chartBuild_H, .inl, .lit, .heap] [21] (o_ chartBuild_eq (o_ (hsame (chartBuild_H ++ [.cells [.slice (some ⟨3, 0, none⟩) 2 2, .int .i64 1] 164 2])) o0)) (by kernel_rfl) rfl (by kernel_rfl)

theorem look_2_4_0_eq : AOnN Tryz.prog 61 [.int .i64 2, .int .i64 4, .bool false] [] (.tuple ⟨[.slice none 0 0, .int .i64 2]⟩) [] [] :=
  onN 400 [.inl, .inl, .lit, .lit, .callN chartBuild_V [] chartBuild_H, .inl, .lit, .heap] [] (o_ chartBuild_eq (o_ (hsame (chartBuild_H ++ [.cells [.slice none 0 0, .int .i64 2] 164 2])) o0)) (by kernel_rfl) rfl (by kernel_rfl)

theorem look_2_4_1_eq : AOnN Tryz.prog 61 [.int .i64 2, .int .i64 4, .bool true] [] (.tuple ⟨[.slice none 0 0, .int .i64 2]⟩) [] [] :=
  onN 400 [.inl, .inl, .lit, .lit, .callN chartBuild_V [] chartBuild_H, .inl, .lit, .heap] [] (o_ chartBuild_eq (o_ (hsame (chartBuild_H ++ [.cells [.slice none 0 0, .int .i64 2] 164 2])) o0)) (by kernel_rfl) rfl (by kernel_rfl)

theorem look_2_5_0_eq : AOnN Tryz.prog 61 [.int .i64 2, .int .i64 5, .bool false] [] (.tuple ⟨[.slice (some ⟨0, 0, none⟩) 3 UNK, .int .i64 1]⟩) [] [.row [.int .i64 3, .int .i64 4, .int .i64 9] 131 1] :=
  onN 400 [.inl, .inl, .lit, .lit, .callN chartBuild_V [] chartBuild_H, .inl, .lit, .heap] [21] (o_ chartBuild_eq (o_ (hsame (chartBuild_H ++ [.cells [.slice (some ⟨5, 0, none⟩) 3 3, .int .i64 1] 164 2])) o0)) (by kernel_rfl) rfl (by kernel_rfl)

theorem look_2_5_1_eq : AOnN Tryz.prog 61 [.int .i64 2, .int .i64 5, .bool true] [] (.tuple ⟨[.slice (some ⟨0, 0, none⟩) 3 UNK, .int .i64 1]⟩) [] [.row [.int .i64 3, .int .i64 4, .int .i64 9] 131 1] :=
  onN 400 [.inl, .inl, .lit, .lit, .callN chartBuild_V [] chartBuild_H, .inl, .lit, .heap] [21] (o_ chartBuild_eq (o_ (hsame (chartBuild_H ++ [.cells [.slice (some ⟨5, 0, none⟩) 3 3, .int .i64 1] 164 2])) o0)) (by kernel_rfl) rfl (by kernel_rfl)

theorem look_2_6_0_eq : AOnN Tryz.prog 61 [.int .i64 2, .int .i64 6, .bool false] [] (.tuple ⟨[.slice (some ⟨0, 0, none⟩) 2 UNK, .int .i64 2]⟩) [] [.row [.int .i64 3, .int .i64 4] 131 1] :=
  onN 400 [.inl, .inl, .lit, .lit, .callN chartBuild_V [] chartBuild_H, .inl, .lit, .heap] [21] (o_ chartBuild_eq (o_ (hsame (chartBuild_H ++ [.cells [.slice (some ⟨8, 0, none⟩) 2 2, .int .i64 2] 164 2])) o0)) (by kernel_rfl) rfl (by kernel_rfl)

theorem look_2_6_1_eq : AOnN Tryz.prog 61 [.int .i64 2, .int .i64 6, .bool true] [] (.tuple ⟨[.slice (some ⟨0, 0, none⟩) 3 UNK, .int .i64 4]⟩) [] [.row [.int .i64 5, .int .i64 6, .int .i64 8] 131 1] :=
  onN 400 [.inl, .inl, .lit, .lit, .callN chartBuild_V [] chartBuild_H, .inl, .lit, .heap] [21] (o_ chartBuild_eq (o_ (hsame (chartBuild_H ++ [.cells [.slice (some ⟨7, 0, none⟩) 3 3, .int .i64 4] 164 2])) o0)) (by kernel_rfl) rfl (by kernel_rfl)

theorem look_2_7_0_eq : AOnN Tryz.prog 61 [.int .i64 2, .int .i64 7, .bool false] [] (.tuple ⟨[.slice none 0 0, .int .i64 2]⟩) [] [] :=
  onN 400 [.inl, .inl, .lit, .lit, .callN chartBuild_V [] chartBuild_H, .inl, .lit, .heap] [] (o_ chartBuild_eq (o_ (hsame (chartBuild_H ++ [.cells [.slice none 0 0, .int .i64 2] 164 2])) o0)) (by kernel_rfl) rfl (by kernel_rfl)

theorem look_2_7_1_eq : AOnN Tryz.prog 61 [.int .i64 2, .int .i64 7, .bool true] [] (.tuple ⟨[.slice none 0 0, .int .i64 2]⟩) [] [] :=
  onN 400 [.inl, .inl, .lit, .lit, .callN chartBuild_V [] chartBuild_H, .inl, .lit, .heap] [] (o_ chartBuild_eq (o_ (hsame (chartBuild_H ++ [.cells [.slice none 0 0, .int .i64 2] 164 2])) o0)) (by kernel_rfl) rfl (by kernel_rfl)

theorem look_2_8_0_eq : AOnN Tryz.prog 61 [.int .i64 2, .int .i64 8, .bool false] [] (.tuple ⟨[.slice none 0 0, .int .i64 2]⟩) [] [] :=
  onN 400 [.inl, .inl, .lit, .lit, .callN chartBuild_V [] chartBuild_H, .inl, .lit, .heap] [] (o_ chartBuild_eq (o_ (hsame (chartBuild_H ++ [.cells [.slice none 0 0, .int .i64 2] 164 2])) o0)) (by kernel_rfl) rfl (by kernel_rfl)

theorem look_2_8_1_eq : AOnN Tryz.prog 61 [.int .i64 2, .int .i64 8, .bool true] [] (.tuple ⟨[.slice none 0 0, .int .i64 2]⟩) [] [] :=
  onN 400 [.inl, .inl, .lit, .lit, .callN chartBuild_V [] chartBuild_H, .inl, .lit, .heap] [] (o_ chartBuild_eq (o_ (hsame (chartBuild_H ++ [.cells [.slice none 0 0, .int .i64 2] 164 2])) o0)) (by kernel_rfl) rfl (by kernel_rfl)

theorem look_2_9_0_eq : AOnN Tryz.prog 61 [.int .i64 2, .int .i64 9, .bool false] [] (.tuple ⟨[.slice none 0 0, .int .i64 2]⟩) [] [] :=
  onN 400 [.inl, .inl, .lit, .lit, .callN chartBuild_V [] chartBuild_H, .inl, .lit, .heap] [] (o_ chartBuild_eq (o_ (hsame (chartBuild_H ++ [.cells [.slice none 0 0, .int .i64 2] 164 2])) o0)) (by kernel_rfl) rfl (by kernel_rfl)

theorem look_2_9_1_eq : AOnN Tryz.prog 61 [.int .i64 2, .int .i64 9, .bool true] [] (.tuple ⟨[.slice none 0 0, .int .i64 2]⟩) [] [] :=
  onN 400 [.inl, .inl, .lit, .lit, .callN chartBuild_V [] chartBuild_H, .inl, .lit, .heap] [] (o_ chartBuild_eq (o_ (hsame (chartBuild_H ++ [.cells [.slice none 0 0, .int .i64 2] 164 2])) o0)) (by kernel_rfl) rfl (by kernel_rfl)

theorem look_2_10_0_eq : AOnN Tryz.prog 61 [.int .i64 2, .int .i64 10, .bool false] [] (.tuple ⟨[.slice none 0 0, .int .i64 2]⟩) [] [] :=
  onN 400 [.inl, .inl, .lit, .lit, .callN chartBuild_V [] chartBuild_H, .inl, .lit, .heap] [] (o_ chartBuild_eq (o_ (hsame (chartBuild_H ++ [.cells [.slice none 0 0, .int .i64 2] 164 2])) o0)) (by kernel_rfl) rfl (by kernel_rfl)

theorem look_2_10_1_eq : AOnN Tryz.prog 61 [.int .i64 2, .int .i64 10, .bool true] [] (.tuple ⟨[.slice none 0 0, .int .i64 2]⟩) [] [] :=
  onN 400 [.inl, .inl, .lit, .lit, .callN chartBuild_V [] chartBuild_H, .inl, .lit, .heap] [] (o_ chartBuild_eq (o_ (hsame (chartBuild_H ++ [.cells [.slice none 0 0, .int .i64 2] 164 2])) o0)) (by kernel_rfl) rfl (by kernel_rfl)

theorem look_2_11_0_eq : AOnN Tryz.prog 61 [.int .i64 2, .int .i64 11, .bool false] [] (.tuple ⟨[.slice none 0 0, .int .i64 2]⟩) [] [] :=
  onN 400 [.inl, .inl, .lit, .lit, .callN chartBuild_V [] chartBuild_H, .inl, .lit, .heap] [] (o_ chartBuild_eq (o_ (hsame (chartBuild_H ++ [.cells [.slice none 0 0, .int .i64 2] 164 2])) o0)) (by kernel_rfl) rfl (by kernel_rfl)

theorem look_2_11_1_eq : AOnN Tryz.prog 61 [.int .i64 2, .int .i64 11, .bool true] [] (.tuple ⟨[.slice none 0 0, .int .i64 2]⟩) [] [] :=
  onN 400 [.inl, .inl, .lit, .lit, .callN chartBuild_V [] chartBuild_H, .inl, .lit, .heap] [] (o_ chartBuild_eq (o_ (hsame (chartBuild_H ++ [.cells [.slice none 0 0, .int .i64 2] 164 2])) o0)) (by kernel_rfl) rfl (by kernel_rfl)

theorem look_2_12_0_eq : AOnN Tryz.prog 61 [.int .i64 2, .int .i64 12, .bool false] [] (.tuple ⟨[.slice (some ⟨0, 0, none⟩) 1 UNK, .int .i64 0]⟩) [] [.row [.int .i64 11] 131 1] :=
  onN 400 [.inl, .inl, .lit, .lit, .callN chartBuild_V [] chartBuild_H, .inl, .lit, .heap] [21] (o_ chartBuild_eq (o_ (hsame (chartBuild_H ++ [.cells [.slice (some ⟨14, 0, none⟩) 1 1, .int .i64 0] 164 2])) o0)) (by kernel_rfl) rfl (by kernel_rfl)

theorem look_2_12_1_eq : AOnN Tryz.prog 61 [.int .i64 2, .int .i64 12, .bool true] [] (.tuple ⟨[.slice none 0 0, .int .i64 2]⟩) [] [] :=
  onN 400 [.inl, .inl, .lit, .lit, .callN chartBuild_V [] chartBuild_H, .inl, .lit, .heap] [] (o_ chartBuild_eq (o_ (hsame (chartBuild_H ++ [.cells [.slice none 0 0, .int .i64 2] 164 2])) o0)) (by kernel_rfl) rfl (by kernel_rfl)

theorem look_2_13_0_eq : AOnN Tryz.prog 61 [.int .i64 2, .int .i64 13, .bool false] [] (.tuple ⟨[.slice (some ⟨0, 0, none⟩) 1 UNK, .int .i64 4]⟩) [] [.row [.int .i64 8] 131 1] :=
  onN 400 [.inl, .inl, .lit, .lit, .callN chartBuild_V [] chartBuild_H, .inl, .lit, .heap] [21] (o_ chartBuild_eq (o_ (hsame (chartBuild_H ++ [.cells [.slice (some ⟨18, 0, none⟩) 1 1, .int .i64 4] 164 2])) o0)) (by kernel_rfl) rfl (by kernel_rfl)

theorem look_2_13_1_eq : AOnN Tryz.prog 61 [.int .i64 2, .int .i64 13, .bool true] [] (.tuple ⟨[.slice none 0 0, .int .i64 2]⟩) [] [] :=
  onN 400 [.inl, .inl, .lit, .lit, .callN chartBuild_V [] chartBuild_H, .inl, .lit, .heap] [] (o_ chartBuild_eq (o_ (hsame (chartBuild_H ++ [.cells [.slice none 0 0, .int .i64 2] 164 2])) o0)) (by kernel_rfl) rfl (by kernel_rfl)

theorem look_3_0_0_eq : AOnN Tryz.prog 61 [.int .i64 3, .int .i64 0, .bool false] [] (.tuple ⟨[.slice none 0 0, .int .i64 3]⟩) [] [] :=
  onN 400 [.inl, .inl, .lit, .lit, .callN chartBuild_V [] chartBuild_H, .inl, .lit, .heap] [] (o_ chartBuild_eq (o_ (hsame (chartBuild_H ++ [.cells [.slice none 0 0, .int .i64 3] 164 2])) o0)) (by kernel_rfl) rfl (by kernel_rfl)

theorem look_3_0_1_eq : AOnN Tryz.prog 61 [.int .i64 3, .int .i64 0, .bool true] [] (.tuple ⟨[.slice (some ⟨0, 0, none⟩) 3 UNK, .int .i64 4]⟩) [] [.row [.int .i64 5, .int .i64 6, .int .i64 8] 131 1] :=
  onN 400 [.inl, .inl, .lit, .lit, .callN chartBuild_V [] chartBuild_H, .inl, .lit, .heap] [21] (o_ chartBuild_eq (o_ (hsame (chartBuild_H ++ [.cells [.slice (some ⟨10, 0, none⟩) 3 3, .int .i64 4] 164 2])) o0)) (by kernel_rfl) rfl (by kernel_rfl)

theorem look_3_1_0_eq : AOnN Tryz.prog 61 [.int .i64 3, .int .i64 1, .bool false] [] (.tuple ⟨[.slice (some ⟨0, 0, none⟩) 2 UNK, .int .i64 3]⟩) [] [.row [.int .i64 0, .int .i64 9] 131 1] :=
  onN 400 [.inl, .inl, .lit, .lit, .callN chartBuild_V [] chartBuild_H, .inl, .lit, .heap] [21] (o_ chartBuild_eq (o_ (hsame (chartBuild_H ++ [.cells [.slice (some ⟨1, 0, none⟩) 2 2, .int .i64 3] 164 2])) o0)) (by kernel_rfl) rfl (by kernel_rfl)

theorem look_3_1_1_eq : AOnN Tryz.prog 61 [.int .i64 3, .int .i64 1, .bool true] [] (.tuple ⟨[.slice (some ⟨0, 0, none⟩) 2 UNK, .int .i64 3]⟩) [] [.row [.int .i64 0, .int .i64 9] 131 1] :=
  onN 400 [.inl, .inl, .lit, .lit, .callN chartBuild_V [] chartBuild_H, .inl, .lit, .heap] [21] (o_ chartBuild_eq (o_ (hsame (chartBuild_H ++ [.cells [.slice (some ⟨1, 0, none⟩) 2 2, .int .i64 3] 164 2])) o0)) (by kernel_rfl) rfl (by kernel_rfl)

theorem look_3_2_0_eq : AOnN Tryz.prog 61 [.int .i64 3, .int .i64 2, .bool false] [] (.tuple ⟨[.slice none 0 0, .int .i64 3]⟩) [] [] :=
  onN 400 [.inl, .inl, .lit, .lit, .callN chartBuild_V [] chartBuild_H, .inl, .lit, .heap] [] (o_ chartBuild_eq (o_ (hsame (chartBuild_H ++ [.cells [.slice none 0 0, .int .i64 3] 164 2])) o0)) (by kernel_rfl) rfl (by kernel_rfl)

theorem look_3_2_1_eq : AOnN Tryz.prog 61 [.int .i64 3, .int .i64 2, .bool true] [] (.tuple ⟨[.slice none 0 0, .int .i64 3]⟩) [] [] :=
  onN 400 [.inl, .inl, .lit, .lit, .callN chartBuild_V [] chartBuild_H, .inl, .lit, .heap] [] (o_ chartBuild_eq (o_ (hsame (chartBuild_H ++ [.cells [.slice none 0 0, .int .i64 3] 164 2])) o0)) (by kernel_rfl) rfl (by kernel_rfl)

theorem look_3_3_0_eq : AOnN Tryz.prog 61 [.int .i64 3, .int .i64 3, .bool false] [] (.tuple ⟨[.slice none 0 0, .int .i64 3]⟩) [] [] :=
  onN 400 [.inl, .inl, .lit, .lit, .callN chartBuild_V [] chartBuild_H, .inl, .lit, .heap] [] (o_ chartBuild_eq (o_ (hsame (chartBuild_H ++ [.cells [.slice none 0 0, .int .i64 3] 164 2])) o0)) (by kernel_rfl) rfl (by kernel_rfl)

theorem look_3_3_1_eq : AOnN Tryz.prog 61 [.int .i64 3, .int .i64 3, .bool true] [] (.tuple ⟨[.slice none 0 0, .int .i64 3]⟩) [] [] :=
  onN 400 [.inl, .inl, .lit, .lit, .callN chartBuild_V [] chartBuild_H, .inl, .lit, .heap] [] (o_ chartBuild_eq (o_ (hsame (chartBuild_H ++ [.cells [.slice none 0 0, .int .i64 3] 164 2])) o0)) (by kernel_rfl) rfl (by kernel_rfl)

theorem look_3_4_0_eq : AOnN Tryz.prog 61 [.int .i64 3, .int .i64 4, .bool false] [] (.tuple ⟨[.slice none 0 0, .int .i64 3]⟩) [] [] :=
  onN 400 [.inl, .inl, .lit, .lit, .callN chartBuild_V [] chartBuild_H, .inl, .lit, .heap] [] (o_ chartBuild_eq (o_ (hsame (chartBuild_H ++ [.cells [.slice none 0 0, .int .i64 3] 164 2])) o0)) (by kernel_rfl) rfl (by kernel_rfl)

theorem look_3_4_1_eq : AOnN Tryz.prog 61 [.int .i64 3, .int .i64 4, .bool true] [] (.tuple ⟨[.slice none 0 0, .int .i64 3]⟩) [] [] :=
  onN 400 [.inl, .inl, .lit, .lit, .callN chartBuild_V [] chartBuild_H, .inl, .lit, .heap] [] (o_ chartBuild_eq (o_ (hsame (chartBuild_H ++ [.cells [.slice none 0 0, .int .i64 3] 164 2])) o0)) (by kernel_rfl) rfl (by kernel_rfl)

theorem look_3_5_0_eq : AOnN Tryz.prog 61 [.int .i64 3, .int .i64 5, .bool false] [] (.tuple ⟨[.slice none 0 0, .int .i64 3]⟩) [] [] :=
  onN 400 [.inl, .inl, .lit, .lit, .callN chartBuild_V [] chartBuild_H, .inl, .lit, .heap] [] (o_ chartBuild_eq (o_ (hsame (chartBuild_H ++ [.cells [.slice none 0 0, .int .i64 3] 164 2])) o0)) (by kernel_rfl) rfl (by kernel_rfl)

theorem look_3_5_1_eq : AOnN Tryz.prog 61 [.int .i64 3, .int .i64 5, .bool true] [] (.tuple ⟨[.slice none 0 0, .int .i64 3]⟩) [] [] :=
  onN 400 [.inl, .inl, .lit, .lit, .callN chartBuild_V [] chartBuild_H, .inl, .lit, .heap] [] (o_ chartBuild_eq (o_ (hsame (chartBuild_H ++ [.cells [.slice none 0 0, .int .i64 3] 164 2])) o0)) (by kernel_rfl) rfl (by kernel_rfl)

theorem look_3_6_0_eq : AOnN Tryz.prog 61 [.int .i64 3, .int .i64 6, .bool false] [] (.tuple ⟨[.slice none 0 0, .int .i64 3]⟩) [] [] :=
  onN 400 [.inl, .inl, .lit, .lit, .callN chartBuild_V [] chartBuild_H, .inl, .lit, .heap] [] (o_ chartBuild_eq (o_ (hsame (chartBuild_H ++ [.cells [.slice none 0 0, .int .i64 3] 164 2])) o0)) (by kernel_rfl) rfl (by kernel_rfl)

theorem look_3_6_1_eq : AOnN Tryz.prog 61 [.int .i64 3, .int .i64 6, .bool true] [] (.tuple ⟨[.slice none 0 0, .int .i64 3]⟩) [] [] :=
  onN 400 [.inl, .inl, .lit, .lit, .callN chartBuild_V [] chartBuild_H, .inl, .lit, .heap] [] (o_ chartBuild_eq (o_ (hsame (chartBuild_H ++ [.cells [.slice none 0 0, .int .i64 3] 164 2])) o0)) (by kernel_rfl) rfl (by kernel_rfl)

theorem look_3_7_0_eq : AOnN Tryz.prog 61 [.int .i64 3, .int .i64 7, .bool false] [] (.tuple ⟨[.slice none 0 0, .int .i64 3]⟩) [] [] :=
  onN 400 [.inl, .inl, .lit, .lit, .callN chartBuild_V [] chartBuild_H, .inl, .lit, .heap] [] (o_ chartBuild_eq (o_ (hsame (chartBuild_H ++ [.cells [.slice none 0 0, .int .i64 3] 164 2])) o0)) (by kernel_rfl) rfl (by kernel_rfl)

theorem look_3_7_1_eq : AOnN Tryz.prog 61 [.int .i64 3, .int .i64 7, .bool true] [] (.tuple ⟨[.slice none 0 0, .int .i64 3]⟩) [] [] :=
  onN 400 [.inl, .inl, .lit, .lit, .callN chartBuild_V [] chartBuild_H, .inl, .lit, .heap] [] (o_ chartBuild_eq (o_ (hsame (chartBuild_H ++ [.cells [.slice none 0 0, .int .i64 3] 164 2])) o0)) (by kernel_rfl) rfl (by kernel_rfl)

theorem look_3_8_0_eq : AOnN Tryz.prog 61 [.int .i64 3, .int .i64 8, .bool false] [] (.tuple ⟨[.slice none 0 0, .int .i64 3]⟩) [] [] :=
  onN 400 [.inl, .inl, .lit, .lit, .callN chartBuild_V [] chartBuild_H, .inl, .lit, .heap] [] (o_ chartBuild_eq (o_ (hsame (chartBuild_H ++ [.cells [.slice none 0 0, .int .i64 3] 164 2])) o0)) (by kernel_rfl) rfl (by kernel_rfl)

theorem look_3_8_1_eq : AOnN Tryz.prog 61 [.int .i64 3, .int .i64 8, .bool true] [] (.tuple ⟨[.slice none 0 0, .int .i64 3]⟩) [] [] :=
  onN 400 [.inl, .inl, .lit, .lit, .callN chartBuild_V [] chartBuild_H, .inl, .lit, .heap] [] (o_ chartBuild_eq (o_ (hsame (chartBuild_H ++ [.cells [.slice none 0 0, .int .i64 3] 164 2])) o0)) (by kernel_rfl) rfl (by kernel_rfl)

theorem look_3_9_0_eq : AOnN Tryz.prog 61 [.int .i64 3, .int .i64 9, .bool false] [] (.tuple ⟨[.slice none 0 0, .int .i64 3]⟩) [] [] :=
  onN 400 [.inl, .inl, .lit, .lit, .callN chartBuild_V [] chartBuild_H, .inl, .lit, .heap] [] (o_ chartBuild_eq (o_ (hsame (chartBuild_H ++ [.cells [.slice none 0 0, .int .i64 3] 164 2])) o0)) (by kernel_rfl) rfl (by kernel_rfl)

theorem look_3_9_1_eq : AOnN Tryz.prog 61 [.int .i64 3, .int .i64 9, .bool true] [] (.tuple ⟨[.slice none 0 0, .int .i64 3]⟩) [] [] :=
  onN 400 [.inl, .inl, .lit, .lit, .callN chartBuild_V [] chartBuild_H, .inl, .lit, .heap] [] (o_ chartBuild_eq (o_ (hsame (chartBuild_H ++ [.cells [.slice none 0 0, .int .i64 3] 164 2])) o0)) (by kernel_rfl) rfl (by kernel_rfl)

theorem look_3_10_0_eq : AOnN Tryz.prog 61 [.int .i64 3, .int .i64 10, .bool false] [] (.tuple ⟨[.slice none 0 0, .int .i64 3]⟩) [] [] :=
  onN 400 [.inl, .inl, .lit, .lit, .callN chartBuild_V [] chartBuild_H, .inl, .lit, .heap] [] (o_ chartBuild_eq (o_ (hsame (chartBuild_H ++ [.cells [.slice none 0 0, .int .i64 3] 164 2])) o0)) (by kernel_rfl) rfl (by kernel_rfl)

theorem look_3_10_1_eq : AOnN Tryz.prog 61 [.int .i64 3, .int .i64 10, .bool true] [] (.tuple ⟨[.slice none 0 0, .int .i64 3]⟩) [] [] :=
  onN 400 [.inl, .inl, .lit, .lit, .callN chartBuild_V [] chartBuild_H, .inl, .lit, .heap] [] (o_ chartBuild_eq (o_ (hsame (chartBuild_H ++ [.cells [.slice none 0 0, .int .i64 3] 164 2])) o0)) (by kernel_rfl) rfl (by kernel_rfl)

theorem look_3_11_0_eq : AOnN Tryz.prog 61 [.int .i64 3, .int .i64 11, .bool false] [] (.tuple ⟨[.slice none 0 0, .int .i64 3]⟩) [] [] :=
  onN 400 [.inl, .inl, .lit, .lit, .callN chartBuild_V [] chartBuild_H, .inl, .lit, .heap] [] (o_ chartBuild_eq (o_ (hsame (chartBuild_H ++ [.cells [.slice none 0 0, .int .i64 3] 164 2])) o0)) (by kernel_rfl) rfl (by kernel_rfl)

theorem look_3_11_1_eq : AOnN Tryz.prog 61 [.int .i64 3, .int .i64 11, .bool true] [] (.tuple ⟨[.slice none 0 0, .int .i64 3]⟩) [] [] :=
  onN 400 [.inl, .inl, .lit, .lit, .callN chartBuild_V [] chartBuild_H, .inl, .lit, .heap] [] (o_ chartBuild_eq (o_ (hsame (chartBuild_H ++ [.cells [.slice none 0 0, .int .i64 3] 164 2])) o0)) (by kernel_rfl) rfl (by kernel_rfl)

theorem look_3_12_0_eq : AOnN Tryz.prog 61 [.int .i64 3, .int .i64 12, .bool false] [] (.tuple ⟨[.slice (some ⟨0, 0, none⟩) 1 UNK, .int .i64 0]⟩) [] [.row [.int .i64 11] 131 1] :=
  onN 400 [.inl, .inl, .lit, .lit, .callN chartBuild_V [] chartBuild_H, .inl, .lit, .heap] [21] (o_ chartBuild_eq (o_ (hsame (chartBuild_H ++ [.cells [.slice (some ⟨14, 0, none⟩) 1 1, .int .i64 0] 164 2])) o0)) (by kernel_rfl) rfl (by kernel_rfl)

theorem look_3_12_1_eq : AOnN Tryz.prog 61 [.int .i64 3, .int .i64 12, .bool true] [] (.tuple ⟨[.slice none 0 0, .int .i64 3]⟩) [] [] :=
  onN 400 [.inl, .inl, .lit, .lit, .callN chartBuild_V [] chartBuild_H, .inl, .lit, .heap] [] (o_ chartBuild_eq (o_ (hsame (chartBuild_H ++ [.cells [.slice none 0 0, .int .i64 3] 164 2])) o0)) (by kernel_rfl) rfl (by kernel_rfl)

theorem look_3_13_0_eq : AOnN Tryz.prog 61 [.int .i64 3, .int .i64 13, .bool false] [] (.tuple ⟨[.slice (some ⟨0, 0, none⟩) 1 UNK, .int .i64 4]⟩) [] [.row [.int .i64 8] 131 1] :=
  onN 400 [.inl, .inl, .lit, .lit, .callN chartBuild_V [] chartBuild_H, .inl, .lit, .heap] [21] (o_ chartBuild_eq (o_ (hsame (chartBuild_H ++ [.cells [.slice (some ⟨18, 0, none⟩) 1 1, .int .i64 4] 164 2])) o0)) (by kernel_rfl) rfl (by kernel_rfl)

theorem look_3_13_1_eq : AOnN Tryz.prog 61 [.int .i64 3, .int .i64 13, .bool true] [] (.tuple ⟨[.slice none 0 0, .int .i64 3]⟩) [] [] :=
  onN 400 [.inl, .inl, .lit, .lit, .callN chartBuild_V [] chartBuild_H, .inl, .lit, .heap] [] (o_ chartBuild_eq (o_ (hsame (chartBuild_H ++ [.cells [.slice none 0 0, .int .i64 3] 164 2])) o0)) (by kernel_rfl) rfl (by kernel_rfl)

theorem look_4_0_0_eq : AOnN Tryz.prog 61 [.int .i64 4, .int .i64 0, .bool false] [] (.tuple ⟨[.slice (some ⟨0, 0, none⟩) 2 UNK, .int .i64 0]⟩) [] [.row [.int .i64 10, .int .i64 9] 131 1] :=
  onN 400 [.inl, .inl, .lit, .lit, .callN chartBuild_V [] chartBuild_H, .inl, .lit, .heap] [21] (o_ chartBuild_eq (o_ (hsame (chartBuild_H ++ [.cells [.slice (some ⟨11, 0, none⟩) 2 2, .int .i64 0] 164 2])) o0)) (by kernel_rfl) rfl (by kernel_rfl)

theorem look_4_0_1_eq : AOnN Tryz.prog 61 [.int .i64 4, .int .i64 0, .bool true] [] (.tuple ⟨[.slice (some ⟨0, 0, none⟩) 2 UNK, .int .i64 0]⟩) [] [.row [.int .i64 10, .int .i64 9] 131 1] :=
  onN 400 [.inl, .inl, .lit, .lit, .callN chartBuild_V [] chartBuild_H, .inl, .lit, .heap] [21] (o_ chartBuild_eq (o_ (hsame (chartBuild_H ++ [.cells [.slice (some ⟨11, 0, none⟩) 2 2, .int .i64 0] 164 2])) o0)) (by kernel_rfl) rfl (by kernel_rfl)

theorem look_4_1_0_eq : AOnN Tryz.prog 61 [.int .i64 4, .int .i64 1, .bool false] [] (.tuple ⟨[.slice (some ⟨0, 0, none⟩) 2 UNK, .int .i64 3]⟩) [] [.row [.int .i64 0, .int .i64 9] 131 1] :=
  onN 400 [.inl, .inl, .lit, .lit, .callN chartBuild_V [] chartBuild_H, .inl, .lit, .heap] [21] (o_ chartBuild_eq (o_ (hsame (chartBuild_H ++ [.cells [.slice (some ⟨1, 0, none⟩) 2 2, .int .i64 3] 164 2])) o0)) (by kernel_rfl) rfl (by kernel_rfl)

theorem look_4_1_1_eq : AOnN Tryz.prog 61 [.int .i64 4, .int .i64 1, .bool true] [] (.tuple ⟨[.slice (some ⟨0, 0, none⟩) 2 UNK, .int .i64 3]⟩) [] [.row [.int .i64 0, .int .i64 9] 131 1] :=
  onN 400 [.inl, .inl, .lit, .lit, .callN chartBuild_V [] chartBuild_H, .inl, .lit, .heap] [21] (o_ chartBuild_eq (o_ (hsame (chartBuild_H ++ [.cells [.slice (some ⟨1, 0, none⟩) 2 2, .int .i64 3] 164 2])) o0)) (by kernel_rfl) rfl (by kernel_rfl)

theorem look_4_2_0_eq : AOnN Tryz.prog 61 [.int .i64 4, .int .i64 2, .bool false] [] (.tuple ⟨[.slice (some ⟨0, 0, none⟩) 3 UNK, .int .i64 3]⟩) [] [.row [.int .i64 13, .int .i64 4, .int .i64 9] 131 1] :=
  onN 400 [.inl, .inl, .lit, .lit, .callN chartBuild_V [] chartBuild_H, .inl, .lit, .heap] [21] (o_ chartBuild_eq (o_ (hsame (chartBuild_H ++ [.cells [.slice (some ⟨2, 0, none⟩) 3 3, .int .i64 3] 164 2])) o0)) (by kernel_rfl) rfl (by kernel_rfl)

theorem look_4_2_1_eq : AOnN Tryz.prog 61 [.int .i64 4, .int .i64 2, .bool true] [] (.tuple ⟨[.slice (some ⟨0, 0, none⟩) 3 UNK, .int .i64 3]⟩) [] [.row [.int .i64 13, .int .i64 4, .int .i64 9] 131 1] :=
  onN 400 [.inl, .inl, .lit, .lit, .callN chartBuild_V [] chartBuild_H, .inl, .lit, .heap] [21] (o_ chartBuild_eq (o_ (hsame (chartBuild_H ++ [.cells [.slice (some ⟨2, 0, none⟩) 3 3, .int .i64 3] 164 2])) o0)) (by kernel_rfl) rfl (by kernel_rfl)

theorem look_4_3_0_eq : AOnN Tryz.prog 61 [.int .i64 4, .int .i64 3, .bool false] [] (.tuple ⟨[.slice (some ⟨0, 0, none⟩) 2 UNK, .int .i64 1]⟩) [] [.row [.int .i64 1, .int .i64 9] 131 1] :=
  onN 400 [.inl, .inl, .lit, .lit, .callN chartBuild_V [] chartBuild_H, .inl, .lit, .heap] [21] (o_ chartBuild_eq (o_ (hsame (chartBuild_H ++ [.cells [.slice (some ⟨3, 0, none⟩) 2 2, .int .i64 1] 164 2])) o0)) (by kernel_rfl) rfl (by kernel_rfl)

theorem look_4_3_1_eq : AOnN Tryz.prog 61 [.int .i64 4, .int .i64 3, .bool true] [] (.tuple ⟨[.slice (some ⟨0, 0, none⟩) 2 UNK, .int .i64 1]⟩) [] [.row [.int .i64 1, .int .i64 9] 131 1] :=
  onN 400 [.inl, .inl, .lit, .lit, .callN chartBuild_V [] chartBuild_H, .inl, .lit, .heap] [21] (o_ chartBuild_eq (o_ (hsame (chartBuild_H ++ [.cells [.slice (some ⟨3, 0, none⟩) 2 2, .int .i64 1] 164 2])) o0)) (by kernel_rfl) rfl (by kernel_rfl)

theorem look_4_4_0_eq : AOnN Tryz.prog 61 [.int .i64 4, .int .i64 4, .bool false] [] (.tuple ⟨[.slice none 0 0, .int .i64 4]⟩) [] [] :=
  onN 400 [.inl, .inl, .lit, .lit, .callN chartBuild_V [] chartBuild_H, .inl, .lit, .heap] [] (o_ chartBuild_eq (o_ (hsame (chartBuild_H ++ [.cells [.slice none 0 0, .int .i64 4] 164 2])) o0)) (by kernel_rfl) rfl (by kernel_rfl)

theorem look_4_4_1_eq : AOnN Tryz.prog 61 [.int .i64 4, .int .i64 4, .bool true] [] (.tuple ⟨[.slice none 0 0, .int .i64 4]⟩) [] [] :=
  onN 400 [.inl, .inl, .lit, .lit, .callN chartBuild_V [] chartBuild_H, .inl, .lit, .heap] [] (o_ chartBuild_eq (o_ (hsame (chartBuild_H ++ [.cells [.slice none 0 0, .int .i64 4] 164 2])) o0)) (by kernel_rfl) rfl (by kernel_rfl)

theorem look_4_5_0_eq : AOnN Tryz.prog 61 [.int .i64 4, .int .i64 5, .bool false] [] (.tuple ⟨[.slice (some ⟨0, 0, none⟩) 3 UNK, .int .i64 1]⟩) [] [.row [.int .i64 3, .int .i64 4, .int .i64 9] 131 1] :=
  onN 400 [.inl, .inl, .lit, .lit, .callN chartBuild_V [] chartBuild_H, .inl, .lit, .heap] [21] (o_ chartBuild_eq (o_ (hsame (chartBuild_H ++ [.cells [.slice (some ⟨5, 0, none⟩) 3 3, .int .i64 1] 164 2])) o0)) (by kernel_rfl) rfl (by kernel_rfl)

theorem look_4_5_1_eq : AOnN Tryz.prog 61 [.int .i64 4, .int .i64 5, .bool true] [] (.tuple ⟨[.slice (some ⟨0, 0, none⟩) 3 UNK, .int .i64 1]⟩) [] [.row [.int .i64 3, .int .i64 4, .int .i64 9] 131 1] :=
  onN 400 [.inl, .inl, .lit, .lit, .callN chartBuild_V [] chartBuild_H, .inl, .lit, .heap] [21] (o_ chartBuild_eq (o_ (hsame (chartBuild_H ++ [.cells [.slice (some ⟨5, 0, none⟩) 3 3, .int .i64 1] 164 2])) o0)) (by kernel_rfl) rfl (by kernel_rfl)

theorem look_4_6_0_eq : AOnN Tryz.prog 61 [.int .i64 4, .int .i64 6, .bool false] [] (.tuple ⟨[.slice (some ⟨0, 0, none⟩) 3 UNK, .int .i64 2]⟩) [] [.row [.int .i64 3, .int .i64 4, .int .i64 9] 131 1] :=
  onN 400 [.inl, .inl, .lit, .lit, .callN chartBuild_V [] chartBuild_H, .inl, .lit, .heap] [21] (o_ chartBuild_eq (o_ (hsame (chartBuild_H ++ [.cells [.slice (some ⟨6, 0, none⟩) 3 3, .int .i64 2] 164 2])) o0)) (by kernel_rfl) rfl (by kernel_rfl)

theorem look_4_6_1_eq : AOnN Tryz.prog 61 [.int .i64 4, .int .i64 6, .bool true] [] (.tuple ⟨[.slice (some ⟨0, 0, none⟩) 3 UNK, .int .i64 2]⟩) [] [.row [.int .i64 3, .int .i64 4, .int .i64 9] 131 1] :=
  onN 400 [.inl, .inl, .lit, .lit, .callN chartBuild_V [] chartBuild_H, .inl, .lit, .heap] [21] (o_ chartBuild_eq (o_ (hsame (chartBuild_H ++ [.cells [.slice (some ⟨6, 0, none⟩) 3 3, .int .i64 2] 164 2])) o0)) (by kernel_rfl) rfl (by kernel_rfl)

theorem look_4_7_0_eq : AOnN Tryz.prog 61 [.int .i64 4, .int .i64 7, .bool false] [] (.tuple ⟨[.slice (some ⟨0, 0, none⟩) 2 UNK, .int .i64 2]⟩) [] [.row [.int .i64 2, .int .i64 9] 131 1] :=
  onN 400 [.inl, .inl, .lit, .lit, .callN chartBuild_V [] chartBuild_H, .inl, .lit, .heap] [21] (o_ chartBuild_eq (o_ (hsame (chartBuild_H ++ [.cells [.slice (some ⟨9, 0, none⟩) 2 2, .int .i64 2] 164 2])) o0)) (by kernel_rfl) rfl (by kernel_rfl)

theorem look_4_7_1_eq : AOnN Tryz.prog 61 [.int .i64 4, .int .i64 7, .bool true] [] (.tuple ⟨[.slice (some ⟨0, 0, none⟩) 2 UNK, .int .i64 2]⟩) [] [.row [.int .i64 2, .int .i64 9] 131 1] :=
  onN 400 [.inl, .inl, .lit, .lit, .callN chartBuild_V [] chartBuild_H, .inl, .lit, .heap] [21] (o_ chartBuild_eq (o_ (hsame (chartBuild_H ++ [.cells [.slice (some ⟨9, 0, none⟩) 2 2, .int .i64 2] 164 2])) o0)) (by kernel_rfl) rfl (by kernel_rfl)

theorem look_4_8_0_eq : AOnN Tryz.prog 61 [.int .i64 4, .int .i64 8, .bool false] [] (.tuple ⟨[.slice (some ⟨0, 0, none⟩) 2 UNK, .int .i64 0]⟩) [] [.row [.int .i64 10, .int .i64 9] 131 1] :=
  onN 400 [.inl, .inl, .lit, .lit, .callN chartBuild_V [] chartBuild_H, .inl, .lit, .heap] [21] (o_ chartBuild_eq (o_ (hsame (chartBuild_H ++ [.cells [.slice (some ⟨12, 0, none⟩) 2 2, .int .i64 0] 164 2])) o0)) (by kernel_rfl) rfl (by kernel_rfl)

theorem look_4_8_1_eq : AOnN Tryz.prog 61 [.int .i64 4, .int .i64 8, .bool true] [] (.tuple ⟨[.slice (some ⟨0, 0, none⟩) 2 UNK, .int .i64 0]⟩) [] [.row [.int .i64 10, .int .i64 9] 131 1] :=
  onN 400 [.inl, .inl, .lit, .lit, .callN chartBuild_V [] chartBuild_H, .inl, .lit, .heap] [21] (o_ chartBuild_eq (o_ (hsame (chartBuild_H ++ [.cells [.slice (some ⟨12, 0, none⟩) 2 2, .int .i64 0] 164 2])) o0)) (by kernel_rfl) rfl (by kernel_rfl)

theorem look_4_9_0_eq : AOnN Tryz.prog 61 [.int .i64 4, .int .i64 9, .bool false] [] (.tuple ⟨[.slice none 0 0, .int .i64 4]⟩) [] [] :=
  onN 400 [.inl, .inl, .lit, .lit, .callN chartBuild_V [] chartBuild_H, .inl, .lit, .heap] [] (o_ chartBuild_eq (o_ (hsame (chartBuild_H ++ [.cells [.slice none 0 0, .int .i64 4] 164 2])) o0)) (by kernel_rfl) rfl (by kernel_rfl)

theorem look_4_9_1_eq : AOnN Tryz.prog 61 [.int .i64 4, .int .i64 9, .bool true] [] (.tuple ⟨[.slice none 0 0, .int .i64 4]⟩) [] [] :=
  onN 400 [.inl, .inl, .lit, .lit, .callN chartBuild_V [] chartBuild_H, .inl, .lit, .heap] [] (o_ chartBuild_eq (o_ (hsame (chartBuild_H ++ [.cells [.slice none 0 0, .int .i64 4] 164 2])) o0)) (by kernel_rfl) rfl (by kernel_rfl)

theorem look_4_10_0_eq : AOnN Tryz.prog 61 [.int .i64 4, .int .i64 10, .bool false] [] (.tuple ⟨[.slice (some ⟨0, 0, none⟩) 2 UNK, .int .i64 0]⟩) [] [.row [.int .i64 10, .int .i64 9] 131 1] :=
  onN 400 [.inl, .inl, .lit, .lit, .callN chartBuild_V [] chartBuild_H, .inl, .lit, .heap] [21] (o_ chartBuild_eq (o_ (hsame (chartBuild_H ++ [.cells [.slice (some ⟨13, 0, none⟩) 2 2, .int .i64 0] 164 2])) o0)) (by kernel_rfl) rfl (by kernel_rfl)

theorem look_4_10_1_eq : AOnN Tryz.prog 61 [.int .i64 4, .int .i64 10, .bool true] [] (.tuple ⟨[.slice (some ⟨0, 0, none⟩) 2 UNK, .int .i64 0]⟩) [] [.row [.int .i64 10, .int .i64 9] 131 1] :=
  onN 400 [.inl, .inl, .lit, .lit, .callN chartBuild_V [] chartBuild_H, .inl, .lit, .heap] [21] (o_ chartBuild_eq (o_ (hsame (chartBuild_H ++ [.cells [.slice (some ⟨13, 0, none⟩) 2 2, .int .i64 0] 164 2])) o0)) (by kernel_rfl) rfl (by kernel_rfl)

theorem look_4_11_0_eq : AOnN Tryz.prog 61 [.int .i64 4, .int .i64 11, .bool false] [] (.tuple ⟨[.slice none 0 0, .int .i64 4]⟩) [] [] :=
  onN 400 [.inl, .inl, .lit, .lit, .callN chartBuild_V [] chartBuild_H, .inl, .lit, .heap] [] (o_ chartBuild_eq (o_ (hsame (chartBuild_H ++ [.cells [.slice none 0 0, .int .i64 4] 164 2])) o0)) (by kernel_rfl) rfl (by kernel_rfl)

theorem look_4_11_1_eq : AOnN Tryz.prog 61 [.int .i64 4, .int .i64 11, .bool true] [] (.tuple ⟨[.slice none 0 0, .int .i64 4]⟩) [] [] :=
  onN 400 [.inl, .inl, .lit, .lit, .callN chartBuild_V [] chartBuild_H, .inl, .lit, .heap] [] (o_ chartBuild_eq (o_ (hsame (chartBuild_H ++ [.cells [.slice none 0 0, .int .i64 4] 164 2])) o0)) (by kernel_rfl) rfl (by kernel_rfl)

theorem look_4_12_0_eq : AOnN Tryz.prog 61 [.int .i64 4, .int .i64 12, .bool false] [] (.tuple ⟨[.slice (some ⟨0, 0, none⟩) 1 UNK, .int .i64 0]⟩) [] [.row [.int .i64 11] 131 1] :=
  onN 400 [.inl, .inl, .lit, .lit, .callN chartBuild_V [] chartBuild_H, .inl, .lit, .heap] [21] (o_ chartBuild_eq (o_ (hsame (chartBuild_H ++ [.cells [.slice (some ⟨14, 0, none⟩) 1 1, .int .i64 0] 164 2])) o0)) (by kernel_rfl) rfl (by kernel_rfl)

theorem look_4_12_1_eq : AOnN Tryz.prog 61 [.int .i64 4, .int .i64 12, .bool true] [] (.tuple ⟨[.slice none 0 0, .int .i64 4]⟩) [] [] :=
  onN 400 [.inl, .inl, .lit, .lit, .callN chartBuild_V [] chartBuild_H, .inl, .lit, .heap] [] (o_ chartBuild_eq (o_ (hsame (chartBuild_H ++ [.cells [.slice none 0 0, .int .i64 4] 164 2])) o0)) (by kernel_rfl) rfl (by kernel_rfl)

theorem look_4_13_0_eq : AOnN Tryz.prog 61 [.int .i64 4, .int .i64 13, .bool false] [] (.tuple ⟨[.slice (some ⟨0, 0, none⟩) 1 UNK, .int .i64 4]⟩) [] [.row [.int .i64 12] 131 1] :=
  onN 400 [.inl, .inl, .lit, .lit, .callN chartBuild_V [] chartBuild_H, .inl, .lit, .heap] [21] (o_ chartBuild_eq (o_ (hsame (chartBuild_H ++ [.cells [.slice (some ⟨16, 0, none⟩) 1 1, .int .i64 4] 164 2])) o0)) (by kernel_rfl) rfl (by kernel_rfl)

theorem look_4_13_1_eq : AOnN Tryz.prog 61 [.int .i64 4, .int .i64 13, .bool true] [] (.tuple ⟨[.slice (some ⟨0, 0, none⟩) 1 UNK, .int .i64 4]⟩) [] [.row [.int .i64 12] 131 1] :=
  onN 400 [.inl, .inl, .lit, .lit, .callN chartBuild_V [] chartBuild_H, .inl, .lit, .heap] [21] (o_ chartBuild_eq (o_ (hsame (chartBuild_H ++ [.cells [.slice (some ⟨16, 0, none⟩) 1 1, .int .i64 4] 164 2])) o0)) (by kernel_rfl) rfl (by kernel_rfl)

def lookOut (s : Int) (k : Int) (m : Bool) : Unit × Int :=
  ((), s)
def lookOut_c (r : Unit × Int) : Dir := .callL (.tuple ⟨[.slice none 0 0, .int .i64 r.2]⟩) []
def lookOut_E (r : Unit × Int) : Value := .tuple ⟨[.slice none 0 0, .int .i64 r.2]⟩
theorem lookOut_eq (s : Int) (k : Int) (m : Bool) (hs : s < 0 ∨ s > 4 ∨ k < 0 ∨ k > 13) : AOn Tryz.prog 61 [.int .i64 s, .int .i64 k, .bool m] [] (lookOut_E (lookOut s k m)) [] := by
  unfold lookOut
  apply onT 400 lookOut_E
  apply kd .inl
  apply kjs 50006 (decide (s ≥ 0))
  intro hb0
  apply kjs 130014 (!(decide (s ≤ 4)))
  intro hb1
  exact kl
  intro hb1
  apply kd .inl
  apply kjs 50006 (decide (k ≥ 0))
  intro hb2
  apply kis 17 (!(decide (k ≤ 13)))
  intro hb3
  exact kl
  intro hb3
  apply kis 19 (m)
  intro hb4
  exact kx (by first | omega | (simp only [zor, zand, zorf, zandf, znt, znf, zeq, zne, zeqf, znef, zd, zdf] at *; omega))
  intro hb4
  exact kx (by first | omega | (simp only [zor, zand, zorf, zandf, znt, znf, zeq, zne, zeqf, znef, zd, zdf] at *; omega))
  intro hb2
  exact kl
  intro hb0
  exact kl
  kernel_rfl
  rfl

end Go.Proofs.E17

namespace Go.Proofs.E17
open Go Go.AX Go.Proofs
set_option maxRecDepth 1000000
set_option linter.unusedVariables false
set_option linter.unusedSimpArgs false

def do0_x0 (n : Nd) (now : Int) (k : Int) (port : Int) (fro : Int) : Nd × Bool := take n now port (Msg.mk 13 false false false 0) false
def do0 (n : Nd) (now : Int) (k : Int) (port : Int) (fro : Int) : Nd × Bool :=
  (((do0_x0 n now k port fro).1), (do0_x0 n now k port fro).2)
def do0_c (i : Nat) (r : Nd × Bool) : Dir := .callL (.bool r.2) [(i, .cells (Nd.enc r.1) 44 37)]
def do0_E (r : Nd × Bool) : Value × AHeap := (.bool r.2, [.cells (Nd.enc r.1) 44 37])
theorem do0_0 (n : Nd) (now : Int) (k : Int) (port : Int) (fro : Int) (hp : port = 0 ∨ port = 1) : AEq Tryz.prog 77 [.pointer (some ⟨0, 0, none⟩), .int .i64 0, .agg ⟨[.int .i64 now, .int .i64 k, .int .i64 port, .int .u64 fro]⟩] [.cells (Nd.enc n) 44 37] (do0_E (do0 n now k port fro)).1 (do0_E (do0 n now k port fro)).2 := by
  unfold do0
  apply ptrT 400 do0_E
  apply kk (take_eq n now port (Msg.mk 13 false false false 0) false (by first | omega | (simp only [zor, zand, zorf, zandf, znt, znf, zeq, zne, zeqf, znef, zd, zdf] at *; omega)) 0)
  exact kl
  kernel_rfl
theorem do0_eq (n : Nd) (now : Int) (k : Int) (port : Int) (fro : Int) (hp : port = 0 ∨ port = 1) (i : Nat) : AOn Tryz.prog 77 [.pointer (some ⟨i, 0, none⟩), .int .i64 0, .agg ⟨[.int .i64 now, .int .i64 k, .int .i64 port, .int .u64 fro]⟩] [(i, .cells (Nd.enc n) 44 37)] (.bool ((do0 n now k port fro).2)) [(i, .cells (Nd.enc ((do0 n now k port fro).1)) 44 37)] :=
  AEq.on1 (do0_0 n now k port fro hp) i rfl rfl rfl rfl
def do0_S (n : Nd) (now : Int) (k : Int) (port : Int) (fro : Int) (r : Nd × Bool) : Prop := Same n r.1
theorem do0_same (n : Nd) (now : Int) (k : Int) (port : Int) (fro : Int) : do0_S n now k port fro (do0 n now k port fro) := by
  unfold do0
  exact ((Same.refl n).trans (take_same n now port (Msg.mk 13 false false false 0) false))

def do1_x0 (n : Nd) (now : Int) (k : Int) (port : Int) (fro : Int) : Nd × Bool := take n now port (Msg.mk 11 false false false 0) true
def do1 (n : Nd) (now : Int) (k : Int) (port : Int) (fro : Int) : Nd × Bool :=
  (((do1_x0 n now k port fro).1), (do1_x0 n now k port fro).2)
def do1_c (i : Nat) (r : Nd × Bool) : Dir := .callL (.bool r.2) [(i, .cells (Nd.enc r.1) 44 37)]
def do1_E (r : Nd × Bool) : Value × AHeap := (.bool r.2, [.cells (Nd.enc r.1) 44 37])
theorem do1_0 (n : Nd) (now : Int) (k : Int) (port : Int) (fro : Int) (hp : port = 0 ∨ port = 1) : AEq Tryz.prog 77 [.pointer (some ⟨0, 0, none⟩), .int .i64 1, .agg ⟨[.int .i64 now, .int .i64 k, .int .i64 port, .int .u64 fro]⟩] [.cells (Nd.enc n) 44 37] (do1_E (do1 n now k port fro)).1 (do1_E (do1 n now k port fro)).2 := by
  unfold do1
  apply ptrT 400 do1_E
  apply kk (take_eq n now port (Msg.mk 11 false false false 0) true (by first | omega | (simp only [zor, zand, zorf, zandf, znt, znf, zeq, zne, zeqf, znef, zd, zdf] at *; omega)) 0)
  exact kl
  kernel_rfl
theorem do1_eq (n : Nd) (now : Int) (k : Int) (port : Int) (fro : Int) (hp : port = 0 ∨ port = 1) (i : Nat) : AOn Tryz.prog 77 [.pointer (some ⟨i, 0, none⟩), .int .i64 1, .agg ⟨[.int .i64 now, .int .i64 k, .int .i64 port, .int .u64 fro]⟩] [(i, .cells (Nd.enc n) 44 37)] (.bool ((do1 n now k port fro).2)) [(i, .cells (Nd.enc ((do1 n now k port fro).1)) 44 37)] :=
  AEq.on1 (do1_0 n now k port fro hp) i rfl rfl rfl rfl
def do1_S (n : Nd) (now : Int) (k : Int) (port : Int) (fro : Int) (r : Nd × Bool) : Prop := Same n r.1
theorem do1_same (n : Nd) (now : Int) (k : Int) (port : Int) (fro : Int) : do1_S n now k port fro (do1 n now k port fro) := by
  unfold do1
  exact ((Same.refl n).trans (take_same n now port (Msg.mk 11 false false false 0) true))

def do2_x0 (n : Nd) (now : Int) (k : Int) (port : Int) (fro : Int) : Nd × Bool := take n now port (Msg.mk 7 false false false 0) false
def do2 (n : Nd) (now : Int) (k : Int) (port : Int) (fro : Int) : Nd × Bool :=
  (((do2_x0 n now k port fro).1), (do2_x0 n now k port fro).2)
def do2_c (i : Nat) (r : Nd × Bool) : Dir := .callL (.bool r.2) [(i, .cells (Nd.enc r.1) 44 37)]
def do2_E (r : Nd × Bool) : Value × AHeap := (.bool r.2, [.cells (Nd.enc r.1) 44 37])
theorem do2_0 (n : Nd) (now : Int) (k : Int) (port : Int) (fro : Int) (hp : port = 0 ∨ port = 1) : AEq Tryz.prog 77 [.pointer (some ⟨0, 0, none⟩), .int .i64 2, .agg ⟨[.int .i64 now, .int .i64 k, .int .i64 port, .int .u64 fro]⟩] [.cells (Nd.enc n) 44 37] (do2_E (do2 n now k port fro)).1 (do2_E (do2 n now k port fro)).2 := by
  unfold do2
  apply ptrT 400 do2_E
  apply kk (take_eq n now port (Msg.mk 7 false false false 0) false (by first | omega | (simp only [zor, zand, zorf, zandf, znt, znf, zeq, zne, zeqf, znef, zd, zdf] at *; omega)) 0)
  exact kl
  kernel_rfl
theorem do2_eq (n : Nd) (now : Int) (k : Int) (port : Int) (fro : Int) (hp : port = 0 ∨ port = 1) (i : Nat) : AOn Tryz.prog 77 [.pointer (some ⟨i, 0, none⟩), .int .i64 2, .agg ⟨[.int .i64 now, .int .i64 k, .int .i64 port, .int .u64 fro]⟩] [(i, .cells (Nd.enc n) 44 37)] (.bool ((do2 n now k port fro).2)) [(i, .cells (Nd.enc ((do2 n now k port fro).1)) 44 37)] :=
  AEq.on1 (do2_0 n now k port fro hp) i rfl rfl rfl rfl
def do2_S (n : Nd) (now : Int) (k : Int) (port : Int) (fro : Int) (r : Nd × Bool) : Prop := Same n r.1
theorem do2_same (n : Nd) (now : Int) (k : Int) (port : Int) (fro : Int) : do2_S n now k port fro (do2 n now k port fro) := by
  unfold do2
  exact ((Same.refl n).trans (take_same n now port (Msg.mk 7 false false false 0) false))

def do3 (n : Nd) (now : Int) (k : Int) (port : Int) (fro : Int) : Nd :=
  (openSound n)
def do3_c (i : Nat) (r : Nd) : Dir := .callL (.bool false) [(i, .cells (Nd.enc r) 44 37)]
def do3_E (r : Nd) : Value × AHeap := (.bool false, [.cells (Nd.enc r) 44 37])
theorem do3_0 (n : Nd) (now : Int) (k : Int) (port : Int) (fro : Int) : AEq Tryz.prog 77 [.pointer (some ⟨0, 0, none⟩), .int .i64 3, .agg ⟨[.int .i64 now, .int .i64 k, .int .i64 port, .int .u64 fro]⟩] [.cells (Nd.enc n) 44 37] (do3_E (do3 n now k port fro)).1 (do3_E (do3 n now k port fro)).2 := by
  unfold do3
  apply ptrT 400 do3_E
  apply kk (openSound_eq n 0)
  exact kl
  kernel_rfl
theorem do3_eq (n : Nd) (now : Int) (k : Int) (port : Int) (fro : Int) (i : Nat) : AOn Tryz.prog 77 [.pointer (some ⟨i, 0, none⟩), .int .i64 3, .agg ⟨[.int .i64 now, .int .i64 k, .int .i64 port, .int .u64 fro]⟩] [(i, .cells (Nd.enc n) 44 37)] (.bool false) [(i, .cells (Nd.enc (do3 n now k port fro)) 44 37)] :=
  AEq.on1 (do3_0 n now k port fro) i rfl rfl rfl rfl
def do3_S (n : Nd) (now : Int) (k : Int) (port : Int) (fro : Int) (r : Nd) : Prop := Same n r
theorem do3_same (n : Nd) (now : Int) (k : Int) (port : Int) (fro : Int) : do3_S n now k port fro (do3 n now k port fro) := by
  unfold do3
  exact ((Same.refl n).trans (openSound_same n))

def do4 (n : Nd) (now : Int) (k : Int) (port : Int) (fro : Int) : Nd :=
  (silence n)
def do4_c (i : Nat) (r : Nd) : Dir := .callL (.bool false) [(i, .cells (Nd.enc r) 44 37)]
def do4_E (r : Nd) : Value × AHeap := (.bool false, [.cells (Nd.enc r) 44 37])
theorem do4_0 (n : Nd) (now : Int) (k : Int) (port : Int) (fro : Int) : AEq Tryz.prog 77 [.pointer (some ⟨0, 0, none⟩), .int .i64 4, .agg ⟨[.int .i64 now, .int .i64 k, .int .i64 port, .int .u64 fro]⟩] [.cells (Nd.enc n) 44 37] (do4_E (do4 n now k port fro)).1 (do4_E (do4 n now k port fro)).2 := by
  unfold do4
  apply ptrT 400 do4_E
  apply kk (silence_eq n 0)
  exact kl
  kernel_rfl
theorem do4_eq (n : Nd) (now : Int) (k : Int) (port : Int) (fro : Int) (i : Nat) : AOn Tryz.prog 77 [.pointer (some ⟨i, 0, none⟩), .int .i64 4, .agg ⟨[.int .i64 now, .int .i64 k, .int .i64 port, .int .u64 fro]⟩] [(i, .cells (Nd.enc n) 44 37)] (.bool false) [(i, .cells (Nd.enc (do4 n now k port fro)) 44 37)] :=
  AEq.on1 (do4_0 n now k port fro) i rfl rfl rfl rfl
def do4_S (n : Nd) (now : Int) (k : Int) (port : Int) (fro : Int) (r : Nd) : Prop := Same n r
theorem do4_same (n : Nd) (now : Int) (k : Int) (port : Int) (fro : Int) : do4_S n now k port fro (do4 n now k port fro) := by
  unfold do4
  exact ((Same.refl n).trans (silence_same n))

def do5 (n : Nd) (now : Int) (k : Int) (port : Int) (fro : Int) : Nd :=
  (start0 n now n.guard)
def do5_c (i : Nat) (r : Nd) : Dir := .callL (.bool false) [(i, .cells (Nd.enc r) 44 37)]
def do5_E (r : Nd) : Value × AHeap := (.bool false, [.cells (Nd.enc r) 44 37])
theorem do5_0 (n : Nd) (now : Int) (k : Int) (port : Int) (fro : Int) : AEq Tryz.prog 77 [.pointer (some ⟨0, 0, none⟩), .int .i64 5, .agg ⟨[.int .i64 now, .int .i64 k, .int .i64 port, .int .u64 fro]⟩] [.cells (Nd.enc n) 44 37] (do5_E (do5 n now k port fro)).1 (do5_E (do5 n now k port fro)).2 := by
  unfold do5
  apply ptrT 400 do5_E
  apply kk (start0_eq n now n.guard 0)
  exact kl
  kernel_rfl
theorem do5_eq (n : Nd) (now : Int) (k : Int) (port : Int) (fro : Int) (i : Nat) : AOn Tryz.prog 77 [.pointer (some ⟨i, 0, none⟩), .int .i64 5, .agg ⟨[.int .i64 now, .int .i64 k, .int .i64 port, .int .u64 fro]⟩] [(i, .cells (Nd.enc n) 44 37)] (.bool false) [(i, .cells (Nd.enc (do5 n now k port fro)) 44 37)] :=
  AEq.on1 (do5_0 n now k port fro) i rfl rfl rfl rfl
def do5_S (n : Nd) (now : Int) (k : Int) (port : Int) (fro : Int) (r : Nd) : Prop := Same n r
theorem do5_same (n : Nd) (now : Int) (k : Int) (port : Int) (fro : Int) : do5_S n now k port fro (do5 n now k port fro) := by
  unfold do5
  exact ((Same.refl n).trans (start0_same n now n.guard))

def do6_x0 (n : Nd) (now : Int) (k : Int) (port : Int) (fro : Int) : Nd := says n now (Msg.mk 0 false false (n.shut.e && (!n.shut.w)) 0)
def do6 (n : Nd) (now : Int) (k : Int) (port : Int) (fro : Int) : Nd :=
  bif n.shut.e then
    (do6_x0 n now k port fro)
  else
    (says n now (Msg.mk 0 false false false 0))
def do6_c (i : Nat) (r : Nd) : Dir := .callL (.bool false) [(i, .cells (Nd.enc r) 44 37)]
def do6_E (r : Nd) : Value × AHeap := (.bool false, [.cells (Nd.enc r) 44 37])
theorem do6_0 (n : Nd) (now : Int) (k : Int) (port : Int) (fro : Int) : AEq Tryz.prog 77 [.pointer (some ⟨0, 0, none⟩), .int .i64 6, .agg ⟨[.int .i64 now, .int .i64 k, .int .i64 port, .int .u64 fro]⟩] [.cells (Nd.enc n) 44 37] (do6_E (do6 n now k port fro)).1 (do6_E (do6 n now k port fro)).2 := by
  unfold do6
  apply ptrT 400 do6_E
  apply kc
  intro hb0
  apply kf (gds 6 88 true []) (oN 6 hb0 o0)
  apply kk (says_eq n now (Msg.mk 0 false false (n.shut.e && (!n.shut.w)) 0) 0)
  exact kl
  intro hb0
  apply kf (gds 6 88 false ([.hint 95 (.bool false)])) (oN 7 hb0 o0)
  apply kk (says_eq n now (Msg.mk 0 false false false 0) 0)
  exact kl
  kernel_rfl
theorem do6_eq (n : Nd) (now : Int) (k : Int) (port : Int) (fro : Int) (i : Nat) : AOn Tryz.prog 77 [.pointer (some ⟨i, 0, none⟩), .int .i64 6, .agg ⟨[.int .i64 now, .int .i64 k, .int .i64 port, .int .u64 fro]⟩] [(i, .cells (Nd.enc n) 44 37)] (.bool false) [(i, .cells (Nd.enc (do6 n now k port fro)) 44 37)] :=
  AEq.on1 (do6_0 n now k port fro) i rfl rfl rfl rfl
def do6_S (n : Nd) (now : Int) (k : Int) (port : Int) (fro : Int) (r : Nd) : Prop := Same n r
theorem do6_same (n : Nd) (now : Int) (k : Int) (port : Int) (fro : Int) : do6_S n now k port fro (do6 n now k port fro) := by
  unfold do6
  refine byIte (fun _ => ?_) (fun _ => ?_)
  exact ((Same.refl n).trans (says_same n now (Msg.mk 0 false false (n.shut.e && (!n.shut.w)) 0)))
  exact ((Same.refl n).trans (says_same n now (Msg.mk 0 false false false 0)))

def do7 (n : Nd) (now : Int) (k : Int) (port : Int) (fro : Int) : Nd :=
  (waitFor1 n now n.rest)
def do7_c (i : Nat) (r : Nd) : Dir := .callL (.bool false) [(i, .cells (Nd.enc r) 44 37)]
def do7_E (r : Nd) : Value × AHeap := (.bool false, [.cells (Nd.enc r) 44 37])
theorem do7_0 (n : Nd) (now : Int) (k : Int) (port : Int) (fro : Int) : AEq Tryz.prog 77 [.pointer (some ⟨0, 0, none⟩), .int .i64 7, .agg ⟨[.int .i64 now, .int .i64 k, .int .i64 port, .int .u64 fro]⟩] [.cells (Nd.enc n) 44 37] (do7_E (do7 n now k port fro)).1 (do7_E (do7 n now k port fro)).2 := by
  unfold do7
  apply ptrT 400 do7_E
  apply kk (waitFor1_eq n now n.rest 0)
  exact kl
  kernel_rfl
theorem do7_eq (n : Nd) (now : Int) (k : Int) (port : Int) (fro : Int) (i : Nat) : AOn Tryz.prog 77 [.pointer (some ⟨i, 0, none⟩), .int .i64 7, .agg ⟨[.int .i64 now, .int .i64 k, .int .i64 port, .int .u64 fro]⟩] [(i, .cells (Nd.enc n) 44 37)] (.bool false) [(i, .cells (Nd.enc (do7 n now k port fro)) 44 37)] :=
  AEq.on1 (do7_0 n now k port fro) i rfl rfl rfl rfl
def do7_S (n : Nd) (now : Int) (k : Int) (port : Int) (fro : Int) (r : Nd) : Prop := Same n r
theorem do7_same (n : Nd) (now : Int) (k : Int) (port : Int) (fro : Int) : do7_S n now k port fro (do7 n now k port fro) := by
  unfold do7
  exact ((Same.refl n).trans (waitFor1_same n now n.rest))

def do8 (n : Nd) (now : Int) (k : Int) (port : Int) (fro : Int) : Nd :=
  (waitFor2 n now n.wait)
def do8_c (i : Nat) (r : Nd) : Dir := .callL (.bool false) [(i, .cells (Nd.enc r) 44 37)]
def do8_E (r : Nd) : Value × AHeap := (.bool false, [.cells (Nd.enc r) 44 37])
theorem do8_0 (n : Nd) (now : Int) (k : Int) (port : Int) (fro : Int) : AEq Tryz.prog 77 [.pointer (some ⟨0, 0, none⟩), .int .i64 8, .agg ⟨[.int .i64 now, .int .i64 k, .int .i64 port, .int .u64 fro]⟩] [.cells (Nd.enc n) 44 37] (do8_E (do8 n now k port fro)).1 (do8_E (do8 n now k port fro)).2 := by
  unfold do8
  apply ptrT 400 do8_E
  apply kk (waitFor2_eq n now n.wait 0)
  exact kl
  kernel_rfl
theorem do8_eq (n : Nd) (now : Int) (k : Int) (port : Int) (fro : Int) (i : Nat) : AOn Tryz.prog 77 [.pointer (some ⟨i, 0, none⟩), .int .i64 8, .agg ⟨[.int .i64 now, .int .i64 k, .int .i64 port, .int .u64 fro]⟩] [(i, .cells (Nd.enc n) 44 37)] (.bool false) [(i, .cells (Nd.enc (do8 n now k port fro)) 44 37)] :=
  AEq.on1 (do8_0 n now k port fro) i rfl rfl rfl rfl
def do8_S (n : Nd) (now : Int) (k : Int) (port : Int) (fro : Int) (r : Nd) : Prop := Same n r
theorem do8_same (n : Nd) (now : Int) (k : Int) (port : Int) (fro : Int) : do8_S n now k port fro (do8 n now k port fro) := by
  unfold do8
  exact ((Same.refl n).trans (waitFor2_same n now n.wait))

def do9 (n : Nd) (now : Int) (k : Int) (port : Int) (fro : Int) : Nd :=
  { n with bank := { n.bank with r := 0, w := 0 } }
def do9_c (i : Nat) (r : Nd) : Dir := .callL (.bool false) [(i, .cells (Nd.enc r) 44 37)]
def do9_E (r : Nd) : Value × AHeap := (.bool false, [.cells (Nd.enc r) 44 37])
theorem do9_0 (n : Nd) (now : Int) (k : Int) (port : Int) (fro : Int) : AEq Tryz.prog 77 [.pointer (some ⟨0, 0, none⟩), .int .i64 9, .agg ⟨[.int .i64 now, .int .i64 k, .int .i64 port, .int .u64 fro]⟩] [.cells (Nd.enc n) 44 37] (do9_E (do9 n now k port fro)).1 (do9_E (do9 n now k port fro)).2 := by
  unfold do9
  apply ptrT 400 do9_E
  apply kd .inl
  apply kd .inl
  apply kd .inl
  apply kd .inl
  exact kl
  kernel_rfl
theorem do9_eq (n : Nd) (now : Int) (k : Int) (port : Int) (fro : Int) (i : Nat) : AOn Tryz.prog 77 [.pointer (some ⟨i, 0, none⟩), .int .i64 9, .agg ⟨[.int .i64 now, .int .i64 k, .int .i64 port, .int .u64 fro]⟩] [(i, .cells (Nd.enc n) 44 37)] (.bool false) [(i, .cells (Nd.enc (do9 n now k port fro)) 44 37)] :=
  AEq.on1 (do9_0 n now k port fro) i rfl rfl rfl rfl
def do9_S (n : Nd) (now : Int) (k : Int) (port : Int) (fro : Int) (r : Nd) : Prop := Same n r
theorem do9_same (n : Nd) (now : Int) (k : Int) (port : Int) (fro : Int) : do9_S n now k port fro (do9 n now k port fro) := by
  unfold do9
  exact (Same.refl n)

def do10_x0 (n : Nd) (now : Int) (k : Int) (port : Int) (fro : Int) : Nd × Bool := take n now n.rpl (Msg.mk 0 true false false 0) true
def do10 (n : Nd) (now : Int) (k : Int) (port : Int) (fro : Int) : Nd × Bool :=
  (((do10_x0 n now k port fro).1), (do10_x0 n now k port fro).2)
def do10_c (i : Nat) (r : Nd × Bool) : Dir := .callL (.bool r.2) [(i, .cells (Nd.enc r.1) 44 37)]
def do10_E (r : Nd × Bool) : Value × AHeap := (.bool r.2, [.cells (Nd.enc r.1) 44 37])
theorem do10_0 (n : Nd) (now : Int) (k : Int) (port : Int) (fro : Int) (hh : n.rpl = 0 ∨ n.rpl = 1) : AEq Tryz.prog 77 [.pointer (some ⟨0, 0, none⟩), .int .i64 10, .agg ⟨[.int .i64 now, .int .i64 k, .int .i64 port, .int .u64 fro]⟩] [.cells (Nd.enc n) 44 37] (do10_E (do10 n now k port fro)).1 (do10_E (do10 n now k port fro)).2 := by
  unfold do10
  apply ptrT 400 do10_E
  apply kk (take_eq n now n.rpl (Msg.mk 0 true false false 0) true (by first | omega | (simp only [zor, zand, zorf, zandf, znt, znf, zeq, zne, zeqf, znef, zd, zdf] at *; omega)) 0)
  exact kl
  kernel_rfl
theorem do10_eq (n : Nd) (now : Int) (k : Int) (port : Int) (fro : Int) (hh : n.rpl = 0 ∨ n.rpl = 1) (i : Nat) : AOn Tryz.prog 77 [.pointer (some ⟨i, 0, none⟩), .int .i64 10, .agg ⟨[.int .i64 now, .int .i64 k, .int .i64 port, .int .u64 fro]⟩] [(i, .cells (Nd.enc n) 44 37)] (.bool ((do10 n now k port fro).2)) [(i, .cells (Nd.enc ((do10 n now k port fro).1)) 44 37)] :=
  AEq.on1 (do10_0 n now k port fro hh) i rfl rfl rfl rfl
def do10_S (n : Nd) (now : Int) (k : Int) (port : Int) (fro : Int) (r : Nd × Bool) : Prop := Same n r.1
theorem do10_same (n : Nd) (now : Int) (k : Int) (port : Int) (fro : Int) : do10_S n now k port fro (do10 n now k port fro) := by
  unfold do10
  exact ((Same.refl n).trans (take_same n now n.rpl (Msg.mk 0 true false false 0) true))

def do11 (n : Nd) (now : Int) (k : Int) (port : Int) (fro : Int) : Nd :=
  (homeFar n)
def do11_c (i : Nat) (r : Nd) : Dir := .callL (.bool false) [(i, .cells (Nd.enc r) 44 37)]
def do11_E (r : Nd) : Value × AHeap := (.bool false, [.cells (Nd.enc r) 44 37])
theorem do11_0 (n : Nd) (now : Int) (k : Int) (port : Int) (fro : Int) (hr : n.role = 2 → n.rpl = 0 ∨ n.rpl = 1) : AEq Tryz.prog 77 [.pointer (some ⟨0, 0, none⟩), .int .i64 11, .agg ⟨[.int .i64 now, .int .i64 k, .int .i64 port, .int .u64 fro]⟩] [.cells (Nd.enc n) 44 37] (do11_E (do11 n now k port fro)).1 (do11_E (do11 n now k port fro)).2 := by
  unfold do11
  apply ptrT 400 do11_E
  apply kk (homeFar_eq n (by first | omega | (simp only [zor, zand, zorf, zandf, znt, znf, zeq, zne, zeqf, znef, zd, zdf] at *; omega)) 0)
  exact kl
  kernel_rfl
theorem do11_eq (n : Nd) (now : Int) (k : Int) (port : Int) (fro : Int) (hr : n.role = 2 → n.rpl = 0 ∨ n.rpl = 1) (i : Nat) : AOn Tryz.prog 77 [.pointer (some ⟨i, 0, none⟩), .int .i64 11, .agg ⟨[.int .i64 now, .int .i64 k, .int .i64 port, .int .u64 fro]⟩] [(i, .cells (Nd.enc n) 44 37)] (.bool false) [(i, .cells (Nd.enc (do11 n now k port fro)) 44 37)] :=
  AEq.on1 (do11_0 n now k port fro hr) i rfl rfl rfl rfl
def do11_S (n : Nd) (now : Int) (k : Int) (port : Int) (fro : Int) (r : Nd) : Prop := Same n r
theorem do11_same (n : Nd) (now : Int) (k : Int) (port : Int) (fro : Int) : do11_S n now k port fro (do11 n now k port fro) := by
  unfold do11
  exact ((Same.refl n).trans (homeFar_same n))

def do12 (n : Nd) (now : Int) (k : Int) (port : Int) (fro : Int) : Nd :=
  bif (n.role != 0) || (decide (fro ≤ n.me)) then
    n
  else
    (silence (openSound n))
def do12_c (i : Nat) (r : Nd) : Dir := .callL (.bool false) [(i, .cells (Nd.enc r) 44 37)]
def do12_E (r : Nd) : Value × AHeap := (.bool false, [.cells (Nd.enc r) 44 37])
theorem do12_0 (n : Nd) (now : Int) (k : Int) (port : Int) (fro : Int) : AEq Tryz.prog 77 [.pointer (some ⟨0, 0, none⟩), .int .i64 12, .agg ⟨[.int .i64 now, .int .i64 k, .int .i64 port, .int .u64 fro]⟩] [.cells (Nd.enc n) 44 37] (do12_E (do12 n now k port fro)).1 (do12_E (do12 n now k port fro)).2 := by
  unfold do12
  apply ptrT 400 do12_E
  apply kor
  apply kc
  intro hb0
  apply kf (gds 6 130 true []) (oN 6 hb0 o0)
  apply ku 1300137 hb0
  exact kl
  intro hb0
  apply kf (gds 6 130 false []) (oN 6 hb0 o0)
  apply ku 1300137 hb0
  apply ki 138
  intro hb1
  exact kl
  intro hb1
  apply kk (openSound_eq n 0)
  apply kk (silence_eq (openSound n) 0)
  exact kl
  kernel_rfl
theorem do12_eq (n : Nd) (now : Int) (k : Int) (port : Int) (fro : Int) (i : Nat) : AOn Tryz.prog 77 [.pointer (some ⟨i, 0, none⟩), .int .i64 12, .agg ⟨[.int .i64 now, .int .i64 k, .int .i64 port, .int .u64 fro]⟩] [(i, .cells (Nd.enc n) 44 37)] (.bool false) [(i, .cells (Nd.enc (do12 n now k port fro)) 44 37)] :=
  AEq.on1 (do12_0 n now k port fro) i rfl rfl rfl rfl
def do12_S (n : Nd) (now : Int) (k : Int) (port : Int) (fro : Int) (r : Nd) : Prop := Same n r
theorem do12_same (n : Nd) (now : Int) (k : Int) (port : Int) (fro : Int) : do12_S n now k port fro (do12 n now k port fro) := by
  unfold do12
  refine byIte (fun _ => ?_) (fun _ => ?_)
  exact (Same.refl n)
  exact (((Same.refl n).trans (openSound_same n)).trans (silence_same (openSound n)))

def do13 (n : Nd) (now : Int) (k : Int) (port : Int) (fro : Int) : Nd :=
  { n with shut := (B2.mk false false) }
def do13_c (i : Nat) (r : Nd) : Dir := .callL (.bool false) [(i, .cells (Nd.enc r) 44 37)]
def do13_E (r : Nd) : Value × AHeap := (.bool false, [.cells (Nd.enc r) 44 37])
theorem do13_0 (n : Nd) (now : Int) (k : Int) (port : Int) (fro : Int) : AEq Tryz.prog 77 [.pointer (some ⟨0, 0, none⟩), .int .i64 13, .agg ⟨[.int .i64 now, .int .i64 k, .int .i64 port, .int .u64 fro]⟩] [.cells (Nd.enc n) 44 37] (do13_E (do13 n now k port fro)).1 (do13_E (do13 n now k port fro)).2 := by
  unfold do13
  apply ptrT 400 do13_E
  exact kl
  kernel_rfl
theorem do13_eq (n : Nd) (now : Int) (k : Int) (port : Int) (fro : Int) (i : Nat) : AOn Tryz.prog 77 [.pointer (some ⟨i, 0, none⟩), .int .i64 13, .agg ⟨[.int .i64 now, .int .i64 k, .int .i64 port, .int .u64 fro]⟩] [(i, .cells (Nd.enc n) 44 37)] (.bool false) [(i, .cells (Nd.enc (do13 n now k port fro)) 44 37)] :=
  AEq.on1 (do13_0 n now k port fro) i rfl rfl rfl rfl
def do13_S (n : Nd) (now : Int) (k : Int) (port : Int) (fro : Int) (r : Nd) : Prop := Same n r
theorem do13_same (n : Nd) (now : Int) (k : Int) (port : Int) (fro : Int) : do13_S n now k port fro (do13 n now k port fro) := by
  unfold do13
  exact (Same.refl n)

def ask3_x0 (n : Nd) (now : Int) (port : Int) (fro : Int) : Nd := do9 ((do1 n now 3 port fro).1) now 3 port fro
def ask3 (n : Nd) (now : Int) (port : Int) (fro : Int) : Nd × Bool × Bool :=
  bif (reqAbove (stands n) 3) then
    (n, false, false)
  else
    bif (n.state == 0) || ((n.state == 1) || (n.state == 2)) then
      bif (do1 n now 3 port fro).2 then
        ({ (ask3_x0 n now port fro) with state := 1, own := 14 }, true, true)
      else
        ({ (ask3_x0 n now port fro) with state := 1, own := 14 }, false, true)
    else
      bif n.state == 3 then
        (n, false, false)
      else
        bif n.state == 4 then
          bif (do1 n now 3 port fro).2 then
            ({ (ask3_x0 n now port fro) with state := 1, own := 14 }, true, true)
          else
            ({ (ask3_x0 n now port fro) with state := 1, own := 14 }, false, true)
        else
          (n, false, false)
def ask3_c (i : Nat) (r : Nd × Bool × Bool) : Dir := .callL (.tuple ⟨[.bool r.2.1, .bool r.2.2]⟩) [(i, .cells (Nd.enc r.1) 44 37)]
def ask3_E (r : Nd × Bool × Bool) : Value × AHeap := (.tuple ⟨[.bool r.2.1, .bool r.2.2]⟩, [.cells (Nd.enc r.1) 44 37])
theorem ask3_0 (n : Nd) (now : Int) (port : Int) (fro : Int) (hp : port = 0 ∨ port = 1) : AEq Tryz.prog 36 [.pointer (some ⟨0, 0, none⟩), .agg ⟨[.int .i64 now, .int .i64 3, .int .i64 port, .int .u64 fro]⟩] [.cells (Nd.enc n) 44 37] (ask3_E (ask3 n now port fro)).1 (ask3_E (ask3 n now port fro)).2 := by
  unfold ask3
  apply ptrT 400 ask3_E
  apply kc
  intro hb0
  apply kf (stands_c (stands n) :: reqAbove_c (reqAbove (stands n) 3) :: gds 5 20 true []) (o_ (stands_eq n) (o_ (reqAbove_eq (stands n) 3) (oN 5 hb0 o0)))
  apply ku 200026 hb0
  exact kl
  intro hb0
  apply kf (stands_c (stands n) :: reqAbove_c (reqAbove (stands n) 3) :: gds 5 20 false []) (o_ (stands_eq n) (o_ (reqAbove_eq (stands n) 3) (oN 5 hb0 o0)))
  apply ku 200026 hb0
  apply kd .inl
  apply kor
  apply kc
  intro hb1
  apply kcs (n.own != 14)
  intro hb2
  apply kf [.is 32 (.int .i64 0), .is 39 (.bool true), .callN (.tuple ⟨[.slice (some ⟨0, 0, none⟩) 2 UNK, .int .i64 1]⟩) [] [.row [.int .i64 1, .int .i64 9] 131 1]] (o_ (ieq .i64 hb1) (o_ (bis hb2) (o_ look_0_3_1_eq o0)))
  apply kk (do1_eq n now 3 port fro (by first | omega | (simp only [zor, zand, zorf, zandf, znt, znf, zeq, zne, zeqf, znef, zd, zdf] at *; omega)) 0)
  apply kj 560057
  intro hb3
  apply kk (do9_eq ((do1 n now 3 port fro).1) now 3 port fro 0)
  apply kd .inl
  exact kl
  intro hb3
  apply kk (do9_eq ((do1 n now 3 port fro).1) now 3 port fro 0)
  apply kd .inl
  exact kl
  intro hb2
  apply kf [.is 32 (.int .i64 0), .is 39 (.bool false), .callN (.tuple ⟨[.slice (some ⟨0, 0, none⟩) 2 UNK, .int .i64 1]⟩) [] [.row [.int .i64 1, .int .i64 9] 131 1]] (o_ (ieq .i64 hb1) (o_ (bis hb2) (o_ look_0_3_0_eq o0)))
  apply kk (do1_eq n now 3 port fro (by first | omega | (simp only [zor, zand, zorf, zandf, znt, znf, zeq, zne, zeqf, znef, zd, zdf] at *; omega)) 0)
  apply kj 560057
  intro hb3
  apply kk (do9_eq ((do1 n now 3 port fro).1) now 3 port fro 0)
  apply kd .inl
  exact kl
  intro hb3
  apply kk (do9_eq ((do1 n now 3 port fro).1) now 3 port fro 0)
  apply kd .inl
  exact kl
  intro hb1
  apply kor
  apply kc
  intro hb2
  apply kcs (n.own != 14)
  intro hb3
  apply kf [.is 32 (.int .i64 1), .is 39 (.bool true), .callN (.tuple ⟨[.slice (some ⟨0, 0, none⟩) 2 UNK, .int .i64 1]⟩) [] [.row [.int .i64 1, .int .i64 9] 131 1]] (o_ (ieq .i64 hb2) (o_ (bis hb3) (o_ look_1_3_1_eq o0)))
  apply kk (do1_eq n now 3 port fro (by first | omega | (simp only [zor, zand, zorf, zandf, znt, znf, zeq, zne, zeqf, znef, zd, zdf] at *; omega)) 0)
  apply kj 560057
  intro hb4
  apply kk (do9_eq ((do1 n now 3 port fro).1) now 3 port fro 0)
  apply kd .inl
  exact kl
  intro hb4
  apply kk (do9_eq ((do1 n now 3 port fro).1) now 3 port fro 0)
  apply kd .inl
  exact kl
  intro hb3
  apply kf [.is 32 (.int .i64 1), .is 39 (.bool false), .callN (.tuple ⟨[.slice (some ⟨0, 0, none⟩) 2 UNK, .int .i64 1]⟩) [] [.row [.int .i64 1, .int .i64 9] 131 1]] (o_ (ieq .i64 hb2) (o_ (bis hb3) (o_ look_1_3_0_eq o0)))
  apply kk (do1_eq n now 3 port fro (by first | omega | (simp only [zor, zand, zorf, zandf, znt, znf, zeq, zne, zeqf, znef, zd, zdf] at *; omega)) 0)
  apply kj 560057
  intro hb4
  apply kk (do9_eq ((do1 n now 3 port fro).1) now 3 port fro 0)
  apply kd .inl
  exact kl
  intro hb4
  apply kk (do9_eq ((do1 n now 3 port fro).1) now 3 port fro 0)
  apply kd .inl
  exact kl
  intro hb2
  apply kc
  intro hb3
  apply kcs (n.own != 14)
  intro hb4
  apply kf [.is 32 (.int .i64 2), .is 39 (.bool true), .callN (.tuple ⟨[.slice (some ⟨0, 0, none⟩) 2 UNK, .int .i64 1]⟩) [] [.row [.int .i64 1, .int .i64 9] 131 1]] (o_ (ieq .i64 hb3) (o_ (bis hb4) (o_ look_2_3_1_eq o0)))
  apply kk (do1_eq n now 3 port fro (by first | omega | (simp only [zor, zand, zorf, zandf, znt, znf, zeq, zne, zeqf, znef, zd, zdf] at *; omega)) 0)
  apply kj 560057
  intro hb5
  apply kk (do9_eq ((do1 n now 3 port fro).1) now 3 port fro 0)
  apply kd .inl
  exact kl
  intro hb5
  apply kk (do9_eq ((do1 n now 3 port fro).1) now 3 port fro 0)
  apply kd .inl
  exact kl
  intro hb4
  apply kf [.is 32 (.int .i64 2), .is 39 (.bool false), .callN (.tuple ⟨[.slice (some ⟨0, 0, none⟩) 2 UNK, .int .i64 1]⟩) [] [.row [.int .i64 1, .int .i64 9] 131 1]] (o_ (ieq .i64 hb3) (o_ (bis hb4) (o_ look_2_3_0_eq o0)))
  apply kk (do1_eq n now 3 port fro (by first | omega | (simp only [zor, zand, zorf, zandf, znt, znf, zeq, zne, zeqf, znef, zd, zdf] at *; omega)) 0)
  apply kj 560057
  intro hb5
  apply kk (do9_eq ((do1 n now 3 port fro).1) now 3 port fro 0)
  apply kd .inl
  exact kl
  intro hb5
  apply kk (do9_eq ((do1 n now 3 port fro).1) now 3 port fro 0)
  apply kd .inl
  exact kl
  intro hb3
  apply kc
  intro hb4
  apply kcs (n.own != 14)
  intro hb5
  apply kf [.is 32 (.int .i64 3), .is 39 (.bool true), .callN (.tuple ⟨[.slice none 0 0, .int .i64 3]⟩) [] []] (o_ (ieq .i64 hb4) (o_ (bis hb5) (o_ look_3_3_1_eq o0)))
  exact kl
  intro hb5
  apply kf [.is 32 (.int .i64 3), .is 39 (.bool false), .callN (.tuple ⟨[.slice none 0 0, .int .i64 3]⟩) [] []] (o_ (ieq .i64 hb4) (o_ (bis hb5) (o_ look_3_3_0_eq o0)))
  exact kl
  intro hb4
  apply kc
  intro hb5
  apply kcs (n.own != 14)
  intro hb6
  apply kf [.is 32 (.int .i64 4), .is 39 (.bool true), .callN (.tuple ⟨[.slice (some ⟨0, 0, none⟩) 2 UNK, .int .i64 1]⟩) [] [.row [.int .i64 1, .int .i64 9] 131 1]] (o_ (ieq .i64 hb5) (o_ (bis hb6) (o_ look_4_3_1_eq o0)))
  apply kk (do1_eq n now 3 port fro (by first | omega | (simp only [zor, zand, zorf, zandf, znt, znf, zeq, zne, zeqf, znef, zd, zdf] at *; omega)) 0)
  apply kj 560057
  intro hb7
  apply kk (do9_eq ((do1 n now 3 port fro).1) now 3 port fro 0)
  apply kd .inl
  exact kl
  intro hb7
  apply kk (do9_eq ((do1 n now 3 port fro).1) now 3 port fro 0)
  apply kd .inl
  exact kl
  intro hb6
  apply kf [.is 32 (.int .i64 4), .is 39 (.bool false), .callN (.tuple ⟨[.slice (some ⟨0, 0, none⟩) 2 UNK, .int .i64 1]⟩) [] [.row [.int .i64 1, .int .i64 9] 131 1]] (o_ (ieq .i64 hb5) (o_ (bis hb6) (o_ look_4_3_0_eq o0)))
  apply kk (do1_eq n now 3 port fro (by first | omega | (simp only [zor, zand, zorf, zandf, znt, znf, zeq, zne, zeqf, znef, zd, zdf] at *; omega)) 0)
  apply kj 560057
  intro hb7
  apply kk (do9_eq ((do1 n now 3 port fro).1) now 3 port fro 0)
  apply kd .inl
  exact kl
  intro hb7
  apply kk (do9_eq ((do1 n now 3 port fro).1) now 3 port fro 0)
  apply kd .inl
  exact kl
  intro hb5
  apply kf [.callL (.tuple ⟨[.slice none 0 0, .int .i64 n.state]⟩) []] (o_ (lookOut_eq n.state 3 (n.own != 14) (by first | omega | (simp only [zor, zand, zorf, zandf, znt, znf, zeq, zne, zeqf, znef, zd, zdf] at *; omega))) o0)
  exact kl
  kernel_rfl
theorem ask3_eq (n : Nd) (now : Int) (port : Int) (fro : Int) (hp : port = 0 ∨ port = 1) (i : Nat) : AOn Tryz.prog 36 [.pointer (some ⟨i, 0, none⟩), .agg ⟨[.int .i64 now, .int .i64 3, .int .i64 port, .int .u64 fro]⟩] [(i, .cells (Nd.enc n) 44 37)] (.tuple ⟨[.bool ((ask3 n now port fro).2.1), .bool ((ask3 n now port fro).2.2)]⟩) [(i, .cells (Nd.enc ((ask3 n now port fro).1)) 44 37)] :=
  AEq.on1 (ask3_0 n now port fro hp) i rfl rfl rfl rfl
def ask3_S (n : Nd) (now : Int) (port : Int) (fro : Int) (r : Nd × Bool × Bool) : Prop := Same n r.1
theorem ask3_same (n : Nd) (now : Int) (port : Int) (fro : Int) : ask3_S n now port fro (ask3 n now port fro) := by
  unfold ask3
  refine byIte (fun _ => ?_) (fun _ => ?_)
  exact (Same.refl n)
  refine byIte (fun _ => ?_) (fun _ => ?_)
  refine byIte (fun _ => ?_) (fun _ => ?_)
  exact (((Same.refl n).trans (do1_same n now 3 port fro)).trans (do9_same ((do1 n now 3 port fro).1) now 3 port fro))
  exact (((Same.refl n).trans (do1_same n now 3 port fro)).trans (do9_same ((do1 n now 3 port fro).1) now 3 port fro))
  refine byIte (fun _ => ?_) (fun _ => ?_)
  exact (Same.refl n)
  refine byIte (fun _ => ?_) (fun _ => ?_)
  refine byIte (fun _ => ?_) (fun _ => ?_)
  exact (((Same.refl n).trans (do1_same n now 3 port fro)).trans (do9_same ((do1 n now 3 port fro).1) now 3 port fro))
  exact (((Same.refl n).trans (do1_same n now 3 port fro)).trans (do9_same ((do1 n now 3 port fro).1) now 3 port fro))
  exact (Same.refl n)

def ask0_x0 (n : Nd) (now : Int) (port : Int) (fro : Int) : Nd := do9 ((do10 n now 0 port fro).1) now 0 port fro
def ask0_x1 (n : Nd) (now : Int) (port : Int) (fro : Int) : Nd := do8 (do6 (do5 n now 0 port fro) now 0 port fro) now 0 port fro
def ask0_x2 (n : Nd) (now : Int) (port : Int) (fro : Int) : Nd × Bool × Bool := ask3 { (ask0_x1 n now port fro) with state := 4, own := 14 } now 0 0
def ask0_x3 (n : Nd) (now : Int) (port : Int) (fro : Int) : Nd × Bool × Bool := ask3 { (ask0_x1 n now port fro) with state := 4, own := 14 } now 1 0
def ask0 (n : Nd) (now : Int) (port : Int) (fro : Int) : Nd × Bool × Bool :=
  bif (reqAbove (stands n) 0) then
    (n, false, false)
  else
    bif n.state == 4 then
      bif n.role != 1 then
        (n, false, false)
      else
        bif (do10 n now 0 port fro).2 then
          ({ (ask0_x0 n now port fro) with state := 0, own := 14 }, true, true)
        else
          ({ (ask0_x0 n now port fro) with state := 0, own := 14 }, false, true)
    else
      bif (n.state == 0) || (n.state == 1) then
        (n, false, false)
      else
        bif n.state == 2 then
          bif n.own != 14 then
            bif ((ask0_x1 n now port fro).bad).w then
              bif (ask0_x2 n now port fro).2.1 then
                bif (((ask0_x2 n now port fro).1).bad).e then
                  (((ask3 ((ask0_x2 n now port fro).1) now 1 0).1), true, true)
                else
                  (((ask0_x2 n now port fro).1), true, true)
              else
                bif (((ask0_x2 n now port fro).1).bad).e then
                  bif (ask3 ((ask0_x2 n now port fro).1) now 1 0).2.1 then
                    (((ask3 ((ask0_x2 n now port fro).1) now 1 0).1), true, true)
                  else
                    (((ask3 ((ask0_x2 n now port fro).1) now 1 0).1), false, true)
                else
                  (((ask0_x2 n now port fro).1), false, true)
            else
              bif ((ask0_x1 n now port fro).bad).e then
                bif (ask0_x3 n now port fro).2.1 then
                  (((ask0_x3 n now port fro).1), true, true)
                else
                  (((ask0_x3 n now port fro).1), false, true)
              else
                ({ (ask0_x1 n now port fro) with state := 4, own := 14 }, false, true)
          else
            (n, false, false)
        else
          bif (n.state == 3) && (n.own != 14) then
            bif ((ask0_x1 n now port fro).bad).w then
              bif (ask0_x2 n now port fro).2.1 then
                bif (((ask0_x2 n now port fro).1).bad).e then
                  (((ask3 ((ask0_x2 n now port fro).1) now 1 0).1), true, true)
                else
                  (((ask0_x2 n now port fro).1), true, true)
              else
                bif (((ask0_x2 n now port fro).1).bad).e then
                  bif (ask3 ((ask0_x2 n now port fro).1) now 1 0).2.1 then
                    (((ask3 ((ask0_x2 n now port fro).1) now 1 0).1), true, true)
                  else
                    (((ask3 ((ask0_x2 n now port fro).1) now 1 0).1), false, true)
                else
                  (((ask0_x2 n now port fro).1), false, true)
            else
              bif ((ask0_x1 n now port fro).bad).e then
                bif (ask0_x3 n now port fro).2.1 then
                  (((ask0_x3 n now port fro).1), true, true)
                else
                  (((ask0_x3 n now port fro).1), false, true)
              else
                ({ (ask0_x1 n now port fro) with state := 4, own := 14 }, false, true)
          else
            (n, false, false)
def ask0_c (i : Nat) (r : Nd × Bool × Bool) : Dir := .callL (.tuple ⟨[.bool r.2.1, .bool r.2.2]⟩) [(i, .cells (Nd.enc r.1) 44 37)]
def ask0_E (r : Nd × Bool × Bool) : Value × AHeap := (.tuple ⟨[.bool r.2.1, .bool r.2.2]⟩, [.cells (Nd.enc r.1) 44 37])
theorem ask0_0 (n : Nd) (now : Int) (port : Int) (fro : Int) (hr : n.role ≠ 0 → n.rpl = 0 ∨ n.rpl = 1) : AEq Tryz.prog 36 [.pointer (some ⟨0, 0, none⟩), .agg ⟨[.int .i64 now, .int .i64 0, .int .i64 port, .int .u64 fro]⟩] [.cells (Nd.enc n) 44 37] (ask0_E (ask0 n now port fro)).1 (ask0_E (ask0 n now port fro)).2 := by
  unfold ask0
  apply ptrT 400 ask0_E
  apply kc
  intro hb0
  apply kf (stands_c (stands n) :: reqAbove_c (reqAbove (stands n) 0) :: gds 5 20 true []) (o_ (stands_eq n) (o_ (reqAbove_eq (stands n) 0) (oN 5 hb0 o0)))
  apply ku 200026 hb0
  exact kl
  intro hb0
  apply kf (stands_c (stands n) :: reqAbove_c (reqAbove (stands n) 0) :: gds 5 20 false []) (o_ (stands_eq n) (o_ (reqAbove_eq (stands n) 0) (oN 5 hb0 o0)))
  apply ku 200026 hb0
  apply kd .inl
  apply kj 160017
  intro hb1
  apply ki 27
  intro hb2
  exact kl
  intro hb2
  apply kcs (n.own != 14)
  intro hb3
  apply kf [.is 32 (.int .i64 4), .is 39 (.bool true), .callN (.tuple ⟨[.slice (some ⟨0, 0, none⟩) 2 UNK, .int .i64 0]⟩) [] [.row [.int .i64 10, .int .i64 9] 131 1]] (o_ (ieq .i64 hb1) (o_ (bis hb3) (o_ look_4_0_1_eq o0)))
  apply kk (do10_eq n now 0 port fro (by first | omega | (simp only [zor, zand, zorf, zandf, znt, znf, zeq, zne, zeqf, znef, zd, zdf] at *; omega)) 0)
  apply kj 560057
  intro hb4
  apply kk (do9_eq ((do10 n now 0 port fro).1) now 0 port fro 0)
  apply kd .inl
  exact kl
  intro hb4
  apply kk (do9_eq ((do10 n now 0 port fro).1) now 0 port fro 0)
  apply kd .inl
  exact kl
  intro hb3
  apply kf [.is 32 (.int .i64 4), .is 39 (.bool false), .callN (.tuple ⟨[.slice (some ⟨0, 0, none⟩) 2 UNK, .int .i64 0]⟩) [] [.row [.int .i64 10, .int .i64 9] 131 1]] (o_ (ieq .i64 hb1) (o_ (bis hb3) (o_ look_4_0_0_eq o0)))
  apply kk (do10_eq n now 0 port fro (by first | omega | (simp only [zor, zand, zorf, zandf, znt, znf, zeq, zne, zeqf, znef, zd, zdf] at *; omega)) 0)
  apply kj 560057
  intro hb4
  apply kk (do9_eq ((do10 n now 0 port fro).1) now 0 port fro 0)
  apply kd .inl
  exact kl
  intro hb4
  apply kk (do9_eq ((do10 n now 0 port fro).1) now 0 port fro 0)
  apply kd .inl
  exact kl
  intro hb1
  apply kor
  apply kc
  intro hb2
  apply kcs (n.own != 14)
  intro hb3
  apply kf [.is 32 (.int .i64 0), .is 39 (.bool true), .callN (.tuple ⟨[.slice none 0 0, .int .i64 0]⟩) [] []] (o_ (ieq .i64 hb2) (o_ (bis hb3) (o_ look_0_0_1_eq o0)))
  exact kl
  intro hb3
  apply kf [.is 32 (.int .i64 0), .is 39 (.bool false), .callN (.tuple ⟨[.slice none 0 0, .int .i64 0]⟩) [] []] (o_ (ieq .i64 hb2) (o_ (bis hb3) (o_ look_0_0_0_eq o0)))
  exact kl
  intro hb2
  apply kc
  intro hb3
  apply kcs (n.own != 14)
  intro hb4
  apply kf [.is 32 (.int .i64 1), .is 39 (.bool true), .callN (.tuple ⟨[.slice none 0 0, .int .i64 1]⟩) [] []] (o_ (ieq .i64 hb3) (o_ (bis hb4) (o_ look_1_0_1_eq o0)))
  exact kl
  intro hb4
  apply kf [.is 32 (.int .i64 1), .is 39 (.bool false), .callN (.tuple ⟨[.slice none 0 0, .int .i64 1]⟩) [] []] (o_ (ieq .i64 hb3) (o_ (bis hb4) (o_ look_1_0_0_eq o0)))
  exact kl
  intro hb3
  apply kc
  intro hb4
  apply kc
  intro hb5
  apply kf [.is 32 (.int .i64 2), .is 39 (.bool true), .callN (.tuple ⟨[.slice (some ⟨0, 0, none⟩) 3 UNK, .int .i64 4]⟩) [] [.row [.int .i64 5, .int .i64 6, .int .i64 8] 131 1]] (o_ (ieq .i64 hb4) (o_ (bis hb5) (o_ look_2_0_1_eq o0)))
  apply kk (do5_eq n now 0 port fro 0)
  apply kk (do6_eq (do5 n now 0 port fro) now 0 port fro 0)
  apply kk (do8_eq (do6 (do5 n now 0 port fro) now 0 port fro) now 0 port fro 0)
  apply kd .inl
  apply ki 103
  intro hb6
  apply kk (ask3_eq { (ask0_x1 n now port fro) with state := 4, own := 14 } now 0 0 (.inl rfl) 0)
  apply kj 1140115
  intro hb7
  apply ki 103
  intro hb8
  apply kk (ask3_eq ((ask0_x2 n now port fro).1) now 1 0 (.inr rfl) 0)
  apply kjs 1140115 ((ask3 ((ask0_x2 n now port fro).1) now 1 0).2.1)
  intro hb9
  exact kl
  intro hb9
  exact kl
  intro hb8
  exact kl
  intro hb7
  apply ki 103
  intro hb8
  apply kk (ask3_eq ((ask0_x2 n now port fro).1) now 1 0 (.inr rfl) 0)
  apply kj 1140115
  intro hb9
  exact kl
  intro hb9
  exact kl
  intro hb8
  exact kl
  intro hb6
  apply ki 103
  intro hb7
  apply kk (ask3_eq { (ask0_x1 n now port fro) with state := 4, own := 14 } now 1 0 (.inr rfl) 0)
  apply kj 1140115
  intro hb8
  exact kl
  intro hb8
  exact kl
  intro hb7
  exact kl
  intro hb5
  apply kf [.is 32 (.int .i64 2), .is 39 (.bool false), .callN (.tuple ⟨[.slice none 0 0, .int .i64 2]⟩) [] []] (o_ (ieq .i64 hb4) (o_ (bis hb5) (o_ look_2_0_0_eq o0)))
  exact kl
  intro hb4
  apply kand
  apply kc
  intro hb5
  apply kc
  intro hb6
  apply kf [.is 32 (.int .i64 3), .is 39 (.bool true), .callN (.tuple ⟨[.slice (some ⟨0, 0, none⟩) 3 UNK, .int .i64 4]⟩) [] [.row [.int .i64 5, .int .i64 6, .int .i64 8] 131 1]] (o_ (ieq .i64 hb5) (o_ (bis hb6) (o_ look_3_0_1_eq o0)))
  apply kk (do5_eq n now 0 port fro 0)
  apply kk (do6_eq (do5 n now 0 port fro) now 0 port fro 0)
  apply kk (do8_eq (do6 (do5 n now 0 port fro) now 0 port fro) now 0 port fro 0)
  apply kd .inl
  apply ki 103
  intro hb7
  apply kk (ask3_eq { (ask0_x1 n now port fro) with state := 4, own := 14 } now 0 0 (.inl rfl) 0)
  apply kj 1140115
  intro hb8
  apply ki 103
  intro hb9
  apply kk (ask3_eq ((ask0_x2 n now port fro).1) now 1 0 (.inr rfl) 0)
  apply kjs 1140115 ((ask3 ((ask0_x2 n now port fro).1) now 1 0).2.1)
  intro hb10
  exact kl
  intro hb10
  exact kl
  intro hb9
  exact kl
  intro hb8
  apply ki 103
  intro hb9
  apply kk (ask3_eq ((ask0_x2 n now port fro).1) now 1 0 (.inr rfl) 0)
  apply kj 1140115
  intro hb10
  exact kl
  intro hb10
  exact kl
  intro hb9
  exact kl
  intro hb7
  apply ki 103
  intro hb8
  apply kk (ask3_eq { (ask0_x1 n now port fro) with state := 4, own := 14 } now 1 0 (.inr rfl) 0)
  apply kj 1140115
  intro hb9
  exact kl
  intro hb9
  exact kl
  intro hb8
  exact kl
  intro hb6
  apply kf [.is 32 (.int .i64 3), .is 39 (.bool false), .callN (.tuple ⟨[.slice none 0 0, .int .i64 3]⟩) [] []] (o_ (ieq .i64 hb5) (o_ (bis hb6) (o_ look_3_0_0_eq o0)))
  exact kl
  intro hb5
  apply kf [.callL (.tuple ⟨[.slice none 0 0, .int .i64 n.state]⟩) []] (o_ (lookOut_eq n.state 0 (n.own != 14) (by first | omega | (simp only [zor, zand, zorf, zandf, znt, znf, zeq, zne, zeqf, znef, zd, zdf] at *; omega))) o0)
  exact kl
  kernel_rfl
theorem ask0_eq (n : Nd) (now : Int) (port : Int) (fro : Int) (hr : n.role ≠ 0 → n.rpl = 0 ∨ n.rpl = 1) (i : Nat) : AOn Tryz.prog 36 [.pointer (some ⟨i, 0, none⟩), .agg ⟨[.int .i64 now, .int .i64 0, .int .i64 port, .int .u64 fro]⟩] [(i, .cells (Nd.enc n) 44 37)] (.tuple ⟨[.bool ((ask0 n now port fro).2.1), .bool ((ask0 n now port fro).2.2)]⟩) [(i, .cells (Nd.enc ((ask0 n now port fro).1)) 44 37)] :=
  AEq.on1 (ask0_0 n now port fro hr) i rfl rfl rfl rfl
def ask0_S (n : Nd) (now : Int) (port : Int) (fro : Int) (r : Nd × Bool × Bool) : Prop := Same n r.1
theorem ask0_same (n : Nd) (now : Int) (port : Int) (fro : Int) : ask0_S n now port fro (ask0 n now port fro) := by
  unfold ask0
  refine byIte (fun _ => ?_) (fun _ => ?_)
  exact (Same.refl n)
  refine byIte (fun _ => ?_) (fun _ => ?_)
  refine byIte (fun _ => ?_) (fun _ => ?_)
  exact (Same.refl n)
  refine byIte (fun _ => ?_) (fun _ => ?_)
  exact (((Same.refl n).trans (do10_same n now 0 port fro)).trans (do9_same ((do10 n now 0 port fro).1) now 0 port fro))
  exact (((Same.refl n).trans (do10_same n now 0 port fro)).trans (do9_same ((do10 n now 0 port fro).1) now 0 port fro))
  refine byIte (fun _ => ?_) (fun _ => ?_)
  exact (Same.refl n)
  refine byIte (fun _ => ?_) (fun _ => ?_)
  refine byIte (fun _ => ?_) (fun _ => ?_)
  refine byIte (fun _ => ?_) (fun _ => ?_)
  refine byIte (fun _ => ?_) (fun _ => ?_)
  refine byIte (fun _ => ?_) (fun _ => ?_)
  exact ((((((Same.refl n).trans (do5_same n now 0 port fro)).trans (do6_same (do5 n now 0 port fro) now 0 port fro)).trans (do8_same (do6 (do5 n now 0 port fro) now 0 port fro) now 0 port fro)).trans (ask3_same { (ask0_x1 n now port fro) with state := 4, own := 14 } now 0 0)).trans (ask3_same ((ask0_x2 n now port fro).1) now 1 0))
  exact (((((Same.refl n).trans (do5_same n now 0 port fro)).trans (do6_same (do5 n now 0 port fro) now 0 port fro)).trans (do8_same (do6 (do5 n now 0 port fro) now 0 port fro) now 0 port fro)).trans (ask3_same { (ask0_x1 n now port fro) with state := 4, own := 14 } now 0 0))
  refine byIte (fun _ => ?_) (fun _ => ?_)
  refine byIte (fun _ => ?_) (fun _ => ?_)
  exact ((((((Same.refl n).trans (do5_same n now 0 port fro)).trans (do6_same (do5 n now 0 port fro) now 0 port fro)).trans (do8_same (do6 (do5 n now 0 port fro) now 0 port fro) now 0 port fro)).trans (ask3_same { (ask0_x1 n now port fro) with state := 4, own := 14 } now 0 0)).trans (ask3_same ((ask0_x2 n now port fro).1) now 1 0))
  exact ((((((Same.refl n).trans (do5_same n now 0 port fro)).trans (do6_same (do5 n now 0 port fro) now 0 port fro)).trans (do8_same (do6 (do5 n now 0 port fro) now 0 port fro) now 0 port fro)).trans (ask3_same { (ask0_x1 n now port fro) with state := 4, own := 14 } now 0 0)).trans (ask3_same ((ask0_x2 n now port fro).1) now 1 0))
  exact (((((Same.refl n).trans (do5_same n now 0 port fro)).trans (do6_same (do5 n now 0 port fro) now 0 port fro)).trans (do8_same (do6 (do5 n now 0 port fro) now 0 port fro) now 0 port fro)).trans (ask3_same { (ask0_x1 n now port fro) with state := 4, own := 14 } now 0 0))
  refine byIte (fun _ => ?_) (fun _ => ?_)
  refine byIte (fun _ => ?_) (fun _ => ?_)
  exact (((((Same.refl n).trans (do5_same n now 0 port fro)).trans (do6_same (do5 n now 0 port fro) now 0 port fro)).trans (do8_same (do6 (do5 n now 0 port fro) now 0 port fro) now 0 port fro)).trans (ask3_same { (ask0_x1 n now port fro) with state := 4, own := 14 } now 1 0))
  exact (((((Same.refl n).trans (do5_same n now 0 port fro)).trans (do6_same (do5 n now 0 port fro) now 0 port fro)).trans (do8_same (do6 (do5 n now 0 port fro) now 0 port fro) now 0 port fro)).trans (ask3_same { (ask0_x1 n now port fro) with state := 4, own := 14 } now 1 0))
  exact ((((Same.refl n).trans (do5_same n now 0 port fro)).trans (do6_same (do5 n now 0 port fro) now 0 port fro)).trans (do8_same (do6 (do5 n now 0 port fro) now 0 port fro) now 0 port fro))
  exact (Same.refl n)
  refine byIte (fun _ => ?_) (fun _ => ?_)
  refine byIte (fun _ => ?_) (fun _ => ?_)
  refine byIte (fun _ => ?_) (fun _ => ?_)
  refine byIte (fun _ => ?_) (fun _ => ?_)
  exact ((((((Same.refl n).trans (do5_same n now 0 port fro)).trans (do6_same (do5 n now 0 port fro) now 0 port fro)).trans (do8_same (do6 (do5 n now 0 port fro) now 0 port fro) now 0 port fro)).trans (ask3_same { (ask0_x1 n now port fro) with state := 4, own := 14 } now 0 0)).trans (ask3_same ((ask0_x2 n now port fro).1) now 1 0))
  exact (((((Same.refl n).trans (do5_same n now 0 port fro)).trans (do6_same (do5 n now 0 port fro) now 0 port fro)).trans (do8_same (do6 (do5 n now 0 port fro) now 0 port fro) now 0 port fro)).trans (ask3_same { (ask0_x1 n now port fro) with state := 4, own := 14 } now 0 0))
  refine byIte (fun _ => ?_) (fun _ => ?_)
  refine byIte (fun _ => ?_) (fun _ => ?_)
  exact ((((((Same.refl n).trans (do5_same n now 0 port fro)).trans (do6_same (do5 n now 0 port fro) now 0 port fro)).trans (do8_same (do6 (do5 n now 0 port fro) now 0 port fro) now 0 port fro)).trans (ask3_same { (ask0_x1 n now port fro) with state := 4, own := 14 } now 0 0)).trans (ask3_same ((ask0_x2 n now port fro).1) now 1 0))
  exact ((((((Same.refl n).trans (do5_same n now 0 port fro)).trans (do6_same (do5 n now 0 port fro) now 0 port fro)).trans (do8_same (do6 (do5 n now 0 port fro) now 0 port fro) now 0 port fro)).trans (ask3_same { (ask0_x1 n now port fro) with state := 4, own := 14 } now 0 0)).trans (ask3_same ((ask0_x2 n now port fro).1) now 1 0))
  exact (((((Same.refl n).trans (do5_same n now 0 port fro)).trans (do6_same (do5 n now 0 port fro) now 0 port fro)).trans (do8_same (do6 (do5 n now 0 port fro) now 0 port fro) now 0 port fro)).trans (ask3_same { (ask0_x1 n now port fro) with state := 4, own := 14 } now 0 0))
  refine byIte (fun _ => ?_) (fun _ => ?_)
  refine byIte (fun _ => ?_) (fun _ => ?_)
  exact (((((Same.refl n).trans (do5_same n now 0 port fro)).trans (do6_same (do5 n now 0 port fro) now 0 port fro)).trans (do8_same (do6 (do5 n now 0 port fro) now 0 port fro) now 0 port fro)).trans (ask3_same { (ask0_x1 n now port fro) with state := 4, own := 14 } now 1 0))
  exact (((((Same.refl n).trans (do5_same n now 0 port fro)).trans (do6_same (do5 n now 0 port fro) now 0 port fro)).trans (do8_same (do6 (do5 n now 0 port fro) now 0 port fro) now 0 port fro)).trans (ask3_same { (ask0_x1 n now port fro) with state := 4, own := 14 } now 1 0))
  exact ((((Same.refl n).trans (do5_same n now 0 port fro)).trans (do6_same (do5 n now 0 port fro) now 0 port fro)).trans (do8_same (do6 (do5 n now 0 port fro) now 0 port fro) now 0 port fro))
  exact (Same.refl n)

def ask1_x0 (n : Nd) (now : Int) (port : Int) (fro : Int) : Nd := do9 ((do0 n now 1 port fro).1) now 1 port fro
def ask1 (n : Nd) (now : Int) (port : Int) (fro : Int) : Nd × Bool × Bool :=
  bif (reqAbove (stands n) 1) then
    (n, false, false)
  else
    bif (n.state == 0) || ((n.state == 1) || ((n.state == 2) || ((n.state == 3) || (n.state == 4)))) then
      bif (do0 n now 1 port fro).2 then
        ({ (ask1_x0 n now port fro) with state := 3, own := 1 }, true, true)
      else
        ({ (ask1_x0 n now port fro) with state := 3, own := 1 }, false, true)
    else
      (n, false, false)
def ask1_c (i : Nat) (r : Nd × Bool × Bool) : Dir := .callL (.tuple ⟨[.bool r.2.1, .bool r.2.2]⟩) [(i, .cells (Nd.enc r.1) 44 37)]
def ask1_E (r : Nd × Bool × Bool) : Value × AHeap := (.tuple ⟨[.bool r.2.1, .bool r.2.2]⟩, [.cells (Nd.enc r.1) 44 37])
theorem ask1_0 (n : Nd) (now : Int) (port : Int) (fro : Int) (hp : port = 0 ∨ port = 1) : AEq Tryz.prog 36 [.pointer (some ⟨0, 0, none⟩), .agg ⟨[.int .i64 now, .int .i64 1, .int .i64 port, .int .u64 fro]⟩] [.cells (Nd.enc n) 44 37] (ask1_E (ask1 n now port fro)).1 (ask1_E (ask1 n now port fro)).2 := by
  unfold ask1
  apply ptrT 400 ask1_E
  apply kc
  intro hb0
  apply kf (stands_c (stands n) :: reqAbove_c (reqAbove (stands n) 1) :: gds 5 20 true []) (o_ (stands_eq n) (o_ (reqAbove_eq (stands n) 1) (oN 5 hb0 o0)))
  apply ku 200026 hb0
  exact kl
  intro hb0
  apply kf (stands_c (stands n) :: reqAbove_c (reqAbove (stands n) 1) :: gds 5 20 false []) (o_ (stands_eq n) (o_ (reqAbove_eq (stands n) 1) (oN 5 hb0 o0)))
  apply ku 200026 hb0
  apply kd .inl
  apply kor
  apply kc
  intro hb1
  apply kcs (n.own != 14)
  intro hb2
  apply kf [.is 32 (.int .i64 0), .is 39 (.bool true), .callN (.tuple ⟨[.slice (some ⟨0, 0, none⟩) 2 UNK, .int .i64 3]⟩) [] [.row [.int .i64 0, .int .i64 9] 131 1]] (o_ (ieq .i64 hb1) (o_ (bis hb2) (o_ look_0_1_1_eq o0)))
  apply kk (do0_eq n now 1 port fro (by first | omega | (simp only [zor, zand, zorf, zandf, znt, znf, zeq, zne, zeqf, znef, zd, zdf] at *; omega)) 0)
  apply kj 560057
  intro hb3
  apply kk (do9_eq ((do0 n now 1 port fro).1) now 1 port fro 0)
  exact kl
  intro hb3
  apply kk (do9_eq ((do0 n now 1 port fro).1) now 1 port fro 0)
  exact kl
  intro hb2
  apply kf [.is 32 (.int .i64 0), .is 39 (.bool false), .callN (.tuple ⟨[.slice (some ⟨0, 0, none⟩) 2 UNK, .int .i64 3]⟩) [] [.row [.int .i64 0, .int .i64 9] 131 1]] (o_ (ieq .i64 hb1) (o_ (bis hb2) (o_ look_0_1_0_eq o0)))
  apply kk (do0_eq n now 1 port fro (by first | omega | (simp only [zor, zand, zorf, zandf, znt, znf, zeq, zne, zeqf, znef, zd, zdf] at *; omega)) 0)
  apply kj 560057
  intro hb3
  apply kk (do9_eq ((do0 n now 1 port fro).1) now 1 port fro 0)
  exact kl
  intro hb3
  apply kk (do9_eq ((do0 n now 1 port fro).1) now 1 port fro 0)
  exact kl
  intro hb1
  apply kor
  apply kc
  intro hb2
  apply kcs (n.own != 14)
  intro hb3
  apply kf [.is 32 (.int .i64 1), .is 39 (.bool true), .callN (.tuple ⟨[.slice (some ⟨0, 0, none⟩) 2 UNK, .int .i64 3]⟩) [] [.row [.int .i64 0, .int .i64 9] 131 1]] (o_ (ieq .i64 hb2) (o_ (bis hb3) (o_ look_1_1_1_eq o0)))
  apply kk (do0_eq n now 1 port fro (by first | omega | (simp only [zor, zand, zorf, zandf, znt, znf, zeq, zne, zeqf, znef, zd, zdf] at *; omega)) 0)
  apply kj 560057
  intro hb4
  apply kk (do9_eq ((do0 n now 1 port fro).1) now 1 port fro 0)
  exact kl
  intro hb4
  apply kk (do9_eq ((do0 n now 1 port fro).1) now 1 port fro 0)
  exact kl
  intro hb3
  apply kf [.is 32 (.int .i64 1), .is 39 (.bool false), .callN (.tuple ⟨[.slice (some ⟨0, 0, none⟩) 2 UNK, .int .i64 3]⟩) [] [.row [.int .i64 0, .int .i64 9] 131 1]] (o_ (ieq .i64 hb2) (o_ (bis hb3) (o_ look_1_1_0_eq o0)))
  apply kk (do0_eq n now 1 port fro (by first | omega | (simp only [zor, zand, zorf, zandf, znt, znf, zeq, zne, zeqf, znef, zd, zdf] at *; omega)) 0)
  apply kj 560057
  intro hb4
  apply kk (do9_eq ((do0 n now 1 port fro).1) now 1 port fro 0)
  exact kl
  intro hb4
  apply kk (do9_eq ((do0 n now 1 port fro).1) now 1 port fro 0)
  exact kl
  intro hb2
  apply kor
  apply kc
  intro hb3
  apply kcs (n.own != 14)
  intro hb4
  apply kf [.is 32 (.int .i64 2), .is 39 (.bool true), .callN (.tuple ⟨[.slice (some ⟨0, 0, none⟩) 2 UNK, .int .i64 3]⟩) [] [.row [.int .i64 0, .int .i64 9] 131 1]] (o_ (ieq .i64 hb3) (o_ (bis hb4) (o_ look_2_1_1_eq o0)))
  apply kk (do0_eq n now 1 port fro (by first | omega | (simp only [zor, zand, zorf, zandf, znt, znf, zeq, zne, zeqf, znef, zd, zdf] at *; omega)) 0)
  apply kj 560057
  intro hb5
  apply kk (do9_eq ((do0 n now 1 port fro).1) now 1 port fro 0)
  exact kl
  intro hb5
  apply kk (do9_eq ((do0 n now 1 port fro).1) now 1 port fro 0)
  exact kl
  intro hb4
  apply kf [.is 32 (.int .i64 2), .is 39 (.bool false), .callN (.tuple ⟨[.slice (some ⟨0, 0, none⟩) 2 UNK, .int .i64 3]⟩) [] [.row [.int .i64 0, .int .i64 9] 131 1]] (o_ (ieq .i64 hb3) (o_ (bis hb4) (o_ look_2_1_0_eq o0)))
  apply kk (do0_eq n now 1 port fro (by first | omega | (simp only [zor, zand, zorf, zandf, znt, znf, zeq, zne, zeqf, znef, zd, zdf] at *; omega)) 0)
  apply kj 560057
  intro hb5
  apply kk (do9_eq ((do0 n now 1 port fro).1) now 1 port fro 0)
  exact kl
  intro hb5
  apply kk (do9_eq ((do0 n now 1 port fro).1) now 1 port fro 0)
  exact kl
  intro hb3
  apply kor
  apply kc
  intro hb4
  apply kcs (n.own != 14)
  intro hb5
  apply kf [.is 32 (.int .i64 3), .is 39 (.bool true), .callN (.tuple ⟨[.slice (some ⟨0, 0, none⟩) 2 UNK, .int .i64 3]⟩) [] [.row [.int .i64 0, .int .i64 9] 131 1]] (o_ (ieq .i64 hb4) (o_ (bis hb5) (o_ look_3_1_1_eq o0)))
  apply kk (do0_eq n now 1 port fro (by first | omega | (simp only [zor, zand, zorf, zandf, znt, znf, zeq, zne, zeqf, znef, zd, zdf] at *; omega)) 0)
  apply kj 560057
  intro hb6
  apply kk (do9_eq ((do0 n now 1 port fro).1) now 1 port fro 0)
  exact kl
  intro hb6
  apply kk (do9_eq ((do0 n now 1 port fro).1) now 1 port fro 0)
  exact kl
  intro hb5
  apply kf [.is 32 (.int .i64 3), .is 39 (.bool false), .callN (.tuple ⟨[.slice (some ⟨0, 0, none⟩) 2 UNK, .int .i64 3]⟩) [] [.row [.int .i64 0, .int .i64 9] 131 1]] (o_ (ieq .i64 hb4) (o_ (bis hb5) (o_ look_3_1_0_eq o0)))
  apply kk (do0_eq n now 1 port fro (by first | omega | (simp only [zor, zand, zorf, zandf, znt, znf, zeq, zne, zeqf, znef, zd, zdf] at *; omega)) 0)
  apply kj 560057
  intro hb6
  apply kk (do9_eq ((do0 n now 1 port fro).1) now 1 port fro 0)
  exact kl
  intro hb6
  apply kk (do9_eq ((do0 n now 1 port fro).1) now 1 port fro 0)
  exact kl
  intro hb4
  apply kc
  intro hb5
  apply kcs (n.own != 14)
  intro hb6
  apply kf [.is 32 (.int .i64 4), .is 39 (.bool true), .callN (.tuple ⟨[.slice (some ⟨0, 0, none⟩) 2 UNK, .int .i64 3]⟩) [] [.row [.int .i64 0, .int .i64 9] 131 1]] (o_ (ieq .i64 hb5) (o_ (bis hb6) (o_ look_4_1_1_eq o0)))
  apply kk (do0_eq n now 1 port fro (by first | omega | (simp only [zor, zand, zorf, zandf, znt, znf, zeq, zne, zeqf, znef, zd, zdf] at *; omega)) 0)
  apply kj 560057
  intro hb7
  apply kk (do9_eq ((do0 n now 1 port fro).1) now 1 port fro 0)
  exact kl
  intro hb7
  apply kk (do9_eq ((do0 n now 1 port fro).1) now 1 port fro 0)
  exact kl
  intro hb6
  apply kf [.is 32 (.int .i64 4), .is 39 (.bool false), .callN (.tuple ⟨[.slice (some ⟨0, 0, none⟩) 2 UNK, .int .i64 3]⟩) [] [.row [.int .i64 0, .int .i64 9] 131 1]] (o_ (ieq .i64 hb5) (o_ (bis hb6) (o_ look_4_1_0_eq o0)))
  apply kk (do0_eq n now 1 port fro (by first | omega | (simp only [zor, zand, zorf, zandf, znt, znf, zeq, zne, zeqf, znef, zd, zdf] at *; omega)) 0)
  apply kj 560057
  intro hb7
  apply kk (do9_eq ((do0 n now 1 port fro).1) now 1 port fro 0)
  exact kl
  intro hb7
  apply kk (do9_eq ((do0 n now 1 port fro).1) now 1 port fro 0)
  exact kl
  intro hb5
  apply kf [.callL (.tuple ⟨[.slice none 0 0, .int .i64 n.state]⟩) []] (o_ (lookOut_eq n.state 1 (n.own != 14) (by first | omega | (simp only [zor, zand, zorf, zandf, znt, znf, zeq, zne, zeqf, znef, zd, zdf] at *; omega))) o0)
  exact kl
  kernel_rfl
theorem ask1_eq (n : Nd) (now : Int) (port : Int) (fro : Int) (hp : port = 0 ∨ port = 1) (i : Nat) : AOn Tryz.prog 36 [.pointer (some ⟨i, 0, none⟩), .agg ⟨[.int .i64 now, .int .i64 1, .int .i64 port, .int .u64 fro]⟩] [(i, .cells (Nd.enc n) 44 37)] (.tuple ⟨[.bool ((ask1 n now port fro).2.1), .bool ((ask1 n now port fro).2.2)]⟩) [(i, .cells (Nd.enc ((ask1 n now port fro).1)) 44 37)] :=
  AEq.on1 (ask1_0 n now port fro hp) i rfl rfl rfl rfl
def ask1_S (n : Nd) (now : Int) (port : Int) (fro : Int) (r : Nd × Bool × Bool) : Prop := Same n r.1
theorem ask1_same (n : Nd) (now : Int) (port : Int) (fro : Int) : ask1_S n now port fro (ask1 n now port fro) := by
  unfold ask1
  refine byIte (fun _ => ?_) (fun _ => ?_)
  exact (Same.refl n)
  refine byIte (fun _ => ?_) (fun _ => ?_)
  refine byIte (fun _ => ?_) (fun _ => ?_)
  exact (((Same.refl n).trans (do0_same n now 1 port fro)).trans (do9_same ((do0 n now 1 port fro).1) now 1 port fro))
  exact (((Same.refl n).trans (do0_same n now 1 port fro)).trans (do9_same ((do0 n now 1 port fro).1) now 1 port fro))
  exact (Same.refl n)

def ask2_x0 (n : Nd) (now : Int) (port : Int) (fro : Int) : Nd := do9 (do4 (do13 n now 2 port fro) now 2 port fro) now 2 port fro
def ask2 (n : Nd) (now : Int) (port : Int) (fro : Int) : Nd × Bool × Bool :=
  bif (reqAbove (stands n) 2) then
    (n, false, false)
  else
    bif (n.state == 0) || ((n.state == 1) || (n.state == 2)) then
      ({ (ask2_x0 n now port fro) with state := 3, own := 14 }, false, true)
    else
      bif n.state == 3 then
        (n, false, false)
      else
        bif n.state == 4 then
          ({ (ask2_x0 n now port fro) with state := 3, own := 14 }, false, true)
        else
          (n, false, false)
def ask2_c (i : Nat) (r : Nd × Bool × Bool) : Dir := .callL (.tuple ⟨[.bool r.2.1, .bool r.2.2]⟩) [(i, .cells (Nd.enc r.1) 44 37)]
def ask2_E (r : Nd × Bool × Bool) : Value × AHeap := (.tuple ⟨[.bool r.2.1, .bool r.2.2]⟩, [.cells (Nd.enc r.1) 44 37])
theorem ask2_0 (n : Nd) (now : Int) (port : Int) (fro : Int) : AEq Tryz.prog 36 [.pointer (some ⟨0, 0, none⟩), .agg ⟨[.int .i64 now, .int .i64 2, .int .i64 port, .int .u64 fro]⟩] [.cells (Nd.enc n) 44 37] (ask2_E (ask2 n now port fro)).1 (ask2_E (ask2 n now port fro)).2 := by
  unfold ask2
  apply ptrT 400 ask2_E
  apply kc
  intro hb0
  apply kf (stands_c (stands n) :: reqAbove_c (reqAbove (stands n) 2) :: gds 5 20 true []) (o_ (stands_eq n) (o_ (reqAbove_eq (stands n) 2) (oN 5 hb0 o0)))
  apply ku 200026 hb0
  exact kl
  intro hb0
  apply kf (stands_c (stands n) :: reqAbove_c (reqAbove (stands n) 2) :: gds 5 20 false []) (o_ (stands_eq n) (o_ (reqAbove_eq (stands n) 2) (oN 5 hb0 o0)))
  apply ku 200026 hb0
  apply kd .inl
  apply kor
  apply kc
  intro hb1
  apply kcs (n.own != 14)
  intro hb2
  apply kf [.is 32 (.int .i64 0), .is 39 (.bool true), .callN (.tuple ⟨[.slice (some ⟨0, 0, none⟩) 3 UNK, .int .i64 3]⟩) [] [.row [.int .i64 13, .int .i64 4, .int .i64 9] 131 1]] (o_ (ieq .i64 hb1) (o_ (bis hb2) (o_ look_0_2_1_eq o0)))
  apply kk (do13_eq n now 2 port fro 0)
  apply kk (do4_eq (do13 n now 2 port fro) now 2 port fro 0)
  apply kk (do9_eq (do4 (do13 n now 2 port fro) now 2 port fro) now 2 port fro 0)
  apply kd .inl
  exact kl
  intro hb2
  apply kf [.is 32 (.int .i64 0), .is 39 (.bool false), .callN (.tuple ⟨[.slice (some ⟨0, 0, none⟩) 3 UNK, .int .i64 3]⟩) [] [.row [.int .i64 13, .int .i64 4, .int .i64 9] 131 1]] (o_ (ieq .i64 hb1) (o_ (bis hb2) (o_ look_0_2_0_eq o0)))
  apply kk (do13_eq n now 2 port fro 0)
  apply kk (do4_eq (do13 n now 2 port fro) now 2 port fro 0)
  apply kk (do9_eq (do4 (do13 n now 2 port fro) now 2 port fro) now 2 port fro 0)
  apply kd .inl
  exact kl
  intro hb1
  apply kor
  apply kc
  intro hb2
  apply kcs (n.own != 14)
  intro hb3
  apply kf [.is 32 (.int .i64 1), .is 39 (.bool true), .callN (.tuple ⟨[.slice (some ⟨0, 0, none⟩) 3 UNK, .int .i64 3]⟩) [] [.row [.int .i64 13, .int .i64 4, .int .i64 9] 131 1]] (o_ (ieq .i64 hb2) (o_ (bis hb3) (o_ look_1_2_1_eq o0)))
  apply kk (do13_eq n now 2 port fro 0)
  apply kk (do4_eq (do13 n now 2 port fro) now 2 port fro 0)
  apply kk (do9_eq (do4 (do13 n now 2 port fro) now 2 port fro) now 2 port fro 0)
  apply kd .inl
  exact kl
  intro hb3
  apply kf [.is 32 (.int .i64 1), .is 39 (.bool false), .callN (.tuple ⟨[.slice (some ⟨0, 0, none⟩) 3 UNK, .int .i64 3]⟩) [] [.row [.int .i64 13, .int .i64 4, .int .i64 9] 131 1]] (o_ (ieq .i64 hb2) (o_ (bis hb3) (o_ look_1_2_0_eq o0)))
  apply kk (do13_eq n now 2 port fro 0)
  apply kk (do4_eq (do13 n now 2 port fro) now 2 port fro 0)
  apply kk (do9_eq (do4 (do13 n now 2 port fro) now 2 port fro) now 2 port fro 0)
  apply kd .inl
  exact kl
  intro hb2
  apply kc
  intro hb3
  apply kcs (n.own != 14)
  intro hb4
  apply kf [.is 32 (.int .i64 2), .is 39 (.bool true), .callN (.tuple ⟨[.slice (some ⟨0, 0, none⟩) 3 UNK, .int .i64 3]⟩) [] [.row [.int .i64 13, .int .i64 4, .int .i64 9] 131 1]] (o_ (ieq .i64 hb3) (o_ (bis hb4) (o_ look_2_2_1_eq o0)))
  apply kk (do13_eq n now 2 port fro 0)
  apply kk (do4_eq (do13 n now 2 port fro) now 2 port fro 0)
  apply kk (do9_eq (do4 (do13 n now 2 port fro) now 2 port fro) now 2 port fro 0)
  apply kd .inl
  exact kl
  intro hb4
  apply kf [.is 32 (.int .i64 2), .is 39 (.bool false), .callN (.tuple ⟨[.slice (some ⟨0, 0, none⟩) 3 UNK, .int .i64 3]⟩) [] [.row [.int .i64 13, .int .i64 4, .int .i64 9] 131 1]] (o_ (ieq .i64 hb3) (o_ (bis hb4) (o_ look_2_2_0_eq o0)))
  apply kk (do13_eq n now 2 port fro 0)
  apply kk (do4_eq (do13 n now 2 port fro) now 2 port fro 0)
  apply kk (do9_eq (do4 (do13 n now 2 port fro) now 2 port fro) now 2 port fro 0)
  apply kd .inl
  exact kl
  intro hb3
  apply kc
  intro hb4
  apply kcs (n.own != 14)
  intro hb5
  apply kf [.is 32 (.int .i64 3), .is 39 (.bool true), .callN (.tuple ⟨[.slice none 0 0, .int .i64 3]⟩) [] []] (o_ (ieq .i64 hb4) (o_ (bis hb5) (o_ look_3_2_1_eq o0)))
  exact kl
  intro hb5
  apply kf [.is 32 (.int .i64 3), .is 39 (.bool false), .callN (.tuple ⟨[.slice none 0 0, .int .i64 3]⟩) [] []] (o_ (ieq .i64 hb4) (o_ (bis hb5) (o_ look_3_2_0_eq o0)))
  exact kl
  intro hb4
  apply kc
  intro hb5
  apply kcs (n.own != 14)
  intro hb6
  apply kf [.is 32 (.int .i64 4), .is 39 (.bool true), .callN (.tuple ⟨[.slice (some ⟨0, 0, none⟩) 3 UNK, .int .i64 3]⟩) [] [.row [.int .i64 13, .int .i64 4, .int .i64 9] 131 1]] (o_ (ieq .i64 hb5) (o_ (bis hb6) (o_ look_4_2_1_eq o0)))
  apply kk (do13_eq n now 2 port fro 0)
  apply kk (do4_eq (do13 n now 2 port fro) now 2 port fro 0)
  apply kk (do9_eq (do4 (do13 n now 2 port fro) now 2 port fro) now 2 port fro 0)
  apply kd .inl
  exact kl
  intro hb6
  apply kf [.is 32 (.int .i64 4), .is 39 (.bool false), .callN (.tuple ⟨[.slice (some ⟨0, 0, none⟩) 3 UNK, .int .i64 3]⟩) [] [.row [.int .i64 13, .int .i64 4, .int .i64 9] 131 1]] (o_ (ieq .i64 hb5) (o_ (bis hb6) (o_ look_4_2_0_eq o0)))
  apply kk (do13_eq n now 2 port fro 0)
  apply kk (do4_eq (do13 n now 2 port fro) now 2 port fro 0)
  apply kk (do9_eq (do4 (do13 n now 2 port fro) now 2 port fro) now 2 port fro 0)
  apply kd .inl
  exact kl
  intro hb5
  apply kf [.callL (.tuple ⟨[.slice none 0 0, .int .i64 n.state]⟩) []] (o_ (lookOut_eq n.state 2 (n.own != 14) (by first | omega | (simp only [zor, zand, zorf, zandf, znt, znf, zeq, zne, zeqf, znef, zd, zdf] at *; omega))) o0)
  exact kl
  kernel_rfl
theorem ask2_eq (n : Nd) (now : Int) (port : Int) (fro : Int) (i : Nat) : AOn Tryz.prog 36 [.pointer (some ⟨i, 0, none⟩), .agg ⟨[.int .i64 now, .int .i64 2, .int .i64 port, .int .u64 fro]⟩] [(i, .cells (Nd.enc n) 44 37)] (.tuple ⟨[.bool ((ask2 n now port fro).2.1), .bool ((ask2 n now port fro).2.2)]⟩) [(i, .cells (Nd.enc ((ask2 n now port fro).1)) 44 37)] :=
  AEq.on1 (ask2_0 n now port fro) i rfl rfl rfl rfl
def ask2_S (n : Nd) (now : Int) (port : Int) (fro : Int) (r : Nd × Bool × Bool) : Prop := Same n r.1
theorem ask2_same (n : Nd) (now : Int) (port : Int) (fro : Int) : ask2_S n now port fro (ask2 n now port fro) := by
  unfold ask2
  refine byIte (fun _ => ?_) (fun _ => ?_)
  exact (Same.refl n)
  refine byIte (fun _ => ?_) (fun _ => ?_)
  exact ((((Same.refl n).trans (do13_same n now 2 port fro)).trans (do4_same (do13 n now 2 port fro) now 2 port fro)).trans (do9_same (do4 (do13 n now 2 port fro) now 2 port fro) now 2 port fro))
  refine byIte (fun _ => ?_) (fun _ => ?_)
  exact (Same.refl n)
  refine byIte (fun _ => ?_) (fun _ => ?_)
  exact ((((Same.refl n).trans (do13_same n now 2 port fro)).trans (do4_same (do13 n now 2 port fro) now 2 port fro)).trans (do9_same (do4 (do13 n now 2 port fro) now 2 port fro) now 2 port fro))
  exact (Same.refl n)

def ask4_x0 (n : Nd) (now : Int) (port : Int) (fro : Int) : Nd := do7 (do6 (do5 n now 4 port fro) now 4 port fro) now 4 port fro
def ask4_x1 (n : Nd) (now : Int) (port : Int) (fro : Int) : Nd × Bool × Bool := ask3 { (ask4_x0 n now port fro) with state := 4, own := 14 } now 0 0
def ask4_x2 (n : Nd) (now : Int) (port : Int) (fro : Int) : Nd × Bool × Bool := ask3 { (ask4_x0 n now port fro) with state := 4, own := 14 } now 1 0
def ask4 (n : Nd) (now : Int) (port : Int) (fro : Int) : Nd × Bool × Bool :=
  bif (reqAbove (stands n) 4) || (n.state == 0) then
    (n, false, false)
  else
    bif n.state == 1 then
      bif ((ask4_x0 n now port fro).bad).w then
        bif (ask4_x1 n now port fro).2.1 then
          bif (((ask4_x1 n now port fro).1).bad).e then
            (((ask3 ((ask4_x1 n now port fro).1) now 1 0).1), true, true)
          else
            (((ask4_x1 n now port fro).1), true, true)
        else
          bif (((ask4_x1 n now port fro).1).bad).e then
            bif (ask3 ((ask4_x1 n now port fro).1) now 1 0).2.1 then
              (((ask3 ((ask4_x1 n now port fro).1) now 1 0).1), true, true)
            else
              (((ask3 ((ask4_x1 n now port fro).1) now 1 0).1), false, true)
          else
            (((ask4_x1 n now port fro).1), false, true)
      else
        bif ((ask4_x0 n now port fro).bad).e then
          bif (ask4_x2 n now port fro).2.1 then
            (((ask4_x2 n now port fro).1), true, true)
          else
            (((ask4_x2 n now port fro).1), false, true)
        else
          ({ (ask4_x0 n now port fro) with state := 4, own := 14 }, false, true)
    else
      (n, false, false)
def ask4_c (i : Nat) (r : Nd × Bool × Bool) : Dir := .callL (.tuple ⟨[.bool r.2.1, .bool r.2.2]⟩) [(i, .cells (Nd.enc r.1) 44 37)]
def ask4_E (r : Nd × Bool × Bool) : Value × AHeap := (.tuple ⟨[.bool r.2.1, .bool r.2.2]⟩, [.cells (Nd.enc r.1) 44 37])
theorem ask4_0 (n : Nd) (now : Int) (port : Int) (fro : Int) : AEq Tryz.prog 36 [.pointer (some ⟨0, 0, none⟩), .agg ⟨[.int .i64 now, .int .i64 4, .int .i64 port, .int .u64 fro]⟩] [.cells (Nd.enc n) 44 37] (ask4_E (ask4 n now port fro)).1 (ask4_E (ask4 n now port fro)).2 := by
  unfold ask4
  apply ptrT 400 ask4_E
  apply kor
  apply kc
  intro hb0
  apply kf (stands_c (stands n) :: reqAbove_c (reqAbove (stands n) 4) :: gds 5 20 true []) (o_ (stands_eq n) (o_ (reqAbove_eq (stands n) 4) (oN 5 hb0 o0)))
  apply ku 200026 hb0
  exact kl
  intro hb0
  apply kf (stands_c (stands n) :: reqAbove_c (reqAbove (stands n) 4) :: gds 5 20 false []) (o_ (stands_eq n) (o_ (reqAbove_eq (stands n) 4) (oN 5 hb0 o0)))
  apply ku 200026 hb0
  apply kd .inl
  apply kc
  intro hb1
  apply kcs (n.own != 14)
  intro hb2
  apply kf [.is 32 (.int .i64 0), .is 39 (.bool true), .callN (.tuple ⟨[.slice none 0 0, .int .i64 0]⟩) [] []] (o_ (ieq .i64 hb1) (o_ (bis hb2) (o_ look_0_4_1_eq o0)))
  exact kl
  intro hb2
  apply kf [.is 32 (.int .i64 0), .is 39 (.bool false), .callN (.tuple ⟨[.slice none 0 0, .int .i64 0]⟩) [] []] (o_ (ieq .i64 hb1) (o_ (bis hb2) (o_ look_0_4_0_eq o0)))
  exact kl
  intro hb1
  apply kc
  intro hb2
  apply kcs (n.own != 14)
  intro hb3
  apply kf [.is 32 (.int .i64 1), .is 39 (.bool true), .callN (.tuple ⟨[.slice (some ⟨0, 0, none⟩) 3 UNK, .int .i64 4]⟩) [] [.row [.int .i64 5, .int .i64 6, .int .i64 7] 131 1]] (o_ (ieq .i64 hb2) (o_ (bis hb3) (o_ look_1_4_1_eq o0)))
  apply kk (do5_eq n now 4 port fro 0)
  apply kk (do6_eq (do5 n now 4 port fro) now 4 port fro 0)
  apply kk (do7_eq (do6 (do5 n now 4 port fro) now 4 port fro) now 4 port fro 0)
  apply kd .inl
  apply ki 103
  intro hb4
  apply kk (ask3_eq { (ask4_x0 n now port fro) with state := 4, own := 14 } now 0 0 (.inl rfl) 0)
  apply kj 1140115
  intro hb5
  apply ki 103
  intro hb6
  apply kk (ask3_eq ((ask4_x1 n now port fro).1) now 1 0 (.inr rfl) 0)
  apply kjs 1140115 ((ask3 ((ask4_x1 n now port fro).1) now 1 0).2.1)
  intro hb7
  exact kl
  intro hb7
  exact kl
  intro hb6
  exact kl
  intro hb5
  apply ki 103
  intro hb6
  apply kk (ask3_eq ((ask4_x1 n now port fro).1) now 1 0 (.inr rfl) 0)
  apply kj 1140115
  intro hb7
  exact kl
  intro hb7
  exact kl
  intro hb6
  exact kl
  intro hb4
  apply ki 103
  intro hb5
  apply kk (ask3_eq { (ask4_x0 n now port fro) with state := 4, own := 14 } now 1 0 (.inr rfl) 0)
  apply kj 1140115
  intro hb6
  exact kl
  intro hb6
  exact kl
  intro hb5
  exact kl
  intro hb3
  apply kf [.is 32 (.int .i64 1), .is 39 (.bool false), .callN (.tuple ⟨[.slice (some ⟨0, 0, none⟩) 3 UNK, .int .i64 4]⟩) [] [.row [.int .i64 5, .int .i64 6, .int .i64 7] 131 1]] (o_ (ieq .i64 hb2) (o_ (bis hb3) (o_ look_1_4_0_eq o0)))
  apply kk (do5_eq n now 4 port fro 0)
  apply kk (do6_eq (do5 n now 4 port fro) now 4 port fro 0)
  apply kk (do7_eq (do6 (do5 n now 4 port fro) now 4 port fro) now 4 port fro 0)
  apply kd .inl
  apply ki 103
  intro hb4
  apply kk (ask3_eq { (ask4_x0 n now port fro) with state := 4, own := 14 } now 0 0 (.inl rfl) 0)
  apply kj 1140115
  intro hb5
  apply ki 103
  intro hb6
  apply kk (ask3_eq ((ask4_x1 n now port fro).1) now 1 0 (.inr rfl) 0)
  apply kjs 1140115 ((ask3 ((ask4_x1 n now port fro).1) now 1 0).2.1)
  intro hb7
  exact kl
  intro hb7
  exact kl
  intro hb6
  exact kl
  intro hb5
  apply ki 103
  intro hb6
  apply kk (ask3_eq ((ask4_x1 n now port fro).1) now 1 0 (.inr rfl) 0)
  apply kj 1140115
  intro hb7
  exact kl
  intro hb7
  exact kl
  intro hb6
  exact kl
  intro hb4
  apply ki 103
  intro hb5
  apply kk (ask3_eq { (ask4_x0 n now port fro) with state := 4, own := 14 } now 1 0 (.inr rfl) 0)
  apply kj 1140115
  intro hb6
  exact kl
  intro hb6
  exact kl
  intro hb5
  exact kl
  intro hb2
  apply kcs (n.state == 2)
  intro hb3
  apply kcs (n.own != 14)
  intro hb4
  apply kf [.is 32 (.int .i64 2), .is 39 (.bool true), .callN (.tuple ⟨[.slice none 0 0, .int .i64 2]⟩) [] []] (o_ (ieq .i64 hb3) (o_ (bis hb4) (o_ look_2_4_1_eq o0)))
  exact kl
  intro hb4
  apply kf [.is 32 (.int .i64 2), .is 39 (.bool false), .callN (.tuple ⟨[.slice none 0 0, .int .i64 2]⟩) [] []] (o_ (ieq .i64 hb3) (o_ (bis hb4) (o_ look_2_4_0_eq o0)))
  exact kl
  intro hb3
  apply kcs (n.state == 3)
  intro hb4
  apply kcs (n.own != 14)
  intro hb5
  apply kf [.is 32 (.int .i64 3), .is 39 (.bool true), .callN (.tuple ⟨[.slice none 0 0, .int .i64 3]⟩) [] []] (o_ (ieq .i64 hb4) (o_ (bis hb5) (o_ look_3_4_1_eq o0)))
  exact kl
  intro hb5
  apply kf [.is 32 (.int .i64 3), .is 39 (.bool false), .callN (.tuple ⟨[.slice none 0 0, .int .i64 3]⟩) [] []] (o_ (ieq .i64 hb4) (o_ (bis hb5) (o_ look_3_4_0_eq o0)))
  exact kl
  intro hb4
  apply kcs (n.state == 4)
  intro hb5
  apply kcs (n.own != 14)
  intro hb6
  apply kf [.is 32 (.int .i64 4), .is 39 (.bool true), .callN (.tuple ⟨[.slice none 0 0, .int .i64 4]⟩) [] []] (o_ (ieq .i64 hb5) (o_ (bis hb6) (o_ look_4_4_1_eq o0)))
  exact kl
  intro hb6
  apply kf [.is 32 (.int .i64 4), .is 39 (.bool false), .callN (.tuple ⟨[.slice none 0 0, .int .i64 4]⟩) [] []] (o_ (ieq .i64 hb5) (o_ (bis hb6) (o_ look_4_4_0_eq o0)))
  exact kl
  intro hb5
  apply kf [.callL (.tuple ⟨[.slice none 0 0, .int .i64 n.state]⟩) []] (o_ (lookOut_eq n.state 4 (n.own != 14) (by first | omega | (simp only [zor, zand, zorf, zandf, znt, znf, zeq, zne, zeqf, znef, zd, zdf] at *; omega))) o0)
  exact kl
  kernel_rfl
theorem ask4_eq (n : Nd) (now : Int) (port : Int) (fro : Int) (i : Nat) : AOn Tryz.prog 36 [.pointer (some ⟨i, 0, none⟩), .agg ⟨[.int .i64 now, .int .i64 4, .int .i64 port, .int .u64 fro]⟩] [(i, .cells (Nd.enc n) 44 37)] (.tuple ⟨[.bool ((ask4 n now port fro).2.1), .bool ((ask4 n now port fro).2.2)]⟩) [(i, .cells (Nd.enc ((ask4 n now port fro).1)) 44 37)] :=
  AEq.on1 (ask4_0 n now port fro) i rfl rfl rfl rfl
def ask4_S (n : Nd) (now : Int) (port : Int) (fro : Int) (r : Nd × Bool × Bool) : Prop := Same n r.1
theorem ask4_same (n : Nd) (now : Int) (port : Int) (fro : Int) : ask4_S n now port fro (ask4 n now port fro) := by
  unfold ask4
  refine byIte (fun _ => ?_) (fun _ => ?_)
  exact (Same.refl n)
  refine byIte (fun _ => ?_) (fun _ => ?_)
  refine byIte (fun _ => ?_) (fun _ => ?_)
  refine byIte (fun _ => ?_) (fun _ => ?_)
  refine byIte (fun _ => ?_) (fun _ => ?_)
  exact ((((((Same.refl n).trans (do5_same n now 4 port fro)).trans (do6_same (do5 n now 4 port fro) now 4 port fro)).trans (do7_same (do6 (do5 n now 4 port fro) now 4 port fro) now 4 port fro)).trans (ask3_same { (ask4_x0 n now port fro) with state := 4, own := 14 } now 0 0)).trans (ask3_same ((ask4_x1 n now port fro).1) now 1 0))
  exact (((((Same.refl n).trans (do5_same n now 4 port fro)).trans (do6_same (do5 n now 4 port fro) now 4 port fro)).trans (do7_same (do6 (do5 n now 4 port fro) now 4 port fro) now 4 port fro)).trans (ask3_same { (ask4_x0 n now port fro) with state := 4, own := 14 } now 0 0))
  refine byIte (fun _ => ?_) (fun _ => ?_)
  refine byIte (fun _ => ?_) (fun _ => ?_)
  exact ((((((Same.refl n).trans (do5_same n now 4 port fro)).trans (do6_same (do5 n now 4 port fro) now 4 port fro)).trans (do7_same (do6 (do5 n now 4 port fro) now 4 port fro) now 4 port fro)).trans (ask3_same { (ask4_x0 n now port fro) with state := 4, own := 14 } now 0 0)).trans (ask3_same ((ask4_x1 n now port fro).1) now 1 0))
  exact ((((((Same.refl n).trans (do5_same n now 4 port fro)).trans (do6_same (do5 n now 4 port fro) now 4 port fro)).trans (do7_same (do6 (do5 n now 4 port fro) now 4 port fro) now 4 port fro)).trans (ask3_same { (ask4_x0 n now port fro) with state := 4, own := 14 } now 0 0)).trans (ask3_same ((ask4_x1 n now port fro).1) now 1 0))
  exact (((((Same.refl n).trans (do5_same n now 4 port fro)).trans (do6_same (do5 n now 4 port fro) now 4 port fro)).trans (do7_same (do6 (do5 n now 4 port fro) now 4 port fro) now 4 port fro)).trans (ask3_same { (ask4_x0 n now port fro) with state := 4, own := 14 } now 0 0))
  refine byIte (fun _ => ?_) (fun _ => ?_)
  refine byIte (fun _ => ?_) (fun _ => ?_)
  exact (((((Same.refl n).trans (do5_same n now 4 port fro)).trans (do6_same (do5 n now 4 port fro) now 4 port fro)).trans (do7_same (do6 (do5 n now 4 port fro) now 4 port fro) now 4 port fro)).trans (ask3_same { (ask4_x0 n now port fro) with state := 4, own := 14 } now 1 0))
  exact (((((Same.refl n).trans (do5_same n now 4 port fro)).trans (do6_same (do5 n now 4 port fro) now 4 port fro)).trans (do7_same (do6 (do5 n now 4 port fro) now 4 port fro) now 4 port fro)).trans (ask3_same { (ask4_x0 n now port fro) with state := 4, own := 14 } now 1 0))
  exact ((((Same.refl n).trans (do5_same n now 4 port fro)).trans (do6_same (do5 n now 4 port fro) now 4 port fro)).trans (do7_same (do6 (do5 n now 4 port fro) now 4 port fro) now 4 port fro))
  exact (Same.refl n)

def ask5_x0 (n : Nd) (now : Int) (port : Int) (fro : Int) : Nd := do9 (do4 (do3 n now 5 port fro) now 5 port fro) now 5 port fro
def ask5 (n : Nd) (now : Int) (port : Int) (fro : Int) : Nd × Bool × Bool :=
  bif (reqAbove (stands n) 5) then
    (n, false, false)
  else
    bif (n.state == 0) || ((n.state == 1) || (n.state == 2)) then
      ({ (ask5_x0 n now port fro) with state := 1, own := 14 }, false, true)
    else
      bif n.state == 3 then
        (n, false, false)
      else
        bif n.state == 4 then
          ({ (ask5_x0 n now port fro) with state := 1, own := 14 }, false, true)
        else
          (n, false, false)
def ask5_c (i : Nat) (r : Nd × Bool × Bool) : Dir := .callL (.tuple ⟨[.bool r.2.1, .bool r.2.2]⟩) [(i, .cells (Nd.enc r.1) 44 37)]
def ask5_E (r : Nd × Bool × Bool) : Value × AHeap := (.tuple ⟨[.bool r.2.1, .bool r.2.2]⟩, [.cells (Nd.enc r.1) 44 37])
theorem ask5_0 (n : Nd) (now : Int) (port : Int) (fro : Int) : AEq Tryz.prog 36 [.pointer (some ⟨0, 0, none⟩), .agg ⟨[.int .i64 now, .int .i64 5, .int .i64 port, .int .u64 fro]⟩] [.cells (Nd.enc n) 44 37] (ask5_E (ask5 n now port fro)).1 (ask5_E (ask5 n now port fro)).2 := by
  unfold ask5
  apply ptrT 400 ask5_E
  apply kc
  intro hb0
  apply kf (stands_c (stands n) :: reqAbove_c (reqAbove (stands n) 5) :: gds 5 20 true []) (o_ (stands_eq n) (o_ (reqAbove_eq (stands n) 5) (oN 5 hb0 o0)))
  apply ku 200026 hb0
  exact kl
  intro hb0
  apply kf (stands_c (stands n) :: reqAbove_c (reqAbove (stands n) 5) :: gds 5 20 false []) (o_ (stands_eq n) (o_ (reqAbove_eq (stands n) 5) (oN 5 hb0 o0)))
  apply ku 200026 hb0
  apply kd .inl
  apply kor
  apply kc
  intro hb1
  apply kcs (n.own != 14)
  intro hb2
  apply kf [.is 32 (.int .i64 0), .is 39 (.bool true), .callN (.tuple ⟨[.slice (some ⟨0, 0, none⟩) 3 UNK, .int .i64 1]⟩) [] [.row [.int .i64 3, .int .i64 4, .int .i64 9] 131 1]] (o_ (ieq .i64 hb1) (o_ (bis hb2) (o_ look_0_5_1_eq o0)))
  apply kk (do3_eq n now 5 port fro 0)
  apply kk (do4_eq (do3 n now 5 port fro) now 5 port fro 0)
  apply kk (do9_eq (do4 (do3 n now 5 port fro) now 5 port fro) now 5 port fro 0)
  apply kd .inl
  exact kl
  intro hb2
  apply kf [.is 32 (.int .i64 0), .is 39 (.bool false), .callN (.tuple ⟨[.slice (some ⟨0, 0, none⟩) 3 UNK, .int .i64 1]⟩) [] [.row [.int .i64 3, .int .i64 4, .int .i64 9] 131 1]] (o_ (ieq .i64 hb1) (o_ (bis hb2) (o_ look_0_5_0_eq o0)))
  apply kk (do3_eq n now 5 port fro 0)
  apply kk (do4_eq (do3 n now 5 port fro) now 5 port fro 0)
  apply kk (do9_eq (do4 (do3 n now 5 port fro) now 5 port fro) now 5 port fro 0)
  apply kd .inl
  exact kl
  intro hb1
  apply kor
  apply kc
  intro hb2
  apply kcs (n.own != 14)
  intro hb3
  apply kf [.is 32 (.int .i64 1), .is 39 (.bool true), .callN (.tuple ⟨[.slice (some ⟨0, 0, none⟩) 3 UNK, .int .i64 1]⟩) [] [.row [.int .i64 3, .int .i64 4, .int .i64 9] 131 1]] (o_ (ieq .i64 hb2) (o_ (bis hb3) (o_ look_1_5_1_eq o0)))
  apply kk (do3_eq n now 5 port fro 0)
  apply kk (do4_eq (do3 n now 5 port fro) now 5 port fro 0)
  apply kk (do9_eq (do4 (do3 n now 5 port fro) now 5 port fro) now 5 port fro 0)
  apply kd .inl
  exact kl
  intro hb3
  apply kf [.is 32 (.int .i64 1), .is 39 (.bool false), .callN (.tuple ⟨[.slice (some ⟨0, 0, none⟩) 3 UNK, .int .i64 1]⟩) [] [.row [.int .i64 3, .int .i64 4, .int .i64 9] 131 1]] (o_ (ieq .i64 hb2) (o_ (bis hb3) (o_ look_1_5_0_eq o0)))
  apply kk (do3_eq n now 5 port fro 0)
  apply kk (do4_eq (do3 n now 5 port fro) now 5 port fro 0)
  apply kk (do9_eq (do4 (do3 n now 5 port fro) now 5 port fro) now 5 port fro 0)
  apply kd .inl
  exact kl
  intro hb2
  apply kc
  intro hb3
  apply kcs (n.own != 14)
  intro hb4
  apply kf [.is 32 (.int .i64 2), .is 39 (.bool true), .callN (.tuple ⟨[.slice (some ⟨0, 0, none⟩) 3 UNK, .int .i64 1]⟩) [] [.row [.int .i64 3, .int .i64 4, .int .i64 9] 131 1]] (o_ (ieq .i64 hb3) (o_ (bis hb4) (o_ look_2_5_1_eq o0)))
  apply kk (do3_eq n now 5 port fro 0)
  apply kk (do4_eq (do3 n now 5 port fro) now 5 port fro 0)
  apply kk (do9_eq (do4 (do3 n now 5 port fro) now 5 port fro) now 5 port fro 0)
  apply kd .inl
  exact kl
  intro hb4
  apply kf [.is 32 (.int .i64 2), .is 39 (.bool false), .callN (.tuple ⟨[.slice (some ⟨0, 0, none⟩) 3 UNK, .int .i64 1]⟩) [] [.row [.int .i64 3, .int .i64 4, .int .i64 9] 131 1]] (o_ (ieq .i64 hb3) (o_ (bis hb4) (o_ look_2_5_0_eq o0)))
  apply kk (do3_eq n now 5 port fro 0)
  apply kk (do4_eq (do3 n now 5 port fro) now 5 port fro 0)
  apply kk (do9_eq (do4 (do3 n now 5 port fro) now 5 port fro) now 5 port fro 0)
  apply kd .inl
  exact kl
  intro hb3
  apply kc
  intro hb4
  apply kcs (n.own != 14)
  intro hb5
  apply kf [.is 32 (.int .i64 3), .is 39 (.bool true), .callN (.tuple ⟨[.slice none 0 0, .int .i64 3]⟩) [] []] (o_ (ieq .i64 hb4) (o_ (bis hb5) (o_ look_3_5_1_eq o0)))
  exact kl
  intro hb5
  apply kf [.is 32 (.int .i64 3), .is 39 (.bool false), .callN (.tuple ⟨[.slice none 0 0, .int .i64 3]⟩) [] []] (o_ (ieq .i64 hb4) (o_ (bis hb5) (o_ look_3_5_0_eq o0)))
  exact kl
  intro hb4
  apply kc
  intro hb5
  apply kcs (n.own != 14)
  intro hb6
  apply kf [.is 32 (.int .i64 4), .is 39 (.bool true), .callN (.tuple ⟨[.slice (some ⟨0, 0, none⟩) 3 UNK, .int .i64 1]⟩) [] [.row [.int .i64 3, .int .i64 4, .int .i64 9] 131 1]] (o_ (ieq .i64 hb5) (o_ (bis hb6) (o_ look_4_5_1_eq o0)))
  apply kk (do3_eq n now 5 port fro 0)
  apply kk (do4_eq (do3 n now 5 port fro) now 5 port fro 0)
  apply kk (do9_eq (do4 (do3 n now 5 port fro) now 5 port fro) now 5 port fro 0)
  apply kd .inl
  exact kl
  intro hb6
  apply kf [.is 32 (.int .i64 4), .is 39 (.bool false), .callN (.tuple ⟨[.slice (some ⟨0, 0, none⟩) 3 UNK, .int .i64 1]⟩) [] [.row [.int .i64 3, .int .i64 4, .int .i64 9] 131 1]] (o_ (ieq .i64 hb5) (o_ (bis hb6) (o_ look_4_5_0_eq o0)))
  apply kk (do3_eq n now 5 port fro 0)
  apply kk (do4_eq (do3 n now 5 port fro) now 5 port fro 0)
  apply kk (do9_eq (do4 (do3 n now 5 port fro) now 5 port fro) now 5 port fro 0)
  apply kd .inl
  exact kl
  intro hb5
  apply kf [.callL (.tuple ⟨[.slice none 0 0, .int .i64 n.state]⟩) []] (o_ (lookOut_eq n.state 5 (n.own != 14) (by first | omega | (simp only [zor, zand, zorf, zandf, znt, znf, zeq, zne, zeqf, znef, zd, zdf] at *; omega))) o0)
  exact kl
  kernel_rfl
theorem ask5_eq (n : Nd) (now : Int) (port : Int) (fro : Int) (i : Nat) : AOn Tryz.prog 36 [.pointer (some ⟨i, 0, none⟩), .agg ⟨[.int .i64 now, .int .i64 5, .int .i64 port, .int .u64 fro]⟩] [(i, .cells (Nd.enc n) 44 37)] (.tuple ⟨[.bool ((ask5 n now port fro).2.1), .bool ((ask5 n now port fro).2.2)]⟩) [(i, .cells (Nd.enc ((ask5 n now port fro).1)) 44 37)] :=
  AEq.on1 (ask5_0 n now port fro) i rfl rfl rfl rfl
def ask5_S (n : Nd) (now : Int) (port : Int) (fro : Int) (r : Nd × Bool × Bool) : Prop := Same n r.1
theorem ask5_same (n : Nd) (now : Int) (port : Int) (fro : Int) : ask5_S n now port fro (ask5 n now port fro) := by
  unfold ask5
  refine byIte (fun _ => ?_) (fun _ => ?_)
  exact (Same.refl n)
  refine byIte (fun _ => ?_) (fun _ => ?_)
  exact ((((Same.refl n).trans (do3_same n now 5 port fro)).trans (do4_same (do3 n now 5 port fro) now 5 port fro)).trans (do9_same (do4 (do3 n now 5 port fro) now 5 port fro) now 5 port fro))
  refine byIte (fun _ => ?_) (fun _ => ?_)
  exact (Same.refl n)
  refine byIte (fun _ => ?_) (fun _ => ?_)
  exact ((((Same.refl n).trans (do3_same n now 5 port fro)).trans (do4_same (do3 n now 5 port fro) now 5 port fro)).trans (do9_same (do4 (do3 n now 5 port fro) now 5 port fro) now 5 port fro))
  exact (Same.refl n)

def ask6_x0 (n : Nd) (now : Int) (port : Int) (fro : Int) : Nd := do9 (do4 (do3 n now 6 port fro) now 6 port fro) now 6 port fro
def ask6_x1 (n : Nd) (now : Int) (port : Int) (fro : Int) : Nd := do8 (do6 (do5 n now 6 port fro) now 6 port fro) now 6 port fro
def ask6_x2 (n : Nd) (now : Int) (port : Int) (fro : Int) : Nd × Bool × Bool := ask3 { (ask6_x1 n now port fro) with state := 4, own := 14 } now 0 0
def ask6_x3 (n : Nd) (now : Int) (port : Int) (fro : Int) : Nd × Bool × Bool := ask3 { (ask6_x1 n now port fro) with state := 4, own := 14 } now 1 0
def ask6 (n : Nd) (now : Int) (port : Int) (fro : Int) : Nd × Bool × Bool :=
  bif (reqAbove (stands n) 6) then
    (n, false, false)
  else
    bif n.state == 0 then
      ({ (ask6_x0 n now port fro) with state := 2, own := 14 }, false, true)
    else
      bif n.state == 1 then
        (n, false, false)
      else
        bif n.state == 2 then
          bif n.own != 14 then
            bif ((ask6_x1 n now port fro).bad).w then
              bif (ask6_x2 n now port fro).2.1 then
                bif (((ask6_x2 n now port fro).1).bad).e then
                  (((ask3 ((ask6_x2 n now port fro).1) now 1 0).1), true, true)
                else
                  (((ask6_x2 n now port fro).1), true, true)
              else
                bif (((ask6_x2 n now port fro).1).bad).e then
                  bif (ask3 ((ask6_x2 n now port fro).1) now 1 0).2.1 then
                    (((ask3 ((ask6_x2 n now port fro).1) now 1 0).1), true, true)
                  else
                    (((ask3 ((ask6_x2 n now port fro).1) now 1 0).1), false, true)
                else
                  (((ask6_x2 n now port fro).1), false, true)
            else
              bif ((ask6_x1 n now port fro).bad).e then
                bif (ask6_x3 n now port fro).2.1 then
                  (((ask6_x3 n now port fro).1), true, true)
                else
                  (((ask6_x3 n now port fro).1), false, true)
              else
                ({ (ask6_x1 n now port fro) with state := 4, own := 14 }, false, true)
          else
            ({ (do4 (do3 n now 6 port fro) now 6 port fro) with state := 2, own := 14 }, false, true)
        else
          bif n.state == 3 then
            (n, false, false)
          else
            bif n.state == 4 then
              ({ (ask6_x0 n now port fro) with state := 2, own := 14 }, false, true)
            else
              (n, false, false)
def ask6_c (i : Nat) (r : Nd × Bool × Bool) : Dir := .callL (.tuple ⟨[.bool r.2.1, .bool r.2.2]⟩) [(i, .cells (Nd.enc r.1) 44 37)]
def ask6_E (r : Nd × Bool × Bool) : Value × AHeap := (.tuple ⟨[.bool r.2.1, .bool r.2.2]⟩, [.cells (Nd.enc r.1) 44 37])
theorem ask6_0 (n : Nd) (now : Int) (port : Int) (fro : Int) : AEq Tryz.prog 36 [.pointer (some ⟨0, 0, none⟩), .agg ⟨[.int .i64 now, .int .i64 6, .int .i64 port, .int .u64 fro]⟩] [.cells (Nd.enc n) 44 37] (ask6_E (ask6 n now port fro)).1 (ask6_E (ask6 n now port fro)).2 := by
  unfold ask6
  apply ptrT 400 ask6_E
  apply kc
  intro hb0
  apply kf (stands_c (stands n) :: reqAbove_c (reqAbove (stands n) 6) :: gds 5 20 true []) (o_ (stands_eq n) (o_ (reqAbove_eq (stands n) 6) (oN 5 hb0 o0)))
  apply ku 200026 hb0
  exact kl
  intro hb0
  apply kf (stands_c (stands n) :: reqAbove_c (reqAbove (stands n) 6) :: gds 5 20 false []) (o_ (stands_eq n) (o_ (reqAbove_eq (stands n) 6) (oN 5 hb0 o0)))
  apply ku 200026 hb0
  apply kd .inl
  apply kc
  intro hb1
  apply kcs (n.own != 14)
  intro hb2
  apply kf [.is 32 (.int .i64 0), .is 39 (.bool true), .callN (.tuple ⟨[.slice (some ⟨0, 0, none⟩) 3 UNK, .int .i64 2]⟩) [] [.row [.int .i64 3, .int .i64 4, .int .i64 9] 131 1]] (o_ (ieq .i64 hb1) (o_ (bis hb2) (o_ look_0_6_1_eq o0)))
  apply kk (do3_eq n now 6 port fro 0)
  apply kk (do4_eq (do3 n now 6 port fro) now 6 port fro 0)
  apply kk (do9_eq (do4 (do3 n now 6 port fro) now 6 port fro) now 6 port fro 0)
  apply kd .inl
  exact kl
  intro hb2
  apply kf [.is 32 (.int .i64 0), .is 39 (.bool false), .callN (.tuple ⟨[.slice (some ⟨0, 0, none⟩) 3 UNK, .int .i64 2]⟩) [] [.row [.int .i64 3, .int .i64 4, .int .i64 9] 131 1]] (o_ (ieq .i64 hb1) (o_ (bis hb2) (o_ look_0_6_0_eq o0)))
  apply kk (do3_eq n now 6 port fro 0)
  apply kk (do4_eq (do3 n now 6 port fro) now 6 port fro 0)
  apply kk (do9_eq (do4 (do3 n now 6 port fro) now 6 port fro) now 6 port fro 0)
  apply kd .inl
  exact kl
  intro hb1
  apply kc
  intro hb2
  apply kcs (n.own != 14)
  intro hb3
  apply kf [.is 32 (.int .i64 1), .is 39 (.bool true), .callN (.tuple ⟨[.slice none 0 0, .int .i64 1]⟩) [] []] (o_ (ieq .i64 hb2) (o_ (bis hb3) (o_ look_1_6_1_eq o0)))
  exact kl
  intro hb3
  apply kf [.is 32 (.int .i64 1), .is 39 (.bool false), .callN (.tuple ⟨[.slice none 0 0, .int .i64 1]⟩) [] []] (o_ (ieq .i64 hb2) (o_ (bis hb3) (o_ look_1_6_0_eq o0)))
  exact kl
  intro hb2
  apply kc
  intro hb3
  apply kc
  intro hb4
  apply kf [.is 32 (.int .i64 2), .is 39 (.bool true), .callN (.tuple ⟨[.slice (some ⟨0, 0, none⟩) 3 UNK, .int .i64 4]⟩) [] [.row [.int .i64 5, .int .i64 6, .int .i64 8] 131 1]] (o_ (ieq .i64 hb3) (o_ (bis hb4) (o_ look_2_6_1_eq o0)))
  apply kk (do5_eq n now 6 port fro 0)
  apply kk (do6_eq (do5 n now 6 port fro) now 6 port fro 0)
  apply kk (do8_eq (do6 (do5 n now 6 port fro) now 6 port fro) now 6 port fro 0)
  apply kd .inl
  apply ki 103
  intro hb5
  apply kk (ask3_eq { (ask6_x1 n now port fro) with state := 4, own := 14 } now 0 0 (.inl rfl) 0)
  apply kj 1140115
  intro hb6
  apply ki 103
  intro hb7
  apply kk (ask3_eq ((ask6_x2 n now port fro).1) now 1 0 (.inr rfl) 0)
  apply kjs 1140115 ((ask3 ((ask6_x2 n now port fro).1) now 1 0).2.1)
  intro hb8
  exact kl
  intro hb8
  exact kl
  intro hb7
  exact kl
  intro hb6
  apply ki 103
  intro hb7
  apply kk (ask3_eq ((ask6_x2 n now port fro).1) now 1 0 (.inr rfl) 0)
  apply kj 1140115
  intro hb8
  exact kl
  intro hb8
  exact kl
  intro hb7
  exact kl
  intro hb5
  apply ki 103
  intro hb6
  apply kk (ask3_eq { (ask6_x1 n now port fro) with state := 4, own := 14 } now 1 0 (.inr rfl) 0)
  apply kj 1140115
  intro hb7
  exact kl
  intro hb7
  exact kl
  intro hb6
  exact kl
  intro hb4
  apply kf [.is 32 (.int .i64 2), .is 39 (.bool false), .callN (.tuple ⟨[.slice (some ⟨0, 0, none⟩) 2 UNK, .int .i64 2]⟩) [] [.row [.int .i64 3, .int .i64 4] 131 1]] (o_ (ieq .i64 hb3) (o_ (bis hb4) (o_ look_2_6_0_eq o0)))
  apply kk (do3_eq n now 6 port fro 0)
  apply kk (do4_eq (do3 n now 6 port fro) now 6 port fro 0)
  apply kd .inl
  exact kl
  intro hb3
  apply kc
  intro hb4
  apply kcs (n.own != 14)
  intro hb5
  apply kf [.is 32 (.int .i64 3), .is 39 (.bool true), .callN (.tuple ⟨[.slice none 0 0, .int .i64 3]⟩) [] []] (o_ (ieq .i64 hb4) (o_ (bis hb5) (o_ look_3_6_1_eq o0)))
  exact kl
  intro hb5
  apply kf [.is 32 (.int .i64 3), .is 39 (.bool false), .callN (.tuple ⟨[.slice none 0 0, .int .i64 3]⟩) [] []] (o_ (ieq .i64 hb4) (o_ (bis hb5) (o_ look_3_6_0_eq o0)))
  exact kl
  intro hb4
  apply kc
  intro hb5
  apply kcs (n.own != 14)
  intro hb6
  apply kf [.is 32 (.int .i64 4), .is 39 (.bool true), .callN (.tuple ⟨[.slice (some ⟨0, 0, none⟩) 3 UNK, .int .i64 2]⟩) [] [.row [.int .i64 3, .int .i64 4, .int .i64 9] 131 1]] (o_ (ieq .i64 hb5) (o_ (bis hb6) (o_ look_4_6_1_eq o0)))
  apply kk (do3_eq n now 6 port fro 0)
  apply kk (do4_eq (do3 n now 6 port fro) now 6 port fro 0)
  apply kk (do9_eq (do4 (do3 n now 6 port fro) now 6 port fro) now 6 port fro 0)
  apply kd .inl
  exact kl
  intro hb6
  apply kf [.is 32 (.int .i64 4), .is 39 (.bool false), .callN (.tuple ⟨[.slice (some ⟨0, 0, none⟩) 3 UNK, .int .i64 2]⟩) [] [.row [.int .i64 3, .int .i64 4, .int .i64 9] 131 1]] (o_ (ieq .i64 hb5) (o_ (bis hb6) (o_ look_4_6_0_eq o0)))
  apply kk (do3_eq n now 6 port fro 0)
  apply kk (do4_eq (do3 n now 6 port fro) now 6 port fro 0)
  apply kk (do9_eq (do4 (do3 n now 6 port fro) now 6 port fro) now 6 port fro 0)
  apply kd .inl
  exact kl
  intro hb5
  apply kf [.callL (.tuple ⟨[.slice none 0 0, .int .i64 n.state]⟩) []] (o_ (lookOut_eq n.state 6 (n.own != 14) (by first | omega | (simp only [zor, zand, zorf, zandf, znt, znf, zeq, zne, zeqf, znef, zd, zdf] at *; omega))) o0)
  exact kl
  kernel_rfl
theorem ask6_eq (n : Nd) (now : Int) (port : Int) (fro : Int) (i : Nat) : AOn Tryz.prog 36 [.pointer (some ⟨i, 0, none⟩), .agg ⟨[.int .i64 now, .int .i64 6, .int .i64 port, .int .u64 fro]⟩] [(i, .cells (Nd.enc n) 44 37)] (.tuple ⟨[.bool ((ask6 n now port fro).2.1), .bool ((ask6 n now port fro).2.2)]⟩) [(i, .cells (Nd.enc ((ask6 n now port fro).1)) 44 37)] :=
  AEq.on1 (ask6_0 n now port fro) i rfl rfl rfl rfl
def ask6_S (n : Nd) (now : Int) (port : Int) (fro : Int) (r : Nd × Bool × Bool) : Prop := Same n r.1
theorem ask6_same (n : Nd) (now : Int) (port : Int) (fro : Int) : ask6_S n now port fro (ask6 n now port fro) := by
  unfold ask6
  refine byIte (fun _ => ?_) (fun _ => ?_)
  exact (Same.refl n)
  refine byIte (fun _ => ?_) (fun _ => ?_)
  exact ((((Same.refl n).trans (do3_same n now 6 port fro)).trans (do4_same (do3 n now 6 port fro) now 6 port fro)).trans (do9_same (do4 (do3 n now 6 port fro) now 6 port fro) now 6 port fro))
  refine byIte (fun _ => ?_) (fun _ => ?_)
  exact (Same.refl n)
  refine byIte (fun _ => ?_) (fun _ => ?_)
  refine byIte (fun _ => ?_) (fun _ => ?_)
  refine byIte (fun _ => ?_) (fun _ => ?_)
  refine byIte (fun _ => ?_) (fun _ => ?_)
  refine byIte (fun _ => ?_) (fun _ => ?_)
  exact ((((((Same.refl n).trans (do5_same n now 6 port fro)).trans (do6_same (do5 n now 6 port fro) now 6 port fro)).trans (do8_same (do6 (do5 n now 6 port fro) now 6 port fro) now 6 port fro)).trans (ask3_same { (ask6_x1 n now port fro) with state := 4, own := 14 } now 0 0)).trans (ask3_same ((ask6_x2 n now port fro).1) now 1 0))
  exact (((((Same.refl n).trans (do5_same n now 6 port fro)).trans (do6_same (do5 n now 6 port fro) now 6 port fro)).trans (do8_same (do6 (do5 n now 6 port fro) now 6 port fro) now 6 port fro)).trans (ask3_same { (ask6_x1 n now port fro) with state := 4, own := 14 } now 0 0))
  refine byIte (fun _ => ?_) (fun _ => ?_)
  refine byIte (fun _ => ?_) (fun _ => ?_)
  exact ((((((Same.refl n).trans (do5_same n now 6 port fro)).trans (do6_same (do5 n now 6 port fro) now 6 port fro)).trans (do8_same (do6 (do5 n now 6 port fro) now 6 port fro) now 6 port fro)).trans (ask3_same { (ask6_x1 n now port fro) with state := 4, own := 14 } now 0 0)).trans (ask3_same ((ask6_x2 n now port fro).1) now 1 0))
  exact ((((((Same.refl n).trans (do5_same n now 6 port fro)).trans (do6_same (do5 n now 6 port fro) now 6 port fro)).trans (do8_same (do6 (do5 n now 6 port fro) now 6 port fro) now 6 port fro)).trans (ask3_same { (ask6_x1 n now port fro) with state := 4, own := 14 } now 0 0)).trans (ask3_same ((ask6_x2 n now port fro).1) now 1 0))
  exact (((((Same.refl n).trans (do5_same n now 6 port fro)).trans (do6_same (do5 n now 6 port fro) now 6 port fro)).trans (do8_same (do6 (do5 n now 6 port fro) now 6 port fro) now 6 port fro)).trans (ask3_same { (ask6_x1 n now port fro) with state := 4, own := 14 } now 0 0))
  refine byIte (fun _ => ?_) (fun _ => ?_)
  refine byIte (fun _ => ?_) (fun _ => ?_)
  exact (((((Same.refl n).trans (do5_same n now 6 port fro)).trans (do6_same (do5 n now 6 port fro) now 6 port fro)).trans (do8_same (do6 (do5 n now 6 port fro) now 6 port fro) now 6 port fro)).trans (ask3_same { (ask6_x1 n now port fro) with state := 4, own := 14 } now 1 0))
  exact (((((Same.refl n).trans (do5_same n now 6 port fro)).trans (do6_same (do5 n now 6 port fro) now 6 port fro)).trans (do8_same (do6 (do5 n now 6 port fro) now 6 port fro) now 6 port fro)).trans (ask3_same { (ask6_x1 n now port fro) with state := 4, own := 14 } now 1 0))
  exact ((((Same.refl n).trans (do5_same n now 6 port fro)).trans (do6_same (do5 n now 6 port fro) now 6 port fro)).trans (do8_same (do6 (do5 n now 6 port fro) now 6 port fro) now 6 port fro))
  exact (((Same.refl n).trans (do3_same n now 6 port fro)).trans (do4_same (do3 n now 6 port fro) now 6 port fro))
  refine byIte (fun _ => ?_) (fun _ => ?_)
  exact (Same.refl n)
  refine byIte (fun _ => ?_) (fun _ => ?_)
  exact ((((Same.refl n).trans (do3_same n now 6 port fro)).trans (do4_same (do3 n now 6 port fro) now 6 port fro)).trans (do9_same (do4 (do3 n now 6 port fro) now 6 port fro) now 6 port fro))
  exact (Same.refl n)

def ask7_x0 (n : Nd) (now : Int) (port : Int) (fro : Int) : Nd := do9 ((do2 n now 7 port fro).1) now 7 port fro
def ask7 (n : Nd) (now : Int) (port : Int) (fro : Int) : Nd × Bool × Bool :=
  bif (reqAbove (stands n) 7) then
    (n, false, false)
  else
    bif n.state == 0 then
      bif (do2 n now 7 port fro).2 then
        ({ (ask7_x0 n now port fro) with state := 2, own := 7 }, true, true)
      else
        ({ (ask7_x0 n now port fro) with state := 2, own := 7 }, false, true)
    else
      bif (n.state == 1) || ((n.state == 2) || (n.state == 3)) then
        (n, false, false)
      else
        bif n.state == 4 then
          bif (do2 n now 7 port fro).2 then
            ({ (ask7_x0 n now port fro) with state := 2, own := 7 }, true, true)
          else
            ({ (ask7_x0 n now port fro) with state := 2, own := 7 }, false, true)
        else
          (n, false, false)
def ask7_c (i : Nat) (r : Nd × Bool × Bool) : Dir := .callL (.tuple ⟨[.bool r.2.1, .bool r.2.2]⟩) [(i, .cells (Nd.enc r.1) 44 37)]
def ask7_E (r : Nd × Bool × Bool) : Value × AHeap := (.tuple ⟨[.bool r.2.1, .bool r.2.2]⟩, [.cells (Nd.enc r.1) 44 37])
theorem ask7_0 (n : Nd) (now : Int) (port : Int) (fro : Int) (hp : port = 0 ∨ port = 1) : AEq Tryz.prog 36 [.pointer (some ⟨0, 0, none⟩), .agg ⟨[.int .i64 now, .int .i64 7, .int .i64 port, .int .u64 fro]⟩] [.cells (Nd.enc n) 44 37] (ask7_E (ask7 n now port fro)).1 (ask7_E (ask7 n now port fro)).2 := by
  unfold ask7
  apply ptrT 400 ask7_E
  apply kc
  intro hb0
  apply kf (stands_c (stands n) :: reqAbove_c (reqAbove (stands n) 7) :: gds 5 20 true []) (o_ (stands_eq n) (o_ (reqAbove_eq (stands n) 7) (oN 5 hb0 o0)))
  apply ku 200026 hb0
  exact kl
  intro hb0
  apply kf (stands_c (stands n) :: reqAbove_c (reqAbove (stands n) 7) :: gds 5 20 false []) (o_ (stands_eq n) (o_ (reqAbove_eq (stands n) 7) (oN 5 hb0 o0)))
  apply ku 200026 hb0
  apply kd .inl
  apply kc
  intro hb1
  apply kcs (n.own != 14)
  intro hb2
  apply kf [.is 32 (.int .i64 0), .is 39 (.bool true), .callN (.tuple ⟨[.slice (some ⟨0, 0, none⟩) 2 UNK, .int .i64 2]⟩) [] [.row [.int .i64 2, .int .i64 9] 131 1]] (o_ (ieq .i64 hb1) (o_ (bis hb2) (o_ look_0_7_1_eq o0)))
  apply kk (do2_eq n now 7 port fro (by first | omega | (simp only [zor, zand, zorf, zandf, znt, znf, zeq, zne, zeqf, znef, zd, zdf] at *; omega)) 0)
  apply kj 560057
  intro hb3
  apply kk (do9_eq ((do2 n now 7 port fro).1) now 7 port fro 0)
  exact kl
  intro hb3
  apply kk (do9_eq ((do2 n now 7 port fro).1) now 7 port fro 0)
  exact kl
  intro hb2
  apply kf [.is 32 (.int .i64 0), .is 39 (.bool false), .callN (.tuple ⟨[.slice (some ⟨0, 0, none⟩) 2 UNK, .int .i64 2]⟩) [] [.row [.int .i64 2, .int .i64 9] 131 1]] (o_ (ieq .i64 hb1) (o_ (bis hb2) (o_ look_0_7_0_eq o0)))
  apply kk (do2_eq n now 7 port fro (by first | omega | (simp only [zor, zand, zorf, zandf, znt, znf, zeq, zne, zeqf, znef, zd, zdf] at *; omega)) 0)
  apply kj 560057
  intro hb3
  apply kk (do9_eq ((do2 n now 7 port fro).1) now 7 port fro 0)
  exact kl
  intro hb3
  apply kk (do9_eq ((do2 n now 7 port fro).1) now 7 port fro 0)
  exact kl
  intro hb1
  apply kor
  apply kc
  intro hb2
  apply kcs (n.own != 14)
  intro hb3
  apply kf [.is 32 (.int .i64 1), .is 39 (.bool true), .callN (.tuple ⟨[.slice none 0 0, .int .i64 1]⟩) [] []] (o_ (ieq .i64 hb2) (o_ (bis hb3) (o_ look_1_7_1_eq o0)))
  exact kl
  intro hb3
  apply kf [.is 32 (.int .i64 1), .is 39 (.bool false), .callN (.tuple ⟨[.slice none 0 0, .int .i64 1]⟩) [] []] (o_ (ieq .i64 hb2) (o_ (bis hb3) (o_ look_1_7_0_eq o0)))
  exact kl
  intro hb2
  apply kor
  apply kc
  intro hb3
  apply kcs (n.own != 14)
  intro hb4
  apply kf [.is 32 (.int .i64 2), .is 39 (.bool true), .callN (.tuple ⟨[.slice none 0 0, .int .i64 2]⟩) [] []] (o_ (ieq .i64 hb3) (o_ (bis hb4) (o_ look_2_7_1_eq o0)))
  exact kl
  intro hb4
  apply kf [.is 32 (.int .i64 2), .is 39 (.bool false), .callN (.tuple ⟨[.slice none 0 0, .int .i64 2]⟩) [] []] (o_ (ieq .i64 hb3) (o_ (bis hb4) (o_ look_2_7_0_eq o0)))
  exact kl
  intro hb3
  apply kc
  intro hb4
  apply kcs (n.own != 14)
  intro hb5
  apply kf [.is 32 (.int .i64 3), .is 39 (.bool true), .callN (.tuple ⟨[.slice none 0 0, .int .i64 3]⟩) [] []] (o_ (ieq .i64 hb4) (o_ (bis hb5) (o_ look_3_7_1_eq o0)))
  exact kl
  intro hb5
  apply kf [.is 32 (.int .i64 3), .is 39 (.bool false), .callN (.tuple ⟨[.slice none 0 0, .int .i64 3]⟩) [] []] (o_ (ieq .i64 hb4) (o_ (bis hb5) (o_ look_3_7_0_eq o0)))
  exact kl
  intro hb4
  apply kc
  intro hb5
  apply kcs (n.own != 14)
  intro hb6
  apply kf [.is 32 (.int .i64 4), .is 39 (.bool true), .callN (.tuple ⟨[.slice (some ⟨0, 0, none⟩) 2 UNK, .int .i64 2]⟩) [] [.row [.int .i64 2, .int .i64 9] 131 1]] (o_ (ieq .i64 hb5) (o_ (bis hb6) (o_ look_4_7_1_eq o0)))
  apply kk (do2_eq n now 7 port fro (by first | omega | (simp only [zor, zand, zorf, zandf, znt, znf, zeq, zne, zeqf, znef, zd, zdf] at *; omega)) 0)
  apply kj 560057
  intro hb7
  apply kk (do9_eq ((do2 n now 7 port fro).1) now 7 port fro 0)
  exact kl
  intro hb7
  apply kk (do9_eq ((do2 n now 7 port fro).1) now 7 port fro 0)
  exact kl
  intro hb6
  apply kf [.is 32 (.int .i64 4), .is 39 (.bool false), .callN (.tuple ⟨[.slice (some ⟨0, 0, none⟩) 2 UNK, .int .i64 2]⟩) [] [.row [.int .i64 2, .int .i64 9] 131 1]] (o_ (ieq .i64 hb5) (o_ (bis hb6) (o_ look_4_7_0_eq o0)))
  apply kk (do2_eq n now 7 port fro (by first | omega | (simp only [zor, zand, zorf, zandf, znt, znf, zeq, zne, zeqf, znef, zd, zdf] at *; omega)) 0)
  apply kj 560057
  intro hb7
  apply kk (do9_eq ((do2 n now 7 port fro).1) now 7 port fro 0)
  exact kl
  intro hb7
  apply kk (do9_eq ((do2 n now 7 port fro).1) now 7 port fro 0)
  exact kl
  intro hb5
  apply kf [.callL (.tuple ⟨[.slice none 0 0, .int .i64 n.state]⟩) []] (o_ (lookOut_eq n.state 7 (n.own != 14) (by first | omega | (simp only [zor, zand, zorf, zandf, znt, znf, zeq, zne, zeqf, znef, zd, zdf] at *; omega))) o0)
  exact kl
  kernel_rfl
theorem ask7_eq (n : Nd) (now : Int) (port : Int) (fro : Int) (hp : port = 0 ∨ port = 1) (i : Nat) : AOn Tryz.prog 36 [.pointer (some ⟨i, 0, none⟩), .agg ⟨[.int .i64 now, .int .i64 7, .int .i64 port, .int .u64 fro]⟩] [(i, .cells (Nd.enc n) 44 37)] (.tuple ⟨[.bool ((ask7 n now port fro).2.1), .bool ((ask7 n now port fro).2.2)]⟩) [(i, .cells (Nd.enc ((ask7 n now port fro).1)) 44 37)] :=
  AEq.on1 (ask7_0 n now port fro hp) i rfl rfl rfl rfl
def ask7_S (n : Nd) (now : Int) (port : Int) (fro : Int) (r : Nd × Bool × Bool) : Prop := Same n r.1
theorem ask7_same (n : Nd) (now : Int) (port : Int) (fro : Int) : ask7_S n now port fro (ask7 n now port fro) := by
  unfold ask7
  refine byIte (fun _ => ?_) (fun _ => ?_)
  exact (Same.refl n)
  refine byIte (fun _ => ?_) (fun _ => ?_)
  refine byIte (fun _ => ?_) (fun _ => ?_)
  exact (((Same.refl n).trans (do2_same n now 7 port fro)).trans (do9_same ((do2 n now 7 port fro).1) now 7 port fro))
  exact (((Same.refl n).trans (do2_same n now 7 port fro)).trans (do9_same ((do2 n now 7 port fro).1) now 7 port fro))
  refine byIte (fun _ => ?_) (fun _ => ?_)
  exact (Same.refl n)
  refine byIte (fun _ => ?_) (fun _ => ?_)
  refine byIte (fun _ => ?_) (fun _ => ?_)
  exact (((Same.refl n).trans (do2_same n now 7 port fro)).trans (do9_same ((do2 n now 7 port fro).1) now 7 port fro))
  exact (((Same.refl n).trans (do2_same n now 7 port fro)).trans (do9_same ((do2 n now 7 port fro).1) now 7 port fro))
  exact (Same.refl n)

def ask8_x0 (n : Nd) (now : Int) (port : Int) (fro : Int) : Nd := do9 ((do10 n now 8 port fro).1) now 8 port fro
def ask8 (n : Nd) (now : Int) (port : Int) (fro : Int) : Nd × Bool × Bool :=
  bif (reqAbove (stands n) 8) then
    (n, false, false)
  else
    bif n.state == 4 then
      bif n.role != 1 then
        (n, false, false)
      else
        bif (do10 n now 8 port fro).2 then
          ({ (ask8_x0 n now port fro) with state := 0, own := 14 }, true, true)
        else
          ({ (ask8_x0 n now port fro) with state := 0, own := 14 }, false, true)
    else
      (n, false, false)
def ask8_c (i : Nat) (r : Nd × Bool × Bool) : Dir := .callL (.tuple ⟨[.bool r.2.1, .bool r.2.2]⟩) [(i, .cells (Nd.enc r.1) 44 37)]
def ask8_E (r : Nd × Bool × Bool) : Value × AHeap := (.tuple ⟨[.bool r.2.1, .bool r.2.2]⟩, [.cells (Nd.enc r.1) 44 37])
theorem ask8_0 (n : Nd) (now : Int) (port : Int) (fro : Int) (hr : n.role ≠ 0 → n.rpl = 0 ∨ n.rpl = 1) : AEq Tryz.prog 36 [.pointer (some ⟨0, 0, none⟩), .agg ⟨[.int .i64 now, .int .i64 8, .int .i64 port, .int .u64 fro]⟩] [.cells (Nd.enc n) 44 37] (ask8_E (ask8 n now port fro)).1 (ask8_E (ask8 n now port fro)).2 := by
  unfold ask8
  apply ptrT 400 ask8_E
  apply kc
  intro hb0
  apply kf (stands_c (stands n) :: reqAbove_c (reqAbove (stands n) 8) :: gds 5 20 true []) (o_ (stands_eq n) (o_ (reqAbove_eq (stands n) 8) (oN 5 hb0 o0)))
  apply ku 200026 hb0
  exact kl
  intro hb0
  apply kf (stands_c (stands n) :: reqAbove_c (reqAbove (stands n) 8) :: gds 5 20 false []) (o_ (stands_eq n) (o_ (reqAbove_eq (stands n) 8) (oN 5 hb0 o0)))
  apply ku 200026 hb0
  apply kd .inl
  apply kj 160017
  intro hb1
  apply ki 27
  intro hb2
  exact kl
  intro hb2
  apply kcs (n.own != 14)
  intro hb3
  apply kf [.is 32 (.int .i64 4), .is 39 (.bool true), .callN (.tuple ⟨[.slice (some ⟨0, 0, none⟩) 2 UNK, .int .i64 0]⟩) [] [.row [.int .i64 10, .int .i64 9] 131 1]] (o_ (ieq .i64 hb1) (o_ (bis hb3) (o_ look_4_8_1_eq o0)))
  apply kk (do10_eq n now 8 port fro (by first | omega | (simp only [zor, zand, zorf, zandf, znt, znf, zeq, zne, zeqf, znef, zd, zdf] at *; omega)) 0)
  apply kj 560057
  intro hb4
  apply kk (do9_eq ((do10 n now 8 port fro).1) now 8 port fro 0)
  apply kd .inl
  exact kl
  intro hb4
  apply kk (do9_eq ((do10 n now 8 port fro).1) now 8 port fro 0)
  apply kd .inl
  exact kl
  intro hb3
  apply kf [.is 32 (.int .i64 4), .is 39 (.bool false), .callN (.tuple ⟨[.slice (some ⟨0, 0, none⟩) 2 UNK, .int .i64 0]⟩) [] [.row [.int .i64 10, .int .i64 9] 131 1]] (o_ (ieq .i64 hb1) (o_ (bis hb3) (o_ look_4_8_0_eq o0)))
  apply kk (do10_eq n now 8 port fro (by first | omega | (simp only [zor, zand, zorf, zandf, znt, znf, zeq, zne, zeqf, znef, zd, zdf] at *; omega)) 0)
  apply kj 560057
  intro hb4
  apply kk (do9_eq ((do10 n now 8 port fro).1) now 8 port fro 0)
  apply kd .inl
  exact kl
  intro hb4
  apply kk (do9_eq ((do10 n now 8 port fro).1) now 8 port fro 0)
  apply kd .inl
  exact kl
  intro hb1
  apply kcs (n.state == 0)
  intro hb2
  apply kcs (n.own != 14)
  intro hb3
  apply kf [.is 32 (.int .i64 0), .is 39 (.bool true), .callN (.tuple ⟨[.slice none 0 0, .int .i64 0]⟩) [] []] (o_ (ieq .i64 hb2) (o_ (bis hb3) (o_ look_0_8_1_eq o0)))
  exact kl
  intro hb3
  apply kf [.is 32 (.int .i64 0), .is 39 (.bool false), .callN (.tuple ⟨[.slice none 0 0, .int .i64 0]⟩) [] []] (o_ (ieq .i64 hb2) (o_ (bis hb3) (o_ look_0_8_0_eq o0)))
  exact kl
  intro hb2
  apply kcs (n.state == 1)
  intro hb3
  apply kcs (n.own != 14)
  intro hb4
  apply kf [.is 32 (.int .i64 1), .is 39 (.bool true), .callN (.tuple ⟨[.slice none 0 0, .int .i64 1]⟩) [] []] (o_ (ieq .i64 hb3) (o_ (bis hb4) (o_ look_1_8_1_eq o0)))
  exact kl
  intro hb4
  apply kf [.is 32 (.int .i64 1), .is 39 (.bool false), .callN (.tuple ⟨[.slice none 0 0, .int .i64 1]⟩) [] []] (o_ (ieq .i64 hb3) (o_ (bis hb4) (o_ look_1_8_0_eq o0)))
  exact kl
  intro hb3
  apply kcs (n.state == 2)
  intro hb4
  apply kcs (n.own != 14)
  intro hb5
  apply kf [.is 32 (.int .i64 2), .is 39 (.bool true), .callN (.tuple ⟨[.slice none 0 0, .int .i64 2]⟩) [] []] (o_ (ieq .i64 hb4) (o_ (bis hb5) (o_ look_2_8_1_eq o0)))
  exact kl
  intro hb5
  apply kf [.is 32 (.int .i64 2), .is 39 (.bool false), .callN (.tuple ⟨[.slice none 0 0, .int .i64 2]⟩) [] []] (o_ (ieq .i64 hb4) (o_ (bis hb5) (o_ look_2_8_0_eq o0)))
  exact kl
  intro hb4
  apply kcs (n.state == 3)
  intro hb5
  apply kcs (n.own != 14)
  intro hb6
  apply kf [.is 32 (.int .i64 3), .is 39 (.bool true), .callN (.tuple ⟨[.slice none 0 0, .int .i64 3]⟩) [] []] (o_ (ieq .i64 hb5) (o_ (bis hb6) (o_ look_3_8_1_eq o0)))
  exact kl
  intro hb6
  apply kf [.is 32 (.int .i64 3), .is 39 (.bool false), .callN (.tuple ⟨[.slice none 0 0, .int .i64 3]⟩) [] []] (o_ (ieq .i64 hb5) (o_ (bis hb6) (o_ look_3_8_0_eq o0)))
  exact kl
  intro hb5
  apply kf [.callL (.tuple ⟨[.slice none 0 0, .int .i64 n.state]⟩) []] (o_ (lookOut_eq n.state 8 (n.own != 14) (by first | omega | (simp only [zor, zand, zorf, zandf, znt, znf, zeq, zne, zeqf, znef, zd, zdf] at *; omega))) o0)
  exact kl
  kernel_rfl
theorem ask8_eq (n : Nd) (now : Int) (port : Int) (fro : Int) (hr : n.role ≠ 0 → n.rpl = 0 ∨ n.rpl = 1) (i : Nat) : AOn Tryz.prog 36 [.pointer (some ⟨i, 0, none⟩), .agg ⟨[.int .i64 now, .int .i64 8, .int .i64 port, .int .u64 fro]⟩] [(i, .cells (Nd.enc n) 44 37)] (.tuple ⟨[.bool ((ask8 n now port fro).2.1), .bool ((ask8 n now port fro).2.2)]⟩) [(i, .cells (Nd.enc ((ask8 n now port fro).1)) 44 37)] :=
  AEq.on1 (ask8_0 n now port fro hr) i rfl rfl rfl rfl
def ask8_S (n : Nd) (now : Int) (port : Int) (fro : Int) (r : Nd × Bool × Bool) : Prop := Same n r.1
theorem ask8_same (n : Nd) (now : Int) (port : Int) (fro : Int) : ask8_S n now port fro (ask8 n now port fro) := by
  unfold ask8
  refine byIte (fun _ => ?_) (fun _ => ?_)
  exact (Same.refl n)
  refine byIte (fun _ => ?_) (fun _ => ?_)
  refine byIte (fun _ => ?_) (fun _ => ?_)
  exact (Same.refl n)
  refine byIte (fun _ => ?_) (fun _ => ?_)
  exact (((Same.refl n).trans (do10_same n now 8 port fro)).trans (do9_same ((do10 n now 8 port fro).1) now 8 port fro))
  exact (((Same.refl n).trans (do10_same n now 8 port fro)).trans (do9_same ((do10 n now 8 port fro).1) now 8 port fro))
  exact (Same.refl n)

def ask10_x0 (n : Nd) (now : Int) (port : Int) (fro : Int) : Nd := do9 ((do10 n now 10 port fro).1) now 10 port fro
def ask10 (n : Nd) (now : Int) (port : Int) (fro : Int) : Nd × Bool × Bool :=
  bif (reqAbove (stands n) 10) then
    (n, false, false)
  else
    bif n.state == 4 then
      bif n.role != 1 then
        (n, false, false)
      else
        bif (do10 n now 10 port fro).2 then
          ({ (ask10_x0 n now port fro) with state := 0, own := 14 }, true, true)
        else
          ({ (ask10_x0 n now port fro) with state := 0, own := 14 }, false, true)
    else
      (n, false, false)
def ask10_c (i : Nat) (r : Nd × Bool × Bool) : Dir := .callL (.tuple ⟨[.bool r.2.1, .bool r.2.2]⟩) [(i, .cells (Nd.enc r.1) 44 37)]
def ask10_E (r : Nd × Bool × Bool) : Value × AHeap := (.tuple ⟨[.bool r.2.1, .bool r.2.2]⟩, [.cells (Nd.enc r.1) 44 37])
theorem ask10_0 (n : Nd) (now : Int) (port : Int) (fro : Int) (hr : n.role ≠ 0 → n.rpl = 0 ∨ n.rpl = 1) : AEq Tryz.prog 36 [.pointer (some ⟨0, 0, none⟩), .agg ⟨[.int .i64 now, .int .i64 10, .int .i64 port, .int .u64 fro]⟩] [.cells (Nd.enc n) 44 37] (ask10_E (ask10 n now port fro)).1 (ask10_E (ask10 n now port fro)).2 := by
  unfold ask10
  apply ptrT 400 ask10_E
  apply kc
  intro hb0
  apply kf (stands_c (stands n) :: reqAbove_c (reqAbove (stands n) 10) :: gds 5 20 true []) (o_ (stands_eq n) (o_ (reqAbove_eq (stands n) 10) (oN 5 hb0 o0)))
  apply ku 200026 hb0
  exact kl
  intro hb0
  apply kf (stands_c (stands n) :: reqAbove_c (reqAbove (stands n) 10) :: gds 5 20 false []) (o_ (stands_eq n) (o_ (reqAbove_eq (stands n) 10) (oN 5 hb0 o0)))
  apply ku 200026 hb0
  apply kd .inl
  apply kj 160017
  intro hb1
  apply ki 27
  intro hb2
  exact kl
  intro hb2
  apply kcs (n.own != 14)
  intro hb3
  apply kf [.is 32 (.int .i64 4), .is 39 (.bool true), .callN (.tuple ⟨[.slice (some ⟨0, 0, none⟩) 2 UNK, .int .i64 0]⟩) [] [.row [.int .i64 10, .int .i64 9] 131 1]] (o_ (ieq .i64 hb1) (o_ (bis hb3) (o_ look_4_10_1_eq o0)))
  apply kk (do10_eq n now 10 port fro (by first | omega | (simp only [zor, zand, zorf, zandf, znt, znf, zeq, zne, zeqf, znef, zd, zdf] at *; omega)) 0)
  apply kj 560057
  intro hb4
  apply kk (do9_eq ((do10 n now 10 port fro).1) now 10 port fro 0)
  apply kd .inl
  exact kl
  intro hb4
  apply kk (do9_eq ((do10 n now 10 port fro).1) now 10 port fro 0)
  apply kd .inl
  exact kl
  intro hb3
  apply kf [.is 32 (.int .i64 4), .is 39 (.bool false), .callN (.tuple ⟨[.slice (some ⟨0, 0, none⟩) 2 UNK, .int .i64 0]⟩) [] [.row [.int .i64 10, .int .i64 9] 131 1]] (o_ (ieq .i64 hb1) (o_ (bis hb3) (o_ look_4_10_0_eq o0)))
  apply kk (do10_eq n now 10 port fro (by first | omega | (simp only [zor, zand, zorf, zandf, znt, znf, zeq, zne, zeqf, znef, zd, zdf] at *; omega)) 0)
  apply kj 560057
  intro hb4
  apply kk (do9_eq ((do10 n now 10 port fro).1) now 10 port fro 0)
  apply kd .inl
  exact kl
  intro hb4
  apply kk (do9_eq ((do10 n now 10 port fro).1) now 10 port fro 0)
  apply kd .inl
  exact kl
  intro hb1
  apply kcs (n.state == 0)
  intro hb2
  apply kcs (n.own != 14)
  intro hb3
  apply kf [.is 32 (.int .i64 0), .is 39 (.bool true), .callN (.tuple ⟨[.slice none 0 0, .int .i64 0]⟩) [] []] (o_ (ieq .i64 hb2) (o_ (bis hb3) (o_ look_0_10_1_eq o0)))
  exact kl
  intro hb3
  apply kf [.is 32 (.int .i64 0), .is 39 (.bool false), .callN (.tuple ⟨[.slice none 0 0, .int .i64 0]⟩) [] []] (o_ (ieq .i64 hb2) (o_ (bis hb3) (o_ look_0_10_0_eq o0)))
  exact kl
  intro hb2
  apply kcs (n.state == 1)
  intro hb3
  apply kcs (n.own != 14)
  intro hb4
  apply kf [.is 32 (.int .i64 1), .is 39 (.bool true), .callN (.tuple ⟨[.slice none 0 0, .int .i64 1]⟩) [] []] (o_ (ieq .i64 hb3) (o_ (bis hb4) (o_ look_1_10_1_eq o0)))
  exact kl
  intro hb4
  apply kf [.is 32 (.int .i64 1), .is 39 (.bool false), .callN (.tuple ⟨[.slice none 0 0, .int .i64 1]⟩) [] []] (o_ (ieq .i64 hb3) (o_ (bis hb4) (o_ look_1_10_0_eq o0)))
  exact kl
  intro hb3
  apply kcs (n.state == 2)
  intro hb4
  apply kcs (n.own != 14)
  intro hb5
  apply kf [.is 32 (.int .i64 2), .is 39 (.bool true), .callN (.tuple ⟨[.slice none 0 0, .int .i64 2]⟩) [] []] (o_ (ieq .i64 hb4) (o_ (bis hb5) (o_ look_2_10_1_eq o0)))
  exact kl
  intro hb5
  apply kf [.is 32 (.int .i64 2), .is 39 (.bool false), .callN (.tuple ⟨[.slice none 0 0, .int .i64 2]⟩) [] []] (o_ (ieq .i64 hb4) (o_ (bis hb5) (o_ look_2_10_0_eq o0)))
  exact kl
  intro hb4
  apply kcs (n.state == 3)
  intro hb5
  apply kcs (n.own != 14)
  intro hb6
  apply kf [.is 32 (.int .i64 3), .is 39 (.bool true), .callN (.tuple ⟨[.slice none 0 0, .int .i64 3]⟩) [] []] (o_ (ieq .i64 hb5) (o_ (bis hb6) (o_ look_3_10_1_eq o0)))
  exact kl
  intro hb6
  apply kf [.is 32 (.int .i64 3), .is 39 (.bool false), .callN (.tuple ⟨[.slice none 0 0, .int .i64 3]⟩) [] []] (o_ (ieq .i64 hb5) (o_ (bis hb6) (o_ look_3_10_0_eq o0)))
  exact kl
  intro hb5
  apply kf [.callL (.tuple ⟨[.slice none 0 0, .int .i64 n.state]⟩) []] (o_ (lookOut_eq n.state 10 (n.own != 14) (by first | omega | (simp only [zor, zand, zorf, zandf, znt, znf, zeq, zne, zeqf, znef, zd, zdf] at *; omega))) o0)
  exact kl
  kernel_rfl
theorem ask10_eq (n : Nd) (now : Int) (port : Int) (fro : Int) (hr : n.role ≠ 0 → n.rpl = 0 ∨ n.rpl = 1) (i : Nat) : AOn Tryz.prog 36 [.pointer (some ⟨i, 0, none⟩), .agg ⟨[.int .i64 now, .int .i64 10, .int .i64 port, .int .u64 fro]⟩] [(i, .cells (Nd.enc n) 44 37)] (.tuple ⟨[.bool ((ask10 n now port fro).2.1), .bool ((ask10 n now port fro).2.2)]⟩) [(i, .cells (Nd.enc ((ask10 n now port fro).1)) 44 37)] :=
  AEq.on1 (ask10_0 n now port fro hr) i rfl rfl rfl rfl
def ask10_S (n : Nd) (now : Int) (port : Int) (fro : Int) (r : Nd × Bool × Bool) : Prop := Same n r.1
theorem ask10_same (n : Nd) (now : Int) (port : Int) (fro : Int) : ask10_S n now port fro (ask10 n now port fro) := by
  unfold ask10
  refine byIte (fun _ => ?_) (fun _ => ?_)
  exact (Same.refl n)
  refine byIte (fun _ => ?_) (fun _ => ?_)
  refine byIte (fun _ => ?_) (fun _ => ?_)
  exact (Same.refl n)
  refine byIte (fun _ => ?_) (fun _ => ?_)
  exact (((Same.refl n).trans (do10_same n now 10 port fro)).trans (do9_same ((do10 n now 10 port fro).1) now 10 port fro))
  exact (((Same.refl n).trans (do10_same n now 10 port fro)).trans (do9_same ((do10 n now 10 port fro).1) now 10 port fro))
  exact (Same.refl n)

def ask12 (n : Nd) (now : Int) (port : Int) (fro : Int) : Nd × Bool × Bool :=
  bif (reqAbove (stands n) 12) || (n.role == 1) then
    (n, false, false)
  else
    bif (n.state == 0) || ((n.state == 1) || ((n.state == 2) || ((n.state == 3) || (n.state == 4)))) then
      bif n.own != 14 then
        (n, false, false)
      else
        ({ (do11 n now 12 port fro) with state := 0, own := 14 }, false, true)
    else
      (n, false, false)
def ask12_c (i : Nat) (r : Nd × Bool × Bool) : Dir := .callL (.tuple ⟨[.bool r.2.1, .bool r.2.2]⟩) [(i, .cells (Nd.enc r.1) 44 37)]
def ask12_E (r : Nd × Bool × Bool) : Value × AHeap := (.tuple ⟨[.bool r.2.1, .bool r.2.2]⟩, [.cells (Nd.enc r.1) 44 37])
theorem ask12_0 (n : Nd) (now : Int) (port : Int) (fro : Int) (hr : n.role ≠ 0 → n.rpl = 0 ∨ n.rpl = 1) : AEq Tryz.prog 36 [.pointer (some ⟨0, 0, none⟩), .agg ⟨[.int .i64 now, .int .i64 12, .int .i64 port, .int .u64 fro]⟩] [.cells (Nd.enc n) 44 37] (ask12_E (ask12 n now port fro)).1 (ask12_E (ask12 n now port fro)).2 := by
  unfold ask12
  apply ptrT 400 ask12_E
  apply kor
  apply kc
  intro hb0
  apply kf (stands_c (stands n) :: reqAbove_c (reqAbove (stands n) 12) :: gds 5 20 true []) (o_ (stands_eq n) (o_ (reqAbove_eq (stands n) 12) (oN 5 hb0 o0)))
  apply ku 200026 hb0
  exact kl
  intro hb0
  apply kf (stands_c (stands n) :: reqAbove_c (reqAbove (stands n) 12) :: gds 5 20 false []) (o_ (stands_eq n) (o_ (reqAbove_eq (stands n) 12) (oN 5 hb0 o0)))
  apply ku 200026 hb0
  apply kd .inl
  apply ki 27
  intro hb1
  exact kl
  intro hb1
  apply kor
  apply kc
  intro hb2
  apply kc
  intro hb3
  apply kf [.is 32 (.int .i64 0), .is 39 (.bool true), .callN (.tuple ⟨[.slice none 0 0, .int .i64 0]⟩) [] []] (o_ (ieq .i64 hb2) (o_ (bis hb3) (o_ look_0_12_1_eq o0)))
  exact kl
  intro hb3
  apply kf [.is 32 (.int .i64 0), .is 39 (.bool false), .callN (.tuple ⟨[.slice (some ⟨0, 0, none⟩) 1 UNK, .int .i64 0]⟩) [] [.row [.int .i64 11] 131 1]] (o_ (ieq .i64 hb2) (o_ (bis hb3) (o_ look_0_12_0_eq o0)))
  apply kk (do11_eq n now 12 port fro (by first | omega | (simp only [zor, zand, zorf, zandf, znt, znf, zeq, zne, zeqf, znef, zd, zdf] at *; omega)) 0)
  apply kd .inl
  exact kl
  intro hb2
  apply kor
  apply kc
  intro hb3
  apply kc
  intro hb4
  apply kf [.is 32 (.int .i64 1), .is 39 (.bool true), .callN (.tuple ⟨[.slice none 0 0, .int .i64 1]⟩) [] []] (o_ (ieq .i64 hb3) (o_ (bis hb4) (o_ look_1_12_1_eq o0)))
  exact kl
  intro hb4
  apply kf [.is 32 (.int .i64 1), .is 39 (.bool false), .callN (.tuple ⟨[.slice (some ⟨0, 0, none⟩) 1 UNK, .int .i64 0]⟩) [] [.row [.int .i64 11] 131 1]] (o_ (ieq .i64 hb3) (o_ (bis hb4) (o_ look_1_12_0_eq o0)))
  apply kk (do11_eq n now 12 port fro (by first | omega | (simp only [zor, zand, zorf, zandf, znt, znf, zeq, zne, zeqf, znef, zd, zdf] at *; omega)) 0)
  apply kd .inl
  exact kl
  intro hb3
  apply kor
  apply kc
  intro hb4
  apply kc
  intro hb5
  apply kf [.is 32 (.int .i64 2), .is 39 (.bool true), .callN (.tuple ⟨[.slice none 0 0, .int .i64 2]⟩) [] []] (o_ (ieq .i64 hb4) (o_ (bis hb5) (o_ look_2_12_1_eq o0)))
  exact kl
  intro hb5
  apply kf [.is 32 (.int .i64 2), .is 39 (.bool false), .callN (.tuple ⟨[.slice (some ⟨0, 0, none⟩) 1 UNK, .int .i64 0]⟩) [] [.row [.int .i64 11] 131 1]] (o_ (ieq .i64 hb4) (o_ (bis hb5) (o_ look_2_12_0_eq o0)))
  apply kk (do11_eq n now 12 port fro (by first | omega | (simp only [zor, zand, zorf, zandf, znt, znf, zeq, zne, zeqf, znef, zd, zdf] at *; omega)) 0)
  apply kd .inl
  exact kl
  intro hb4
  apply kor
  apply kc
  intro hb5
  apply kc
  intro hb6
  apply kf [.is 32 (.int .i64 3), .is 39 (.bool true), .callN (.tuple ⟨[.slice none 0 0, .int .i64 3]⟩) [] []] (o_ (ieq .i64 hb5) (o_ (bis hb6) (o_ look_3_12_1_eq o0)))
  exact kl
  intro hb6
  apply kf [.is 32 (.int .i64 3), .is 39 (.bool false), .callN (.tuple ⟨[.slice (some ⟨0, 0, none⟩) 1 UNK, .int .i64 0]⟩) [] [.row [.int .i64 11] 131 1]] (o_ (ieq .i64 hb5) (o_ (bis hb6) (o_ look_3_12_0_eq o0)))
  apply kk (do11_eq n now 12 port fro (by first | omega | (simp only [zor, zand, zorf, zandf, znt, znf, zeq, zne, zeqf, znef, zd, zdf] at *; omega)) 0)
  apply kd .inl
  exact kl
  intro hb5
  apply kc
  intro hb6
  apply kc
  intro hb7
  apply kf [.is 32 (.int .i64 4), .is 39 (.bool true), .callN (.tuple ⟨[.slice none 0 0, .int .i64 4]⟩) [] []] (o_ (ieq .i64 hb6) (o_ (bis hb7) (o_ look_4_12_1_eq o0)))
  exact kl
  intro hb7
  apply kf [.is 32 (.int .i64 4), .is 39 (.bool false), .callN (.tuple ⟨[.slice (some ⟨0, 0, none⟩) 1 UNK, .int .i64 0]⟩) [] [.row [.int .i64 11] 131 1]] (o_ (ieq .i64 hb6) (o_ (bis hb7) (o_ look_4_12_0_eq o0)))
  apply kk (do11_eq n now 12 port fro (by first | omega | (simp only [zor, zand, zorf, zandf, znt, znf, zeq, zne, zeqf, znef, zd, zdf] at *; omega)) 0)
  apply kd .inl
  exact kl
  intro hb6
  apply kf [.callL (.tuple ⟨[.slice none 0 0, .int .i64 n.state]⟩) []] (o_ (lookOut_eq n.state 12 (n.own != 14) (by first | omega | (simp only [zor, zand, zorf, zandf, znt, znf, zeq, zne, zeqf, znef, zd, zdf] at *; omega))) o0)
  exact kl
  kernel_rfl
theorem ask12_eq (n : Nd) (now : Int) (port : Int) (fro : Int) (hr : n.role ≠ 0 → n.rpl = 0 ∨ n.rpl = 1) (i : Nat) : AOn Tryz.prog 36 [.pointer (some ⟨i, 0, none⟩), .agg ⟨[.int .i64 now, .int .i64 12, .int .i64 port, .int .u64 fro]⟩] [(i, .cells (Nd.enc n) 44 37)] (.tuple ⟨[.bool ((ask12 n now port fro).2.1), .bool ((ask12 n now port fro).2.2)]⟩) [(i, .cells (Nd.enc ((ask12 n now port fro).1)) 44 37)] :=
  AEq.on1 (ask12_0 n now port fro hr) i rfl rfl rfl rfl
def ask12_S (n : Nd) (now : Int) (port : Int) (fro : Int) (r : Nd × Bool × Bool) : Prop := Same n r.1
theorem ask12_same (n : Nd) (now : Int) (port : Int) (fro : Int) : ask12_S n now port fro (ask12 n now port fro) := by
  unfold ask12
  refine byIte (fun _ => ?_) (fun _ => ?_)
  exact (Same.refl n)
  refine byIte (fun _ => ?_) (fun _ => ?_)
  refine byIte (fun _ => ?_) (fun _ => ?_)
  exact (Same.refl n)
  exact ((Same.refl n).trans (do11_same n now 12 port fro))
  exact (Same.refl n)

def ask13_x0 (n : Nd) (now : Int) (port : Int) (fro : Int) : Nd × Bool × Bool := ask3 { (do7 n now 13 port fro) with state := 4, own := 14 } now 0 0
def ask13_x1 (n : Nd) (now : Int) (port : Int) (fro : Int) : Nd × Bool × Bool := ask3 { (do7 n now 13 port fro) with state := 4, own := 14 } now 1 0
def ask13_x2 (n : Nd) (now : Int) (port : Int) (fro : Int) : Nd × Bool × Bool := ask3 { (do8 n now 13 port fro) with state := 4, own := 14 } now 0 0
def ask13_x3 (n : Nd) (now : Int) (port : Int) (fro : Int) : Nd × Bool × Bool := ask3 { (do8 n now 13 port fro) with state := 4, own := 14 } now 1 0
def ask13_x4 (n : Nd) (now : Int) (port : Int) (fro : Int) : Nd × Bool × Bool := ask3 { (do12 n now 13 port fro) with state := 4, own := 14 } now 0 0
def ask13_x5 (n : Nd) (now : Int) (port : Int) (fro : Int) : Nd × Bool × Bool := ask3 { (do12 n now 13 port fro) with state := 4, own := 14 } now 1 0
def ask13 (n : Nd) (now : Int) (port : Int) (fro : Int) : Nd × Bool × Bool :=
  bif (reqAbove (stands n) 13) then
    (n, false, false)
  else
    bif n.state == 0 then
      ({ (do12 n now 13 port fro) with state := 0, own := 14 }, false, true)
    else
      bif n.state == 1 then
        bif ((do7 n now 13 port fro).bad).w then
          bif (ask13_x0 n now port fro).2.1 then
            bif (((ask13_x0 n now port fro).1).bad).e then
              (((ask3 ((ask13_x0 n now port fro).1) now 1 0).1), true, true)
            else
              (((ask13_x0 n now port fro).1), true, true)
          else
            bif (((ask13_x0 n now port fro).1).bad).e then
              bif (ask3 ((ask13_x0 n now port fro).1) now 1 0).2.1 then
                (((ask3 ((ask13_x0 n now port fro).1) now 1 0).1), true, true)
              else
                (((ask3 ((ask13_x0 n now port fro).1) now 1 0).1), false, true)
            else
              (((ask13_x0 n now port fro).1), false, true)
        else
          bif ((do7 n now 13 port fro).bad).e then
            bif (ask13_x1 n now port fro).2.1 then
              (((ask13_x1 n now port fro).1), true, true)
            else
              (((ask13_x1 n now port fro).1), false, true)
          else
            ({ (do7 n now 13 port fro) with state := 4, own := 14 }, false, true)
      else
        bif (n.state == 2) || (n.state == 3) then
          bif n.own != 14 then
            (n, false, false)
          else
            bif ((do8 n now 13 port fro).bad).w then
              bif (ask13_x2 n now port fro).2.1 then
                bif (((ask13_x2 n now port fro).1).bad).e then
                  (((ask3 ((ask13_x2 n now port fro).1) now 1 0).1), true, true)
                else
                  (((ask13_x2 n now port fro).1), true, true)
              else
                bif (((ask13_x2 n now port fro).1).bad).e then
                  bif (ask3 ((ask13_x2 n now port fro).1) now 1 0).2.1 then
                    (((ask3 ((ask13_x2 n now port fro).1) now 1 0).1), true, true)
                  else
                    (((ask3 ((ask13_x2 n now port fro).1) now 1 0).1), false, true)
                else
                  (((ask13_x2 n now port fro).1), false, true)
            else
              bif ((do8 n now 13 port fro).bad).e then
                bif (ask13_x3 n now port fro).2.1 then
                  (((ask13_x3 n now port fro).1), true, true)
                else
                  (((ask13_x3 n now port fro).1), false, true)
              else
                ({ (do8 n now 13 port fro) with state := 4, own := 14 }, false, true)
        else
          bif n.state == 4 then
            bif ((do12 n now 13 port fro).bad).w then
              bif (ask13_x4 n now port fro).2.1 then
                bif (((ask13_x4 n now port fro).1).bad).e then
                  (((ask3 ((ask13_x4 n now port fro).1) now 1 0).1), true, true)
                else
                  (((ask13_x4 n now port fro).1), true, true)
              else
                bif (((ask13_x4 n now port fro).1).bad).e then
                  bif (ask3 ((ask13_x4 n now port fro).1) now 1 0).2.1 then
                    (((ask3 ((ask13_x4 n now port fro).1) now 1 0).1), true, true)
                  else
                    (((ask3 ((ask13_x4 n now port fro).1) now 1 0).1), false, true)
                else
                  (((ask13_x4 n now port fro).1), false, true)
            else
              bif ((do12 n now 13 port fro).bad).e then
                bif (ask13_x5 n now port fro).2.1 then
                  (((ask13_x5 n now port fro).1), true, true)
                else
                  (((ask13_x5 n now port fro).1), false, true)
              else
                ({ (do12 n now 13 port fro) with state := 4, own := 14 }, false, true)
          else
            (n, false, false)
def ask13_c (i : Nat) (r : Nd × Bool × Bool) : Dir := .callL (.tuple ⟨[.bool r.2.1, .bool r.2.2]⟩) [(i, .cells (Nd.enc r.1) 44 37)]
def ask13_E (r : Nd × Bool × Bool) : Value × AHeap := (.tuple ⟨[.bool r.2.1, .bool r.2.2]⟩, [.cells (Nd.enc r.1) 44 37])
theorem ask13_0 (n : Nd) (now : Int) (port : Int) (fro : Int) : AEq Tryz.prog 36 [.pointer (some ⟨0, 0, none⟩), .agg ⟨[.int .i64 now, .int .i64 13, .int .i64 port, .int .u64 fro]⟩] [.cells (Nd.enc n) 44 37] (ask13_E (ask13 n now port fro)).1 (ask13_E (ask13 n now port fro)).2 := by
  unfold ask13
  apply ptrT 400 ask13_E
  apply kc
  intro hb0
  apply kf (stands_c (stands n) :: reqAbove_c (reqAbove (stands n) 13) :: gds 5 20 true []) (o_ (stands_eq n) (o_ (reqAbove_eq (stands n) 13) (oN 5 hb0 o0)))
  apply ku 200026 hb0
  exact kl
  intro hb0
  apply kf (stands_c (stands n) :: reqAbove_c (reqAbove (stands n) 13) :: gds 5 20 false []) (o_ (stands_eq n) (o_ (reqAbove_eq (stands n) 13) (oN 5 hb0 o0)))
  apply ku 200026 hb0
  apply kd .inl
  apply kc
  intro hb1
  apply kcs (n.own != 14)
  intro hb2
  apply kf [.is 32 (.int .i64 0), .is 39 (.bool true), .callN (.tuple ⟨[.slice (some ⟨0, 0, none⟩) 1 UNK, .int .i64 0]⟩) [] [.row [.int .i64 12] 131 1]] (o_ (ieq .i64 hb1) (o_ (bis hb2) (o_ look_0_13_1_eq o0)))
  apply kk (do12_eq n now 13 port fro 0)
  apply kd .inl
  exact kl
  intro hb2
  apply kf [.is 32 (.int .i64 0), .is 39 (.bool false), .callN (.tuple ⟨[.slice (some ⟨0, 0, none⟩) 1 UNK, .int .i64 0]⟩) [] [.row [.int .i64 12] 131 1]] (o_ (ieq .i64 hb1) (o_ (bis hb2) (o_ look_0_13_0_eq o0)))
  apply kk (do12_eq n now 13 port fro 0)
  apply kd .inl
  exact kl
  intro hb1
  apply kc
  intro hb2
  apply kcs (n.own != 14)
  intro hb3
  apply kf [.is 32 (.int .i64 1), .is 39 (.bool true), .callN (.tuple ⟨[.slice (some ⟨0, 0, none⟩) 1 UNK, .int .i64 4]⟩) [] [.row [.int .i64 7] 131 1]] (o_ (ieq .i64 hb2) (o_ (bis hb3) (o_ look_1_13_1_eq o0)))
  apply kk (do7_eq n now 13 port fro 0)
  apply kd .inl
  apply ki 103
  intro hb4
  apply kk (ask3_eq { (do7 n now 13 port fro) with state := 4, own := 14 } now 0 0 (.inl rfl) 0)
  apply kj 1140115
  intro hb5
  apply ki 103
  intro hb6
  apply kk (ask3_eq ((ask13_x0 n now port fro).1) now 1 0 (.inr rfl) 0)
  apply kjs 1140115 ((ask3 ((ask13_x0 n now port fro).1) now 1 0).2.1)
  intro hb7
  exact kl
  intro hb7
  exact kl
  intro hb6
  exact kl
  intro hb5
  apply ki 103
  intro hb6
  apply kk (ask3_eq ((ask13_x0 n now port fro).1) now 1 0 (.inr rfl) 0)
  apply kj 1140115
  intro hb7
  exact kl
  intro hb7
  exact kl
  intro hb6
  exact kl
  intro hb4
  apply ki 103
  intro hb5
  apply kk (ask3_eq { (do7 n now 13 port fro) with state := 4, own := 14 } now 1 0 (.inr rfl) 0)
  apply kj 1140115
  intro hb6
  exact kl
  intro hb6
  exact kl
  intro hb5
  exact kl
  intro hb3
  apply kf [.is 32 (.int .i64 1), .is 39 (.bool false), .callN (.tuple ⟨[.slice (some ⟨0, 0, none⟩) 1 UNK, .int .i64 4]⟩) [] [.row [.int .i64 7] 131 1]] (o_ (ieq .i64 hb2) (o_ (bis hb3) (o_ look_1_13_0_eq o0)))
  apply kk (do7_eq n now 13 port fro 0)
  apply kd .inl
  apply ki 103
  intro hb4
  apply kk (ask3_eq { (do7 n now 13 port fro) with state := 4, own := 14 } now 0 0 (.inl rfl) 0)
  apply kj 1140115
  intro hb5
  apply ki 103
  intro hb6
  apply kk (ask3_eq ((ask13_x0 n now port fro).1) now 1 0 (.inr rfl) 0)
  apply kjs 1140115 ((ask3 ((ask13_x0 n now port fro).1) now 1 0).2.1)
  intro hb7
  exact kl
  intro hb7
  exact kl
  intro hb6
  exact kl
  intro hb5
  apply ki 103
  intro hb6
  apply kk (ask3_eq ((ask13_x0 n now port fro).1) now 1 0 (.inr rfl) 0)
  apply kj 1140115
  intro hb7
  exact kl
  intro hb7
  exact kl
  intro hb6
  exact kl
  intro hb4
  apply ki 103
  intro hb5
  apply kk (ask3_eq { (do7 n now 13 port fro) with state := 4, own := 14 } now 1 0 (.inr rfl) 0)
  apply kj 1140115
  intro hb6
  exact kl
  intro hb6
  exact kl
  intro hb5
  exact kl
  intro hb2
  apply kor
  apply kc
  intro hb3
  apply kc
  intro hb4
  apply kf [.is 32 (.int .i64 2), .is 39 (.bool true), .callN (.tuple ⟨[.slice none 0 0, .int .i64 2]⟩) [] []] (o_ (ieq .i64 hb3) (o_ (bis hb4) (o_ look_2_13_1_eq o0)))
  exact kl
  intro hb4
  apply kf [.is 32 (.int .i64 2), .is 39 (.bool false), .callN (.tuple ⟨[.slice (some ⟨0, 0, none⟩) 1 UNK, .int .i64 4]⟩) [] [.row [.int .i64 8] 131 1]] (o_ (ieq .i64 hb3) (o_ (bis hb4) (o_ look_2_13_0_eq o0)))
  apply kk (do8_eq n now 13 port fro 0)
  apply kd .inl
  apply ki 103
  intro hb5
  apply kk (ask3_eq { (do8 n now 13 port fro) with state := 4, own := 14 } now 0 0 (.inl rfl) 0)
  apply kj 1140115
  intro hb6
  apply ki 103
  intro hb7
  apply kk (ask3_eq ((ask13_x2 n now port fro).1) now 1 0 (.inr rfl) 0)
  apply kjs 1140115 ((ask3 ((ask13_x2 n now port fro).1) now 1 0).2.1)
  intro hb8
  exact kl
  intro hb8
  exact kl
  intro hb7
  exact kl
  intro hb6
  apply ki 103
  intro hb7
  apply kk (ask3_eq ((ask13_x2 n now port fro).1) now 1 0 (.inr rfl) 0)
  apply kj 1140115
  intro hb8
  exact kl
  intro hb8
  exact kl
  intro hb7
  exact kl
  intro hb5
  apply ki 103
  intro hb6
  apply kk (ask3_eq { (do8 n now 13 port fro) with state := 4, own := 14 } now 1 0 (.inr rfl) 0)
  apply kj 1140115
  intro hb7
  exact kl
  intro hb7
  exact kl
  intro hb6
  exact kl
  intro hb3
  apply kc
  intro hb4
  apply kc
  intro hb5
  apply kf [.is 32 (.int .i64 3), .is 39 (.bool true), .callN (.tuple ⟨[.slice none 0 0, .int .i64 3]⟩) [] []] (o_ (ieq .i64 hb4) (o_ (bis hb5) (o_ look_3_13_1_eq o0)))
  exact kl
  intro hb5
  apply kf [.is 32 (.int .i64 3), .is 39 (.bool false), .callN (.tuple ⟨[.slice (some ⟨0, 0, none⟩) 1 UNK, .int .i64 4]⟩) [] [.row [.int .i64 8] 131 1]] (o_ (ieq .i64 hb4) (o_ (bis hb5) (o_ look_3_13_0_eq o0)))
  apply kk (do8_eq n now 13 port fro 0)
  apply kd .inl
  apply ki 103
  intro hb6
  apply kk (ask3_eq { (do8 n now 13 port fro) with state := 4, own := 14 } now 0 0 (.inl rfl) 0)
  apply kj 1140115
  intro hb7
  apply ki 103
  intro hb8
  apply kk (ask3_eq ((ask13_x2 n now port fro).1) now 1 0 (.inr rfl) 0)
  apply kjs 1140115 ((ask3 ((ask13_x2 n now port fro).1) now 1 0).2.1)
  intro hb9
  exact kl
  intro hb9
  exact kl
  intro hb8
  exact kl
  intro hb7
  apply ki 103
  intro hb8
  apply kk (ask3_eq ((ask13_x2 n now port fro).1) now 1 0 (.inr rfl) 0)
  apply kj 1140115
  intro hb9
  exact kl
  intro hb9
  exact kl
  intro hb8
  exact kl
  intro hb6
  apply ki 103
  intro hb7
  apply kk (ask3_eq { (do8 n now 13 port fro) with state := 4, own := 14 } now 1 0 (.inr rfl) 0)
  apply kj 1140115
  intro hb8
  exact kl
  intro hb8
  exact kl
  intro hb7
  exact kl
  intro hb4
  apply kc
  intro hb5
  apply kcs (n.own != 14)
  intro hb6
  apply kf [.is 32 (.int .i64 4), .is 39 (.bool true), .callN (.tuple ⟨[.slice (some ⟨0, 0, none⟩) 1 UNK, .int .i64 4]⟩) [] [.row [.int .i64 12] 131 1]] (o_ (ieq .i64 hb5) (o_ (bis hb6) (o_ look_4_13_1_eq o0)))
  apply kk (do12_eq n now 13 port fro 0)
  apply kd .inl
  apply ki 103
  intro hb7
  apply kk (ask3_eq { (do12 n now 13 port fro) with state := 4, own := 14 } now 0 0 (.inl rfl) 0)
  apply kj 1140115
  intro hb8
  apply ki 103
  intro hb9
  apply kk (ask3_eq ((ask13_x4 n now port fro).1) now 1 0 (.inr rfl) 0)
  apply kjs 1140115 ((ask3 ((ask13_x4 n now port fro).1) now 1 0).2.1)
  intro hb10
  exact kl
  intro hb10
  exact kl
  intro hb9
  exact kl
  intro hb8
  apply ki 103
  intro hb9
  apply kk (ask3_eq ((ask13_x4 n now port fro).1) now 1 0 (.inr rfl) 0)
  apply kj 1140115
  intro hb10
  exact kl
  intro hb10
  exact kl
  intro hb9
  exact kl
  intro hb7
  apply ki 103
  intro hb8
  apply kk (ask3_eq { (do12 n now 13 port fro) with state := 4, own := 14 } now 1 0 (.inr rfl) 0)
  apply kj 1140115
  intro hb9
  exact kl
  intro hb9
  exact kl
  intro hb8
  exact kl
  intro hb6
  apply kf [.is 32 (.int .i64 4), .is 39 (.bool false), .callN (.tuple ⟨[.slice (some ⟨0, 0, none⟩) 1 UNK, .int .i64 4]⟩) [] [.row [.int .i64 12] 131 1]] (o_ (ieq .i64 hb5) (o_ (bis hb6) (o_ look_4_13_0_eq o0)))
  apply kk (do12_eq n now 13 port fro 0)
  apply kd .inl
  apply ki 103
  intro hb7
  apply kk (ask3_eq { (do12 n now 13 port fro) with state := 4, own := 14 } now 0 0 (.inl rfl) 0)
  apply kj 1140115
  intro hb8
  apply ki 103
  intro hb9
  apply kk (ask3_eq ((ask13_x4 n now port fro).1) now 1 0 (.inr rfl) 0)
  apply kjs 1140115 ((ask3 ((ask13_x4 n now port fro).1) now 1 0).2.1)
  intro hb10
  exact kl
  intro hb10
  exact kl
  intro hb9
  exact kl
  intro hb8
  apply ki 103
  intro hb9
  apply kk (ask3_eq ((ask13_x4 n now port fro).1) now 1 0 (.inr rfl) 0)
  apply kj 1140115
  intro hb10
  exact kl
  intro hb10
  exact kl
  intro hb9
  exact kl
  intro hb7
  apply ki 103
  intro hb8
  apply kk (ask3_eq { (do12 n now 13 port fro) with state := 4, own := 14 } now 1 0 (.inr rfl) 0)
  apply kj 1140115
  intro hb9
  exact kl
  intro hb9
  exact kl
  intro hb8
  exact kl
  intro hb5
  apply kf [.callL (.tuple ⟨[.slice none 0 0, .int .i64 n.state]⟩) []] (o_ (lookOut_eq n.state 13 (n.own != 14) (by first | omega | (simp only [zor, zand, zorf, zandf, znt, znf, zeq, zne, zeqf, znef, zd, zdf] at *; omega))) o0)
  exact kl
  kernel_rfl
theorem ask13_eq (n : Nd) (now : Int) (port : Int) (fro : Int) (i : Nat) : AOn Tryz.prog 36 [.pointer (some ⟨i, 0, none⟩), .agg ⟨[.int .i64 now, .int .i64 13, .int .i64 port, .int .u64 fro]⟩] [(i, .cells (Nd.enc n) 44 37)] (.tuple ⟨[.bool ((ask13 n now port fro).2.1), .bool ((ask13 n now port fro).2.2)]⟩) [(i, .cells (Nd.enc ((ask13 n now port fro).1)) 44 37)] :=
  AEq.on1 (ask13_0 n now port fro) i rfl rfl rfl rfl
def ask13_S (n : Nd) (now : Int) (port : Int) (fro : Int) (r : Nd × Bool × Bool) : Prop := Same n r.1
theorem ask13_same (n : Nd) (now : Int) (port : Int) (fro : Int) : ask13_S n now port fro (ask13 n now port fro) := by
  unfold ask13
  refine byIte (fun _ => ?_) (fun _ => ?_)
  exact (Same.refl n)
  refine byIte (fun _ => ?_) (fun _ => ?_)
  exact ((Same.refl n).trans (do12_same n now 13 port fro))
  refine byIte (fun _ => ?_) (fun _ => ?_)
  refine byIte (fun _ => ?_) (fun _ => ?_)
  refine byIte (fun _ => ?_) (fun _ => ?_)
  refine byIte (fun _ => ?_) (fun _ => ?_)
  exact ((((Same.refl n).trans (do7_same n now 13 port fro)).trans (ask3_same { (do7 n now 13 port fro) with state := 4, own := 14 } now 0 0)).trans (ask3_same ((ask13_x0 n now port fro).1) now 1 0))
  exact (((Same.refl n).trans (do7_same n now 13 port fro)).trans (ask3_same { (do7 n now 13 port fro) with state := 4, own := 14 } now 0 0))
  refine byIte (fun _ => ?_) (fun _ => ?_)
  refine byIte (fun _ => ?_) (fun _ => ?_)
  exact ((((Same.refl n).trans (do7_same n now 13 port fro)).trans (ask3_same { (do7 n now 13 port fro) with state := 4, own := 14 } now 0 0)).trans (ask3_same ((ask13_x0 n now port fro).1) now 1 0))
  exact ((((Same.refl n).trans (do7_same n now 13 port fro)).trans (ask3_same { (do7 n now 13 port fro) with state := 4, own := 14 } now 0 0)).trans (ask3_same ((ask13_x0 n now port fro).1) now 1 0))
  exact (((Same.refl n).trans (do7_same n now 13 port fro)).trans (ask3_same { (do7 n now 13 port fro) with state := 4, own := 14 } now 0 0))
  refine byIte (fun _ => ?_) (fun _ => ?_)
  refine byIte (fun _ => ?_) (fun _ => ?_)
  exact (((Same.refl n).trans (do7_same n now 13 port fro)).trans (ask3_same { (do7 n now 13 port fro) with state := 4, own := 14 } now 1 0))
  exact (((Same.refl n).trans (do7_same n now 13 port fro)).trans (ask3_same { (do7 n now 13 port fro) with state := 4, own := 14 } now 1 0))
  exact ((Same.refl n).trans (do7_same n now 13 port fro))
  refine byIte (fun _ => ?_) (fun _ => ?_)
  refine byIte (fun _ => ?_) (fun _ => ?_)
  exact (Same.refl n)
  refine byIte (fun _ => ?_) (fun _ => ?_)
  refine byIte (fun _ => ?_) (fun _ => ?_)
  refine byIte (fun _ => ?_) (fun _ => ?_)
  exact ((((Same.refl n).trans (do8_same n now 13 port fro)).trans (ask3_same { (do8 n now 13 port fro) with state := 4, own := 14 } now 0 0)).trans (ask3_same ((ask13_x2 n now port fro).1) now 1 0))
  exact (((Same.refl n).trans (do8_same n now 13 port fro)).trans (ask3_same { (do8 n now 13 port fro) with state := 4, own := 14 } now 0 0))
  refine byIte (fun _ => ?_) (fun _ => ?_)
  refine byIte (fun _ => ?_) (fun _ => ?_)
  exact ((((Same.refl n).trans (do8_same n now 13 port fro)).trans (ask3_same { (do8 n now 13 port fro) with state := 4, own := 14 } now 0 0)).trans (ask3_same ((ask13_x2 n now port fro).1) now 1 0))
  exact ((((Same.refl n).trans (do8_same n now 13 port fro)).trans (ask3_same { (do8 n now 13 port fro) with state := 4, own := 14 } now 0 0)).trans (ask3_same ((ask13_x2 n now port fro).1) now 1 0))
  exact (((Same.refl n).trans (do8_same n now 13 port fro)).trans (ask3_same { (do8 n now 13 port fro) with state := 4, own := 14 } now 0 0))
  refine byIte (fun _ => ?_) (fun _ => ?_)
  refine byIte (fun _ => ?_) (fun _ => ?_)
  exact (((Same.refl n).trans (do8_same n now 13 port fro)).trans (ask3_same { (do8 n now 13 port fro) with state := 4, own := 14 } now 1 0))
  exact (((Same.refl n).trans (do8_same n now 13 port fro)).trans (ask3_same { (do8 n now 13 port fro) with state := 4, own := 14 } now 1 0))
  exact ((Same.refl n).trans (do8_same n now 13 port fro))
  refine byIte (fun _ => ?_) (fun _ => ?_)
  refine byIte (fun _ => ?_) (fun _ => ?_)
  refine byIte (fun _ => ?_) (fun _ => ?_)
  refine byIte (fun _ => ?_) (fun _ => ?_)
  exact ((((Same.refl n).trans (do12_same n now 13 port fro)).trans (ask3_same { (do12 n now 13 port fro) with state := 4, own := 14 } now 0 0)).trans (ask3_same ((ask13_x4 n now port fro).1) now 1 0))
  exact (((Same.refl n).trans (do12_same n now 13 port fro)).trans (ask3_same { (do12 n now 13 port fro) with state := 4, own := 14 } now 0 0))
  refine byIte (fun _ => ?_) (fun _ => ?_)
  refine byIte (fun _ => ?_) (fun _ => ?_)
  exact ((((Same.refl n).trans (do12_same n now 13 port fro)).trans (ask3_same { (do12 n now 13 port fro) with state := 4, own := 14 } now 0 0)).trans (ask3_same ((ask13_x4 n now port fro).1) now 1 0))
  exact ((((Same.refl n).trans (do12_same n now 13 port fro)).trans (ask3_same { (do12 n now 13 port fro) with state := 4, own := 14 } now 0 0)).trans (ask3_same ((ask13_x4 n now port fro).1) now 1 0))
  exact (((Same.refl n).trans (do12_same n now 13 port fro)).trans (ask3_same { (do12 n now 13 port fro) with state := 4, own := 14 } now 0 0))
  refine byIte (fun _ => ?_) (fun _ => ?_)
  refine byIte (fun _ => ?_) (fun _ => ?_)
  exact (((Same.refl n).trans (do12_same n now 13 port fro)).trans (ask3_same { (do12 n now 13 port fro) with state := 4, own := 14 } now 1 0))
  exact (((Same.refl n).trans (do12_same n now 13 port fro)).trans (ask3_same { (do12 n now 13 port fro) with state := 4, own := 14 } now 1 0))
  exact ((Same.refl n).trans (do12_same n now 13 port fro))
  exact (Same.refl n)

def ask14 (n : Nd) (now : Int) (port : Int) (fro : Int) : Nd × Bool × Bool :=
  (n, false, false)
def ask14_c (i : Nat) (r : Nd × Bool × Bool) : Dir := .callL (.tuple ⟨[.bool r.2.1, .bool r.2.2]⟩) [(i, .cells (Nd.enc r.1) 44 37)]
def ask14_E (r : Nd × Bool × Bool) : Value × AHeap := (.tuple ⟨[.bool r.2.1, .bool r.2.2]⟩, [.cells (Nd.enc r.1) 44 37])
theorem ask14_0 (n : Nd) (now : Int) (port : Int) (fro : Int) : AEq Tryz.prog 36 [.pointer (some ⟨0, 0, none⟩), .agg ⟨[.int .i64 now, .int .i64 14, .int .i64 port, .int .u64 fro]⟩] [.cells (Nd.enc n) 44 37] (ask14_E (ask14 n now port fro)).1 (ask14_E (ask14 n now port fro)).2 := by
  unfold ask14
  apply ptrT 400 ask14_E
  apply kcs ((reqAbove (stands n) 14))
  intro hb0
  apply kf (stands_c (stands n) :: reqAbove_c (reqAbove (stands n) 14) :: gds 5 20 true []) (o_ (stands_eq n) (o_ (reqAbove_eq (stands n) 14) (oN 5 hb0 o0)))
  apply ku 200026 hb0
  exact kl
  intro hb0
  apply kf (stands_c (stands n) :: reqAbove_c (reqAbove (stands n) 14) :: gds 5 20 false []) (o_ (stands_eq n) (o_ (reqAbove_eq (stands n) 14) (oN 5 hb0 o0)))
  apply ku 200026 hb0
  apply kd .inl
  apply kcs (n.state == 0)
  intro hb1
  apply kf [.is 32 (.int .i64 0), .callL (.tuple ⟨[.slice none 0 0, .int .i64 0]⟩) []] (o_ (ieq .i64 hb1) (o_ (lookOut_eq 0 14 (n.own != 14) (by first | omega | (simp only [zor, zand, zorf, zandf, znt, znf, zeq, zne, zeqf, znef, zd, zdf] at *; omega))) o0))
  exact kl
  intro hb1
  apply kcs (n.state == 1)
  intro hb2
  apply kf [.is 32 (.int .i64 1), .callL (.tuple ⟨[.slice none 0 0, .int .i64 1]⟩) []] (o_ (ieq .i64 hb2) (o_ (lookOut_eq 1 14 (n.own != 14) (by first | omega | (simp only [zor, zand, zorf, zandf, znt, znf, zeq, zne, zeqf, znef, zd, zdf] at *; omega))) o0))
  exact kl
  intro hb2
  apply kcs (n.state == 2)
  intro hb3
  apply kf [.is 32 (.int .i64 2), .callL (.tuple ⟨[.slice none 0 0, .int .i64 2]⟩) []] (o_ (ieq .i64 hb3) (o_ (lookOut_eq 2 14 (n.own != 14) (by first | omega | (simp only [zor, zand, zorf, zandf, znt, znf, zeq, zne, zeqf, znef, zd, zdf] at *; omega))) o0))
  exact kl
  intro hb3
  apply kcs (n.state == 3)
  intro hb4
  apply kf [.is 32 (.int .i64 3), .callL (.tuple ⟨[.slice none 0 0, .int .i64 3]⟩) []] (o_ (ieq .i64 hb4) (o_ (lookOut_eq 3 14 (n.own != 14) (by first | omega | (simp only [zor, zand, zorf, zandf, znt, znf, zeq, zne, zeqf, znef, zd, zdf] at *; omega))) o0))
  exact kl
  intro hb4
  apply kcs (n.state == 4)
  intro hb5
  apply kf [.is 32 (.int .i64 4), .callL (.tuple ⟨[.slice none 0 0, .int .i64 4]⟩) []] (o_ (ieq .i64 hb5) (o_ (lookOut_eq 4 14 (n.own != 14) (by first | omega | (simp only [zor, zand, zorf, zandf, znt, znf, zeq, zne, zeqf, znef, zd, zdf] at *; omega))) o0))
  exact kl
  intro hb5
  apply kf [.callL (.tuple ⟨[.slice none 0 0, .int .i64 n.state]⟩) []] (o_ (lookOut_eq n.state 14 (n.own != 14) (by first | omega | (simp only [zor, zand, zorf, zandf, znt, znf, zeq, zne, zeqf, znef, zd, zdf] at *; omega))) o0)
  exact kl
  kernel_rfl
theorem ask14_eq (n : Nd) (now : Int) (port : Int) (fro : Int) (i : Nat) : AOn Tryz.prog 36 [.pointer (some ⟨i, 0, none⟩), .agg ⟨[.int .i64 now, .int .i64 14, .int .i64 port, .int .u64 fro]⟩] [(i, .cells (Nd.enc n) 44 37)] (.tuple ⟨[.bool ((ask14 n now port fro).2.1), .bool ((ask14 n now port fro).2.2)]⟩) [(i, .cells (Nd.enc ((ask14 n now port fro).1)) 44 37)] :=
  AEq.on1 (ask14_0 n now port fro) i rfl rfl rfl rfl
def ask14_S (n : Nd) (now : Int) (port : Int) (fro : Int) (r : Nd × Bool × Bool) : Prop := Same n r.1
theorem ask14_same (n : Nd) (now : Int) (port : Int) (fro : Int) : ask14_S n now port fro (ask14 n now port fro) := by
  unfold ask14
  exact (Same.refl n)

end Go.Proofs.E17
