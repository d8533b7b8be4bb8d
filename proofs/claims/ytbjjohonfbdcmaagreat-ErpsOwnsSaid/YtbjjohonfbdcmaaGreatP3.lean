/- Part 3 of 6 of the proof of: ErpsOwns holds for every input, without conditions -/
import Derived.Test.YtbjjohonfbdcmaaGreatP2
import Derived.Test.YtbjjohonfbdcmaaGreatProg
namespace Go.Proofs.E17
open Go Go.AX Go.Proofs
set_option maxRecDepth 1000000
set_option linter.unusedVariables false
set_option linter.unusedSimpArgs false

structure Plan where
  nodes : Int
  owner : Int
  level : Int
  data : Int
  ring : Int
  interval : Int
  hold : Int
  guard : Int
  rest : Int
  wait : Int
  gap : Int
  period : Int
  age : Int
  room : Int
  queue : Int
  revert : Bool
def Plan.enc (x : Plan) : List Value := [.int .i64 x.nodes, .int .i64 x.owner, .int .u8 x.level, .int .u16 x.data, .int .u16 x.ring, .int .i64 x.interval, .int .i64 x.hold, .int .i64 x.guard, .int .i64 x.rest, .int .i64 x.wait, .int .i64 x.gap, .int .i64 x.period, .int .i64 x.age, .int .i64 x.room, .int .i64 x.queue, .bool x.revert]
structure Bk where
  g : Int
  r : Int
  w : Int
def Bk.enc (x : Bk) : List Value := [.int .i64 x.g, .int .i64 x.r, .int .i64 x.w, .int .i64 0, .int .i64 0, .int .i64 0, .int .i64 0, .int .i64 0]
structure B2 where
  w : Bool
  e : Bool
def B2.enc (x : B2) : List Value := [.bool x.w, .bool x.e]
structure Pair where
  some : Bool
  east : Bool
  node : Int
def Pair.enc (x : Pair) : List Value := [.bool x.some, .bool x.east, .int .u64 x.node]
structure P2 where
  w : Pair
  e : Pair
def P2.enc (x : P2) : List Value := [.bool x.w.some, .bool x.w.east, .int .u64 x.w.node, .bool x.e.some, .bool x.e.east, .int .u64 x.e.node]
structure Msg where
  req : Int
  block : Bool
  keep : Bool
  east : Bool
  node : Int
def Msg.enc (x : Msg) : List Value := [.int .u8 x.req, .bool x.block, .bool x.keep, .bool x.east, .int .u64 x.node]
structure Burst where
  gap : Int
  period : Int
  next : Int
  on : Bool
  said : Int
def Burst.enc (x : Burst) : List Value := [.int .i64 x.gap, .int .i64 x.period, .int .i64 x.next, .bool x.on, .int .i64 x.said]
structure Nd where
  me : Int
  role : Int
  rpl : Int
  revert : Bool
  guard : Int
  rest : Int
  wait : Int
  state : Int
  shut : B2
  bad : B2
  own : Int
  bank : Bk
  pairs : P2
  say : Msg
  burst : Burst
def Nd.enc (x : Nd) : List Value := [.int .u64 x.me, .int .i64 x.role, .int .i64 x.rpl, .bool x.revert, .int .i64 x.guard, .int .i64 x.rest, .int .i64 x.wait, .int .i64 x.state, .bool x.shut.w, .bool x.shut.e, .bool x.bad.w, .bool x.bad.e, .int .i64 x.own, .int .i64 x.bank.g, .int .i64 x.bank.r, .int .i64 x.bank.w, .int .i64 0, .int .i64 0, .int .i64 0, .int .i64 0, .int .i64 0, .bool x.pairs.w.some, .bool x.pairs.w.east, .int .u64 x.pairs.w.node, .bool x.pairs.e.some, .bool x.pairs.e.east, .int .u64 x.pairs.e.node, .int .u8 x.say.req, .bool x.say.block, .bool x.say.keep, .bool x.say.east, .int .u64 x.say.node, .int .i64 x.burst.gap, .int .i64 x.burst.period, .int .i64 x.burst.next, .bool x.burst.on, .int .i64 x.burst.said]
structure Asked where
  now : Int
  k : Int
  port : Int
  fro : Int
def Asked.enc (x : Asked) : List Value := [.int .i64 x.now, .int .i64 x.k, .int .i64 x.port, .int .u64 x.fro]
structure RRun where
  g : Bool
  r : Bool
  w : Bool
def RRun.enc (x : RRun) : List Value := [.bool x.g, .bool x.r, .bool x.w, .bool false, .bool false, .bool false, .bool false, .bool false]
structure RDue where
  g : Int
  r : Int
  w : Int
def RDue.enc (x : RDue) : List Value := [.int .i64 x.g, .int .i64 x.r, .int .i64 x.w, .int .i64 0, .int .i64 0, .int .i64 0, .int .i64 0, .int .i64 0]
structure RBk where
  runs : RRun
  due : RDue
def RBk.enc (x : RBk) : List Value := [.bool x.runs.g, .bool x.runs.r, .bool x.runs.w, .bool false, .bool false, .bool false, .bool false, .bool false, .int .i64 x.due.g, .int .i64 x.due.r, .int .i64 x.due.w, .int .i64 0, .int .i64 0, .int .i64 0, .int .i64 0, .int .i64 0]
structure RNd where
  me : Int
  role : Int
  rpl : Int
  revert : Bool
  guard : Int
  rest : Int
  wait : Int
  state : Int
  shut : B2
  bad : B2
  own : Int
  bank : RBk
  pairs : P2
  say : Msg
  burst : Burst
def RNd.enc (x : RNd) : List Value := [.int .u64 x.me, .int .i64 x.role, .int .i64 x.rpl, .bool x.revert, .int .i64 x.guard, .int .i64 x.rest, .int .i64 x.wait, .int .i64 x.state, .bool x.shut.w, .bool x.shut.e, .bool x.bad.w, .bool x.bad.e, .int .i64 x.own, .bool x.bank.runs.g, .bool x.bank.runs.r, .bool x.bank.runs.w, .bool false, .bool false, .bool false, .bool false, .bool false, .int .i64 x.bank.due.g, .int .i64 x.bank.due.r, .int .i64 x.bank.due.w, .int .i64 0, .int .i64 0, .int .i64 0, .int .i64 0, .int .i64 0, .bool x.pairs.w.some, .bool x.pairs.w.east, .int .u64 x.pairs.w.node, .bool x.pairs.e.some, .bool x.pairs.e.east, .int .u64 x.pairs.e.node, .int .u8 x.say.req, .bool x.say.block, .bool x.say.keep, .bool x.say.east, .int .u64 x.say.node, .int .i64 x.burst.gap, .int .i64 x.burst.period, .int .i64 x.burst.next, .bool x.burst.on, .int .i64 x.burst.said]
def Same (a b : Nd) : Prop := b.me = a.me ∧ b.role = a.role ∧ b.rpl = a.rpl ∧ b.revert = a.revert ∧ b.guard = a.guard ∧ b.rest = a.rest ∧ b.wait = a.wait
theorem Same.refl (a : Nd) : Same a a := ⟨rfl, rfl, rfl, rfl, rfl, rfl, rfl⟩
theorem Same.trans {a b c : Nd} (h : Same a b) (k : Same b c) : Same a c := ⟨k.1.trans h.1, k.2.1.trans h.2.1, k.2.2.1.trans h.2.2.1, k.2.2.2.1.trans h.2.2.2.1, k.2.2.2.2.1.trans h.2.2.2.2.1, k.2.2.2.2.2.1.trans h.2.2.2.2.2.1, k.2.2.2.2.2.2.trans h.2.2.2.2.2.2⟩
def RoleOk (n : Nd) : Prop := n.role ≠ 0 → n.rpl = 0 ∨ n.rpl = 1
theorem Same.roleOk {a b : Nd} (h : Same a b) (k : RoleOk a) : RoleOk b := by
  unfold RoleOk at *
  rw [h.2.1, h.2.2.1]; exact k

end Go.Proofs.E17

namespace Go.Proofs.E17
open Go Go.AX Go.Proofs
set_option maxRecDepth 1000000
set_option linter.unusedVariables false
set_option linter.unusedSimpArgs false

def planCheck (p : Plan) : Int :=
  bif (decide (p.nodes < 3)) || ((decide (p.nodes > 16)) || ((decide (p.owner < 0)) || ((decide (p.owner ≥ p.nodes)) || (decide (p.level > 7))))) then
    4
  else
    bif decide (p.data ≥ 1) then
      bif !(decide (p.data ≤ 4094)) then
        5
      else
        bif decide (p.ring ≥ 1) then
          bif (!(decide (p.ring ≤ 4094))) || (p.data == p.ring) then
            5
          else
            bif (decide (p.interval < 1)) || ((decide (p.interval > 1048576)) || ((decide (p.guard < 1)) || ((decide (p.guard > 1048576)) || ((decide (p.rest < 1)) || ((decide (p.rest > 1048576)) || ((decide (p.wait < 1)) || ((decide (p.wait > 1048576)) || ((decide (p.gap < 1)) || ((decide (p.gap > 1048576)) || ((decide (p.period < 1)) || ((decide (p.period > 1048576)) || ((decide (p.age < 1)) || ((decide (p.age > 1048576)) || ((decide (p.hold < 0)) || ((decide (p.hold > 1048576)) || ((decide (p.room < 1)) || ((decide (p.room > 1024)) || ((decide (p.queue < 1)) || (decide (p.queue > 256)))))))))))))))))))) then
              4
            else
              0
        else
          5
    else
      5
def planCheck_c (r : Int) : Dir := .callL (.int .i64 r) []
def planCheck_G (p : Plan) (r : Int) : Prop := AOn Tryz.prog 20 [.agg ⟨Plan.enc p⟩] [] (.int .i64 r) []
theorem planCheck_eq (p : Plan) : planCheck_G p (planCheck p) := by
  unfold planCheck
  refine byOr ?_
  apply bi <;> intro hb0
  · refine on0 400 [.gd 7 true, .lit] (o_ hb0 o0) ?_ rfl; kernel_rfl
  · refine byOr ?_
    apply bi <;> intro hb1
    · refine on0 400 [.gd 7 false, .br true] (o_ hb0 (o_ hb1 o0)) ?_ rfl; kernel_rfl
    · refine byOr ?_
      apply bi <;> intro hb2
      · refine on0 400 [.gd 7 false, .br false, .gd 16 true, .lit] (o_ hb0 (o_ hb1 (o_ hb2 o0))) ?_ rfl; kernel_rfl
      · refine byOr ?_
        apply bi <;> intro hb3
        · refine on0 400 [.gd 7 false, .br false, .gd 16 false, .gd 23 true, .lit] (o_ hb0 (o_ hb1 (o_ hb2 (o_ hb3 o0)))) ?_ rfl; kernel_rfl
        · apply bi <;> intro hb4
          · refine on0 400 [.gd 7 false, .br false, .gd 16 false, .gd 23 false, .br true] (o_ hb0 (o_ hb1 (o_ hb2 (o_ hb3 (o_ hb4 o0))))) ?_ rfl; kernel_rfl
          · apply bi <;> intro hb5
            · apply bi <;> intro hb6
              · refine on0 400 [.gd 7 false, .br false, .gd 16 false, .gd 23 false, .br false, .inl, .gd 5 true, .gd 33 true, .lit] (o_ hb0 (o_ hb1 (o_ hb2 (o_ hb3 (o_ hb4 (o_ hb5 (o_ hb6 o0))))))) ?_ rfl; kernel_rfl
              · apply bi <;> intro hb7
                · refine byOr ?_
                  apply bi <;> intro hb8
                  · refine on0 400 [.gd 7 false, .br false, .gd 16 false, .gd 23 false, .br false, .inl, .gd 5 true, .gd 33 false, .inl, .gd 5 true, .gd 39 true, .lit] (o_ hb0 (o_ hb1 (o_ hb2 (o_ hb3 (o_ hb4 (o_ hb5 (o_ hb6 (o_ hb7 (o_ hb8 o0))))))))) ?_ rfl; kernel_rfl
                  · apply bi <;> intro hb9
                    · refine on0 400 [.gd 7 false, .br false, .gd 16 false, .gd 23 false, .br false, .inl, .gd 5 true, .gd 33 false, .inl, .gd 5 true, .gd 39 false, .br true] (o_ hb0 (o_ hb1 (o_ hb2 (o_ hb3 (o_ hb4 (o_ hb5 (o_ hb6 (o_ hb7 (o_ hb8 (o_ hb9 o0)))))))))) ?_ rfl; kernel_rfl
                    · refine byOr ?_
                      apply bi <;> intro hb10
                      · refine on0 400 [.gd 7 false, .br false, .gd 16 false, .gd 23 false, .br false, .inl, .gd 5 true, .gd 33 false, .inl, .gd 5 true, .gd 39 false, .br false, .inl, .lit, .gd 13 true, .lit, .lit] (o_ hb0 (o_ hb1 (o_ hb2 (o_ hb3 (o_ hb4 (o_ hb5 (o_ hb6 (o_ hb7 (o_ hb8 (o_ hb9 (o_ hb10 o0))))))))))) ?_ rfl; kernel_rfl
                      · refine byOr ?_
                        apply bi <;> intro hb11
                        · refine on0 400 [.gd 7 false, .br false, .gd 16 false, .gd 23 false, .br false, .inl, .gd 5 true, .gd 33 false, .inl, .gd 5 true, .gd 39 false, .br false, .inl, .lit, .gd 13 false, .br true, .lit] (o_ hb0 (o_ hb1 (o_ hb2 (o_ hb3 (o_ hb4 (o_ hb5 (o_ hb6 (o_ hb7 (o_ hb8 (o_ hb9 (o_ hb10 (o_ hb11 o0)))))))))))) ?_ rfl; kernel_rfl
                        · refine byOr ?_
                          apply bi <;> intro hb12
                          · refine on0 400 [.gd 7 false, .br false, .gd 16 false, .gd 23 false, .br false, .inl, .gd 5 true, .gd 33 false, .inl, .gd 5 true, .gd 39 false, .br false, .inl, .lit, .gd 13 false, .br false, .lit, .gd 13 true, .lit, .lit] (o_ hb0 (o_ hb1 (o_ hb2 (o_ hb3 (o_ hb4 (o_ hb5 (o_ hb6 (o_ hb7 (o_ hb8 (o_ hb9 (o_ hb10 (o_ hb11 (o_ hb12 o0))))))))))))) ?_ rfl; kernel_rfl
                          · refine byOr ?_
                            apply bi <;> intro hb13
                            · refine on0 400 [.gd 7 false, .br false, .gd 16 false, .gd 23 false, .br false, .inl, .gd 5 true, .gd 33 false, .inl, .gd 5 true, .gd 39 false, .br false, .inl, .lit, .gd 13 false, .br false, .lit, .gd 13 false, .br true, .lit] (o_ hb0 (o_ hb1 (o_ hb2 (o_ hb3 (o_ hb4 (o_ hb5 (o_ hb6 (o_ hb7 (o_ hb8 (o_ hb9 (o_ hb10 (o_ hb11 (o_ hb12 (o_ hb13 o0)))))))))))))) ?_ rfl; kernel_rfl
                            · refine byOr ?_
                              apply bi <;> intro hb14
                              · refine on0 400 [.gd 7 false, .br false, .gd 16 false, .gd 23 false, .br false, .inl, .gd 5 true, .gd 33 false, .inl, .gd 5 true, .gd 39 false, .br false, .inl, .lit, .gd 13 false, .br false, .lit, .gd 13 false, .br false, .lit, .gd 13 true, .lit, .lit] (o_ hb0 (o_ hb1 (o_ hb2 (o_ hb3 (o_ hb4 (o_ hb5 (o_ hb6 (o_ hb7 (o_ hb8 (o_ hb9 (o_ hb10 (o_ hb11 (o_ hb12 (o_ hb13 (o_ hb14 o0))))))))))))))) ?_ rfl; kernel_rfl
                              · refine byOr ?_
                                apply bi <;> intro hb15
                                · refine on0 400 [.gd 7 false, .br false, .gd 16 false, .gd 23 false, .br false, .inl, .gd 5 true, .gd 33 false, .inl, .gd 5 true, .gd 39 false, .br false, .inl, .lit, .gd 13 false, .br false, .lit, .gd 13 false, .br false, .lit, .gd 13 false, .br true, .lit] (o_ hb0 (o_ hb1 (o_ hb2 (o_ hb3 (o_ hb4 (o_ hb5 (o_ hb6 (o_ hb7 (o_ hb8 (o_ hb9 (o_ hb10 (o_ hb11 (o_ hb12 (o_ hb13 (o_ hb14 (o_ hb15 o0)))))))))))))))) ?_ rfl; kernel_rfl
                                · refine byOr ?_
                                  apply bi <;> intro hb16
                                  · refine on0 400 [.gd 7 false, .br false, .gd 16 false, .gd 23 false, .br false, .inl, .gd 5 true, .gd 33 false, .inl, .gd 5 true, .gd 39 false, .br false, .inl, .lit, .gd 13 false, .br false, .lit, .gd 13 false, .br false, .lit, .gd 13 false, .br false, .lit, .gd 13 true, .lit, .lit] (o_ hb0 (o_ hb1 (o_ hb2 (o_ hb3 (o_ hb4 (o_ hb5 (o_ hb6 (o_ hb7 (o_ hb8 (o_ hb9 (o_ hb10 (o_ hb11 (o_ hb12 (o_ hb13 (o_ hb14 (o_ hb15 (o_ hb16 o0))))))))))))))))) ?_ rfl; kernel_rfl
                                  · refine byOr ?_
                                    apply bi <;> intro hb17
                                    · refine on0 400 [.gd 7 false, .br false, .gd 16 false, .gd 23 false, .br false, .inl, .gd 5 true, .gd 33 false, .inl, .gd 5 true, .gd 39 false, .br false, .inl, .lit, .gd 13 false, .br false, .lit, .gd 13 false, .br false, .lit, .gd 13 false, .br false, .lit, .gd 13 false, .br true, .lit] (o_ hb0 (o_ hb1 (o_ hb2 (o_ hb3 (o_ hb4 (o_ hb5 (o_ hb6 (o_ hb7 (o_ hb8 (o_ hb9 (o_ hb10 (o_ hb11 (o_ hb12 (o_ hb13 (o_ hb14 (o_ hb15 (o_ hb16 (o_ hb17 o0)))))))))))))))))) ?_ rfl; kernel_rfl
                                    · refine byOr ?_
                                      apply bi <;> intro hb18
                                      · refine on0 400 [.gd 7 false, .br false, .gd 16 false, .gd 23 false, .br false, .inl, .gd 5 true, .gd 33 false, .inl, .gd 5 true, .gd 39 false, .br false, .inl, .lit, .gd 13 false, .br false, .lit, .gd 13 false, .br false, .lit, .gd 13 false, .br false, .lit, .gd 13 false, .br false, .lit, .gd 13 true, .lit, .lit] (o_ hb0 (o_ hb1 (o_ hb2 (o_ hb3 (o_ hb4 (o_ hb5 (o_ hb6 (o_ hb7 (o_ hb8 (o_ hb9 (o_ hb10 (o_ hb11 (o_ hb12 (o_ hb13 (o_ hb14 (o_ hb15 (o_ hb16 (o_ hb17 (o_ hb18 o0))))))))))))))))))) ?_ rfl; kernel_rfl
                                      · refine byOr ?_
                                        apply bi <;> intro hb19
                                        · refine on0 400 [.gd 7 false, .br false, .gd 16 false, .gd 23 false, .br false, .inl, .gd 5 true, .gd 33 false, .inl, .gd 5 true, .gd 39 false, .br false, .inl, .lit, .gd 13 false, .br false, .lit, .gd 13 false, .br false, .lit, .gd 13 false, .br false, .lit, .gd 13 false, .br false, .lit, .gd 13 false, .br true, .lit] (o_ hb0 (o_ hb1 (o_ hb2 (o_ hb3 (o_ hb4 (o_ hb5 (o_ hb6 (o_ hb7 (o_ hb8 (o_ hb9 (o_ hb10 (o_ hb11 (o_ hb12 (o_ hb13 (o_ hb14 (o_ hb15 (o_ hb16 (o_ hb17 (o_ hb18 (o_ hb19 o0)))))))))))))))))))) ?_ rfl; kernel_rfl
                                        · refine byOr ?_
                                          apply bi <;> intro hb20
                                          · refine on0 400 [.gd 7 false, .br false, .gd 16 false, .gd 23 false, .br false, .inl, .gd 5 true, .gd 33 false, .inl, .gd 5 true, .gd 39 false, .br false, .inl, .lit, .gd 13 false, .br false, .lit, .gd 13 false, .br false, .lit, .gd 13 false, .br false, .lit, .gd 13 false, .br false, .lit, .gd 13 false, .br false, .lit, .gd 13 true, .lit, .lit] (o_ hb0 (o_ hb1 (o_ hb2 (o_ hb3 (o_ hb4 (o_ hb5 (o_ hb6 (o_ hb7 (o_ hb8 (o_ hb9 (o_ hb10 (o_ hb11 (o_ hb12 (o_ hb13 (o_ hb14 (o_ hb15 (o_ hb16 (o_ hb17 (o_ hb18 (o_ hb19 (o_ hb20 o0))))))))))))))))))))) ?_ rfl; kernel_rfl
                                          · refine byOr ?_
                                            apply bi <;> intro hb21
                                            · refine on0 400 [.gd 7 false, .br false, .gd 16 false, .gd 23 false, .br false, .inl, .gd 5 true, .gd 33 false, .inl, .gd 5 true, .gd 39 false, .br false, .inl, .lit, .gd 13 false, .br false, .lit, .gd 13 false, .br false, .lit, .gd 13 false, .br false, .lit, .gd 13 false, .br false, .lit, .gd 13 false, .br false, .lit, .gd 13 false, .br true, .lit] (o_ hb0 (o_ hb1 (o_ hb2 (o_ hb3 (o_ hb4 (o_ hb5 (o_ hb6 (o_ hb7 (o_ hb8 (o_ hb9 (o_ hb10 (o_ hb11 (o_ hb12 (o_ hb13 (o_ hb14 (o_ hb15 (o_ hb16 (o_ hb17 (o_ hb18 (o_ hb19 (o_ hb20 (o_ hb21 o0)))))))))))))))))))))) ?_ rfl; kernel_rfl
                                            · refine byOr ?_
                                              apply bi <;> intro hb22
                                              · refine on0 400 [.gd 7 false, .br false, .gd 16 false, .gd 23 false, .br false, .inl, .gd 5 true, .gd 33 false, .inl, .gd 5 true, .gd 39 false, .br false, .inl, .lit, .gd 13 false, .br false, .lit, .gd 13 false, .br false, .lit, .gd 13 false, .br false, .lit, .gd 13 false, .br false, .lit, .gd 13 false, .br false, .lit, .gd 13 false, .br false, .lit, .gd 13 true, .lit, .lit] (o_ hb0 (o_ hb1 (o_ hb2 (o_ hb3 (o_ hb4 (o_ hb5 (o_ hb6 (o_ hb7 (o_ hb8 (o_ hb9 (o_ hb10 (o_ hb11 (o_ hb12 (o_ hb13 (o_ hb14 (o_ hb15 (o_ hb16 (o_ hb17 (o_ hb18 (o_ hb19 (o_ hb20 (o_ hb21 (o_ hb22 o0))))))))))))))))))))))) ?_ rfl; kernel_rfl
                                              · refine byOr ?_
                                                apply bi <;> intro hb23
                                                · refine on0 400 [.gd 7 false, .br false, .gd 16 false, .gd 23 false, .br false, .inl, .gd 5 true, .gd 33 false, .inl, .gd 5 true, .gd 39 false, .br false, .inl, .lit, .gd 13 false, .br false, .lit, .gd 13 false, .br false, .lit, .gd 13 false, .br false, .lit, .gd 13 false, .br false, .lit, .gd 13 false, .br false, .lit, .gd 13 false, .br false, .lit, .gd 13 false, .br true, .lit] (o_ hb0 (o_ hb1 (o_ hb2 (o_ hb3 (o_ hb4 (o_ hb5 (o_ hb6 (o_ hb7 (o_ hb8 (o_ hb9 (o_ hb10 (o_ hb11 (o_ hb12 (o_ hb13 (o_ hb14 (o_ hb15 (o_ hb16 (o_ hb17 (o_ hb18 (o_ hb19 (o_ hb20 (o_ hb21 (o_ hb22 (o_ hb23 o0)))))))))))))))))))))))) ?_ rfl; kernel_rfl
                                                · refine byOr ?_
                                                  apply bi <;> intro hb24
                                                  · refine on0 400 [.gd 7 false, .br false, .gd 16 false, .gd 23 false, .br false, .inl, .gd 5 true, .gd 33 false, .inl, .gd 5 true, .gd 39 false, .br false, .inl, .lit, .gd 13 false, .br false, .lit, .gd 13 false, .br false, .lit, .gd 13 false, .br false, .lit, .gd 13 false, .br false, .lit, .gd 13 false, .br false, .lit, .gd 13 false, .br false, .lit, .gd 13 false, .br false, .lit, .gd 69 true, .lit] (o_ hb0 (o_ hb1 (o_ hb2 (o_ hb3 (o_ hb4 (o_ hb5 (o_ hb6 (o_ hb7 (o_ hb8 (o_ hb9 (o_ hb10 (o_ hb11 (o_ hb12 (o_ hb13 (o_ hb14 (o_ hb15 (o_ hb16 (o_ hb17 (o_ hb18 (o_ hb19 (o_ hb20 (o_ hb21 (o_ hb22 (o_ hb23 (o_ hb24 o0))))))))))))))))))))))))) ?_ rfl; kernel_rfl
                                                  · refine byOr ?_
                                                    apply bi <;> intro hb25
                                                    · refine on0 400 [.gd 7 false, .br false, .gd 16 false, .gd 23 false, .br false, .inl, .gd 5 true, .gd 33 false, .inl, .gd 5 true, .gd 39 false, .br false, .inl, .lit, .gd 13 false, .br false, .lit, .gd 13 false, .br false, .lit, .gd 13 false, .br false, .lit, .gd 13 false, .br false, .lit, .gd 13 false, .br false, .lit, .gd 13 false, .br false, .lit, .gd 13 false, .br false, .lit, .gd 69 false, .br true] (o_ hb0 (o_ hb1 (o_ hb2 (o_ hb3 (o_ hb4 (o_ hb5 (o_ hb6 (o_ hb7 (o_ hb8 (o_ hb9 (o_ hb10 (o_ hb11 (o_ hb12 (o_ hb13 (o_ hb14 (o_ hb15 (o_ hb16 (o_ hb17 (o_ hb18 (o_ hb19 (o_ hb20 (o_ hb21 (o_ hb22 (o_ hb23 (o_ hb24 (o_ hb25 o0)))))))))))))))))))))))))) ?_ rfl; kernel_rfl
                                                    · refine byOr ?_
                                                      apply bi <;> intro hb26
                                                      · refine on0 400 [.gd 7 false, .br false, .gd 16 false, .gd 23 false, .br false, .inl, .gd 5 true, .gd 33 false, .inl, .gd 5 true, .gd 39 false, .br false, .inl, .lit, .gd 13 false, .br false, .lit, .gd 13 false, .br false, .lit, .gd 13 false, .br false, .lit, .gd 13 false, .br false, .lit, .gd 13 false, .br false, .lit, .gd 13 false, .br false, .lit, .gd 13 false, .br false, .lit, .gd 69 false, .br false, .gd 78 true, .lit] (o_ hb0 (o_ hb1 (o_ hb2 (o_ hb3 (o_ hb4 (o_ hb5 (o_ hb6 (o_ hb7 (o_ hb8 (o_ hb9 (o_ hb10 (o_ hb11 (o_ hb12 (o_ hb13 (o_ hb14 (o_ hb15 (o_ hb16 (o_ hb17 (o_ hb18 (o_ hb19 (o_ hb20 (o_ hb21 (o_ hb22 (o_ hb23 (o_ hb24 (o_ hb25 (o_ hb26 o0))))))))))))))))))))))))))) ?_ rfl; kernel_rfl
                                                      · refine byOr ?_
                                                        apply bi <;> intro hb27
                                                        · refine on0 400 [.gd 7 false, .br false, .gd 16 false, .gd 23 false, .br false, .inl, .gd 5 true, .gd 33 false, .inl, .gd 5 true, .gd 39 false, .br false, .inl, .lit, .gd 13 false, .br false, .lit, .gd 13 false, .br false, .lit, .gd 13 false, .br false, .lit, .gd 13 false, .br false, .lit, .gd 13 false, .br false, .lit, .gd 13 false, .br false, .lit, .gd 13 false, .br false, .lit, .gd 69 false, .br false, .gd 78 false, .gd 83 true, .lit] (o_ hb0 (o_ hb1 (o_ hb2 (o_ hb3 (o_ hb4 (o_ hb5 (o_ hb6 (o_ hb7 (o_ hb8 (o_ hb9 (o_ hb10 (o_ hb11 (o_ hb12 (o_ hb13 (o_ hb14 (o_ hb15 (o_ hb16 (o_ hb17 (o_ hb18 (o_ hb19 (o_ hb20 (o_ hb21 (o_ hb22 (o_ hb23 (o_ hb24 (o_ hb25 (o_ hb26 (o_ hb27 o0)))))))))))))))))))))))))))) ?_ rfl; kernel_rfl
                                                        · refine byOr ?_
                                                          apply bi <;> intro hb28
                                                          · refine on0 400 [.gd 7 false, .br false, .gd 16 false, .gd 23 false, .br false, .inl, .gd 5 true, .gd 33 false, .inl, .gd 5 true, .gd 39 false, .br false, .inl, .lit, .gd 13 false, .br false, .lit, .gd 13 false, .br false, .lit, .gd 13 false, .br false, .lit, .gd 13 false, .br false, .lit, .gd 13 false, .br false, .lit, .gd 13 false, .br false, .lit, .gd 13 false, .br false, .lit, .gd 69 false, .br false, .gd 78 false, .gd 83 false, .gd 88 true, .lit] (o_ hb0 (o_ hb1 (o_ hb2 (o_ hb3 (o_ hb4 (o_ hb5 (o_ hb6 (o_ hb7 (o_ hb8 (o_ hb9 (o_ hb10 (o_ hb11 (o_ hb12 (o_ hb13 (o_ hb14 (o_ hb15 (o_ hb16 (o_ hb17 (o_ hb18 (o_ hb19 (o_ hb20 (o_ hb21 (o_ hb22 (o_ hb23 (o_ hb24 (o_ hb25 (o_ hb26 (o_ hb27 (o_ hb28 o0))))))))))))))))))))))))))))) ?_ rfl; kernel_rfl
                                                          · apply bi <;> intro hb29
                                                            · refine on0 400 [.gd 7 false, .br false, .gd 16 false, .gd 23 false, .br false, .inl, .gd 5 true, .gd 33 false, .inl, .gd 5 true, .gd 39 false, .br false, .inl, .lit, .gd 13 false, .br false, .lit, .gd 13 false, .br false, .lit, .gd 13 false, .br false, .lit, .gd 13 false, .br false, .lit, .gd 13 false, .br false, .lit, .gd 13 false, .br false, .lit, .gd 13 false, .br false, .lit, .gd 69 false, .br false, .gd 78 false, .gd 83 false, .gd 88 false, .br true] (o_ hb0 (o_ hb1 (o_ hb2 (o_ hb3 (o_ hb4 (o_ hb5 (o_ hb6 (o_ hb7 (o_ hb8 (o_ hb9 (o_ hb10 (o_ hb11 (o_ hb12 (o_ hb13 (o_ hb14 (o_ hb15 (o_ hb16 (o_ hb17 (o_ hb18 (o_ hb19 (o_ hb20 (o_ hb21 (o_ hb22 (o_ hb23 (o_ hb24 (o_ hb25 (o_ hb26 (o_ hb27 (o_ hb28 (o_ hb29 o0)))))))))))))))))))))))))))))) ?_ rfl; kernel_rfl
                                                            · refine on0 400 [.gd 7 false, .br false, .gd 16 false, .gd 23 false, .br false, .inl, .gd 5 true, .gd 33 false, .inl, .gd 5 true, .gd 39 false, .br false, .inl, .lit, .gd 13 false, .br false, .lit, .gd 13 false, .br false, .lit, .gd 13 false, .br false, .lit, .gd 13 false, .br false, .lit, .gd 13 false, .br false, .lit, .gd 13 false, .br false, .lit, .gd 13 false, .br false, .lit, .gd 69 false, .br false, .gd 78 false, .gd 83 false, .gd 88 false, .br false] (o_ hb0 (o_ hb1 (o_ hb2 (o_ hb3 (o_ hb4 (o_ hb5 (o_ hb6 (o_ hb7 (o_ hb8 (o_ hb9 (o_ hb10 (o_ hb11 (o_ hb12 (o_ hb13 (o_ hb14 (o_ hb15 (o_ hb16 (o_ hb17 (o_ hb18 (o_ hb19 (o_ hb20 (o_ hb21 (o_ hb22 (o_ hb23 (o_ hb24 (o_ hb25 (o_ hb26 (o_ hb27 (o_ hb28 (o_ hb29 o0)))))))))))))))))))))))))))))) ?_ rfl; kernel_rfl
                · refine on0 400 [.gd 7 false, .br false, .gd 16 false, .gd 23 false, .br false, .inl, .gd 5 true, .gd 33 false, .inl, .gd 5 false, .lit] (o_ hb0 (o_ hb1 (o_ hb2 (o_ hb3 (o_ hb4 (o_ hb5 (o_ hb6 (o_ hb7 o0)))))))) ?_ rfl; kernel_rfl
            · refine on0 400 [.gd 7 false, .br false, .gd 16 false, .gd 23 false, .br false, .inl, .gd 5 false, .lit] (o_ hb0 (o_ hb1 (o_ hb2 (o_ hb3 (o_ hb4 (o_ hb5 o0)))))) ?_ rfl; kernel_rfl

def planNode (p : Plan) (i : Int) : Int :=
  bif ((planCheck p) == 0) && (decide (i ≥ 0)) then
    bif !(decide (i < p.nodes)) then
      0
    else
      IntKind.wrap .u64 (2199023255553 + (IntKind.wrap .u64 i))
  else
    0
def planNode_c (r : Int) : Dir := .callL (.int .u64 r) []
def planNode_G (p : Plan) (i : Int) (r : Int) : Prop := AOn Tryz.prog 22 [.agg ⟨Plan.enc p⟩, .int .i64 i] [] (.int .u64 r) []
theorem planNode_eq (p : Plan) (i : Int) : planNode_G p i (planNode p i) := by
  unfold planNode
  refine byAnd ?_
  apply bi <;> intro hb0
  · apply bi <;> intro hb1
    · apply bi <;> intro hb2
      · refine on0 400 [.inl, planCheck_c (planCheck p), .gd 8 true, .gd 12 true, .br true] (o_ (planCheck_eq p) (o_ hb0 (o_ hb1 (o_ hb2 o0)))) ?_ rfl; kernel_rfl
      · refine on0 400 [.inl, planCheck_c (planCheck p), .gd 8 true, .gd 12 true, .br false] (o_ (planCheck_eq p) (o_ hb0 (o_ hb1 (o_ hb2 o0)))) ?_ rfl; kernel_rfl
    · refine on0 400 [.inl, planCheck_c (planCheck p), .gd 8 true, .gd 12 false, .lit] (o_ (planCheck_eq p) (o_ hb0 (o_ hb1 o0))) ?_ rfl; kernel_rfl
  · refine on0 400 [.inl, planCheck_c (planCheck p), .gd 8 false, .lit] (o_ (planCheck_eq p) (o_ hb0 o0)) ?_ rfl; kernel_rfl

def burstNew (gap : Int) (period : Int) : Burst × Int :=
  bif decide (gap ≥ 1) then
    bif !(decide (gap ≤ 1048576)) then
      ((Burst.mk 0 0 0 false 0), 4)
    else
      bif decide (period ≥ 1) then
        bif !(decide (period ≤ 1048576)) then
          ((Burst.mk 0 0 0 false 0), 4)
        else
          ((Burst.mk gap period 0 false 0), 0)
      else
        ((Burst.mk 0 0 0 false 0), 4)
  else
    ((Burst.mk 0 0 0 false 0), 4)
def burstNew_c (r : Burst × Int) : Dir := .callL (.tuple ⟨[.agg ⟨Burst.enc r.1⟩, .int .i64 r.2]⟩) []
def burstNew_G (gap : Int) (period : Int) (r : Burst × Int) : Prop := AOn Tryz.prog 21 [.int .i64 gap, .int .i64 period] [] (.tuple ⟨[.agg ⟨Burst.enc r.1⟩, .int .i64 r.2]⟩) []
theorem burstNew_eq (gap : Int) (period : Int) : burstNew_G gap period (burstNew gap period) := by
  unfold burstNew
  apply bi <;> intro hb0
  · apply bi <;> intro hb1
    · refine on0 400 [.inl, .gd 5 true, .gd 9 true, .lit] (o_ hb0 (o_ hb1 o0)) ?_ rfl; kernel_rfl
    · apply bi <;> intro hb2
      · apply bi <;> intro hb3
        · refine on0 400 [.inl, .gd 5 true, .gd 9 false, .inl, .gd 5 true, .br true] (o_ hb0 (o_ hb1 (o_ hb2 (o_ hb3 o0)))) ?_ rfl; kernel_rfl
        · refine on0 400 [.inl, .gd 5 true, .gd 9 false, .inl, .gd 5 true, .br false] (o_ hb0 (o_ hb1 (o_ hb2 (o_ hb3 o0)))) ?_ rfl; kernel_rfl
      · refine on0 400 [.inl, .gd 5 true, .gd 9 false, .inl, .gd 5 false, .lit] (o_ hb0 (o_ hb1 (o_ hb2 o0))) ?_ rfl; kernel_rfl
  · refine on0 400 [.inl, .gd 5 false, .lit] (o_ hb0 o0) ?_ rfl; kernel_rfl

def burstBegin (b : Burst) (now : Int) : Burst :=
  { b with next := now, on := true, said := 0 }
def burstBegin_c (r : Burst) : Dir := .callL (.agg ⟨Burst.enc r⟩) []
def burstBegin_G (b : Burst) (now : Int) (r : Burst) : Prop := AOn Tryz.prog 59 [.agg ⟨Burst.enc b⟩, .int .i64 now] [] (.agg ⟨Burst.enc r⟩) []
theorem burstBegin_eq (b : Burst) (now : Int) : burstBegin_G b now (burstBegin b now) := by
  unfold burstBegin
  refine on0 400 [] o0 ?_ rfl; kernel_rfl

def burstEnd (b : Burst) : Burst :=
  { b with next := 0, on := false, said := 0 }
def burstEnd_c (r : Burst) : Dir := .callL (.agg ⟨Burst.enc r⟩) []
def burstEnd_G (b : Burst) (r : Burst) : Prop := AOn Tryz.prog 120 [.agg ⟨Burst.enc b⟩] [] (.agg ⟨Burst.enc r⟩) []
theorem burstEnd_eq (b : Burst) : burstEnd_G b (burstEnd b) := by
  unfold burstEnd
  refine on0 400 [] o0 ?_ rfl; kernel_rfl

def burstTick (b : Burst) (now : Int) : Burst × Bool :=
  bif (!b.on) || (decide (b.next > now)) then
    (b, false)
  else
    bif b.said == 0 then
      ({ b with next := IntKind.wrap .i64 (now + b.gap), said := 1 }, true)
    else
      bif b.said == 1 then
        ({ b with next := IntKind.wrap .i64 (now + b.gap), said := 2 }, true)
      else
        ({ b with next := IntKind.wrap .i64 (now + b.period), said := if 3 < (IntKind.wrap .i64 (b.said + 1)) then 3 else (IntKind.wrap .i64 (b.said + 1)) }, true)
def burstTick_c (r : Burst × Bool) : Dir := .callL (.tuple ⟨[.agg ⟨Burst.enc r.1⟩, .bool r.2]⟩) []
def burstTick_G (b : Burst) (now : Int) (r : Burst × Bool) : Prop := AOn Tryz.prog 37 [.agg ⟨Burst.enc b⟩, .int .i64 now] [] (.tuple ⟨[.agg ⟨Burst.enc r.1⟩, .bool r.2]⟩) []
theorem burstTick_eq (b : Burst) (now : Int) : burstTick_G b now (burstTick b now) := by
  unfold burstTick
  refine byOr ?_
  apply bi <;> intro hb0
  · refine on0 400 [.gd 9 true, .lit] (o_ hb0 o0) ?_ rfl; kernel_rfl
  · apply bi <;> intro hb1
    · refine on0 400 [.gd 9 false, .br true] (o_ hb0 (o_ hb1 o0)) ?_ rfl; kernel_rfl
    · apply bi <;> intro hb2
      · refine on0 400 [.gd 9 false, .br false, .br true, .is 33 (.int .i64 0)] (o_ hb0 (o_ hb1 (o_ hb2 (o_ (ieq .i64 hb2) o0)))) ?_ rfl; kernel_rfl
      · apply bi <;> intro hb3
        · refine on0 400 [.gd 9 false, .br false, .br false, .br true, .is 33 (.int .i64 1)] (o_ hb0 (o_ hb1 (o_ hb2 (o_ hb3 (o_ (ieq .i64 hb3) o0))))) ?_ rfl; kernel_rfl
        · refine on0 400 [.gd 9 false, .br false, .br false, .br false] (o_ hb0 (o_ hb1 (o_ hb2 (o_ hb3 o0)))) ?_ rfl; kernel_rfl

def timerPop (b : Bk) (now : Int) : Int × Bk × Bool :=
  bif decide (b.g > 0) then
    bif (decide (b.r > 0)) && (decide (b.r < b.g)) then
      bif (decide (b.w > 0)) && (decide (b.w < b.r)) then
        bif decide ((IntKind.wrap .i64 (b.w - 1)) > now) then
          ((-1), b, false)
        else
          (2, { b with w := 0 }, true)
      else
        bif decide ((IntKind.wrap .i64 (b.r - 1)) > now) then
          ((-1), b, false)
        else
          (1, { b with r := 0 }, true)
    else
      bif (decide (b.w > 0)) && (decide (b.w < b.g)) then
        bif decide ((IntKind.wrap .i64 (b.w - 1)) > now) then
          ((-1), b, false)
        else
          (2, { b with w := 0 }, true)
      else
        bif decide ((IntKind.wrap .i64 (b.g - 1)) > now) then
          ((-1), b, false)
        else
          (0, { b with g := 0 }, true)
  else
    bif decide (b.r > 0) then
      bif (decide (b.w > 0)) && (decide (b.w < b.r)) then
        bif decide ((IntKind.wrap .i64 (b.w - 1)) > now) then
          ((-1), b, false)
        else
          (2, { b with w := 0 }, true)
      else
        bif decide ((IntKind.wrap .i64 (b.r - 1)) > now) then
          ((-1), b, false)
        else
          (1, { b with r := 0 }, true)
    else
      bif decide (b.w > 0) then
        bif decide ((IntKind.wrap .i64 (b.w - 1)) > now) then
          ((-1), b, false)
        else
          (2, { b with w := 0 }, true)
      else
        ((-1), b, false)
def timerPop_c (r : Int × Bk × Bool) : Dir := .callL (.tuple ⟨[.int .i64 r.1, .agg ⟨Bk.enc r.2.1⟩, .bool r.2.2]⟩) []
def timerPop_G (b : Bk) (now : Int) (r : Int × Bk × Bool) : Prop := AOn Tryz.prog 34 [.agg ⟨Bk.enc b⟩, .int .i64 now] [] (.tuple ⟨[.int .i64 r.1, .agg ⟨Bk.enc r.2.1⟩, .bool r.2.2]⟩) []
theorem timerPop_eq (b : Bk) (now : Int) : timerPop_G b now (timerPop b now) := by
  unfold timerPop
  apply bi <;> intro hb0
  · refine byAnd ?_
    apply bi <;> intro hb1
    · apply bi <;> intro hb2
      · refine byAnd ?_
        apply bi <;> intro hb3
        · apply bi <;> intro hb4
          · apply bi <;> intro hb5
            · refine on0 400 (.inl :: .lit :: gds 4 13 true (.lit :: .lit :: gds 4 13 true (.br true :: .lit :: gds 4 13 true (.br true :: lits 11 (.inl :: .inl :: .lit :: [.br true]))))) (oN 4 hb0 (oN 4 hb1 (o_ hb2 (oN 4 hb3 (o_ hb4 (o_ hb5 o0)))))) ?_ rfl; kernel_rfl
            · refine on0 400 (.inl :: .lit :: gds 4 13 true (.lit :: .lit :: gds 4 13 true (.br true :: .lit :: gds 4 13 true (.br true :: lits 11 (.inl :: .inl :: .lit :: .br false :: .inl :: .inl :: [.lit]))))) (oN 4 hb0 (oN 4 hb1 (o_ hb2 (oN 4 hb3 (o_ hb4 (o_ hb5 o0)))))) ?_ rfl; kernel_rfl
          · apply bi <;> intro hb5
            · refine on0 400 (.inl :: .lit :: gds 4 13 true (.lit :: .lit :: gds 4 13 true (.br true :: .lit :: gds 4 13 true (.br false :: lits 11 (.inl :: .inl :: .lit :: [.br true]))))) (oN 4 hb0 (oN 4 hb1 (o_ hb2 (oN 4 hb3 (o_ hb4 (o_ hb5 o0)))))) ?_ rfl; kernel_rfl
            · refine on0 400 (.inl :: .lit :: gds 4 13 true (.lit :: .lit :: gds 4 13 true (.br true :: .lit :: gds 4 13 true (.br false :: lits 11 (.inl :: .inl :: .lit :: .br false :: .inl :: .inl :: [.lit]))))) (oN 4 hb0 (oN 4 hb1 (o_ hb2 (oN 4 hb3 (o_ hb4 (o_ hb5 o0)))))) ?_ rfl; kernel_rfl
        · apply bi <;> intro hb4
          · refine on0 400 (.inl :: .lit :: gds 4 13 true (.lit :: .lit :: gds 4 13 true (.br true :: .lit :: gds 4 13 false (lits 12 (.inl :: .inl :: .lit :: [.br true]))))) (oN 4 hb0 (oN 4 hb1 (o_ hb2 (oN 4 hb3 (o_ hb4 o0))))) ?_ rfl; kernel_rfl
          · refine on0 400 (.inl :: .lit :: gds 4 13 true (.lit :: .lit :: gds 4 13 true (.br true :: .lit :: gds 4 13 false (lits 12 (.inl :: .inl :: .lit :: .br false :: .inl :: .inl :: [.lit]))))) (oN 4 hb0 (oN 4 hb1 (o_ hb2 (oN 4 hb3 (o_ hb4 o0))))) ?_ rfl; kernel_rfl
      · refine byAnd ?_
        apply bi <;> intro hb3
        · apply bi <;> intro hb4
          · apply bi <;> intro hb5
            · refine on0 400 (.inl :: .lit :: gds 4 13 true (.lit :: .lit :: gds 4 13 true (.br false :: .lit :: gds 4 13 true (.br true :: lits 11 (.inl :: .inl :: .lit :: [.br true]))))) (oN 4 hb0 (oN 4 hb1 (o_ hb2 (oN 4 hb3 (o_ hb4 (o_ hb5 o0)))))) ?_ rfl; kernel_rfl
            · refine on0 400 (.inl :: .lit :: gds 4 13 true (.lit :: .lit :: gds 4 13 true (.br false :: .lit :: gds 4 13 true (.br true :: lits 11 (.inl :: .inl :: .lit :: .br false :: .inl :: .inl :: [.lit]))))) (oN 4 hb0 (oN 4 hb1 (o_ hb2 (oN 4 hb3 (o_ hb4 (o_ hb5 o0)))))) ?_ rfl; kernel_rfl
          · apply bi <;> intro hb5
            · refine on0 400 (.inl :: .lit :: gds 4 13 true (.lit :: .lit :: gds 4 13 true (.br false :: .lit :: gds 4 13 true (.br false :: lits 11 (.inl :: .inl :: .lit :: [.br true]))))) (oN 4 hb0 (oN 4 hb1 (o_ hb2 (oN 4 hb3 (o_ hb4 (o_ hb5 o0)))))) ?_ rfl; kernel_rfl
            · refine on0 400 (.inl :: .lit :: gds 4 13 true (.lit :: .lit :: gds 4 13 true (.br false :: .lit :: gds 4 13 true (.br false :: lits 11 (.inl :: .inl :: .lit :: .br false :: .inl :: .inl :: [.lit]))))) (oN 4 hb0 (oN 4 hb1 (o_ hb2 (oN 4 hb3 (o_ hb4 (o_ hb5 o0)))))) ?_ rfl; kernel_rfl
        · apply bi <;> intro hb4
          · refine on0 400 (.inl :: .lit :: gds 4 13 true (.lit :: .lit :: gds 4 13 true (.br false :: .lit :: gds 4 13 false (lits 12 (.inl :: .inl :: .lit :: [.br true]))))) (oN 4 hb0 (oN 4 hb1 (o_ hb2 (oN 4 hb3 (o_ hb4 o0))))) ?_ rfl; kernel_rfl
          · refine on0 400 (.inl :: .lit :: gds 4 13 true (.lit :: .lit :: gds 4 13 true (.br false :: .lit :: gds 4 13 false (lits 12 (.inl :: .inl :: .lit :: .br false :: .inl :: .inl :: [.lit]))))) (oN 4 hb0 (oN 4 hb1 (o_ hb2 (oN 4 hb3 (o_ hb4 o0))))) ?_ rfl; kernel_rfl
    · refine byAnd ?_
      apply bi <;> intro hb2
      · apply bi <;> intro hb3
        · apply bi <;> intro hb4
          · refine on0 400 (.inl :: .lit :: gds 4 13 true (.lit :: .lit :: gds 4 13 false (.lit :: .lit :: gds 4 13 true (.br true :: lits 11 (.inl :: .inl :: .lit :: [.br true]))))) (oN 4 hb0 (oN 4 hb1 (oN 4 hb2 (o_ hb3 (o_ hb4 o0))))) ?_ rfl; kernel_rfl
          · refine on0 400 (.inl :: .lit :: gds 4 13 true (.lit :: .lit :: gds 4 13 false (.lit :: .lit :: gds 4 13 true (.br true :: lits 11 (.inl :: .inl :: .lit :: .br false :: .inl :: .inl :: [.lit]))))) (oN 4 hb0 (oN 4 hb1 (oN 4 hb2 (o_ hb3 (o_ hb4 o0))))) ?_ rfl; kernel_rfl
        · apply bi <;> intro hb4
          · refine on0 400 (.inl :: .lit :: gds 4 13 true (.lit :: .lit :: gds 4 13 false (.lit :: .lit :: gds 4 13 true (.br false :: lits 11 (.inl :: .inl :: .lit :: [.br true]))))) (oN 4 hb0 (oN 4 hb1 (oN 4 hb2 (o_ hb3 (o_ hb4 o0))))) ?_ rfl; kernel_rfl
          · refine on0 400 (.inl :: .lit :: gds 4 13 true (.lit :: .lit :: gds 4 13 false (.lit :: .lit :: gds 4 13 true (.br false :: lits 11 (.inl :: .inl :: .lit :: .br false :: .inl :: .inl :: [.lit]))))) (oN 4 hb0 (oN 4 hb1 (oN 4 hb2 (o_ hb3 (o_ hb4 o0))))) ?_ rfl; kernel_rfl
      · apply bi <;> intro hb3
        · refine on0 400 (.inl :: .lit :: gds 4 13 true (.lit :: .lit :: gds 4 13 false (.lit :: .lit :: gds 4 13 false (lits 12 (.inl :: .inl :: .lit :: [.br true]))))) (oN 4 hb0 (oN 4 hb1 (oN 4 hb2 (o_ hb3 o0)))) ?_ rfl; kernel_rfl
        · refine on0 400 (.inl :: .lit :: gds 4 13 true (.lit :: .lit :: gds 4 13 false (.lit :: .lit :: gds 4 13 false (lits 12 (.inl :: .inl :: .lit :: .br false :: .inl :: .inl :: [.lit]))))) (oN 4 hb0 (oN 4 hb1 (oN 4 hb2 (o_ hb3 o0)))) ?_ rfl; kernel_rfl
  · apply bi <;> intro hb1
    · refine byAnd ?_
      apply bi <;> intro hb2
      · apply bi <;> intro hb3
        · apply bi <;> intro hb4
          · refine on0 400 (.inl :: .lit :: gds 4 13 false (.lit :: .lit :: gds 4 13 true (.lit :: .lit :: gds 4 13 true (.br true :: lits 11 (.inl :: .inl :: .lit :: [.br true]))))) (oN 4 hb0 (oN 4 hb1 (oN 4 hb2 (o_ hb3 (o_ hb4 o0))))) ?_ rfl; kernel_rfl
          · refine on0 400 (.inl :: .lit :: gds 4 13 false (.lit :: .lit :: gds 4 13 true (.lit :: .lit :: gds 4 13 true (.br true :: lits 11 (.inl :: .inl :: .lit :: .br false :: .inl :: .inl :: [.lit]))))) (oN 4 hb0 (oN 4 hb1 (oN 4 hb2 (o_ hb3 (o_ hb4 o0))))) ?_ rfl; kernel_rfl
        · apply bi <;> intro hb4
          · refine on0 400 (.inl :: .lit :: gds 4 13 false (.lit :: .lit :: gds 4 13 true (.lit :: .lit :: gds 4 13 true (.br false :: lits 11 (.inl :: .inl :: .lit :: [.br true]))))) (oN 4 hb0 (oN 4 hb1 (oN 4 hb2 (o_ hb3 (o_ hb4 o0))))) ?_ rfl; kernel_rfl
          · refine on0 400 (.inl :: .lit :: gds 4 13 false (.lit :: .lit :: gds 4 13 true (.lit :: .lit :: gds 4 13 true (.br false :: lits 11 (.inl :: .inl :: .lit :: .br false :: .inl :: .inl :: [.lit]))))) (oN 4 hb0 (oN 4 hb1 (oN 4 hb2 (o_ hb3 (o_ hb4 o0))))) ?_ rfl; kernel_rfl
      · apply bi <;> intro hb3
        · refine on0 400 (.inl :: .lit :: gds 4 13 false (.lit :: .lit :: gds 4 13 true (.lit :: .lit :: gds 4 13 false (lits 12 (.inl :: .inl :: .lit :: [.br true]))))) (oN 4 hb0 (oN 4 hb1 (oN 4 hb2 (o_ hb3 o0)))) ?_ rfl; kernel_rfl
        · refine on0 400 (.inl :: .lit :: gds 4 13 false (.lit :: .lit :: gds 4 13 true (.lit :: .lit :: gds 4 13 false (lits 12 (.inl :: .inl :: .lit :: .br false :: .inl :: .inl :: [.lit]))))) (oN 4 hb0 (oN 4 hb1 (oN 4 hb2 (o_ hb3 o0)))) ?_ rfl; kernel_rfl
    · apply bi <;> intro hb2
      · apply bi <;> intro hb3
        · refine on0 400 (.inl :: .lit :: gds 4 13 false (.lit :: .lit :: gds 4 13 false (.lit :: .lit :: gds 4 13 true (lits 12 (.inl :: .inl :: .lit :: [.br true]))))) (oN 4 hb0 (oN 4 hb1 (oN 4 hb2 (o_ hb3 o0)))) ?_ rfl; kernel_rfl
        · refine on0 400 (.inl :: .lit :: gds 4 13 false (.lit :: .lit :: gds 4 13 false (.lit :: .lit :: gds 4 13 true (lits 12 (.inl :: .inl :: .lit :: .br false :: .inl :: .inl :: [.lit]))))) (oN 4 hb0 (oN 4 hb1 (oN 4 hb2 (o_ hb3 o0)))) ?_ rfl; kernel_rfl
      · refine on0 400 (.inl :: .lit :: gds 4 13 false (.lit :: .lit :: gds 4 13 false (.lit :: .lit :: gds 4 13 false (lits 13 [])))) (oN 4 hb0 (oN 4 hb1 (oN 4 hb2 o0))) ?_ rfl; kernel_rfl

def flushHear (p : P2) (port : Int) (m : Msg) : P2 × Bool :=
  bif port != 0 then
    bif port != 1 then
      (p, false)
    else
      bif (m.req == 0) && (!m.block) then
        ({ p with e := (Pair.mk false false 0) }, false)
      else
        bif (p.e.some == true) && ((p.e.east == m.east) && ((p.e.node == m.node) && true)) then
          (p, false)
        else
          bif !m.keep then
            ({ p with e := (Pair.mk true m.east m.node) }, (!m.keep) && (!((p.w.some == true) && ((p.w.east == m.east) && ((p.w.node == m.node) && true)))))
          else
            ({ p with e := (Pair.mk true m.east m.node) }, false)
  else
    bif (m.req == 0) && (!m.block) then
      ({ p with w := (Pair.mk false false 0) }, false)
    else
      bif (p.w.some == true) && ((p.w.east == m.east) && ((p.w.node == m.node) && true)) then
        (p, false)
      else
        bif !m.keep then
          ({ p with w := (Pair.mk true m.east m.node) }, (!m.keep) && (!((p.e.some == true) && ((p.e.east == m.east) && ((p.e.node == m.node) && true)))))
        else
          ({ p with w := (Pair.mk true m.east m.node) }, false)
def flushHear_c (r : P2 × Bool) : Dir := .callL (.tuple ⟨[.agg ⟨P2.enc r.1⟩, .bool r.2]⟩) []
def flushHear_G (p : P2) (port : Int) (m : Msg) (r : P2 × Bool) : Prop := AOn Tryz.prog 39 [.agg ⟨P2.enc p⟩, .int .i64 port, .agg ⟨Msg.enc m⟩] [] (.tuple ⟨[.agg ⟨P2.enc r.1⟩, .bool r.2]⟩) []
theorem flushHear_eq (p : P2) (port : Int) (m : Msg) : flushHear_G p port m (flushHear p port m) := by
  unfold flushHear
  apply bi <;> intro hb0
  · apply bi <;> intro hb1
    · refine on0 400 [.gd 11 true, .br true] (o_ hb0 (o_ hb1 o0)) ?_ rfl; kernel_rfl
    · refine byAnd ?_
      apply bi <;> intro hb2
      · apply bi <;> intro hb3
        · refine on0 400 [.gd 11 true, .br false, .gd 25 true, .br true, .is 30 (.int .i64 1)] (o_ hb0 (o_ hb1 (o_ hb2 (o_ hb3 (o_ (ieqn .i64 hb1) o0))))) ?_ rfl; kernel_rfl
        · apply bi <;> intro hb4
          · refine on0 400 [.gd 11 true, .br false, .gd 25 true, .br false, .is 35 (.int .i64 1), .br true] (o_ hb0 (o_ hb1 (o_ hb2 (o_ hb3 (o_ (ieqn .i64 hb1) (o_ hb4 o0)))))) ?_ rfl; kernel_rfl
          · apply bi <;> intro hb5
            · refine on0 400 (.gd 11 true :: .br false :: .gd 25 true :: .br false :: .is 35 (.int .i64 1) :: .br false :: .is 41 (.int .i64 1) :: .priv [2] :: .gd 48 true :: .is 49 (.int .i64 1) :: gds 5 48 true []) (o_ hb0 (o_ hb1 (o_ hb2 (o_ hb3 (o_ (ieqn .i64 hb1) (o_ hb4 (o_ (ieqn .i64 hb1) (o_ hb5 (o_ (ieqn .i64 hb1) (oN 5 hb5 o0)))))))))) ?_ rfl; kernel_rfl
            · refine on0 400 (.gd 11 true :: .br false :: .gd 25 true :: .br false :: .is 35 (.int .i64 1) :: .br false :: .is 41 (.int .i64 1) :: .priv [2] :: gds 6 48 false ([.hint 55 (.bool false)])) (o_ hb0 (o_ hb1 (o_ hb2 (o_ hb3 (o_ (ieqn .i64 hb1) (o_ hb4 (o_ (ieqn .i64 hb1) (oN 7 hb5 o0)))))))) ?_ rfl; kernel_rfl
      · apply bi <;> intro hb3
        · refine on0 400 [.gd 11 true, .br false, .gd 25 false, .lit, .is 35 (.int .i64 1), .br true] (o_ hb0 (o_ hb1 (o_ hb2 (o_ (ieqn .i64 hb1) (o_ hb3 o0))))) ?_ rfl; kernel_rfl
        · apply bi <;> intro hb4
          · refine on0 400 (.gd 11 true :: .br false :: .gd 25 false :: .lit :: .is 35 (.int .i64 1) :: .br false :: .is 41 (.int .i64 1) :: .priv [2] :: .gd 48 true :: .is 49 (.int .i64 1) :: gds 5 48 true []) (o_ hb0 (o_ hb1 (o_ hb2 (o_ (ieqn .i64 hb1) (o_ hb3 (o_ (ieqn .i64 hb1) (o_ hb4 (o_ (ieqn .i64 hb1) (oN 5 hb4 o0))))))))) ?_ rfl; kernel_rfl
          · refine on0 400 (.gd 11 true :: .br false :: .gd 25 false :: .lit :: .is 35 (.int .i64 1) :: .br false :: .is 41 (.int .i64 1) :: .priv [2] :: gds 6 48 false ([.hint 55 (.bool false)])) (o_ hb0 (o_ hb1 (o_ hb2 (o_ (ieqn .i64 hb1) (o_ hb3 (o_ (ieqn .i64 hb1) (oN 7 hb4 o0))))))) ?_ rfl; kernel_rfl
  · refine byAnd ?_
    apply bi <;> intro hb1
    · apply bi <;> intro hb2
      · refine on0 400 [.gd 11 false, .lit, .gd 25 true, .br true, .is 30 (.int .i64 0)] (o_ hb0 (o_ hb1 (o_ hb2 (o_ (ieqn .i64 hb0) o0)))) ?_ rfl; kernel_rfl
      · apply bi <;> intro hb3
        · refine on0 400 [.gd 11 false, .lit, .gd 25 true, .br false, .is 35 (.int .i64 0), .br true] (o_ hb0 (o_ hb1 (o_ hb2 (o_ (ieqn .i64 hb0) (o_ hb3 o0))))) ?_ rfl; kernel_rfl
        · apply bi <;> intro hb4
          · refine on0 400 (.gd 11 false :: .lit :: .gd 25 true :: .br false :: .is 35 (.int .i64 0) :: .br false :: .is 41 (.int .i64 0) :: .priv [2] :: .gd 48 true :: .is 49 (.int .i64 0) :: gds 5 48 true []) (o_ hb0 (o_ hb1 (o_ hb2 (o_ (ieqn .i64 hb0) (o_ hb3 (o_ (ieqn .i64 hb0) (o_ hb4 (o_ (ieqn .i64 hb0) (oN 5 hb4 o0))))))))) ?_ rfl; kernel_rfl
          · refine on0 400 (.gd 11 false :: .lit :: .gd 25 true :: .br false :: .is 35 (.int .i64 0) :: .br false :: .is 41 (.int .i64 0) :: .priv [2] :: gds 6 48 false ([.hint 55 (.bool false)])) (o_ hb0 (o_ hb1 (o_ hb2 (o_ (ieqn .i64 hb0) (o_ hb3 (o_ (ieqn .i64 hb0) (oN 7 hb4 o0))))))) ?_ rfl; kernel_rfl
    · apply bi <;> intro hb2
      · refine on0 400 [.gd 11 false, .lit, .gd 25 false, .lit, .is 35 (.int .i64 0), .br true] (o_ hb0 (o_ hb1 (o_ (ieqn .i64 hb0) (o_ hb2 o0)))) ?_ rfl; kernel_rfl
      · apply bi <;> intro hb3
        · refine on0 400 (.gd 11 false :: .lit :: .gd 25 false :: .lit :: .is 35 (.int .i64 0) :: .br false :: .is 41 (.int .i64 0) :: .priv [2] :: .gd 48 true :: .is 49 (.int .i64 0) :: gds 5 48 true []) (o_ hb0 (o_ hb1 (o_ (ieqn .i64 hb0) (o_ hb2 (o_ (ieqn .i64 hb0) (o_ hb3 (o_ (ieqn .i64 hb0) (oN 5 hb3 o0)))))))) ?_ rfl; kernel_rfl
        · refine on0 400 (.gd 11 false :: .lit :: .gd 25 false :: .lit :: .is 35 (.int .i64 0) :: .br false :: .is 41 (.int .i64 0) :: .priv [2] :: gds 6 48 false ([.hint 55 (.bool false)])) (o_ hb0 (o_ hb1 (o_ (ieqn .i64 hb0) (o_ hb2 (o_ (ieqn .i64 hb0) (oN 7 hb3 o0)))))) ?_ rfl; kernel_rfl

def reqAbove (k : Int) (l : Int) : Bool :=
  bif (decide (k ≥ 0)) && (decide (k ≤ 13)) then
    bif decide (l ≥ 0) then
      bif !(decide (l ≤ 13)) then
        true
      else
        decide (k < l)
    else
      true
  else
    false
def reqAbove_c (r : Bool) : Dir := .callL (.bool r) []
def reqAbove_G (k : Int) (l : Int) (r : Bool) : Prop := AOn Tryz.prog 75 [.int .i64 k, .int .i64 l] [] (.bool r) []
theorem reqAbove_eq (k : Int) (l : Int) : reqAbove_G k l (reqAbove k l) := by
  unfold reqAbove
  refine byAnd ?_
  apply bi <;> intro hb0
  · apply bi <;> intro hb1
    · apply bi <;> intro hb2
      · apply bi <;> intro hb3
        · refine on0 400 [.inl, .gd 5 true, .gd 7 true, .inl, .gd 5 true, .gd 11 true] (o_ hb0 (o_ hb1 (o_ hb2 (o_ hb3 o0)))) ?_ rfl; kernel_rfl
        · refine on0 400 [.inl, .gd 5 true, .gd 7 true, .inl, .gd 5 true, .gd 11 false] (o_ hb0 (o_ hb1 (o_ hb2 (o_ hb3 o0)))) ?_ rfl; kernel_rfl
      · refine on0 400 [.inl, .gd 5 true, .gd 7 true, .inl, .gd 5 false] (o_ hb0 (o_ hb1 (o_ hb2 o0))) ?_ rfl; kernel_rfl
    · refine on0 400 [.inl, .gd 5 true, .gd 7 false] (o_ hb0 (o_ hb1 o0)) ?_ rfl; kernel_rfl
  · refine on0 400 [.inl, .gd 5 false] (o_ hb0 o0) ?_ rfl; kernel_rfl

def stands (n : Nd) : Int :=
  bif n.bad.w || n.bad.e then
    bif decide (n.bank.r > 0) then
      bif decide (n.bank.w > 0) then
        bif (reqAbove n.own 14) then
          bif (reqAbove 3 n.own) then
            3
          else
            bif (reqAbove 9 n.own) then
              9
            else
              bif (reqAbove 11 n.own) then
                11
              else
                n.own
        else
          3
      else
        bif (reqAbove n.own 14) then
          bif (reqAbove 3 n.own) then
            3
          else
            bif (reqAbove 9 n.own) then
              9
            else
              n.own
        else
          3
    else
      bif decide (n.bank.w > 0) then
        bif (reqAbove n.own 14) then
          bif (reqAbove 3 n.own) then
            3
          else
            bif (reqAbove 11 n.own) then
              11
            else
              n.own
        else
          3
      else
        bif (reqAbove n.own 14) then
          bif (reqAbove 3 n.own) then
            3
          else
            n.own
        else
          3
  else
    bif decide (n.bank.r > 0) then
      bif decide (n.bank.w > 0) then
        bif (reqAbove n.own 14) then
          bif (reqAbove 9 n.own) then
            9
          else
            bif (reqAbove 11 n.own) then
              11
            else
              n.own
        else
          9
      else
        bif (reqAbove n.own 14) then
          bif (reqAbove 9 n.own) then
            9
          else
            n.own
        else
          9
    else
      bif decide (n.bank.w > 0) then
        bif (reqAbove n.own 14) then
          bif (reqAbove 11 n.own) then
            11
          else
            n.own
        else
          11
      else
        bif (reqAbove n.own 14) then
          n.own
        else
          14
def stands_c (r : Int) : Dir := .callL (.int .i64 r) []
def stands_G (n : Nd) (r : Int) : Prop := AOn Tryz.prog 74 [.agg ⟨Nd.enc n⟩] [] (.int .i64 r) []
theorem stands_eq (n : Nd) : stands_G n (stands n) := by
  unfold stands
  refine byOr ?_
  apply bi <;> intro hb0
  · apply bi <;> intro hb1
    · apply bi <;> intro hb2
      · apply bi <;> intro hb3
        · apply bi <;> intro hb4
          · refine on0 400 [.gd 10 true, .lit, .inl, .inl, .br true, .inl, .inl, .br true, .inl, .lit, reqAbove_c (reqAbove n.own 14), .br true, .lit, reqAbove_c (reqAbove 3 n.own), .br true, .lit, .inl, .inl, .inl, .lit, .lit, .inl, .inl, .inl, .lit, .lit] (o_ hb0 (o_ hb1 (o_ hb2 (o_ (reqAbove_eq n.own 14) (o_ hb3 (o_ (reqAbove_eq 3 n.own) (o_ hb4 o0))))))) ?_ rfl; kernel_rfl
          · apply bi <;> intro hb5
            · refine on0 400 [.gd 10 true, .lit, .inl, .inl, .br true, .inl, .inl, .br true, .inl, .lit, reqAbove_c (reqAbove n.own 14), .br true, .lit, reqAbove_c (reqAbove 3 n.own), .br false, .lit, reqAbove_c (reqAbove 9 n.own), .br true, .lit, .inl, .inl, .inl, .lit, .lit] (o_ hb0 (o_ hb1 (o_ hb2 (o_ (reqAbove_eq n.own 14) (o_ hb3 (o_ (reqAbove_eq 3 n.own) (o_ hb4 (o_ (reqAbove_eq 9 n.own) (o_ hb5 o0))))))))) ?_ rfl; kernel_rfl
            · apply bi <;> intro hb6
              · refine on0 400 [.gd 10 true, .lit, .inl, .inl, .br true, .inl, .inl, .br true, .inl, .lit, reqAbove_c (reqAbove n.own 14), .br true, .lit, reqAbove_c (reqAbove 3 n.own), .br false, .lit, reqAbove_c (reqAbove 9 n.own), .br false, .lit, reqAbove_c (reqAbove 11 n.own), .br true, .lit] (o_ hb0 (o_ hb1 (o_ hb2 (o_ (reqAbove_eq n.own 14) (o_ hb3 (o_ (reqAbove_eq 3 n.own) (o_ hb4 (o_ (reqAbove_eq 9 n.own) (o_ hb5 (o_ (reqAbove_eq 11 n.own) (o_ hb6 o0))))))))))) ?_ rfl; kernel_rfl
              · refine on0 400 [.gd 10 true, .lit, .inl, .inl, .br true, .inl, .inl, .br true, .inl, .lit, reqAbove_c (reqAbove n.own 14), .br true, .lit, reqAbove_c (reqAbove 3 n.own), .br false, .lit, reqAbove_c (reqAbove 9 n.own), .br false, .lit, reqAbove_c (reqAbove 11 n.own), .br false, .lit] (o_ hb0 (o_ hb1 (o_ hb2 (o_ (reqAbove_eq n.own 14) (o_ hb3 (o_ (reqAbove_eq 3 n.own) (o_ hb4 (o_ (reqAbove_eq 9 n.own) (o_ hb5 (o_ (reqAbove_eq 11 n.own) (o_ hb6 o0))))))))))) ?_ rfl; kernel_rfl
        · refine on0 400 [.gd 10 true, .lit, .inl, .inl, .br true, .inl, .inl, .br true, .inl, .lit, reqAbove_c (reqAbove n.own 14), .br false, .lit, .inl, .inl, .inl, .lit, .lit, .inl, .inl, .inl, .lit, .lit, .inl, .inl, .inl, .lit, .lit] (o_ hb0 (o_ hb1 (o_ hb2 (o_ (reqAbove_eq n.own 14) (o_ hb3 o0))))) ?_ rfl; kernel_rfl
      · apply bi <;> intro hb3
        · apply bi <;> intro hb4
          · refine on0 400 [.gd 10 true, .lit, .inl, .inl, .br true, .inl, .inl, .br false, .inl, .lit, reqAbove_c (reqAbove n.own 14), .br true, .lit, reqAbove_c (reqAbove 3 n.own), .br true, .lit, .inl, .inl, .inl, .lit, .lit] (o_ hb0 (o_ hb1 (o_ hb2 (o_ (reqAbove_eq n.own 14) (o_ hb3 (o_ (reqAbove_eq 3 n.own) (o_ hb4 o0))))))) ?_ rfl; kernel_rfl
          · apply bi <;> intro hb5
            · refine on0 400 [.gd 10 true, .lit, .inl, .inl, .br true, .inl, .inl, .br false, .inl, .lit, reqAbove_c (reqAbove n.own 14), .br true, .lit, reqAbove_c (reqAbove 3 n.own), .br false, .lit, reqAbove_c (reqAbove 9 n.own), .br true, .lit] (o_ hb0 (o_ hb1 (o_ hb2 (o_ (reqAbove_eq n.own 14) (o_ hb3 (o_ (reqAbove_eq 3 n.own) (o_ hb4 (o_ (reqAbove_eq 9 n.own) (o_ hb5 o0))))))))) ?_ rfl; kernel_rfl
            · refine on0 400 [.gd 10 true, .lit, .inl, .inl, .br true, .inl, .inl, .br false, .inl, .lit, reqAbove_c (reqAbove n.own 14), .br true, .lit, reqAbove_c (reqAbove 3 n.own), .br false, .lit, reqAbove_c (reqAbove 9 n.own), .br false, .lit] (o_ hb0 (o_ hb1 (o_ hb2 (o_ (reqAbove_eq n.own 14) (o_ hb3 (o_ (reqAbove_eq 3 n.own) (o_ hb4 (o_ (reqAbove_eq 9 n.own) (o_ hb5 o0))))))))) ?_ rfl; kernel_rfl
        · refine on0 400 [.gd 10 true, .lit, .inl, .inl, .br true, .inl, .inl, .br false, .inl, .lit, reqAbove_c (reqAbove n.own 14), .br false, .lit, .inl, .inl, .inl, .lit, .lit, .inl, .inl, .inl, .lit, .lit] (o_ hb0 (o_ hb1 (o_ hb2 (o_ (reqAbove_eq n.own 14) (o_ hb3 o0))))) ?_ rfl; kernel_rfl
    · apply bi <;> intro hb2
      · apply bi <;> intro hb3
        · apply bi <;> intro hb4
          · refine on0 400 [.gd 10 true, .lit, .inl, .inl, .br false, .inl, .inl, .br true, .inl, .lit, reqAbove_c (reqAbove n.own 14), .br true, .lit, reqAbove_c (reqAbove 3 n.own), .br true, .lit, .inl, .inl, .inl, .lit, .lit] (o_ hb0 (o_ hb1 (o_ hb2 (o_ (reqAbove_eq n.own 14) (o_ hb3 (o_ (reqAbove_eq 3 n.own) (o_ hb4 o0))))))) ?_ rfl; kernel_rfl
          · apply bi <;> intro hb5
            · refine on0 400 [.gd 10 true, .lit, .inl, .inl, .br false, .inl, .inl, .br true, .inl, .lit, reqAbove_c (reqAbove n.own 14), .br true, .lit, reqAbove_c (reqAbove 3 n.own), .br false, .lit, reqAbove_c (reqAbove 11 n.own), .br true, .lit] (o_ hb0 (o_ hb1 (o_ hb2 (o_ (reqAbove_eq n.own 14) (o_ hb3 (o_ (reqAbove_eq 3 n.own) (o_ hb4 (o_ (reqAbove_eq 11 n.own) (o_ hb5 o0))))))))) ?_ rfl; kernel_rfl
            · refine on0 400 [.gd 10 true, .lit, .inl, .inl, .br false, .inl, .inl, .br true, .inl, .lit, reqAbove_c (reqAbove n.own 14), .br true, .lit, reqAbove_c (reqAbove 3 n.own), .br false, .lit, reqAbove_c (reqAbove 11 n.own), .br false, .lit] (o_ hb0 (o_ hb1 (o_ hb2 (o_ (reqAbove_eq n.own 14) (o_ hb3 (o_ (reqAbove_eq 3 n.own) (o_ hb4 (o_ (reqAbove_eq 11 n.own) (o_ hb5 o0))))))))) ?_ rfl; kernel_rfl
        · refine on0 400 [.gd 10 true, .lit, .inl, .inl, .br false, .inl, .inl, .br true, .inl, .lit, reqAbove_c (reqAbove n.own 14), .br false, .lit, .inl, .inl, .inl, .lit, .lit, .inl, .inl, .inl, .lit, .lit] (o_ hb0 (o_ hb1 (o_ hb2 (o_ (reqAbove_eq n.own 14) (o_ hb3 o0))))) ?_ rfl; kernel_rfl
      · apply bi <;> intro hb3
        · apply bi <;> intro hb4
          · refine on0 400 [.gd 10 true, .lit, .inl, .inl, .br false, .inl, .inl, .br false, .inl, .lit, reqAbove_c (reqAbove n.own 14), .br true, .lit, reqAbove_c (reqAbove 3 n.own), .br true, .lit] (o_ hb0 (o_ hb1 (o_ hb2 (o_ (reqAbove_eq n.own 14) (o_ hb3 (o_ (reqAbove_eq 3 n.own) (o_ hb4 o0))))))) ?_ rfl; kernel_rfl
          · refine on0 400 [.gd 10 true, .lit, .inl, .inl, .br false, .inl, .inl, .br false, .inl, .lit, reqAbove_c (reqAbove n.own 14), .br true, .lit, reqAbove_c (reqAbove 3 n.own), .br false, .lit] (o_ hb0 (o_ hb1 (o_ hb2 (o_ (reqAbove_eq n.own 14) (o_ hb3 (o_ (reqAbove_eq 3 n.own) (o_ hb4 o0))))))) ?_ rfl; kernel_rfl
        · refine on0 400 [.gd 10 true, .lit, .inl, .inl, .br false, .inl, .inl, .br false, .inl, .lit, reqAbove_c (reqAbove n.own 14), .br false, .lit, .inl, .inl, .inl, .lit, .lit] (o_ hb0 (o_ hb1 (o_ hb2 (o_ (reqAbove_eq n.own 14) (o_ hb3 o0))))) ?_ rfl; kernel_rfl
  · apply bi <;> intro hb1
    · apply bi <;> intro hb2
      · apply bi <;> intro hb3
        · apply bi <;> intro hb4
          · apply bi <;> intro hb5
            · refine on0 400 [.gd 10 false, .br true, .inl, .inl, .br true, .inl, .inl, .br true, .inl, .lit, reqAbove_c (reqAbove n.own 14), .br true, .lit, reqAbove_c (reqAbove 3 n.own), .br true, .lit, .inl, .inl, .inl, .lit, .lit, .inl, .inl, .inl, .lit, .lit] (o_ hb0 (o_ hb1 (o_ hb2 (o_ hb3 (o_ (reqAbove_eq n.own 14) (o_ hb4 (o_ (reqAbove_eq 3 n.own) (o_ hb5 o0)))))))) ?_ rfl; kernel_rfl
            · apply bi <;> intro hb6
              · refine on0 400 [.gd 10 false, .br true, .inl, .inl, .br true, .inl, .inl, .br true, .inl, .lit, reqAbove_c (reqAbove n.own 14), .br true, .lit, reqAbove_c (reqAbove 3 n.own), .br false, .lit, reqAbove_c (reqAbove 9 n.own), .br true, .lit, .inl, .inl, .inl, .lit, .lit] (o_ hb0 (o_ hb1 (o_ hb2 (o_ hb3 (o_ (reqAbove_eq n.own 14) (o_ hb4 (o_ (reqAbove_eq 3 n.own) (o_ hb5 (o_ (reqAbove_eq 9 n.own) (o_ hb6 o0)))))))))) ?_ rfl; kernel_rfl
              · apply bi <;> intro hb7
                · refine on0 400 [.gd 10 false, .br true, .inl, .inl, .br true, .inl, .inl, .br true, .inl, .lit, reqAbove_c (reqAbove n.own 14), .br true, .lit, reqAbove_c (reqAbove 3 n.own), .br false, .lit, reqAbove_c (reqAbove 9 n.own), .br false, .lit, reqAbove_c (reqAbove 11 n.own), .br true, .lit] (o_ hb0 (o_ hb1 (o_ hb2 (o_ hb3 (o_ (reqAbove_eq n.own 14) (o_ hb4 (o_ (reqAbove_eq 3 n.own) (o_ hb5 (o_ (reqAbove_eq 9 n.own) (o_ hb6 (o_ (reqAbove_eq 11 n.own) (o_ hb7 o0)))))))))))) ?_ rfl; kernel_rfl
                · refine on0 400 [.gd 10 false, .br true, .inl, .inl, .br true, .inl, .inl, .br true, .inl, .lit, reqAbove_c (reqAbove n.own 14), .br true, .lit, reqAbove_c (reqAbove 3 n.own), .br false, .lit, reqAbove_c (reqAbove 9 n.own), .br false, .lit, reqAbove_c (reqAbove 11 n.own), .br false, .lit] (o_ hb0 (o_ hb1 (o_ hb2 (o_ hb3 (o_ (reqAbove_eq n.own 14) (o_ hb4 (o_ (reqAbove_eq 3 n.own) (o_ hb5 (o_ (reqAbove_eq 9 n.own) (o_ hb6 (o_ (reqAbove_eq 11 n.own) (o_ hb7 o0)))))))))))) ?_ rfl; kernel_rfl
          · refine on0 400 [.gd 10 false, .br true, .inl, .inl, .br true, .inl, .inl, .br true, .inl, .lit, reqAbove_c (reqAbove n.own 14), .br false, .lit, .inl, .inl, .inl, .lit, .lit, .inl, .inl, .inl, .lit, .lit, .inl, .inl, .inl, .lit, .lit] (o_ hb0 (o_ hb1 (o_ hb2 (o_ hb3 (o_ (reqAbove_eq n.own 14) (o_ hb4 o0)))))) ?_ rfl; kernel_rfl
        · apply bi <;> intro hb4
          · apply bi <;> intro hb5
            · refine on0 400 [.gd 10 false, .br true, .inl, .inl, .br true, .inl, .inl, .br false, .inl, .lit, reqAbove_c (reqAbove n.own 14), .br true, .lit, reqAbove_c (reqAbove 3 n.own), .br true, .lit, .inl, .inl, .inl, .lit, .lit] (o_ hb0 (o_ hb1 (o_ hb2 (o_ hb3 (o_ (reqAbove_eq n.own 14) (o_ hb4 (o_ (reqAbove_eq 3 n.own) (o_ hb5 o0)))))))) ?_ rfl; kernel_rfl
            · apply bi <;> intro hb6
              · refine on0 400 [.gd 10 false, .br true, .inl, .inl, .br true, .inl, .inl, .br false, .inl, .lit, reqAbove_c (reqAbove n.own 14), .br true, .lit, reqAbove_c (reqAbove 3 n.own), .br false, .lit, reqAbove_c (reqAbove 9 n.own), .br true, .lit] (o_ hb0 (o_ hb1 (o_ hb2 (o_ hb3 (o_ (reqAbove_eq n.own 14) (o_ hb4 (o_ (reqAbove_eq 3 n.own) (o_ hb5 (o_ (reqAbove_eq 9 n.own) (o_ hb6 o0)))))))))) ?_ rfl; kernel_rfl
              · refine on0 400 [.gd 10 false, .br true, .inl, .inl, .br true, .inl, .inl, .br false, .inl, .lit, reqAbove_c (reqAbove n.own 14), .br true, .lit, reqAbove_c (reqAbove 3 n.own), .br false, .lit, reqAbove_c (reqAbove 9 n.own), .br false, .lit] (o_ hb0 (o_ hb1 (o_ hb2 (o_ hb3 (o_ (reqAbove_eq n.own 14) (o_ hb4 (o_ (reqAbove_eq 3 n.own) (o_ hb5 (o_ (reqAbove_eq 9 n.own) (o_ hb6 o0)))))))))) ?_ rfl; kernel_rfl
          · refine on0 400 [.gd 10 false, .br true, .inl, .inl, .br true, .inl, .inl, .br false, .inl, .lit, reqAbove_c (reqAbove n.own 14), .br false, .lit, .inl, .inl, .inl, .lit, .lit, .inl, .inl, .inl, .lit, .lit] (o_ hb0 (o_ hb1 (o_ hb2 (o_ hb3 (o_ (reqAbove_eq n.own 14) (o_ hb4 o0)))))) ?_ rfl; kernel_rfl
      · apply bi <;> intro hb3
        · apply bi <;> intro hb4
          · apply bi <;> intro hb5
            · refine on0 400 [.gd 10 false, .br true, .inl, .inl, .br false, .inl, .inl, .br true, .inl, .lit, reqAbove_c (reqAbove n.own 14), .br true, .lit, reqAbove_c (reqAbove 3 n.own), .br true, .lit, .inl, .inl, .inl, .lit, .lit] (o_ hb0 (o_ hb1 (o_ hb2 (o_ hb3 (o_ (reqAbove_eq n.own 14) (o_ hb4 (o_ (reqAbove_eq 3 n.own) (o_ hb5 o0)))))))) ?_ rfl; kernel_rfl
            · apply bi <;> intro hb6
              · refine on0 400 [.gd 10 false, .br true, .inl, .inl, .br false, .inl, .inl, .br true, .inl, .lit, reqAbove_c (reqAbove n.own 14), .br true, .lit, reqAbove_c (reqAbove 3 n.own), .br false, .lit, reqAbove_c (reqAbove 11 n.own), .br true, .lit] (o_ hb0 (o_ hb1 (o_ hb2 (o_ hb3 (o_ (reqAbove_eq n.own 14) (o_ hb4 (o_ (reqAbove_eq 3 n.own) (o_ hb5 (o_ (reqAbove_eq 11 n.own) (o_ hb6 o0)))))))))) ?_ rfl; kernel_rfl
              · refine on0 400 [.gd 10 false, .br true, .inl, .inl, .br false, .inl, .inl, .br true, .inl, .lit, reqAbove_c (reqAbove n.own 14), .br true, .lit, reqAbove_c (reqAbove 3 n.own), .br false, .lit, reqAbove_c (reqAbove 11 n.own), .br false, .lit] (o_ hb0 (o_ hb1 (o_ hb2 (o_ hb3 (o_ (reqAbove_eq n.own 14) (o_ hb4 (o_ (reqAbove_eq 3 n.own) (o_ hb5 (o_ (reqAbove_eq 11 n.own) (o_ hb6 o0)))))))))) ?_ rfl; kernel_rfl
          · refine on0 400 [.gd 10 false, .br true, .inl, .inl, .br false, .inl, .inl, .br true, .inl, .lit, reqAbove_c (reqAbove n.own 14), .br false, .lit, .inl, .inl, .inl, .lit, .lit, .inl, .inl, .inl, .lit, .lit] (o_ hb0 (o_ hb1 (o_ hb2 (o_ hb3 (o_ (reqAbove_eq n.own 14) (o_ hb4 o0)))))) ?_ rfl; kernel_rfl
        · apply bi <;> intro hb4
          · apply bi <;> intro hb5
            · refine on0 400 [.gd 10 false, .br true, .inl, .inl, .br false, .inl, .inl, .br false, .inl, .lit, reqAbove_c (reqAbove n.own 14), .br true, .lit, reqAbove_c (reqAbove 3 n.own), .br true, .lit] (o_ hb0 (o_ hb1 (o_ hb2 (o_ hb3 (o_ (reqAbove_eq n.own 14) (o_ hb4 (o_ (reqAbove_eq 3 n.own) (o_ hb5 o0)))))))) ?_ rfl; kernel_rfl
            · refine on0 400 [.gd 10 false, .br true, .inl, .inl, .br false, .inl, .inl, .br false, .inl, .lit, reqAbove_c (reqAbove n.own 14), .br true, .lit, reqAbove_c (reqAbove 3 n.own), .br false, .lit] (o_ hb0 (o_ hb1 (o_ hb2 (o_ hb3 (o_ (reqAbove_eq n.own 14) (o_ hb4 (o_ (reqAbove_eq 3 n.own) (o_ hb5 o0)))))))) ?_ rfl; kernel_rfl
          · refine on0 400 [.gd 10 false, .br true, .inl, .inl, .br false, .inl, .inl, .br false, .inl, .lit, reqAbove_c (reqAbove n.own 14), .br false, .lit, .inl, .inl, .inl, .lit, .lit] (o_ hb0 (o_ hb1 (o_ hb2 (o_ hb3 (o_ (reqAbove_eq n.own 14) (o_ hb4 o0)))))) ?_ rfl; kernel_rfl
    · apply bi <;> intro hb2
      · apply bi <;> intro hb3
        · apply bi <;> intro hb4
          · apply bi <;> intro hb5
            · refine on0 400 [.gd 10 false, .br false, .inl, .inl, .br true, .inl, .inl, .br true, .inl, .lit, reqAbove_c (reqAbove n.own 14), .br true, .lit, reqAbove_c (reqAbove 9 n.own), .br true, .lit, .inl, .inl, .inl, .lit, .lit] (o_ hb0 (o_ hb1 (o_ hb2 (o_ hb3 (o_ (reqAbove_eq n.own 14) (o_ hb4 (o_ (reqAbove_eq 9 n.own) (o_ hb5 o0)))))))) ?_ rfl; kernel_rfl
            · apply bi <;> intro hb6
              · refine on0 400 [.gd 10 false, .br false, .inl, .inl, .br true, .inl, .inl, .br true, .inl, .lit, reqAbove_c (reqAbove n.own 14), .br true, .lit, reqAbove_c (reqAbove 9 n.own), .br false, .lit, reqAbove_c (reqAbove 11 n.own), .br true, .lit] (o_ hb0 (o_ hb1 (o_ hb2 (o_ hb3 (o_ (reqAbove_eq n.own 14) (o_ hb4 (o_ (reqAbove_eq 9 n.own) (o_ hb5 (o_ (reqAbove_eq 11 n.own) (o_ hb6 o0)))))))))) ?_ rfl; kernel_rfl
              · refine on0 400 [.gd 10 false, .br false, .inl, .inl, .br true, .inl, .inl, .br true, .inl, .lit, reqAbove_c (reqAbove n.own 14), .br true, .lit, reqAbove_c (reqAbove 9 n.own), .br false, .lit, reqAbove_c (reqAbove 11 n.own), .br false, .lit] (o_ hb0 (o_ hb1 (o_ hb2 (o_ hb3 (o_ (reqAbove_eq n.own 14) (o_ hb4 (o_ (reqAbove_eq 9 n.own) (o_ hb5 (o_ (reqAbove_eq 11 n.own) (o_ hb6 o0)))))))))) ?_ rfl; kernel_rfl
          · refine on0 400 [.gd 10 false, .br false, .inl, .inl, .br true, .inl, .inl, .br true, .inl, .lit, reqAbove_c (reqAbove n.own 14), .br false, .lit, .inl, .inl, .inl, .lit, .lit, .inl, .inl, .inl, .lit, .lit] (o_ hb0 (o_ hb1 (o_ hb2 (o_ hb3 (o_ (reqAbove_eq n.own 14) (o_ hb4 o0)))))) ?_ rfl; kernel_rfl
        · apply bi <;> intro hb4
          · apply bi <;> intro hb5
            · refine on0 400 [.gd 10 false, .br false, .inl, .inl, .br true, .inl, .inl, .br false, .inl, .lit, reqAbove_c (reqAbove n.own 14), .br true, .lit, reqAbove_c (reqAbove 9 n.own), .br true, .lit] (o_ hb0 (o_ hb1 (o_ hb2 (o_ hb3 (o_ (reqAbove_eq n.own 14) (o_ hb4 (o_ (reqAbove_eq 9 n.own) (o_ hb5 o0)))))))) ?_ rfl; kernel_rfl
            · refine on0 400 [.gd 10 false, .br false, .inl, .inl, .br true, .inl, .inl, .br false, .inl, .lit, reqAbove_c (reqAbove n.own 14), .br true, .lit, reqAbove_c (reqAbove 9 n.own), .br false, .lit] (o_ hb0 (o_ hb1 (o_ hb2 (o_ hb3 (o_ (reqAbove_eq n.own 14) (o_ hb4 (o_ (reqAbove_eq 9 n.own) (o_ hb5 o0)))))))) ?_ rfl; kernel_rfl
          · refine on0 400 [.gd 10 false, .br false, .inl, .inl, .br true, .inl, .inl, .br false, .inl, .lit, reqAbove_c (reqAbove n.own 14), .br false, .lit, .inl, .inl, .inl, .lit, .lit] (o_ hb0 (o_ hb1 (o_ hb2 (o_ hb3 (o_ (reqAbove_eq n.own 14) (o_ hb4 o0)))))) ?_ rfl; kernel_rfl
      · apply bi <;> intro hb3
        · apply bi <;> intro hb4
          · apply bi <;> intro hb5
            · refine on0 400 [.gd 10 false, .br false, .inl, .inl, .br false, .inl, .inl, .br true, .inl, .lit, reqAbove_c (reqAbove n.own 14), .br true, .lit, reqAbove_c (reqAbove 11 n.own), .br true, .lit] (o_ hb0 (o_ hb1 (o_ hb2 (o_ hb3 (o_ (reqAbove_eq n.own 14) (o_ hb4 (o_ (reqAbove_eq 11 n.own) (o_ hb5 o0)))))))) ?_ rfl; kernel_rfl
            · refine on0 400 [.gd 10 false, .br false, .inl, .inl, .br false, .inl, .inl, .br true, .inl, .lit, reqAbove_c (reqAbove n.own 14), .br true, .lit, reqAbove_c (reqAbove 11 n.own), .br false, .lit] (o_ hb0 (o_ hb1 (o_ hb2 (o_ hb3 (o_ (reqAbove_eq n.own 14) (o_ hb4 (o_ (reqAbove_eq 11 n.own) (o_ hb5 o0)))))))) ?_ rfl; kernel_rfl
          · refine on0 400 [.gd 10 false, .br false, .inl, .inl, .br false, .inl, .inl, .br true, .inl, .lit, reqAbove_c (reqAbove n.own 14), .br false, .lit, .inl, .inl, .inl, .lit, .lit] (o_ hb0 (o_ hb1 (o_ hb2 (o_ hb3 (o_ (reqAbove_eq n.own 14) (o_ hb4 o0)))))) ?_ rfl; kernel_rfl
        · apply bi <;> intro hb4
          · refine on0 400 [.gd 10 false, .br false, .inl, .inl, .br false, .inl, .inl, .br false, .inl, .lit, reqAbove_c (reqAbove n.own 14), .br true, .lit] (o_ hb0 (o_ hb1 (o_ hb2 (o_ hb3 (o_ (reqAbove_eq n.own 14) (o_ hb4 o0)))))) ?_ rfl; kernel_rfl
          · refine on0 400 [.gd 10 false, .br false, .inl, .inl, .br false, .inl, .inl, .br false, .inl, .lit, reqAbove_c (reqAbove n.own 14), .br false, .lit] (o_ hb0 (o_ hb1 (o_ hb2 (o_ hb3 (o_ (reqAbove_eq n.own 14) (o_ hb4 o0)))))) ?_ rfl; kernel_rfl

def says (n : Nd) (now : Int) (m : Msg) : Nd :=
  { n with say := { m with node := n.me }, burst := burstBegin n.burst now }
def says_c (i : Nat) (r : Nd) : Dir := .callL (.tuple ⟨[]⟩) [(i, .cells (Nd.enc r) 44 37)]
def says_G (n : Nd) (now : Int) (m : Msg) (r : Nd) : Prop := AEq Tryz.prog 24 [.pointer (some ⟨0, 0, none⟩), .int .i64 now, .agg ⟨Msg.enc m⟩] [.cells (Nd.enc n) 44 37] (.tuple ⟨[]⟩) [.cells (Nd.enc r) 44 37]
theorem says_0 (n : Nd) (now : Int) (m : Msg) : says_G n now m (says n now m) := by
  unfold says
  refine run1 400 [burstBegin_c (burstBegin n.burst now)] (o_ (burstBegin_eq n.burst now) o0) ?_; kernel_rfl
theorem says_eq (n : Nd) (now : Int) (m : Msg) (i : Nat) : AOn Tryz.prog 24 [.pointer (some ⟨i, 0, none⟩), .int .i64 now, .agg ⟨Msg.enc m⟩] [(i, .cells (Nd.enc n) 44 37)] (.tuple ⟨[]⟩) [(i, .cells (Nd.enc (says n now m)) 44 37)] :=
  AEq.on1 (says_0 n now m) i rfl rfl rfl rfl
def says_S (n : Nd) (now : Int) (m : Msg) (r : Nd) : Prop := Same n r
theorem says_same (n : Nd) (now : Int) (m : Msg) : says_S n now m (says n now m) := by
  unfold says
  exact (Same.refl n)

def start0 (n : Nd) (now : Int) (length : Int) : Nd :=
  bif (decide (now < 0)) || ((decide (now > 1099511627776)) || ((decide (length < 0)) || (decide (length > 1048576)))) then
    n
  else
    { n with bank := { n.bank with g := IntKind.wrap .i64 ((if 1099511627776 < (IntKind.wrap .i64 (now + length)) then 1099511627776 else (IntKind.wrap .i64 (now + length))) + 1) } }
def start0_c (i : Nat) (r : Nd) : Dir := .callL (.tuple ⟨[]⟩) [(i, .cells (Nd.enc r) 44 37)]
def start0_G (n : Nd) (now : Int) (length : Int) (r : Nd) : Prop := AEq Tryz.prog 26 [.pointer (some ⟨0, 0, none⟩), .int .i64 0, .int .i64 now, .int .i64 length] [.cells (Nd.enc n) 44 37] (.tuple ⟨[]⟩) [.cells (Nd.enc r) 44 37]
theorem start0_0 (n : Nd) (now : Int) (length : Int) : start0_G n now length (start0 n now length) := by
  unfold start0
  refine byOr ?_
  apply bi <;> intro hb0
  · refine run1 400 [.inl, .inl, .lit, .gd 18 true, .lit] (o_ hb0 o0) ?_; kernel_rfl
  · refine byOr ?_
    apply bi <;> intro hb1
    · refine run1 400 [.inl, .inl, .lit, .gd 18 false, .gd 22 true, .lit] (o_ hb0 (o_ hb1 o0)) ?_; kernel_rfl
    · refine byOr ?_
      apply bi <;> intro hb2
      · refine run1 400 [.inl, .inl, .lit, .gd 18 false, .gd 22 false, .gd 26 true, .lit] (o_ hb0 (o_ hb1 (o_ hb2 o0))) ?_; kernel_rfl
      · apply bi <;> intro hb3
        · refine run1 400 [.inl, .inl, .lit, .gd 18 false, .gd 22 false, .gd 26 false, .br true] (o_ hb0 (o_ hb1 (o_ hb2 (o_ hb3 o0)))) ?_; kernel_rfl
        · refine run1 400 [.inl, .inl, .lit, .gd 18 false, .gd 22 false, .gd 26 false, .br false] (o_ hb0 (o_ hb1 (o_ hb2 (o_ hb3 o0)))) ?_; kernel_rfl
theorem start0_eq (n : Nd) (now : Int) (length : Int) (i : Nat) : AOn Tryz.prog 26 [.pointer (some ⟨i, 0, none⟩), .int .i64 0, .int .i64 now, .int .i64 length] [(i, .cells (Nd.enc n) 44 37)] (.tuple ⟨[]⟩) [(i, .cells (Nd.enc (start0 n now length)) 44 37)] :=
  AEq.on1 (start0_0 n now length) i rfl rfl rfl rfl
def start0_S (n : Nd) (now : Int) (length : Int) (r : Nd) : Prop := Same n r
theorem start0_same (n : Nd) (now : Int) (length : Int) : start0_S n now length (start0 n now length) := by
  unfold start0
  refine byIte (fun _ => ?_) (fun _ => ?_)
  exact (Same.refl n)
  exact (Same.refl n)

def start1 (n : Nd) (now : Int) (length : Int) : Nd :=
  bif (decide (now < 0)) || ((decide (now > 1099511627776)) || ((decide (length < 0)) || (decide (length > 1048576)))) then
    n
  else
    { n with bank := { n.bank with r := IntKind.wrap .i64 ((if 1099511627776 < (IntKind.wrap .i64 (now + length)) then 1099511627776 else (IntKind.wrap .i64 (now + length))) + 1) } }
def start1_c (i : Nat) (r : Nd) : Dir := .callL (.tuple ⟨[]⟩) [(i, .cells (Nd.enc r) 44 37)]
def start1_G (n : Nd) (now : Int) (length : Int) (r : Nd) : Prop := AEq Tryz.prog 26 [.pointer (some ⟨0, 0, none⟩), .int .i64 1, .int .i64 now, .int .i64 length] [.cells (Nd.enc n) 44 37] (.tuple ⟨[]⟩) [.cells (Nd.enc r) 44 37]
theorem start1_0 (n : Nd) (now : Int) (length : Int) : start1_G n now length (start1 n now length) := by
  unfold start1
  refine byOr ?_
  apply bi <;> intro hb0
  · refine run1 400 [.inl, .inl, .lit, .gd 18 true, .lit] (o_ hb0 o0) ?_; kernel_rfl
  · refine byOr ?_
    apply bi <;> intro hb1
    · refine run1 400 [.inl, .inl, .lit, .gd 18 false, .gd 22 true, .lit] (o_ hb0 (o_ hb1 o0)) ?_; kernel_rfl
    · refine byOr ?_
      apply bi <;> intro hb2
      · refine run1 400 [.inl, .inl, .lit, .gd 18 false, .gd 22 false, .gd 26 true, .lit] (o_ hb0 (o_ hb1 (o_ hb2 o0))) ?_; kernel_rfl
      · apply bi <;> intro hb3
        · refine run1 400 [.inl, .inl, .lit, .gd 18 false, .gd 22 false, .gd 26 false, .br true] (o_ hb0 (o_ hb1 (o_ hb2 (o_ hb3 o0)))) ?_; kernel_rfl
        · refine run1 400 [.inl, .inl, .lit, .gd 18 false, .gd 22 false, .gd 26 false, .br false] (o_ hb0 (o_ hb1 (o_ hb2 (o_ hb3 o0)))) ?_; kernel_rfl
theorem start1_eq (n : Nd) (now : Int) (length : Int) (i : Nat) : AOn Tryz.prog 26 [.pointer (some ⟨i, 0, none⟩), .int .i64 1, .int .i64 now, .int .i64 length] [(i, .cells (Nd.enc n) 44 37)] (.tuple ⟨[]⟩) [(i, .cells (Nd.enc (start1 n now length)) 44 37)] :=
  AEq.on1 (start1_0 n now length) i rfl rfl rfl rfl
def start1_S (n : Nd) (now : Int) (length : Int) (r : Nd) : Prop := Same n r
theorem start1_same (n : Nd) (now : Int) (length : Int) : start1_S n now length (start1 n now length) := by
  unfold start1
  refine byIte (fun _ => ?_) (fun _ => ?_)
  exact (Same.refl n)
  exact (Same.refl n)

def start2 (n : Nd) (now : Int) (length : Int) : Nd :=
  bif (decide (now < 0)) || ((decide (now > 1099511627776)) || ((decide (length < 0)) || (decide (length > 1048576)))) then
    n
  else
    { n with bank := { n.bank with w := IntKind.wrap .i64 ((if 1099511627776 < (IntKind.wrap .i64 (now + length)) then 1099511627776 else (IntKind.wrap .i64 (now + length))) + 1) } }
def start2_c (i : Nat) (r : Nd) : Dir := .callL (.tuple ⟨[]⟩) [(i, .cells (Nd.enc r) 44 37)]
def start2_G (n : Nd) (now : Int) (length : Int) (r : Nd) : Prop := AEq Tryz.prog 26 [.pointer (some ⟨0, 0, none⟩), .int .i64 2, .int .i64 now, .int .i64 length] [.cells (Nd.enc n) 44 37] (.tuple ⟨[]⟩) [.cells (Nd.enc r) 44 37]
theorem start2_0 (n : Nd) (now : Int) (length : Int) : start2_G n now length (start2 n now length) := by
  unfold start2
  refine byOr ?_
  apply bi <;> intro hb0
  · refine run1 400 [.inl, .inl, .lit, .gd 18 true, .lit] (o_ hb0 o0) ?_; kernel_rfl
  · refine byOr ?_
    apply bi <;> intro hb1
    · refine run1 400 [.inl, .inl, .lit, .gd 18 false, .gd 22 true, .lit] (o_ hb0 (o_ hb1 o0)) ?_; kernel_rfl
    · refine byOr ?_
      apply bi <;> intro hb2
      · refine run1 400 [.inl, .inl, .lit, .gd 18 false, .gd 22 false, .gd 26 true, .lit] (o_ hb0 (o_ hb1 (o_ hb2 o0))) ?_; kernel_rfl
      · apply bi <;> intro hb3
        · refine run1 400 [.inl, .inl, .lit, .gd 18 false, .gd 22 false, .gd 26 false, .br true] (o_ hb0 (o_ hb1 (o_ hb2 (o_ hb3 o0)))) ?_; kernel_rfl
        · refine run1 400 [.inl, .inl, .lit, .gd 18 false, .gd 22 false, .gd 26 false, .br false] (o_ hb0 (o_ hb1 (o_ hb2 (o_ hb3 o0)))) ?_; kernel_rfl
theorem start2_eq (n : Nd) (now : Int) (length : Int) (i : Nat) : AOn Tryz.prog 26 [.pointer (some ⟨i, 0, none⟩), .int .i64 2, .int .i64 now, .int .i64 length] [(i, .cells (Nd.enc n) 44 37)] (.tuple ⟨[]⟩) [(i, .cells (Nd.enc (start2 n now length)) 44 37)] :=
  AEq.on1 (start2_0 n now length) i rfl rfl rfl rfl
def start2_S (n : Nd) (now : Int) (length : Int) (r : Nd) : Prop := Same n r
theorem start2_same (n : Nd) (now : Int) (length : Int) : start2_S n now length (start2 n now length) := by
  unfold start2
  refine byIte (fun _ => ?_) (fun _ => ?_)
  exact (Same.refl n)
  exact (Same.refl n)

def take_x0 (n : Nd) (now : Int) (port : Int) (m : Msg) (bad : Bool) : Nd := says { n with shut := (B2.mk true (bad && n.bad.e)) } now { m with keep := n.shut.w, east := false }
def take_x1 (n : Nd) (now : Int) (port : Int) (m : Msg) (bad : Bool) : Nd := says { n with shut := (B2.mk true false) } now { m with keep := n.shut.w, east := false }
def take_x2 (n : Nd) (now : Int) (port : Int) (m : Msg) (bad : Bool) : Nd := says { n with shut := (B2.mk (bad && n.bad.w) true) } now { m with keep := n.shut.e, east := true }
def take_x3 (n : Nd) (now : Int) (port : Int) (m : Msg) (bad : Bool) : Nd := says { n with shut := (B2.mk false true) } now { m with keep := n.shut.e, east := true }
def take (n : Nd) (now : Int) (port : Int) (m : Msg) (bad : Bool) : Nd × Bool :=
  bif port == 0 then
    bif bad then
      ((take_x0 n now port m bad), !n.shut.w)
    else
      ((take_x1 n now port m bad), !n.shut.w)
  else
    bif bad then
      ((take_x2 n now port m bad), !n.shut.e)
    else
      ((take_x3 n now port m bad), !n.shut.e)
def take_c (i : Nat) (r : Nd × Bool) : Dir := .callL (.bool r.2) [(i, .cells (Nd.enc r.1) 44 37)]
def take_G (n : Nd) (now : Int) (port : Int) (m : Msg) (bad : Bool) (r : Nd × Bool) : Prop := AEq Tryz.prog 104 [.pointer (some ⟨0, 0, none⟩), .int .i64 now, .int .i64 port, .agg ⟨Msg.enc m⟩, .bool bad] [.cells (Nd.enc n) 44 37] (.bool r.2) [.cells (Nd.enc r.1) 44 37]
theorem take_0 (n : Nd) (now : Int) (port : Int) (m : Msg) (bad : Bool) (hp : port = 0 ∨ port = 1) : take_G n now port m bad (take n now port m bad) := by
  unfold take
  apply bi <;> intro hb0
  · apply bi <;> intro hb1
    · refine run1 400 (.is 12 (.int .i64 0) :: .is 17 (.int .i64 0) :: .is 22 (.int .i64 0) :: .is 27 (.int .i64 0) :: .gd 30 true :: .gd 30 true :: .is 32 (.int .i64 0) :: gds 5 30 true ([says_c 0 (take_x0 n now port m bad)])) (oN 4 (ieq .i64 hb0) (o_ hb1 (o_ hb1 (o_ (ieq .i64 hb0) (oN 5 hb1 (o_ (says_eq { n with shut := (B2.mk true (bad && n.bad.e)) } now { m with keep := n.shut.w, east := false } 0) o0)))))) ?_; kernel_rfl
    · refine run1 400 (.is 12 (.int .i64 0) :: .is 17 (.int .i64 0) :: .is 22 (.int .i64 0) :: .is 27 (.int .i64 0) :: gds 7 30 false (.hint 38 (.bool false) :: [says_c 0 (take_x1 n now port m bad)])) (oN 4 (ieq .i64 hb0) (oN 8 hb1 (o_ (says_eq { n with shut := (B2.mk true false) } now { m with keep := n.shut.w, east := false } 0) o0))) ?_; kernel_rfl
  · refine byNotF (port == 1) (fun hb1 => ?_) (fun hb1 => ?_)
    · apply bi <;> intro hb2
      · refine run1 400 (.is 12 (.int .i64 1) :: .is 17 (.int .i64 1) :: .is 22 (.int .i64 1) :: .is 27 (.int .i64 1) :: .gd 30 true :: .gd 30 true :: .is 32 (.int .i64 1) :: gds 5 30 true ([says_c 0 (take_x2 n now port m bad)])) (oN 4 (ieq .i64 hb1) (o_ hb2 (o_ hb2 (o_ (ieq .i64 hb1) (oN 5 hb2 (o_ (says_eq { n with shut := (B2.mk (bad && n.bad.w) true) } now { m with keep := n.shut.e, east := true } 0) o0)))))) ?_; kernel_rfl
      · refine run1 400 (.is 12 (.int .i64 1) :: .is 17 (.int .i64 1) :: .is 22 (.int .i64 1) :: .is 27 (.int .i64 1) :: gds 7 30 false (.hint 38 (.bool false) :: [says_c 0 (take_x3 n now port m bad)])) (oN 4 (ieq .i64 hb1) (oN 8 hb2 (o_ (says_eq { n with shut := (B2.mk false true) } now { m with keep := n.shut.e, east := true } 0) o0))) ?_; kernel_rfl
    · exfalso; first | omega | (simp only [zor, zand, zorf, zandf, znt, znf, zeq, zne, zeqf, znef, zd, zdf] at *; omega)
theorem take_eq (n : Nd) (now : Int) (port : Int) (m : Msg) (bad : Bool) (hp : port = 0 ∨ port = 1) (i : Nat) : AOn Tryz.prog 104 [.pointer (some ⟨i, 0, none⟩), .int .i64 now, .int .i64 port, .agg ⟨Msg.enc m⟩, .bool bad] [(i, .cells (Nd.enc n) 44 37)] (.bool ((take n now port m bad).2)) [(i, .cells (Nd.enc ((take n now port m bad).1)) 44 37)] :=
  AEq.on1 (take_0 n now port m bad hp) i rfl rfl rfl rfl
def take_S (n : Nd) (now : Int) (port : Int) (m : Msg) (bad : Bool) (r : Nd × Bool) : Prop := Same n r.1
theorem take_same (n : Nd) (now : Int) (port : Int) (m : Msg) (bad : Bool) : take_S n now port m bad (take n now port m bad) := by
  unfold take
  refine byIte (fun _ => ?_) (fun _ => ?_)
  refine byIte (fun _ => ?_) (fun _ => ?_)
  exact ((Same.refl n).trans (says_same { n with shut := (B2.mk true (bad && n.bad.e)) } now { m with keep := n.shut.w, east := false }))
  exact ((Same.refl n).trans (says_same { n with shut := (B2.mk true false) } now { m with keep := n.shut.w, east := false }))
  refine byIte (fun _ => ?_) (fun _ => ?_)
  exact ((Same.refl n).trans (says_same { n with shut := (B2.mk (bad && n.bad.w) true) } now { m with keep := n.shut.e, east := true }))
  exact ((Same.refl n).trans (says_same { n with shut := (B2.mk false true) } now { m with keep := n.shut.e, east := true }))

def openSound (n : Nd) : Nd :=
  bif n.shut.w then
    bif n.shut.e then
      { n with shut := (B2.mk (n.shut.w && n.bad.w) (n.shut.e && n.bad.e)) }
    else
      { n with shut := (B2.mk (n.shut.w && n.bad.w) false) }
  else
    bif n.shut.e then
      { n with shut := (B2.mk false (n.shut.e && n.bad.e)) }
    else
      { n with shut := (B2.mk false false) }
def openSound_c (i : Nat) (r : Nd) : Dir := .callL (.tuple ⟨[]⟩) [(i, .cells (Nd.enc r) 44 37)]
def openSound_G (n : Nd) (r : Nd) : Prop := AEq Tryz.prog 105 [.pointer (some ⟨0, 0, none⟩)] [.cells (Nd.enc n) 44 37] (.tuple ⟨[]⟩) [.cells (Nd.enc r) 44 37]
theorem openSound_0 (n : Nd) : openSound_G n (openSound n) := by
  unfold openSound
  apply bi <;> intro hb0
  · apply bi <;> intro hb1
    · refine run1 400 (.lit :: gds 6 14 true (.lit :: gds 6 14 true ([.lit]))) (oN 6 hb0 (oN 6 hb1 o0)) ?_; kernel_rfl
    · refine run1 400 (.lit :: gds 6 14 true (.lit :: gds 6 14 false (.hint 21 (.bool false) :: [.lit]))) (oN 6 hb0 (oN 7 hb1 o0)) ?_; kernel_rfl
  · apply bi <;> intro hb1
    · refine run1 400 (.lit :: gds 6 14 false (.hint 21 (.bool false) :: .lit :: gds 6 14 true ([.lit]))) (oN 7 hb0 (oN 6 hb1 o0)) ?_; kernel_rfl
    · refine run1 400 (.lit :: gds 6 14 false (.hint 21 (.bool false) :: .lit :: gds 6 14 false (.hint 21 (.bool false) :: [.lit]))) (oN 7 hb0 (oN 7 hb1 o0)) ?_; kernel_rfl
theorem openSound_eq (n : Nd) (i : Nat) : AOn Tryz.prog 105 [.pointer (some ⟨i, 0, none⟩)] [(i, .cells (Nd.enc n) 44 37)] (.tuple ⟨[]⟩) [(i, .cells (Nd.enc (openSound n)) 44 37)] :=
  AEq.on1 (openSound_0 n) i rfl rfl rfl rfl
def openSound_S (n : Nd) (r : Nd) : Prop := Same n r
theorem openSound_same (n : Nd) : openSound_S n (openSound n) := by
  unfold openSound
  refine byIte (fun _ => ?_) (fun _ => ?_)
  refine byIte (fun _ => ?_) (fun _ => ?_)
  exact (Same.refl n)
  exact (Same.refl n)
  refine byIte (fun _ => ?_) (fun _ => ?_)
  exact (Same.refl n)
  exact (Same.refl n)

def silence (n : Nd) : Nd :=
  { n with say := (Msg.mk 0 false false false 0), burst := burstEnd n.burst }
def silence_c (i : Nat) (r : Nd) : Dir := .callL (.tuple ⟨[]⟩) [(i, .cells (Nd.enc r) 44 37)]
def silence_G (n : Nd) (r : Nd) : Prop := AEq Tryz.prog 108 [.pointer (some ⟨0, 0, none⟩)] [.cells (Nd.enc n) 44 37] (.tuple ⟨[]⟩) [.cells (Nd.enc r) 44 37]
theorem silence_0 (n : Nd) : silence_G n (silence n) := by
  unfold silence
  refine run1 400 [burstEnd_c (burstEnd n.burst)] (o_ (burstEnd_eq n.burst) o0) ?_; kernel_rfl
theorem silence_eq (n : Nd) (i : Nat) : AOn Tryz.prog 108 [.pointer (some ⟨i, 0, none⟩)] [(i, .cells (Nd.enc n) 44 37)] (.tuple ⟨[]⟩) [(i, .cells (Nd.enc (silence n)) 44 37)] :=
  AEq.on1 (silence_0 n) i rfl rfl rfl rfl
def silence_S (n : Nd) (r : Nd) : Prop := Same n r
theorem silence_same (n : Nd) : silence_S n (silence n) := by
  unfold silence
  exact (Same.refl n)

def waitFor1 (n : Nd) (now : Int) (length : Int) : Nd :=
  bif (n.role == 1) && n.revert then
    (start1 n now length)
  else
    n
def waitFor1_c (i : Nat) (r : Nd) : Dir := .callL (.tuple ⟨[]⟩) [(i, .cells (Nd.enc r) 44 37)]
def waitFor1_G (n : Nd) (now : Int) (length : Int) (r : Nd) : Prop := AEq Tryz.prog 106 [.pointer (some ⟨0, 0, none⟩), .int .i64 1, .int .i64 now, .int .i64 length] [.cells (Nd.enc n) 44 37] (.tuple ⟨[]⟩) [.cells (Nd.enc r) 44 37]
theorem waitFor1_0 (n : Nd) (now : Int) (length : Int) : waitFor1_G n now length (waitFor1 n now length) := by
  unfold waitFor1
  refine byAnd ?_
  apply bi <;> intro hb0
  · apply bi <;> intro hb1
    · refine run1 400 [.inl, .gd 6 true, .br true, start1_c 0 (start1 n now length)] (o_ hb0 (o_ hb1 (o_ (start1_eq n now length 0) o0))) ?_; kernel_rfl
    · refine run1 400 [.inl, .gd 6 true, .br false] (o_ hb0 (o_ hb1 o0)) ?_; kernel_rfl
  · refine run1 400 [.inl, .gd 6 false, .lit] (o_ hb0 o0) ?_; kernel_rfl
theorem waitFor1_eq (n : Nd) (now : Int) (length : Int) (i : Nat) : AOn Tryz.prog 106 [.pointer (some ⟨i, 0, none⟩), .int .i64 1, .int .i64 now, .int .i64 length] [(i, .cells (Nd.enc n) 44 37)] (.tuple ⟨[]⟩) [(i, .cells (Nd.enc (waitFor1 n now length)) 44 37)] :=
  AEq.on1 (waitFor1_0 n now length) i rfl rfl rfl rfl
def waitFor1_S (n : Nd) (now : Int) (length : Int) (r : Nd) : Prop := Same n r
theorem waitFor1_same (n : Nd) (now : Int) (length : Int) : waitFor1_S n now length (waitFor1 n now length) := by
  unfold waitFor1
  refine byIte (fun _ => ?_) (fun _ => ?_)
  exact ((Same.refl n).trans (start1_same n now length))
  exact (Same.refl n)

def waitFor2 (n : Nd) (now : Int) (length : Int) : Nd :=
  bif (n.role == 1) && n.revert then
    (start2 n now length)
  else
    n
def waitFor2_c (i : Nat) (r : Nd) : Dir := .callL (.tuple ⟨[]⟩) [(i, .cells (Nd.enc r) 44 37)]
def waitFor2_G (n : Nd) (now : Int) (length : Int) (r : Nd) : Prop := AEq Tryz.prog 106 [.pointer (some ⟨0, 0, none⟩), .int .i64 2, .int .i64 now, .int .i64 length] [.cells (Nd.enc n) 44 37] (.tuple ⟨[]⟩) [.cells (Nd.enc r) 44 37]
theorem waitFor2_0 (n : Nd) (now : Int) (length : Int) : waitFor2_G n now length (waitFor2 n now length) := by
  unfold waitFor2
  refine byAnd ?_
  apply bi <;> intro hb0
  · apply bi <;> intro hb1
    · refine run1 400 [.inl, .gd 6 true, .br true, start2_c 0 (start2 n now length)] (o_ hb0 (o_ hb1 (o_ (start2_eq n now length 0) o0))) ?_; kernel_rfl
    · refine run1 400 [.inl, .gd 6 true, .br false] (o_ hb0 (o_ hb1 o0)) ?_; kernel_rfl
  · refine run1 400 [.inl, .gd 6 false, .lit] (o_ hb0 o0) ?_; kernel_rfl
theorem waitFor2_eq (n : Nd) (now : Int) (length : Int) (i : Nat) : AOn Tryz.prog 106 [.pointer (some ⟨i, 0, none⟩), .int .i64 2, .int .i64 now, .int .i64 length] [(i, .cells (Nd.enc n) 44 37)] (.tuple ⟨[]⟩) [(i, .cells (Nd.enc (waitFor2 n now length)) 44 37)] :=
  AEq.on1 (waitFor2_0 n now length) i rfl rfl rfl rfl
def waitFor2_S (n : Nd) (now : Int) (length : Int) (r : Nd) : Prop := Same n r
theorem waitFor2_same (n : Nd) (now : Int) (length : Int) : waitFor2_S n now length (waitFor2 n now length) := by
  unfold waitFor2
  refine byIte (fun _ => ?_) (fun _ => ?_)
  exact ((Same.refl n).trans (start2_same n now length))
  exact (Same.refl n)

def homeFar_x0 (n : Nd) : Nd := silence ({ (openSound n) with shut := { ((openSound n).shut) with w := true } })
def homeFar_x1 (n : Nd) : Nd := silence ({ (openSound n) with shut := { ((openSound n).shut) with e := true } })
def homeFar (n : Nd) : Nd :=
  bif n.role == 2 then
    bif n.rpl == 0 then
      (homeFar_x0 n)
    else
      (homeFar_x1 n)
  else
    (silence (openSound n))
def homeFar_c (i : Nat) (r : Nd) : Dir := .callL (.tuple ⟨[]⟩) [(i, .cells (Nd.enc r) 44 37)]
def homeFar_G (n : Nd) (r : Nd) : Prop := AEq Tryz.prog 107 [.pointer (some ⟨0, 0, none⟩)] [.cells (Nd.enc n) 44 37] (.tuple ⟨[]⟩) [.cells (Nd.enc r) 44 37]
theorem homeFar_0 (n : Nd) (hr : n.role = 2 → n.rpl = 0 ∨ n.rpl = 1) : homeFar_G n (homeFar n) := by
  unfold homeFar
  apply bi <;> intro hb0
  · apply bi <;> intro hb1
    · refine run1 400 [openSound_c 0 (openSound n), .is 7 (.int .i64 n.role), .br true, .is 13 (.int .i64 0), silence_c 0 (homeFar_x0 n)] (o_ (openSound_eq n 0) (o_ (iis .i64 (((Same.refl n).trans (openSound_same n)).2.1)) (o_ hb0 (o_ ((iis .i64 (((Same.refl n).trans (openSound_same n)).2.2.1)).trans (ieq .i64 hb1)) (o_ (silence_eq ({ (openSound n) with shut := { ((openSound n).shut) with w := true } }) 0) o0))))) ?_; kernel_rfl
    · refine byNotF (n.rpl == 1) (fun hb2 => ?_) (fun hb2 => ?_)
      · refine run1 400 [openSound_c 0 (openSound n), .is 7 (.int .i64 n.role), .br true, .is 13 (.int .i64 1), silence_c 0 (homeFar_x1 n)] (o_ (openSound_eq n 0) (o_ (iis .i64 (((Same.refl n).trans (openSound_same n)).2.1)) (o_ hb0 (o_ ((iis .i64 (((Same.refl n).trans (openSound_same n)).2.2.1)).trans (ieq .i64 hb2)) (o_ (silence_eq ({ (openSound n) with shut := { ((openSound n).shut) with e := true } }) 0) o0))))) ?_; kernel_rfl
      · exfalso; first | omega | (simp only [zor, zand, zorf, zandf, znt, znf, zeq, zne, zeqf, znef, zd, zdf] at *; omega)
  · refine run1 400 [openSound_c 0 (openSound n), .is 7 (.int .i64 n.role), .br false, silence_c 0 (silence (openSound n))] (o_ (openSound_eq n 0) (o_ (iis .i64 (((Same.refl n).trans (openSound_same n)).2.1)) (o_ hb0 (o_ (silence_eq (openSound n) 0) o0)))) ?_; kernel_rfl
theorem homeFar_eq (n : Nd) (hr : n.role = 2 → n.rpl = 0 ∨ n.rpl = 1) (i : Nat) : AOn Tryz.prog 107 [.pointer (some ⟨i, 0, none⟩)] [(i, .cells (Nd.enc n) 44 37)] (.tuple ⟨[]⟩) [(i, .cells (Nd.enc (homeFar n)) 44 37)] :=
  AEq.on1 (homeFar_0 n hr) i rfl rfl rfl rfl
def homeFar_S (n : Nd) (r : Nd) : Prop := Same n r
theorem homeFar_same (n : Nd) : homeFar_S n (homeFar n) := by
  unfold homeFar
  refine byIte (fun _ => ?_) (fun _ => ?_)
  refine byIte (fun _ => ?_) (fun _ => ?_)
  exact (((Same.refl n).trans (openSound_same n)).trans (silence_same ({ (openSound n) with shut := { ((openSound n).shut) with w := true } })))
  exact (((Same.refl n).trans (openSound_same n)).trans (silence_same ({ (openSound n) with shut := { ((openSound n).shut) with e := true } })))
  exact (((Same.refl n).trans (openSound_same n)).trans (silence_same (openSound n)))

end Go.Proofs.E17

namespace Go.Proofs.E17
open Go Go.AX Go.Proofs
set_option maxRecDepth 1000000
set_option linter.unusedVariables false
set_option linter.unusedSimpArgs false

def chartBuild_V : Value := .pointer (some ⟨0, 0, none⟩)
def chartBuild_H : AHeap := [.cells [.slice none 0 0, .int .i64 0, .slice none 0 0, .int .i64 0, .slice (some ⟨1, 0, none⟩) 2 2, .int .i64 3, .slice (some ⟨1, 0, none⟩) 2 2, .int .i64 3, .slice (some ⟨2, 0, none⟩) 3 3, .int .i64 3, .slice (some ⟨2, 0, none⟩) 3 3, .int .i64 3, .slice (some ⟨3, 0, none⟩) 2 2, .int .i64 1, .slice (some ⟨3, 0, none⟩) 2 2, .int .i64 1, .slice none 0 0, .int .i64 0, .slice none 0 0, .int .i64 0, .slice (some ⟨5, 0, none⟩) 3 3, .int .i64 1, .slice (some ⟨5, 0, none⟩) 3 3, .int .i64 1, .slice (some ⟨6, 0, none⟩) 3 3, .int .i64 2, .slice (some ⟨6, 0, none⟩) 3 3, .int .i64 2, .slice (some ⟨9, 0, none⟩) 2 2, .int .i64 2, .slice (some ⟨9, 0, none⟩) 2 2, .int .i64 2, .slice none 0 0, .int .i64 0, .slice none 0 0, .int .i64 0, .slice none 0 0, .int .i64 0, .slice none 0 0, .int .i64 0, .slice none 0 0, .int .i64 0, .slice none 0 0, .int .i64 0, .slice none 0 0, .int .i64 0, .slice none 0 0, .int .i64 0, .slice (some ⟨14, 0, none⟩) 1 1, .int .i64 0, .slice none 0 0, .int .i64 0, .slice (some ⟨15, 0, none⟩) 1 1, .int .i64 0, .slice (some ⟨15, 0, none⟩) 1 1, .int .i64 0, .slice none 0 0, .int .i64 1, .slice none 0 0, .int .i64 1, .slice (some ⟨1, 0, none⟩) 2 2, .int .i64 3, .slice (some ⟨1, 0, none⟩) 2 2, .int .i64 3, .slice (some ⟨2, 0, none⟩) 3 3, .int .i64 3, .slice (some ⟨2, 0, none⟩) 3 3, .int .i64 3, .slice (some ⟨3, 0, none⟩) 2 2, .int .i64 1, .slice (some ⟨3, 0, none⟩) 2 2, .int .i64 1, .slice (some ⟨4, 0, none⟩) 3 3, .int .i64 4, .slice (some ⟨4, 0, none⟩) 3 3, .int .i64 4, .slice (some ⟨5, 0, none⟩) 3 3, .int .i64 1, .slice (some ⟨5, 0, none⟩) 3 3, .int .i64 1, .slice none 0 0, .int .i64 1, .slice none 0 0, .int .i64 1, .slice none 0 0, .int .i64 1, .slice none 0 0, .int .i64 1, .slice none 0 0, .int .i64 1, .slice none 0 0, .int .i64 1, .slice none 0 0, .int .i64 1, .slice none 0 0, .int .i64 1, .slice none 0 0, .int .i64 1, .slice none 0 0, .int .i64 1, .slice none 0 0, .int .i64 1, .slice none 0 0, .int .i64 1, .slice (some ⟨14, 0, none⟩) 1 1, .int .i64 0, .slice none 0 0, .int .i64 1, .slice (some ⟨17, 0, none⟩) 1 1, .int .i64 4, .slice (some ⟨17, 0, none⟩) 1 1, .int .i64 4, .slice none 0 0, .int .i64 2, .slice (some ⟨10, 0, none⟩) 3 3, .int .i64 4, .slice (some ⟨1, 0, none⟩) 2 2, .int .i64 3, .slice (some ⟨1, 0, none⟩) 2 2, .int .i64 3, .slice (some ⟨2, 0, none⟩) 3 3, .int .i64 3, .slice (some ⟨2, 0, none⟩) 3 3, .int .i64 3, .slice (some ⟨3, 0, none⟩) 2 2, .int .i64 1, .slice (some ⟨3, 0, none⟩) 2 2, .int .i64 1, .slice none 0 0, .int .i64 2, .slice none 0 0, .int .i64 2, .slice (some ⟨5, 0, none⟩) 3 3, .int .i64 1, .slice (some ⟨5, 0, none⟩) 3 3, .int .i64 1, .slice (some ⟨8, 0, none⟩) 2 2, .int .i64 2, .slice (some ⟨7, 0, none⟩) 3 3, .int .i64 4, .slice none 0 0, .int .i64 2, .slice none 0 0, .int .i64 2, .slice none 0 0, .int .i64 2, .slice none 0 0, .int .i64 2, .slice none 0 0, .int .i64 2, .slice none 0 0, .int .i64 2, .slice none 0 0, .int .i64 2, .slice none 0 0, .int .i64 2, .slice none 0 0, .int .i64 2, .slice none 0 0, .int .i64 2, .slice (some ⟨14, 0, none⟩) 1 1, .int .i64 0, .slice none 0 0, .int .i64 2, .slice (some ⟨18, 0, none⟩) 1 1, .int .i64 4, .slice none 0 0, .int .i64 2, .slice none 0 0, .int .i64 3, .slice (some ⟨10, 0, none⟩) 3 3, .int .i64 4, .slice (some ⟨1, 0, none⟩) 2 2, .int .i64 3, .slice (some ⟨1, 0, none⟩) 2 2, .int .i64 3, .slice none 0 0, .int .i64 3, .slice none 0 0, .int .i64 3, .slice none 0 0, .int .i64 3, .slice none 0 0, .int .i64 3, .slice none 0 0, .int .i64 3, .slice none 0 0, .int .i64 3, .slice none 0 0, .int .i64 3, .slice none 0 0, .int .i64 3, .slice none 0 0, .int .i64 3, .slice none 0 0, .int .i64 3, .slice none 0 0, .int .i64 3, .slice none 0 0, .int .i64 3, .slice none 0 0, .int .i64 3, .slice none 0 0, .int .i64 3, .slice none 0 0, .int .i64 3, .slice none 0 0, .int .i64 3, .slice none 0 0, .int .i64 3, .slice none 0 0, .int .i64 3, .slice none 0 0, .int .i64 3, .slice none 0 0, .int .i64 3, .slice (some ⟨14, 0, none⟩) 1 1, .int .i64 0, .slice none 0 0, .int .i64 3, .slice (some ⟨18, 0, none⟩) 1 1, .int .i64 4, .slice none 0 0, .int .i64 3, .slice (some ⟨11, 0, none⟩) 2 2, .int .i64 0, .slice (some ⟨11, 0, none⟩) 2 2, .int .i64 0, .slice (some ⟨1, 0, none⟩) 2 2, .int .i64 3, .slice (some ⟨1, 0, none⟩) 2 2, .int .i64 3, .slice (some ⟨2, 0, none⟩) 3 3, .int .i64 3, .slice (some ⟨2, 0, none⟩) 3 3, .int .i64 3, .slice (some ⟨3, 0, none⟩) 2 2, .int .i64 1, .slice (some ⟨3, 0, none⟩) 2 2, .int .i64 1, .slice none 0 0, .int .i64 4, .slice none 0 0, .int .i64 4, .slice (some ⟨5, 0, none⟩) 3 3, .int .i64 1, .slice (some ⟨5, 0, none⟩) 3 3, .int .i64 1, .slice (some ⟨6, 0, none⟩) 3 3, .int .i64 2, .slice (some ⟨6, 0, none⟩) 3 3, .int .i64 2, .slice (some ⟨9, 0, none⟩) 2 2, .int .i64 2, .slice (some ⟨9, 0, none⟩) 2 2, .int .i64 2, .slice (some ⟨12, 0, none⟩) 2 2, .int .i64 0, .slice (some ⟨12, 0, none⟩) 2 2, .int .i64 0, .slice none 0 0, .int .i64 4, .slice none 0 0, .int .i64 4, .slice (some ⟨13, 0, none⟩) 2 2, .int .i64 0, .slice (some ⟨13, 0, none⟩) 2 2, .int .i64 0, .slice none 0 0, .int .i64 4, .slice none 0 0, .int .i64 4, .slice (some ⟨14, 0, none⟩) 1 1, .int .i64 0, .slice none 0 0, .int .i64 4, .slice (some ⟨16, 0, none⟩) 1 1, .int .i64 4, .slice (some ⟨16, 0, none⟩) 1 1, .int .i64 4] 196 280, .cells [.int .i64 0, .int .i64 9] 131 1, .cells [.int .i64 13, .int .i64 4, .int .i64 9] 131 1, .cells [.int .i64 1, .int .i64 9] 131 1, .cells [.int .i64 5, .int .i64 6, .int .i64 7] 131 1, .cells [.int .i64 3, .int .i64 4, .int .i64 9] 131 1, .cells [.int .i64 3, .int .i64 4, .int .i64 9] 131 1, .cells [.int .i64 5, .int .i64 6, .int .i64 8] 131 1, .cells [.int .i64 3, .int .i64 4] 131 1, .cells [.int .i64 2, .int .i64 9] 131 1, .cells [.int .i64 5, .int .i64 6, .int .i64 8] 131 1, .cells [.int .i64 10, .int .i64 9] 131 1, .cells [.int .i64 10, .int .i64 9] 131 1, .cells [.int .i64 10, .int .i64 9] 131 1, .cells [.int .i64 11] 131 1, .cells [.int .i64 12] 131 1, .cells [.int .i64 12] 131 1, .cells [.int .i64 7] 131 1, .cells [.int .i64 8] 131 1]
theorem chartBuild_eq : AOnN Tryz.prog 90 [] [] chartBuild_V [] chartBuild_H :=
  onN 400 (lits 291 (.inl :: lits 21 (.inl :: lits 17 (.inl :: lits 17 (.inl :: lits 5 (.inl :: lits 17 (.inl :: lits 9 (.inl :: lits 4 (.inl :: lits 4 (.inl :: lits 9 (.inl :: lits 8 (.inl :: lits 6 (.inl :: lits 6 (.inl :: lits 6 (.inl :: lits 16 (.inl :: lits 5 (.inl :: lits 5 (.inl :: lits 5 (.inl :: lits 7 []))))))))))))))))))) [0, 8, 9, 10, 12, 13, 14, 16, 18, 19, 20, 23, 25, 27, 28, 30, 32, 34, 35] o0 (by kernel_rfl) rfl (by kernel_rfl)

theorem look_0_0_0_eq : AOnN Tryz.prog 61 [.int .i64 0, .int .i64 0, .bool false] [] (.tuple ⟨[.slice none 0 0, .int .i64 0]⟩) [] [] :=
  onN 400 [.inl, .inl, .lit, .lit, .callN chartBuild_V [] chartBuild_H, .inl, .lit, .heap] [] (o_ chartBuild_eq (o_ (hsame (chartBuild_H ++ [.cells [.slice none 0 0, .int .i64 0] 164 2])) o0)) (by kernel_rfl) rfl (by kernel_rfl)

theorem look_0_0_1_eq : AOnN Tryz.prog 61 [.int .i64 0, .int .i64 0, .bool true] [] (.tuple ⟨[.slice none 0 0, .int .i64 0]⟩) [] [] :=
  onN 400 [.inl, .inl, .lit, .lit, .callN chartBuild_V [] chartBuild_H, .inl, .lit, .heap] [] (o_ chartBuild_eq (o_ (hsame (chartBuild_H ++ [.cells [.slice none 0 0, .int .i64 0] 164 2])) o0)) (by kernel_rfl) rfl (by kernel_rfl)

theorem look_0_1_0_eq : AOnN Tryz.prog 61 [.int .i64 0, .int .i64 1, .bool false] [] (.tuple ⟨[.slice (some ⟨0, 0, none⟩) 2 UNK, .int .i64 3]⟩) [] [.row [.int .i64 0, .int .i64 9] 131 1] :=
  onN 400 [.inl, .inl, .lit, .lit, .callN chartBuild_V [] chartBuild_H, .inl, .lit, .heap] [21] (o_ chartBuild_eq (o_ (hsame (chartBuild_H ++ [.cells [.slice (some ⟨1, 0, none⟩) 2 2, .int .i64 3] 164 2])) o0)) (by kernel_rfl) rfl (by kernel_rfl)

theorem look_0_1_1_eq : AOnN Tryz.prog 61 [.int .i64 0, .int .i64 1, .bool true] [] (.tuple ⟨[.slice (some ⟨0, 0, none⟩) 2 UNK, .int .i64 3]⟩) [] [.row [.int .i64 0, .int .i64 9] 131 1] :=
  onN 400 [.inl, .inl, .lit, .lit, .callN chartBuild_V [] chartBuild_H, .inl, .lit, .heap] [21] (o_ chartBuild_eq (o_ (hsame (chartBuild_H ++ [.cells [.slice (some ⟨1, 0, none⟩) 2 2, .int .i64 3] 164 2])) o0)) (by kernel_rfl) rfl (by kernel_rfl)

theorem look_0_2_0_eq : AOnN Tryz.prog 61 [.int .i64 0, .int .i64 2, .bool false] [] (.tuple ⟨[.slice (some ⟨0, 0, none⟩) 3 UNK, .int .i64 3]⟩) [] [.row [.int .i64 13, .int .i64 4, .int .i64 9] 131 1] :=
  onN 400 [.inl, .inl, .lit, .lit, .callN chartBuild_V [] chartBuild_H, .inl, .lit, .heap] [21] (o_ chartBuild_eq (o_ (hsame (chartBuild_H ++ [.cells [.slice (some ⟨2, 0, none⟩) 3 3, .int .i64 3] 164 2])) o0)) (by kernel_rfl) rfl (by kernel_rfl)

theorem look_0_2_1_eq : AOnN Tryz.prog 61 [.int .i64 0, .int .i64 2, .bool true] [] (.tuple ⟨[.slice (some ⟨0, 0, none⟩) 3 UNK, .int .i64 3]⟩) [] [.row [.int .i64 13, .int .i64 4, .int .i64 9] 131 1] :=
  onN 400 [.inl, .inl, .lit, .lit, .callN chartBuild_V [] chartBuild_H, .inl, .lit, .heap] [21] (o_ chartBuild_eq (o_ (hsame (chartBuild_H ++ [.cells [.slice (some ⟨2, 0, none⟩) 3 3, .int .i64 3] 164 2])) o0)) (by kernel_rfl) rfl (by kernel_rfl)

theorem look_0_3_0_eq : AOnN Tryz.prog 61 [.int .i64 0, .int .i64 3, .bool false] [] (.tuple ⟨[.slice (some ⟨0, 0, none⟩) 2 UNK, .int .i64 1]⟩) [] [.row [.int .i64 1, .int .i64 9] 131 1] :=
  onN 400 [.inl, .inl, .lit, .lit, .callN chartBuild_V [] chartBuild_H, .inl, .lit, .heap] [21] (o_ chartBuild_eq (o_ (hsame (chartBuild_H ++ [.cells [.slice (some ⟨3, 0, none⟩) 2 2, .int .i64 1] 164 2])) o0)) (by kernel_rfl) rfl (by kernel_rfl)

theorem look_0_3_1_eq : AOnN Tryz.prog 61 [.int .i64 0, .int .i64 3, .bool true] [] (.tuple ⟨[.slice (some ⟨0, 0, none⟩) 2 UNK, .int .i64 1]⟩) [] [.row [.int .i64 1, .int .i64 9] 131 1] :=
  onN 400 [.inl, .inl, .lit, .lit, .callN chartBuild_V [] chartBuild_H, .inl, .lit, .heap] [21] (o_ chartBuild_eq (o_ (hsame (chartBuild_H ++ [.cells [.slice (some ⟨3, 0, none⟩) 2 2, .int .i64 1] 164 2])) o0)) (by kernel_rfl) rfl (by kernel_rfl)

theorem look_0_4_0_eq : AOnN Tryz.prog 61 [.int .i64 0, .int .i64 4, .bool false] [] (.tuple ⟨[.slice none 0 0, .int .i64 0]⟩) [] [] :=
  onN 400 [.inl, .inl, .lit, .lit, .callN chartBuild_V [] chartBuild_H, .inl, .lit, .heap] [] (o_ chartBuild_eq (o_ (hsame (chartBuild_H ++ [.cells [.slice none 0 0, .int .i64 0] 164 2])) o0)) (by kernel_rfl) rfl (by kernel_rfl)

theorem look_0_4_1_eq : AOnN Tryz.prog 61 [.int .i64 0, .int .i64 4, .bool true] [] (.tuple ⟨[.slice none 0 0, .int .i64 0]⟩) [] [] :=
  onN 400 [.inl, .inl, .lit, .lit, .callN chartBuild_V [] chartBuild_H, .inl, .lit, .heap] [] (o_ chartBuild_eq (o_ (hsame (chartBuild_H ++ [.cells [.slice none 0 0, .int .i64 0] 164 2])) o0)) (by kernel_rfl) rfl (by kernel_rfl)

theorem look_0_5_0_eq : AOnN Tryz.prog 61 [.int .i64 0, .int .i64 5, .bool false] [] (.tuple ⟨[.slice (some ⟨0, 0, none⟩) 3 UNK, .int .i64 1]⟩) [] [.row [.int .i64 3, .int .i64 4, .int .i64 9] 131 1] :=
  onN 400 [.inl, .inl, .lit, .lit, .callN chartBuild_V [] chartBuild_H, .inl, .lit, .heap] [21] (o_ chartBuild_eq (o_ (hsame (chartBuild_H ++ [.cells [.slice (some ⟨5, 0, none⟩) 3 3, .int .i64 1] 164 2])) o0)) (by kernel_rfl) rfl (by kernel_rfl)

theorem look_0_5_1_eq : AOnN Tryz.prog 61 [.int .i64 0, .int .i64 5, .bool true] [] (.tuple ⟨[.slice (some ⟨0, 0, none⟩) 3 UNK, .int .i64 1]⟩) [] [.row [.int .i64 3, .int .i64 4, .int .i64 9] 131 1] :=
  onN 400 [.inl, .inl, .lit, .lit, .callN chartBuild_V [] chartBuild_H, .inl, .lit, .heap] [21] (o_ chartBuild_eq (o_ (hsame (chartBuild_H ++ [.cells [.slice (some ⟨5, 0, none⟩) 3 3, .int .i64 1] 164 2])) o0)) (by kernel_rfl) rfl (by kernel_rfl)

theorem look_0_6_0_eq : AOnN Tryz.prog 61 [.int .i64 0, .int .i64 6, .bool false] [] (.tuple ⟨[.slice (some ⟨0, 0, none⟩) 3 UNK, .int .i64 2]⟩) [] [.row [.int .i64 3, .int .i64 4, .int .i64 9] 131 1] :=
  onN 400 [.inl, .inl, .lit, .lit, .callN chartBuild_V [] chartBuild_H, .inl, .lit, .heap] [21] (o_ chartBuild_eq (o_ (hsame (chartBuild_H ++ [.cells [.slice (some ⟨6, 0, none⟩) 3 3, .int .i64 2] 164 2])) o0)) (by kernel_rfl) rfl (by kernel_rfl)

theorem look_0_6_1_eq : AOnN Tryz.prog 61 [.int .i64 0, .int .i64 6, .bool true] [] (.tuple ⟨[.slice (some ⟨0, 0, none⟩) 3 UNK, .int .i64 2]⟩) [] [.row [.int .i64 3, .int .i64 4, .int .i64 9] 131 1] :=
  onN 400 [.inl, .inl, .lit, .lit, .callN chartBuild_V [] chartBuild_H, .inl, .lit, .heap] [21] (o_ chartBuild_eq (o_ (hsame (chartBuild_H ++ [.cells [.slice (some ⟨6, 0, none⟩) 3 3, .int .i64 2] 164 2])) o0)) (by kernel_rfl) rfl (by kernel_rfl)

theorem look_0_7_0_eq : AOnN Tryz.prog 61 [.int .i64 0, .int .i64 7, .bool false] [] (.tuple ⟨[.slice (some ⟨0, 0, none⟩) 2 UNK, .int .i64 2]⟩) [] [.row [.int .i64 2, .int .i64 9] 131 1] :=
  onN 400 [.inl, .inl, .lit, .lit, .callN chartBuild_V [] chartBuild_H, .inl, .lit, .heap] [21] (o_ chartBuild_eq (o_ (hsame (chartBuild_H ++ [.cells [.slice (some ⟨9, 0, none⟩) 2 2, .int .i64 2] 164 2])) o0)) (by kernel_rfl) rfl (by kernel_rfl)

theorem look_0_7_1_eq : AOnN Tryz.prog 61 [.int .i64 0, .int .i64 7, .bool true] [] (.tuple ⟨[.slice (some ⟨0, 0, none⟩) 2 UNK, .int .i64 2]⟩) [] [.row [.int .i64 2, .int .i64 9] 131 1] :=
  onN 400 [.inl, .inl, .lit, .lit, .callN chartBuild_V [] chartBuild_H, .inl, .lit, .heap] [21] (o_ chartBuild_eq (o_ (hsame (chartBuild_H ++ [.cells [.slice (some ⟨9, 0, none⟩) 2 2, .int .i64 2] 164 2])) o0)) (by kernel_rfl) rfl (by kernel_rfl)

theorem look_0_8_0_eq : AOnN Tryz.prog 61 [.int .i64 0, .int .i64 8, .bool false] [] (.tuple ⟨[.slice none 0 0, .int .i64 0]⟩) [] [] :=
  onN 400 [.inl, .inl, .lit, .lit, .callN chartBuild_V [] chartBuild_H, .inl, .lit, .heap] [] (o_ chartBuild_eq (o_ (hsame (chartBuild_H ++ [.cells [.slice none 0 0, .int .i64 0] 164 2])) o0)) (by kernel_rfl) rfl (by kernel_rfl)

theorem look_0_8_1_eq : AOnN Tryz.prog 61 [.int .i64 0, .int .i64 8, .bool true] [] (.tuple ⟨[.slice none 0 0, .int .i64 0]⟩) [] [] :=
  onN 400 [.inl, .inl, .lit, .lit, .callN chartBuild_V [] chartBuild_H, .inl, .lit, .heap] [] (o_ chartBuild_eq (o_ (hsame (chartBuild_H ++ [.cells [.slice none 0 0, .int .i64 0] 164 2])) o0)) (by kernel_rfl) rfl (by kernel_rfl)

theorem look_0_9_0_eq : AOnN Tryz.prog 61 [.int .i64 0, .int .i64 9, .bool false] [] (.tuple ⟨[.slice none 0 0, .int .i64 0]⟩) [] [] :=
  onN 400 [.inl, .inl, .lit, .lit, .callN chartBuild_V [] chartBuild_H, .inl, .lit, .heap] [] (o_ chartBuild_eq (o_ (hsame (chartBuild_H ++ [.cells [.slice none 0 0, .int .i64 0] 164 2])) o0)) (by kernel_rfl) rfl (by kernel_rfl)

theorem look_0_9_1_eq : AOnN Tryz.prog 61 [.int .i64 0, .int .i64 9, .bool true] [] (.tuple ⟨[.slice none 0 0, .int .i64 0]⟩) [] [] :=
  onN 400 [.inl, .inl, .lit, .lit, .callN chartBuild_V [] chartBuild_H, .inl, .lit, .heap] [] (o_ chartBuild_eq (o_ (hsame (chartBuild_H ++ [.cells [.slice none 0 0, .int .i64 0] 164 2])) o0)) (by kernel_rfl) rfl (by kernel_rfl)

theorem look_0_10_0_eq : AOnN Tryz.prog 61 [.int .i64 0, .int .i64 10, .bool false] [] (.tuple ⟨[.slice none 0 0, .int .i64 0]⟩) [] [] :=
  onN 400 [.inl, .inl, .lit, .lit, .callN chartBuild_V [] chartBuild_H, .inl, .lit, .heap] [] (o_ chartBuild_eq (o_ (hsame (chartBuild_H ++ [.cells [.slice none 0 0, .int .i64 0] 164 2])) o0)) (by kernel_rfl) rfl (by kernel_rfl)

theorem look_0_10_1_eq : AOnN Tryz.prog 61 [.int .i64 0, .int .i64 10, .bool true] [] (.tuple ⟨[.slice none 0 0, .int .i64 0]⟩) [] [] :=
  onN 400 [.inl, .inl, .lit, .lit, .callN chartBuild_V [] chartBuild_H, .inl, .lit, .heap] [] (o_ chartBuild_eq (o_ (hsame (chartBuild_H ++ [.cells [.slice none 0 0, .int .i64 0] 164 2])) o0)) (by kernel_rfl) rfl (by kernel_rfl)

theorem look_0_11_0_eq : AOnN Tryz.prog 61 [.int .i64 0, .int .i64 11, .bool false] [] (.tuple ⟨[.slice none 0 0, .int .i64 0]⟩) [] [] :=
  onN 400 [.inl, .inl, .lit, .lit, .callN chartBuild_V [] chartBuild_H, .inl, .lit, .heap] [] (o_ chartBuild_eq (o_ (hsame (chartBuild_H ++ [.cells [.slice none 0 0, .int .i64 0] 164 2])) o0)) (by kernel_rfl) rfl (by kernel_rfl)

theorem look_0_11_1_eq : AOnN Tryz.prog 61 [.int .i64 0, .int .i64 11, .bool true] [] (.tuple ⟨[.slice none 0 0, .int .i64 0]⟩) [] [] :=
  onN 400 [.inl, .inl, .lit, .lit, .callN chartBuild_V [] chartBuild_H, .inl, .lit, .heap] [] (o_ chartBuild_eq (o_ (hsame (chartBuild_H ++ [.cells [.slice none 0 0, .int .i64 0] 164 2])) o0)) (by kernel_rfl) rfl (by kernel_rfl)

theorem look_0_12_0_eq : AOnN Tryz.prog 61 [.int .i64 0, .int .i64 12, .bool false] [] (.tuple ⟨[.slice (some ⟨0, 0, none⟩) 1 UNK, .int .i64 0]⟩) [] [.row [.int .i64 11] 131 1] :=
  onN 400 [.inl, .inl, .lit, .lit, .callN chartBuild_V [] chartBuild_H, .inl, .lit, .heap] [21] (o_ chartBuild_eq (o_ (hsame (chartBuild_H ++ [.cells [.slice (some ⟨14, 0, none⟩) 1 1, .int .i64 0] 164 2])) o0)) (by kernel_rfl) rfl (by kernel_rfl)

theorem look_0_12_1_eq : AOnN Tryz.prog 61 [.int .i64 0, .int .i64 12, .bool true] [] (.tuple ⟨[.slice none 0 0, .int .i64 0]⟩) [] [] :=
  onN 400 [.inl, .inl, .lit, .lit, .callN chartBuild_V [] chartBuild_H, .inl, .lit, .heap] [] (o_ chartBuild_eq (o_ (hsame (chartBuild_H ++ [.cells [.slice none 0 0, .int .i64 0] 164 2])) o0)) (by kernel_rfl) rfl (by kernel_rfl)

theorem look_0_13_0_eq : AOnN Tryz.prog 61 [.int .i64 0, .int .i64 13, .bool false] [] (.tuple ⟨[.slice (some ⟨0, 0, none⟩) 1 UNK, .int .i64 0]⟩) [] [.row [.int .i64 12] 131 1] :=
  onN 400 [.inl, .inl, .lit, .lit, .callN chartBuild_V [] chartBuild_H, .inl, .lit, .heap] [21] (o_ chartBuild_eq (o_ (hsame (chartBuild_H ++ [.cells [.slice (some ⟨15, 0, none⟩) 1 1, .int .i64 0] 164 2])) o0)) (by kernel_rfl) rfl (by kernel_rfl)

theorem look_0_13_1_eq : AOnN Tryz.prog 61 [.int .i64 0, .int .i64 13, .bool true] [] (.tuple ⟨[.slice (some ⟨0, 0, none⟩) 1 UNK, .int .i64 0]⟩) [] [.row [.int .i64 12] 131 1] :=
  onN 400 [.inl, .inl, .lit, .lit, .callN chartBuild_V [] chartBuild_H, .inl, .lit, .heap] [21] (o_ chartBuild_eq (o_ (hsame (chartBuild_H ++ [.cells [.slice (some ⟨15, 0, none⟩) 1 1, .int .i64 0] 164 2])) o0)) (by kernel_rfl) rfl (by kernel_rfl)

theorem look_1_0_0_eq : AOnN Tryz.prog 61 [.int .i64 1, .int .i64 0, .bool false] [] (.tuple ⟨[.slice none 0 0, .int .i64 1]⟩) [] [] :=
  onN 400 [.inl, .inl, .lit, .lit, .callN chartBuild_V [] chartBuild_H, .inl, .lit, .heap] [] (o_ chartBuild_eq (o_ (hsame (chartBuild_H ++ [.cells [.slice none 0 0, .int .i64 1] 164 2])) o0)) (by kernel_rfl) rfl (by kernel_rfl)

theorem look_1_0_1_eq : AOnN Tryz.prog 61 [.int .i64 1, .int .i64 0, .bool true] [] (.tuple ⟨[.slice none 0 0, .int .i64 1]⟩) [] [] :=
  onN 400 [.inl, .inl, .lit, .lit, .callN chartBuild_V [] chartBuild_H, .inl, .lit, .heap] [] (o_ chartBuild_eq (o_ (hsame (chartBuild_H ++ [.cells [.slice none 0 0, .int .i64 1] 164 2])) o0)) (by kernel_rfl) rfl (by kernel_rfl)

theorem look_1_1_0_eq : AOnN Tryz.prog 61 [.int .i64 1, .int .i64 1, .bool false] [] (.tuple ⟨[.slice (some ⟨0, 0, none⟩) 2 UNK, .int .i64 3]⟩) [] [.row [.int .i64 0, .int .i64 9] 131 1] :=
  onN 400 [.inl, .inl, .lit, .lit, .callN chartBuild_V [] chartBuild_H, .inl, .lit, .heap] [21] (o_ chartBuild_eq (o_ (hsame (chartBuild_H ++ [.cells [.slice (some ⟨1, 0, none⟩) 2 2, .int .i64 3] 164 2])) o0)) (by kernel_rfl) rfl (by kernel_rfl)

theorem look_1_1_1_eq : AOnN Tryz.prog 61 [.int .i64 1, .int .i64 1, .bool true] [] (.tuple ⟨[.slice (some ⟨0, 0, none⟩) 2 UNK, .int .i64 3]⟩) [] [.row [.int .i64 0, .int .i64 9] 131 1] :=
  onN 400 [.inl, .inl, .lit, .lit, .callN chartBuild_V [] chartBuild_H, .inl, .lit, .heap] [21] (o_ chartBuild_eq (o_ (hsame (chartBuild_H ++ [.cells [.slice (some ⟨1, 0, none⟩) 2 2, .int .i64 3] 164 2])) o0)) (by kernel_rfl) rfl (by kernel_rfl)

theorem look_1_2_0_eq : AOnN Tryz.prog 61 [.int .i64 1, .int .i64 2, .bool false] [] (.tuple ⟨[.slice (some ⟨0, 0, none⟩) 3 UNK, .int .i64 3]⟩) [] [.row [.int .i64 13, .int .i64 4, .int .i64 9] 131 1] :=
  onN 400 [.inl, .inl, .lit, .lit, .callN chartBuild_V [] chartBuild_H, .inl, .lit, .heap] [21] (o_ chartBuild_eq (o_ (hsame (chartBuild_H ++ [.cells [.slice (some ⟨2, 0, none⟩) 3 3, .int .i64 3] 164 2])) o0)) (by kernel_rfl) rfl (by kernel_rfl)

theorem look_1_2_1_eq : AOnN Tryz.prog 61 [.int .i64 1, .int .i64 2, .bool true] [] (.tuple ⟨[.slice (some ⟨0, 0, none⟩) 3 UNK, .int .i64 3]⟩) [] [.row [.int .i64 13, .int .i64 4, .int .i64 9] 131 1] :=
  onN 400 [.inl, .inl, .lit, .lit, .callN chartBuild_V [] chartBuild_H, .inl, .lit, .heap] [21] (o_ chartBuild_eq (o_ (hsame (chartBuild_H ++ [.cells [.slice (some ⟨2, 0, none⟩) 3 3, .int .i64 3] 164 2])) o0)) (by kernel_rfl) rfl (by kernel_rfl)

theorem look_1_3_0_eq : AOnN Tryz.prog 61 [.int .i64 1, .int .i64 3, .bool false] [] (.tuple ⟨[.slice (some ⟨0, 0, none⟩) 2 UNK, .int .i64 1]⟩) [] [.row [.int .i64 1, .int .i64 9] 131 1] :=
  onN 400 [.inl, .inl, .lit, .lit, .callN chartBuild_V [] chartBuild_H, .inl, .lit, .heap] [21] (o_ chartBuild_eq (o_ (hsame (chartBuild_H ++ [.cells [.slice (some ⟨3, 0, none⟩) 2 2, .int .i64 1] 164 2])) o0)) (by kernel_rfl) rfl (by kernel_rfl)

theorem look_1_3_1_eq : AOnN Tryz.prog 61 [.int .i64 1, .int .i64 3, .bool true] [] (.tuple ⟨[.slice (some ⟨0, 0, none⟩) 2 UNK, .int .i64 1]⟩) [] [.row [.int .i64 1, .int .i64 9] 131 1] :=
  onN 400 [.inl, .inl, .lit, .lit, .callN chartBuild_V [] chartBuild_H, .inl, .lit, .heap] [21] (o_ chartBuild_eq (o_ (hsame (chartBuild_H ++ [.cells [.slice (some ⟨3, 0, none⟩) 2 2, .int .i64 1] 164 2])) o0)) (by kernel_rfl) rfl (by kernel_rfl)

theorem look_1_4_0_eq : AOnN Tryz.prog 61 [.int .i64 1, .int .i64 4, .bool false] [] (.tuple ⟨[.slice (some ⟨0, 0, none⟩) 3 UNK, .int .i64 4]⟩) [] [.row [.int .i64 5, .int .i64 6, .int .i64 7] 131 1] :=
  onN 400 [.inl, .inl, .lit, .lit, .callN chartBuild_V [] chartBuild_H, .inl, .lit, .heap] [21] (o_ chartBuild_eq (o_ (hsame (chartBuild_H ++ [.cells [.slice (some ⟨4, 0, none⟩) 3 3, .int .i64 4] 164 2])) o0)) (by kernel_rfl) rfl (by kernel_rfl)

theorem look_1_4_1_eq : AOnN Tryz.prog 61 [.int .i64 1, .int .i64 4, .bool true] [] (.tuple ⟨[.slice (some ⟨0, 0, none⟩) 3 UNK, .int .i64 4]⟩) [] [.row [.int .i64 5, .int .i64 6, .int .i64 7] 131 1] :=
  onN 400 [.inl, .inl, .lit, .lit, .callN chartBuild_V [] chartBuild_H, .inl, .lit, .heap] [21] (o_ chartBuild_eq (o_ (hsame (chartBuild_H ++ [.cells [.slice (some ⟨4, 0, none⟩) 3 3, .int .i64 4] 164 2])) o0)) (by kernel_rfl) rfl (by kernel_rfl)

theorem look_1_5_0_eq : AOnN Tryz.prog 61 [.int .i64 1, .int .i64 5, .bool false] [] (.tuple ⟨[.slice (some ⟨0, 0, none⟩) 3 UNK, .int .i64 1]⟩) [] [.row [.int .i64 3, .int .i64 4, .int .i64 9] 131 1] :=
  onN 400 [.inl, .inl, .lit, .lit, .callN chartBuild_V [] chartBuild_H, .inl, .lit, .heap] [21] (o_ chartBuild_eq (o_ (hsame (chartBuild_H ++ [.cells [.slice (some ⟨5, 0, none⟩) 3 3, .int .i64 1] 164 2])) o0)) (by kernel_rfl) rfl (by kernel_rfl)

theorem look_1_5_1_eq : AOnN Tryz.prog 61 [.int .i64 1, .int .i64 5, .bool true] [] (.tuple ⟨[.slice (some ⟨0, 0, none⟩) 3 UNK, .int .i64 1]⟩) [] [.row [.int .i64 3, .int .i64 4, .int .i64 9] 131 1] :=
  onN 400 [.inl, .inl, .lit, .lit, .callN chartBuild_V [] chartBuild_H, .inl, .lit, .heap] [21] (o_ chartBuild_eq (o_ (hsame (chartBuild_H ++ [.cells [.slice (some ⟨5, 0, none⟩) 3 3, .int .i64 1] 164 2])) o0)) (by kernel_rfl) rfl (by kernel_rfl)

theorem look_1_6_0_eq : AOnN Tryz.prog 61 [.int .i64 1, .int .i64 6, .bool false] [] (.tuple ⟨[.slice none 0 0, .int .i64 1]⟩) [] [] :=
  onN 400 [.inl, .inl, .lit, .lit, .callN chartBuild_V [] chartBuild_H, .inl, .lit, .heap] [] (o_ chartBuild_eq (o_ (hsame (chartBuild_H ++ [.cells [.slice none 0 0, .int .i64 1] 164 2])) o0)) (by kernel_rfl) rfl (by kernel_rfl)

theorem look_1_6_1_eq : AOnN Tryz.prog 61 [.int .i64 1, .int .i64 6, .bool true] [] (.tuple ⟨[.slice none 0 0, .int .i64 1]⟩) [] [] :=
  onN 400 [.inl, .inl, .lit, .lit, .callN chartBuild_V [] chartBuild_H, .inl, .lit, .heap] [] (o_ chartBuild_eq (o_ (hsame (chartBuild_H ++ [.cells [.slice none 0 0, .int .i64 1] 164 2])) o0)) (by kernel_rfl) rfl (by kernel_rfl)

theorem look_1_7_0_eq : AOnN Tryz.prog 61 [.int .i64 1, .int .i64 7, .bool false] [] (.tuple ⟨[.slice none 0 0, .int .i64 1]⟩) [] [] :=
  onN 400 [.inl, .inl, .lit, .lit, .callN chartBuild_V [] chartBuild_H, .inl, .lit, .heap] [] (o_ chartBuild_eq (o_ (hsame (chartBuild_H ++ [.cells [.slice none 0 0, .int .i64 1] 164 2])) o0)) (by kernel_rfl) rfl (by kernel_rfl)

theorem look_1_7_1_eq : AOnN Tryz.prog 61 [.int .i64 1, .int .i64 7, .bool true] [] (.tuple ⟨[.slice none 0 0, .int .i64 1]⟩) [] [] :=
  onN 400 [.inl, .inl, .lit, .lit, .callN chartBuild_V [] chartBuild_H, .inl, .lit, .heap] [] (o_ chartBuild_eq (o_ (hsame (chartBuild_H ++ [.cells [.slice none 0 0, .int .i64 1] 164 2])) o0)) (by kernel_rfl) rfl (by kernel_rfl)

theorem look_1_8_0_eq : AOnN Tryz.prog 61 [.int .i64 1, .int .i64 8, .bool false] [] (.tuple ⟨[.slice none 0 0, .int .i64 1]⟩) [] [] :=
  onN 400 [.inl, .inl, .lit, .lit, .callN chartBuild_V [] chartBuild_H, .inl, .lit, .heap] [] (o_ chartBuild_eq (o_ (hsame (chartBuild_H ++ [.cells [.slice none 0 0, .int .i64 1] 164 2])) o0)) (by kernel_rfl) rfl (by kernel_rfl)

theorem look_1_8_1_eq : AOnN Tryz.prog 61 [.int .i64 1, .int .i64 8, .bool true] [] (.tuple ⟨[.slice none 0 0, .int .i64 1]⟩) [] [] :=
  onN 400 [.inl, .inl, .lit, .lit, .callN chartBuild_V [] chartBuild_H, .inl, .lit, .heap] [] (o_ chartBuild_eq (o_ (hsame (chartBuild_H ++ [.cells [.slice none 0 0, .int .i64 1] 164 2])) o0)) (by kernel_rfl) rfl (by kernel_rfl)

theorem look_1_9_0_eq : AOnN Tryz.prog 61 [.int .i64 1, .int .i64 9, .bool false] [] (.tuple ⟨[.slice none 0 0, .int .i64 1]⟩) [] [] :=
  onN 400 [.inl, .inl, .lit, .lit, .callN chartBuild_V [] chartBuild_H, .inl, .lit, .heap] [] (o_ chartBuild_eq (o_ (hsame (chartBuild_H ++ [.cells [.slice none 0 0, .int .i64 1] 164 2])) o0)) (by kernel_rfl) rfl (by kernel_rfl)

theorem look_1_9_1_eq : AOnN Tryz.prog 61 [.int .i64 1, .int .i64 9, .bool true] [] (.tuple ⟨[.slice none 0 0, .int .i64 1]⟩) [] [] :=
  onN 400 [.inl, .inl, .lit, .lit, .callN chartBuild_V [] chartBuild_H, .inl, .lit, .heap] [] (o_ chartBuild_eq (o_ (hsame (chartBuild_H ++ [.cells [.slice none 0 0, .int .i64 1] 164 2])) o0)) (by kernel_rfl) rfl (by kernel_rfl)

theorem look_1_10_0_eq : AOnN Tryz.prog 61 [.int .i64 1, .int .i64 10, .bool false] [] (.tuple ⟨[.slice none 0 0, .int .i64 1]⟩) [] [] :=
  onN 400 [.inl, .inl, .lit, .lit, .callN chartBuild_V [] chartBuild_H, .inl, .lit, .heap] [] (o_ chartBuild_eq (o_ (hsame (chartBuild_H ++ [.cells [.slice none 0 0, .int .i64 1] 164 2])) o0)) (by kernel_rfl) rfl (by kernel_rfl)

theorem look_1_10_1_eq : AOnN Tryz.prog 61 [.int .i64 1, .int .i64 10, .bool true] [] (.tuple ⟨[.slice none 0 0, .int .i64 1]⟩) [] [] :=
  onN 400 [.inl, .inl, .lit, .lit, .callN chartBuild_V [] chartBuild_H, .inl, .lit, .heap] [] (o_ chartBuild_eq (o_ (hsame (chartBuild_H ++ [.cells [.slice none 0 0, .int .i64 1] 164 2])) o0)) (by kernel_rfl) rfl (by kernel_rfl)

theorem look_1_11_0_eq : AOnN Tryz.prog 61 [.int .i64 1, .int .i64 11, .bool false] [] (.tuple ⟨[.slice none 0 0, .int .i64 1]⟩) [] [] :=
  onN 400 [.inl, .inl, .lit, .lit, .callN chartBuild_V [] chartBuild_H, .inl, .lit, .heap] [] (o_ chartBuild_eq (o_ (hsame (chartBuild_H ++ [.cells [.slice none 0 0, .int .i64 1] 164 2])) o0)) (by kernel_rfl) rfl (by kernel_rfl)

theorem look_1_11_1_eq : AOnN Tryz.prog 61 [.int .i64 1, .int .i64 11, .bool true] [] (.tuple ⟨[.slice none 0 0, .int .i64 1]⟩) [] [] :=
  onN 400 [.inl, .inl, .lit, .lit, .callN chartBuild_V [] chartBuild_H, .inl, .lit, .heap] [] (o_ chartBuild_eq (o_ (hsame (chartBuild_H ++ [.cells [.slice none 0 0, .int .i64 1] 164 2])) o0)) (by kernel_rfl) rfl (by kernel_rfl)

theorem look_1_12_0_eq : AOnN Tryz.prog 61 [.int .i64 1, .int .i64 12, .bool false] [] (.tuple ⟨[.slice (some ⟨0, 0, none⟩) 1 UNK, .int .i64 0]⟩) [] [.row [.int .i64 11] 131 1] :=
  onN 400 [.inl, .inl, .lit, .lit, .callN chartBuild_V [] chartBuild_H, .inl, .lit, .heap] [21] (o_ chartBuild_eq (o_ (hsame (chartBuild_H ++ [.cells [.slice (some ⟨14, 0, none⟩) 1 1, .int .i64 0] 164 2])) o0)) (by kernel_rfl) rfl (by kernel_rfl)

theorem look_1_12_1_eq : AOnN Tryz.prog 61 [.int .i64 1, .int .i64 12, .bool true] [] (.tuple ⟨[.slice none 0 0, .int .i64 1]⟩) [] [] :=
  onN 400 [.inl, .inl, .lit, .lit, .callN chartBuild_V [] chartBuild_H, .inl, .lit, .heap] [] (o_ chartBuild_eq (o_ (hsame (chartBuild_H ++ [.cells [.slice none 0 0, .int .i64 1] 164 2])) o0)) (by kernel_rfl) rfl (by kernel_rfl)

theorem look_1_13_0_eq : AOnN Tryz.prog 61 [.int .i64 1, .int .i64 13, .bool false] [] (.tuple ⟨[.slice (some ⟨0, 0, none⟩) 1 UNK, .int .i64 4]⟩) [] [.row [.int .i64 7] 131 1] :=
  onN 400 [.inl, .inl, .lit, .lit, .callN chartBuild_V [] chartBuild_H, .inl, .lit, .heap] [21] (o_ chartBuild_eq (o_ (hsame (chartBuild_H ++ [.cells [.slice (some ⟨17, 0, none⟩) 1 1, .int .i64 4] 164 2])) o0)) (by kernel_rfl) rfl (by kernel_rfl)

theorem look_1_13_1_eq : AOnN Tryz.prog 61 [.int .i64 1, .int .i64 13, .bool true] [] (.tuple ⟨[.slice (some ⟨0, 0, none⟩) 1 UNK, .int .i64 4]⟩) [] [.row [.int .i64 7] 131 1] :=
  onN 400 [.inl, .inl, .lit, .lit, .callN chartBuild_V [] chartBuild_H, .inl, .lit, .heap] [21] (o_ chartBuild_eq (o_ (hsame (chartBuild_H ++ [.cells [.slice (some ⟨17, 0, none⟩) 1 1, .int .i64 4] 164 2])) o0)) (by kernel_rfl) rfl (by kernel_rfl)

theorem look_2_0_0_eq : AOnN Tryz.prog 61 [.int .i64 2, .int .i64 0, .bool false] [] (.tuple ⟨[.slice none 0 0, .int .i64 2]⟩) [] [] :=
  onN 400 [.inl, .inl, .lit, .lit, .callN chartBuild_V [] chartBuild_H, .inl, .lit, .heap] [] (o_ chartBuild_eq (o_ (hsame (chartBuild_H ++ [.cells [.slice none 0 0, .int .i64 2] 164 2])) o0)) (by kernel_rfl) rfl (by kernel_rfl)

theorem look_2_0_1_eq : AOnN Tryz.prog 61 [.int .i64 2, .int .i64 0, .bool true] [] (.tuple ⟨[.slice (some ⟨0, 0, none⟩) 3 UNK, .int .i64 4]⟩) [] [.row [.int .i64 5, .int .i64 6, .int .i64 8] 131 1] :=
  onN 400 [.inl, .inl, .lit, .lit, .callN chartBuild_V [] chartBuild_H, .inl, .lit, .heap] [21] (o_ chartBuild_eq (o_ (hsame (chartBuild_H ++ [.cells [.slice (some ⟨10, 0, none⟩) 3 3, .int .i64 4] 164 2])) o0)) (by kernel_rfl) rfl (by kernel_rfl)

theorem look_2_1_0_eq : AOnN Tryz.prog 61 [.int .i64 2, .int .i64 1, .bool false] [] (.tuple ⟨[.slice (some ⟨0, 0, none⟩) 2 UNK, .int .i64 3]⟩) [] [.row [.int .i64 0, .int .i64 9] 131 1] :=
  onN 400 [.inl, .inl, .lit, .lit, .callN chartBuild_V [] chartBuild_H, .inl, .lit, .heap] [21] (o_ chartBuild_eq (o_ (hsame (chartBuild_H ++ [.cells [.slice (some ⟨1, 0, none⟩) 2 2, .int .i64 3] 164 2])) o0)) (by kernel_rfl) rfl (by kernel_rfl)

theorem look_2_1_1_eq : AOnN Tryz.prog 61 [.int .i64 2, .int .i64 1, .bool true] [] (.tuple ⟨[.slice (some ⟨0, 0, none⟩) 2 UNK, .int .i64 3]⟩) [] [.row [.int .i64 0, .int .i64 9] 131 1] :=
  onN 400 [.inl, .inl, .lit, .lit, .callN chartBuild_V [] chartBuild_H, .inl, .lit, .heap] [21] (o_ chartBuild_eq (o_ (hsame (chartBuild_H ++ [.cells [.slice (some ⟨1, 0, none⟩) 2 2, .int .i64 3] 164 2])) o0)) (by kernel_rfl) rfl (by kernel_rfl)

theorem look_2_2_0_eq : AOnN Tryz.prog 61 [.int .i64 2, .int .i64 2, .bool false] [] (.tuple ⟨[.slice (some ⟨0, 0, none⟩) 3 UNK, .int .i64 3]⟩) [] [.row [.int .i64 13, .int .i64 4, .int .i64 9] 131 1] :=
  onN 400 [.inl, .inl, .lit, .lit, .callN chartBuild_V [] chartBuild_H, .inl, .lit, .heap] [21] (o_ chartBuild_eq (o_ (hsame (chartBuild_H ++ [.cells [.slice (some ⟨2, 0, none⟩) 3 3, .int .i64 3] 164 2])) o0)) (by kernel_rfl) rfl (by kernel_rfl)

theorem look_2_2_1_eq : AOnN Tryz.prog 61 [.int .i64 2, .int .i64 2, .bool true] [] (.tuple ⟨[.slice (some ⟨0, 0, none⟩) 3 UNK, .int .i64 3]⟩) [] [.row [.int .i64 13, .int .i64 4, .int .i64 9] 131 1] :=
  onN 400 [.inl, .inl, .lit, .lit, .callN chartBuild_V [] chartBuild_H, .inl, .lit, .heap] [21] (o_ chartBuild_eq (o_ (hsame (chartBuild_H ++ [.cells [.slice (some ⟨2, 0, none⟩) 3 3, .int .i64 3] 164 2])) o0)) (by kernel_rfl) rfl (by kernel_rfl)

theorem look_2_3_0_eq : AOnN Tryz.prog 61 [.int .i64 2, .int .i64 3, .bool false] [] (.tuple ⟨[.slice (some ⟨0, 0, none⟩) 2 UNK, .int .i64 1]⟩) [] [.row [.int .i64 1, .int .i64 9] 131 1] :=
  onN 400 [.inl, .inl, .lit, .lit, .callN chartBuild_V [] chartBuild_H, .inl, .lit, .heap] [21] (o_ chartBuild_eq (o_ (hsame (chartBuild_H ++ [.cells [.slice (some ⟨3, 0, none⟩) 2 2, .int .i64 1] 164 2])) o0)) (by kernel_rfl) rfl (by kernel_rfl)

theorem look_2_3_1_eq : AOnN Tryz.prog 61 [.int .i64 2, .int .i64 3, .bool true] [] (.tuple ⟨[.slice (some ⟨0, 0, none⟩) 2 UNK, .int .i64 1]⟩) [] [.row [.int .i64 1, .int .i64 9] 131 1] :=
  onN 400 [.inl, .inl, .lit, .lit, .callN chartBuild_V [] chartBuild_H, .inl, .lit, .heap] [21] (o_ chartBuild_eq (o_ (hsame (chartBuild_H ++ [.cells [.slice (some ⟨3, 0, none⟩) 2 2, .int .i64 1] 164 2])) o0)) (by kernel_rfl) rfl (by kernel_rfl)

theorem look_2_4_0_eq : AOnN Tryz.prog 61 [.int .i64 2, .int .i64 4, .bool false] [] (.tuple ⟨[.slice none 0 0, .int .i64 2]⟩) [] [] :=
  onN 400 [.inl, .inl, .lit, .lit, .callN chartBuild_V [] chartBuild_H, .inl, .lit, .heap] [] (o_ chartBuild_eq (o_ (hsame (chartBuild_H ++ [.cells [.slice none 0 0, .int .i64 2] 164 2])) o0)) (by kernel_rfl) rfl (by kernel_rfl)

theorem look_2_4_1_eq : AOnN Tryz.prog 61 [.int .i64 2, .int .i64 4, .bool true] [] (.tuple ⟨[.slice none 0 0, .int .i64 2]⟩) [] [] :=
  onN 400 [.inl, .inl, .lit, .lit, .callN chartBuild_V [] chartBuild_H, .inl, .lit, .heap] [] (o_ chartBuild_eq (o_ (hsame (chartBuild_H ++ [.cells [.slice none 0 0, .int .i64 2] 164 2])) o0)) (by kernel_rfl) rfl (by kernel_rfl)

theorem look_2_5_0_eq : AOnN Tryz.prog 61 [.int .i64 2, .int .i64 5, .bool false] [] (.tuple ⟨[.slice (some ⟨0, 0, none⟩) 3 UNK, .int .i64 1]⟩) [] [.row [.int .i64 3, .int .i64 4, .int .i64 9] 131 1] :=
  onN 400 [.inl, .inl, .lit, .lit, .callN chartBuild_V [] chartBuild_H, .inl, .lit, .heap] [21] (o_ chartBuild_eq (o_ (hsame (chartBuild_H ++ [.cells [.slice (some ⟨5, 0, none⟩) 3 3, .int .i64 1] 164 2])) o0)) (by kernel_rfl) rfl (by kernel_rfl)

theorem look_2_5_1_eq : AOnN Tryz.prog 61 [.int .i64 2, .int .i64 5, .bool true] [] (.tuple ⟨[.slice (some ⟨0, 0, none⟩) 3 UNK, .int .i64 1]⟩) [] [.row [.int .i64 3, .int .i64 4, .int .i64 9] 131 1] :=
  onN 400 [.inl, .inl, .lit, .lit, .callN chartBuild_V [] chartBuild_H, .inl, .lit, .heap] [21] (o_ chartBuild_eq (o_ (hsame (chartBuild_H ++ [.cells [.slice (some ⟨5, 0, none⟩) 3 3, .int .i64 1] 164 2])) o0)) (by kernel_rfl) rfl (by kernel_rfl)

theorem look_2_6_0_eq : AOnN Tryz.prog 61 [.int .i64 2, .int .i64 6, .bool false] [] (.tuple ⟨[.slice (some ⟨0, 0, none⟩) 2 UNK, .int .i64 2]⟩) [] [.row [.int .i64 3, .int .i64 4] 131 1] :=
  onN 400 [.inl, .inl, .lit, .lit, .callN chartBuild_V [] chartBuild_H, .inl, .lit, .heap] [21] (o_ chartBuild_eq (o_ (hsame (chartBuild_H ++ [.cells [.slice (some ⟨8, 0, none⟩) 2 2, .int .i64 2] 164 2])) o0)) (by kernel_rfl) rfl (by kernel_rfl)

theorem look_2_6_1_eq : AOnN Tryz.prog 61 [.int .i64 2, .int .i64 6, .bool true] [] (.tuple ⟨[.slice (some ⟨0, 0, none⟩) 3 UNK, .int .i64 4]⟩) [] [.row [.int .i64 5, .int .i64 6, .int .i64 8] 131 1] :=
  onN 400 [.inl, .inl, .lit, .lit, .callN chartBuild_V [] chartBuild_H, .inl, .lit, .heap] [21] (o_ chartBuild_eq (o_ (hsame (chartBuild_H ++ [.cells [.slice (some ⟨7, 0, none⟩) 3 3, .int .i64 4] 164 2])) o0)) (by kernel_rfl) rfl (by kernel_rfl)

theorem look_2_7_0_eq : AOnN Tryz.prog 61 [.int .i64 2, .int .i64 7, .bool false] [] (.tuple ⟨[.slice none 0 0, .int .i64 2]⟩) [] [] :=
  onN 400 [.inl, .inl, .lit, .lit, .callN chartBuild_V [] chartBuild_H, .inl, .lit, .heap] [] (o_ chartBuild_eq (o_ (hsame (chartBuild_H ++ [.cells [.slice none 0 0, .int .i64 2] 164 2])) o0)) (by kernel_rfl) rfl (by kernel_rfl)

theorem look_2_7_1_eq : AOnN Tryz.prog 61 [.int .i64 2, .int .i64 7, .bool true] [] (.tuple ⟨[.slice none 0 0, .int .i64 2]⟩) [] [] :=
  onN 400 [.inl, .inl, .lit, .lit, .callN chartBuild_V [] chartBuild_H, .inl, .lit, .heap] [] (o_ chartBuild_eq (o_ (hsame (chartBuild_H ++ [.cells [.slice none 0 0, .int .i64 2] 164 2])) o0)) (by kernel_rfl) rfl (by kernel_rfl)

theorem look_2_8_0_eq : AOnN Tryz.prog 61 [.int .i64 2, .int .i64 8, .bool false] [] (.tuple ⟨[.slice none 0 0, .int .i64 2]⟩) [] [] :=
  onN 400 [.inl, .inl, .lit, .lit, .callN chartBuild_V [] chartBuild_H, .inl, .lit, .heap] [] (o_ chartBuild_eq (o_ (hsame (chartBuild_H ++ [.cells [.slice none 0 0, .int .i64 2] 164 2])) o0)) (by kernel_rfl) rfl (by kernel_rfl)

theorem look_2_8_1_eq : AOnN Tryz.prog 61 [.int .i64 2, .int .i64 8, .bool true] [] (.tuple ⟨[.slice none 0 0, .int .i64 2]⟩) [] [] :=
  onN 400 [.inl, .inl, .lit, .lit, .callN chartBuild_V [] chartBuild_H, .inl, .lit, .heap] [] (o_ chartBuild_eq (o_ (hsame (chartBuild_H ++ [.cells [.slice none 0 0, .int .i64 2] 164 2])) o0)) (by kernel_rfl) rfl (by kernel_rfl)

theorem look_2_9_0_eq : AOnN Tryz.prog 61 [.int .i64 2, .int .i64 9, .bool false] [] (.tuple ⟨[.slice none 0 0, .int .i64 2]⟩) [] [] :=
  onN 400 [.inl, .inl, .lit, .lit, .callN chartBuild_V [] chartBuild_H, .inl, .lit, .heap] [] (o_ chartBuild_eq (o_ (hsame (chartBuild_H ++ [.cells [.slice none 0 0, .int .i64 2] 164 2])) o0)) (by kernel_rfl) rfl (by kernel_rfl)

theorem look_2_9_1_eq : AOnN Tryz.prog 61 [.int .i64 2, .int .i64 9, .bool true] [] (.tuple ⟨[.slice none 0 0, .int .i64 2]⟩) [] [] :=
  onN 400 [.inl, .inl, .lit, .lit, .callN chartBuild_V [] chartBuild_H, .inl, .lit, .heap] [] (o_ chartBuild_eq (o_ (hsame (chartBuild_H ++ [.cells [.slice none 0 0, .int .i64 2] 164 2])) o0)) (by kernel_rfl) rfl (by kernel_rfl)

theorem look_2_10_0_eq : AOnN Tryz.prog 61 [.int .i64 2, .int .i64 10, .bool false] [] (.tuple ⟨[.slice none 0 0, .int .i64 2]⟩) [] [] :=
  onN 400 [.inl, .inl, .lit, .lit, .callN chartBuild_V [] chartBuild_H, .inl, .lit, .heap] [] (o_ chartBuild_eq (o_ (hsame (chartBuild_H ++ [.cells [.slice none 0 0, .int .i64 2] 164 2])) o0)) (by kernel_rfl) rfl (by kernel_rfl)

theorem look_2_10_1_eq : AOnN Tryz.prog 61 [.int .i64 2, .int .i64 10, .bool true] [] (.tuple ⟨[.slice none 0 0, .int .i64 2]⟩) [] [] :=
  onN 400 [.inl, .inl, .lit, .lit, .callN chartBuild_V [] chartBuild_H, .inl, .lit, .heap] [] (o_ chartBuild_eq (o_ (hsame (chartBuild_H ++ [.cells [.slice none 0 0, .int .i64 2] 164 2])) o0)) (by kernel_rfl) rfl (by kernel_rfl)

theorem look_2_11_0_eq : AOnN Tryz.prog 61 [.int .i64 2, .int .i64 11, .bool false] [] (.tuple ⟨[.slice none 0 0, .int .i64 2]⟩) [] [] :=
  onN 400 [.inl, .inl, .lit, .lit, .callN chartBuild_V [] chartBuild_H, .inl, .lit, .heap] [] (o_ chartBuild_eq (o_ (hsame (chartBuild_H ++ [.cells [.slice none 0 0, .int .i64 2] 164 2])) o0)) (by kernel_rfl) rfl (by kernel_rfl)

theorem look_2_11_1_eq : AOnN Tryz.prog 61 [.int .i64 2, .int .i64 11, .bool true] [] (.tuple ⟨[.slice none 0 0, .int .i64 2]⟩) [] [] :=
  onN 400 [.inl, .inl, .lit, .lit, .callN chartBuild_V [] chartBuild_H, .inl, .lit, .heap] [] (o_ chartBuild_eq (o_ (hsame (chartBuild_H ++ [.cells [.slice none 0 0, .int .i64 2] 164 2])) o0)) (by kernel_rfl) rfl (by kernel_rfl)

theorem look_2_12_0_eq : AOnN Tryz.prog 61 [.int .i64 2, .int .i64 12, .bool false] [] (.tuple ⟨[.slice (some ⟨0, 0, none⟩) 1 UNK, .int .i64 0]⟩) [] [.row [.int .i64 11] 131 1] :=
  onN 400 [.inl, .inl, .lit, .lit, .callN chartBuild_V [] chartBuild_H, .inl, .lit, .heap] [21] (o_ chartBuild_eq (o_ (hsame (chartBuild_H ++ [.cells [.slice (some ⟨14, 0, none⟩) 1 1, .int .i64 0] 164 2])) o0)) (by kernel_rfl) rfl (by kernel_rfl)

theorem look_2_12_1_eq : AOnN Tryz.prog 61 [.int .i64 2, .int .i64 12, .bool true] [] (.tuple ⟨[.slice none 0 0, .int .i64 2]⟩) [] [] :=
  onN 400 [.inl, .inl, .lit, .lit, .callN chartBuild_V [] chartBuild_H, .inl, .lit, .heap] [] (o_ chartBuild_eq (o_ (hsame (chartBuild_H ++ [.cells [.slice none 0 0, .int .i64 2] 164 2])) o0)) (by kernel_rfl) rfl (by kernel_rfl)

theorem look_2_13_0_eq : AOnN Tryz.prog 61 [.int .i64 2, .int .i64 13, .bool false] [] (.tuple ⟨[.slice (some ⟨0, 0, none⟩) 1 UNK, .int .i64 4]⟩) [] [.row [.int .i64 8] 131 1] :=
  onN 400 [.inl, .inl, .lit, .lit, .callN chartBuild_V [] chartBuild_H, .inl, .lit, .heap] [21] (o_ chartBuild_eq (o_ (hsame (chartBuild_H ++ [.cells [.slice (some ⟨18, 0, none⟩) 1 1, .int .i64 4] 164 2])) o0)) (by kernel_rfl) rfl (by kernel_rfl)

theorem look_2_13_1_eq : AOnN Tryz.prog 61 [.int .i64 2, .int .i64 13, .bool true] [] (.tuple ⟨[.slice none 0 0, .int .i64 2]⟩) [] [] :=
  onN 400 [.inl, .inl, .lit, .lit, .callN chartBuild_V [] chartBuild_H, .inl, .lit, .heap] [] (o_ chartBuild_eq (o_ (hsame (chartBuild_H ++ [.cells [.slice none 0 0, .int .i64 2] 164 2])) o0)) (by kernel_rfl) rfl (by kernel_rfl)

theorem look_3_0_0_eq : AOnN Tryz.prog 61 [.int .i64 3, .int .i64 0, .bool false] [] (.tuple ⟨[.slice none 0 0, .int .i64 3]⟩) [] [] :=
  onN 400 [.inl, .inl, .lit, .lit, .callN chartBuild_V [] chartBuild_H, .inl, .lit, .heap] [] (o_ chartBuild_eq (o_ (hsame (chartBuild_H ++ [.cells [.slice none 0 0, .int .i64 3] 164 2])) o0)) (by kernel_rfl) rfl (by kernel_rfl)

theorem look_3_0_1_eq : AOnN Tryz.prog 61 [.int .i64 3, .int .i64 0, .bool true] [] (.tuple ⟨[.slice (some ⟨0, 0, none⟩) 3 UNK, .int .i64 4]⟩) [] [.row [.int .i64 5, .int .i64 6, .int .i64 8] 131 1] :=
  onN 400 [.inl, .inl, .lit, .lit, .callN chartBuild_V [] chartBuild_H, .inl, .lit, .heap] [21] (o_ chartBuild_eq (o_ (hsame (chartBuild_H ++ [.cells [.slice (some ⟨10, 0, none⟩) 3 3, .int .i64 4] 164 2])) o0)) (by kernel_rfl) rfl (by kernel_rfl)

theorem look_3_1_0_eq : AOnN Tryz.prog 61 [.int .i64 3, .int .i64 1, .bool false] [] (.tuple ⟨[.slice (some ⟨0, 0, none⟩) 2 UNK, .int .i64 3]⟩) [] [.row [.int .i64 0, .int .i64 9] 131 1] :=
  onN 400 [.inl, .inl, .lit, .lit, .callN chartBuild_V [] chartBuild_H, .inl, .lit, .heap] [21] (o_ chartBuild_eq (o_ (hsame (chartBuild_H ++ [.cells [.slice (some ⟨1, 0, none⟩) 2 2, .int .i64 3] 164 2])) o0)) (by kernel_rfl) rfl (by kernel_rfl)

theorem look_3_1_1_eq : AOnN Tryz.prog 61 [.int .i64 3, .int .i64 1, .bool true] [] (.tuple ⟨[.slice (some ⟨0, 0, none⟩) 2 UNK, .int .i64 3]⟩) [] [.row [.int .i64 0, .int .i64 9] 131 1] :=
  onN 400 [.inl, .inl, .lit, .lit, .callN chartBuild_V [] chartBuild_H, .inl, .lit, .heap] [21] (o_ chartBuild_eq (o_ (hsame (chartBuild_H ++ [.cells [.slice (some ⟨1, 0, none⟩) 2 2, .int .i64 3] 164 2])) o0)) (by kernel_rfl) rfl (by kernel_rfl)

theorem look_3_2_0_eq : AOnN Tryz.prog 61 [.int .i64 3, .int .i64 2, .bool false] [] (.tuple ⟨[.slice none 0 0, .int .i64 3]⟩) [] [] :=
  onN 400 [.inl, .inl, .lit, .lit, .callN chartBuild_V [] chartBuild_H, .inl, .lit, .heap] [] (o_ chartBuild_eq (o_ (hsame (chartBuild_H ++ [.cells [.slice none 0 0, .int .i64 3] 164 2])) o0)) (by kernel_rfl) rfl (by kernel_rfl)

theorem look_3_2_1_eq : AOnN Tryz.prog 61 [.int .i64 3, .int .i64 2, .bool true] [] (.tuple ⟨[.slice none 0 0, .int .i64 3]⟩) [] [] :=
  onN 400 [.inl, .inl, .lit, .lit, .callN chartBuild_V [] chartBuild_H, .inl, .lit, .heap] [] (o_ chartBuild_eq (o_ (hsame (chartBuild_H ++ [.cells [.slice none 0 0, .int .i64 3] 164 2])) o0)) (by kernel_rfl) rfl (by kernel_rfl)

theorem look_3_3_0_eq : AOnN Tryz.prog 61 [.int .i64 3, .int .i64 3, .bool false] [] (.tuple ⟨[.slice none 0 0, .int .i64 3]⟩) [] [] :=
  onN 400 [.inl, .inl, .lit, .lit, .callN chartBuild_V [] chartBuild_H, .inl, .lit, .heap] [] (o_ chartBuild_eq (o_ (hsame (chartBuild_H ++ [.cells [.slice none 0 0, .int .i64 3] 164 2])) o0)) (by kernel_rfl) rfl (by kernel_rfl)

theorem look_3_3_1_eq : AOnN Tryz.prog 61 [.int .i64 3, .int .i64 3, .bool true] [] (.tuple ⟨[.slice none 0 0, .int .i64 3]⟩) [] [] :=
  onN 400 [.inl, .inl, .lit, .lit, .callN chartBuild_V [] chartBuild_H, .inl, .lit, .heap] [] (o_ chartBuild_eq (o_ (hsame (chartBuild_H ++ [.cells [.slice none 0 0, .int .i64 3] 164 2])) o0)) (by kernel_rfl) rfl (by kernel_rfl)

theorem look_3_4_0_eq : AOnN Tryz.prog 61 [.int .i64 3, .int .i64 4, .bool false] [] (.tuple ⟨[.slice none 0 0, .int .i64 3]⟩) [] [] :=
  onN 400 [.inl, .inl, .lit, .lit, .callN chartBuild_V [] chartBuild_H, .inl, .lit, .heap] [] (o_ chartBuild_eq (o_ (hsame (chartBuild_H ++ [.cells [.slice none 0 0, .int .i64 3] 164 2])) o0)) (by kernel_rfl) rfl (by kernel_rfl)

theorem look_3_4_1_eq : AOnN Tryz.prog 61 [.int .i64 3, .int .i64 4, .bool true] [] (.tuple ⟨[.slice none 0 0, .int .i64 3]⟩) [] [] :=
  onN 400 [.inl, .inl, .lit, .lit, .callN chartBuild_V [] chartBuild_H, .inl, .lit, .heap] [] (o_ chartBuild_eq (o_ (hsame (chartBuild_H ++ [.cells [.slice none 0 0, .int .i64 3] 164 2])) o0)) (by kernel_rfl) rfl (by kernel_rfl)

theorem look_3_5_0_eq : AOnN Tryz.prog 61 [.int .i64 3, .int .i64 5, .bool false] [] (.tuple ⟨[.slice none 0 0, .int .i64 3]⟩) [] [] :=
  onN 400 [.inl, .inl, .lit, .lit, .callN chartBuild_V [] chartBuild_H, .inl, .lit, .heap] [] (o_ chartBuild_eq (o_ (hsame (chartBuild_H ++ [.cells [.slice none 0 0, .int .i64 3] 164 2])) o0)) (by kernel_rfl) rfl (by kernel_rfl)

theorem look_3_5_1_eq : AOnN Tryz.prog 61 [.int .i64 3, .int .i64 5, .bool true] [] (.tuple ⟨[.slice none 0 0, .int .i64 3]⟩) [] [] :=
  onN 400 [.inl, .inl, .lit, .lit, .callN chartBuild_V [] chartBuild_H, .inl, .lit, .heap] [] (o_ chartBuild_eq (o_ (hsame (chartBuild_H ++ [.cells [.slice none 0 0, .int .i64 3] 164 2])) o0)) (by kernel_rfl) rfl (by kernel_rfl)

theorem look_3_6_0_eq : AOnN Tryz.prog 61 [.int .i64 3, .int .i64 6, .bool false] [] (.tuple ⟨[.slice none 0 0, .int .i64 3]⟩) [] [] :=
  onN 400 [.inl, .inl, .lit, .lit, .callN chartBuild_V [] chartBuild_H, .inl, .lit, .heap] [] (o_ chartBuild_eq (o_ (hsame (chartBuild_H ++ [.cells [.slice none 0 0, .int .i64 3] 164 2])) o0)) (by kernel_rfl) rfl (by kernel_rfl)

theorem look_3_6_1_eq : AOnN Tryz.prog 61 [.int .i64 3, .int .i64 6, .bool true] [] (.tuple ⟨[.slice none 0 0, .int .i64 3]⟩) [] [] :=
  onN 400 [.inl, .inl, .lit, .lit, .callN chartBuild_V [] chartBuild_H, .inl, .lit, .heap] [] (o_ chartBuild_eq (o_ (hsame (chartBuild_H ++ [.cells [.slice none 0 0, .int .i64 3] 164 2])) o0)) (by kernel_rfl) rfl (by kernel_rfl)

theorem look_3_7_0_eq : AOnN Tryz.prog 61 [.int .i64 3, .int .i64 7, .bool false] [] (.tuple ⟨[.slice none 0 0, .int .i64 3]⟩) [] [] :=
  onN 400 [.inl, .inl, .lit, .lit, .callN chartBuild_V [] chartBuild_H, .inl, .lit, .heap] [] (o_ chartBuild_eq (o_ (hsame (chartBuild_H ++ [.cells [.slice none 0 0, .int .i64 3] 164 2])) o0)) (by kernel_rfl) rfl (by kernel_rfl)

theorem look_3_7_1_eq : AOnN Tryz.prog 61 [.int .i64 3, .int .i64 7, .bool true] [] (.tuple ⟨[.slice none 0 0, .int .i64 3]⟩) [] [] :=
  onN 400 [.inl, .inl, .lit, .lit, .callN chartBuild_V [] chartBuild_H, .inl, .lit, .heap] [] (o_ chartBuild_eq (o_ (hsame (chartBuild_H ++ [.cells [.slice none 0 0, .int .i64 3] 164 2])) o0)) (by kernel_rfl) rfl (by kernel_rfl)

theorem look_3_8_0_eq : AOnN Tryz.prog 61 [.int .i64 3, .int .i64 8, .bool false] [] (.tuple ⟨[.slice none 0 0, .int .i64 3]⟩) [] [] :=
  onN 400 [.inl, .inl, .lit, .lit, .callN chartBuild_V [] chartBuild_H, .inl, .lit, .heap] [] (o_ chartBuild_eq (o_ (hsame (chartBuild_H ++ [.cells [.slice none 0 0, .int .i64 3] 164 2])) o0)) (by kernel_rfl) rfl (by kernel_rfl)

theorem look_3_8_1_eq : AOnN Tryz.prog 61 [.int .i64 3, .int .i64 8, .bool true] [] (.tuple ⟨[.slice none 0 0, .int .i64 3]⟩) [] [] :=
  onN 400 [.inl, .inl, .lit, .lit, .callN chartBuild_V [] chartBuild_H, .inl, .lit, .heap] [] (o_ chartBuild_eq (o_ (hsame (chartBuild_H ++ [.cells [.slice none 0 0, .int .i64 3] 164 2])) o0)) (by kernel_rfl) rfl (by kernel_rfl)

theorem look_3_9_0_eq : AOnN Tryz.prog 61 [.int .i64 3, .int .i64 9, .bool false] [] (.tuple ⟨[.slice none 0 0, .int .i64 3]⟩) [] [] :=
  onN 400 [.inl, .inl, .lit, .lit, .callN chartBuild_V [] chartBuild_H, .inl, .lit, .heap] [] (o_ chartBuild_eq (o_ (hsame (chartBuild_H ++ [.cells [.slice none 0 0, .int .i64 3] 164 2])) o0)) (by kernel_rfl) rfl (by kernel_rfl)

theorem look_3_9_1_eq : AOnN Tryz.prog 61 [.int .i64 3, .int .i64 9, .bool true] [] (.tuple ⟨[.slice none 0 0, .int .i64 3]⟩) [] [] :=
  onN 400 [.inl, .inl, .lit, .lit, .callN chartBuild_V [] chartBuild_H, .inl, .lit, .heap] [] (o_ chartBuild_eq (o_ (hsame (chartBuild_H ++ [.cells [.slice none 0 0, .int .i64 3] 164 2])) o0)) (by kernel_rfl) rfl (by kernel_rfl)

theorem look_3_10_0_eq : AOnN Tryz.prog 61 [.int .i64 3, .int .i64 10, .bool false] [] (.tuple ⟨[.slice none 0 0, .int .i64 3]⟩) [] [] :=
  onN 400 [.inl, .inl, .lit, .lit, .callN chartBuild_V [] chartBuild_H, .inl, .lit, .heap] [] (o_ chartBuild_eq (o_ (hsame (chartBuild_H ++ [.cells [.slice none 0 0, .int .i64 3] 164 2])) o0)) (by kernel_rfl) rfl (by kernel_rfl)

theorem look_3_10_1_eq : AOnN Tryz.prog 61 [.int .i64 3, .int .i64 10, .bool true] [] (.tuple ⟨[.slice none 0 0, .int .i64 3]⟩) [] [] :=
  onN 400 [.inl, .inl, .lit, .lit, .callN chartBuild_V [] chartBuild_H, .inl, .lit, .heap] [] (o_ chartBuild_eq (o_ (hsame (chartBuild_H ++ [.cells [.slice none 0 0, .int .i64 3] 164 2])) o0)) (by kernel_rfl) rfl (by kernel_rfl)

theorem look_3_11_0_eq : AOnN Tryz.prog 61 [.int .i64 3, .int .i64 11, .bool false] [] (.tuple ⟨[.slice none 0 0, .int .i64 3]⟩) [] [] :=
  onN 400 [.inl, .inl, .lit, .lit, .callN chartBuild_V [] chartBuild_H, .inl, .lit, .heap] [] (o_ chartBuild_eq (o_ (hsame (chartBuild_H ++ [.cells [.slice none 0 0, .int .i64 3] 164 2])) o0)) (by kernel_rfl) rfl (by kernel_rfl)

theorem look_3_11_1_eq : AOnN Tryz.prog 61 [.int .i64 3, .int .i64 11, .bool true] [] (.tuple ⟨[.slice none 0 0, .int .i64 3]⟩) [] [] :=
  onN 400 [.inl, .inl, .lit, .lit, .callN chartBuild_V [] chartBuild_H, .inl, .lit, .heap] [] (o_ chartBuild_eq (o_ (hsame (chartBuild_H ++ [.cells [.slice none 0 0, .int .i64 3] 164 2])) o0)) (by kernel_rfl) rfl (by kernel_rfl)

theorem look_3_12_0_eq : AOnN Tryz.prog 61 [.int .i64 3, .int .i64 12, .bool false] [] (.tuple ⟨[.slice (some ⟨0, 0, none⟩) 1 UNK, .int .i64 0]⟩) [] [.row [.int .i64 11] 131 1] :=
  onN 400 [.inl, .inl, .lit, .lit, .callN chartBuild_V [] chartBuild_H, .inl, .lit, .heap] [21] (o_ chartBuild_eq (o_ (hsame (chartBuild_H ++ [.cells [.slice (some ⟨14, 0, none⟩) 1 1, .int .i64 0] 164 2])) o0)) (by kernel_rfl) rfl (by kernel_rfl)

theorem look_3_12_1_eq : AOnN Tryz.prog 61 [.int .i64 3, .int .i64 12, .bool true] [] (.tuple ⟨[.slice none 0 0, .int .i64 3]⟩) [] [] :=
  onN 400 [.inl, .inl, .lit, .lit, .callN chartBuild_V [] chartBuild_H, .inl, .lit, .heap] [] (o_ chartBuild_eq (o_ (hsame (chartBuild_H ++ [.cells [.slice none 0 0, .int .i64 3] 164 2])) o0)) (by kernel_rfl) rfl (by kernel_rfl)

theorem look_3_13_0_eq : AOnN Tryz.prog 61 [.int .i64 3, .int .i64 13, .bool false] [] (.tuple ⟨[.slice (some ⟨0, 0, none⟩) 1 UNK, .int .i64 4]⟩) [] [.row [.int .i64 8] 131 1] :=
  onN 400 [.inl, .inl, .lit, .lit, .callN chartBuild_V [] chartBuild_H, .inl, .lit, .heap] [21] (o_ chartBuild_eq (o_ (hsame (chartBuild_H ++ [.cells [.slice (some ⟨18, 0, none⟩) 1 1, .int .i64 4] 164 2])) o0)) (by kernel_rfl) rfl (by kernel_rfl)

theorem look_3_13_1_eq : AOnN Tryz.prog 61 [.int .i64 3, .int .i64 13, .bool true] [] (.tuple ⟨[.slice none 0 0, .int .i64 3]⟩) [] [] :=
  onN 400 [.inl, .inl, .lit, .lit, .callN chartBuild_V [] chartBuild_H, .inl, .lit, .heap] [] (o_ chartBuild_eq (o_ (hsame (chartBuild_H ++ [.cells [.slice none 0 0, .int .i64 3] 164 2])) o0)) (by kernel_rfl) rfl (by kernel_rfl)

theorem look_4_0_0_eq : AOnN Tryz.prog 61 [.int .i64 4, .int .i64 0, .bool false] [] (.tuple ⟨[.slice (some ⟨0, 0, none⟩) 2 UNK, .int .i64 0]⟩) [] [.row [.int .i64 10, .int .i64 9] 131 1] :=
  onN 400 [.inl, .inl, .lit, .lit, .callN chartBuild_V [] chartBuild_H, .inl, .lit, .heap] [21] (o_ chartBuild_eq (o_ (hsame (chartBuild_H ++ [.cells [.slice (some ⟨11, 0, none⟩) 2 2, .int .i64 0] 164 2])) o0)) (by kernel_rfl) rfl (by kernel_rfl)

theorem look_4_0_1_eq : AOnN Tryz.prog 61 [.int .i64 4, .int .i64 0, .bool true] [] (.tuple ⟨[.slice (some ⟨0, 0, none⟩) 2 UNK, .int .i64 0]⟩) [] [.row [.int .i64 10, .int .i64 9] 131 1] :=
  onN 400 [.inl, .inl, .lit, .lit, .callN chartBuild_V [] chartBuild_H, .inl, .lit, .heap] [21] (o_ chartBuild_eq (o_ (hsame (chartBuild_H ++ [.cells [.slice (some ⟨11, 0, none⟩) 2 2, .int .i64 0] 164 2])) o0)) (by kernel_rfl) rfl (by kernel_rfl)

theorem look_4_1_0_eq : AOnN Tryz.prog 61 [.int .i64 4, .int .i64 1, .bool false] [] (.tuple ⟨[.slice (some ⟨0, 0, none⟩) 2 UNK, .int .i64 3]⟩) [] [.row [.int .i64 0, .int .i64 9] 131 1] :=
  onN 400 [.inl, .inl, .lit, .lit, .callN chartBuild_V [] chartBuild_H, .inl, .lit, .heap] [21] (o_ chartBuild_eq (o_ (hsame (chartBuild_H ++ [.cells [.slice (some ⟨1, 0, none⟩) 2 2, .int .i64 3] 164 2])) o0)) (by kernel_rfl) rfl (by kernel_rfl)

theorem look_4_1_1_eq : AOnN Tryz.prog 61 [.int .i64 4, .int .i64 1, .bool true] [] (.tuple ⟨[.slice (some ⟨0, 0, none⟩) 2 UNK, .int .i64 3]⟩) [] [.row [.int .i64 0, .int .i64 9] 131 1] :=
  onN 400 [.inl, .inl, .lit, .lit, .callN chartBuild_V [] chartBuild_H, .inl, .lit, .heap] [21] (o_ chartBuild_eq (o_ (hsame (chartBuild_H ++ [.cells [.slice (some ⟨1, 0, none⟩) 2 2, .int .i64 3] 164 2])) o0)) (by kernel_rfl) rfl (by kernel_rfl)

theorem look_4_2_0_eq : AOnN Tryz.prog 61 [.int .i64 4, .int .i64 2, .bool false] [] (.tuple ⟨[.slice (some ⟨0, 0, none⟩) 3 UNK, .int .i64 3]⟩) [] [.row [.int .i64 13, .int .i64 4, .int .i64 9] 131 1] :=
  onN 400 [.inl, .inl, .lit, .lit, .callN chartBuild_V [] chartBuild_H, .inl, .lit, .heap] [21] (o_ chartBuild_eq (o_ (hsame (chartBuild_H ++ [.cells [.slice (some ⟨2, 0, none⟩) 3 3, .int .i64 3] 164 2])) o0)) (by kernel_rfl) rfl (by kernel_rfl)

theorem look_4_2_1_eq : AOnN Tryz.prog 61 [.int .i64 4, .int .i64 2, .bool true] [] (.tuple ⟨[.slice (some ⟨0, 0, none⟩) 3 UNK, .int .i64 3]⟩) [] [.row [.int .i64 13, .int .i64 4, .int .i64 9] 131 1] :=
  onN 400 [.inl, .inl, .lit, .lit, .callN chartBuild_V [] chartBuild_H, .inl, .lit, .heap] [21] (o_ chartBuild_eq (o_ (hsame (chartBuild_H ++ [.cells [.slice (some ⟨2, 0, none⟩) 3 3, .int .i64 3] 164 2])) o0)) (by kernel_rfl) rfl (by kernel_rfl)

theorem look_4_3_0_eq : AOnN Tryz.prog 61 [.int .i64 4, .int .i64 3, .bool false] [] (.tuple ⟨[.slice (some ⟨0, 0, none⟩) 2 UNK, .int .i64 1]⟩) [] [.row [.int .i64 1, .int .i64 9] 131 1] :=
  onN 400 [.inl, .inl, .lit, .lit, .callN chartBuild_V [] chartBuild_H, .inl, .lit, .heap] [21] (o_ chartBuild_eq (o_ (hsame (chartBuild_H ++ [.cells [.slice (some ⟨3, 0, none⟩) 2 2, .int .i64 1] 164 2])) o0)) (by kernel_rfl) rfl (by kernel_rfl)

theorem look_4_3_1_eq : AOnN Tryz.prog 61 [.int .i64 4, .int .i64 3, .bool true] [] (.tuple ⟨[.slice (some ⟨0, 0, none⟩) 2 UNK, .int .i64 1]⟩) [] [.row [.int .i64 1, .int .i64 9] 131 1] :=
  onN 400 [.inl, .inl, .lit, .lit, .callN chartBuild_V [] chartBuild_H, .inl, .lit, .heap] [21] (o_ chartBuild_eq (o_ (hsame (chartBuild_H ++ [.cells [.slice (some ⟨3, 0, none⟩) 2 2, .int .i64 1] 164 2])) o0)) (by kernel_rfl) rfl (by kernel_rfl)

theorem look_4_4_0_eq : AOnN Tryz.prog 61 [.int .i64 4, .int .i64 4, .bool false] [] (.tuple ⟨[.slice none 0 0, .int .i64 4]⟩) [] [] :=
  onN 400 [.inl, .inl, .lit, .lit, .callN chartBuild_V [] chartBuild_H, .inl, .lit, .heap] [] (o_ chartBuild_eq (o_ (hsame (chartBuild_H ++ [.cells [.slice none 0 0, .int .i64 4] 164 2])) o0)) (by kernel_rfl) rfl (by kernel_rfl)

theorem look_4_4_1_eq : AOnN Tryz.prog 61 [.int .i64 4, .int .i64 4, .bool true] [] (.tuple ⟨[.slice none 0 0, .int .i64 4]⟩) [] [] :=
  onN 400 [.inl, .inl, .lit, .lit, .callN chartBuild_V [] chartBuild_H, .inl, .lit, .heap] [] (o_ chartBuild_eq (o_ (hsame (chartBuild_H ++ [.cells [.slice none 0 0, .int .i64 4] 164 2])) o0)) (by kernel_rfl) rfl (by kernel_rfl)

theorem look_4_5_0_eq : AOnN Tryz.prog 61 [.int .i64 4, .int .i64 5, .bool false] [] (.tuple ⟨[.slice (some ⟨0, 0, none⟩) 3 UNK, .int .i64 1]⟩) [] [.row [.int .i64 3, .int .i64 4, .int .i64 9] 131 1] :=
  onN 400 [.inl, .inl, .lit, .lit, .callN chartBuild_V [] chartBuild_H, .inl, .lit, .heap] [21] (o_ chartBuild_eq (o_ (hsame (chartBuild_H ++ [.cells [.slice (some ⟨5, 0, none⟩) 3 3, .int .i64 1] 164 2])) o0)) (by kernel_rfl) rfl (by kernel_rfl)

theorem look_4_5_1_eq : AOnN Tryz.prog 61 [.int .i64 4, .int .i64 5, .bool true] [] (.tuple ⟨[.slice (some ⟨0, 0, none⟩) 3 UNK, .int .i64 1]⟩) [] [.row [.int .i64 3, .int .i64 4, .int .i64 9] 131 1] :=
  onN 400 [.inl, .inl, .lit, .lit, .callN chartBuild_V [] chartBuild_H, .inl, .lit, .heap] [21] (o_ chartBuild_eq (o_ (hsame (chartBuild_H ++ [.cells [.slice (some ⟨5, 0, none⟩) 3 3, .int .i64 1] 164 2])) o0)) (by kernel_rfl) rfl (by kernel_rfl)

theorem look_4_6_0_eq : AOnN Tryz.prog 61 [.int .i64 4, .int .i64 6, .bool false] [] (.tuple ⟨[.slice (some ⟨0, 0, none⟩) 3 UNK, .int .i64 2]⟩) [] [.row [.int .i64 3, .int .i64 4, .int .i64 9] 131 1] :=
  onN 400 [.inl, .inl, .lit, .lit, .callN chartBuild_V [] chartBuild_H, .inl, .lit, .heap] [21] (o_ chartBuild_eq (o_ (hsame (chartBuild_H ++ [.cells [.slice (some ⟨6, 0, none⟩) 3 3, .int .i64 2] 164 2])) o0)) (by kernel_rfl) rfl (by kernel_rfl)

theorem look_4_6_1_eq : AOnN Tryz.prog 61 [.int .i64 4, .int .i64 6, .bool true] [] (.tuple ⟨[.slice (some ⟨0, 0, none⟩) 3 UNK, .int .i64 2]⟩) [] [.row [.int .i64 3, .int .i64 4, .int .i64 9] 131 1] :=
  onN 400 [.inl, .inl, .lit, .lit, .callN chartBuild_V [] chartBuild_H, .inl, .lit, .heap] [21] (o_ chartBuild_eq (o_ (hsame (chartBuild_H ++ [.cells [.slice (some ⟨6, 0, none⟩) 3 3, .int .i64 2] 164 2])) o0)) (by kernel_rfl) rfl (by kernel_rfl)

theorem look_4_7_0_eq : AOnN Tryz.prog 61 [.int .i64 4, .int .i64 7, .bool false] [] (.tuple ⟨[.slice (some ⟨0, 0, none⟩) 2 UNK, .int .i64 2]⟩) [] [.row [.int .i64 2, .int .i64 9] 131 1] :=
  onN 400 [.inl, .inl, .lit, .lit, .callN chartBuild_V [] chartBuild_H, .inl, .lit, .heap] [21] (o_ chartBuild_eq (o_ (hsame (chartBuild_H ++ [.cells [.slice (some ⟨9, 0, none⟩) 2 2, .int .i64 2] 164 2])) o0)) (by kernel_rfl) rfl (by kernel_rfl)

theorem look_4_7_1_eq : AOnN Tryz.prog 61 [.int .i64 4, .int .i64 7, .bool true] [] (.tuple ⟨[.slice (some ⟨0, 0, none⟩) 2 UNK, .int .i64 2]⟩) [] [.row [.int .i64 2, .int .i64 9] 131 1] :=
  onN 400 [.inl, .inl, .lit, .lit, .callN chartBuild_V [] chartBuild_H, .inl, .lit, .heap] [21] (o_ chartBuild_eq (o_ (hsame (chartBuild_H ++ [.cells [.slice (some ⟨9, 0, none⟩) 2 2, .int .i64 2] 164 2])) o0)) (by kernel_rfl) rfl (by kernel_rfl)

theorem look_4_8_0_eq : AOnN Tryz.prog 61 [.int .i64 4, .int .i64 8, .bool false] [] (.tuple ⟨[.slice (some ⟨0, 0, none⟩) 2 UNK, .int .i64 0]⟩) [] [.row [.int .i64 10, .int .i64 9] 131 1] :=
  onN 400 [.inl, .inl, .lit, .lit, .callN chartBuild_V [] chartBuild_H, .inl, .lit, .heap] [21] (o_ chartBuild_eq (o_ (hsame (chartBuild_H ++ [.cells [.slice (some ⟨12, 0, none⟩) 2 2, .int .i64 0] 164 2])) o0)) (by kernel_rfl) rfl (by kernel_rfl)

theorem look_4_8_1_eq : AOnN Tryz.prog 61 [.int .i64 4, .int .i64 8, .bool true] [] (.tuple ⟨[.slice (some ⟨0, 0, none⟩) 2 UNK, .int .i64 0]⟩) [] [.row [.int .i64 10, .int .i64 9] 131 1] :=
  onN 400 [.inl, .inl, .lit, .lit, .callN chartBuild_V [] chartBuild_H, .inl, .lit, .heap] [21] (o_ chartBuild_eq (o_ (hsame (chartBuild_H ++ [.cells [.slice (some ⟨12, 0, none⟩) 2 2, .int .i64 0] 164 2])) o0)) (by kernel_rfl) rfl (by kernel_rfl)

theorem look_4_9_0_eq : AOnN Tryz.prog 61 [.int .i64 4, .int .i64 9, .bool false] [] (.tuple ⟨[.slice none 0 0, .int .i64 4]⟩) [] [] :=
  onN 400 [.inl, .inl, .lit, .lit, .callN chartBuild_V [] chartBuild_H, .inl, .lit, .heap] [] (o_ chartBuild_eq (o_ (hsame (chartBuild_H ++ [.cells [.slice none 0 0, .int .i64 4] 164 2])) o0)) (by kernel_rfl) rfl (by kernel_rfl)

theorem look_4_9_1_eq : AOnN Tryz.prog 61 [.int .i64 4, .int .i64 9, .bool true] [] (.tuple ⟨[.slice none 0 0, .int .i64 4]⟩) [] [] :=
  onN 400 [.inl, .inl, .lit, .lit, .callN chartBuild_V [] chartBuild_H, .inl, .lit, .heap] [] (o_ chartBuild_eq (o_ (hsame (chartBuild_H ++ [.cells [.slice none 0 0, .int .i64 4] 164 2])) o0)) (by kernel_rfl) rfl (by kernel_rfl)

theorem look_4_10_0_eq : AOnN Tryz.prog 61 [.int .i64 4, .int .i64 10, .bool false] [] (.tuple ⟨[.slice (some ⟨0, 0, none⟩) 2 UNK, .int .i64 0]⟩) [] [.row [.int .i64 10, .int .i64 9] 131 1] :=
  onN 400 [.inl, .inl, .lit, .lit, .callN chartBuild_V [] chartBuild_H, .inl, .lit, .heap] [21] (o_ chartBuild_eq (o_ (hsame (chartBuild_H ++ [.cells [.slice (some ⟨13, 0, none⟩) 2 2, .int .i64 0] 164 2])) o0)) (by kernel_rfl) rfl (by kernel_rfl)

theorem look_4_10_1_eq : AOnN Tryz.prog 61 [.int .i64 4, .int .i64 10, .bool true] [] (.tuple ⟨[.slice (some ⟨0, 0, none⟩) 2 UNK, .int .i64 0]⟩) [] [.row [.int .i64 10, .int .i64 9] 131 1] :=
  onN 400 [.inl, .inl, .lit, .lit, .callN chartBuild_V [] chartBuild_H, .inl, .lit, .heap] [21] (o_ chartBuild_eq (o_ (hsame (chartBuild_H ++ [.cells [.slice (some ⟨13, 0, none⟩) 2 2, .int .i64 0] 164 2])) o0)) (by kernel_rfl) rfl (by kernel_rfl)

theorem look_4_11_0_eq : AOnN Tryz.prog 61 [.int .i64 4, .int .i64 11, .bool false] [] (.tuple ⟨[.slice none 0 0, .int .i64 4]⟩) [] [] :=
  onN 400 [.inl, .inl, .lit, .lit, .callN chartBuild_V [] chartBuild_H, .inl, .lit, .heap] [] (o_ chartBuild_eq (o_ (hsame (chartBuild_H ++ [.cells [.slice none 0 0, .int .i64 4] 164 2])) o0)) (by kernel_rfl) rfl (by kernel_rfl)

theorem look_4_11_1_eq : AOnN Tryz.prog 61 [.int .i64 4, .int .i64 11, .bool true] [] (.tuple ⟨[.slice none 0 0, .int .i64 4]⟩) [] [] :=
  onN 400 [.inl, .inl, .lit, .lit, .callN chartBuild_V [] chartBuild_H, .inl, .lit, .heap] [] (o_ chartBuild_eq (o_ (hsame (chartBuild_H ++ [.cells [.slice none 0 0, .int .i64 4] 164 2])) o0)) (by kernel_rfl) rfl (by kernel_rfl)

theorem look_4_12_0_eq : AOnN Tryz.prog 61 [.int .i64 4, .int .i64 12, .bool false] [] (.tuple ⟨[.slice (some ⟨0, 0, none⟩) 1 UNK, .int .i64 0]⟩) [] [.row [.int .i64 11] 131 1] :=
  onN 400 [.inl, .inl, .lit, .lit, .callN chartBuild_V [] chartBuild_H, .inl, .lit, .heap] [21] (o_ chartBuild_eq (o_ (hsame (chartBuild_H ++ [.cells [.slice (some ⟨14, 0, none⟩) 1 1, .int .i64 0] 164 2])) o0)) (by kernel_rfl) rfl (by kernel_rfl)

theorem look_4_12_1_eq : AOnN Tryz.prog 61 [.int .i64 4, .int .i64 12, .bool true] [] (.tuple ⟨[.slice none 0 0, .int .i64 4]⟩) [] [] :=
  onN 400 [.inl, .inl, .lit, .lit, .callN chartBuild_V [] chartBuild_H, .inl, .lit, .heap] [] (o_ chartBuild_eq (o_ (hsame (chartBuild_H ++ [.cells [.slice none 0 0, .int .i64 4] 164 2])) o0)) (by kernel_rfl) rfl (by kernel_rfl)

theorem look_4_13_0_eq : AOnN Tryz.prog 61 [.int .i64 4, .int .i64 13, .bool false] [] (.tuple ⟨[.slice (some ⟨0, 0, none⟩) 1 UNK, .int .i64 4]⟩) [] [.row [.int .i64 12] 131 1] :=
  onN 400 [.inl, .inl, .lit, .lit, .callN chartBuild_V [] chartBuild_H, .inl, .lit, .heap] [21] (o_ chartBuild_eq (o_ (hsame (chartBuild_H ++ [.cells [.slice (some ⟨16, 0, none⟩) 1 1, .int .i64 4] 164 2])) o0)) (by kernel_rfl) rfl (by kernel_rfl)

theorem look_4_13_1_eq : AOnN Tryz.prog 61 [.int .i64 4, .int .i64 13, .bool true] [] (.tuple ⟨[.slice (some ⟨0, 0, none⟩) 1 UNK, .int .i64 4]⟩) [] [.row [.int .i64 12] 131 1] :=
  onN 400 [.inl, .inl, .lit, .lit, .callN chartBuild_V [] chartBuild_H, .inl, .lit, .heap] [21] (o_ chartBuild_eq (o_ (hsame (chartBuild_H ++ [.cells [.slice (some ⟨16, 0, none⟩) 1 1, .int .i64 4] 164 2])) o0)) (by kernel_rfl) rfl (by kernel_rfl)

def lookOut (s : Int) (k : Int) (m : Bool) : Unit × Int :=
  ((), s)
def lookOut_c (r : Unit × Int) : Dir := .callL (.tuple ⟨[.slice none 0 0, .int .i64 r.2]⟩) []
def lookOut_G (s : Int) (k : Int) (m : Bool) (r : Unit × Int) : Prop := AOn Tryz.prog 61 [.int .i64 s, .int .i64 k, .bool m] [] (.tuple ⟨[.slice none 0 0, .int .i64 r.2]⟩) []
theorem lookOut_eq (s : Int) (k : Int) (m : Bool) (hs : s < 0 ∨ s > 4 ∨ k < 0 ∨ k > 13) : lookOut_G s k m (lookOut s k m) := by
  unfold lookOut
  refine bySame (decide (s ≥ 0)) ?_
  apply bi <;> intro hb0
  · refine bySame (!(decide (s ≤ 4))) ?_
    apply bi <;> intro hb1
    · refine on0 400 [.inl, .gd 5 true, .gd 13 true, .lit] (o_ hb0 (o_ hb1 o0)) ?_ rfl; kernel_rfl
    · refine bySame (decide (k ≥ 0)) ?_
      apply bi <;> intro hb2
      · refine byNotF (!(decide (k ≤ 13))) (fun hb3 => ?_) (fun hb3 => ?_)
        · refine on0 400 [.inl, .gd 5 true, .gd 13 false, .inl, .gd 5 true, .br true] (o_ hb0 (o_ hb1 (o_ hb2 (o_ hb3 o0)))) ?_ rfl; kernel_rfl
        · refine byc (m) (fun hb4 => ?_) (fun hb4 => ?_)
          · exfalso; first | omega | (simp only [zor, zand, zorf, zandf, znt, znf, zeq, zne, zeqf, znef, zd, zdf] at *; omega)
          · exfalso; first | omega | (simp only [zor, zand, zorf, zandf, znt, znf, zeq, zne, zeqf, znef, zd, zdf] at *; omega)
      · refine on0 400 [.inl, .gd 5 true, .gd 13 false, .inl, .gd 5 false, .lit] (o_ hb0 (o_ hb1 (o_ hb2 o0))) ?_ rfl; kernel_rfl
  · refine on0 400 [.inl, .gd 5 false, .lit] (o_ hb0 o0) ?_ rfl; kernel_rfl

end Go.Proofs.E17

namespace Go.Proofs.E17
open Go Go.AX Go.Proofs
set_option maxRecDepth 1000000
set_option linter.unusedVariables false
set_option linter.unusedSimpArgs false

def erpsNew_x0 (p : Plan) (i : Int) (now : Int) : Nd := says (Nd.mk (planNode p i) 0 (-1) p.revert p.guard p.rest p.wait 4 (B2.mk false true) (B2.mk false false) 14 (Bk.mk 0 0 0) (P2.mk (Pair.mk false false 0) (Pair.mk false false 0)) (Msg.mk 0 false false false 0) ((burstNew p.gap p.period).1)) now (Msg.mk 0 false false true 0)
def erpsNew_x1 (p : Plan) (i : Int) (now : Int) : Nd := start1 (erpsNew_x0 p i now) now ((erpsNew_x0 p i now).rest)
def erpsNew_x2 (p : Plan) (i : Int) (now : Int) : Nd := says (Nd.mk (planNode p i) 1 1 p.revert p.guard p.rest p.wait 4 (B2.mk false true) (B2.mk false false) 14 (Bk.mk 0 0 0) (P2.mk (Pair.mk false false 0) (Pair.mk false false 0)) (Msg.mk 0 false false false 0) ((burstNew p.gap p.period).1)) now (Msg.mk 0 false false true 0)
def erpsNew_x3 (p : Plan) (i : Int) (now : Int) : Nd := start1 (erpsNew_x2 p i now) now ((erpsNew_x2 p i now).rest)
def erpsNew_x4 (p : Plan) (i : Int) (now : Int) : Nd := says (Nd.mk (planNode p i) 2 0 p.revert p.guard p.rest p.wait 4 (B2.mk true false) (B2.mk false false) 14 (Bk.mk 0 0 0) (P2.mk (Pair.mk false false 0) (Pair.mk false false 0)) (Msg.mk 0 false false false 0) ((burstNew p.gap p.period).1)) now (Msg.mk 0 false false false 0)
def erpsNew_x5 (p : Plan) (i : Int) (now : Int) : Nd := start1 (erpsNew_x4 p i now) now ((erpsNew_x4 p i now).rest)
def erpsNew (p : Plan) (i : Int) (now : Int) : Nd × Int :=
  bif (planCheck p) != 0 then
    ((Nd.mk 0 0 0 false 0 0 0 0 (B2.mk false false) (B2.mk false false) 0 (Bk.mk 0 0 0) (P2.mk (Pair.mk false false 0) (Pair.mk false false 0)) (Msg.mk 0 false false false 0) (Burst.mk 0 0 0 false 0)), (planCheck p))
  else
    bif (decide (i < 0)) || ((decide (i ≥ p.nodes)) || ((decide (now < 0)) || (decide (now > 1099509530624)))) then
      ((Nd.mk 0 0 0 false 0 0 0 0 (B2.mk false false) (B2.mk false false) 0 (Bk.mk 0 0 0) (P2.mk (Pair.mk false false 0) (Pair.mk false false 0)) (Msg.mk 0 false false false 0) (Burst.mk 0 0 0 false 0)), 4)
    else
      bif ((burstNew p.gap p.period).2) != 0 then
        ((Nd.mk 0 0 0 false 0 0 0 0 (B2.mk false false) (B2.mk false false) 0 (Bk.mk 0 0 0) (P2.mk (Pair.mk false false 0) (Pair.mk false false 0)) (Msg.mk 0 false false false 0) (Burst.mk 0 0 0 false 0)), (burstNew p.gap p.period).2)
      else
        bif !(decide (i < p.nodes)) then
          bif (((erpsNew_x0 p i now).role) == 1) && ((erpsNew_x0 p i now).revert) then
            (erpsNew_x1 p i now, 0)
          else
            (erpsNew_x0 p i now, 0)
        else
          bif i == p.owner then
            bif (((erpsNew_x2 p i now).role) == 1) && ((erpsNew_x2 p i now).revert) then
              (erpsNew_x3 p i now, 0)
            else
              (erpsNew_x2 p i now, 0)
          else
            bif i == (Int.tmod (IntKind.wrap .i64 (p.owner + 1)) p.nodes) then
              bif (((erpsNew_x4 p i now).role) == 1) && ((erpsNew_x4 p i now).revert) then
                (erpsNew_x5 p i now, 0)
              else
                (erpsNew_x4 p i now, 0)
            else
              bif (((erpsNew_x0 p i now).role) == 1) && ((erpsNew_x0 p i now).revert) then
                (erpsNew_x1 p i now, 0)
              else
                (erpsNew_x0 p i now, 0)
def erpsNew_c (r : Nd × Int) : Dir := .callL (.tuple ⟨[.agg ⟨Nd.enc r.1⟩, .int .i64 r.2]⟩) []
def erpsNew_G (p : Plan) (i : Int) (now : Int) (r : Nd × Int) : Prop := AOn Tryz.prog 6 [.agg ⟨Plan.enc p⟩, .int .i64 i, .int .i64 now] [] (.tuple ⟨[.agg ⟨Nd.enc r.1⟩, .int .i64 r.2]⟩) []
theorem erpsNew_eq (p : Plan) (i : Int) (now : Int) : erpsNew_G p i now (erpsNew p i now) := by
  unfold erpsNew
  apply bi <;> intro hb0
  · refine on0 400 [planCheck_c (planCheck p), .br true] (o_ (planCheck_eq p) (o_ hb0 o0)) ?_ rfl; kernel_rfl
  · refine byOr ?_
    apply bi <;> intro hb1
    · refine on0 400 [planCheck_c (planCheck p), .br false, .gd 21 true, .lit] (o_ (planCheck_eq p) (o_ hb0 (o_ hb1 o0))) ?_ rfl; kernel_rfl
    · refine byOr ?_
      apply bi <;> intro hb2
      · refine on0 400 [planCheck_c (planCheck p), .br false, .gd 21 false, .gd 27 true, .lit] (o_ (planCheck_eq p) (o_ hb0 (o_ hb1 (o_ hb2 o0)))) ?_ rfl; kernel_rfl
      · refine byOr ?_
        apply bi <;> intro hb3
        · refine on0 400 [planCheck_c (planCheck p), .br false, .gd 21 false, .gd 27 false, .gd 31 true, .lit] (o_ (planCheck_eq p) (o_ hb0 (o_ hb1 (o_ hb2 (o_ hb3 o0))))) ?_ rfl; kernel_rfl
        · apply bi <;> intro hb4
          · refine on0 400 [planCheck_c (planCheck p), .br false, .gd 21 false, .gd 27 false, .gd 31 false, .br true] (o_ (planCheck_eq p) (o_ hb0 (o_ hb1 (o_ hb2 (o_ hb3 (o_ hb4 o0)))))) ?_ rfl; kernel_rfl
          · apply bi <;> intro hb5
            · refine on0 400 [planCheck_c (planCheck p), .br false, .gd 21 false, .gd 27 false, .gd 31 false, .br false, burstNew_c (burstNew p.gap p.period), .br true] (o_ (planCheck_eq p) (o_ hb0 (o_ hb1 (o_ hb2 (o_ hb3 (o_ hb4 (o_ (burstNew_eq p.gap p.period) (o_ hb5 o0)))))))) ?_ rfl; kernel_rfl
            · apply bi <;> intro hb6
              · refine byAnd ?_
                apply bi <;> intro hb7
                · apply bi <;> intro hb8
                  · refine on0 400 [planCheck_c (planCheck p), .br false, .gd 21 false, .gd 27 false, .gd 31 false, .br false, burstNew_c (burstNew p.gap p.period), .br false, planNode_c (planNode p i), .heap, .heap, .inl, .inl, planCheck_c (planCheck p), .gd 8 true, .gd 12 true, .br true, .lit, says_c 3 (erpsNew_x0 p i now), .inl, .gd 6 true, .br true, start1_c 3 (erpsNew_x1 p i now)] (o_ (planCheck_eq p) (o_ hb0 (o_ hb1 (o_ hb2 (o_ hb3 (o_ hb4 (o_ (burstNew_eq p.gap p.period) (o_ hb5 (o_ (planNode_eq p i) (o_ (hsame [.cells (Plan.enc p) 24 16, .cells [.int .u64 0, .int .i64 0, .int .i64 0, .bool false, .int .i64 0, .int .i64 0, .int .i64 0, .int .i64 0, .bool false, .bool false, .bool false, .bool false, .int .i64 0, .int .i64 0, .int .i64 0, .int .i64 0, .int .i64 0, .int .i64 0, .int .i64 0, .int .i64 0, .int .i64 0, .bool false, .bool false, .int .u64 0, .bool false, .bool false, .int .u64 0, .int .u8 0, .bool false, .bool false, .bool false, .int .u64 0, .int .i64 0, .int .i64 0, .int .i64 0, .bool false, .int .i64 0] 44 37, .cells [.int .i64 (((burstNew p.gap p.period).1).gap), .int .i64 (((burstNew p.gap p.period).1).period), .int .i64 (((burstNew p.gap p.period).1).next), .bool (((burstNew p.gap p.period).1).on), .int .i64 (((burstNew p.gap p.period).1).said)] 42 5]) (o_ (planCheck_eq p) (o_ (show ((planCheck p) == 0) = true from by first | omega | (simp only [zor, zand, zorf, zandf, znt, znf, zeq, zne, zeqf, znef, zd, zdf] at *; omega)) (o_ (show (decide (i ≥ 0)) = true from by first | omega | (simp only [zor, zand, zorf, zandf, znt, znf, zeq, zne, zeqf, znef, zd, zdf] at *; omega)) (o_ hb6 (o_ (says_eq (Nd.mk (planNode p i) 0 (-1) p.revert p.guard p.rest p.wait 4 (B2.mk false true) (B2.mk false false) 14 (Bk.mk 0 0 0) (P2.mk (Pair.mk false false 0) (Pair.mk false false 0)) (Msg.mk 0 false false false 0) ((burstNew p.gap p.period).1)) now (Msg.mk 0 false false true 0) 3) (o_ hb7 (o_ hb8 (o_ (start1_eq (erpsNew_x0 p i now) now ((erpsNew_x0 p i now).rest) 3) o0)))))))))))))))))) ?_ rfl; kernel_rfl
                  · refine on0 400 [planCheck_c (planCheck p), .br false, .gd 21 false, .gd 27 false, .gd 31 false, .br false, burstNew_c (burstNew p.gap p.period), .br false, planNode_c (planNode p i), .heap, .heap, .inl, .inl, planCheck_c (planCheck p), .gd 8 true, .gd 12 true, .br true, .lit, says_c 3 (erpsNew_x0 p i now), .inl, .gd 6 true, .br false] (o_ (planCheck_eq p) (o_ hb0 (o_ hb1 (o_ hb2 (o_ hb3 (o_ hb4 (o_ (burstNew_eq p.gap p.period) (o_ hb5 (o_ (planNode_eq p i) (o_ (hsame [.cells (Plan.enc p) 24 16, .cells [.int .u64 0, .int .i64 0, .int .i64 0, .bool false, .int .i64 0, .int .i64 0, .int .i64 0, .int .i64 0, .bool false, .bool false, .bool false, .bool false, .int .i64 0, .int .i64 0, .int .i64 0, .int .i64 0, .int .i64 0, .int .i64 0, .int .i64 0, .int .i64 0, .int .i64 0, .bool false, .bool false, .int .u64 0, .bool false, .bool false, .int .u64 0, .int .u8 0, .bool false, .bool false, .bool false, .int .u64 0, .int .i64 0, .int .i64 0, .int .i64 0, .bool false, .int .i64 0] 44 37, .cells [.int .i64 (((burstNew p.gap p.period).1).gap), .int .i64 (((burstNew p.gap p.period).1).period), .int .i64 (((burstNew p.gap p.period).1).next), .bool (((burstNew p.gap p.period).1).on), .int .i64 (((burstNew p.gap p.period).1).said)] 42 5]) (o_ (planCheck_eq p) (o_ (show ((planCheck p) == 0) = true from by first | omega | (simp only [zor, zand, zorf, zandf, znt, znf, zeq, zne, zeqf, znef, zd, zdf] at *; omega)) (o_ (show (decide (i ≥ 0)) = true from by first | omega | (simp only [zor, zand, zorf, zandf, znt, znf, zeq, zne, zeqf, znef, zd, zdf] at *; omega)) (o_ hb6 (o_ (says_eq (Nd.mk (planNode p i) 0 (-1) p.revert p.guard p.rest p.wait 4 (B2.mk false true) (B2.mk false false) 14 (Bk.mk 0 0 0) (P2.mk (Pair.mk false false 0) (Pair.mk false false 0)) (Msg.mk 0 false false false 0) ((burstNew p.gap p.period).1)) now (Msg.mk 0 false false true 0) 3) (o_ hb7 (o_ hb8 o0))))))))))))))))) ?_ rfl; kernel_rfl
                · refine on0 400 [planCheck_c (planCheck p), .br false, .gd 21 false, .gd 27 false, .gd 31 false, .br false, burstNew_c (burstNew p.gap p.period), .br false, planNode_c (planNode p i), .heap, .heap, .inl, .inl, planCheck_c (planCheck p), .gd 8 true, .gd 12 true, .br true, .lit, says_c 3 (erpsNew_x0 p i now), .inl, .gd 6 false, .lit] (o_ (planCheck_eq p) (o_ hb0 (o_ hb1 (o_ hb2 (o_ hb3 (o_ hb4 (o_ (burstNew_eq p.gap p.period) (o_ hb5 (o_ (planNode_eq p i) (o_ (hsame [.cells (Plan.enc p) 24 16, .cells [.int .u64 0, .int .i64 0, .int .i64 0, .bool false, .int .i64 0, .int .i64 0, .int .i64 0, .int .i64 0, .bool false, .bool false, .bool false, .bool false, .int .i64 0, .int .i64 0, .int .i64 0, .int .i64 0, .int .i64 0, .int .i64 0, .int .i64 0, .int .i64 0, .int .i64 0, .bool false, .bool false, .int .u64 0, .bool false, .bool false, .int .u64 0, .int .u8 0, .bool false, .bool false, .bool false, .int .u64 0, .int .i64 0, .int .i64 0, .int .i64 0, .bool false, .int .i64 0] 44 37, .cells [.int .i64 (((burstNew p.gap p.period).1).gap), .int .i64 (((burstNew p.gap p.period).1).period), .int .i64 (((burstNew p.gap p.period).1).next), .bool (((burstNew p.gap p.period).1).on), .int .i64 (((burstNew p.gap p.period).1).said)] 42 5]) (o_ (planCheck_eq p) (o_ (show ((planCheck p) == 0) = true from by first | omega | (simp only [zor, zand, zorf, zandf, znt, znf, zeq, zne, zeqf, znef, zd, zdf] at *; omega)) (o_ (show (decide (i ≥ 0)) = true from by first | omega | (simp only [zor, zand, zorf, zandf, znt, znf, zeq, zne, zeqf, znef, zd, zdf] at *; omega)) (o_ hb6 (o_ (says_eq (Nd.mk (planNode p i) 0 (-1) p.revert p.guard p.rest p.wait 4 (B2.mk false true) (B2.mk false false) 14 (Bk.mk 0 0 0) (P2.mk (Pair.mk false false 0) (Pair.mk false false 0)) (Msg.mk 0 false false false 0) ((burstNew p.gap p.period).1)) now (Msg.mk 0 false false true 0) 3) (o_ hb7 o0)))))))))))))))) ?_ rfl; kernel_rfl
              · apply bi <;> intro hb7
                · refine byAnd ?_
                  apply bi <;> intro hb8
                  · apply bi <;> intro hb9
                    · refine on0 400 [planCheck_c (planCheck p), .br false, .gd 21 false, .gd 27 false, .gd 31 false, .br false, burstNew_c (burstNew p.gap p.period), .br false, planNode_c (planNode p i), .heap, .heap, .inl, .inl, planCheck_c (planCheck p), .gd 8 true, .gd 12 true, .br false, .br true, .lit, says_c 3 (erpsNew_x2 p i now), .inl, .gd 6 true, .br true, start1_c 3 (erpsNew_x3 p i now)] (o_ (planCheck_eq p) (o_ hb0 (o_ hb1 (o_ hb2 (o_ hb3 (o_ hb4 (o_ (burstNew_eq p.gap p.period) (o_ hb5 (o_ (planNode_eq p i) (o_ (hsame [.cells (Plan.enc p) 24 16, .cells [.int .u64 0, .int .i64 0, .int .i64 0, .bool false, .int .i64 0, .int .i64 0, .int .i64 0, .int .i64 0, .bool false, .bool false, .bool false, .bool false, .int .i64 0, .int .i64 0, .int .i64 0, .int .i64 0, .int .i64 0, .int .i64 0, .int .i64 0, .int .i64 0, .int .i64 0, .bool false, .bool false, .int .u64 0, .bool false, .bool false, .int .u64 0, .int .u8 0, .bool false, .bool false, .bool false, .int .u64 0, .int .i64 0, .int .i64 0, .int .i64 0, .bool false, .int .i64 0] 44 37, .cells [.int .i64 (((burstNew p.gap p.period).1).gap), .int .i64 (((burstNew p.gap p.period).1).period), .int .i64 (((burstNew p.gap p.period).1).next), .bool (((burstNew p.gap p.period).1).on), .int .i64 (((burstNew p.gap p.period).1).said)] 42 5]) (o_ (planCheck_eq p) (o_ (show ((planCheck p) == 0) = true from by first | omega | (simp only [zor, zand, zorf, zandf, znt, znf, zeq, zne, zeqf, znef, zd, zdf] at *; omega)) (o_ (show (decide (i ≥ 0)) = true from by first | omega | (simp only [zor, zand, zorf, zandf, znt, znf, zeq, zne, zeqf, znef, zd, zdf] at *; omega)) (o_ hb6 (o_ hb7 (o_ (says_eq (Nd.mk (planNode p i) 1 1 p.revert p.guard p.rest p.wait 4 (B2.mk false true) (B2.mk false false) 14 (Bk.mk 0 0 0) (P2.mk (Pair.mk false false 0) (Pair.mk false false 0)) (Msg.mk 0 false false false 0) ((burstNew p.gap p.period).1)) now (Msg.mk 0 false false true 0) 3) (o_ hb8 (o_ hb9 (o_ (start1_eq (erpsNew_x2 p i now) now ((erpsNew_x2 p i now).rest) 3) o0))))))))))))))))))) ?_ rfl; kernel_rfl
                    · refine on0 400 [planCheck_c (planCheck p), .br false, .gd 21 false, .gd 27 false, .gd 31 false, .br false, burstNew_c (burstNew p.gap p.period), .br false, planNode_c (planNode p i), .heap, .heap, .inl, .inl, planCheck_c (planCheck p), .gd 8 true, .gd 12 true, .br false, .br true, .lit, says_c 3 (erpsNew_x2 p i now), .inl, .gd 6 true, .br false] (o_ (planCheck_eq p) (o_ hb0 (o_ hb1 (o_ hb2 (o_ hb3 (o_ hb4 (o_ (burstNew_eq p.gap p.period) (o_ hb5 (o_ (planNode_eq p i) (o_ (hsame [.cells (Plan.enc p) 24 16, .cells [.int .u64 0, .int .i64 0, .int .i64 0, .bool false, .int .i64 0, .int .i64 0, .int .i64 0, .int .i64 0, .bool false, .bool false, .bool false, .bool false, .int .i64 0, .int .i64 0, .int .i64 0, .int .i64 0, .int .i64 0, .int .i64 0, .int .i64 0, .int .i64 0, .int .i64 0, .bool false, .bool false, .int .u64 0, .bool false, .bool false, .int .u64 0, .int .u8 0, .bool false, .bool false, .bool false, .int .u64 0, .int .i64 0, .int .i64 0, .int .i64 0, .bool false, .int .i64 0] 44 37, .cells [.int .i64 (((burstNew p.gap p.period).1).gap), .int .i64 (((burstNew p.gap p.period).1).period), .int .i64 (((burstNew p.gap p.period).1).next), .bool (((burstNew p.gap p.period).1).on), .int .i64 (((burstNew p.gap p.period).1).said)] 42 5]) (o_ (planCheck_eq p) (o_ (show ((planCheck p) == 0) = true from by first | omega | (simp only [zor, zand, zorf, zandf, znt, znf, zeq, zne, zeqf, znef, zd, zdf] at *; omega)) (o_ (show (decide (i ≥ 0)) = true from by first | omega | (simp only [zor, zand, zorf, zandf, znt, znf, zeq, zne, zeqf, znef, zd, zdf] at *; omega)) (o_ hb6 (o_ hb7 (o_ (says_eq (Nd.mk (planNode p i) 1 1 p.revert p.guard p.rest p.wait 4 (B2.mk false true) (B2.mk false false) 14 (Bk.mk 0 0 0) (P2.mk (Pair.mk false false 0) (Pair.mk false false 0)) (Msg.mk 0 false false false 0) ((burstNew p.gap p.period).1)) now (Msg.mk 0 false false true 0) 3) (o_ hb8 (o_ hb9 o0)))))))))))))))))) ?_ rfl; kernel_rfl
                  · refine on0 400 [planCheck_c (planCheck p), .br false, .gd 21 false, .gd 27 false, .gd 31 false, .br false, burstNew_c (burstNew p.gap p.period), .br false, planNode_c (planNode p i), .heap, .heap, .inl, .inl, planCheck_c (planCheck p), .gd 8 true, .gd 12 true, .br false, .br true, .lit, says_c 3 (erpsNew_x2 p i now), .inl, .gd 6 false, .lit] (o_ (planCheck_eq p) (o_ hb0 (o_ hb1 (o_ hb2 (o_ hb3 (o_ hb4 (o_ (burstNew_eq p.gap p.period) (o_ hb5 (o_ (planNode_eq p i) (o_ (hsame [.cells (Plan.enc p) 24 16, .cells [.int .u64 0, .int .i64 0, .int .i64 0, .bool false, .int .i64 0, .int .i64 0, .int .i64 0, .int .i64 0, .bool false, .bool false, .bool false, .bool false, .int .i64 0, .int .i64 0, .int .i64 0, .int .i64 0, .int .i64 0, .int .i64 0, .int .i64 0, .int .i64 0, .int .i64 0, .bool false, .bool false, .int .u64 0, .bool false, .bool false, .int .u64 0, .int .u8 0, .bool false, .bool false, .bool false, .int .u64 0, .int .i64 0, .int .i64 0, .int .i64 0, .bool false, .int .i64 0] 44 37, .cells [.int .i64 (((burstNew p.gap p.period).1).gap), .int .i64 (((burstNew p.gap p.period).1).period), .int .i64 (((burstNew p.gap p.period).1).next), .bool (((burstNew p.gap p.period).1).on), .int .i64 (((burstNew p.gap p.period).1).said)] 42 5]) (o_ (planCheck_eq p) (o_ (show ((planCheck p) == 0) = true from by first | omega | (simp only [zor, zand, zorf, zandf, znt, znf, zeq, zne, zeqf, znef, zd, zdf] at *; omega)) (o_ (show (decide (i ≥ 0)) = true from by first | omega | (simp only [zor, zand, zorf, zandf, znt, znf, zeq, zne, zeqf, znef, zd, zdf] at *; omega)) (o_ hb6 (o_ hb7 (o_ (says_eq (Nd.mk (planNode p i) 1 1 p.revert p.guard p.rest p.wait 4 (B2.mk false true) (B2.mk false false) 14 (Bk.mk 0 0 0) (P2.mk (Pair.mk false false 0) (Pair.mk false false 0)) (Msg.mk 0 false false false 0) ((burstNew p.gap p.period).1)) now (Msg.mk 0 false false true 0) 3) (o_ hb8 o0))))))))))))))))) ?_ rfl; kernel_rfl
                · apply bi <;> intro hb8
                  · refine byAnd ?_
                    apply bi <;> intro hb9
                    · apply bi <;> intro hb10
                      · refine on0 400 [planCheck_c (planCheck p), .br false, .gd 21 false, .gd 27 false, .gd 31 false, .br false, burstNew_c (burstNew p.gap p.period), .br false, planNode_c (planNode p i), .heap, .heap, .inl, .inl, planCheck_c (planCheck p), .gd 8 true, .gd 12 true, .br false, .br false, .owe 23, .br true, .lit, says_c 3 (erpsNew_x4 p i now), .inl, .gd 6 true, .br true, start1_c 3 (erpsNew_x5 p i now)] (o_ (planCheck_eq p) (o_ hb0 (o_ hb1 (o_ hb2 (o_ hb3 (o_ hb4 (o_ (burstNew_eq p.gap p.period) (o_ hb5 (o_ (planNode_eq p i) (o_ (hsame [.cells (Plan.enc p) 24 16, .cells [.int .u64 0, .int .i64 0, .int .i64 0, .bool false, .int .i64 0, .int .i64 0, .int .i64 0, .int .i64 0, .bool false, .bool false, .bool false, .bool false, .int .i64 0, .int .i64 0, .int .i64 0, .int .i64 0, .int .i64 0, .int .i64 0, .int .i64 0, .int .i64 0, .int .i64 0, .bool false, .bool false, .int .u64 0, .bool false, .bool false, .int .u64 0, .int .u8 0, .bool false, .bool false, .bool false, .int .u64 0, .int .i64 0, .int .i64 0, .int .i64 0, .bool false, .int .i64 0] 44 37, .cells [.int .i64 (((burstNew p.gap p.period).1).gap), .int .i64 (((burstNew p.gap p.period).1).period), .int .i64 (((burstNew p.gap p.period).1).next), .bool (((burstNew p.gap p.period).1).on), .int .i64 (((burstNew p.gap p.period).1).said)] 42 5]) (o_ (planCheck_eq p) (o_ (show ((planCheck p) == 0) = true from by first | omega | (simp only [zor, zand, zorf, zandf, znt, znf, zeq, zne, zeqf, znef, zd, zdf] at *; omega)) (o_ (show (decide (i ≥ 0)) = true from by first | omega | (simp only [zor, zand, zorf, zandf, znt, znf, zeq, zne, zeqf, znef, zd, zdf] at *; omega)) (o_ hb6 (o_ hb7 (o_ (bs1 (b0 := decide (p.nodes ≠ 0)) (by first | omega | (simp only [zor, zand, zorf, zandf, znt, znf, zeq, zne, zeqf, znef, zd, zdf] at *; omega))) (o_ hb8 (o_ (says_eq (Nd.mk (planNode p i) 2 0 p.revert p.guard p.rest p.wait 4 (B2.mk true false) (B2.mk false false) 14 (Bk.mk 0 0 0) (P2.mk (Pair.mk false false 0) (Pair.mk false false 0)) (Msg.mk 0 false false false 0) ((burstNew p.gap p.period).1)) now (Msg.mk 0 false false false 0) 3) (o_ hb9 (o_ hb10 (o_ (start1_eq (erpsNew_x4 p i now) now ((erpsNew_x4 p i now).rest) 3) o0))))))))))))))))))))) ?_ rfl; kernel_rfl
                      · refine on0 400 [planCheck_c (planCheck p), .br false, .gd 21 false, .gd 27 false, .gd 31 false, .br false, burstNew_c (burstNew p.gap p.period), .br false, planNode_c (planNode p i), .heap, .heap, .inl, .inl, planCheck_c (planCheck p), .gd 8 true, .gd 12 true, .br false, .br false, .owe 23, .br true, .lit, says_c 3 (erpsNew_x4 p i now), .inl, .gd 6 true, .br false] (o_ (planCheck_eq p) (o_ hb0 (o_ hb1 (o_ hb2 (o_ hb3 (o_ hb4 (o_ (burstNew_eq p.gap p.period) (o_ hb5 (o_ (planNode_eq p i) (o_ (hsame [.cells (Plan.enc p) 24 16, .cells [.int .u64 0, .int .i64 0, .int .i64 0, .bool false, .int .i64 0, .int .i64 0, .int .i64 0, .int .i64 0, .bool false, .bool false, .bool false, .bool false, .int .i64 0, .int .i64 0, .int .i64 0, .int .i64 0, .int .i64 0, .int .i64 0, .int .i64 0, .int .i64 0, .int .i64 0, .bool false, .bool false, .int .u64 0, .bool false, .bool false, .int .u64 0, .int .u8 0, .bool false, .bool false, .bool false, .int .u64 0, .int .i64 0, .int .i64 0, .int .i64 0, .bool false, .int .i64 0] 44 37, .cells [.int .i64 (((burstNew p.gap p.period).1).gap), .int .i64 (((burstNew p.gap p.period).1).period), .int .i64 (((burstNew p.gap p.period).1).next), .bool (((burstNew p.gap p.period).1).on), .int .i64 (((burstNew p.gap p.period).1).said)] 42 5]) (o_ (planCheck_eq p) (o_ (show ((planCheck p) == 0) = true from by first | omega | (simp only [zor, zand, zorf, zandf, znt, znf, zeq, zne, zeqf, znef, zd, zdf] at *; omega)) (o_ (show (decide (i ≥ 0)) = true from by first | omega | (simp only [zor, zand, zorf, zandf, znt, znf, zeq, zne, zeqf, znef, zd, zdf] at *; omega)) (o_ hb6 (o_ hb7 (o_ (bs1 (b0 := decide (p.nodes ≠ 0)) (by first | omega | (simp only [zor, zand, zorf, zandf, znt, znf, zeq, zne, zeqf, znef, zd, zdf] at *; omega))) (o_ hb8 (o_ (says_eq (Nd.mk (planNode p i) 2 0 p.revert p.guard p.rest p.wait 4 (B2.mk true false) (B2.mk false false) 14 (Bk.mk 0 0 0) (P2.mk (Pair.mk false false 0) (Pair.mk false false 0)) (Msg.mk 0 false false false 0) ((burstNew p.gap p.period).1)) now (Msg.mk 0 false false false 0) 3) (o_ hb9 (o_ hb10 o0)))))))))))))))))))) ?_ rfl; kernel_rfl
                    · refine on0 400 [planCheck_c (planCheck p), .br false, .gd 21 false, .gd 27 false, .gd 31 false, .br false, burstNew_c (burstNew p.gap p.period), .br false, planNode_c (planNode p i), .heap, .heap, .inl, .inl, planCheck_c (planCheck p), .gd 8 true, .gd 12 true, .br false, .br false, .owe 23, .br true, .lit, says_c 3 (erpsNew_x4 p i now), .inl, .gd 6 false, .lit] (o_ (planCheck_eq p) (o_ hb0 (o_ hb1 (o_ hb2 (o_ hb3 (o_ hb4 (o_ (burstNew_eq p.gap p.period) (o_ hb5 (o_ (planNode_eq p i) (o_ (hsame [.cells (Plan.enc p) 24 16, .cells [.int .u64 0, .int .i64 0, .int .i64 0, .bool false, .int .i64 0, .int .i64 0, .int .i64 0, .int .i64 0, .bool false, .bool false, .bool false, .bool false, .int .i64 0, .int .i64 0, .int .i64 0, .int .i64 0, .int .i64 0, .int .i64 0, .int .i64 0, .int .i64 0, .int .i64 0, .bool false, .bool false, .int .u64 0, .bool false, .bool false, .int .u64 0, .int .u8 0, .bool false, .bool false, .bool false, .int .u64 0, .int .i64 0, .int .i64 0, .int .i64 0, .bool false, .int .i64 0] 44 37, .cells [.int .i64 (((burstNew p.gap p.period).1).gap), .int .i64 (((burstNew p.gap p.period).1).period), .int .i64 (((burstNew p.gap p.period).1).next), .bool (((burstNew p.gap p.period).1).on), .int .i64 (((burstNew p.gap p.period).1).said)] 42 5]) (o_ (planCheck_eq p) (o_ (show ((planCheck p) == 0) = true from by first | omega | (simp only [zor, zand, zorf, zandf, znt, znf, zeq, zne, zeqf, znef, zd, zdf] at *; omega)) (o_ (show (decide (i ≥ 0)) = true from by first | omega | (simp only [zor, zand, zorf, zandf, znt, znf, zeq, zne, zeqf, znef, zd, zdf] at *; omega)) (o_ hb6 (o_ hb7 (o_ (bs1 (b0 := decide (p.nodes ≠ 0)) (by first | omega | (simp only [zor, zand, zorf, zandf, znt, znf, zeq, zne, zeqf, znef, zd, zdf] at *; omega))) (o_ hb8 (o_ (says_eq (Nd.mk (planNode p i) 2 0 p.revert p.guard p.rest p.wait 4 (B2.mk true false) (B2.mk false false) 14 (Bk.mk 0 0 0) (P2.mk (Pair.mk false false 0) (Pair.mk false false 0)) (Msg.mk 0 false false false 0) ((burstNew p.gap p.period).1)) now (Msg.mk 0 false false false 0) 3) (o_ hb9 o0))))))))))))))))))) ?_ rfl; kernel_rfl
                  · refine byAnd ?_
                    apply bi <;> intro hb9
                    · apply bi <;> intro hb10
                      · refine on0 400 [planCheck_c (planCheck p), .br false, .gd 21 false, .gd 27 false, .gd 31 false, .br false, burstNew_c (burstNew p.gap p.period), .br false, planNode_c (planNode p i), .heap, .heap, .inl, .inl, planCheck_c (planCheck p), .gd 8 true, .gd 12 true, .br false, .br false, .owe 23, .br false, .lit, says_c 3 (erpsNew_x0 p i now), .inl, .gd 6 true, .br true, start1_c 3 (erpsNew_x1 p i now)] (o_ (planCheck_eq p) (o_ hb0 (o_ hb1 (o_ hb2 (o_ hb3 (o_ hb4 (o_ (burstNew_eq p.gap p.period) (o_ hb5 (o_ (planNode_eq p i) (o_ (hsame [.cells (Plan.enc p) 24 16, .cells [.int .u64 0, .int .i64 0, .int .i64 0, .bool false, .int .i64 0, .int .i64 0, .int .i64 0, .int .i64 0, .bool false, .bool false, .bool false, .bool false, .int .i64 0, .int .i64 0, .int .i64 0, .int .i64 0, .int .i64 0, .int .i64 0, .int .i64 0, .int .i64 0, .int .i64 0, .bool false, .bool false, .int .u64 0, .bool false, .bool false, .int .u64 0, .int .u8 0, .bool false, .bool false, .bool false, .int .u64 0, .int .i64 0, .int .i64 0, .int .i64 0, .bool false, .int .i64 0] 44 37, .cells [.int .i64 (((burstNew p.gap p.period).1).gap), .int .i64 (((burstNew p.gap p.period).1).period), .int .i64 (((burstNew p.gap p.period).1).next), .bool (((burstNew p.gap p.period).1).on), .int .i64 (((burstNew p.gap p.period).1).said)] 42 5]) (o_ (planCheck_eq p) (o_ (show ((planCheck p) == 0) = true from by first | omega | (simp only [zor, zand, zorf, zandf, znt, znf, zeq, zne, zeqf, znef, zd, zdf] at *; omega)) (o_ (show (decide (i ≥ 0)) = true from by first | omega | (simp only [zor, zand, zorf, zandf, znt, znf, zeq, zne, zeqf, znef, zd, zdf] at *; omega)) (o_ hb6 (o_ hb7 (o_ (bs1 (b0 := decide (p.nodes ≠ 0)) (by first | omega | (simp only [zor, zand, zorf, zandf, znt, znf, zeq, zne, zeqf, znef, zd, zdf] at *; omega))) (o_ hb8 (o_ (says_eq (Nd.mk (planNode p i) 0 (-1) p.revert p.guard p.rest p.wait 4 (B2.mk false true) (B2.mk false false) 14 (Bk.mk 0 0 0) (P2.mk (Pair.mk false false 0) (Pair.mk false false 0)) (Msg.mk 0 false false false 0) ((burstNew p.gap p.period).1)) now (Msg.mk 0 false false true 0) 3) (o_ hb9 (o_ hb10 (o_ (start1_eq (erpsNew_x0 p i now) now ((erpsNew_x0 p i now).rest) 3) o0))))))))))))))))))))) ?_ rfl; kernel_rfl
                      · refine on0 400 [planCheck_c (planCheck p), .br false, .gd 21 false, .gd 27 false, .gd 31 false, .br false, burstNew_c (burstNew p.gap p.period), .br false, planNode_c (planNode p i), .heap, .heap, .inl, .inl, planCheck_c (planCheck p), .gd 8 true, .gd 12 true, .br false, .br false, .owe 23, .br false, .lit, says_c 3 (erpsNew_x0 p i now), .inl, .gd 6 true, .br false] (o_ (planCheck_eq p) (o_ hb0 (o_ hb1 (o_ hb2 (o_ hb3 (o_ hb4 (o_ (burstNew_eq p.gap p.period) (o_ hb5 (o_ (planNode_eq p i) (o_ (hsame [.cells (Plan.enc p) 24 16, .cells [.int .u64 0, .int .i64 0, .int .i64 0, .bool false, .int .i64 0, .int .i64 0, .int .i64 0, .int .i64 0, .bool false, .bool false, .bool false, .bool false, .int .i64 0, .int .i64 0, .int .i64 0, .int .i64 0, .int .i64 0, .int .i64 0, .int .i64 0, .int .i64 0, .int .i64 0, .bool false, .bool false, .int .u64 0, .bool false, .bool false, .int .u64 0, .int .u8 0, .bool false, .bool false, .bool false, .int .u64 0, .int .i64 0, .int .i64 0, .int .i64 0, .bool false, .int .i64 0] 44 37, .cells [.int .i64 (((burstNew p.gap p.period).1).gap), .int .i64 (((burstNew p.gap p.period).1).period), .int .i64 (((burstNew p.gap p.period).1).next), .bool (((burstNew p.gap p.period).1).on), .int .i64 (((burstNew p.gap p.period).1).said)] 42 5]) (o_ (planCheck_eq p) (o_ (show ((planCheck p) == 0) = true from by first | omega | (simp only [zor, zand, zorf, zandf, znt, znf, zeq, zne, zeqf, znef, zd, zdf] at *; omega)) (o_ (show (decide (i ≥ 0)) = true from by first | omega | (simp only [zor, zand, zorf, zandf, znt, znf, zeq, zne, zeqf, znef, zd, zdf] at *; omega)) (o_ hb6 (o_ hb7 (o_ (bs1 (b0 := decide (p.nodes ≠ 0)) (by first | omega | (simp only [zor, zand, zorf, zandf, znt, znf, zeq, zne, zeqf, znef, zd, zdf] at *; omega))) (o_ hb8 (o_ (says_eq (Nd.mk (planNode p i) 0 (-1) p.revert p.guard p.rest p.wait 4 (B2.mk false true) (B2.mk false false) 14 (Bk.mk 0 0 0) (P2.mk (Pair.mk false false 0) (Pair.mk false false 0)) (Msg.mk 0 false false false 0) ((burstNew p.gap p.period).1)) now (Msg.mk 0 false false true 0) 3) (o_ hb9 (o_ hb10 o0)))))))))))))))))))) ?_ rfl; kernel_rfl
                    · refine on0 400 [planCheck_c (planCheck p), .br false, .gd 21 false, .gd 27 false, .gd 31 false, .br false, burstNew_c (burstNew p.gap p.period), .br false, planNode_c (planNode p i), .heap, .heap, .inl, .inl, planCheck_c (planCheck p), .gd 8 true, .gd 12 true, .br false, .br false, .owe 23, .br false, .lit, says_c 3 (erpsNew_x0 p i now), .inl, .gd 6 false, .lit] (o_ (planCheck_eq p) (o_ hb0 (o_ hb1 (o_ hb2 (o_ hb3 (o_ hb4 (o_ (burstNew_eq p.gap p.period) (o_ hb5 (o_ (planNode_eq p i) (o_ (hsame [.cells (Plan.enc p) 24 16, .cells [.int .u64 0, .int .i64 0, .int .i64 0, .bool false, .int .i64 0, .int .i64 0, .int .i64 0, .int .i64 0, .bool false, .bool false, .bool false, .bool false, .int .i64 0, .int .i64 0, .int .i64 0, .int .i64 0, .int .i64 0, .int .i64 0, .int .i64 0, .int .i64 0, .int .i64 0, .bool false, .bool false, .int .u64 0, .bool false, .bool false, .int .u64 0, .int .u8 0, .bool false, .bool false, .bool false, .int .u64 0, .int .i64 0, .int .i64 0, .int .i64 0, .bool false, .int .i64 0] 44 37, .cells [.int .i64 (((burstNew p.gap p.period).1).gap), .int .i64 (((burstNew p.gap p.period).1).period), .int .i64 (((burstNew p.gap p.period).1).next), .bool (((burstNew p.gap p.period).1).on), .int .i64 (((burstNew p.gap p.period).1).said)] 42 5]) (o_ (planCheck_eq p) (o_ (show ((planCheck p) == 0) = true from by first | omega | (simp only [zor, zand, zorf, zandf, znt, znf, zeq, zne, zeqf, znef, zd, zdf] at *; omega)) (o_ (show (decide (i ≥ 0)) = true from by first | omega | (simp only [zor, zand, zorf, zandf, znt, znf, zeq, zne, zeqf, znef, zd, zdf] at *; omega)) (o_ hb6 (o_ hb7 (o_ (bs1 (b0 := decide (p.nodes ≠ 0)) (by first | omega | (simp only [zor, zand, zorf, zandf, znt, znf, zeq, zne, zeqf, znef, zd, zdf] at *; omega))) (o_ hb8 (o_ (says_eq (Nd.mk (planNode p i) 0 (-1) p.revert p.guard p.rest p.wait 4 (B2.mk false true) (B2.mk false false) 14 (Bk.mk 0 0 0) (P2.mk (Pair.mk false false 0) (Pair.mk false false 0)) (Msg.mk 0 false false false 0) ((burstNew p.gap p.period).1)) now (Msg.mk 0 false false true 0) 3) (o_ hb9 o0))))))))))))))))))) ?_ rfl; kernel_rfl

theorem erpsNew_role (p : Plan) (i : Int) (now : Int) : RoleOk (erpsNew p i now).1 := by
  let G : Nd × Int → Prop := fun r => RoleOk r.1
  show G (erpsNew p i now)
  have h0 : RoleOk (erpsNew_x0 p i now) := (says_same _ _ _).roleOk (fun h => absurd rfl h)
  have h2 : RoleOk (erpsNew_x2 p i now) := (says_same _ _ _).roleOk (fun _ => .inr rfl)
  have h4 : RoleOk (erpsNew_x4 p i now) := (says_same _ _ _).roleOk (fun _ => .inl rfl)
  have h1 : RoleOk (erpsNew_x1 p i now) := (start1_same _ _ _).roleOk h0
  have h3 : RoleOk (erpsNew_x3 p i now) := (start1_same _ _ _).roleOk h2
  have h5 : RoleOk (erpsNew_x5 p i now) := (start1_same _ _ _).roleOk h4
  unfold erpsNew
  repeat' (first | (refine byIte (fun _ => ?_) (fun _ => ?_)) | exact h0 | exact h1 | exact h2 | exact h3 | exact h4 | exact h5 | exact fun h => absurd rfl h)

end Go.Proofs.E17
