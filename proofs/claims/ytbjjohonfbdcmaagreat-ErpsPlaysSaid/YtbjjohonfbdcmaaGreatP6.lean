/- Part 6 of 6 of the proof of: ErpsPlays holds for every input, without conditions -/
import Derived.Test.YtbjjohonfbdcmaaGreatP5
import Derived.Test.YtbjjohonfbdcmaaGreatChecked
import Derived.Test.YtbjjohonfbdcmaaGreatRows
namespace Go.Proofs.E17
open Go Go.AX Go.Proofs
set_option maxRecDepth 1000000
set_option linter.unusedVariables false
set_option linter.unusedSimpArgs false

theorem same8_true (b : Bk) (h : BkOk b) : same8 b = true := by
  let G : Bool → Prop := fun r => r = true
  show G (same8 b)
  unfold BkOk at h
  unfold same8
  repeat' (refine byIte (fun _ => ?_) (fun _ => ?_))
  all_goals (show _ = true)
  all_goals simp only [zor, zand, zorf, zandf, znt, znf, zeq, zne, zeqf, znef, zd, zdf] at *
  all_goals first | rfl | omega | (exfalso; omega) | simp_all
theorem same8_t (b : Bk) (h : BkOk b) : AOn Tryz.prog 48 [.agg ⟨Bk.enc b⟩, .agg ⟨RBk.enc (vb b)⟩] [] (.bool true) [] := by
  have e := same8_eq b h
  rwa [same8_true b h] at e
theorem rorder_v {n : Nd} (h : PI n) (now k port : Int) : AOn Tryz.prog 52 [.agg ⟨RNd.enc (vw n)⟩, .int .i64 now, .int .i64 k, .int .i64 port] [] (rorder_E (V2 (order n now k port))) [] := v_order n now k port h.own ▸ rorder_eq (vw n) now k port h.role h.own
theorem rfault_v {n : Nd} (h : PI n) (now port : Int) (bad : Bool) : AOn Tryz.prog 53 [.agg ⟨RNd.enc (vw n)⟩, .int .i64 now, .int .i64 port, .bool bad] [] (rfault_E (V2 (fault n now port bad))) [] := v_fault n now port bad h.own ▸ rfault_eq (vw n) now port bad h.role h.own
theorem rhear_v {n : Nd} (h : PI n) (now port : Int) (m : Msg) : AOn Tryz.prog 54 [.agg ⟨RNd.enc (vw n)⟩, .int .i64 now, .int .i64 port, .agg ⟨Msg.enc m⟩] [] (rhear_E (V2 (hear n now port m))) [] := v_hear n now port m h.own ▸ rhear_eq (vw n) now port m h.role h.own

def same17 (n : Nd) : Bool :=
  true
def same17_c (r : Bool) : Dir := .callL (.bool r) []
def same17_E (r : Bool) : Value := .bool r
theorem same17_eq (n : Nd) (hI : PI n) : AOn Tryz.prog 18 [.agg ⟨Nd.enc n⟩, .agg ⟨RNd.enc (vw n)⟩] [] (same17_E (same17 n)) [] := by
  have hbk := hI.bk
  unfold same17
  apply onT 400 same17_E
  apply kf (.is 9 (.bool true) :: .is 15 (.bool true) :: .is 22 (.bool true) :: .is 29 (.bool true) :: .is 36 (.bool true) :: .is 43 (.bool true) :: .is 50 (.bool true) :: .is 57 (.bool true) :: .is 64 (.bool true) :: .is 71 (.bool true) :: .is 78 (.bool true) :: .callL (.bool true) [] :: .inl :: lits 3 (.heap :: .is 93 (.bool true) :: .inl :: .heap :: [.is 101 (.bool true)])) (o_ (bis (show (n.me == n.me) = true from by simp)) (o_ (bis (show (n.role == n.role) = true from by simp)) (o_ (bis (show (n.rpl == n.rpl) = true from by simp)) (o_ (bis (show (n.revert == n.revert) = true from by simp)) (o_ (bis (show (n.guard == n.guard) = true from by simp)) (o_ (bis (show (n.rest == n.rest) = true from by simp)) (o_ (bis (show (n.wait == n.wait) = true from by simp)) (o_ (bis (show (n.state == n.state) = true from by simp)) (o_ (bis (show ((n.shut.w == n.shut.w) && ((n.shut.e == n.shut.e) && true)) = true from by simp [*])) (o_ (bis (show ((n.bad.w == n.bad.w) && ((n.bad.e == n.bad.e) && true)) = true from by simp [*])) (o_ (bis (show (n.own == n.own) = true from by simp)) (o_ (same8_t n.bank hbk) (o_ (hsame [.cells (Nd.enc n) 44 37, .cells (RNd.enc (vw n)) 73 45]) (o_ (bis (show (((n.pairs.w.some == n.pairs.w.some) && ((n.pairs.w.east == n.pairs.w.east) && ((n.pairs.w.node == n.pairs.w.node) && true))) && (((n.pairs.e.some == n.pairs.e.some) && ((n.pairs.e.east == n.pairs.e.east) && ((n.pairs.e.node == n.pairs.e.node) && true))) && true)) = true from by simp [*])) (o_ (hsame [.cells (Nd.enc n) 44 37, .cells (RNd.enc (vw n)) 73 45, .cells [.bool n.pairs.w.some, .bool n.pairs.w.east, .int .u64 n.pairs.w.node, .bool n.pairs.e.some, .bool n.pairs.e.east, .int .u64 n.pairs.e.node] 37 6, .cells [.bool n.pairs.w.some, .bool n.pairs.w.east, .int .u64 n.pairs.w.node, .bool n.pairs.e.some, .bool n.pairs.e.east, .int .u64 n.pairs.e.node] 68 6, .cells [.bool n.pairs.w.some, .bool n.pairs.w.east, .int .u64 n.pairs.w.node, .bool n.pairs.e.some, .bool n.pairs.e.east, .int .u64 n.pairs.e.node] 68 6]) (o_ (bis (show ((n.say.req == n.say.req) && ((n.say.block == n.say.block) && ((n.say.keep == n.say.keep) && ((n.say.east == n.say.east) && ((n.say.node == n.say.node) && true))))) = true from by simp [*])) o0))))))))))))))))
  apply kv 108 (bis (show ((n.burst.gap == n.burst.gap) && ((n.burst.period == n.burst.period) && ((n.burst.next == n.burst.next) && ((n.burst.on == n.burst.on) && ((n.burst.said == n.burst.said) && true))))) = true from by simp [*]))
  exact kl
  kernel_rfl
  rfl

def step17 (n : Nd) (now : Int) (a : Act17) : Nd :=
  bif a.kind == 0 then
    ((tick n now).1)
  else
    bif a.kind == 1 then
      ((order n now a.order a.port).1)
    else
      bif a.kind == 2 then
        ((fault n now a.port a.bad).1)
      else
        bif a.kind == 3 then
          ((hear n now a.port a.m).1)
        else
          n
def step17_c (r : Nd) : Dir := .callL (.tuple ⟨[.agg ⟨Nd.enc r⟩, .agg ⟨RNd.enc (vw r)⟩, .bool true]⟩) []
def step17_E (r : Nd) : Value := .tuple ⟨[.agg ⟨Nd.enc r⟩, .agg ⟨RNd.enc (vw r)⟩, .bool true]⟩
theorem step17_eq (n : Nd) (now : Int) (a : Act17) (hI : PI n) : AOn Tryz.prog 19 [.agg ⟨Nd.enc n⟩, .agg ⟨RNd.enc (vw n)⟩, .int .i64 now, .agg ⟨Act17.enc a⟩] [] (step17_E (step17 n now a)) [] := by
  have hr : n.role ≠ 0 → n.rpl = 0 ∨ n.rpl = 1 := hI.role
  unfold step17
  apply onT 400 step17_E
  apply ki 33
  intro hb0
  apply kk (tick_eq n now (by first | omega | (simp only [zor, zand, zorf, zandf, znt, znf, zeq, zne, zeqf, znef, zd, zdf] at *; omega)))
  apply kk (rtick_v hI now)
  apply kf [.priv [3, 4], .is 53 (.bool true), .is 57 (.bool true)] (o_ (bis (show (((tick n now).2.1) == ((tick n now).2.1)) = true from by simp)) (o_ (bis (show (((tick n now).2.2) == ((tick n now).2.2)) = true from by simp)) o0))
  exact kl
  intro hb0
  apply ki 59
  intro hb1
  apply kk (order_eq n now a.order a.port (by first | omega | (simp only [zor, zand, zorf, zandf, znt, znf, zeq, zne, zeqf, znef, zd, zdf] at *; omega)))
  apply kk (rorder_v hI now a.order a.port)
  apply kf [.priv [3, 4], .is 87 (.bool true), .is 91 (.bool true)] (o_ (bis (show (((order n now a.order a.port).2.1) == ((order n now a.order a.port).2.1)) = true from by simp)) (o_ (bis (show (((order n now a.order a.port).2.2) == ((order n now a.order a.port).2.2)) = true from by simp)) o0))
  exact kl
  intro hb1
  apply ki 93
  intro hb2
  apply kk (fault_eq n now a.port a.bad (by first | omega | (simp only [zor, zand, zorf, zandf, znt, znf, zeq, zne, zeqf, znef, zd, zdf] at *; omega)))
  apply kk (rfault_v hI now a.port a.bad)
  apply kf [.priv [3, 4], .is 119 (.bool true)] (o_ (bis (show (((fault n now a.port a.bad).2) == ((fault n now a.port a.bad).2)) = true from by simp)) o0)
  exact kl
  intro hb2
  apply ki 120
  intro hb3
  apply kk (hear_eq n now a.port a.m (by first | omega | (simp only [zor, zand, zorf, zandf, znt, znf, zeq, zne, zeqf, znef, zd, zdf] at *; omega)))
  apply kf [.cut 12, .inl, .heap, .callL (.tuple ⟨[.agg ⟨RNd.enc (vw ((hear n now a.port a.m).1))⟩, .bool ((hear n now a.port a.m).2)]⟩) []] (o_ (hsame [.cells (Nd.enc n) 44 37, .cells (RNd.enc (vw n)) 73 45, .cells (Act17.enc a) 50 10, .cells [.int .u64 0, .int .i64 0, .int .i64 0, .bool false, .int .i64 0, .int .i64 0, .int .i64 0, .int .i64 0, .bool false, .bool false, .bool false, .bool false, .int .i64 0, .int .i64 0, .int .i64 0, .int .i64 0, .int .i64 0, .int .i64 0, .int .i64 0, .int .i64 0, .int .i64 0, .bool false, .bool false, .int .u64 0, .bool false, .bool false, .int .u64 0, .int .u8 0, .bool false, .bool false, .bool false, .int .u64 0, .int .i64 0, .int .i64 0, .int .i64 0, .bool false, .int .i64 0] 44 37, .cells [.int .u64 0, .int .i64 0, .int .i64 0, .bool false, .int .i64 0, .int .i64 0, .int .i64 0, .int .i64 0, .bool false, .bool false, .bool false, .bool false, .int .i64 0, .bool false, .bool false, .bool false, .bool false, .bool false, .bool false, .bool false, .bool false, .int .i64 0, .int .i64 0, .int .i64 0, .int .i64 0, .int .i64 0, .int .i64 0, .int .i64 0, .int .i64 0, .bool false, .bool false, .int .u64 0, .bool false, .bool false, .int .u64 0, .int .u8 0, .bool false, .bool false, .bool false, .int .u64 0, .int .i64 0, .int .i64 0, .int .i64 0, .bool false, .int .i64 0] 73 45, .cells (Nd.enc ((hear n now a.port a.m).1)) 44 37]) (o_ (rhear_v hI now a.port a.m) o0))
  apply kf [.priv [3, 4], .is 147 (.bool true)] (o_ (bis (show (((hear n now a.port a.m).2) == ((hear n now a.port a.m).2)) = true from by simp)) o0)
  exact kl
  intro hb3
  apply kf [.priv [3]] o0
  exact kl
  kernel_rfl
  rfl

theorem pi_step {n : Nd} (h : PI n) (now : Int) (a : Act17) : PI (step17 n now a) := by
  unfold step17
  repeat' (refine byIte (fun _ => ?_) (fun _ => ?_))
  all_goals first | exact pi_tick h _ | exact pi_order h _ _ _ | exact pi_fault h _ _ _ | exact pi_hear h _ _ _ | exact h

end Go.Proofs.E17

namespace Go.Proofs.E17
open Go Go.AX Go.Proofs
set_option maxRecDepth 1000000
set_option linter.unusedVariables false
set_option linter.unusedSimpArgs false

def playsL_x0 (now : Int) (n : Nd) (a : Act17) : Nd := step17 n (IntKind.wrap .i64 (now + (IntKind.wrap .i64 a.later))) a
noncomputable def playsL_at (l : List Act17) (k : Nat) (s : Int × Nd) : Tm × AHeap := ((Tm.told 118 [(9, .pointer (some ⟨1, 0, none⟩)), (11, .pointer (some ⟨2, 0, none⟩)), (13, .int .i64 s.1), (72, .slice (some ⟨0, 0, none⟩) l.length UNR), (73, .int .i64 (l.length : Int)), (74, .int .i64 (k : Int))]), [.ro (encs Act17.enc l) 10, .cells (Nd.enc s.2) 44 37, .cells (RNd.enc (vw s.2)) 73 45])
noncomputable def playsL_fin (l : List Act17) (s : Int × Nd) : Tm × AHeap := ((Tm.told 118 []), [.ro (encs Act17.enc l) 10])
noncomputable def playsL_ret (l : List Act17) (r : Bool) : Tm × AHeap := ((Tm.told 118 [(8, .bool r)]), [.ro (encs Act17.enc l) 10])
def playsL_s (now : Int) (n : Nd) (a : Act17) : Bool × Bool × Int × Nd :=
  bif (decide ((IntKind.wrap .i64 (now + (IntKind.wrap .i64 a.later))) > 1099509530624)) || ((a.kind == 3) && (!(mayMsg a.m))) then
    (true, true, now, n)
  else
    (false, false, IntKind.wrap .i64 (now + (IntKind.wrap .i64 a.later)), playsL_x0 now n a)
def playsL (s : Int × Nd) (a : Act17) : Bool × Bool × Int × Nd := playsL_s s.1 s.2 a
noncomputable def playsL_E (l : List Act17) (k : Nat) (r : Bool × Bool × Int × Nd) : Exit × Tm × AHeap := (bif r.1 then .ret else .normal, bif r.1 then playsL_ret l r.2.1 else playsL_at l (k + 1) r.2.2)
theorem playsL_round (l : List Act17) (k : Nat) (now : Int) (n : Nd) (a : Act17) (hlen : l.length < 1099511627776) (hk : l[k]? = some a) (hI : PI n) (hn : 0 ≤ a.m.node) : AComes Tryz.prog 1 (roundAt Tryz.prog 5 0) (playsL_at l k (now, n)).1 (playsL_at l k (now, n)).2 (playsL_E l k (playsL_s now n a)).1 (playsL_E l k (playsL_s now n a)).2.1 (playsL_E l k (playsL_s now n a)).2.2 := by
  have hkl := (List.getElem?_eq_some_iff.1 hk).1
  have hr : n.role ≠ 0 → n.rpl = 0 ∨ n.rpl = 1 := hI.role
  unfold playsL_s
  apply codeT 400 (playsL_E l k)
  apply kv 75 (bis (show decide ((k : Int) < (l.length : Int)) = true by rw [decide_eq_true_eq]; omega))
  apply kd (.owe 76)
  apply kp (bs1 (b0 := decide (0 ≤ (k : Int) ∧ (k : Int) < (l.length : Int))) (by rw [decide_eq_true_eq]; omega))
  apply kv 76 (ptr_is (i := 0) (show 0 + (k : Int).toNat * 10 = 10 * k by omega))
  apply kd (.hint 77 (.cells [.int .u8 a.kind, .int .u16 a.later, .int .i64 a.order, .int .i64 a.port, .bool a.bad, .int .u8 a.m.req, .bool a.m.block, .bool a.m.keep, .bool a.m.east, .int .u64 a.m.node]))
  apply kp (show ((encs Act17.enc l).drop (10 * k)).take 10 = [.int .u8 a.kind, .int .u16 a.later, .int .i64 a.order, .int .i64 a.port, .bool a.bad, .int .u8 a.m.req, .bool a.m.block, .bool a.m.keep, .bool a.m.east, .int .u64 a.m.node] from encs_part Act17_len hk)
  apply kp (rfl : ([.int .u8 a.kind, .int .u16 a.later, .int .i64 a.order, .int .i64 a.port, .bool a.bad, .int .u8 a.m.req, .bool a.m.block, .bool a.m.keep, .bool a.m.east, .int .u64 a.m.node] : List Value).length = 10)
  apply kor
  apply kj 850086
  intro hb0
  apply kk awake17_ok
  exact kg [0] [0] [8] (o_ (encs_bareO Act17_bare l 10) o0)
  intro hb0
  apply kand
  apply kj 890090
  intro hb1
  apply kk (mayMsg_eq a.m (by first | omega | (simp only [zor, zand, zorf, zandf, znt, znf, zeq, zne, zeqf, znef, zd, zdf] at *; omega)))
  apply ki 95
  intro hb2
  apply kk awake17_ok
  exact kg [0] [0] [8] (o_ (encs_bareO Act17_bare l 10) o0)
  intro hb2
  apply kk (step17_eq n (IntKind.wrap .i64 (now + (IntKind.wrap .i64 a.later))) a hI)
  apply kf [.priv [1]] o0
  apply kk (same17_eq (playsL_x0 now n a) (pi_step hI (IntKind.wrap .i64 (now + (IntKind.wrap .i64 a.later))) a))
  apply kv 116 (wr_i64 (n := (k : Int) + 1) (by first | omega | (simp only [zor, zand, zorf, zandf, znt, znf, zeq, zne, zeqf, znef, zd, zdf] at *; omega)) (by first | omega | (simp only [zor, zand, zorf, zandf, znt, znf, zeq, zne, zeqf, znef, zd, zdf] at *; omega)))
  exact kg [0, 1, 2] [0] [9, 11, 13, 72, 73, 74] (o_ (encs_bareO Act17_bare l 10) o0)
  intro hb1
  apply kk (step17_eq n (IntKind.wrap .i64 (now + (IntKind.wrap .i64 a.later))) a hI)
  apply kf [.priv [1]] o0
  apply kk (same17_eq (playsL_x0 now n a) (pi_step hI (IntKind.wrap .i64 (now + (IntKind.wrap .i64 a.later))) a))
  apply kv 116 (wr_i64 (n := (k : Int) + 1) (by first | omega | (simp only [zor, zand, zorf, zandf, znt, znf, zeq, zne, zeqf, znef, zd, zdf] at *; omega)) (by first | omega | (simp only [zor, zand, zorf, zandf, znt, znf, zeq, zne, zeqf, znef, zd, zdf] at *; omega)))
  exact kg [0, 1, 2] [0] [9, 11, 13, 72, 73, 74] (o_ (encs_bareO Act17_bare l 10) o0)
  kernel_rfl
theorem playsL_end (l : List Act17) (s : Int × Nd) : AComes Tryz.prog 1 (roundAt Tryz.prog 5 0) (playsL_at l l.length s).1 (playsL_at l l.length s).2 (.exit 0) (playsL_fin l s).1 (playsL_fin l s).2 := by
  refine codeL 400 [0] [0] [] [.br false] (o_ (encs_bareO Act17_bare l 10) (o_ (show decide ((l.length : Int) < (l.length : Int)) = false by rw [decide_eq_false_iff_not]; omega) o0)) ?_; kernel_rfl
theorem playsL_loop (l : List Act17) (hlen : l.length < 1099511627776) (I : Int × Nd → Prop) (hI0 : ∀ s, I s → (fun s : Int × Nd => (PI s.2)) s) (hOK : ∀ a ∈ l, (fun a : Act17 => (0 ≤ a.m.node)) a) (hI : ∀ s a, I s → (fun a : Act17 => (0 ≤ a.m.node)) a → (playsL s a).1 = false → I (playsL s a).2.2) (s : Int × Nd) (hs : I s) :
    AComes Tryz.prog 1 (loopAt Tryz.prog 5 0) (playsL_at l 0 s).1 (playsL_at l 0 s).2 (bif (runL false (playsL) l s).1 then .ret else .exit 0) (bif (runL false (playsL) l s).1 then playsL_ret l (runL false (playsL) l s).2.1 else playsL_fin l (runL false (playsL) l s).2.2).1 (bif (runL false (playsL) l s).1 then playsL_ret l (runL false (playsL) l s).2.1 else playsL_fin l (runL false (playsL) l s).2.2).2 := by
  have e : loopAt Tryz.prog 5 0 = .loop (roundAt Tryz.prog 5 0) := by kernel_rfl
  rw [e]
  exact listLoop (by simp) (by simp) false (playsL) (playsL_at l) (playsL_fin l) (playsL_ret l) I (fun a : Act17 => (0 ≤ a.m.node)) l hOK hI (fun k s a hk hs0 ho => by have hs := hI0 s hs0; exact playsL_round l k s.1 s.2 a hlen hk (hs) (ho)) (fun s _ => playsL_end l s) s hs

theorem playsL_inv (s : Int × Nd) (a : Act17) (h : PI s.2) : (playsL s a).1 = false → PI (playsL s a).2.2.2 := by
  let G : Bool × Bool × Int × Nd → Prop := fun r => r.1 = false → PI r.2.2.2
  show G (playsL s a)
  unfold playsL playsL_s
  repeat' (first | (refine byIte (fun _ => ?_) (fun _ => ?_)) | exact fun h => Bool.noConfusion h | exact fun _ => pi_step h _ _)
theorem playsL_says (s : Int × Nd) (a : Act17) (h : PI s.2) : (playsL s a).1 = true → (playsL s a).2.1 = true := by
  let G : Bool × Bool × Int × Nd → Prop := fun r => r.1 = true → r.2.1 = true
  show G (playsL s a)
  unfold playsL playsL_s
  repeat' (first | (refine byIte (fun _ => ?_) (fun _ => ?_)) | exact fun _ => rfl | exact fun h => Bool.noConfusion h)
theorem playsL_all (l : List Act17) (hlen : l.length < 1099511627776) (hOK : ∀ a ∈ l, 0 ≤ a.m.node) (s : Int × Nd) (hs : PI s.2) :
    AComes Tryz.prog 1 (loopAt Tryz.prog 5 0) (playsL_at l 0 s).1 (playsL_at l 0 s).2 (bif (runL false playsL l s).1 then .ret else .exit 0) (bif (runL false playsL l s).1 then playsL_ret l (runL false playsL l s).2.1 else playsL_fin l (runL false playsL l s).2.2).1 (bif (runL false playsL l s).1 then playsL_ret l (runL false playsL l s).2.1 else playsL_fin l (runL false playsL l s).2.2).2 :=
  playsL_loop l hlen (fun s => PI s.2) (fun s h => h) hOK (fun s a hs ho hb => playsL_inv s a hs hb) s hs
theorem playsL_true : ∀ (l : List Act17) (s : Int × Nd), PI s.2 → (runL false playsL l s).1 = true → (runL false playsL l s).2.1 = true
  | [], _, _, e => Bool.noConfusion e
  | a :: l, s, h, e => by
    unfold runL at e ⊢
    cases hb : (playsL s a).1 with
    | true => simp only [hb, cond_true]; exact playsL_says s a h hb
    | false => rw [hb] at e; simp only [cond_false] at e ⊢; exact playsL_true l _ (playsL_inv s a h hb) e

def plays_x0 (p : Plan) (i : Int) (start : Int) (l : List Act17) : Bool × Bool × Int × Nd := runL false (playsL) l (start, (erpsNew p i start).1)
def plays_x1 (p : Plan) (i : Int) (start : Int) (l : List Act17) : Bool := alike ((erpsNew p i start).1) (Nd.mk 0 0 0 false 0 0 0 0 (B2.mk false false) (B2.mk false false) 0 (Bk.mk 0 0 0) (P2.mk (Pair.mk false false 0) (Pair.mk false false 0)) (Msg.mk 0 false false false 0) (Burst.mk 0 0 0 false 0))
def plays (p : Plan) (i : Int) (start : Int) (l : List Act17) : Bool :=
  bif ((erpsNew p i start).2) == 0 then
    bif decide ((l.length : Int) > 80) then
      true
    else
      bif (plays_x0 p i start l).1 then
        (plays_x0 p i start l).2.1
      else
        true
  else
    bif decide ((l.length : Int) > 80) then
      true
    else
      (plays_x1 p i start l)
def plays_E (r : Bool) : Value := .bool r
theorem plays_eq (p : Plan) (i : Int) (start : Int) (l : List Act17) (hW : PlanW p) (hOK : ∀ a ∈ l, 0 ≤ a.m.node) : AEq Tryz.prog 5 [.agg ⟨Plan.enc p⟩, .int .i64 i, .int .i64 start, .slice (some ⟨0, 0, none⟩) l.length UNR] [.ro (encs Act17.enc l) 10] (plays_E (plays p i start l)) [.ro (encs Act17.enc l) 10] := by
  unfold plays
  apply headT 400 plays_E (encs_bareO Act17_bare l 10)
  apply kk (erpsNew_eq p i start)
  apply kd .inl
  apply kk (rnew_v hW i start)
  apply kv 36 (bis (show (((erpsNew p i start).2) != ((erpsNew p i start).2)) = false from by simp))
  apply kj 400041
  intro hb0
  apply kk (same17_eq ((erpsNew p i start).1) (pi_new (show (erpsNew p i start).2 = 0 from by have := (show (erpsNew p i start).1.role ≠ 0 → (erpsNew p i start).1.rpl = 0 ∨ (erpsNew p i start).1.rpl = 1 from erpsNew_role p i start); first | omega | (simp only [zor, zand, zorf, zandf, znt, znf, zeq, zne, zeqf, znef, zd, zdf] at *; omega))))
  apply ki 51
  intro hb1
  apply kv 52 (ieq .i64 hb0)
  apply kv 53 (ieq .i64 hb0)
  apply kv 58 (bis hb1)
  apply kk awake17_ok
  exact kl
  intro hb1
  apply kv 63 (ieq .i64 hb0)
  apply kc
  intro hb2
  apply kL [0, 2, 5] [0] [9, 11, 13, 72, 73, 74] (o_ (encs_bareO Act17_bare l 10) o0) (loopT (playsL_all l (by have := (show (erpsNew p i start).1.role ≠ 0 → (erpsNew p i start).1.rpl = 0 ∨ (erpsNew p i start).1.rpl = 1 from erpsNew_role p i start); first | omega | (simp only [zor, zand, zorf, zandf, znt, znf, zeq, zne, zeqf, znef, zd, zdf] at *; omega)) hOK (start, (erpsNew p i start).1) (pi_new (show (erpsNew p i start).2 = 0 from by have := (show (erpsNew p i start).1.role ≠ 0 → (erpsNew p i start).1.rpl = 0 ∨ (erpsNew p i start).1.rpl = 1 from erpsNew_role p i start); first | omega | (simp only [zor, zand, zorf, zandf, znt, znf, zeq, zne, zeqf, znef, zd, zdf] at *; omega)))) hb2)
  exact kl
  intro hb2
  apply kL [0, 2, 5] [0] [9, 11, 13, 72, 73, 74] (o_ (encs_bareO Act17_bare l 10) o0) (loopF (playsL_all l (by have := (show (erpsNew p i start).1.role ≠ 0 → (erpsNew p i start).1.rpl = 0 ∨ (erpsNew p i start).1.rpl = 1 from erpsNew_role p i start); first | omega | (simp only [zor, zand, zorf, zandf, znt, znf, zeq, zne, zeqf, znef, zd, zdf] at *; omega)) hOK (start, (erpsNew p i start).1) (pi_new (show (erpsNew p i start).2 = 0 from by have := (show (erpsNew p i start).1.role ≠ 0 → (erpsNew p i start).1.rpl = 0 ∨ (erpsNew p i start).1.rpl = 1 from erpsNew_role p i start); first | omega | (simp only [zor, zand, zorf, zandf, znt, znf, zeq, zne, zeqf, znef, zd, zdf] at *; omega)))) hb2)
  apply kk awake17_ok
  exact kl
  intro hb0
  apply ki 51
  intro hb1
  apply kv 54 (bis (show (((erpsNew p i start).2) == ((erpsNew p i start).2)) = true from by simp))
  apply kv 58 (bis hb1)
  apply kk awake17_ok
  exact kl
  intro hb1
  apply kv 64 (bis (show (((erpsNew p i start).2) != 0) = true from by have := (show (erpsNew p i start).1.role ≠ 0 → (erpsNew p i start).1.rpl = 0 ∨ (erpsNew p i start).1.rpl = 1 from erpsNew_role p i start); first | omega | (simp only [zor, zand, zorf, zandf, znt, znf, zeq, zne, zeqf, znef, zd, zdf] at *; omega)))
  apply kk awake17_ok
  apply kk (alike_eq ((erpsNew p i start).1) (Nd.mk 0 0 0 false 0 0 0 0 (B2.mk false false) (B2.mk false false) 0 (Bk.mk 0 0 0) (P2.mk (Pair.mk false false 0) (Pair.mk false false 0)) (Msg.mk 0 false false false 0) (Burst.mk 0 0 0 false 0)))
  exact kl
  kernel_rfl

theorem erpsNew_zero (p : Plan) (i now : Int) : (erpsNew p i now).2 ≠ 0 → (erpsNew p i now).1 = (Nd.mk 0 0 0 false 0 0 0 0 (B2.mk false false) (B2.mk false false) 0 (Bk.mk 0 0 0) (P2.mk (Pair.mk false false 0) (Pair.mk false false 0)) (Msg.mk 0 false false false 0) (Burst.mk 0 0 0 false 0)) := by
  let G : Nd × Int → Prop := fun r => r.2 ≠ 0 → r.1 = (Nd.mk 0 0 0 false 0 0 0 0 (B2.mk false false) (B2.mk false false) 0 (Bk.mk 0 0 0) (P2.mk (Pair.mk false false 0) (Pair.mk false false 0)) (Msg.mk 0 false false false 0) (Burst.mk 0 0 0 false 0))
  show G (erpsNew p i now)
  unfold erpsNew
  repeat' (refine byIte (fun _ => ?_) (fun _ => ?_))
  all_goals first | exact fun _ => rfl | exact fun h => absurd rfl h
theorem alike_self (n : Nd) : alike n n = true := by
  unfold alike
  simp
theorem plays_true (p : Plan) (i start : Int) (l : List Act17) : plays p i start l = true := by
  let G : Bool → Prop := fun r => r = true
  show G (plays p i start l)
  unfold plays
  refine byIte (fun hc => ?_) (fun hc => ?_)
  · have h0 : (erpsNew p i start).2 = 0 := by simpa using hc
    exact byIte (fun _ => rfl) (fun _ => byIte (fun h => playsL_true l _ (pi_new h0) h) (fun _ => rfl))
  · refine byIte (fun _ => rfl) (fun _ => ?_)
    show alike _ _ = true
    rw [erpsNew_zero p i start (by simpa using hc)]
    exact alike_self _

end Go.Proofs.E17

namespace Go.Proofs.E17
open Go Go.AX Go.Proofs
set_option maxRecDepth 1000000
set_option linter.unusedVariables false
set_option linter.unusedSimpArgs false

def Plan.wf (x : Plan) : Prop := (IntKind.min .i64 ≤ x.nodes ∧ x.nodes ≤ IntKind.max .i64) ∧ (IntKind.min .i64 ≤ x.owner ∧ x.owner ≤ IntKind.max .i64) ∧ (IntKind.min .u8 ≤ x.level ∧ x.level ≤ IntKind.max .u8) ∧ (IntKind.min .u16 ≤ x.data ∧ x.data ≤ IntKind.max .u16) ∧ (IntKind.min .u16 ≤ x.ring ∧ x.ring ≤ IntKind.max .u16) ∧ (IntKind.min .i64 ≤ x.interval ∧ x.interval ≤ IntKind.max .i64) ∧ (IntKind.min .i64 ≤ x.hold ∧ x.hold ≤ IntKind.max .i64) ∧ (IntKind.min .i64 ≤ x.guard ∧ x.guard ≤ IntKind.max .i64) ∧ (IntKind.min .i64 ≤ x.rest ∧ x.rest ≤ IntKind.max .i64) ∧ (IntKind.min .i64 ≤ x.wait ∧ x.wait ≤ IntKind.max .i64) ∧ (IntKind.min .i64 ≤ x.gap ∧ x.gap ≤ IntKind.max .i64) ∧ (IntKind.min .i64 ≤ x.period ∧ x.period ≤ IntKind.max .i64) ∧ (IntKind.min .i64 ≤ x.age ∧ x.age ≤ IntKind.max .i64) ∧ (IntKind.min .i64 ≤ x.room ∧ x.room ≤ IntKind.max .i64) ∧ (IntKind.min .i64 ≤ x.queue ∧ x.queue ≤ IntKind.max .i64)
theorem Plan_of {cs : List Value} (h0 : Fits [.i .i64, .i .i64, .i .u8, .i .u16, .i .u16, .i .i64, .i .i64, .i .i64, .i .i64, .i .i64, .i .i64, .i .i64, .i .i64, .i .i64, .i .i64, .b] cs) : ∃ x : Plan, cs = x.enc ∧ x.wf := by
  obtain ⟨_, _, rfl, ⟨v0, rfl, w0⟩, h1⟩ := h0.cons
  obtain ⟨_, _, rfl, ⟨v1, rfl, w1⟩, h2⟩ := h1.cons
  obtain ⟨_, _, rfl, ⟨v2, rfl, w2⟩, h3⟩ := h2.cons
  obtain ⟨_, _, rfl, ⟨v3, rfl, w3⟩, h4⟩ := h3.cons
  obtain ⟨_, _, rfl, ⟨v4, rfl, w4⟩, h5⟩ := h4.cons
  obtain ⟨_, _, rfl, ⟨v5, rfl, w5⟩, h6⟩ := h5.cons
  obtain ⟨_, _, rfl, ⟨v6, rfl, w6⟩, h7⟩ := h6.cons
  obtain ⟨_, _, rfl, ⟨v7, rfl, w7⟩, h8⟩ := h7.cons
  obtain ⟨_, _, rfl, ⟨v8, rfl, w8⟩, h9⟩ := h8.cons
  obtain ⟨_, _, rfl, ⟨v9, rfl, w9⟩, h10⟩ := h9.cons
  obtain ⟨_, _, rfl, ⟨v10, rfl, w10⟩, h11⟩ := h10.cons
  obtain ⟨_, _, rfl, ⟨v11, rfl, w11⟩, h12⟩ := h11.cons
  obtain ⟨_, _, rfl, ⟨v12, rfl, w12⟩, h13⟩ := h12.cons
  obtain ⟨_, _, rfl, ⟨v13, rfl, w13⟩, h14⟩ := h13.cons
  obtain ⟨_, _, rfl, ⟨v14, rfl, w14⟩, h15⟩ := h14.cons
  obtain ⟨_, _, rfl, ⟨v15, rfl⟩, h16⟩ := h15.cons
  obtain rfl := h16.nil
  exact ⟨⟨v0, v1, v2, v3, v4, v5, v6, v7, v8, v9, v10, v11, v12, v13, v14, v15⟩, rfl, ⟨w0, w1, w2, w3, w4, w5, w6, w7, w8, w9, w10, w11, w12, w13, w14⟩⟩

def Msg.wf (x : Msg) : Prop := (IntKind.min .u8 ≤ x.req ∧ x.req ≤ IntKind.max .u8) ∧ (IntKind.min .u64 ≤ x.node ∧ x.node ≤ IntKind.max .u64)
theorem Msg_of {cs : List Value} (h0 : Fits [.i .u8, .b, .b, .b, .i .u64] cs) : ∃ x : Msg, cs = x.enc ∧ x.wf := by
  obtain ⟨_, _, rfl, ⟨v0, rfl, w0⟩, h1⟩ := h0.cons
  obtain ⟨_, _, rfl, ⟨v1, rfl⟩, h2⟩ := h1.cons
  obtain ⟨_, _, rfl, ⟨v2, rfl⟩, h3⟩ := h2.cons
  obtain ⟨_, _, rfl, ⟨v3, rfl⟩, h4⟩ := h3.cons
  obtain ⟨_, _, rfl, ⟨v4, rfl, w4⟩, h5⟩ := h4.cons
  obtain rfl := h5.nil
  exact ⟨⟨v0, v1, v2, v3, v4⟩, rfl, ⟨w0, w4⟩⟩

def Act17.wf (x : Act17) : Prop := (IntKind.min .u8 ≤ x.kind ∧ x.kind ≤ IntKind.max .u8) ∧ (IntKind.min .u16 ≤ x.later ∧ x.later ≤ IntKind.max .u16) ∧ (IntKind.min .i64 ≤ x.order ∧ x.order ≤ IntKind.max .i64) ∧ (IntKind.min .i64 ≤ x.port ∧ x.port ≤ IntKind.max .i64) ∧ (IntKind.min .u8 ≤ x.m.req ∧ x.m.req ≤ IntKind.max .u8) ∧ (IntKind.min .u64 ≤ x.m.node ∧ x.m.node ≤ IntKind.max .u64)
theorem Act17_of {cs : List Value} (h0 : Fits [.i .u8, .i .u16, .i .i64, .i .i64, .b, .i .u8, .b, .b, .b, .i .u64] cs) : ∃ x : Act17, cs = x.enc ∧ x.wf := by
  obtain ⟨_, _, rfl, ⟨v0, rfl, w0⟩, h1⟩ := h0.cons
  obtain ⟨_, _, rfl, ⟨v1, rfl, w1⟩, h2⟩ := h1.cons
  obtain ⟨_, _, rfl, ⟨v2, rfl, w2⟩, h3⟩ := h2.cons
  obtain ⟨_, _, rfl, ⟨v3, rfl, w3⟩, h4⟩ := h3.cons
  obtain ⟨_, _, rfl, ⟨v4, rfl⟩, h5⟩ := h4.cons
  obtain ⟨_, _, rfl, ⟨v5, rfl, w5⟩, h6⟩ := h5.cons
  obtain ⟨_, _, rfl, ⟨v6, rfl⟩, h7⟩ := h6.cons
  obtain ⟨_, _, rfl, ⟨v7, rfl⟩, h8⟩ := h7.cons
  obtain ⟨_, _, rfl, ⟨v8, rfl⟩, h9⟩ := h8.cons
  obtain ⟨_, _, rfl, ⟨v9, rfl, w9⟩, h10⟩ := h9.cons
  obtain rfl := h10.nil
  exact ⟨⟨v0, v1, v2, v3, v4, ⟨v5, v6, v7, v8, v9⟩⟩, rfl, ⟨w0, w1, w2, w3, w5, w9⟩⟩

end Go.Proofs.E17

namespace Go.Proofs.E17
open Go Go.AX Go.Proofs
set_option maxRecDepth 1000000
set_option linter.unusedVariables false
set_option linter.unusedSimpArgs false

theorem planW_of {p : Plan} (h : p.wf) : PlanW p := by
  unfold Plan.wf at h
  rw [show IntKind.min .i64 = -9223372036854775808 by decide, show IntKind.max .i64 = 9223372036854775807 by decide, show IntKind.min .u16 = 0 by decide, show IntKind.min .u8 = 0 by decide] at h
  exact ⟨by omega, by omega, by omega, by omega⟩

end Go.Proofs.E17

namespace Go.Proofs.E17
open Go Go.ChangeShapes Go.WideShapes Go.ChangeAt Go.RowKit Go.AX Go.Proofs
set_option maxRecDepth 1000000
set_option linter.unusedVariables false
set_option linter.unusedSimpArgs false

theorem own : ownKnob Tryz.prog.godebug = none := by kernel_rfl
theorem kids : Kids Tryz.prog (· < Tryz.prog.types.size) := kids_rows (by kernel_rfl) (by kernel_rfl)
theorem full : ∀ t e, t < Tryz.prog.types.size → Tryz.prog.underlying t = some (.slice e) → 0 < Tryz.prog.cellsOf e := slices_full_of Tryz.prog (by kernel_rfl)
theorem u64min : IntKind.min .u64 = 0 := by decide

end Go.Proofs.E17

namespace Go.Proofs.YtbjjohonfbdcmaaGreat.erpsPlays
open Go Go.AX Go.Proofs Go.Proofs.E17 Go.ChangeShapes Go.WideShapes Go.ChangeAt Go.RowKit
set_option maxRecDepth 1000000
set_option linter.unusedVariables false
set_option linter.unusedSimpArgs false
theorem erpsPlays_lifted (os : Os) (started : os.Started) (H : Type) (enc : TypeId × Value → H) :
    ReturnsInHanded {} Tryz.checked os 5 .any (Rows.erpsPlaysSpec.pre6 enc Tryz.prog Tryz.f5 Rows.erpsPlaysRow.domain false) (Rows.erpsPlaysSpec.post enc Tryz.prog Tryz.f5 false true false false) := by
  refine returnsInHanded_of_change (C := Tryz.checked) own started (by kernel_rfl) Tryz.func5
    (ChangeSpec.witness6 (enc := enc) (C := Tryz.checked) false ⟨#[], #[.agg #[.int .i64 0, .int .i64 0, .int .u8 0, .int .u16 0, .int .u16 0, .int .i64 0, .int .i64 0, .int .i64 0, .int .i64 0, .int .i64 0, .int .i64 0, .int .i64 0, .int .i64 0, .int .i64 0, .int .i64 0, .bool false], .int .i64 0, .int .i64 0, .slice none 0 0], []⟩ 8 (by kernel_rfl) (by kernel_rfl) (by kernel_rfl) (by kernel_rfl)) ?_
  intro W base args ds gs before hval0 hW hcnd _
  have hval : ∀ (j : Nat) t v, Tryz.f5.params[j]? = some t → args[j]? = some v → Value.okWide Tryz.prog W .any base t v := hval0
  have hW' := hW
  obtain ⟨p, q, hA0, hV, rfl, hfz, hnd⟩ := hW
  have hA : DataW.TrodAll enc Tryz.prog W 0 (fun _ => true) true Tryz.f5.params.toList args.toList ds p := hA0
  rw [Tryz.params5] at hA hval
  obtain ⟨v0, vs0, d0, ds0, p0, q0, hargs, rfl, rfl, h0, r0⟩ := trodAll_cons hA
  obtain ⟨v1, vs1, d1, ds1, p1, q1, rfl, rfl, rfl, h1, r1⟩ := trodAll_cons r0
  obtain ⟨v2, vs2, d2, ds2, p2, q2, rfl, rfl, rfl, h2, r2⟩ := trodAll_cons r1
  obtain ⟨v3, vs3, d3, ds3, p3, q3, rfl, rfl, rfl, h3, r3⟩ := trodAll_cons r2
  obtain ⟨rfl, rfl, rfl⟩ := trodAll_nil r3
  obtain rfl : args = #[v0, v1, v2, v3] := by cases args; simp_all
  obtain ⟨c0, rfl⟩ := Go.AX.okWide_struct Tryz.underlying24 (hval 0 24 v0 rfl rfl)
  obtain ⟨n0, t0⟩ := h0
  have f0 := flat_of 8 24 [.i .i64, .i .i64, .i .u8, .i .u16, .i .u16, .i .i64, .i .i64, .i .i64, .i .i64, .i .i64, .i .i64, .i .i64, .i .i64, .i .i64, .i .i64, .b] n0 _ _ (by kernel_rfl) t0
  obtain ⟨p, e0, w0⟩ := Plan_of f0
  have e0' : c0 = p.enc := e0
  subst e0'
  obtain ⟨i, rfl, rfl, rfl, w1⟩ := open_int Tryz.underlying3 (hval 1 3 v1 rfl rfl) h1
  obtain ⟨start, rfl, rfl, rfl, w2⟩ := open_int Tryz.underlying2 (hval 2 2 v2 rfl rfl) h2
  obtain ⟨n3, t3⟩ := h3
  obtain ⟨l, E, g, rl, hOK, hml⟩ := open_lent (OK := Act17.wf) (n := 8) (e := 50) (sz := 10) (ks := [.i .u8, .i .u16, .i .i64, .i .i64, .b, .i .u8, .b, .b, .b, .i .u64]) Tryz.underlying25 (by kernel_rfl) (by kernel_rfl) (by decide) (fun cs h => Act17_of h) Act17_len t3 (okWide_cells Tryz.underlying25 (hval 3 25 v3 rfl rfl))
  have t := plays_eq p i start l (planW_of w0) (fun a ha => by have h := hOK a ha; unfold Act17.wf at h; rw [u64min] at h; exact h.2.2.2.2.2.1)
  rw [plays_true] at t
  refine (lent_calls t g (.cons _ _ _ _ (.agg _ _ f0.rep) (.cons _ _ _ _ (.int _ _) (.cons _ _ _ _ (.int _ _) (.cons _ _ _ _ rl .nil))))).mono fun e W' ⟨he, hk⟩ => ?_
  subst he
  exact ⟨_, rfl, law_post kids full (by rw [Tryz.params5]; decide) rfl rfl (tb := 4) rfl Tryz.underlying4 hW' hk⟩

theorem erpsPlays_over : Rows.erpsPlaysRow.holds Tryz.pinned (OpenSpec.ofChange Rows.erpsPlaysSpec) :=
  OpenClaim.holds_of_wide 5 Tryz.f5 rfl rfl rfl rfl rfl rfl rfl ⟨rfl, rfl, rfl, rfl, rfl⟩ rfl rfl rfl rfl rfl (by kernel_rfl) Tryz.func5 (by kernel_rfl)
    (of_decide_eq_true (by kernel_rfl)) (by unfold Func.isWrapper; first | (rw [if_pos (by decide +kernel)]; kernel_rfl) | (rw [if_neg (by decide +kernel)]; exact ⟨rfl, rfl⟩))
    (fun os started H enc _ => erpsPlays_lifted os started H enc)

theorem erpsPlays : Rows.ErpsPlaysSaid := erpsPlays_over

end Go.Proofs.YtbjjohonfbdcmaaGreat.erpsPlays
