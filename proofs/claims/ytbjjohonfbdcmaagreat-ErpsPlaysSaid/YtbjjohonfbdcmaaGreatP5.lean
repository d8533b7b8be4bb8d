/- Part 5 of 6 of the proof of: ErpsPlays holds for every input, without conditions -/
import Derived.Test.YtbjjohonfbdcmaaGreatP4
namespace Go.Proofs.E17
open Go Go.AX Go.Proofs
set_option maxRecDepth 1000000
set_option linter.unusedVariables false
set_option linter.unusedSimpArgs false

def rask3_x0 (n : RNd) (now : Int) (port : Int) (fro : Int) : RNd × Bool := ract9 ((ract1 n now port fro).1) now port fro
def rask3 (n : RNd) (now : Int) (port : Int) (fro : Int) : RNd × Bool × Bool :=
  bif (rabove (rstands n) 3) then
    (n, false, false)
  else
    bif (n.state == 0) || ((n.state == 1) || (n.state == 2)) then
      bif (ract1 n now port fro).2 then
        ({ ((rask3_x0 n now port fro).1) with state := 1, own := 14 }, true, true)
      else
        ({ ((rask3_x0 n now port fro).1) with state := 1, own := 14 }, (rask3_x0 n now port fro).2, true)
    else
      bif n.state == 3 then
        (n, false, false)
      else
        bif n.state == 4 then
          bif (ract1 n now port fro).2 then
            ({ ((rask3_x0 n now port fro).1) with state := 1, own := 14 }, true, true)
          else
            ({ ((rask3_x0 n now port fro).1) with state := 1, own := 14 }, (rask3_x0 n now port fro).2, true)
        else
          bif (decide (n.state < 0)) || (decide (n.state > 4)) then
            (n, false, false)
          else
            bif (ract1 n now port fro).2 then
              ({ ((rask3_x0 n now port fro).1) with state := 1, own := 14 }, true, true)
            else
              ({ ((rask3_x0 n now port fro).1) with state := 1, own := 14 }, (rask3_x0 n now port fro).2, true)
def rask3_c (r : RNd × Bool × Bool) : Dir := .callL (.tuple ⟨[.agg ⟨RNd.enc r.1⟩, .bool r.2.1, .bool r.2.2]⟩) []
def rask3_E (r : RNd × Bool × Bool) : Value := .tuple ⟨[.agg ⟨RNd.enc r.1⟩, .bool r.2.1, .bool r.2.2]⟩
theorem rask3_eq (n : RNd) (now : Int) (port : Int) (fro : Int) (ho : n.own = 1 ∨ n.own = 7 ∨ n.own = 14) (hp : port = 0 ∨ port = 1) : AOn Tryz.prog 86 [.agg ⟨RNd.enc n⟩, .int .i64 3, .int .i64 now, .int .i64 port, .int .u64 fro] [] (rask3_E (rask3 n now port fro)) [] := by
  unfold rask3
  apply onT 400 rask3_E
  apply kk (rstands_eq n (show n.own = 1 ∨ n.own = 7 ∨ n.own = 14 from by first | omega | (simp only [zor, zand, zorf, zandf, znt, znf, zeq, zne, zeqf, znef, zd, zdf] at *; omega)))
  apply kk (rabove_eq (rstands n) 3)
  apply ki 26
  intro hb0
  exact kl
  intro hb0
  apply kor
  apply kc
  intro hb1
  apply kv 60 (ieq .i64 hb1)
  apply kcs (n.own != 14)
  intro hb2
  apply kv 64 (bis hb2)
  apply kd .inl
  apply kf [.cut 13, ract1_c (ract1 n now port fro)] (o_ (ract1_eq n now port fro (by first | omega | (simp only [zor, zand, zorf, zandf, znt, znf, zeq, zne, zeqf, znef, zd, zdf] at *; omega))) o0)
  apply kf [.cut 13, ract9_c (rask3_x0 n now port fro)] (o_ (ract9_eq ((ract1 n now port fro).1) now port fro) o0)
  apply kj 920093
  intro hb3
  apply kd .inl
  apply kd .inl
  apply kd .inl
  apply kd .inl
  exact kl
  intro hb3
  apply kd .inl
  apply kd .inl
  apply kd .inl
  apply kd .inl
  exact kl
  intro hb2
  apply kv 64 (bis hb2)
  apply kd .inl
  apply kf [.cut 13, ract1_c (ract1 n now port fro)] (o_ (ract1_eq n now port fro (by first | omega | (simp only [zor, zand, zorf, zandf, znt, znf, zeq, zne, zeqf, znef, zd, zdf] at *; omega))) o0)
  apply kf [.cut 13, ract9_c (rask3_x0 n now port fro)] (o_ (ract9_eq ((ract1 n now port fro).1) now port fro) o0)
  apply kj 920093
  intro hb3
  apply kd .inl
  apply kd .inl
  apply kd .inl
  apply kd .inl
  exact kl
  intro hb3
  apply kd .inl
  apply kd .inl
  apply kd .inl
  apply kd .inl
  exact kl
  intro hb1
  apply kor
  apply kc
  intro hb2
  apply kv 60 (ieq .i64 hb2)
  apply kcs (n.own != 14)
  intro hb3
  apply kv 64 (bis hb3)
  apply kd .inl
  apply kf [.cut 13, ract1_c (ract1 n now port fro)] (o_ (ract1_eq n now port fro (by first | omega | (simp only [zor, zand, zorf, zandf, znt, znf, zeq, zne, zeqf, znef, zd, zdf] at *; omega))) o0)
  apply kf [.cut 13, ract9_c (rask3_x0 n now port fro)] (o_ (ract9_eq ((ract1 n now port fro).1) now port fro) o0)
  apply kj 920093
  intro hb4
  apply kd .inl
  apply kd .inl
  apply kd .inl
  apply kd .inl
  exact kl
  intro hb4
  apply kd .inl
  apply kd .inl
  apply kd .inl
  apply kd .inl
  exact kl
  intro hb3
  apply kv 64 (bis hb3)
  apply kd .inl
  apply kf [.cut 13, ract1_c (ract1 n now port fro)] (o_ (ract1_eq n now port fro (by first | omega | (simp only [zor, zand, zorf, zandf, znt, znf, zeq, zne, zeqf, znef, zd, zdf] at *; omega))) o0)
  apply kf [.cut 13, ract9_c (rask3_x0 n now port fro)] (o_ (ract9_eq ((ract1 n now port fro).1) now port fro) o0)
  apply kj 920093
  intro hb4
  apply kd .inl
  apply kd .inl
  apply kd .inl
  apply kd .inl
  exact kl
  intro hb4
  apply kd .inl
  apply kd .inl
  apply kd .inl
  apply kd .inl
  exact kl
  intro hb2
  apply kc
  intro hb3
  apply kv 60 (ieq .i64 hb3)
  apply kcs (n.own != 14)
  intro hb4
  apply kv 64 (bis hb4)
  apply kd .inl
  apply kf [.cut 13, ract1_c (ract1 n now port fro)] (o_ (ract1_eq n now port fro (by first | omega | (simp only [zor, zand, zorf, zandf, znt, znf, zeq, zne, zeqf, znef, zd, zdf] at *; omega))) o0)
  apply kf [.cut 13, ract9_c (rask3_x0 n now port fro)] (o_ (ract9_eq ((ract1 n now port fro).1) now port fro) o0)
  apply kj 920093
  intro hb5
  apply kd .inl
  apply kd .inl
  apply kd .inl
  apply kd .inl
  exact kl
  intro hb5
  apply kd .inl
  apply kd .inl
  apply kd .inl
  apply kd .inl
  exact kl
  intro hb4
  apply kv 64 (bis hb4)
  apply kd .inl
  apply kf [.cut 13, ract1_c (ract1 n now port fro)] (o_ (ract1_eq n now port fro (by first | omega | (simp only [zor, zand, zorf, zandf, znt, znf, zeq, zne, zeqf, znef, zd, zdf] at *; omega))) o0)
  apply kf [.cut 13, ract9_c (rask3_x0 n now port fro)] (o_ (ract9_eq ((ract1 n now port fro).1) now port fro) o0)
  apply kj 920093
  intro hb5
  apply kd .inl
  apply kd .inl
  apply kd .inl
  apply kd .inl
  exact kl
  intro hb5
  apply kd .inl
  apply kd .inl
  apply kd .inl
  apply kd .inl
  exact kl
  intro hb3
  apply kc
  intro hb4
  apply kv 60 (ieq .i64 hb4)
  apply kcs (n.own != 14)
  intro hb5
  apply kv 64 (bis hb5)
  apply kd .inl
  exact kl
  intro hb5
  apply kv 64 (bis hb5)
  apply kd .inl
  exact kl
  intro hb4
  apply kc
  intro hb5
  apply kv 60 (ieq .i64 hb5)
  apply kcs (n.own != 14)
  intro hb6
  apply kv 64 (bis hb6)
  apply kd .inl
  apply kf [.cut 13, ract1_c (ract1 n now port fro)] (o_ (ract1_eq n now port fro (by first | omega | (simp only [zor, zand, zorf, zandf, znt, znf, zeq, zne, zeqf, znef, zd, zdf] at *; omega))) o0)
  apply kf [.cut 13, ract9_c (rask3_x0 n now port fro)] (o_ (ract9_eq ((ract1 n now port fro).1) now port fro) o0)
  apply kj 920093
  intro hb7
  apply kd .inl
  apply kd .inl
  apply kd .inl
  apply kd .inl
  exact kl
  intro hb7
  apply kd .inl
  apply kd .inl
  apply kd .inl
  apply kd .inl
  exact kl
  intro hb6
  apply kv 64 (bis hb6)
  apply kd .inl
  apply kf [.cut 13, ract1_c (ract1 n now port fro)] (o_ (ract1_eq n now port fro (by first | omega | (simp only [zor, zand, zorf, zandf, znt, znf, zeq, zne, zeqf, znef, zd, zdf] at *; omega))) o0)
  apply kf [.cut 13, ract9_c (rask3_x0 n now port fro)] (o_ (ract9_eq ((ract1 n now port fro).1) now port fro) o0)
  apply kj 920093
  intro hb7
  apply kd .inl
  apply kd .inl
  apply kd .inl
  apply kd .inl
  exact kl
  intro hb7
  apply kd .inl
  apply kd .inl
  apply kd .inl
  apply kd .inl
  exact kl
  intro hb5
  apply kd .inl
  apply kor
  apply kj 100011
  intro hb6
  exact kl
  intro hb6
  apply ki 13
  intro hb7
  exact kl
  intro hb7
  apply kr 42 (show (n.state != 3) = true from by first | omega | (simp only [zor, zand, zorf, zandf, znt, znf, zeq, zne, zeqf, znef, zd, zdf] at *; omega))
  apply kf [.cut 13, ract1_c (ract1 n now port fro)] (o_ (ract1_eq n now port fro (by first | omega | (simp only [zor, zand, zorf, zandf, znt, znf, zeq, zne, zeqf, znef, zd, zdf] at *; omega))) o0)
  apply kf [.cut 13, ract9_c (rask3_x0 n now port fro)] (o_ (ract9_eq ((ract1 n now port fro).1) now port fro) o0)
  apply kj 920093
  intro hb8
  apply kd .inl
  apply kd .inl
  apply kd .inl
  apply kd .inl
  exact kl
  intro hb8
  apply kd .inl
  apply kd .inl
  apply kd .inl
  apply kd .inl
  exact kl
  kernel_rfl
  rfl

theorem rask3_own (n : RNd) (now : Int) (port : Int) (fro : Int) : (rask3 n now port fro).1.own = n.own ∨ (rask3 n now port fro).1.own = 14 := by
  let G : RNd × Bool × Bool → Prop := fun r => r.1.own = n.own ∨ r.1.own = 14
  show G (rask3 n now port fro)
  unfold rask3
  repeat' (first | (refine byIte (fun _ => ?_) (fun _ => ?_)) | exact .inl rfl | exact .inr rfl)

def rask0_x0 (n : RNd) (now : Int) (port : Int) (fro : Int) : RNd × Bool := ract9 ((ract10 n now port fro).1) now port fro
def rask0_x1 (n : RNd) (now : Int) (port : Int) (fro : Int) : RNd × Bool := ract6 ((ract5 n now port fro).1) now port fro
def rask0_x2 (n : RNd) (now : Int) (port : Int) (fro : Int) : RNd × Bool := ract8 ((rask0_x1 n now port fro).1) now port fro
def rask0_x3 (n : RNd) (now : Int) (port : Int) (fro : Int) : RNd × Bool × Bool := rask3 { ((rask0_x2 n now port fro).1) with state := 4, own := 14 } now 0 0
def rask0_x4 (n : RNd) (now : Int) (port : Int) (fro : Int) : RNd × Bool × Bool := rask3 { ((rask0_x2 n now port fro).1) with state := 4, own := 14 } now 1 0
def rask0 (n : RNd) (now : Int) (port : Int) (fro : Int) : RNd × Bool × Bool :=
  bif (rabove (rstands n) 0) then
    (n, false, false)
  else
    bif n.state == 4 then
      bif n.role != 1 then
        (n, false, false)
      else
        bif (ract10 n now port fro).2 then
          ({ ((rask0_x0 n now port fro).1) with state := 0, own := 14 }, true, true)
        else
          ({ ((rask0_x0 n now port fro).1) with state := 0, own := 14 }, (rask0_x0 n now port fro).2, true)
    else
      bif (n.state == 0) || (n.state == 1) then
        (n, false, false)
      else
        bif n.state == 2 then
          bif n.own != 14 then
            bif ((ract5 n now port fro).2) || ((rask0_x1 n now port fro).2) then
              bif (((rask0_x2 n now port fro).1).bad).w then
                bif (((rask0_x3 n now port fro).1).bad).e then
                  (((rask3 ((rask0_x3 n now port fro).1) now 1 0).1), true, true)
                else
                  (((rask0_x3 n now port fro).1), true, true)
              else
                bif (((rask0_x2 n now port fro).1).bad).e then
                  (((rask0_x4 n now port fro).1), true, true)
                else
                  ({ ((rask0_x2 n now port fro).1) with state := 4, own := 14 }, true, true)
            else
              bif (((rask0_x2 n now port fro).1).bad).w then
                bif (rask0_x2 n now port fro).2 then
                  bif (((rask0_x3 n now port fro).1).bad).e then
                    (((rask3 ((rask0_x3 n now port fro).1) now 1 0).1), true, true)
                  else
                    (((rask0_x3 n now port fro).1), true, true)
                else
                  bif (((rask0_x3 n now port fro).1).bad).e then
                    bif (rask0_x3 n now port fro).2.1 then
                      (((rask3 ((rask0_x3 n now port fro).1) now 1 0).1), true, true)
                    else
                      (((rask3 ((rask0_x3 n now port fro).1) now 1 0).1), (rask3 ((rask0_x3 n now port fro).1) now 1 0).2.1, true)
                  else
                    (((rask0_x3 n now port fro).1), (rask0_x3 n now port fro).2.1, true)
              else
                bif (((rask0_x2 n now port fro).1).bad).e then
                  bif (rask0_x2 n now port fro).2 then
                    (((rask0_x4 n now port fro).1), true, true)
                  else
                    (((rask0_x4 n now port fro).1), (rask0_x4 n now port fro).2.1, true)
                else
                  ({ ((rask0_x2 n now port fro).1) with state := 4, own := 14 }, (rask0_x2 n now port fro).2, true)
          else
            (n, false, false)
        else
          bif (n.state == 3) && (n.own != 14) then
            bif ((ract5 n now port fro).2) || ((rask0_x1 n now port fro).2) then
              bif (((rask0_x2 n now port fro).1).bad).w then
                bif (((rask0_x3 n now port fro).1).bad).e then
                  (((rask3 ((rask0_x3 n now port fro).1) now 1 0).1), true, true)
                else
                  (((rask0_x3 n now port fro).1), true, true)
              else
                bif (((rask0_x2 n now port fro).1).bad).e then
                  (((rask0_x4 n now port fro).1), true, true)
                else
                  ({ ((rask0_x2 n now port fro).1) with state := 4, own := 14 }, true, true)
            else
              bif (((rask0_x2 n now port fro).1).bad).w then
                bif (rask0_x2 n now port fro).2 then
                  bif (((rask0_x3 n now port fro).1).bad).e then
                    (((rask3 ((rask0_x3 n now port fro).1) now 1 0).1), true, true)
                  else
                    (((rask0_x3 n now port fro).1), true, true)
                else
                  bif (((rask0_x3 n now port fro).1).bad).e then
                    bif (rask0_x3 n now port fro).2.1 then
                      (((rask3 ((rask0_x3 n now port fro).1) now 1 0).1), true, true)
                    else
                      (((rask3 ((rask0_x3 n now port fro).1) now 1 0).1), (rask3 ((rask0_x3 n now port fro).1) now 1 0).2.1, true)
                  else
                    (((rask0_x3 n now port fro).1), (rask0_x3 n now port fro).2.1, true)
              else
                bif (((rask0_x2 n now port fro).1).bad).e then
                  bif (rask0_x2 n now port fro).2 then
                    (((rask0_x4 n now port fro).1), true, true)
                  else
                    (((rask0_x4 n now port fro).1), (rask0_x4 n now port fro).2.1, true)
                else
                  ({ ((rask0_x2 n now port fro).1) with state := 4, own := 14 }, (rask0_x2 n now port fro).2, true)
          else
            (n, false, false)
def rask0_c (r : RNd × Bool × Bool) : Dir := .callL (.tuple ⟨[.agg ⟨RNd.enc r.1⟩, .bool r.2.1, .bool r.2.2]⟩) []
def rask0_E (r : RNd × Bool × Bool) : Value := .tuple ⟨[.agg ⟨RNd.enc r.1⟩, .bool r.2.1, .bool r.2.2]⟩
theorem rask0_eq (n : RNd) (now : Int) (port : Int) (fro : Int) (ho : n.own = 1 ∨ n.own = 7 ∨ n.own = 14) (hr : n.role ≠ 0 → n.rpl = 0 ∨ n.rpl = 1) : AOn Tryz.prog 86 [.agg ⟨RNd.enc n⟩, .int .i64 0, .int .i64 now, .int .i64 port, .int .u64 fro] [] (rask0_E (rask0 n now port fro)) [] := by
  unfold rask0
  apply onT 400 rask0_E
  apply kk (rstands_eq n (show n.own = 1 ∨ n.own = 7 ∨ n.own = 14 from by first | omega | (simp only [zor, zand, zorf, zandf, znt, znf, zeq, zne, zeqf, znef, zd, zdf] at *; omega)))
  apply kk (rabove_eq (rstands n) 0)
  apply ki 26
  intro hb0
  exact kl
  intro hb0
  apply kj 430044
  intro hb1
  apply kj 480049
  intro hb2
  exact kl
  intro hb2
  apply kv 60 (ieq .i64 hb1)
  apply kcs (n.own != 14)
  intro hb3
  apply kv 64 (bis hb3)
  apply kd .inl
  apply kf [.cut 13, ract10_c (ract10 n now port fro)] (o_ (ract10_eq n now port fro (by first | omega | (simp only [zor, zand, zorf, zandf, znt, znf, zeq, zne, zeqf, znef, zd, zdf] at *; omega))) o0)
  apply kf [.cut 13, ract9_c (rask0_x0 n now port fro)] (o_ (ract9_eq ((ract10 n now port fro).1) now port fro) o0)
  apply kj 920093
  intro hb4
  apply kd .inl
  apply kd .inl
  apply kd .inl
  apply kd .inl
  exact kl
  intro hb4
  apply kd .inl
  apply kd .inl
  apply kd .inl
  apply kd .inl
  exact kl
  intro hb3
  apply kv 64 (bis hb3)
  apply kd .inl
  apply kf [.cut 13, ract10_c (ract10 n now port fro)] (o_ (ract10_eq n now port fro (by first | omega | (simp only [zor, zand, zorf, zandf, znt, znf, zeq, zne, zeqf, znef, zd, zdf] at *; omega))) o0)
  apply kf [.cut 13, ract9_c (rask0_x0 n now port fro)] (o_ (ract9_eq ((ract10 n now port fro).1) now port fro) o0)
  apply kj 920093
  intro hb4
  apply kd .inl
  apply kd .inl
  apply kd .inl
  apply kd .inl
  exact kl
  intro hb4
  apply kd .inl
  apply kd .inl
  apply kd .inl
  apply kd .inl
  exact kl
  intro hb1
  apply kor
  apply kc
  intro hb2
  apply kv 60 (ieq .i64 hb2)
  apply kcs (n.own != 14)
  intro hb3
  apply kv 64 (bis hb3)
  apply kd .inl
  exact kl
  intro hb3
  apply kv 64 (bis hb3)
  apply kd .inl
  exact kl
  intro hb2
  apply kc
  intro hb3
  apply kv 60 (ieq .i64 hb3)
  apply kcs (n.own != 14)
  intro hb4
  apply kv 64 (bis hb4)
  apply kd .inl
  exact kl
  intro hb4
  apply kv 64 (bis hb4)
  apply kd .inl
  exact kl
  intro hb3
  apply kc
  intro hb4
  apply kv 60 (ieq .i64 hb4)
  apply kc
  intro hb5
  apply kv 64 (bis hb5)
  apply kd .inl
  apply kf [.cut 13, ract5_c (ract5 n now port fro)] (o_ (ract5_eq n now port fro) o0)
  apply kf [.cut 13, ract6_c (rask0_x1 n now port fro)] (o_ (ract6_eq ((ract5 n now port fro).1) now port fro) o0)
  apply kor
  apply kj 920093
  intro hb6
  apply kf [.cut 13, ract8_c (rask0_x2 n now port fro)] (o_ (ract8_eq ((rask0_x1 n now port fro).1) now port fro) o0)
  apply kd .inl
  apply kd .inl
  apply kd .inl
  apply kd .inl
  apply ki 127
  intro hb7
  apply kk (rask3_eq { ((rask0_x2 n now port fro).1) with state := 4, own := 14 } now 0 0 (show 14 = 1 ∨ 14 = 7 ∨ 14 = 14 from by first | omega | (simp only [zor, zand, zorf, zandf, znt, znf, zeq, zne, zeqf, znef, zd, zdf] at *; omega)) (.inl rfl))
  apply ki 127
  intro hb8
  apply kk (rask3_eq ((rask0_x3 n now port fro).1) now 1 0 (show ((rask0_x3 n now port fro).1).own = 1 ∨ ((rask0_x3 n now port fro).1).own = 7 ∨ ((rask0_x3 n now port fro).1).own = 14 from by have := (show (rask0_x3 n now port fro).1.own = 14 ∨ (rask0_x3 n now port fro).1.own = 14 from rask3_own { ((rask0_x2 n now port fro).1) with state := 4, own := 14 } now 0 0); first | omega | (simp only [zor, zand, zorf, zandf, znt, znf, zeq, zne, zeqf, znef, zd, zdf] at *; omega)) (.inr rfl))
  exact kl
  intro hb8
  exact kl
  intro hb7
  apply ki 127
  intro hb8
  apply kk (rask3_eq { ((rask0_x2 n now port fro).1) with state := 4, own := 14 } now 1 0 (show 14 = 1 ∨ 14 = 7 ∨ 14 = 14 from by first | omega | (simp only [zor, zand, zorf, zandf, znt, znf, zeq, zne, zeqf, znef, zd, zdf] at *; omega)) (.inr rfl))
  exact kl
  intro hb8
  exact kl
  intro hb6
  apply kf [.cut 13, ract8_c (rask0_x2 n now port fro)] (o_ (ract8_eq ((rask0_x1 n now port fro).1) now port fro) o0)
  apply kj 920093
  intro hb7
  apply kd .inl
  apply kd .inl
  apply kd .inl
  apply kd .inl
  apply ki 127
  intro hb8
  apply kk (rask3_eq { ((rask0_x2 n now port fro).1) with state := 4, own := 14 } now 0 0 (show 14 = 1 ∨ 14 = 7 ∨ 14 = 14 from by first | omega | (simp only [zor, zand, zorf, zandf, znt, znf, zeq, zne, zeqf, znef, zd, zdf] at *; omega)) (.inl rfl))
  apply ki 127
  intro hb9
  apply kk (rask3_eq ((rask0_x3 n now port fro).1) now 1 0 (show ((rask0_x3 n now port fro).1).own = 1 ∨ ((rask0_x3 n now port fro).1).own = 7 ∨ ((rask0_x3 n now port fro).1).own = 14 from by have := (show (rask0_x3 n now port fro).1.own = 14 ∨ (rask0_x3 n now port fro).1.own = 14 from rask3_own { ((rask0_x2 n now port fro).1) with state := 4, own := 14 } now 0 0); first | omega | (simp only [zor, zand, zorf, zandf, znt, znf, zeq, zne, zeqf, znef, zd, zdf] at *; omega)) (.inr rfl))
  exact kl
  intro hb9
  exact kl
  intro hb8
  apply ki 127
  intro hb9
  apply kk (rask3_eq { ((rask0_x2 n now port fro).1) with state := 4, own := 14 } now 1 0 (show 14 = 1 ∨ 14 = 7 ∨ 14 = 14 from by first | omega | (simp only [zor, zand, zorf, zandf, znt, znf, zeq, zne, zeqf, znef, zd, zdf] at *; omega)) (.inr rfl))
  exact kl
  intro hb9
  exact kl
  intro hb7
  apply kd .inl
  apply kd .inl
  apply kd .inl
  apply kd .inl
  apply ki 127
  intro hb8
  apply kk (rask3_eq { ((rask0_x2 n now port fro).1) with state := 4, own := 14 } now 0 0 (show 14 = 1 ∨ 14 = 7 ∨ 14 = 14 from by first | omega | (simp only [zor, zand, zorf, zandf, znt, znf, zeq, zne, zeqf, znef, zd, zdf] at *; omega)) (.inl rfl))
  apply kj 1380139
  intro hb9
  apply ki 127
  intro hb10
  apply kk (rask3_eq ((rask0_x3 n now port fro).1) now 1 0 (show ((rask0_x3 n now port fro).1).own = 1 ∨ ((rask0_x3 n now port fro).1).own = 7 ∨ ((rask0_x3 n now port fro).1).own = 14 from by have := (show (rask0_x3 n now port fro).1.own = 14 ∨ (rask0_x3 n now port fro).1.own = 14 from rask3_own { ((rask0_x2 n now port fro).1) with state := 4, own := 14 } now 0 0); first | omega | (simp only [zor, zand, zorf, zandf, znt, znf, zeq, zne, zeqf, znef, zd, zdf] at *; omega)) (.inr rfl))
  exact kl
  intro hb10
  exact kl
  intro hb9
  apply ki 127
  intro hb10
  apply kk (rask3_eq ((rask0_x3 n now port fro).1) now 1 0 (show ((rask0_x3 n now port fro).1).own = 1 ∨ ((rask0_x3 n now port fro).1).own = 7 ∨ ((rask0_x3 n now port fro).1).own = 14 from by have := (show (rask0_x3 n now port fro).1.own = 14 ∨ (rask0_x3 n now port fro).1.own = 14 from rask3_own { ((rask0_x2 n now port fro).1) with state := 4, own := 14 } now 0 0); first | omega | (simp only [zor, zand, zorf, zandf, znt, znf, zeq, zne, zeqf, znef, zd, zdf] at *; omega)) (.inr rfl))
  apply kj 1380139
  intro hb11
  exact kl
  intro hb11
  exact kl
  intro hb10
  exact kl
  intro hb8
  apply ki 127
  intro hb9
  apply kk (rask3_eq { ((rask0_x2 n now port fro).1) with state := 4, own := 14 } now 1 0 (show 14 = 1 ∨ 14 = 7 ∨ 14 = 14 from by first | omega | (simp only [zor, zand, zorf, zandf, znt, znf, zeq, zne, zeqf, znef, zd, zdf] at *; omega)) (.inr rfl))
  apply kj 1380139
  intro hb10
  exact kl
  intro hb10
  exact kl
  intro hb9
  exact kl
  intro hb5
  apply kv 64 (bis hb5)
  apply kd .inl
  exact kl
  intro hb4
  apply kand
  apply kc
  intro hb5
  apply kv 60 (ieq .i64 hb5)
  apply kc
  intro hb6
  apply kv 64 (bis hb6)
  apply kd .inl
  apply kf [.cut 13, ract5_c (ract5 n now port fro)] (o_ (ract5_eq n now port fro) o0)
  apply kf [.cut 13, ract6_c (rask0_x1 n now port fro)] (o_ (ract6_eq ((ract5 n now port fro).1) now port fro) o0)
  apply kor
  apply kj 920093
  intro hb7
  apply kf [.cut 13, ract8_c (rask0_x2 n now port fro)] (o_ (ract8_eq ((rask0_x1 n now port fro).1) now port fro) o0)
  apply kd .inl
  apply kd .inl
  apply kd .inl
  apply kd .inl
  apply ki 127
  intro hb8
  apply kk (rask3_eq { ((rask0_x2 n now port fro).1) with state := 4, own := 14 } now 0 0 (show 14 = 1 ∨ 14 = 7 ∨ 14 = 14 from by first | omega | (simp only [zor, zand, zorf, zandf, znt, znf, zeq, zne, zeqf, znef, zd, zdf] at *; omega)) (.inl rfl))
  apply ki 127
  intro hb9
  apply kk (rask3_eq ((rask0_x3 n now port fro).1) now 1 0 (show ((rask0_x3 n now port fro).1).own = 1 ∨ ((rask0_x3 n now port fro).1).own = 7 ∨ ((rask0_x3 n now port fro).1).own = 14 from by have := (show (rask0_x3 n now port fro).1.own = 14 ∨ (rask0_x3 n now port fro).1.own = 14 from rask3_own { ((rask0_x2 n now port fro).1) with state := 4, own := 14 } now 0 0); first | omega | (simp only [zor, zand, zorf, zandf, znt, znf, zeq, zne, zeqf, znef, zd, zdf] at *; omega)) (.inr rfl))
  exact kl
  intro hb9
  exact kl
  intro hb8
  apply ki 127
  intro hb9
  apply kk (rask3_eq { ((rask0_x2 n now port fro).1) with state := 4, own := 14 } now 1 0 (show 14 = 1 ∨ 14 = 7 ∨ 14 = 14 from by first | omega | (simp only [zor, zand, zorf, zandf, znt, znf, zeq, zne, zeqf, znef, zd, zdf] at *; omega)) (.inr rfl))
  exact kl
  intro hb9
  exact kl
  intro hb7
  apply kf [.cut 13, ract8_c (rask0_x2 n now port fro)] (o_ (ract8_eq ((rask0_x1 n now port fro).1) now port fro) o0)
  apply kj 920093
  intro hb8
  apply kd .inl
  apply kd .inl
  apply kd .inl
  apply kd .inl
  apply ki 127
  intro hb9
  apply kk (rask3_eq { ((rask0_x2 n now port fro).1) with state := 4, own := 14 } now 0 0 (show 14 = 1 ∨ 14 = 7 ∨ 14 = 14 from by first | omega | (simp only [zor, zand, zorf, zandf, znt, znf, zeq, zne, zeqf, znef, zd, zdf] at *; omega)) (.inl rfl))
  apply ki 127
  intro hb10
  apply kk (rask3_eq ((rask0_x3 n now port fro).1) now 1 0 (show ((rask0_x3 n now port fro).1).own = 1 ∨ ((rask0_x3 n now port fro).1).own = 7 ∨ ((rask0_x3 n now port fro).1).own = 14 from by have := (show (rask0_x3 n now port fro).1.own = 14 ∨ (rask0_x3 n now port fro).1.own = 14 from rask3_own { ((rask0_x2 n now port fro).1) with state := 4, own := 14 } now 0 0); first | omega | (simp only [zor, zand, zorf, zandf, znt, znf, zeq, zne, zeqf, znef, zd, zdf] at *; omega)) (.inr rfl))
  exact kl
  intro hb10
  exact kl
  intro hb9
  apply ki 127
  intro hb10
  apply kk (rask3_eq { ((rask0_x2 n now port fro).1) with state := 4, own := 14 } now 1 0 (show 14 = 1 ∨ 14 = 7 ∨ 14 = 14 from by first | omega | (simp only [zor, zand, zorf, zandf, znt, znf, zeq, zne, zeqf, znef, zd, zdf] at *; omega)) (.inr rfl))
  exact kl
  intro hb10
  exact kl
  intro hb8
  apply kd .inl
  apply kd .inl
  apply kd .inl
  apply kd .inl
  apply ki 127
  intro hb9
  apply kk (rask3_eq { ((rask0_x2 n now port fro).1) with state := 4, own := 14 } now 0 0 (show 14 = 1 ∨ 14 = 7 ∨ 14 = 14 from by first | omega | (simp only [zor, zand, zorf, zandf, znt, znf, zeq, zne, zeqf, znef, zd, zdf] at *; omega)) (.inl rfl))
  apply kj 1380139
  intro hb10
  apply ki 127
  intro hb11
  apply kk (rask3_eq ((rask0_x3 n now port fro).1) now 1 0 (show ((rask0_x3 n now port fro).1).own = 1 ∨ ((rask0_x3 n now port fro).1).own = 7 ∨ ((rask0_x3 n now port fro).1).own = 14 from by have := (show (rask0_x3 n now port fro).1.own = 14 ∨ (rask0_x3 n now port fro).1.own = 14 from rask3_own { ((rask0_x2 n now port fro).1) with state := 4, own := 14 } now 0 0); first | omega | (simp only [zor, zand, zorf, zandf, znt, znf, zeq, zne, zeqf, znef, zd, zdf] at *; omega)) (.inr rfl))
  exact kl
  intro hb11
  exact kl
  intro hb10
  apply ki 127
  intro hb11
  apply kk (rask3_eq ((rask0_x3 n now port fro).1) now 1 0 (show ((rask0_x3 n now port fro).1).own = 1 ∨ ((rask0_x3 n now port fro).1).own = 7 ∨ ((rask0_x3 n now port fro).1).own = 14 from by have := (show (rask0_x3 n now port fro).1.own = 14 ∨ (rask0_x3 n now port fro).1.own = 14 from rask3_own { ((rask0_x2 n now port fro).1) with state := 4, own := 14 } now 0 0); first | omega | (simp only [zor, zand, zorf, zandf, znt, znf, zeq, zne, zeqf, znef, zd, zdf] at *; omega)) (.inr rfl))
  apply kj 1380139
  intro hb12
  exact kl
  intro hb12
  exact kl
  intro hb11
  exact kl
  intro hb9
  apply ki 127
  intro hb10
  apply kk (rask3_eq { ((rask0_x2 n now port fro).1) with state := 4, own := 14 } now 1 0 (show 14 = 1 ∨ 14 = 7 ∨ 14 = 14 from by first | omega | (simp only [zor, zand, zorf, zandf, znt, znf, zeq, zne, zeqf, znef, zd, zdf] at *; omega)) (.inr rfl))
  apply kj 1380139
  intro hb11
  exact kl
  intro hb11
  exact kl
  intro hb10
  exact kl
  intro hb6
  apply kv 64 (bis hb6)
  apply kd .inl
  exact kl
  intro hb5
  apply kd .inl
  apply kjs 100011 (decide (n.state < 0))
  intro hb6
  exact kl
  intro hb6
  apply kis 13 (decide (n.state > 4))
  intro hb7
  exact kl
  intro hb7
  apply kr 19 hb1
  apply kjs 220023 (n.own != 14)
  intro hb8
  apply ku 250026 hb4
  apply kr 29 hb5
  exact kl
  intro hb8
  exact kl
  kernel_rfl
  rfl

def rask1_x0 (n : RNd) (now : Int) (port : Int) (fro : Int) : RNd × Bool := ract9 ((ract0 n now port fro).1) now port fro
def rask1 (n : RNd) (now : Int) (port : Int) (fro : Int) : RNd × Bool × Bool :=
  bif (rabove (rstands n) 1) then
    (n, false, false)
  else
    bif (n.state == 0) || ((n.state == 1) || ((n.state == 2) || ((n.state == 3) || (n.state == 4)))) then
      bif (ract0 n now port fro).2 then
        ({ ((rask1_x0 n now port fro).1) with state := 3, own := 1 }, true, true)
      else
        ({ ((rask1_x0 n now port fro).1) with state := 3, own := 1 }, (rask1_x0 n now port fro).2, true)
    else
      bif (decide (n.state < 0)) || (decide (n.state > 4)) then
        (n, false, false)
      else
        bif (ract0 n now port fro).2 then
          ({ ((rask1_x0 n now port fro).1) with state := 3, own := 1 }, true, true)
        else
          ({ ((rask1_x0 n now port fro).1) with state := 3, own := 1 }, (rask1_x0 n now port fro).2, true)
def rask1_c (r : RNd × Bool × Bool) : Dir := .callL (.tuple ⟨[.agg ⟨RNd.enc r.1⟩, .bool r.2.1, .bool r.2.2]⟩) []
def rask1_E (r : RNd × Bool × Bool) : Value := .tuple ⟨[.agg ⟨RNd.enc r.1⟩, .bool r.2.1, .bool r.2.2]⟩
theorem rask1_eq (n : RNd) (now : Int) (port : Int) (fro : Int) (ho : n.own = 1 ∨ n.own = 7 ∨ n.own = 14) (hp : port = 0 ∨ port = 1) : AOn Tryz.prog 86 [.agg ⟨RNd.enc n⟩, .int .i64 1, .int .i64 now, .int .i64 port, .int .u64 fro] [] (rask1_E (rask1 n now port fro)) [] := by
  unfold rask1
  apply onT 400 rask1_E
  apply kk (rstands_eq n (show n.own = 1 ∨ n.own = 7 ∨ n.own = 14 from by first | omega | (simp only [zor, zand, zorf, zandf, znt, znf, zeq, zne, zeqf, znef, zd, zdf] at *; omega)))
  apply kk (rabove_eq (rstands n) 1)
  apply ki 26
  intro hb0
  exact kl
  intro hb0
  apply kor
  apply kc
  intro hb1
  apply kv 60 (ieq .i64 hb1)
  apply kcs (n.own != 14)
  intro hb2
  apply kv 64 (bis hb2)
  apply kd .inl
  apply kf [.cut 13, ract0_c (ract0 n now port fro)] (o_ (ract0_eq n now port fro (by first | omega | (simp only [zor, zand, zorf, zandf, znt, znf, zeq, zne, zeqf, znef, zd, zdf] at *; omega))) o0)
  apply kf [.cut 13, ract9_c (rask1_x0 n now port fro)] (o_ (ract9_eq ((ract0 n now port fro).1) now port fro) o0)
  apply kj 920093
  intro hb3
  exact kl
  intro hb3
  exact kl
  intro hb2
  apply kv 64 (bis hb2)
  apply kd .inl
  apply kf [.cut 13, ract0_c (ract0 n now port fro)] (o_ (ract0_eq n now port fro (by first | omega | (simp only [zor, zand, zorf, zandf, znt, znf, zeq, zne, zeqf, znef, zd, zdf] at *; omega))) o0)
  apply kf [.cut 13, ract9_c (rask1_x0 n now port fro)] (o_ (ract9_eq ((ract0 n now port fro).1) now port fro) o0)
  apply kj 920093
  intro hb3
  exact kl
  intro hb3
  exact kl
  intro hb1
  apply kor
  apply kc
  intro hb2
  apply kv 60 (ieq .i64 hb2)
  apply kcs (n.own != 14)
  intro hb3
  apply kv 64 (bis hb3)
  apply kd .inl
  apply kf [.cut 13, ract0_c (ract0 n now port fro)] (o_ (ract0_eq n now port fro (by first | omega | (simp only [zor, zand, zorf, zandf, znt, znf, zeq, zne, zeqf, znef, zd, zdf] at *; omega))) o0)
  apply kf [.cut 13, ract9_c (rask1_x0 n now port fro)] (o_ (ract9_eq ((ract0 n now port fro).1) now port fro) o0)
  apply kj 920093
  intro hb4
  exact kl
  intro hb4
  exact kl
  intro hb3
  apply kv 64 (bis hb3)
  apply kd .inl
  apply kf [.cut 13, ract0_c (ract0 n now port fro)] (o_ (ract0_eq n now port fro (by first | omega | (simp only [zor, zand, zorf, zandf, znt, znf, zeq, zne, zeqf, znef, zd, zdf] at *; omega))) o0)
  apply kf [.cut 13, ract9_c (rask1_x0 n now port fro)] (o_ (ract9_eq ((ract0 n now port fro).1) now port fro) o0)
  apply kj 920093
  intro hb4
  exact kl
  intro hb4
  exact kl
  intro hb2
  apply kor
  apply kc
  intro hb3
  apply kv 60 (ieq .i64 hb3)
  apply kcs (n.own != 14)
  intro hb4
  apply kv 64 (bis hb4)
  apply kd .inl
  apply kf [.cut 13, ract0_c (ract0 n now port fro)] (o_ (ract0_eq n now port fro (by first | omega | (simp only [zor, zand, zorf, zandf, znt, znf, zeq, zne, zeqf, znef, zd, zdf] at *; omega))) o0)
  apply kf [.cut 13, ract9_c (rask1_x0 n now port fro)] (o_ (ract9_eq ((ract0 n now port fro).1) now port fro) o0)
  apply kj 920093
  intro hb5
  exact kl
  intro hb5
  exact kl
  intro hb4
  apply kv 64 (bis hb4)
  apply kd .inl
  apply kf [.cut 13, ract0_c (ract0 n now port fro)] (o_ (ract0_eq n now port fro (by first | omega | (simp only [zor, zand, zorf, zandf, znt, znf, zeq, zne, zeqf, znef, zd, zdf] at *; omega))) o0)
  apply kf [.cut 13, ract9_c (rask1_x0 n now port fro)] (o_ (ract9_eq ((ract0 n now port fro).1) now port fro) o0)
  apply kj 920093
  intro hb5
  exact kl
  intro hb5
  exact kl
  intro hb3
  apply kor
  apply kc
  intro hb4
  apply kv 60 (ieq .i64 hb4)
  apply kcs (n.own != 14)
  intro hb5
  apply kv 64 (bis hb5)
  apply kd .inl
  apply kf [.cut 13, ract0_c (ract0 n now port fro)] (o_ (ract0_eq n now port fro (by first | omega | (simp only [zor, zand, zorf, zandf, znt, znf, zeq, zne, zeqf, znef, zd, zdf] at *; omega))) o0)
  apply kf [.cut 13, ract9_c (rask1_x0 n now port fro)] (o_ (ract9_eq ((ract0 n now port fro).1) now port fro) o0)
  apply kj 920093
  intro hb6
  exact kl
  intro hb6
  exact kl
  intro hb5
  apply kv 64 (bis hb5)
  apply kd .inl
  apply kf [.cut 13, ract0_c (ract0 n now port fro)] (o_ (ract0_eq n now port fro (by first | omega | (simp only [zor, zand, zorf, zandf, znt, znf, zeq, zne, zeqf, znef, zd, zdf] at *; omega))) o0)
  apply kf [.cut 13, ract9_c (rask1_x0 n now port fro)] (o_ (ract9_eq ((ract0 n now port fro).1) now port fro) o0)
  apply kj 920093
  intro hb6
  exact kl
  intro hb6
  exact kl
  intro hb4
  apply kc
  intro hb5
  apply kv 60 (ieq .i64 hb5)
  apply kcs (n.own != 14)
  intro hb6
  apply kv 64 (bis hb6)
  apply kd .inl
  apply kf [.cut 13, ract0_c (ract0 n now port fro)] (o_ (ract0_eq n now port fro (by first | omega | (simp only [zor, zand, zorf, zandf, znt, znf, zeq, zne, zeqf, znef, zd, zdf] at *; omega))) o0)
  apply kf [.cut 13, ract9_c (rask1_x0 n now port fro)] (o_ (ract9_eq ((ract0 n now port fro).1) now port fro) o0)
  apply kj 920093
  intro hb7
  exact kl
  intro hb7
  exact kl
  intro hb6
  apply kv 64 (bis hb6)
  apply kd .inl
  apply kf [.cut 13, ract0_c (ract0 n now port fro)] (o_ (ract0_eq n now port fro (by first | omega | (simp only [zor, zand, zorf, zandf, znt, znf, zeq, zne, zeqf, znef, zd, zdf] at *; omega))) o0)
  apply kf [.cut 13, ract9_c (rask1_x0 n now port fro)] (o_ (ract9_eq ((ract0 n now port fro).1) now port fro) o0)
  apply kj 920093
  intro hb7
  exact kl
  intro hb7
  exact kl
  intro hb5
  apply kd .inl
  apply kor
  apply kj 100011
  intro hb6
  exact kl
  intro hb6
  apply ki 13
  intro hb7
  exact kl
  intro hb7
  apply kf [.cut 13, ract0_c (ract0 n now port fro)] (o_ (ract0_eq n now port fro (by first | omega | (simp only [zor, zand, zorf, zandf, znt, znf, zeq, zne, zeqf, znef, zd, zdf] at *; omega))) o0)
  apply kf [.cut 13, ract9_c (rask1_x0 n now port fro)] (o_ (ract9_eq ((ract0 n now port fro).1) now port fro) o0)
  apply kj 920093
  intro hb8
  exact kl
  intro hb8
  exact kl
  kernel_rfl
  rfl

def rask2_x0 (n : RNd) (now : Int) (port : Int) (fro : Int) : RNd × Bool := ract4 ((ract13 n now port fro).1) now port fro
def rask2_x1 (n : RNd) (now : Int) (port : Int) (fro : Int) : RNd × Bool := ract9 ((rask2_x0 n now port fro).1) now port fro
def rask2 (n : RNd) (now : Int) (port : Int) (fro : Int) : RNd × Bool × Bool :=
  bif (rabove (rstands n) 2) then
    (n, false, false)
  else
    bif (n.state == 0) || ((n.state == 1) || (n.state == 2)) then
      bif ((ract13 n now port fro).2) || ((rask2_x0 n now port fro).2) then
        ({ ((rask2_x1 n now port fro).1) with state := 3, own := 14 }, true, true)
      else
        ({ ((rask2_x1 n now port fro).1) with state := 3, own := 14 }, (rask2_x1 n now port fro).2, true)
    else
      bif n.state == 3 then
        (n, false, false)
      else
        bif n.state == 4 then
          bif ((ract13 n now port fro).2) || ((rask2_x0 n now port fro).2) then
            ({ ((rask2_x1 n now port fro).1) with state := 3, own := 14 }, true, true)
          else
            ({ ((rask2_x1 n now port fro).1) with state := 3, own := 14 }, (rask2_x1 n now port fro).2, true)
        else
          bif (decide (n.state < 0)) || (decide (n.state > 4)) then
            (n, false, false)
          else
            bif ((ract13 n now port fro).2) || ((rask2_x0 n now port fro).2) then
              ({ ((rask2_x1 n now port fro).1) with state := 3, own := 14 }, true, true)
            else
              ({ ((rask2_x1 n now port fro).1) with state := 3, own := 14 }, (rask2_x1 n now port fro).2, true)
def rask2_c (r : RNd × Bool × Bool) : Dir := .callL (.tuple ⟨[.agg ⟨RNd.enc r.1⟩, .bool r.2.1, .bool r.2.2]⟩) []
def rask2_E (r : RNd × Bool × Bool) : Value := .tuple ⟨[.agg ⟨RNd.enc r.1⟩, .bool r.2.1, .bool r.2.2]⟩
theorem rask2_eq (n : RNd) (now : Int) (port : Int) (fro : Int) (ho : n.own = 1 ∨ n.own = 7 ∨ n.own = 14) : AOn Tryz.prog 86 [.agg ⟨RNd.enc n⟩, .int .i64 2, .int .i64 now, .int .i64 port, .int .u64 fro] [] (rask2_E (rask2 n now port fro)) [] := by
  unfold rask2
  apply onT 400 rask2_E
  apply kk (rstands_eq n (show n.own = 1 ∨ n.own = 7 ∨ n.own = 14 from by first | omega | (simp only [zor, zand, zorf, zandf, znt, znf, zeq, zne, zeqf, znef, zd, zdf] at *; omega)))
  apply kk (rabove_eq (rstands n) 2)
  apply ki 26
  intro hb0
  exact kl
  intro hb0
  apply kor
  apply kc
  intro hb1
  apply kv 60 (ieq .i64 hb1)
  apply kcs (n.own != 14)
  intro hb2
  apply kv 64 (bis hb2)
  apply kd .inl
  apply kf [.cut 13, ract13_c (ract13 n now port fro)] (o_ (ract13_eq n now port fro) o0)
  apply kf [.cut 13, ract4_c (rask2_x0 n now port fro)] (o_ (ract4_eq ((ract13 n now port fro).1) now port fro) o0)
  apply kor
  apply kj 920093
  intro hb3
  apply kf [.cut 13, ract9_c (rask2_x1 n now port fro)] (o_ (ract9_eq ((rask2_x0 n now port fro).1) now port fro) o0)
  apply kd .inl
  apply kd .inl
  apply kd .inl
  apply kd .inl
  exact kl
  intro hb3
  apply kf [.cut 13, ract9_c (rask2_x1 n now port fro)] (o_ (ract9_eq ((rask2_x0 n now port fro).1) now port fro) o0)
  apply kj 920093
  intro hb4
  apply kd .inl
  apply kd .inl
  apply kd .inl
  apply kd .inl
  exact kl
  intro hb4
  apply kd .inl
  apply kd .inl
  apply kd .inl
  apply kd .inl
  exact kl
  intro hb2
  apply kv 64 (bis hb2)
  apply kd .inl
  apply kf [.cut 13, ract13_c (ract13 n now port fro)] (o_ (ract13_eq n now port fro) o0)
  apply kf [.cut 13, ract4_c (rask2_x0 n now port fro)] (o_ (ract4_eq ((ract13 n now port fro).1) now port fro) o0)
  apply kor
  apply kj 920093
  intro hb3
  apply kf [.cut 13, ract9_c (rask2_x1 n now port fro)] (o_ (ract9_eq ((rask2_x0 n now port fro).1) now port fro) o0)
  apply kd .inl
  apply kd .inl
  apply kd .inl
  apply kd .inl
  exact kl
  intro hb3
  apply kf [.cut 13, ract9_c (rask2_x1 n now port fro)] (o_ (ract9_eq ((rask2_x0 n now port fro).1) now port fro) o0)
  apply kj 920093
  intro hb4
  apply kd .inl
  apply kd .inl
  apply kd .inl
  apply kd .inl
  exact kl
  intro hb4
  apply kd .inl
  apply kd .inl
  apply kd .inl
  apply kd .inl
  exact kl
  intro hb1
  apply kor
  apply kc
  intro hb2
  apply kv 60 (ieq .i64 hb2)
  apply kcs (n.own != 14)
  intro hb3
  apply kv 64 (bis hb3)
  apply kd .inl
  apply kf [.cut 13, ract13_c (ract13 n now port fro)] (o_ (ract13_eq n now port fro) o0)
  apply kf [.cut 13, ract4_c (rask2_x0 n now port fro)] (o_ (ract4_eq ((ract13 n now port fro).1) now port fro) o0)
  apply kor
  apply kj 920093
  intro hb4
  apply kf [.cut 13, ract9_c (rask2_x1 n now port fro)] (o_ (ract9_eq ((rask2_x0 n now port fro).1) now port fro) o0)
  apply kd .inl
  apply kd .inl
  apply kd .inl
  apply kd .inl
  exact kl
  intro hb4
  apply kf [.cut 13, ract9_c (rask2_x1 n now port fro)] (o_ (ract9_eq ((rask2_x0 n now port fro).1) now port fro) o0)
  apply kj 920093
  intro hb5
  apply kd .inl
  apply kd .inl
  apply kd .inl
  apply kd .inl
  exact kl
  intro hb5
  apply kd .inl
  apply kd .inl
  apply kd .inl
  apply kd .inl
  exact kl
  intro hb3
  apply kv 64 (bis hb3)
  apply kd .inl
  apply kf [.cut 13, ract13_c (ract13 n now port fro)] (o_ (ract13_eq n now port fro) o0)
  apply kf [.cut 13, ract4_c (rask2_x0 n now port fro)] (o_ (ract4_eq ((ract13 n now port fro).1) now port fro) o0)
  apply kor
  apply kj 920093
  intro hb4
  apply kf [.cut 13, ract9_c (rask2_x1 n now port fro)] (o_ (ract9_eq ((rask2_x0 n now port fro).1) now port fro) o0)
  apply kd .inl
  apply kd .inl
  apply kd .inl
  apply kd .inl
  exact kl
  intro hb4
  apply kf [.cut 13, ract9_c (rask2_x1 n now port fro)] (o_ (ract9_eq ((rask2_x0 n now port fro).1) now port fro) o0)
  apply kj 920093
  intro hb5
  apply kd .inl
  apply kd .inl
  apply kd .inl
  apply kd .inl
  exact kl
  intro hb5
  apply kd .inl
  apply kd .inl
  apply kd .inl
  apply kd .inl
  exact kl
  intro hb2
  apply kc
  intro hb3
  apply kv 60 (ieq .i64 hb3)
  apply kcs (n.own != 14)
  intro hb4
  apply kv 64 (bis hb4)
  apply kd .inl
  apply kf [.cut 13, ract13_c (ract13 n now port fro)] (o_ (ract13_eq n now port fro) o0)
  apply kf [.cut 13, ract4_c (rask2_x0 n now port fro)] (o_ (ract4_eq ((ract13 n now port fro).1) now port fro) o0)
  apply kor
  apply kj 920093
  intro hb5
  apply kf [.cut 13, ract9_c (rask2_x1 n now port fro)] (o_ (ract9_eq ((rask2_x0 n now port fro).1) now port fro) o0)
  apply kd .inl
  apply kd .inl
  apply kd .inl
  apply kd .inl
  exact kl
  intro hb5
  apply kf [.cut 13, ract9_c (rask2_x1 n now port fro)] (o_ (ract9_eq ((rask2_x0 n now port fro).1) now port fro) o0)
  apply kj 920093
  intro hb6
  apply kd .inl
  apply kd .inl
  apply kd .inl
  apply kd .inl
  exact kl
  intro hb6
  apply kd .inl
  apply kd .inl
  apply kd .inl
  apply kd .inl
  exact kl
  intro hb4
  apply kv 64 (bis hb4)
  apply kd .inl
  apply kf [.cut 13, ract13_c (ract13 n now port fro)] (o_ (ract13_eq n now port fro) o0)
  apply kf [.cut 13, ract4_c (rask2_x0 n now port fro)] (o_ (ract4_eq ((ract13 n now port fro).1) now port fro) o0)
  apply kor
  apply kj 920093
  intro hb5
  apply kf [.cut 13, ract9_c (rask2_x1 n now port fro)] (o_ (ract9_eq ((rask2_x0 n now port fro).1) now port fro) o0)
  apply kd .inl
  apply kd .inl
  apply kd .inl
  apply kd .inl
  exact kl
  intro hb5
  apply kf [.cut 13, ract9_c (rask2_x1 n now port fro)] (o_ (ract9_eq ((rask2_x0 n now port fro).1) now port fro) o0)
  apply kj 920093
  intro hb6
  apply kd .inl
  apply kd .inl
  apply kd .inl
  apply kd .inl
  exact kl
  intro hb6
  apply kd .inl
  apply kd .inl
  apply kd .inl
  apply kd .inl
  exact kl
  intro hb3
  apply kc
  intro hb4
  apply kv 60 (ieq .i64 hb4)
  apply kcs (n.own != 14)
  intro hb5
  apply kv 64 (bis hb5)
  apply kd .inl
  exact kl
  intro hb5
  apply kv 64 (bis hb5)
  apply kd .inl
  exact kl
  intro hb4
  apply kc
  intro hb5
  apply kv 60 (ieq .i64 hb5)
  apply kcs (n.own != 14)
  intro hb6
  apply kv 64 (bis hb6)
  apply kd .inl
  apply kf [.cut 13, ract13_c (ract13 n now port fro)] (o_ (ract13_eq n now port fro) o0)
  apply kf [.cut 13, ract4_c (rask2_x0 n now port fro)] (o_ (ract4_eq ((ract13 n now port fro).1) now port fro) o0)
  apply kor
  apply kj 920093
  intro hb7
  apply kf [.cut 13, ract9_c (rask2_x1 n now port fro)] (o_ (ract9_eq ((rask2_x0 n now port fro).1) now port fro) o0)
  apply kd .inl
  apply kd .inl
  apply kd .inl
  apply kd .inl
  exact kl
  intro hb7
  apply kf [.cut 13, ract9_c (rask2_x1 n now port fro)] (o_ (ract9_eq ((rask2_x0 n now port fro).1) now port fro) o0)
  apply kj 920093
  intro hb8
  apply kd .inl
  apply kd .inl
  apply kd .inl
  apply kd .inl
  exact kl
  intro hb8
  apply kd .inl
  apply kd .inl
  apply kd .inl
  apply kd .inl
  exact kl
  intro hb6
  apply kv 64 (bis hb6)
  apply kd .inl
  apply kf [.cut 13, ract13_c (ract13 n now port fro)] (o_ (ract13_eq n now port fro) o0)
  apply kf [.cut 13, ract4_c (rask2_x0 n now port fro)] (o_ (ract4_eq ((ract13 n now port fro).1) now port fro) o0)
  apply kor
  apply kj 920093
  intro hb7
  apply kf [.cut 13, ract9_c (rask2_x1 n now port fro)] (o_ (ract9_eq ((rask2_x0 n now port fro).1) now port fro) o0)
  apply kd .inl
  apply kd .inl
  apply kd .inl
  apply kd .inl
  exact kl
  intro hb7
  apply kf [.cut 13, ract9_c (rask2_x1 n now port fro)] (o_ (ract9_eq ((rask2_x0 n now port fro).1) now port fro) o0)
  apply kj 920093
  intro hb8
  apply kd .inl
  apply kd .inl
  apply kd .inl
  apply kd .inl
  exact kl
  intro hb8
  apply kd .inl
  apply kd .inl
  apply kd .inl
  apply kd .inl
  exact kl
  intro hb5
  apply kd .inl
  apply kor
  apply kj 100011
  intro hb6
  exact kl
  intro hb6
  apply ki 13
  intro hb7
  exact kl
  intro hb7
  apply kr 37 (show (n.state != 3) = true from by first | omega | (simp only [zor, zand, zorf, zandf, znt, znf, zeq, zne, zeqf, znef, zd, zdf] at *; omega))
  apply kf [.cut 13, ract13_c (ract13 n now port fro)] (o_ (ract13_eq n now port fro) o0)
  apply kf [.cut 13, ract4_c (rask2_x0 n now port fro)] (o_ (ract4_eq ((ract13 n now port fro).1) now port fro) o0)
  apply kor
  apply kj 920093
  intro hb8
  apply kf [.cut 13, ract9_c (rask2_x1 n now port fro)] (o_ (ract9_eq ((rask2_x0 n now port fro).1) now port fro) o0)
  apply kd .inl
  apply kd .inl
  apply kd .inl
  apply kd .inl
  exact kl
  intro hb8
  apply kf [.cut 13, ract9_c (rask2_x1 n now port fro)] (o_ (ract9_eq ((rask2_x0 n now port fro).1) now port fro) o0)
  apply kj 920093
  intro hb9
  apply kd .inl
  apply kd .inl
  apply kd .inl
  apply kd .inl
  exact kl
  intro hb9
  apply kd .inl
  apply kd .inl
  apply kd .inl
  apply kd .inl
  exact kl
  kernel_rfl
  rfl

def rask4_x0 (n : RNd) (now : Int) (port : Int) (fro : Int) : RNd × Bool := ract6 ((ract5 n now port fro).1) now port fro
def rask4_x1 (n : RNd) (now : Int) (port : Int) (fro : Int) : RNd × Bool := ract7 ((rask4_x0 n now port fro).1) now port fro
def rask4_x2 (n : RNd) (now : Int) (port : Int) (fro : Int) : RNd × Bool × Bool := rask3 { ((rask4_x1 n now port fro).1) with state := 4, own := 14 } now 0 0
def rask4_x3 (n : RNd) (now : Int) (port : Int) (fro : Int) : RNd × Bool × Bool := rask3 { ((rask4_x1 n now port fro).1) with state := 4, own := 14 } now 1 0
def rask4 (n : RNd) (now : Int) (port : Int) (fro : Int) : RNd × Bool × Bool :=
  bif (rabove (rstands n) 4) || (n.state == 0) then
    (n, false, false)
  else
    bif n.state == 1 then
      bif ((ract5 n now port fro).2) || ((rask4_x0 n now port fro).2) then
        bif (((rask4_x1 n now port fro).1).bad).w then
          bif (((rask4_x2 n now port fro).1).bad).e then
            (((rask3 ((rask4_x2 n now port fro).1) now 1 0).1), true, true)
          else
            (((rask4_x2 n now port fro).1), true, true)
        else
          bif (((rask4_x1 n now port fro).1).bad).e then
            (((rask4_x3 n now port fro).1), true, true)
          else
            ({ ((rask4_x1 n now port fro).1) with state := 4, own := 14 }, true, true)
      else
        bif (((rask4_x1 n now port fro).1).bad).w then
          bif (rask4_x1 n now port fro).2 then
            bif (((rask4_x2 n now port fro).1).bad).e then
              (((rask3 ((rask4_x2 n now port fro).1) now 1 0).1), true, true)
            else
              (((rask4_x2 n now port fro).1), true, true)
          else
            bif (((rask4_x2 n now port fro).1).bad).e then
              bif (rask4_x2 n now port fro).2.1 then
                (((rask3 ((rask4_x2 n now port fro).1) now 1 0).1), true, true)
              else
                (((rask3 ((rask4_x2 n now port fro).1) now 1 0).1), (rask3 ((rask4_x2 n now port fro).1) now 1 0).2.1, true)
            else
              (((rask4_x2 n now port fro).1), (rask4_x2 n now port fro).2.1, true)
        else
          bif (((rask4_x1 n now port fro).1).bad).e then
            bif (rask4_x1 n now port fro).2 then
              (((rask4_x3 n now port fro).1), true, true)
            else
              (((rask4_x3 n now port fro).1), (rask4_x3 n now port fro).2.1, true)
          else
            ({ ((rask4_x1 n now port fro).1) with state := 4, own := 14 }, (rask4_x1 n now port fro).2, true)
    else
      (n, false, false)
def rask4_c (r : RNd × Bool × Bool) : Dir := .callL (.tuple ⟨[.agg ⟨RNd.enc r.1⟩, .bool r.2.1, .bool r.2.2]⟩) []
def rask4_E (r : RNd × Bool × Bool) : Value := .tuple ⟨[.agg ⟨RNd.enc r.1⟩, .bool r.2.1, .bool r.2.2]⟩
theorem rask4_eq (n : RNd) (now : Int) (port : Int) (fro : Int) (ho : n.own = 1 ∨ n.own = 7 ∨ n.own = 14) : AOn Tryz.prog 86 [.agg ⟨RNd.enc n⟩, .int .i64 4, .int .i64 now, .int .i64 port, .int .u64 fro] [] (rask4_E (rask4 n now port fro)) [] := by
  unfold rask4
  apply onT 400 rask4_E
  apply kk (rstands_eq n (show n.own = 1 ∨ n.own = 7 ∨ n.own = 14 from by first | omega | (simp only [zor, zand, zorf, zandf, znt, znf, zeq, zne, zeqf, znef, zd, zdf] at *; omega)))
  apply kk (rabove_eq (rstands n) 4)
  apply kor
  apply ki 26
  intro hb0
  exact kl
  intro hb0
  apply kc
  intro hb1
  apply kv 60 (ieq .i64 hb1)
  apply kcs (n.own != 14)
  intro hb2
  apply kv 64 (bis hb2)
  apply kd .inl
  exact kl
  intro hb2
  apply kv 64 (bis hb2)
  apply kd .inl
  exact kl
  intro hb1
  apply kc
  intro hb2
  apply kv 60 (ieq .i64 hb2)
  apply kcs (n.own != 14)
  intro hb3
  apply kv 64 (bis hb3)
  apply kd .inl
  apply kf [.cut 13, ract5_c (ract5 n now port fro)] (o_ (ract5_eq n now port fro) o0)
  apply kf [.cut 13, ract6_c (rask4_x0 n now port fro)] (o_ (ract6_eq ((ract5 n now port fro).1) now port fro) o0)
  apply kor
  apply kj 920093
  intro hb4
  apply kf [.cut 13, ract7_c (rask4_x1 n now port fro)] (o_ (ract7_eq ((rask4_x0 n now port fro).1) now port fro) o0)
  apply kd .inl
  apply kd .inl
  apply kd .inl
  apply kd .inl
  apply ki 127
  intro hb5
  apply kk (rask3_eq { ((rask4_x1 n now port fro).1) with state := 4, own := 14 } now 0 0 (show 14 = 1 ∨ 14 = 7 ∨ 14 = 14 from by first | omega | (simp only [zor, zand, zorf, zandf, znt, znf, zeq, zne, zeqf, znef, zd, zdf] at *; omega)) (.inl rfl))
  apply ki 127
  intro hb6
  apply kk (rask3_eq ((rask4_x2 n now port fro).1) now 1 0 (show ((rask4_x2 n now port fro).1).own = 1 ∨ ((rask4_x2 n now port fro).1).own = 7 ∨ ((rask4_x2 n now port fro).1).own = 14 from by have := (show (rask4_x2 n now port fro).1.own = 14 ∨ (rask4_x2 n now port fro).1.own = 14 from rask3_own { ((rask4_x1 n now port fro).1) with state := 4, own := 14 } now 0 0); first | omega | (simp only [zor, zand, zorf, zandf, znt, znf, zeq, zne, zeqf, znef, zd, zdf] at *; omega)) (.inr rfl))
  exact kl
  intro hb6
  exact kl
  intro hb5
  apply ki 127
  intro hb6
  apply kk (rask3_eq { ((rask4_x1 n now port fro).1) with state := 4, own := 14 } now 1 0 (show 14 = 1 ∨ 14 = 7 ∨ 14 = 14 from by first | omega | (simp only [zor, zand, zorf, zandf, znt, znf, zeq, zne, zeqf, znef, zd, zdf] at *; omega)) (.inr rfl))
  exact kl
  intro hb6
  exact kl
  intro hb4
  apply kf [.cut 13, ract7_c (rask4_x1 n now port fro)] (o_ (ract7_eq ((rask4_x0 n now port fro).1) now port fro) o0)
  apply kj 920093
  intro hb5
  apply kd .inl
  apply kd .inl
  apply kd .inl
  apply kd .inl
  apply ki 127
  intro hb6
  apply kk (rask3_eq { ((rask4_x1 n now port fro).1) with state := 4, own := 14 } now 0 0 (show 14 = 1 ∨ 14 = 7 ∨ 14 = 14 from by first | omega | (simp only [zor, zand, zorf, zandf, znt, znf, zeq, zne, zeqf, znef, zd, zdf] at *; omega)) (.inl rfl))
  apply ki 127
  intro hb7
  apply kk (rask3_eq ((rask4_x2 n now port fro).1) now 1 0 (show ((rask4_x2 n now port fro).1).own = 1 ∨ ((rask4_x2 n now port fro).1).own = 7 ∨ ((rask4_x2 n now port fro).1).own = 14 from by have := (show (rask4_x2 n now port fro).1.own = 14 ∨ (rask4_x2 n now port fro).1.own = 14 from rask3_own { ((rask4_x1 n now port fro).1) with state := 4, own := 14 } now 0 0); first | omega | (simp only [zor, zand, zorf, zandf, znt, znf, zeq, zne, zeqf, znef, zd, zdf] at *; omega)) (.inr rfl))
  exact kl
  intro hb7
  exact kl
  intro hb6
  apply ki 127
  intro hb7
  apply kk (rask3_eq { ((rask4_x1 n now port fro).1) with state := 4, own := 14 } now 1 0 (show 14 = 1 ∨ 14 = 7 ∨ 14 = 14 from by first | omega | (simp only [zor, zand, zorf, zandf, znt, znf, zeq, zne, zeqf, znef, zd, zdf] at *; omega)) (.inr rfl))
  exact kl
  intro hb7
  exact kl
  intro hb5
  apply kd .inl
  apply kd .inl
  apply kd .inl
  apply kd .inl
  apply ki 127
  intro hb6
  apply kk (rask3_eq { ((rask4_x1 n now port fro).1) with state := 4, own := 14 } now 0 0 (show 14 = 1 ∨ 14 = 7 ∨ 14 = 14 from by first | omega | (simp only [zor, zand, zorf, zandf, znt, znf, zeq, zne, zeqf, znef, zd, zdf] at *; omega)) (.inl rfl))
  apply kj 1380139
  intro hb7
  apply ki 127
  intro hb8
  apply kk (rask3_eq ((rask4_x2 n now port fro).1) now 1 0 (show ((rask4_x2 n now port fro).1).own = 1 ∨ ((rask4_x2 n now port fro).1).own = 7 ∨ ((rask4_x2 n now port fro).1).own = 14 from by have := (show (rask4_x2 n now port fro).1.own = 14 ∨ (rask4_x2 n now port fro).1.own = 14 from rask3_own { ((rask4_x1 n now port fro).1) with state := 4, own := 14 } now 0 0); first | omega | (simp only [zor, zand, zorf, zandf, znt, znf, zeq, zne, zeqf, znef, zd, zdf] at *; omega)) (.inr rfl))
  exact kl
  intro hb8
  exact kl
  intro hb7
  apply ki 127
  intro hb8
  apply kk (rask3_eq ((rask4_x2 n now port fro).1) now 1 0 (show ((rask4_x2 n now port fro).1).own = 1 ∨ ((rask4_x2 n now port fro).1).own = 7 ∨ ((rask4_x2 n now port fro).1).own = 14 from by have := (show (rask4_x2 n now port fro).1.own = 14 ∨ (rask4_x2 n now port fro).1.own = 14 from rask3_own { ((rask4_x1 n now port fro).1) with state := 4, own := 14 } now 0 0); first | omega | (simp only [zor, zand, zorf, zandf, znt, znf, zeq, zne, zeqf, znef, zd, zdf] at *; omega)) (.inr rfl))
  apply kj 1380139
  intro hb9
  exact kl
  intro hb9
  exact kl
  intro hb8
  exact kl
  intro hb6
  apply ki 127
  intro hb7
  apply kk (rask3_eq { ((rask4_x1 n now port fro).1) with state := 4, own := 14 } now 1 0 (show 14 = 1 ∨ 14 = 7 ∨ 14 = 14 from by first | omega | (simp only [zor, zand, zorf, zandf, znt, znf, zeq, zne, zeqf, znef, zd, zdf] at *; omega)) (.inr rfl))
  apply kj 1380139
  intro hb8
  exact kl
  intro hb8
  exact kl
  intro hb7
  exact kl
  intro hb3
  apply kv 64 (bis hb3)
  apply kd .inl
  apply kf [.cut 13, ract5_c (ract5 n now port fro)] (o_ (ract5_eq n now port fro) o0)
  apply kf [.cut 13, ract6_c (rask4_x0 n now port fro)] (o_ (ract6_eq ((ract5 n now port fro).1) now port fro) o0)
  apply kor
  apply kj 920093
  intro hb4
  apply kf [.cut 13, ract7_c (rask4_x1 n now port fro)] (o_ (ract7_eq ((rask4_x0 n now port fro).1) now port fro) o0)
  apply kd .inl
  apply kd .inl
  apply kd .inl
  apply kd .inl
  apply ki 127
  intro hb5
  apply kk (rask3_eq { ((rask4_x1 n now port fro).1) with state := 4, own := 14 } now 0 0 (show 14 = 1 ∨ 14 = 7 ∨ 14 = 14 from by first | omega | (simp only [zor, zand, zorf, zandf, znt, znf, zeq, zne, zeqf, znef, zd, zdf] at *; omega)) (.inl rfl))
  apply ki 127
  intro hb6
  apply kk (rask3_eq ((rask4_x2 n now port fro).1) now 1 0 (show ((rask4_x2 n now port fro).1).own = 1 ∨ ((rask4_x2 n now port fro).1).own = 7 ∨ ((rask4_x2 n now port fro).1).own = 14 from by have := (show (rask4_x2 n now port fro).1.own = 14 ∨ (rask4_x2 n now port fro).1.own = 14 from rask3_own { ((rask4_x1 n now port fro).1) with state := 4, own := 14 } now 0 0); first | omega | (simp only [zor, zand, zorf, zandf, znt, znf, zeq, zne, zeqf, znef, zd, zdf] at *; omega)) (.inr rfl))
  exact kl
  intro hb6
  exact kl
  intro hb5
  apply ki 127
  intro hb6
  apply kk (rask3_eq { ((rask4_x1 n now port fro).1) with state := 4, own := 14 } now 1 0 (show 14 = 1 ∨ 14 = 7 ∨ 14 = 14 from by first | omega | (simp only [zor, zand, zorf, zandf, znt, znf, zeq, zne, zeqf, znef, zd, zdf] at *; omega)) (.inr rfl))
  exact kl
  intro hb6
  exact kl
  intro hb4
  apply kf [.cut 13, ract7_c (rask4_x1 n now port fro)] (o_ (ract7_eq ((rask4_x0 n now port fro).1) now port fro) o0)
  apply kj 920093
  intro hb5
  apply kd .inl
  apply kd .inl
  apply kd .inl
  apply kd .inl
  apply ki 127
  intro hb6
  apply kk (rask3_eq { ((rask4_x1 n now port fro).1) with state := 4, own := 14 } now 0 0 (show 14 = 1 ∨ 14 = 7 ∨ 14 = 14 from by first | omega | (simp only [zor, zand, zorf, zandf, znt, znf, zeq, zne, zeqf, znef, zd, zdf] at *; omega)) (.inl rfl))
  apply ki 127
  intro hb7
  apply kk (rask3_eq ((rask4_x2 n now port fro).1) now 1 0 (show ((rask4_x2 n now port fro).1).own = 1 ∨ ((rask4_x2 n now port fro).1).own = 7 ∨ ((rask4_x2 n now port fro).1).own = 14 from by have := (show (rask4_x2 n now port fro).1.own = 14 ∨ (rask4_x2 n now port fro).1.own = 14 from rask3_own { ((rask4_x1 n now port fro).1) with state := 4, own := 14 } now 0 0); first | omega | (simp only [zor, zand, zorf, zandf, znt, znf, zeq, zne, zeqf, znef, zd, zdf] at *; omega)) (.inr rfl))
  exact kl
  intro hb7
  exact kl
  intro hb6
  apply ki 127
  intro hb7
  apply kk (rask3_eq { ((rask4_x1 n now port fro).1) with state := 4, own := 14 } now 1 0 (show 14 = 1 ∨ 14 = 7 ∨ 14 = 14 from by first | omega | (simp only [zor, zand, zorf, zandf, znt, znf, zeq, zne, zeqf, znef, zd, zdf] at *; omega)) (.inr rfl))
  exact kl
  intro hb7
  exact kl
  intro hb5
  apply kd .inl
  apply kd .inl
  apply kd .inl
  apply kd .inl
  apply ki 127
  intro hb6
  apply kk (rask3_eq { ((rask4_x1 n now port fro).1) with state := 4, own := 14 } now 0 0 (show 14 = 1 ∨ 14 = 7 ∨ 14 = 14 from by first | omega | (simp only [zor, zand, zorf, zandf, znt, znf, zeq, zne, zeqf, znef, zd, zdf] at *; omega)) (.inl rfl))
  apply kj 1380139
  intro hb7
  apply ki 127
  intro hb8
  apply kk (rask3_eq ((rask4_x2 n now port fro).1) now 1 0 (show ((rask4_x2 n now port fro).1).own = 1 ∨ ((rask4_x2 n now port fro).1).own = 7 ∨ ((rask4_x2 n now port fro).1).own = 14 from by have := (show (rask4_x2 n now port fro).1.own = 14 ∨ (rask4_x2 n now port fro).1.own = 14 from rask3_own { ((rask4_x1 n now port fro).1) with state := 4, own := 14 } now 0 0); first | omega | (simp only [zor, zand, zorf, zandf, znt, znf, zeq, zne, zeqf, znef, zd, zdf] at *; omega)) (.inr rfl))
  exact kl
  intro hb8
  exact kl
  intro hb7
  apply ki 127
  intro hb8
  apply kk (rask3_eq ((rask4_x2 n now port fro).1) now 1 0 (show ((rask4_x2 n now port fro).1).own = 1 ∨ ((rask4_x2 n now port fro).1).own = 7 ∨ ((rask4_x2 n now port fro).1).own = 14 from by have := (show (rask4_x2 n now port fro).1.own = 14 ∨ (rask4_x2 n now port fro).1.own = 14 from rask3_own { ((rask4_x1 n now port fro).1) with state := 4, own := 14 } now 0 0); first | omega | (simp only [zor, zand, zorf, zandf, znt, znf, zeq, zne, zeqf, znef, zd, zdf] at *; omega)) (.inr rfl))
  apply kj 1380139
  intro hb9
  exact kl
  intro hb9
  exact kl
  intro hb8
  exact kl
  intro hb6
  apply ki 127
  intro hb7
  apply kk (rask3_eq { ((rask4_x1 n now port fro).1) with state := 4, own := 14 } now 1 0 (show 14 = 1 ∨ 14 = 7 ∨ 14 = 14 from by first | omega | (simp only [zor, zand, zorf, zandf, znt, znf, zeq, zne, zeqf, znef, zd, zdf] at *; omega)) (.inr rfl))
  apply kj 1380139
  intro hb8
  exact kl
  intro hb8
  exact kl
  intro hb7
  exact kl
  intro hb2
  apply kcs (n.state == 2)
  intro hb3
  apply kv 60 (ieq .i64 hb3)
  apply kcs (n.own != 14)
  intro hb4
  apply kv 64 (bis hb4)
  apply kd .inl
  exact kl
  intro hb4
  apply kv 64 (bis hb4)
  apply kd .inl
  exact kl
  intro hb3
  apply kcs (n.state == 3)
  intro hb4
  apply kv 60 (ieq .i64 hb4)
  apply kcs (n.own != 14)
  intro hb5
  apply kv 64 (bis hb5)
  apply kd .inl
  exact kl
  intro hb5
  apply kv 64 (bis hb5)
  apply kd .inl
  exact kl
  intro hb4
  apply kcs (n.state == 4)
  intro hb5
  apply kv 60 (ieq .i64 hb5)
  apply kcs (n.own != 14)
  intro hb6
  apply kv 64 (bis hb6)
  apply kd .inl
  exact kl
  intro hb6
  apply kv 64 (bis hb6)
  apply kd .inl
  exact kl
  intro hb5
  apply kd .inl
  apply kjs 100011 (decide (n.state < 0))
  intro hb6
  exact kl
  intro hb6
  apply kis 13 (decide (n.state > 4))
  intro hb7
  exact kl
  intro hb7
  apply kr 47 hb2
  exact kl
  kernel_rfl
  rfl

def rask5_x0 (n : RNd) (now : Int) (port : Int) (fro : Int) : RNd × Bool := ract4 ((ract3 n now port fro).1) now port fro
def rask5_x1 (n : RNd) (now : Int) (port : Int) (fro : Int) : RNd × Bool := ract9 ((rask5_x0 n now port fro).1) now port fro
def rask5 (n : RNd) (now : Int) (port : Int) (fro : Int) : RNd × Bool × Bool :=
  bif (rabove (rstands n) 5) then
    (n, false, false)
  else
    bif (n.state == 0) || ((n.state == 1) || (n.state == 2)) then
      bif ((ract3 n now port fro).2) || ((rask5_x0 n now port fro).2) then
        ({ ((rask5_x1 n now port fro).1) with state := 1, own := 14 }, true, true)
      else
        ({ ((rask5_x1 n now port fro).1) with state := 1, own := 14 }, (rask5_x1 n now port fro).2, true)
    else
      bif n.state == 3 then
        (n, false, false)
      else
        bif n.state == 4 then
          bif ((ract3 n now port fro).2) || ((rask5_x0 n now port fro).2) then
            ({ ((rask5_x1 n now port fro).1) with state := 1, own := 14 }, true, true)
          else
            ({ ((rask5_x1 n now port fro).1) with state := 1, own := 14 }, (rask5_x1 n now port fro).2, true)
        else
          bif (decide (n.state < 0)) || (decide (n.state > 4)) then
            (n, false, false)
          else
            bif ((ract3 n now port fro).2) || ((rask5_x0 n now port fro).2) then
              ({ ((rask5_x1 n now port fro).1) with state := 1, own := 14 }, true, true)
            else
              ({ ((rask5_x1 n now port fro).1) with state := 1, own := 14 }, (rask5_x1 n now port fro).2, true)
def rask5_c (r : RNd × Bool × Bool) : Dir := .callL (.tuple ⟨[.agg ⟨RNd.enc r.1⟩, .bool r.2.1, .bool r.2.2]⟩) []
def rask5_E (r : RNd × Bool × Bool) : Value := .tuple ⟨[.agg ⟨RNd.enc r.1⟩, .bool r.2.1, .bool r.2.2]⟩
theorem rask5_eq (n : RNd) (now : Int) (port : Int) (fro : Int) (ho : n.own = 1 ∨ n.own = 7 ∨ n.own = 14) : AOn Tryz.prog 86 [.agg ⟨RNd.enc n⟩, .int .i64 5, .int .i64 now, .int .i64 port, .int .u64 fro] [] (rask5_E (rask5 n now port fro)) [] := by
  unfold rask5
  apply onT 400 rask5_E
  apply kk (rstands_eq n (show n.own = 1 ∨ n.own = 7 ∨ n.own = 14 from by first | omega | (simp only [zor, zand, zorf, zandf, znt, znf, zeq, zne, zeqf, znef, zd, zdf] at *; omega)))
  apply kk (rabove_eq (rstands n) 5)
  apply ki 26
  intro hb0
  exact kl
  intro hb0
  apply kor
  apply kc
  intro hb1
  apply kv 60 (ieq .i64 hb1)
  apply kcs (n.own != 14)
  intro hb2
  apply kv 64 (bis hb2)
  apply kd .inl
  apply kf [.cut 13, ract3_c (ract3 n now port fro)] (o_ (ract3_eq n now port fro) o0)
  apply kf [.cut 13, ract4_c (rask5_x0 n now port fro)] (o_ (ract4_eq ((ract3 n now port fro).1) now port fro) o0)
  apply kor
  apply kj 920093
  intro hb3
  apply kf [.cut 13, ract9_c (rask5_x1 n now port fro)] (o_ (ract9_eq ((rask5_x0 n now port fro).1) now port fro) o0)
  apply kd .inl
  apply kd .inl
  apply kd .inl
  apply kd .inl
  exact kl
  intro hb3
  apply kf [.cut 13, ract9_c (rask5_x1 n now port fro)] (o_ (ract9_eq ((rask5_x0 n now port fro).1) now port fro) o0)
  apply kj 920093
  intro hb4
  apply kd .inl
  apply kd .inl
  apply kd .inl
  apply kd .inl
  exact kl
  intro hb4
  apply kd .inl
  apply kd .inl
  apply kd .inl
  apply kd .inl
  exact kl
  intro hb2
  apply kv 64 (bis hb2)
  apply kd .inl
  apply kf [.cut 13, ract3_c (ract3 n now port fro)] (o_ (ract3_eq n now port fro) o0)
  apply kf [.cut 13, ract4_c (rask5_x0 n now port fro)] (o_ (ract4_eq ((ract3 n now port fro).1) now port fro) o0)
  apply kor
  apply kj 920093
  intro hb3
  apply kf [.cut 13, ract9_c (rask5_x1 n now port fro)] (o_ (ract9_eq ((rask5_x0 n now port fro).1) now port fro) o0)
  apply kd .inl
  apply kd .inl
  apply kd .inl
  apply kd .inl
  exact kl
  intro hb3
  apply kf [.cut 13, ract9_c (rask5_x1 n now port fro)] (o_ (ract9_eq ((rask5_x0 n now port fro).1) now port fro) o0)
  apply kj 920093
  intro hb4
  apply kd .inl
  apply kd .inl
  apply kd .inl
  apply kd .inl
  exact kl
  intro hb4
  apply kd .inl
  apply kd .inl
  apply kd .inl
  apply kd .inl
  exact kl
  intro hb1
  apply kor
  apply kc
  intro hb2
  apply kv 60 (ieq .i64 hb2)
  apply kcs (n.own != 14)
  intro hb3
  apply kv 64 (bis hb3)
  apply kd .inl
  apply kf [.cut 13, ract3_c (ract3 n now port fro)] (o_ (ract3_eq n now port fro) o0)
  apply kf [.cut 13, ract4_c (rask5_x0 n now port fro)] (o_ (ract4_eq ((ract3 n now port fro).1) now port fro) o0)
  apply kor
  apply kj 920093
  intro hb4
  apply kf [.cut 13, ract9_c (rask5_x1 n now port fro)] (o_ (ract9_eq ((rask5_x0 n now port fro).1) now port fro) o0)
  apply kd .inl
  apply kd .inl
  apply kd .inl
  apply kd .inl
  exact kl
  intro hb4
  apply kf [.cut 13, ract9_c (rask5_x1 n now port fro)] (o_ (ract9_eq ((rask5_x0 n now port fro).1) now port fro) o0)
  apply kj 920093
  intro hb5
  apply kd .inl
  apply kd .inl
  apply kd .inl
  apply kd .inl
  exact kl
  intro hb5
  apply kd .inl
  apply kd .inl
  apply kd .inl
  apply kd .inl
  exact kl
  intro hb3
  apply kv 64 (bis hb3)
  apply kd .inl
  apply kf [.cut 13, ract3_c (ract3 n now port fro)] (o_ (ract3_eq n now port fro) o0)
  apply kf [.cut 13, ract4_c (rask5_x0 n now port fro)] (o_ (ract4_eq ((ract3 n now port fro).1) now port fro) o0)
  apply kor
  apply kj 920093
  intro hb4
  apply kf [.cut 13, ract9_c (rask5_x1 n now port fro)] (o_ (ract9_eq ((rask5_x0 n now port fro).1) now port fro) o0)
  apply kd .inl
  apply kd .inl
  apply kd .inl
  apply kd .inl
  exact kl
  intro hb4
  apply kf [.cut 13, ract9_c (rask5_x1 n now port fro)] (o_ (ract9_eq ((rask5_x0 n now port fro).1) now port fro) o0)
  apply kj 920093
  intro hb5
  apply kd .inl
  apply kd .inl
  apply kd .inl
  apply kd .inl
  exact kl
  intro hb5
  apply kd .inl
  apply kd .inl
  apply kd .inl
  apply kd .inl
  exact kl
  intro hb2
  apply kc
  intro hb3
  apply kv 60 (ieq .i64 hb3)
  apply kcs (n.own != 14)
  intro hb4
  apply kv 64 (bis hb4)
  apply kd .inl
  apply kf [.cut 13, ract3_c (ract3 n now port fro)] (o_ (ract3_eq n now port fro) o0)
  apply kf [.cut 13, ract4_c (rask5_x0 n now port fro)] (o_ (ract4_eq ((ract3 n now port fro).1) now port fro) o0)
  apply kor
  apply kj 920093
  intro hb5
  apply kf [.cut 13, ract9_c (rask5_x1 n now port fro)] (o_ (ract9_eq ((rask5_x0 n now port fro).1) now port fro) o0)
  apply kd .inl
  apply kd .inl
  apply kd .inl
  apply kd .inl
  exact kl
  intro hb5
  apply kf [.cut 13, ract9_c (rask5_x1 n now port fro)] (o_ (ract9_eq ((rask5_x0 n now port fro).1) now port fro) o0)
  apply kj 920093
  intro hb6
  apply kd .inl
  apply kd .inl
  apply kd .inl
  apply kd .inl
  exact kl
  intro hb6
  apply kd .inl
  apply kd .inl
  apply kd .inl
  apply kd .inl
  exact kl
  intro hb4
  apply kv 64 (bis hb4)
  apply kd .inl
  apply kf [.cut 13, ract3_c (ract3 n now port fro)] (o_ (ract3_eq n now port fro) o0)
  apply kf [.cut 13, ract4_c (rask5_x0 n now port fro)] (o_ (ract4_eq ((ract3 n now port fro).1) now port fro) o0)
  apply kor
  apply kj 920093
  intro hb5
  apply kf [.cut 13, ract9_c (rask5_x1 n now port fro)] (o_ (ract9_eq ((rask5_x0 n now port fro).1) now port fro) o0)
  apply kd .inl
  apply kd .inl
  apply kd .inl
  apply kd .inl
  exact kl
  intro hb5
  apply kf [.cut 13, ract9_c (rask5_x1 n now port fro)] (o_ (ract9_eq ((rask5_x0 n now port fro).1) now port fro) o0)
  apply kj 920093
  intro hb6
  apply kd .inl
  apply kd .inl
  apply kd .inl
  apply kd .inl
  exact kl
  intro hb6
  apply kd .inl
  apply kd .inl
  apply kd .inl
  apply kd .inl
  exact kl
  intro hb3
  apply kc
  intro hb4
  apply kv 60 (ieq .i64 hb4)
  apply kcs (n.own != 14)
  intro hb5
  apply kv 64 (bis hb5)
  apply kd .inl
  exact kl
  intro hb5
  apply kv 64 (bis hb5)
  apply kd .inl
  exact kl
  intro hb4
  apply kc
  intro hb5
  apply kv 60 (ieq .i64 hb5)
  apply kcs (n.own != 14)
  intro hb6
  apply kv 64 (bis hb6)
  apply kd .inl
  apply kf [.cut 13, ract3_c (ract3 n now port fro)] (o_ (ract3_eq n now port fro) o0)
  apply kf [.cut 13, ract4_c (rask5_x0 n now port fro)] (o_ (ract4_eq ((ract3 n now port fro).1) now port fro) o0)
  apply kor
  apply kj 920093
  intro hb7
  apply kf [.cut 13, ract9_c (rask5_x1 n now port fro)] (o_ (ract9_eq ((rask5_x0 n now port fro).1) now port fro) o0)
  apply kd .inl
  apply kd .inl
  apply kd .inl
  apply kd .inl
  exact kl
  intro hb7
  apply kf [.cut 13, ract9_c (rask5_x1 n now port fro)] (o_ (ract9_eq ((rask5_x0 n now port fro).1) now port fro) o0)
  apply kj 920093
  intro hb8
  apply kd .inl
  apply kd .inl
  apply kd .inl
  apply kd .inl
  exact kl
  intro hb8
  apply kd .inl
  apply kd .inl
  apply kd .inl
  apply kd .inl
  exact kl
  intro hb6
  apply kv 64 (bis hb6)
  apply kd .inl
  apply kf [.cut 13, ract3_c (ract3 n now port fro)] (o_ (ract3_eq n now port fro) o0)
  apply kf [.cut 13, ract4_c (rask5_x0 n now port fro)] (o_ (ract4_eq ((ract3 n now port fro).1) now port fro) o0)
  apply kor
  apply kj 920093
  intro hb7
  apply kf [.cut 13, ract9_c (rask5_x1 n now port fro)] (o_ (ract9_eq ((rask5_x0 n now port fro).1) now port fro) o0)
  apply kd .inl
  apply kd .inl
  apply kd .inl
  apply kd .inl
  exact kl
  intro hb7
  apply kf [.cut 13, ract9_c (rask5_x1 n now port fro)] (o_ (ract9_eq ((rask5_x0 n now port fro).1) now port fro) o0)
  apply kj 920093
  intro hb8
  apply kd .inl
  apply kd .inl
  apply kd .inl
  apply kd .inl
  exact kl
  intro hb8
  apply kd .inl
  apply kd .inl
  apply kd .inl
  apply kd .inl
  exact kl
  intro hb5
  apply kd .inl
  apply kor
  apply kj 100011
  intro hb6
  exact kl
  intro hb6
  apply ki 13
  intro hb7
  exact kl
  intro hb7
  apply kr 52 (show (n.state != 3) = true from by first | omega | (simp only [zor, zand, zorf, zandf, znt, znf, zeq, zne, zeqf, znef, zd, zdf] at *; omega))
  apply kf [.cut 13, ract3_c (ract3 n now port fro)] (o_ (ract3_eq n now port fro) o0)
  apply kf [.cut 13, ract4_c (rask5_x0 n now port fro)] (o_ (ract4_eq ((ract3 n now port fro).1) now port fro) o0)
  apply kor
  apply kj 920093
  intro hb8
  apply kf [.cut 13, ract9_c (rask5_x1 n now port fro)] (o_ (ract9_eq ((rask5_x0 n now port fro).1) now port fro) o0)
  apply kd .inl
  apply kd .inl
  apply kd .inl
  apply kd .inl
  exact kl
  intro hb8
  apply kf [.cut 13, ract9_c (rask5_x1 n now port fro)] (o_ (ract9_eq ((rask5_x0 n now port fro).1) now port fro) o0)
  apply kj 920093
  intro hb9
  apply kd .inl
  apply kd .inl
  apply kd .inl
  apply kd .inl
  exact kl
  intro hb9
  apply kd .inl
  apply kd .inl
  apply kd .inl
  apply kd .inl
  exact kl
  kernel_rfl
  rfl

def rask6_x0 (n : RNd) (now : Int) (port : Int) (fro : Int) : RNd × Bool := ract4 ((ract3 n now port fro).1) now port fro
def rask6_x1 (n : RNd) (now : Int) (port : Int) (fro : Int) : RNd × Bool := ract9 ((rask6_x0 n now port fro).1) now port fro
def rask6_x2 (n : RNd) (now : Int) (port : Int) (fro : Int) : RNd × Bool := ract6 ((ract5 n now port fro).1) now port fro
def rask6_x3 (n : RNd) (now : Int) (port : Int) (fro : Int) : RNd × Bool := ract8 ((rask6_x2 n now port fro).1) now port fro
def rask6_x4 (n : RNd) (now : Int) (port : Int) (fro : Int) : RNd × Bool × Bool := rask3 { ((rask6_x3 n now port fro).1) with state := 4, own := 14 } now 0 0
def rask6_x5 (n : RNd) (now : Int) (port : Int) (fro : Int) : RNd × Bool × Bool := rask3 { ((rask6_x3 n now port fro).1) with state := 4, own := 14 } now 1 0
def rask6 (n : RNd) (now : Int) (port : Int) (fro : Int) : RNd × Bool × Bool :=
  bif (rabove (rstands n) 6) then
    (n, false, false)
  else
    bif n.state == 0 then
      bif ((ract3 n now port fro).2) || ((rask6_x0 n now port fro).2) then
        ({ ((rask6_x1 n now port fro).1) with state := 2, own := 14 }, true, true)
      else
        ({ ((rask6_x1 n now port fro).1) with state := 2, own := 14 }, (rask6_x1 n now port fro).2, true)
    else
      bif n.state == 1 then
        (n, false, false)
      else
        bif n.state == 2 then
          bif n.own != 14 then
            bif ((ract5 n now port fro).2) || ((rask6_x2 n now port fro).2) then
              bif (((rask6_x3 n now port fro).1).bad).w then
                bif (((rask6_x4 n now port fro).1).bad).e then
                  (((rask3 ((rask6_x4 n now port fro).1) now 1 0).1), true, true)
                else
                  (((rask6_x4 n now port fro).1), true, true)
              else
                bif (((rask6_x3 n now port fro).1).bad).e then
                  (((rask6_x5 n now port fro).1), true, true)
                else
                  ({ ((rask6_x3 n now port fro).1) with state := 4, own := 14 }, true, true)
            else
              bif (((rask6_x3 n now port fro).1).bad).w then
                bif (rask6_x3 n now port fro).2 then
                  bif (((rask6_x4 n now port fro).1).bad).e then
                    (((rask3 ((rask6_x4 n now port fro).1) now 1 0).1), true, true)
                  else
                    (((rask6_x4 n now port fro).1), true, true)
                else
                  bif (((rask6_x4 n now port fro).1).bad).e then
                    bif (rask6_x4 n now port fro).2.1 then
                      (((rask3 ((rask6_x4 n now port fro).1) now 1 0).1), true, true)
                    else
                      (((rask3 ((rask6_x4 n now port fro).1) now 1 0).1), (rask3 ((rask6_x4 n now port fro).1) now 1 0).2.1, true)
                  else
                    (((rask6_x4 n now port fro).1), (rask6_x4 n now port fro).2.1, true)
              else
                bif (((rask6_x3 n now port fro).1).bad).e then
                  bif (rask6_x3 n now port fro).2 then
                    (((rask6_x5 n now port fro).1), true, true)
                  else
                    (((rask6_x5 n now port fro).1), (rask6_x5 n now port fro).2.1, true)
                else
                  ({ ((rask6_x3 n now port fro).1) with state := 4, own := 14 }, (rask6_x3 n now port fro).2, true)
          else
            bif (ract3 n now port fro).2 then
              ({ ((rask6_x0 n now port fro).1) with state := 2, own := 14 }, true, true)
            else
              ({ ((rask6_x0 n now port fro).1) with state := 2, own := 14 }, (rask6_x0 n now port fro).2, true)
        else
          bif n.state == 3 then
            (n, false, false)
          else
            bif n.state == 4 then
              bif ((ract3 n now port fro).2) || ((rask6_x0 n now port fro).2) then
                ({ ((rask6_x1 n now port fro).1) with state := 2, own := 14 }, true, true)
              else
                ({ ((rask6_x1 n now port fro).1) with state := 2, own := 14 }, (rask6_x1 n now port fro).2, true)
            else
              (n, false, false)
def rask6_c (r : RNd × Bool × Bool) : Dir := .callL (.tuple ⟨[.agg ⟨RNd.enc r.1⟩, .bool r.2.1, .bool r.2.2]⟩) []
def rask6_E (r : RNd × Bool × Bool) : Value := .tuple ⟨[.agg ⟨RNd.enc r.1⟩, .bool r.2.1, .bool r.2.2]⟩
theorem rask6_eq (n : RNd) (now : Int) (port : Int) (fro : Int) (ho : n.own = 1 ∨ n.own = 7 ∨ n.own = 14) : AOn Tryz.prog 86 [.agg ⟨RNd.enc n⟩, .int .i64 6, .int .i64 now, .int .i64 port, .int .u64 fro] [] (rask6_E (rask6 n now port fro)) [] := by
  unfold rask6
  apply onT 400 rask6_E
  apply kk (rstands_eq n (show n.own = 1 ∨ n.own = 7 ∨ n.own = 14 from by first | omega | (simp only [zor, zand, zorf, zandf, znt, znf, zeq, zne, zeqf, znef, zd, zdf] at *; omega)))
  apply kk (rabove_eq (rstands n) 6)
  apply ki 26
  intro hb0
  exact kl
  intro hb0
  apply kc
  intro hb1
  apply kv 60 (ieq .i64 hb1)
  apply kcs (n.own != 14)
  intro hb2
  apply kv 64 (bis hb2)
  apply kd .inl
  apply kf [.cut 13, ract3_c (ract3 n now port fro)] (o_ (ract3_eq n now port fro) o0)
  apply kf [.cut 13, ract4_c (rask6_x0 n now port fro)] (o_ (ract4_eq ((ract3 n now port fro).1) now port fro) o0)
  apply kor
  apply kj 920093
  intro hb3
  apply kf [.cut 13, ract9_c (rask6_x1 n now port fro)] (o_ (ract9_eq ((rask6_x0 n now port fro).1) now port fro) o0)
  apply kd .inl
  apply kd .inl
  apply kd .inl
  apply kd .inl
  exact kl
  intro hb3
  apply kf [.cut 13, ract9_c (rask6_x1 n now port fro)] (o_ (ract9_eq ((rask6_x0 n now port fro).1) now port fro) o0)
  apply kj 920093
  intro hb4
  apply kd .inl
  apply kd .inl
  apply kd .inl
  apply kd .inl
  exact kl
  intro hb4
  apply kd .inl
  apply kd .inl
  apply kd .inl
  apply kd .inl
  exact kl
  intro hb2
  apply kv 64 (bis hb2)
  apply kd .inl
  apply kf [.cut 13, ract3_c (ract3 n now port fro)] (o_ (ract3_eq n now port fro) o0)
  apply kf [.cut 13, ract4_c (rask6_x0 n now port fro)] (o_ (ract4_eq ((ract3 n now port fro).1) now port fro) o0)
  apply kor
  apply kj 920093
  intro hb3
  apply kf [.cut 13, ract9_c (rask6_x1 n now port fro)] (o_ (ract9_eq ((rask6_x0 n now port fro).1) now port fro) o0)
  apply kd .inl
  apply kd .inl
  apply kd .inl
  apply kd .inl
  exact kl
  intro hb3
  apply kf [.cut 13, ract9_c (rask6_x1 n now port fro)] (o_ (ract9_eq ((rask6_x0 n now port fro).1) now port fro) o0)
  apply kj 920093
  intro hb4
  apply kd .inl
  apply kd .inl
  apply kd .inl
  apply kd .inl
  exact kl
  intro hb4
  apply kd .inl
  apply kd .inl
  apply kd .inl
  apply kd .inl
  exact kl
  intro hb1
  apply kc
  intro hb2
  apply kv 60 (ieq .i64 hb2)
  apply kcs (n.own != 14)
  intro hb3
  apply kv 64 (bis hb3)
  apply kd .inl
  exact kl
  intro hb3
  apply kv 64 (bis hb3)
  apply kd .inl
  exact kl
  intro hb2
  apply kc
  intro hb3
  apply kv 60 (ieq .i64 hb3)
  apply kc
  intro hb4
  apply kv 64 (bis hb4)
  apply kd .inl
  apply kf [.cut 13, ract5_c (ract5 n now port fro)] (o_ (ract5_eq n now port fro) o0)
  apply kf [.cut 13, ract6_c (rask6_x2 n now port fro)] (o_ (ract6_eq ((ract5 n now port fro).1) now port fro) o0)
  apply kor
  apply kj 920093
  intro hb5
  apply kf [.cut 13, ract8_c (rask6_x3 n now port fro)] (o_ (ract8_eq ((rask6_x2 n now port fro).1) now port fro) o0)
  apply kd .inl
  apply kd .inl
  apply kd .inl
  apply kd .inl
  apply ki 127
  intro hb6
  apply kk (rask3_eq { ((rask6_x3 n now port fro).1) with state := 4, own := 14 } now 0 0 (show 14 = 1 ∨ 14 = 7 ∨ 14 = 14 from by first | omega | (simp only [zor, zand, zorf, zandf, znt, znf, zeq, zne, zeqf, znef, zd, zdf] at *; omega)) (.inl rfl))
  apply ki 127
  intro hb7
  apply kk (rask3_eq ((rask6_x4 n now port fro).1) now 1 0 (show ((rask6_x4 n now port fro).1).own = 1 ∨ ((rask6_x4 n now port fro).1).own = 7 ∨ ((rask6_x4 n now port fro).1).own = 14 from by have := (show (rask6_x4 n now port fro).1.own = 14 ∨ (rask6_x4 n now port fro).1.own = 14 from rask3_own { ((rask6_x3 n now port fro).1) with state := 4, own := 14 } now 0 0); first | omega | (simp only [zor, zand, zorf, zandf, znt, znf, zeq, zne, zeqf, znef, zd, zdf] at *; omega)) (.inr rfl))
  exact kl
  intro hb7
  exact kl
  intro hb6
  apply ki 127
  intro hb7
  apply kk (rask3_eq { ((rask6_x3 n now port fro).1) with state := 4, own := 14 } now 1 0 (show 14 = 1 ∨ 14 = 7 ∨ 14 = 14 from by first | omega | (simp only [zor, zand, zorf, zandf, znt, znf, zeq, zne, zeqf, znef, zd, zdf] at *; omega)) (.inr rfl))
  exact kl
  intro hb7
  exact kl
  intro hb5
  apply kf [.cut 13, ract8_c (rask6_x3 n now port fro)] (o_ (ract8_eq ((rask6_x2 n now port fro).1) now port fro) o0)
  apply kj 920093
  intro hb6
  apply kd .inl
  apply kd .inl
  apply kd .inl
  apply kd .inl
  apply ki 127
  intro hb7
  apply kk (rask3_eq { ((rask6_x3 n now port fro).1) with state := 4, own := 14 } now 0 0 (show 14 = 1 ∨ 14 = 7 ∨ 14 = 14 from by first | omega | (simp only [zor, zand, zorf, zandf, znt, znf, zeq, zne, zeqf, znef, zd, zdf] at *; omega)) (.inl rfl))
  apply ki 127
  intro hb8
  apply kk (rask3_eq ((rask6_x4 n now port fro).1) now 1 0 (show ((rask6_x4 n now port fro).1).own = 1 ∨ ((rask6_x4 n now port fro).1).own = 7 ∨ ((rask6_x4 n now port fro).1).own = 14 from by have := (show (rask6_x4 n now port fro).1.own = 14 ∨ (rask6_x4 n now port fro).1.own = 14 from rask3_own { ((rask6_x3 n now port fro).1) with state := 4, own := 14 } now 0 0); first | omega | (simp only [zor, zand, zorf, zandf, znt, znf, zeq, zne, zeqf, znef, zd, zdf] at *; omega)) (.inr rfl))
  exact kl
  intro hb8
  exact kl
  intro hb7
  apply ki 127
  intro hb8
  apply kk (rask3_eq { ((rask6_x3 n now port fro).1) with state := 4, own := 14 } now 1 0 (show 14 = 1 ∨ 14 = 7 ∨ 14 = 14 from by first | omega | (simp only [zor, zand, zorf, zandf, znt, znf, zeq, zne, zeqf, znef, zd, zdf] at *; omega)) (.inr rfl))
  exact kl
  intro hb8
  exact kl
  intro hb6
  apply kd .inl
  apply kd .inl
  apply kd .inl
  apply kd .inl
  apply ki 127
  intro hb7
  apply kk (rask3_eq { ((rask6_x3 n now port fro).1) with state := 4, own := 14 } now 0 0 (show 14 = 1 ∨ 14 = 7 ∨ 14 = 14 from by first | omega | (simp only [zor, zand, zorf, zandf, znt, znf, zeq, zne, zeqf, znef, zd, zdf] at *; omega)) (.inl rfl))
  apply kj 1380139
  intro hb8
  apply ki 127
  intro hb9
  apply kk (rask3_eq ((rask6_x4 n now port fro).1) now 1 0 (show ((rask6_x4 n now port fro).1).own = 1 ∨ ((rask6_x4 n now port fro).1).own = 7 ∨ ((rask6_x4 n now port fro).1).own = 14 from by have := (show (rask6_x4 n now port fro).1.own = 14 ∨ (rask6_x4 n now port fro).1.own = 14 from rask3_own { ((rask6_x3 n now port fro).1) with state := 4, own := 14 } now 0 0); first | omega | (simp only [zor, zand, zorf, zandf, znt, znf, zeq, zne, zeqf, znef, zd, zdf] at *; omega)) (.inr rfl))
  exact kl
  intro hb9
  exact kl
  intro hb8
  apply ki 127
  intro hb9
  apply kk (rask3_eq ((rask6_x4 n now port fro).1) now 1 0 (show ((rask6_x4 n now port fro).1).own = 1 ∨ ((rask6_x4 n now port fro).1).own = 7 ∨ ((rask6_x4 n now port fro).1).own = 14 from by have := (show (rask6_x4 n now port fro).1.own = 14 ∨ (rask6_x4 n now port fro).1.own = 14 from rask3_own { ((rask6_x3 n now port fro).1) with state := 4, own := 14 } now 0 0); first | omega | (simp only [zor, zand, zorf, zandf, znt, znf, zeq, zne, zeqf, znef, zd, zdf] at *; omega)) (.inr rfl))
  apply kj 1380139
  intro hb10
  exact kl
  intro hb10
  exact kl
  intro hb9
  exact kl
  intro hb7
  apply ki 127
  intro hb8
  apply kk (rask3_eq { ((rask6_x3 n now port fro).1) with state := 4, own := 14 } now 1 0 (show 14 = 1 ∨ 14 = 7 ∨ 14 = 14 from by first | omega | (simp only [zor, zand, zorf, zandf, znt, znf, zeq, zne, zeqf, znef, zd, zdf] at *; omega)) (.inr rfl))
  apply kj 1380139
  intro hb9
  exact kl
  intro hb9
  exact kl
  intro hb8
  exact kl
  intro hb4
  apply kv 64 (bis hb4)
  apply kd .inl
  apply kf [.cut 13, ract3_c (ract3 n now port fro)] (o_ (ract3_eq n now port fro) o0)
  apply kf [.cut 13, ract4_c (rask6_x0 n now port fro)] (o_ (ract4_eq ((ract3 n now port fro).1) now port fro) o0)
  apply kj 920093
  intro hb5
  apply kd .inl
  apply kd .inl
  apply kd .inl
  apply kd .inl
  exact kl
  intro hb5
  apply kd .inl
  apply kd .inl
  apply kd .inl
  apply kd .inl
  exact kl
  intro hb3
  apply kc
  intro hb4
  apply kv 60 (ieq .i64 hb4)
  apply kcs (n.own != 14)
  intro hb5
  apply kv 64 (bis hb5)
  apply kd .inl
  exact kl
  intro hb5
  apply kv 64 (bis hb5)
  apply kd .inl
  exact kl
  intro hb4
  apply kc
  intro hb5
  apply kv 60 (ieq .i64 hb5)
  apply kcs (n.own != 14)
  intro hb6
  apply kv 64 (bis hb6)
  apply kd .inl
  apply kf [.cut 13, ract3_c (ract3 n now port fro)] (o_ (ract3_eq n now port fro) o0)
  apply kf [.cut 13, ract4_c (rask6_x0 n now port fro)] (o_ (ract4_eq ((ract3 n now port fro).1) now port fro) o0)
  apply kor
  apply kj 920093
  intro hb7
  apply kf [.cut 13, ract9_c (rask6_x1 n now port fro)] (o_ (ract9_eq ((rask6_x0 n now port fro).1) now port fro) o0)
  apply kd .inl
  apply kd .inl
  apply kd .inl
  apply kd .inl
  exact kl
  intro hb7
  apply kf [.cut 13, ract9_c (rask6_x1 n now port fro)] (o_ (ract9_eq ((rask6_x0 n now port fro).1) now port fro) o0)
  apply kj 920093
  intro hb8
  apply kd .inl
  apply kd .inl
  apply kd .inl
  apply kd .inl
  exact kl
  intro hb8
  apply kd .inl
  apply kd .inl
  apply kd .inl
  apply kd .inl
  exact kl
  intro hb6
  apply kv 64 (bis hb6)
  apply kd .inl
  apply kf [.cut 13, ract3_c (ract3 n now port fro)] (o_ (ract3_eq n now port fro) o0)
  apply kf [.cut 13, ract4_c (rask6_x0 n now port fro)] (o_ (ract4_eq ((ract3 n now port fro).1) now port fro) o0)
  apply kor
  apply kj 920093
  intro hb7
  apply kf [.cut 13, ract9_c (rask6_x1 n now port fro)] (o_ (ract9_eq ((rask6_x0 n now port fro).1) now port fro) o0)
  apply kd .inl
  apply kd .inl
  apply kd .inl
  apply kd .inl
  exact kl
  intro hb7
  apply kf [.cut 13, ract9_c (rask6_x1 n now port fro)] (o_ (ract9_eq ((rask6_x0 n now port fro).1) now port fro) o0)
  apply kj 920093
  intro hb8
  apply kd .inl
  apply kd .inl
  apply kd .inl
  apply kd .inl
  exact kl
  intro hb8
  apply kd .inl
  apply kd .inl
  apply kd .inl
  apply kd .inl
  exact kl
  intro hb5
  apply kd .inl
  apply kjs 100011 (decide (n.state < 0))
  intro hb6
  exact kl
  intro hb6
  apply kis 13 (decide (n.state > 4))
  intro hb7
  exact kl
  intro hb7
  apply ku 580059 hb1
  apply kr 61 hb5
  apply ku 650066 hb3
  apply kr 70 hb3
  exact kl
  kernel_rfl
  rfl

def rask7_x0 (n : RNd) (now : Int) (port : Int) (fro : Int) : RNd × Bool := ract9 ((ract2 n now port fro).1) now port fro
def rask7 (n : RNd) (now : Int) (port : Int) (fro : Int) : RNd × Bool × Bool :=
  bif (rabove (rstands n) 7) then
    (n, false, false)
  else
    bif n.state == 0 then
      bif (ract2 n now port fro).2 then
        ({ ((rask7_x0 n now port fro).1) with state := 2, own := 7 }, true, true)
      else
        ({ ((rask7_x0 n now port fro).1) with state := 2, own := 7 }, (rask7_x0 n now port fro).2, true)
    else
      bif (n.state == 1) || ((n.state == 2) || (n.state == 3)) then
        (n, false, false)
      else
        bif n.state == 4 then
          bif (ract2 n now port fro).2 then
            ({ ((rask7_x0 n now port fro).1) with state := 2, own := 7 }, true, true)
          else
            ({ ((rask7_x0 n now port fro).1) with state := 2, own := 7 }, (rask7_x0 n now port fro).2, true)
        else
          (n, false, false)
def rask7_c (r : RNd × Bool × Bool) : Dir := .callL (.tuple ⟨[.agg ⟨RNd.enc r.1⟩, .bool r.2.1, .bool r.2.2]⟩) []
def rask7_E (r : RNd × Bool × Bool) : Value := .tuple ⟨[.agg ⟨RNd.enc r.1⟩, .bool r.2.1, .bool r.2.2]⟩
theorem rask7_eq (n : RNd) (now : Int) (port : Int) (fro : Int) (ho : n.own = 1 ∨ n.own = 7 ∨ n.own = 14) (hp : port = 0 ∨ port = 1) : AOn Tryz.prog 86 [.agg ⟨RNd.enc n⟩, .int .i64 7, .int .i64 now, .int .i64 port, .int .u64 fro] [] (rask7_E (rask7 n now port fro)) [] := by
  unfold rask7
  apply onT 400 rask7_E
  apply kk (rstands_eq n (show n.own = 1 ∨ n.own = 7 ∨ n.own = 14 from by first | omega | (simp only [zor, zand, zorf, zandf, znt, znf, zeq, zne, zeqf, znef, zd, zdf] at *; omega)))
  apply kk (rabove_eq (rstands n) 7)
  apply ki 26
  intro hb0
  exact kl
  intro hb0
  apply kc
  intro hb1
  apply kv 60 (ieq .i64 hb1)
  apply kcs (n.own != 14)
  intro hb2
  apply kv 64 (bis hb2)
  apply kd .inl
  apply kf [.cut 13, ract2_c (ract2 n now port fro)] (o_ (ract2_eq n now port fro (by first | omega | (simp only [zor, zand, zorf, zandf, znt, znf, zeq, zne, zeqf, znef, zd, zdf] at *; omega))) o0)
  apply kf [.cut 13, ract9_c (rask7_x0 n now port fro)] (o_ (ract9_eq ((ract2 n now port fro).1) now port fro) o0)
  apply kj 920093
  intro hb3
  exact kl
  intro hb3
  exact kl
  intro hb2
  apply kv 64 (bis hb2)
  apply kd .inl
  apply kf [.cut 13, ract2_c (ract2 n now port fro)] (o_ (ract2_eq n now port fro (by first | omega | (simp only [zor, zand, zorf, zandf, znt, znf, zeq, zne, zeqf, znef, zd, zdf] at *; omega))) o0)
  apply kf [.cut 13, ract9_c (rask7_x0 n now port fro)] (o_ (ract9_eq ((ract2 n now port fro).1) now port fro) o0)
  apply kj 920093
  intro hb3
  exact kl
  intro hb3
  exact kl
  intro hb1
  apply kor
  apply kc
  intro hb2
  apply kv 60 (ieq .i64 hb2)
  apply kcs (n.own != 14)
  intro hb3
  apply kv 64 (bis hb3)
  apply kd .inl
  exact kl
  intro hb3
  apply kv 64 (bis hb3)
  apply kd .inl
  exact kl
  intro hb2
  apply kor
  apply kc
  intro hb3
  apply kv 60 (ieq .i64 hb3)
  apply kcs (n.own != 14)
  intro hb4
  apply kv 64 (bis hb4)
  apply kd .inl
  exact kl
  intro hb4
  apply kv 64 (bis hb4)
  apply kd .inl
  exact kl
  intro hb3
  apply kc
  intro hb4
  apply kv 60 (ieq .i64 hb4)
  apply kcs (n.own != 14)
  intro hb5
  apply kv 64 (bis hb5)
  apply kd .inl
  exact kl
  intro hb5
  apply kv 64 (bis hb5)
  apply kd .inl
  exact kl
  intro hb4
  apply kc
  intro hb5
  apply kv 60 (ieq .i64 hb5)
  apply kcs (n.own != 14)
  intro hb6
  apply kv 64 (bis hb6)
  apply kd .inl
  apply kf [.cut 13, ract2_c (ract2 n now port fro)] (o_ (ract2_eq n now port fro (by first | omega | (simp only [zor, zand, zorf, zandf, znt, znf, zeq, zne, zeqf, znef, zd, zdf] at *; omega))) o0)
  apply kf [.cut 13, ract9_c (rask7_x0 n now port fro)] (o_ (ract9_eq ((ract2 n now port fro).1) now port fro) o0)
  apply kj 920093
  intro hb7
  exact kl
  intro hb7
  exact kl
  intro hb6
  apply kv 64 (bis hb6)
  apply kd .inl
  apply kf [.cut 13, ract2_c (ract2 n now port fro)] (o_ (ract2_eq n now port fro (by first | omega | (simp only [zor, zand, zorf, zandf, znt, znf, zeq, zne, zeqf, znef, zd, zdf] at *; omega))) o0)
  apply kf [.cut 13, ract9_c (rask7_x0 n now port fro)] (o_ (ract9_eq ((ract2 n now port fro).1) now port fro) o0)
  apply kj 920093
  intro hb7
  exact kl
  intro hb7
  exact kl
  intro hb5
  apply kd .inl
  apply kjs 100011 (decide (n.state < 0))
  intro hb6
  exact kl
  intro hb6
  apply kis 13 (decide (n.state > 4))
  intro hb7
  exact kl
  intro hb7
  apply ku 760077 hb1
  apply kr 79 hb5
  exact kl
  kernel_rfl
  rfl

def rask8_x0 (n : RNd) (now : Int) (port : Int) (fro : Int) : RNd × Bool := ract9 ((ract10 n now port fro).1) now port fro
def rask8 (n : RNd) (now : Int) (port : Int) (fro : Int) : RNd × Bool × Bool :=
  bif (rabove (rstands n) 8) then
    (n, false, false)
  else
    bif n.state == 4 then
      bif n.role != 1 then
        (n, false, false)
      else
        bif (ract10 n now port fro).2 then
          ({ ((rask8_x0 n now port fro).1) with state := 0, own := 14 }, true, true)
        else
          ({ ((rask8_x0 n now port fro).1) with state := 0, own := 14 }, (rask8_x0 n now port fro).2, true)
    else
      (n, false, false)
def rask8_c (r : RNd × Bool × Bool) : Dir := .callL (.tuple ⟨[.agg ⟨RNd.enc r.1⟩, .bool r.2.1, .bool r.2.2]⟩) []
def rask8_E (r : RNd × Bool × Bool) : Value := .tuple ⟨[.agg ⟨RNd.enc r.1⟩, .bool r.2.1, .bool r.2.2]⟩
theorem rask8_eq (n : RNd) (now : Int) (port : Int) (fro : Int) (ho : n.own = 1 ∨ n.own = 7 ∨ n.own = 14) (hr : n.role ≠ 0 → n.rpl = 0 ∨ n.rpl = 1) : AOn Tryz.prog 86 [.agg ⟨RNd.enc n⟩, .int .i64 8, .int .i64 now, .int .i64 port, .int .u64 fro] [] (rask8_E (rask8 n now port fro)) [] := by
  unfold rask8
  apply onT 400 rask8_E
  apply kk (rstands_eq n (show n.own = 1 ∨ n.own = 7 ∨ n.own = 14 from by first | omega | (simp only [zor, zand, zorf, zandf, znt, znf, zeq, zne, zeqf, znef, zd, zdf] at *; omega)))
  apply kk (rabove_eq (rstands n) 8)
  apply ki 26
  intro hb0
  exact kl
  intro hb0
  apply kj 430044
  intro hb1
  apply kj 480049
  intro hb2
  exact kl
  intro hb2
  apply kv 60 (ieq .i64 hb1)
  apply kcs (n.own != 14)
  intro hb3
  apply kv 64 (bis hb3)
  apply kd .inl
  apply kf [.cut 13, ract10_c (ract10 n now port fro)] (o_ (ract10_eq n now port fro (by first | omega | (simp only [zor, zand, zorf, zandf, znt, znf, zeq, zne, zeqf, znef, zd, zdf] at *; omega))) o0)
  apply kf [.cut 13, ract9_c (rask8_x0 n now port fro)] (o_ (ract9_eq ((ract10 n now port fro).1) now port fro) o0)
  apply kj 920093
  intro hb4
  apply kd .inl
  apply kd .inl
  apply kd .inl
  apply kd .inl
  exact kl
  intro hb4
  apply kd .inl
  apply kd .inl
  apply kd .inl
  apply kd .inl
  exact kl
  intro hb3
  apply kv 64 (bis hb3)
  apply kd .inl
  apply kf [.cut 13, ract10_c (ract10 n now port fro)] (o_ (ract10_eq n now port fro (by first | omega | (simp only [zor, zand, zorf, zandf, znt, znf, zeq, zne, zeqf, znef, zd, zdf] at *; omega))) o0)
  apply kf [.cut 13, ract9_c (rask8_x0 n now port fro)] (o_ (ract9_eq ((ract10 n now port fro).1) now port fro) o0)
  apply kj 920093
  intro hb4
  apply kd .inl
  apply kd .inl
  apply kd .inl
  apply kd .inl
  exact kl
  intro hb4
  apply kd .inl
  apply kd .inl
  apply kd .inl
  apply kd .inl
  exact kl
  intro hb1
  apply kcs (n.state == 0)
  intro hb2
  apply kv 60 (ieq .i64 hb2)
  apply kcs (n.own != 14)
  intro hb3
  apply kv 64 (bis hb3)
  apply kd .inl
  exact kl
  intro hb3
  apply kv 64 (bis hb3)
  apply kd .inl
  exact kl
  intro hb2
  apply kcs (n.state == 1)
  intro hb3
  apply kv 60 (ieq .i64 hb3)
  apply kcs (n.own != 14)
  intro hb4
  apply kv 64 (bis hb4)
  apply kd .inl
  exact kl
  intro hb4
  apply kv 64 (bis hb4)
  apply kd .inl
  exact kl
  intro hb3
  apply kcs (n.state == 2)
  intro hb4
  apply kv 60 (ieq .i64 hb4)
  apply kcs (n.own != 14)
  intro hb5
  apply kv 64 (bis hb5)
  apply kd .inl
  exact kl
  intro hb5
  apply kv 64 (bis hb5)
  apply kd .inl
  exact kl
  intro hb4
  apply kcs (n.state == 3)
  intro hb5
  apply kv 60 (ieq .i64 hb5)
  apply kcs (n.own != 14)
  intro hb6
  apply kv 64 (bis hb6)
  apply kd .inl
  exact kl
  intro hb6
  apply kv 64 (bis hb6)
  apply kd .inl
  exact kl
  intro hb5
  apply kd .inl
  apply kjs 100011 (decide (n.state < 0))
  intro hb6
  exact kl
  intro hb6
  apply kis 13 (decide (n.state > 4))
  intro hb7
  exact kl
  intro hb7
  apply kr 85 hb1
  exact kl
  kernel_rfl
  rfl

def rask10_x0 (n : RNd) (now : Int) (port : Int) (fro : Int) : RNd × Bool := ract9 ((ract10 n now port fro).1) now port fro
def rask10 (n : RNd) (now : Int) (port : Int) (fro : Int) : RNd × Bool × Bool :=
  bif (rabove (rstands n) 10) then
    (n, false, false)
  else
    bif n.state == 4 then
      bif n.role != 1 then
        (n, false, false)
      else
        bif (ract10 n now port fro).2 then
          ({ ((rask10_x0 n now port fro).1) with state := 0, own := 14 }, true, true)
        else
          ({ ((rask10_x0 n now port fro).1) with state := 0, own := 14 }, (rask10_x0 n now port fro).2, true)
    else
      (n, false, false)
def rask10_c (r : RNd × Bool × Bool) : Dir := .callL (.tuple ⟨[.agg ⟨RNd.enc r.1⟩, .bool r.2.1, .bool r.2.2]⟩) []
def rask10_E (r : RNd × Bool × Bool) : Value := .tuple ⟨[.agg ⟨RNd.enc r.1⟩, .bool r.2.1, .bool r.2.2]⟩
theorem rask10_eq (n : RNd) (now : Int) (port : Int) (fro : Int) (ho : n.own = 1 ∨ n.own = 7 ∨ n.own = 14) (hr : n.role ≠ 0 → n.rpl = 0 ∨ n.rpl = 1) : AOn Tryz.prog 86 [.agg ⟨RNd.enc n⟩, .int .i64 10, .int .i64 now, .int .i64 port, .int .u64 fro] [] (rask10_E (rask10 n now port fro)) [] := by
  unfold rask10
  apply onT 400 rask10_E
  apply kk (rstands_eq n (show n.own = 1 ∨ n.own = 7 ∨ n.own = 14 from by first | omega | (simp only [zor, zand, zorf, zandf, znt, znf, zeq, zne, zeqf, znef, zd, zdf] at *; omega)))
  apply kk (rabove_eq (rstands n) 10)
  apply ki 26
  intro hb0
  exact kl
  intro hb0
  apply kj 430044
  intro hb1
  apply kj 480049
  intro hb2
  exact kl
  intro hb2
  apply kv 60 (ieq .i64 hb1)
  apply kcs (n.own != 14)
  intro hb3
  apply kv 64 (bis hb3)
  apply kd .inl
  apply kf [.cut 13, ract10_c (ract10 n now port fro)] (o_ (ract10_eq n now port fro (by first | omega | (simp only [zor, zand, zorf, zandf, znt, znf, zeq, zne, zeqf, znef, zd, zdf] at *; omega))) o0)
  apply kf [.cut 13, ract9_c (rask10_x0 n now port fro)] (o_ (ract9_eq ((ract10 n now port fro).1) now port fro) o0)
  apply kj 920093
  intro hb4
  apply kd .inl
  apply kd .inl
  apply kd .inl
  apply kd .inl
  exact kl
  intro hb4
  apply kd .inl
  apply kd .inl
  apply kd .inl
  apply kd .inl
  exact kl
  intro hb3
  apply kv 64 (bis hb3)
  apply kd .inl
  apply kf [.cut 13, ract10_c (ract10 n now port fro)] (o_ (ract10_eq n now port fro (by first | omega | (simp only [zor, zand, zorf, zandf, znt, znf, zeq, zne, zeqf, znef, zd, zdf] at *; omega))) o0)
  apply kf [.cut 13, ract9_c (rask10_x0 n now port fro)] (o_ (ract9_eq ((ract10 n now port fro).1) now port fro) o0)
  apply kj 920093
  intro hb4
  apply kd .inl
  apply kd .inl
  apply kd .inl
  apply kd .inl
  exact kl
  intro hb4
  apply kd .inl
  apply kd .inl
  apply kd .inl
  apply kd .inl
  exact kl
  intro hb1
  apply kcs (n.state == 0)
  intro hb2
  apply kv 60 (ieq .i64 hb2)
  apply kcs (n.own != 14)
  intro hb3
  apply kv 64 (bis hb3)
  apply kd .inl
  exact kl
  intro hb3
  apply kv 64 (bis hb3)
  apply kd .inl
  exact kl
  intro hb2
  apply kcs (n.state == 1)
  intro hb3
  apply kv 60 (ieq .i64 hb3)
  apply kcs (n.own != 14)
  intro hb4
  apply kv 64 (bis hb4)
  apply kd .inl
  exact kl
  intro hb4
  apply kv 64 (bis hb4)
  apply kd .inl
  exact kl
  intro hb3
  apply kcs (n.state == 2)
  intro hb4
  apply kv 60 (ieq .i64 hb4)
  apply kcs (n.own != 14)
  intro hb5
  apply kv 64 (bis hb5)
  apply kd .inl
  exact kl
  intro hb5
  apply kv 64 (bis hb5)
  apply kd .inl
  exact kl
  intro hb4
  apply kcs (n.state == 3)
  intro hb5
  apply kv 60 (ieq .i64 hb5)
  apply kcs (n.own != 14)
  intro hb6
  apply kv 64 (bis hb6)
  apply kd .inl
  exact kl
  intro hb6
  apply kv 64 (bis hb6)
  apply kd .inl
  exact kl
  intro hb5
  apply kd .inl
  apply kjs 100011 (decide (n.state < 0))
  intro hb6
  exact kl
  intro hb6
  apply kis 13 (decide (n.state > 4))
  intro hb7
  exact kl
  intro hb7
  apply kr 85 hb1
  exact kl
  kernel_rfl
  rfl

def rask12 (n : RNd) (now : Int) (port : Int) (fro : Int) : RNd × Bool × Bool :=
  bif (rabove (rstands n) 12) || (n.role == 1) then
    (n, false, false)
  else
    bif (n.state == 0) || ((n.state == 1) || ((n.state == 2) || ((n.state == 3) || (n.state == 4)))) then
      bif n.own != 14 then
        (n, false, false)
      else
        ({ ((ract11 n now port fro).1) with state := 0, own := 14 }, (ract11 n now port fro).2, true)
    else
      bif (decide (n.state < 0)) || (decide (n.state > 4)) then
        (n, false, false)
      else
        bif !(n.own != 14) then
          ({ ((ract11 n now port fro).1) with state := 0, own := 14 }, (ract11 n now port fro).2, true)
        else
          (n, false, false)
def rask12_c (r : RNd × Bool × Bool) : Dir := .callL (.tuple ⟨[.agg ⟨RNd.enc r.1⟩, .bool r.2.1, .bool r.2.2]⟩) []
def rask12_E (r : RNd × Bool × Bool) : Value := .tuple ⟨[.agg ⟨RNd.enc r.1⟩, .bool r.2.1, .bool r.2.2]⟩
theorem rask12_eq (n : RNd) (now : Int) (port : Int) (fro : Int) (ho : n.own = 1 ∨ n.own = 7 ∨ n.own = 14) (hr : n.role ≠ 0 → n.rpl = 0 ∨ n.rpl = 1) : AOn Tryz.prog 86 [.agg ⟨RNd.enc n⟩, .int .i64 12, .int .i64 now, .int .i64 port, .int .u64 fro] [] (rask12_E (rask12 n now port fro)) [] := by
  unfold rask12
  apply onT 400 rask12_E
  apply kk (rstands_eq n (show n.own = 1 ∨ n.own = 7 ∨ n.own = 14 from by first | omega | (simp only [zor, zand, zorf, zandf, znt, znf, zeq, zne, zeqf, znef, zd, zdf] at *; omega)))
  apply kk (rabove_eq (rstands n) 12)
  apply kor
  apply ki 26
  intro hb0
  exact kl
  intro hb0
  apply ki 56
  intro hb1
  exact kl
  intro hb1
  apply kor
  apply kc
  intro hb2
  apply kv 60 (ieq .i64 hb2)
  apply kc
  intro hb3
  apply kv 64 (bis hb3)
  apply kd .inl
  exact kl
  intro hb3
  apply kv 64 (bis hb3)
  apply kd .inl
  apply kf [.cut 13, ract11_c (ract11 n now port fro)] (o_ (ract11_eq n now port fro (by first | omega | (simp only [zor, zand, zorf, zandf, znt, znf, zeq, zne, zeqf, znef, zd, zdf] at *; omega))) o0)
  apply kd .inl
  apply kd .inl
  apply kd .inl
  apply kd .inl
  exact kl
  intro hb2
  apply kor
  apply kc
  intro hb3
  apply kv 60 (ieq .i64 hb3)
  apply kc
  intro hb4
  apply kv 64 (bis hb4)
  apply kd .inl
  exact kl
  intro hb4
  apply kv 64 (bis hb4)
  apply kd .inl
  apply kf [.cut 13, ract11_c (ract11 n now port fro)] (o_ (ract11_eq n now port fro (by first | omega | (simp only [zor, zand, zorf, zandf, znt, znf, zeq, zne, zeqf, znef, zd, zdf] at *; omega))) o0)
  apply kd .inl
  apply kd .inl
  apply kd .inl
  apply kd .inl
  exact kl
  intro hb3
  apply kor
  apply kc
  intro hb4
  apply kv 60 (ieq .i64 hb4)
  apply kc
  intro hb5
  apply kv 64 (bis hb5)
  apply kd .inl
  exact kl
  intro hb5
  apply kv 64 (bis hb5)
  apply kd .inl
  apply kf [.cut 13, ract11_c (ract11 n now port fro)] (o_ (ract11_eq n now port fro (by first | omega | (simp only [zor, zand, zorf, zandf, znt, znf, zeq, zne, zeqf, znef, zd, zdf] at *; omega))) o0)
  apply kd .inl
  apply kd .inl
  apply kd .inl
  apply kd .inl
  exact kl
  intro hb4
  apply kor
  apply kc
  intro hb5
  apply kv 60 (ieq .i64 hb5)
  apply kc
  intro hb6
  apply kv 64 (bis hb6)
  apply kd .inl
  exact kl
  intro hb6
  apply kv 64 (bis hb6)
  apply kd .inl
  apply kf [.cut 13, ract11_c (ract11 n now port fro)] (o_ (ract11_eq n now port fro (by first | omega | (simp only [zor, zand, zorf, zandf, znt, znf, zeq, zne, zeqf, znef, zd, zdf] at *; omega))) o0)
  apply kd .inl
  apply kd .inl
  apply kd .inl
  apply kd .inl
  exact kl
  intro hb5
  apply kc
  intro hb6
  apply kv 60 (ieq .i64 hb6)
  apply kc
  intro hb7
  apply kv 64 (bis hb7)
  apply kd .inl
  exact kl
  intro hb7
  apply kv 64 (bis hb7)
  apply kd .inl
  apply kf [.cut 13, ract11_c (ract11 n now port fro)] (o_ (ract11_eq n now port fro (by first | omega | (simp only [zor, zand, zorf, zandf, znt, znf, zeq, zne, zeqf, znef, zd, zdf] at *; omega))) o0)
  apply kd .inl
  apply kd .inl
  apply kd .inl
  apply kd .inl
  exact kl
  intro hb6
  apply kd .inl
  apply kor
  apply kj 100011
  intro hb7
  exact kl
  intro hb7
  apply ki 13
  intro hb8
  exact kl
  intro hb8
  apply ki 90
  intro hb9
  apply kf [.cut 13, ract11_c (ract11 n now port fro)] (o_ (ract11_eq n now port fro (by first | omega | (simp only [zor, zand, zorf, zandf, znt, znf, zeq, zne, zeqf, znef, zd, zdf] at *; omega))) o0)
  apply kd .inl
  apply kd .inl
  apply kd .inl
  apply kd .inl
  exact kl
  intro hb9
  exact kl
  kernel_rfl
  rfl

def rask13_x0 (n : RNd) (now : Int) (port : Int) (fro : Int) : RNd × Bool × Bool := rask3 { ((ract7 n now port fro).1) with state := 4, own := 14 } now 0 0
def rask13_x1 (n : RNd) (now : Int) (port : Int) (fro : Int) : RNd × Bool × Bool := rask3 ((rask13_x0 n now port fro).1) now 1 0
def rask13_x2 (n : RNd) (now : Int) (port : Int) (fro : Int) : RNd × Bool × Bool := rask3 { ((ract7 n now port fro).1) with state := 4, own := 14 } now 1 0
def rask13_x3 (n : RNd) (now : Int) (port : Int) (fro : Int) : RNd × Bool × Bool := rask3 { ((ract8 n now port fro).1) with state := 4, own := 14 } now 0 0
def rask13_x4 (n : RNd) (now : Int) (port : Int) (fro : Int) : RNd × Bool × Bool := rask3 ((rask13_x3 n now port fro).1) now 1 0
def rask13_x5 (n : RNd) (now : Int) (port : Int) (fro : Int) : RNd × Bool × Bool := rask3 { ((ract8 n now port fro).1) with state := 4, own := 14 } now 1 0
def rask13_x6 (n : RNd) (now : Int) (port : Int) (fro : Int) : RNd × Bool × Bool := rask3 { ((ract12 n now port fro).1) with state := 4, own := 14 } now 0 0
def rask13_x7 (n : RNd) (now : Int) (port : Int) (fro : Int) : RNd × Bool × Bool := rask3 ((rask13_x6 n now port fro).1) now 1 0
def rask13_x8 (n : RNd) (now : Int) (port : Int) (fro : Int) : RNd × Bool × Bool := rask3 { ((ract12 n now port fro).1) with state := 4, own := 14 } now 1 0
def rask13 (n : RNd) (now : Int) (port : Int) (fro : Int) : RNd × Bool × Bool :=
  bif (rabove (rstands n) 13) then
    (n, false, false)
  else
    bif n.state == 0 then
      ({ ((ract12 n now port fro).1) with state := 0, own := 14 }, (ract12 n now port fro).2, true)
    else
      bif n.state == 1 then
        bif (((ract7 n now port fro).1).bad).w then
          bif (ract7 n now port fro).2 then
            bif (((rask13_x0 n now port fro).1).bad).e then
              (((rask13_x1 n now port fro).1), true, true)
            else
              (((rask13_x0 n now port fro).1), true, true)
          else
            bif (((rask13_x0 n now port fro).1).bad).e then
              bif (rask13_x0 n now port fro).2.1 then
                (((rask13_x1 n now port fro).1), true, true)
              else
                (((rask13_x1 n now port fro).1), (rask13_x1 n now port fro).2.1, true)
            else
              (((rask13_x0 n now port fro).1), (rask13_x0 n now port fro).2.1, true)
        else
          bif (((ract7 n now port fro).1).bad).e then
            bif (ract7 n now port fro).2 then
              (((rask13_x2 n now port fro).1), true, true)
            else
              (((rask13_x2 n now port fro).1), (rask13_x2 n now port fro).2.1, true)
          else
            ({ ((ract7 n now port fro).1) with state := 4, own := 14 }, (ract7 n now port fro).2, true)
      else
        bif (n.state == 2) || (n.state == 3) then
          bif n.own != 14 then
            (n, false, false)
          else
            bif (((ract8 n now port fro).1).bad).w then
              bif (ract8 n now port fro).2 then
                bif (((rask13_x3 n now port fro).1).bad).e then
                  (((rask13_x4 n now port fro).1), true, true)
                else
                  (((rask13_x3 n now port fro).1), true, true)
              else
                bif (((rask13_x3 n now port fro).1).bad).e then
                  bif (rask13_x3 n now port fro).2.1 then
                    (((rask13_x4 n now port fro).1), true, true)
                  else
                    (((rask13_x4 n now port fro).1), (rask13_x4 n now port fro).2.1, true)
                else
                  (((rask13_x3 n now port fro).1), (rask13_x3 n now port fro).2.1, true)
            else
              bif (((ract8 n now port fro).1).bad).e then
                bif (ract8 n now port fro).2 then
                  (((rask13_x5 n now port fro).1), true, true)
                else
                  (((rask13_x5 n now port fro).1), (rask13_x5 n now port fro).2.1, true)
              else
                ({ ((ract8 n now port fro).1) with state := 4, own := 14 }, (ract8 n now port fro).2, true)
        else
          bif n.state == 4 then
            bif (((ract12 n now port fro).1).bad).w then
              bif (ract12 n now port fro).2 then
                bif (((rask13_x6 n now port fro).1).bad).e then
                  (((rask13_x7 n now port fro).1), true, true)
                else
                  (((rask13_x6 n now port fro).1), true, true)
              else
                bif (((rask13_x6 n now port fro).1).bad).e then
                  bif (rask13_x6 n now port fro).2.1 then
                    (((rask13_x7 n now port fro).1), true, true)
                  else
                    (((rask13_x7 n now port fro).1), (rask13_x7 n now port fro).2.1, true)
                else
                  (((rask13_x6 n now port fro).1), (rask13_x6 n now port fro).2.1, true)
            else
              bif (((ract12 n now port fro).1).bad).e then
                bif (ract12 n now port fro).2 then
                  (((rask13_x8 n now port fro).1), true, true)
                else
                  (((rask13_x8 n now port fro).1), (rask13_x8 n now port fro).2.1, true)
              else
                ({ ((ract12 n now port fro).1) with state := 4, own := 14 }, (ract12 n now port fro).2, true)
          else
            bif (decide (n.state < 0)) || (decide (n.state > 4)) then
              (n, false, false)
            else
              bif !(n.own != 14) then
                bif (((ract8 n now port fro).1).bad).w then
                  bif (ract8 n now port fro).2 then
                    bif (((rask13_x3 n now port fro).1).bad).e then
                      (((rask13_x4 n now port fro).1), true, true)
                    else
                      (((rask13_x3 n now port fro).1), true, true)
                  else
                    bif (((rask13_x3 n now port fro).1).bad).e then
                      bif (rask13_x3 n now port fro).2.1 then
                        (((rask13_x4 n now port fro).1), true, true)
                      else
                        (((rask13_x4 n now port fro).1), (rask13_x4 n now port fro).2.1, true)
                    else
                      (((rask13_x3 n now port fro).1), (rask13_x3 n now port fro).2.1, true)
                else
                  bif (((ract8 n now port fro).1).bad).e then
                    bif (ract8 n now port fro).2 then
                      (((rask13_x5 n now port fro).1), true, true)
                    else
                      (((rask13_x5 n now port fro).1), (rask13_x5 n now port fro).2.1, true)
                  else
                    ({ ((ract8 n now port fro).1) with state := 4, own := 14 }, (ract8 n now port fro).2, true)
              else
                (n, false, false)
def rask13_c (r : RNd × Bool × Bool) : Dir := .callL (.tuple ⟨[.agg ⟨RNd.enc r.1⟩, .bool r.2.1, .bool r.2.2]⟩) []
def rask13_E (r : RNd × Bool × Bool) : Value := .tuple ⟨[.agg ⟨RNd.enc r.1⟩, .bool r.2.1, .bool r.2.2]⟩
theorem rask13_eq (n : RNd) (now : Int) (port : Int) (fro : Int) (ho : n.own = 1 ∨ n.own = 7 ∨ n.own = 14) : AOn Tryz.prog 86 [.agg ⟨RNd.enc n⟩, .int .i64 13, .int .i64 now, .int .i64 port, .int .u64 fro] [] (rask13_E (rask13 n now port fro)) [] := by
  unfold rask13
  apply onT 400 rask13_E
  apply kk (rstands_eq n (show n.own = 1 ∨ n.own = 7 ∨ n.own = 14 from by first | omega | (simp only [zor, zand, zorf, zandf, znt, znf, zeq, zne, zeqf, znef, zd, zdf] at *; omega)))
  apply kk (rabove_eq (rstands n) 13)
  apply ki 26
  intro hb0
  exact kl
  intro hb0
  apply kc
  intro hb1
  apply kv 60 (ieq .i64 hb1)
  apply kcs (n.own != 14)
  intro hb2
  apply kv 64 (bis hb2)
  apply kd .inl
  apply kf [.cut 13, ract12_c (ract12 n now port fro)] (o_ (ract12_eq n now port fro) o0)
  apply kd .inl
  apply kd .inl
  apply kd .inl
  apply kd .inl
  exact kl
  intro hb2
  apply kv 64 (bis hb2)
  apply kd .inl
  apply kf [.cut 13, ract12_c (ract12 n now port fro)] (o_ (ract12_eq n now port fro) o0)
  apply kd .inl
  apply kd .inl
  apply kd .inl
  apply kd .inl
  exact kl
  intro hb1
  apply kc
  intro hb2
  apply kv 60 (ieq .i64 hb2)
  apply kcs (n.own != 14)
  intro hb3
  apply kv 64 (bis hb3)
  apply kd .inl
  apply kf [.cut 13, ract7_c (ract7 n now port fro)] (o_ (ract7_eq n now port fro) o0)
  apply kd .inl
  apply kd .inl
  apply kd .inl
  apply kd .inl
  apply ki 127
  intro hb4
  apply kk (rask3_eq { ((ract7 n now port fro).1) with state := 4, own := 14 } now 0 0 (show 14 = 1 ∨ 14 = 7 ∨ 14 = 14 from by first | omega | (simp only [zor, zand, zorf, zandf, znt, znf, zeq, zne, zeqf, znef, zd, zdf] at *; omega)) (.inl rfl))
  apply kj 1380139
  intro hb5
  apply ki 127
  intro hb6
  apply kk (rask3_eq ((rask13_x0 n now port fro).1) now 1 0 (show ((rask13_x0 n now port fro).1).own = 1 ∨ ((rask13_x0 n now port fro).1).own = 7 ∨ ((rask13_x0 n now port fro).1).own = 14 from by have := (show (rask13_x0 n now port fro).1.own = 14 ∨ (rask13_x0 n now port fro).1.own = 14 from rask3_own { ((ract7 n now port fro).1) with state := 4, own := 14 } now 0 0); first | omega | (simp only [zor, zand, zorf, zandf, znt, znf, zeq, zne, zeqf, znef, zd, zdf] at *; omega)) (.inr rfl))
  exact kl
  intro hb6
  exact kl
  intro hb5
  apply ki 127
  intro hb6
  apply kk (rask3_eq ((rask13_x0 n now port fro).1) now 1 0 (show ((rask13_x0 n now port fro).1).own = 1 ∨ ((rask13_x0 n now port fro).1).own = 7 ∨ ((rask13_x0 n now port fro).1).own = 14 from by have := (show (rask13_x0 n now port fro).1.own = 14 ∨ (rask13_x0 n now port fro).1.own = 14 from rask3_own { ((ract7 n now port fro).1) with state := 4, own := 14 } now 0 0); first | omega | (simp only [zor, zand, zorf, zandf, znt, znf, zeq, zne, zeqf, znef, zd, zdf] at *; omega)) (.inr rfl))
  apply kj 1380139
  intro hb7
  exact kl
  intro hb7
  exact kl
  intro hb6
  exact kl
  intro hb4
  apply ki 127
  intro hb5
  apply kk (rask3_eq { ((ract7 n now port fro).1) with state := 4, own := 14 } now 1 0 (show 14 = 1 ∨ 14 = 7 ∨ 14 = 14 from by first | omega | (simp only [zor, zand, zorf, zandf, znt, znf, zeq, zne, zeqf, znef, zd, zdf] at *; omega)) (.inr rfl))
  apply kj 1380139
  intro hb6
  exact kl
  intro hb6
  exact kl
  intro hb5
  exact kl
  intro hb3
  apply kv 64 (bis hb3)
  apply kd .inl
  apply kf [.cut 13, ract7_c (ract7 n now port fro)] (o_ (ract7_eq n now port fro) o0)
  apply kd .inl
  apply kd .inl
  apply kd .inl
  apply kd .inl
  apply ki 127
  intro hb4
  apply kk (rask3_eq { ((ract7 n now port fro).1) with state := 4, own := 14 } now 0 0 (show 14 = 1 ∨ 14 = 7 ∨ 14 = 14 from by first | omega | (simp only [zor, zand, zorf, zandf, znt, znf, zeq, zne, zeqf, znef, zd, zdf] at *; omega)) (.inl rfl))
  apply kj 1380139
  intro hb5
  apply ki 127
  intro hb6
  apply kk (rask3_eq ((rask13_x0 n now port fro).1) now 1 0 (show ((rask13_x0 n now port fro).1).own = 1 ∨ ((rask13_x0 n now port fro).1).own = 7 ∨ ((rask13_x0 n now port fro).1).own = 14 from by have := (show (rask13_x0 n now port fro).1.own = 14 ∨ (rask13_x0 n now port fro).1.own = 14 from rask3_own { ((ract7 n now port fro).1) with state := 4, own := 14 } now 0 0); first | omega | (simp only [zor, zand, zorf, zandf, znt, znf, zeq, zne, zeqf, znef, zd, zdf] at *; omega)) (.inr rfl))
  exact kl
  intro hb6
  exact kl
  intro hb5
  apply ki 127
  intro hb6
  apply kk (rask3_eq ((rask13_x0 n now port fro).1) now 1 0 (show ((rask13_x0 n now port fro).1).own = 1 ∨ ((rask13_x0 n now port fro).1).own = 7 ∨ ((rask13_x0 n now port fro).1).own = 14 from by have := (show (rask13_x0 n now port fro).1.own = 14 ∨ (rask13_x0 n now port fro).1.own = 14 from rask3_own { ((ract7 n now port fro).1) with state := 4, own := 14 } now 0 0); first | omega | (simp only [zor, zand, zorf, zandf, znt, znf, zeq, zne, zeqf, znef, zd, zdf] at *; omega)) (.inr rfl))
  apply kj 1380139
  intro hb7
  exact kl
  intro hb7
  exact kl
  intro hb6
  exact kl
  intro hb4
  apply ki 127
  intro hb5
  apply kk (rask3_eq { ((ract7 n now port fro).1) with state := 4, own := 14 } now 1 0 (show 14 = 1 ∨ 14 = 7 ∨ 14 = 14 from by first | omega | (simp only [zor, zand, zorf, zandf, znt, znf, zeq, zne, zeqf, znef, zd, zdf] at *; omega)) (.inr rfl))
  apply kj 1380139
  intro hb6
  exact kl
  intro hb6
  exact kl
  intro hb5
  exact kl
  intro hb2
  apply kor
  apply kc
  intro hb3
  apply kv 60 (ieq .i64 hb3)
  apply kc
  intro hb4
  apply kv 64 (bis hb4)
  apply kd .inl
  exact kl
  intro hb4
  apply kv 64 (bis hb4)
  apply kd .inl
  apply kf [.cut 13, ract8_c (ract8 n now port fro)] (o_ (ract8_eq n now port fro) o0)
  apply kd .inl
  apply kd .inl
  apply kd .inl
  apply kd .inl
  apply ki 127
  intro hb5
  apply kk (rask3_eq { ((ract8 n now port fro).1) with state := 4, own := 14 } now 0 0 (show 14 = 1 ∨ 14 = 7 ∨ 14 = 14 from by first | omega | (simp only [zor, zand, zorf, zandf, znt, znf, zeq, zne, zeqf, znef, zd, zdf] at *; omega)) (.inl rfl))
  apply kj 1380139
  intro hb6
  apply ki 127
  intro hb7
  apply kk (rask3_eq ((rask13_x3 n now port fro).1) now 1 0 (show ((rask13_x3 n now port fro).1).own = 1 ∨ ((rask13_x3 n now port fro).1).own = 7 ∨ ((rask13_x3 n now port fro).1).own = 14 from by have := (show (rask13_x3 n now port fro).1.own = 14 ∨ (rask13_x3 n now port fro).1.own = 14 from rask3_own { ((ract8 n now port fro).1) with state := 4, own := 14 } now 0 0); first | omega | (simp only [zor, zand, zorf, zandf, znt, znf, zeq, zne, zeqf, znef, zd, zdf] at *; omega)) (.inr rfl))
  exact kl
  intro hb7
  exact kl
  intro hb6
  apply ki 127
  intro hb7
  apply kk (rask3_eq ((rask13_x3 n now port fro).1) now 1 0 (show ((rask13_x3 n now port fro).1).own = 1 ∨ ((rask13_x3 n now port fro).1).own = 7 ∨ ((rask13_x3 n now port fro).1).own = 14 from by have := (show (rask13_x3 n now port fro).1.own = 14 ∨ (rask13_x3 n now port fro).1.own = 14 from rask3_own { ((ract8 n now port fro).1) with state := 4, own := 14 } now 0 0); first | omega | (simp only [zor, zand, zorf, zandf, znt, znf, zeq, zne, zeqf, znef, zd, zdf] at *; omega)) (.inr rfl))
  apply kj 1380139
  intro hb8
  exact kl
  intro hb8
  exact kl
  intro hb7
  exact kl
  intro hb5
  apply ki 127
  intro hb6
  apply kk (rask3_eq { ((ract8 n now port fro).1) with state := 4, own := 14 } now 1 0 (show 14 = 1 ∨ 14 = 7 ∨ 14 = 14 from by first | omega | (simp only [zor, zand, zorf, zandf, znt, znf, zeq, zne, zeqf, znef, zd, zdf] at *; omega)) (.inr rfl))
  apply kj 1380139
  intro hb7
  exact kl
  intro hb7
  exact kl
  intro hb6
  exact kl
  intro hb3
  apply kc
  intro hb4
  apply kv 60 (ieq .i64 hb4)
  apply kc
  intro hb5
  apply kv 64 (bis hb5)
  apply kd .inl
  exact kl
  intro hb5
  apply kv 64 (bis hb5)
  apply kd .inl
  apply kf [.cut 13, ract8_c (ract8 n now port fro)] (o_ (ract8_eq n now port fro) o0)
  apply kd .inl
  apply kd .inl
  apply kd .inl
  apply kd .inl
  apply ki 127
  intro hb6
  apply kk (rask3_eq { ((ract8 n now port fro).1) with state := 4, own := 14 } now 0 0 (show 14 = 1 ∨ 14 = 7 ∨ 14 = 14 from by first | omega | (simp only [zor, zand, zorf, zandf, znt, znf, zeq, zne, zeqf, znef, zd, zdf] at *; omega)) (.inl rfl))
  apply kj 1380139
  intro hb7
  apply ki 127
  intro hb8
  apply kk (rask3_eq ((rask13_x3 n now port fro).1) now 1 0 (show ((rask13_x3 n now port fro).1).own = 1 ∨ ((rask13_x3 n now port fro).1).own = 7 ∨ ((rask13_x3 n now port fro).1).own = 14 from by have := (show (rask13_x3 n now port fro).1.own = 14 ∨ (rask13_x3 n now port fro).1.own = 14 from rask3_own { ((ract8 n now port fro).1) with state := 4, own := 14 } now 0 0); first | omega | (simp only [zor, zand, zorf, zandf, znt, znf, zeq, zne, zeqf, znef, zd, zdf] at *; omega)) (.inr rfl))
  exact kl
  intro hb8
  exact kl
  intro hb7
  apply ki 127
  intro hb8
  apply kk (rask3_eq ((rask13_x3 n now port fro).1) now 1 0 (show ((rask13_x3 n now port fro).1).own = 1 ∨ ((rask13_x3 n now port fro).1).own = 7 ∨ ((rask13_x3 n now port fro).1).own = 14 from by have := (show (rask13_x3 n now port fro).1.own = 14 ∨ (rask13_x3 n now port fro).1.own = 14 from rask3_own { ((ract8 n now port fro).1) with state := 4, own := 14 } now 0 0); first | omega | (simp only [zor, zand, zorf, zandf, znt, znf, zeq, zne, zeqf, znef, zd, zdf] at *; omega)) (.inr rfl))
  apply kj 1380139
  intro hb9
  exact kl
  intro hb9
  exact kl
  intro hb8
  exact kl
  intro hb6
  apply ki 127
  intro hb7
  apply kk (rask3_eq { ((ract8 n now port fro).1) with state := 4, own := 14 } now 1 0 (show 14 = 1 ∨ 14 = 7 ∨ 14 = 14 from by first | omega | (simp only [zor, zand, zorf, zandf, znt, znf, zeq, zne, zeqf, znef, zd, zdf] at *; omega)) (.inr rfl))
  apply kj 1380139
  intro hb8
  exact kl
  intro hb8
  exact kl
  intro hb7
  exact kl
  intro hb4
  apply kc
  intro hb5
  apply kv 60 (ieq .i64 hb5)
  apply kcs (n.own != 14)
  intro hb6
  apply kv 64 (bis hb6)
  apply kd .inl
  apply kf [.cut 13, ract12_c (ract12 n now port fro)] (o_ (ract12_eq n now port fro) o0)
  apply kd .inl
  apply kd .inl
  apply kd .inl
  apply kd .inl
  apply ki 127
  intro hb7
  apply kk (rask3_eq { ((ract12 n now port fro).1) with state := 4, own := 14 } now 0 0 (show 14 = 1 ∨ 14 = 7 ∨ 14 = 14 from by first | omega | (simp only [zor, zand, zorf, zandf, znt, znf, zeq, zne, zeqf, znef, zd, zdf] at *; omega)) (.inl rfl))
  apply kj 1380139
  intro hb8
  apply ki 127
  intro hb9
  apply kk (rask3_eq ((rask13_x6 n now port fro).1) now 1 0 (show ((rask13_x6 n now port fro).1).own = 1 ∨ ((rask13_x6 n now port fro).1).own = 7 ∨ ((rask13_x6 n now port fro).1).own = 14 from by have := (show (rask13_x6 n now port fro).1.own = 14 ∨ (rask13_x6 n now port fro).1.own = 14 from rask3_own { ((ract12 n now port fro).1) with state := 4, own := 14 } now 0 0); first | omega | (simp only [zor, zand, zorf, zandf, znt, znf, zeq, zne, zeqf, znef, zd, zdf] at *; omega)) (.inr rfl))
  exact kl
  intro hb9
  exact kl
  intro hb8
  apply ki 127
  intro hb9
  apply kk (rask3_eq ((rask13_x6 n now port fro).1) now 1 0 (show ((rask13_x6 n now port fro).1).own = 1 ∨ ((rask13_x6 n now port fro).1).own = 7 ∨ ((rask13_x6 n now port fro).1).own = 14 from by have := (show (rask13_x6 n now port fro).1.own = 14 ∨ (rask13_x6 n now port fro).1.own = 14 from rask3_own { ((ract12 n now port fro).1) with state := 4, own := 14 } now 0 0); first | omega | (simp only [zor, zand, zorf, zandf, znt, znf, zeq, zne, zeqf, znef, zd, zdf] at *; omega)) (.inr rfl))
  apply kj 1380139
  intro hb10
  exact kl
  intro hb10
  exact kl
  intro hb9
  exact kl
  intro hb7
  apply ki 127
  intro hb8
  apply kk (rask3_eq { ((ract12 n now port fro).1) with state := 4, own := 14 } now 1 0 (show 14 = 1 ∨ 14 = 7 ∨ 14 = 14 from by first | omega | (simp only [zor, zand, zorf, zandf, znt, znf, zeq, zne, zeqf, znef, zd, zdf] at *; omega)) (.inr rfl))
  apply kj 1380139
  intro hb9
  exact kl
  intro hb9
  exact kl
  intro hb8
  exact kl
  intro hb6
  apply kv 64 (bis hb6)
  apply kd .inl
  apply kf [.cut 13, ract12_c (ract12 n now port fro)] (o_ (ract12_eq n now port fro) o0)
  apply kd .inl
  apply kd .inl
  apply kd .inl
  apply kd .inl
  apply ki 127
  intro hb7
  apply kk (rask3_eq { ((ract12 n now port fro).1) with state := 4, own := 14 } now 0 0 (show 14 = 1 ∨ 14 = 7 ∨ 14 = 14 from by first | omega | (simp only [zor, zand, zorf, zandf, znt, znf, zeq, zne, zeqf, znef, zd, zdf] at *; omega)) (.inl rfl))
  apply kj 1380139
  intro hb8
  apply ki 127
  intro hb9
  apply kk (rask3_eq ((rask13_x6 n now port fro).1) now 1 0 (show ((rask13_x6 n now port fro).1).own = 1 ∨ ((rask13_x6 n now port fro).1).own = 7 ∨ ((rask13_x6 n now port fro).1).own = 14 from by have := (show (rask13_x6 n now port fro).1.own = 14 ∨ (rask13_x6 n now port fro).1.own = 14 from rask3_own { ((ract12 n now port fro).1) with state := 4, own := 14 } now 0 0); first | omega | (simp only [zor, zand, zorf, zandf, znt, znf, zeq, zne, zeqf, znef, zd, zdf] at *; omega)) (.inr rfl))
  exact kl
  intro hb9
  exact kl
  intro hb8
  apply ki 127
  intro hb9
  apply kk (rask3_eq ((rask13_x6 n now port fro).1) now 1 0 (show ((rask13_x6 n now port fro).1).own = 1 ∨ ((rask13_x6 n now port fro).1).own = 7 ∨ ((rask13_x6 n now port fro).1).own = 14 from by have := (show (rask13_x6 n now port fro).1.own = 14 ∨ (rask13_x6 n now port fro).1.own = 14 from rask3_own { ((ract12 n now port fro).1) with state := 4, own := 14 } now 0 0); first | omega | (simp only [zor, zand, zorf, zandf, znt, znf, zeq, zne, zeqf, znef, zd, zdf] at *; omega)) (.inr rfl))
  apply kj 1380139
  intro hb10
  exact kl
  intro hb10
  exact kl
  intro hb9
  exact kl
  intro hb7
  apply ki 127
  intro hb8
  apply kk (rask3_eq { ((ract12 n now port fro).1) with state := 4, own := 14 } now 1 0 (show 14 = 1 ∨ 14 = 7 ∨ 14 = 14 from by first | omega | (simp only [zor, zand, zorf, zandf, znt, znf, zeq, zne, zeqf, znef, zd, zdf] at *; omega)) (.inr rfl))
  apply kj 1380139
  intro hb9
  exact kl
  intro hb9
  exact kl
  intro hb8
  exact kl
  intro hb5
  apply kd .inl
  apply kor
  apply kj 100011
  intro hb6
  exact kl
  intro hb6
  apply ki 13
  intro hb7
  exact kl
  intro hb7
  apply ku 960097 hb1
  apply kr 99 hb5
  apply kr 103 hb2
  apply ki 106
  intro hb8
  apply kf [.cut 13, ract8_c (ract8 n now port fro)] (o_ (ract8_eq n now port fro) o0)
  apply kd .inl
  apply kd .inl
  apply kd .inl
  apply kd .inl
  apply ki 127
  intro hb9
  apply kk (rask3_eq { ((ract8 n now port fro).1) with state := 4, own := 14 } now 0 0 (show 14 = 1 ∨ 14 = 7 ∨ 14 = 14 from by first | omega | (simp only [zor, zand, zorf, zandf, znt, znf, zeq, zne, zeqf, znef, zd, zdf] at *; omega)) (.inl rfl))
  apply kj 1380139
  intro hb10
  apply ki 127
  intro hb11
  apply kk (rask3_eq ((rask13_x3 n now port fro).1) now 1 0 (show ((rask13_x3 n now port fro).1).own = 1 ∨ ((rask13_x3 n now port fro).1).own = 7 ∨ ((rask13_x3 n now port fro).1).own = 14 from by have := (show (rask13_x3 n now port fro).1.own = 14 ∨ (rask13_x3 n now port fro).1.own = 14 from rask3_own { ((ract8 n now port fro).1) with state := 4, own := 14 } now 0 0); first | omega | (simp only [zor, zand, zorf, zandf, znt, znf, zeq, zne, zeqf, znef, zd, zdf] at *; omega)) (.inr rfl))
  exact kl
  intro hb11
  exact kl
  intro hb10
  apply ki 127
  intro hb11
  apply kk (rask3_eq ((rask13_x3 n now port fro).1) now 1 0 (show ((rask13_x3 n now port fro).1).own = 1 ∨ ((rask13_x3 n now port fro).1).own = 7 ∨ ((rask13_x3 n now port fro).1).own = 14 from by have := (show (rask13_x3 n now port fro).1.own = 14 ∨ (rask13_x3 n now port fro).1.own = 14 from rask3_own { ((ract8 n now port fro).1) with state := 4, own := 14 } now 0 0); first | omega | (simp only [zor, zand, zorf, zandf, znt, znf, zeq, zne, zeqf, znef, zd, zdf] at *; omega)) (.inr rfl))
  apply kj 1380139
  intro hb12
  exact kl
  intro hb12
  exact kl
  intro hb11
  exact kl
  intro hb9
  apply ki 127
  intro hb10
  apply kk (rask3_eq { ((ract8 n now port fro).1) with state := 4, own := 14 } now 1 0 (show 14 = 1 ∨ 14 = 7 ∨ 14 = 14 from by first | omega | (simp only [zor, zand, zorf, zandf, znt, znf, zeq, zne, zeqf, znef, zd, zdf] at *; omega)) (.inr rfl))
  apply kj 1380139
  intro hb11
  exact kl
  intro hb11
  exact kl
  intro hb10
  exact kl
  intro hb8
  exact kl
  kernel_rfl
  rfl

def rask14 (n : RNd) (now : Int) (port : Int) (fro : Int) : RNd × Bool × Bool :=
  (n, false, false)
def rask14_c (r : RNd × Bool × Bool) : Dir := .callL (.tuple ⟨[.agg ⟨RNd.enc r.1⟩, .bool r.2.1, .bool r.2.2]⟩) []
def rask14_E (r : RNd × Bool × Bool) : Value := .tuple ⟨[.agg ⟨RNd.enc r.1⟩, .bool r.2.1, .bool r.2.2]⟩
theorem rask14_eq (n : RNd) (now : Int) (port : Int) (fro : Int) (ho : n.own = 1 ∨ n.own = 7 ∨ n.own = 14) : AOn Tryz.prog 86 [.agg ⟨RNd.enc n⟩, .int .i64 14, .int .i64 now, .int .i64 port, .int .u64 fro] [] (rask14_E (rask14 n now port fro)) [] := by
  unfold rask14
  apply onT 400 rask14_E
  apply kk (rstands_eq n (show n.own = 1 ∨ n.own = 7 ∨ n.own = 14 from by first | omega | (simp only [zor, zand, zorf, zandf, znt, znf, zeq, zne, zeqf, znef, zd, zdf] at *; omega)))
  apply kk (rabove_eq (rstands n) 14)
  apply kis 26 ((rabove (rstands n) 14))
  intro hb0
  exact kl
  intro hb0
  apply kcs (n.state == 0)
  intro hb1
  apply kv 60 (ieq .i64 hb1)
  apply kcs (n.own != 14)
  intro hb2
  apply kv 64 (bis hb2)
  apply kd .inl
  exact kl
  intro hb2
  apply kv 64 (bis hb2)
  apply kd .inl
  exact kl
  intro hb1
  apply kcs (n.state == 1)
  intro hb2
  apply kv 60 (ieq .i64 hb2)
  apply kcs (n.own != 14)
  intro hb3
  apply kv 64 (bis hb3)
  apply kd .inl
  exact kl
  intro hb3
  apply kv 64 (bis hb3)
  apply kd .inl
  exact kl
  intro hb2
  apply kcs (n.state == 2)
  intro hb3
  apply kv 60 (ieq .i64 hb3)
  apply kcs (n.own != 14)
  intro hb4
  apply kv 64 (bis hb4)
  apply kd .inl
  exact kl
  intro hb4
  apply kv 64 (bis hb4)
  apply kd .inl
  exact kl
  intro hb3
  apply kcs (n.state == 3)
  intro hb4
  apply kv 60 (ieq .i64 hb4)
  apply kcs (n.own != 14)
  intro hb5
  apply kv 64 (bis hb5)
  apply kd .inl
  exact kl
  intro hb5
  apply kv 64 (bis hb5)
  apply kd .inl
  exact kl
  intro hb4
  apply kcs (n.state == 4)
  intro hb5
  apply kv 60 (ieq .i64 hb5)
  apply kcs (n.own != 14)
  intro hb6
  apply kv 64 (bis hb6)
  apply kd .inl
  exact kl
  intro hb6
  apply kv 64 (bis hb6)
  apply kd .inl
  exact kl
  intro hb5
  apply kd .inl
  apply kjs 100011 (decide (n.state < 0))
  intro hb6
  exact kl
  intro hb6
  apply kis 13 (decide (n.state > 4))
  intro hb7
  exact kl
  intro hb7
  exact kl
  kernel_rfl
  rfl

end Go.Proofs.E17

namespace Go.Proofs.E17
open Go Go.AX Go.Proofs
set_option maxRecDepth 1000000
set_option linter.unusedVariables false
set_option linter.unusedSimpArgs false

def rorder (n : RNd) (now : Int) (k : Int) (port : Int) : RNd × Bool × Int :=
  bif k != 0 then
    bif k != 1 then
      bif k != 7 then
        (n, false, 10)
      else
        bif port != 0 then
          bif port != 1 then
            (n, false, 11)
          else
            bif !((rask7 n now 1 0).2.2) then
              (n, false, 12)
            else
              (((rask7 n now 1 0).1), (rask7 n now 1 0).2.1, 0)
        else
          bif !((rask7 n now 0 0).2.2) then
            (n, false, 12)
          else
            (((rask7 n now 0 0).1), (rask7 n now 0 0).2.1, 0)
    else
      bif port != 0 then
        bif port != 1 then
          (n, false, 11)
        else
          bif !((rask1 n now 1 0).2.2) then
            (n, false, 12)
          else
            (((rask1 n now 1 0).1), (rask1 n now 1 0).2.1, 0)
      else
        bif !((rask1 n now 0 0).2.2) then
          (n, false, 12)
        else
          (((rask1 n now 0 0).1), (rask1 n now 0 0).2.1, 0)
  else
    bif !((rask0 n now port 0).2.2) then
      (n, false, 12)
    else
      (((rask0 n now port 0).1), (rask0 n now port 0).2.1, 0)
def rorder_c (r : RNd × Bool × Int) : Dir := .callL (.tuple ⟨[.agg ⟨RNd.enc r.1⟩, .bool r.2.1, .int .i64 r.2.2]⟩) []
def rorder_E (r : RNd × Bool × Int) : Value := .tuple ⟨[.agg ⟨RNd.enc r.1⟩, .bool r.2.1, .int .i64 r.2.2]⟩
theorem rorder_eq (n : RNd) (now : Int) (k : Int) (port : Int) (hr : n.role ≠ 0 → n.rpl = 0 ∨ n.rpl = 1) (ho : n.own = 1 ∨ n.own = 7 ∨ n.own = 14) : AOn Tryz.prog 52 [.agg ⟨RNd.enc n⟩, .int .i64 now, .int .i64 k, .int .i64 port] [] (rorder_E (rorder n now k port)) [] := by
  unfold rorder
  apply onT 400 rorder_E
  apply kj 160017
  intro hb0
  apply kj 200021
  intro hb1
  apply ki 23
  intro hb2
  exact kl
  intro hb2
  apply kv 25 (ieqn .i64 hb2)
  apply kj 310032
  intro hb3
  apply ki 34
  intro hb4
  exact kl
  intro hb4
  apply kv 38 (ieqn .i64 hb2)
  apply kv 40 (ieqn .i64 hb4)
  apply kk (rask7_eq n now 1 0 (show n.own = 1 ∨ n.own = 7 ∨ n.own = 14 from by first | omega | (simp only [zor, zand, zorf, zandf, znt, znf, zeq, zne, zeqf, znef, zd, zdf] at *; omega)) (.inr rfl))
  apply ki 46
  intro hb5
  exact kl
  intro hb5
  exact kl
  intro hb3
  apply kv 38 (ieqn .i64 hb2)
  apply kv 40 (ieqn .i64 hb3)
  apply kk (rask7_eq n now 0 0 (show n.own = 1 ∨ n.own = 7 ∨ n.own = 14 from by first | omega | (simp only [zor, zand, zorf, zandf, znt, znf, zeq, zne, zeqf, znef, zd, zdf] at *; omega)) (.inl rfl))
  apply ki 46
  intro hb4
  exact kl
  intro hb4
  exact kl
  intro hb1
  apply kv 25 (ieqn .i64 hb1)
  apply kj 310032
  intro hb2
  apply ki 34
  intro hb3
  exact kl
  intro hb3
  apply kv 38 (ieqn .i64 hb1)
  apply kv 40 (ieqn .i64 hb3)
  apply kk (rask1_eq n now 1 0 (show n.own = 1 ∨ n.own = 7 ∨ n.own = 14 from by first | omega | (simp only [zor, zand, zorf, zandf, znt, znf, zeq, zne, zeqf, znef, zd, zdf] at *; omega)) (.inr rfl))
  apply ki 46
  intro hb4
  exact kl
  intro hb4
  exact kl
  intro hb2
  apply kv 38 (ieqn .i64 hb1)
  apply kv 40 (ieqn .i64 hb2)
  apply kk (rask1_eq n now 0 0 (show n.own = 1 ∨ n.own = 7 ∨ n.own = 14 from by first | omega | (simp only [zor, zand, zorf, zandf, znt, znf, zeq, zne, zeqf, znef, zd, zdf] at *; omega)) (.inl rfl))
  apply ki 46
  intro hb3
  exact kl
  intro hb3
  exact kl
  intro hb0
  apply kv 25 (ieqn .i64 hb0)
  apply kv 38 (ieqn .i64 hb0)
  apply kk (rask0_eq n now port 0 (show n.own = 1 ∨ n.own = 7 ∨ n.own = 14 from by first | omega | (simp only [zor, zand, zorf, zandf, znt, znf, zeq, zne, zeqf, znef, zd, zdf] at *; omega)) (by first | omega | (simp only [zor, zand, zorf, zandf, znt, znf, zeq, zne, zeqf, znef, zd, zdf] at *; omega)))
  apply ki 46
  intro hb1
  exact kl
  intro hb1
  exact kl
  kernel_rfl
  rfl

def rfault_x0 (n : RNd) (now : Int) (port : Int) (bad : Bool) : RNd × Bool × Bool := rask3 ({ n with bad := { n.bad with e := bad } }) now 1 0
def rfault_x1 (n : RNd) (now : Int) (port : Int) (bad : Bool) : RNd × Bool × Bool := rask4 ({ n with bad := { n.bad with e := bad } }) now 1 0
def rfault_x2 (n : RNd) (now : Int) (port : Int) (bad : Bool) : RNd × Bool × Bool := rask3 ({ n with bad := { n.bad with w := bad } }) now 0 0
def rfault_x3 (n : RNd) (now : Int) (port : Int) (bad : Bool) : RNd × Bool × Bool := rask4 ({ n with bad := { n.bad with w := bad } }) now 0 0
def rfault (n : RNd) (now : Int) (port : Int) (bad : Bool) : RNd × Bool :=
  bif port != 0 then
    bif (port != 1) || (n.bad.e == bad) then
      (n, false)
    else
      bif bad then
        (((rfault_x0 n now port bad).1), (rfault_x0 n now port bad).2.1)
      else
        bif n.bad.w then
          ({ n with bad := { n.bad with e := bad } }, false)
        else
          (((rfault_x1 n now port bad).1), (rfault_x1 n now port bad).2.1)
  else
    bif n.bad.w == bad then
      (n, false)
    else
      bif bad then
        (((rfault_x2 n now port bad).1), (rfault_x2 n now port bad).2.1)
      else
        bif n.bad.e then
          ({ n with bad := { n.bad with w := bad } }, false)
        else
          (((rfault_x3 n now port bad).1), (rfault_x3 n now port bad).2.1)
def rfault_c (r : RNd × Bool) : Dir := .callL (.tuple ⟨[.agg ⟨RNd.enc r.1⟩, .bool r.2]⟩) []
def rfault_E (r : RNd × Bool) : Value := .tuple ⟨[.agg ⟨RNd.enc r.1⟩, .bool r.2]⟩
theorem rfault_eq (n : RNd) (now : Int) (port : Int) (bad : Bool) (hr : n.role ≠ 0 → n.rpl = 0 ∨ n.rpl = 1) (ho : n.own = 1 ∨ n.own = 7 ∨ n.own = 14) : AOn Tryz.prog 53 [.agg ⟨RNd.enc n⟩, .int .i64 now, .int .i64 port, .bool bad] [] (rfault_E (rfault n now port bad)) [] := by
  unfold rfault
  apply onT 400 rfault_E
  apply kj 180019
  intro hb0
  apply kor
  apply kj 220023
  intro hb1
  exact kl
  intro hb1
  apply kv 23 (ieqn .i64 hb1)
  apply ki 29
  intro hb2
  exact kl
  intro hb2
  apply kv 31 (ieqn .i64 hb1)
  apply ki 35
  intro hb3
  apply kv 39 (ieqn .i64 hb1)
  apply kk (rask3_eq ({ n with bad := { n.bad with e := bad } }) now 1 0 (show n.own = 1 ∨ n.own = 7 ∨ n.own = 14 from by first | omega | (simp only [zor, zand, zorf, zandf, znt, znf, zeq, zne, zeqf, znef, zd, zdf] at *; omega)) (.inr rfl))
  exact kl
  intro hb3
  apply kv 46 (ieqn .i64 hb1)
  apply ki 50
  intro hb4
  exact kl
  intro hb4
  apply kv 55 (ieqn .i64 hb1)
  apply kk (rask4_eq ({ n with bad := { n.bad with e := bad } }) now 1 0 (show n.own = 1 ∨ n.own = 7 ∨ n.own = 14 from by first | omega | (simp only [zor, zand, zorf, zandf, znt, znf, zeq, zne, zeqf, znef, zd, zdf] at *; omega)))
  exact kl
  intro hb0
  apply kv 23 (ieqn .i64 hb0)
  apply ki 29
  intro hb1
  exact kl
  intro hb1
  apply kv 31 (ieqn .i64 hb0)
  apply ki 35
  intro hb2
  apply kv 39 (ieqn .i64 hb0)
  apply kk (rask3_eq ({ n with bad := { n.bad with w := bad } }) now 0 0 (show n.own = 1 ∨ n.own = 7 ∨ n.own = 14 from by first | omega | (simp only [zor, zand, zorf, zandf, znt, znf, zeq, zne, zeqf, znef, zd, zdf] at *; omega)) (.inl rfl))
  exact kl
  intro hb2
  apply kv 46 (ieqn .i64 hb0)
  apply ki 50
  intro hb3
  exact kl
  intro hb3
  apply kv 55 (ieqn .i64 hb0)
  apply kk (rask4_eq ({ n with bad := { n.bad with w := bad } }) now 0 0 (show n.own = 1 ∨ n.own = 7 ∨ n.own = 14 from by first | omega | (simp only [zor, zand, zorf, zandf, znt, znf, zeq, zne, zeqf, znef, zd, zdf] at *; omega)))
  exact kl
  kernel_rfl
  rfl

def rhear_x0 (n : RNd) (now : Int) (port : Int) (m : Msg) : RNd × Bool × Bool := rask2 { n with pairs := (rpairs n.pairs 1 m).1 } now 1 m.node
def rhear_x1 (n : RNd) (now : Int) (port : Int) (m : Msg) : RNd × Bool × Bool := rask5 { n with pairs := (rpairs n.pairs 1 m).1 } now 1 m.node
def rhear_x2 (n : RNd) (now : Int) (port : Int) (m : Msg) : RNd × Bool × Bool := rask6 { n with pairs := (rpairs n.pairs 1 m).1 } now 1 m.node
def rhear_x3 (n : RNd) (now : Int) (port : Int) (m : Msg) : RNd × Bool × Bool := rask12 { n with pairs := (rpairs n.pairs 1 m).1 } now 1 m.node
def rhear_x4 (n : RNd) (now : Int) (port : Int) (m : Msg) : RNd × Bool × Bool := rask13 { n with pairs := (rpairs n.pairs 1 m).1 } now 1 m.node
def rhear_x5 (n : RNd) (now : Int) (port : Int) (m : Msg) : RNd × Bool × Bool := rask14 { n with pairs := (rpairs n.pairs 1 m).1 } now 1 m.node
def rhear_x6 (n : RNd) (now : Int) (port : Int) (m : Msg) : RNd × Bool × Bool := rask2 { n with pairs := (rpairs n.pairs 0 m).1 } now 0 m.node
def rhear_x7 (n : RNd) (now : Int) (port : Int) (m : Msg) : RNd × Bool × Bool := rask5 { n with pairs := (rpairs n.pairs 0 m).1 } now 0 m.node
def rhear_x8 (n : RNd) (now : Int) (port : Int) (m : Msg) : RNd × Bool × Bool := rask6 { n with pairs := (rpairs n.pairs 0 m).1 } now 0 m.node
def rhear_x9 (n : RNd) (now : Int) (port : Int) (m : Msg) : RNd × Bool × Bool := rask12 { n with pairs := (rpairs n.pairs 0 m).1 } now 0 m.node
def rhear_x10 (n : RNd) (now : Int) (port : Int) (m : Msg) : RNd × Bool × Bool := rask13 { n with pairs := (rpairs n.pairs 0 m).1 } now 0 m.node
def rhear_x11 (n : RNd) (now : Int) (port : Int) (m : Msg) : RNd × Bool × Bool := rask14 { n with pairs := (rpairs n.pairs 0 m).1 } now 0 m.node
def rhear (n : RNd) (now : Int) (port : Int) (m : Msg) : RNd × Bool :=
  bif port != 0 then
    bif (port != 1) || ((m.node == n.me) || (rruns0 n.bank)) then
      (n, false)
    else
      bif (rof m) == 2 then
        bif (rhear_x0 n now port m).2.1 then
          (((rhear_x0 n now port m).1), true)
        else
          (((rhear_x0 n now port m).1), (rpairs n.pairs 1 m).2)
      else
        bif (rof m) == 5 then
          bif (rhear_x1 n now port m).2.1 then
            (((rhear_x1 n now port m).1), true)
          else
            (((rhear_x1 n now port m).1), (rpairs n.pairs 1 m).2)
        else
          bif (rof m) == 6 then
            bif (rhear_x2 n now port m).2.1 then
              (((rhear_x2 n now port m).1), true)
            else
              (((rhear_x2 n now port m).1), (rpairs n.pairs 1 m).2)
          else
            bif (rof m) == 12 then
              bif (rhear_x3 n now port m).2.1 then
                (((rhear_x3 n now port m).1), true)
              else
                (((rhear_x3 n now port m).1), (rpairs n.pairs 1 m).2)
            else
              bif (rof m) == 13 then
                bif (rhear_x4 n now port m).2.1 then
                  (((rhear_x4 n now port m).1), true)
                else
                  (((rhear_x4 n now port m).1), (rpairs n.pairs 1 m).2)
              else
                bif (rhear_x5 n now port m).2.1 then
                  (((rhear_x5 n now port m).1), true)
                else
                  (((rhear_x5 n now port m).1), (rpairs n.pairs 1 m).2)
  else
    bif (m.node == n.me) || (rruns0 n.bank) then
      (n, false)
    else
      bif (rof m) == 2 then
        bif (rhear_x6 n now port m).2.1 then
          (((rhear_x6 n now port m).1), true)
        else
          (((rhear_x6 n now port m).1), (rpairs n.pairs 0 m).2)
      else
        bif (rof m) == 5 then
          bif (rhear_x7 n now port m).2.1 then
            (((rhear_x7 n now port m).1), true)
          else
            (((rhear_x7 n now port m).1), (rpairs n.pairs 0 m).2)
        else
          bif (rof m) == 6 then
            bif (rhear_x8 n now port m).2.1 then
              (((rhear_x8 n now port m).1), true)
            else
              (((rhear_x8 n now port m).1), (rpairs n.pairs 0 m).2)
          else
            bif (rof m) == 12 then
              bif (rhear_x9 n now port m).2.1 then
                (((rhear_x9 n now port m).1), true)
              else
                (((rhear_x9 n now port m).1), (rpairs n.pairs 0 m).2)
            else
              bif (rof m) == 13 then
                bif (rhear_x10 n now port m).2.1 then
                  (((rhear_x10 n now port m).1), true)
                else
                  (((rhear_x10 n now port m).1), (rpairs n.pairs 0 m).2)
              else
                bif (rhear_x11 n now port m).2.1 then
                  (((rhear_x11 n now port m).1), true)
                else
                  (((rhear_x11 n now port m).1), (rpairs n.pairs 0 m).2)
def rhear_c (r : RNd × Bool) : Dir := .callL (.tuple ⟨[.agg ⟨RNd.enc r.1⟩, .bool r.2]⟩) []
def rhear_E (r : RNd × Bool) : Value := .tuple ⟨[.agg ⟨RNd.enc r.1⟩, .bool r.2]⟩
theorem rhear_eq (n : RNd) (now : Int) (port : Int) (m : Msg) (hr : n.role ≠ 0 → n.rpl = 0 ∨ n.rpl = 1) (ho : n.own = 1 ∨ n.own = 7 ∨ n.own = 14) : AOn Tryz.prog 54 [.agg ⟨RNd.enc n⟩, .int .i64 now, .int .i64 port, .agg ⟨Msg.enc m⟩] [] (rhear_E (rhear n now port m)) [] := by
  unfold rhear
  apply onT 400 rhear_E
  apply kj 150016
  intro hb0
  apply kor
  apply kj 190020
  intro hb1
  exact kl
  intro hb1
  apply kor
  apply kj 260027
  intro hb2
  exact kl
  intro hb2
  apply kk (rruns0_eq n.bank)
  apply ki 30
  intro hb3
  exact kl
  intro hb3
  apply kv 35 (ieqn .i64 hb1)
  apply kk (rpairs_eq n.pairs 1 m)
  apply kc
  intro hb4
  apply kf [.cut 12, rof_c (rof m), .is 44 (.int .i64 2), .is 46 (.int .i64 1), rask2_c (rhear_x0 n now port m)] (o_ (rof_eq m) (o_ (ieq .i64 hb4) (o_ (ieqn .i64 hb1) (o_ (rask2_eq { n with pairs := (rpairs n.pairs 1 m).1 } now 1 m.node (show n.own = 1 ∨ n.own = 7 ∨ n.own = 14 from by have := (show (rof m) = 2 ∨ (rof m) = 5 ∨ (rof m) = 6 ∨ (rof m) = 12 ∨ (rof m) = 13 ∨ (rof m) = 14 from rof_dom m); first | omega | (simp only [zor, zand, zorf, zandf, znt, znf, zeq, zne, zeqf, znef, zd, zdf] at *; omega))) o0))))
  apply kj 550056
  intro hb5
  exact kl
  intro hb5
  exact kl
  intro hb4
  apply kc
  intro hb5
  apply kf [.cut 12, rof_c (rof m), .is 44 (.int .i64 5), .is 46 (.int .i64 1), rask5_c (rhear_x1 n now port m)] (o_ (rof_eq m) (o_ (ieq .i64 hb5) (o_ (ieqn .i64 hb1) (o_ (rask5_eq { n with pairs := (rpairs n.pairs 1 m).1 } now 1 m.node (show n.own = 1 ∨ n.own = 7 ∨ n.own = 14 from by have := (show (rof m) = 2 ∨ (rof m) = 5 ∨ (rof m) = 6 ∨ (rof m) = 12 ∨ (rof m) = 13 ∨ (rof m) = 14 from rof_dom m); first | omega | (simp only [zor, zand, zorf, zandf, znt, znf, zeq, zne, zeqf, znef, zd, zdf] at *; omega))) o0))))
  apply kj 550056
  intro hb6
  exact kl
  intro hb6
  exact kl
  intro hb5
  apply kc
  intro hb6
  apply kf [.cut 12, rof_c (rof m), .is 44 (.int .i64 6), .is 46 (.int .i64 1), rask6_c (rhear_x2 n now port m)] (o_ (rof_eq m) (o_ (ieq .i64 hb6) (o_ (ieqn .i64 hb1) (o_ (rask6_eq { n with pairs := (rpairs n.pairs 1 m).1 } now 1 m.node (show n.own = 1 ∨ n.own = 7 ∨ n.own = 14 from by have := (show (rof m) = 2 ∨ (rof m) = 5 ∨ (rof m) = 6 ∨ (rof m) = 12 ∨ (rof m) = 13 ∨ (rof m) = 14 from rof_dom m); first | omega | (simp only [zor, zand, zorf, zandf, znt, znf, zeq, zne, zeqf, znef, zd, zdf] at *; omega))) o0))))
  apply kj 550056
  intro hb7
  exact kl
  intro hb7
  exact kl
  intro hb6
  apply kc
  intro hb7
  apply kf [.cut 12, rof_c (rof m), .is 44 (.int .i64 12), .is 46 (.int .i64 1), rask12_c (rhear_x3 n now port m)] (o_ (rof_eq m) (o_ (ieq .i64 hb7) (o_ (ieqn .i64 hb1) (o_ (rask12_eq { n with pairs := (rpairs n.pairs 1 m).1 } now 1 m.node (show n.own = 1 ∨ n.own = 7 ∨ n.own = 14 from by have := (show (rof m) = 2 ∨ (rof m) = 5 ∨ (rof m) = 6 ∨ (rof m) = 12 ∨ (rof m) = 13 ∨ (rof m) = 14 from rof_dom m); first | omega | (simp only [zor, zand, zorf, zandf, znt, znf, zeq, zne, zeqf, znef, zd, zdf] at *; omega)) (by have := (show (rof m) = 2 ∨ (rof m) = 5 ∨ (rof m) = 6 ∨ (rof m) = 12 ∨ (rof m) = 13 ∨ (rof m) = 14 from rof_dom m); first | omega | (simp only [zor, zand, zorf, zandf, znt, znf, zeq, zne, zeqf, znef, zd, zdf] at *; omega))) o0))))
  apply kj 550056
  intro hb8
  exact kl
  intro hb8
  exact kl
  intro hb7
  apply kc
  intro hb8
  apply kf [.cut 12, rof_c (rof m), .is 44 (.int .i64 13), .is 46 (.int .i64 1), rask13_c (rhear_x4 n now port m)] (o_ (rof_eq m) (o_ (ieq .i64 hb8) (o_ (ieqn .i64 hb1) (o_ (rask13_eq { n with pairs := (rpairs n.pairs 1 m).1 } now 1 m.node (show n.own = 1 ∨ n.own = 7 ∨ n.own = 14 from by have := (show (rof m) = 2 ∨ (rof m) = 5 ∨ (rof m) = 6 ∨ (rof m) = 12 ∨ (rof m) = 13 ∨ (rof m) = 14 from rof_dom m); first | omega | (simp only [zor, zand, zorf, zandf, znt, znf, zeq, zne, zeqf, znef, zd, zdf] at *; omega))) o0))))
  apply kj 550056
  intro hb9
  exact kl
  intro hb9
  exact kl
  intro hb8
  apply kcs ((rof m) == 14)
  intro hb9
  apply kf [.cut 12, rof_c (rof m), .is 44 (.int .i64 14), .is 46 (.int .i64 1), rask14_c (rhear_x5 n now port m)] (o_ (rof_eq m) (o_ (ieq .i64 hb9) (o_ (ieqn .i64 hb1) (o_ (rask14_eq { n with pairs := (rpairs n.pairs 1 m).1 } now 1 m.node (show n.own = 1 ∨ n.own = 7 ∨ n.own = 14 from by have := (show (rof m) = 2 ∨ (rof m) = 5 ∨ (rof m) = 6 ∨ (rof m) = 12 ∨ (rof m) = 13 ∨ (rof m) = 14 from rof_dom m); first | omega | (simp only [zor, zand, zorf, zandf, znt, znf, zeq, zne, zeqf, znef, zd, zdf] at *; omega))) o0))))
  apply kj 550056
  intro hb10
  exact kl
  intro hb10
  exact kl
  intro hb9
  exact kx (by have := (show (rof m) = 2 ∨ (rof m) = 5 ∨ (rof m) = 6 ∨ (rof m) = 12 ∨ (rof m) = 13 ∨ (rof m) = 14 from rof_dom m); first | omega | (simp only [zor, zand, zorf, zandf, znt, znf, zeq, zne, zeqf, znef, zd, zdf] at *; omega))
  intro hb0
  apply kor
  apply kj 260027
  intro hb1
  exact kl
  intro hb1
  apply kk (rruns0_eq n.bank)
  apply ki 30
  intro hb2
  exact kl
  intro hb2
  apply kv 35 (ieqn .i64 hb0)
  apply kk (rpairs_eq n.pairs 0 m)
  apply kc
  intro hb3
  apply kf [.cut 12, rof_c (rof m), .is 44 (.int .i64 2), .is 46 (.int .i64 0), rask2_c (rhear_x6 n now port m)] (o_ (rof_eq m) (o_ (ieq .i64 hb3) (o_ (ieqn .i64 hb0) (o_ (rask2_eq { n with pairs := (rpairs n.pairs 0 m).1 } now 0 m.node (show n.own = 1 ∨ n.own = 7 ∨ n.own = 14 from by have := (show (rof m) = 2 ∨ (rof m) = 5 ∨ (rof m) = 6 ∨ (rof m) = 12 ∨ (rof m) = 13 ∨ (rof m) = 14 from rof_dom m); first | omega | (simp only [zor, zand, zorf, zandf, znt, znf, zeq, zne, zeqf, znef, zd, zdf] at *; omega))) o0))))
  apply kj 550056
  intro hb4
  exact kl
  intro hb4
  exact kl
  intro hb3
  apply kc
  intro hb4
  apply kf [.cut 12, rof_c (rof m), .is 44 (.int .i64 5), .is 46 (.int .i64 0), rask5_c (rhear_x7 n now port m)] (o_ (rof_eq m) (o_ (ieq .i64 hb4) (o_ (ieqn .i64 hb0) (o_ (rask5_eq { n with pairs := (rpairs n.pairs 0 m).1 } now 0 m.node (show n.own = 1 ∨ n.own = 7 ∨ n.own = 14 from by have := (show (rof m) = 2 ∨ (rof m) = 5 ∨ (rof m) = 6 ∨ (rof m) = 12 ∨ (rof m) = 13 ∨ (rof m) = 14 from rof_dom m); first | omega | (simp only [zor, zand, zorf, zandf, znt, znf, zeq, zne, zeqf, znef, zd, zdf] at *; omega))) o0))))
  apply kj 550056
  intro hb5
  exact kl
  intro hb5
  exact kl
  intro hb4
  apply kc
  intro hb5
  apply kf [.cut 12, rof_c (rof m), .is 44 (.int .i64 6), .is 46 (.int .i64 0), rask6_c (rhear_x8 n now port m)] (o_ (rof_eq m) (o_ (ieq .i64 hb5) (o_ (ieqn .i64 hb0) (o_ (rask6_eq { n with pairs := (rpairs n.pairs 0 m).1 } now 0 m.node (show n.own = 1 ∨ n.own = 7 ∨ n.own = 14 from by have := (show (rof m) = 2 ∨ (rof m) = 5 ∨ (rof m) = 6 ∨ (rof m) = 12 ∨ (rof m) = 13 ∨ (rof m) = 14 from rof_dom m); first | omega | (simp only [zor, zand, zorf, zandf, znt, znf, zeq, zne, zeqf, znef, zd, zdf] at *; omega))) o0))))
  apply kj 550056
  intro hb6
  exact kl
  intro hb6
  exact kl
  intro hb5
  apply kc
  intro hb6
  apply kf [.cut 12, rof_c (rof m), .is 44 (.int .i64 12), .is 46 (.int .i64 0), rask12_c (rhear_x9 n now port m)] (o_ (rof_eq m) (o_ (ieq .i64 hb6) (o_ (ieqn .i64 hb0) (o_ (rask12_eq { n with pairs := (rpairs n.pairs 0 m).1 } now 0 m.node (show n.own = 1 ∨ n.own = 7 ∨ n.own = 14 from by have := (show (rof m) = 2 ∨ (rof m) = 5 ∨ (rof m) = 6 ∨ (rof m) = 12 ∨ (rof m) = 13 ∨ (rof m) = 14 from rof_dom m); first | omega | (simp only [zor, zand, zorf, zandf, znt, znf, zeq, zne, zeqf, znef, zd, zdf] at *; omega)) (by have := (show (rof m) = 2 ∨ (rof m) = 5 ∨ (rof m) = 6 ∨ (rof m) = 12 ∨ (rof m) = 13 ∨ (rof m) = 14 from rof_dom m); first | omega | (simp only [zor, zand, zorf, zandf, znt, znf, zeq, zne, zeqf, znef, zd, zdf] at *; omega))) o0))))
  apply kj 550056
  intro hb7
  exact kl
  intro hb7
  exact kl
  intro hb6
  apply kc
  intro hb7
  apply kf [.cut 12, rof_c (rof m), .is 44 (.int .i64 13), .is 46 (.int .i64 0), rask13_c (rhear_x10 n now port m)] (o_ (rof_eq m) (o_ (ieq .i64 hb7) (o_ (ieqn .i64 hb0) (o_ (rask13_eq { n with pairs := (rpairs n.pairs 0 m).1 } now 0 m.node (show n.own = 1 ∨ n.own = 7 ∨ n.own = 14 from by have := (show (rof m) = 2 ∨ (rof m) = 5 ∨ (rof m) = 6 ∨ (rof m) = 12 ∨ (rof m) = 13 ∨ (rof m) = 14 from rof_dom m); first | omega | (simp only [zor, zand, zorf, zandf, znt, znf, zeq, zne, zeqf, znef, zd, zdf] at *; omega))) o0))))
  apply kj 550056
  intro hb8
  exact kl
  intro hb8
  exact kl
  intro hb7
  apply kcs ((rof m) == 14)
  intro hb8
  apply kf [.cut 12, rof_c (rof m), .is 44 (.int .i64 14), .is 46 (.int .i64 0), rask14_c (rhear_x11 n now port m)] (o_ (rof_eq m) (o_ (ieq .i64 hb8) (o_ (ieqn .i64 hb0) (o_ (rask14_eq { n with pairs := (rpairs n.pairs 0 m).1 } now 0 m.node (show n.own = 1 ∨ n.own = 7 ∨ n.own = 14 from by have := (show (rof m) = 2 ∨ (rof m) = 5 ∨ (rof m) = 6 ∨ (rof m) = 12 ∨ (rof m) = 13 ∨ (rof m) = 14 from rof_dom m); first | omega | (simp only [zor, zand, zorf, zandf, znt, znf, zeq, zne, zeqf, znef, zd, zdf] at *; omega))) o0))))
  apply kj 550056
  intro hb9
  exact kl
  intro hb9
  exact kl
  intro hb8
  exact kx (by have := (show (rof m) = 2 ∨ (rof m) = 5 ∨ (rof m) = 6 ∨ (rof m) = 12 ∨ (rof m) = 13 ∨ (rof m) = 14 from rof_dom m); first | omega | (simp only [zor, zand, zorf, zandf, znt, znf, zeq, zne, zeqf, znef, zd, zdf] at *; omega))
  kernel_rfl
  rfl

end Go.Proofs.E17

namespace Go.Proofs.E17
open Go Go.AX Go.Proofs
set_option maxRecDepth 1000000
set_option linter.unusedVariables false
set_option linter.unusedSimpArgs false

def rnew_x0 (p : Plan) (i : Int) (now : Int) : RNd := rsay (RNd.mk (rnode p i) ((rrole p i).1) ((rrole p i).2) p.revert p.guard p.rest p.wait 4 (B2.mk true false) (B2.mk false false) 14 (RBk.mk (RRun.mk false false false) (RDue.mk 0 0 0)) (P2.mk (Pair.mk false false 0) (Pair.mk false false 0)) (Msg.mk 0 false false false 0) (Burst.mk p.gap p.period 0 false 0)) now (Msg.mk 0 false false false 0)
def rnew_x1 (p : Plan) (i : Int) (now : Int) : RBk × Int := rstart1 ((rnew_x0 p i now).bank) now ((rnew_x0 p i now).rest)
def rnew_x2 (p : Plan) (i : Int) (now : Int) : RNd := rsay (RNd.mk (rnode p i) ((rrole p i).1) ((rrole p i).2) p.revert p.guard p.rest p.wait 4 (B2.mk false true) (B2.mk false false) 14 (RBk.mk (RRun.mk false false false) (RDue.mk 0 0 0)) (P2.mk (Pair.mk false false 0) (Pair.mk false false 0)) (Msg.mk 0 false false false 0) (Burst.mk p.gap p.period 0 false 0)) now (Msg.mk 0 false false true 0)
def rnew_x3 (p : Plan) (i : Int) (now : Int) : RBk × Int := rstart1 ((rnew_x2 p i now).bank) now ((rnew_x2 p i now).rest)
def rnew (p : Plan) (i : Int) (now : Int) : RNd × Int :=
  bif (rcheck p) != 0 then
    ((RNd.mk 0 0 0 false 0 0 0 0 (B2.mk false false) (B2.mk false false) 0 (RBk.mk (RRun.mk false false false) (RDue.mk 0 0 0)) (P2.mk (Pair.mk false false 0) (Pair.mk false false 0)) (Msg.mk 0 false false false 0) (Burst.mk 0 0 0 false 0)), (rcheck p))
  else
    bif (decide (i < 0)) || ((decide (i ≥ p.nodes)) || ((decide (now < 0)) || (decide (now > 1099509530624)))) then
      ((RNd.mk 0 0 0 false 0 0 0 0 (B2.mk false false) (B2.mk false false) 0 (RBk.mk (RRun.mk false false false) (RDue.mk 0 0 0)) (P2.mk (Pair.mk false false 0) (Pair.mk false false 0)) (Msg.mk 0 false false false 0) (Burst.mk 0 0 0 false 0)), 4)
    else
      bif ((rrole p i).1) == 2 then
        bif (((rnew_x0 p i now).role) == 1) && ((rnew_x0 p i now).revert) then
          ({ (rnew_x0 p i now) with bank := (rnew_x1 p i now).1 }, 0)
        else
          ((rnew_x0 p i now), 0)
      else
        bif (((rnew_x2 p i now).role) == 1) && ((rnew_x2 p i now).revert) then
          ({ (rnew_x2 p i now) with bank := (rnew_x3 p i now).1 }, 0)
        else
          ((rnew_x2 p i now), 0)
def rnew_c (r : RNd × Int) : Dir := .callL (.tuple ⟨[.agg ⟨RNd.enc r.1⟩, .int .i64 r.2]⟩) []
def rnew_E (r : RNd × Int) : Value := .tuple ⟨[.agg ⟨RNd.enc r.1⟩, .int .i64 r.2]⟩
theorem rnew_eq (p : Plan) (i : Int) (now : Int) : AOn Tryz.prog 16 [.agg ⟨Plan.enc p⟩, .int .i64 i, .int .i64 now] [] (rnew_E (rnew p i now)) [] := by
  unfold rnew
  apply onT 400 rnew_E
  apply kk (rcheck_eq p)
  apply ki 13
  intro hb0
  exact kl
  intro hb0
  apply kor
  apply kj 180019
  intro hb1
  exact kl
  intro hb1
  apply kor
  apply kj 240025
  intro hb2
  exact kl
  intro hb2
  apply kor
  apply kj 280029
  intro hb3
  exact kl
  intro hb3
  apply ki 31
  intro hb4
  exact kl
  intro hb4
  apply kf [rnode_c (rnode p i)] (o_ (rnode_eq p i) o0)
  apply kk (rrole_eq p i)
  apply ki 60
  intro hb5
  apply kk (rsay_eq (RNd.mk (rnode p i) ((rrole p i).1) ((rrole p i).2) p.revert p.guard p.rest p.wait 4 (B2.mk true false) (B2.mk false false) 14 (RBk.mk (RRun.mk false false false) (RDue.mk 0 0 0)) (P2.mk (Pair.mk false false 0) (Pair.mk false false 0)) (Msg.mk 0 false false false 0) (Burst.mk p.gap p.period 0 false 0)) now (Msg.mk 0 false false false 0))
  apply kand
  apply kj 750076
  intro hb6
  apply ki 78
  intro hb7
  apply kk (rstart1_eq ((rnew_x0 p i now).bank) now ((rnew_x0 p i now).rest))
  exact kl
  intro hb7
  exact kl
  intro hb6
  exact kl
  intro hb5
  apply kk (rsay_eq (RNd.mk (rnode p i) ((rrole p i).1) ((rrole p i).2) p.revert p.guard p.rest p.wait 4 (B2.mk false true) (B2.mk false false) 14 (RBk.mk (RRun.mk false false false) (RDue.mk 0 0 0)) (P2.mk (Pair.mk false false 0) (Pair.mk false false 0)) (Msg.mk 0 false false false 0) (Burst.mk p.gap p.period 0 false 0)) now (Msg.mk 0 false false true 0))
  apply kand
  apply kj 750076
  intro hb6
  apply ki 78
  intro hb7
  apply kk (rstart1_eq ((rnew_x2 p i now).bank) now ((rnew_x2 p i now).rest))
  exact kl
  intro hb7
  exact kl
  intro hb6
  exact kl
  kernel_rfl
  rfl

end Go.Proofs.E17

namespace Go.Proofs.E17
open Go Go.AX Go.Proofs
set_option maxRecDepth 1000000
set_option linter.unusedVariables false
set_option linter.unusedSimpArgs false

def rtickL_x0 (now : Int) (i : Int) (n : RNd) (emp : Bool) : RNd × Bool × Bool := rask10 { n with bank := (rpop n.bank now).2.1 } now 0 0
def rtickL_x1 (now : Int) (i : Int) (n : RNd) (emp : Bool) : RNd × Bool × Bool := rask8 { n with bank := (rpop n.bank now).2.1 } now 0 0
noncomputable def rtickL_at (now : Int) (s : Int × RNd × Bool) : Tm × AHeap := ((Tm.told 65 [(1, .int .i64 now), (2, .pointer (some ⟨0, 0, none⟩)), (4, .pointer (some ⟨1, 0, none⟩)), (7, .bool s.2.2), (8, .int .i64 s.1)]), [.cells (RNd.enc s.2.1) 73 45, .cells [.int .u64 0, .int .i64 0, .int .i64 0, .bool false, .int .i64 0, .int .i64 0, .int .i64 0, .int .i64 0, .bool false, .bool false, .bool false, .bool false, .int .i64 0, .bool false, .bool false, .bool false, .bool false, .bool false, .bool false, .bool false, .bool false, .int .i64 0, .int .i64 0, .int .i64 0, .int .i64 0, .int .i64 0, .int .i64 0, .int .i64 0, .int .i64 0, .bool false, .bool false, .int .u64 0, .bool false, .bool false, .int .u64 0, .int .u8 0, .bool false, .bool false, .bool false, .int .u64 0, .int .i64 0, .int .i64 0, .int .i64 0, .bool false, .int .i64 0] 73 45])
noncomputable def rtickL_out (now : Int) (s : Int × RNd × Bool) : Tm × AHeap := ((Tm.told 65 [(1, .int .i64 now), (2, .pointer (some ⟨0, 0, none⟩)), (4, .pointer (some ⟨1, 0, none⟩)), (7, .bool s.2.2)]), [.cells (RNd.enc s.2.1) 73 45, .cells [.int .u64 0, .int .i64 0, .int .i64 0, .bool false, .int .i64 0, .int .i64 0, .int .i64 0, .int .i64 0, .bool false, .bool false, .bool false, .bool false, .int .i64 0, .bool false, .bool false, .bool false, .bool false, .bool false, .bool false, .bool false, .bool false, .int .i64 0, .int .i64 0, .int .i64 0, .int .i64 0, .int .i64 0, .int .i64 0, .int .i64 0, .int .i64 0, .bool false, .bool false, .int .u64 0, .bool false, .bool false, .int .u64 0, .int .u8 0, .bool false, .bool false, .bool false, .int .u64 0, .int .i64 0, .int .i64 0, .int .i64 0, .bool false, .int .i64 0] 73 45])
def rtickL_s (now : Int) (i : Int) (n : RNd) (emp : Bool) : Bool × Int × RNd × Bool :=
  bif !((rpop n.bank now).2.2) then
    (false, i, n, emp)
  else
    bif ((rpop n.bank now).1) == 2 then
      bif emp then
        (true, i + 1, ((rtickL_x0 now i n emp).1), true)
      else
        (true, i + 1, ((rtickL_x0 now i n emp).1), (rtickL_x0 now i n emp).2.1)
    else
      bif ((rpop n.bank now).1) == 1 then
        bif emp then
          (true, i + 1, ((rtickL_x1 now i n emp).1), true)
        else
          (true, i + 1, ((rtickL_x1 now i n emp).1), (rtickL_x1 now i n emp).2.1)
      else
        (true, i + 1, { n with bank := (rpop n.bank now).2.1 }, emp)
def rtickL (now : Int) (s : Int × RNd × Bool) : Bool × Int × RNd × Bool := rtickL_s now s.1 s.2.1 s.2.2
noncomputable def rtickL_E (now : Int) (r : Bool × Int × RNd × Bool) : Exit × Tm × AHeap := (bif r.1 then .normal else .exit 0, bif r.1 then rtickL_at now r.2 else rtickL_out now r.2)
theorem rtickL_round (now : Int) (i : Int) (n : RNd) (emp : Bool) (hi : 0 ≤ i ∧ i ≤ 3) (hr : n.role ≠ 0 → n.rpl = 0 ∨ n.rpl = 1) (ho : n.own = 1 ∨ n.own = 7 ∨ n.own = 14) : AComes Tryz.prog 0 (roundAt Tryz.prog 51 0) (rtickL_at now (i, n, emp)).1 (rtickL_at now (i, n, emp)).2 (rtickL_E now (rtickL_s now i n emp)).1 (rtickL_E now (rtickL_s now i n emp)).2.1 (rtickL_E now (rtickL_s now i n emp)).2.2 := by
  unfold rtickL_s
  apply codeT 400 (rtickL_E now)
  apply kr 18 (show (decide (i < 20)) = true from by first | omega | (simp only [zor, zand, zorf, zandf, znt, znf, zeq, zne, zeqf, znef, zd, zdf] at *; omega))
  apply kk (rpop_eq n.bank now)
  apply ki 30
  intro hb0
  exact kg [0, 1] [] [1, 2, 4, 7] o0
  intro hb0
  apply ki 34
  intro hb1
  apply kv 35 (ieq .i64 hb1)
  apply kv 38 (ieq .i64 hb1)
  apply kk (rask10_eq { n with bank := (rpop n.bank now).2.1 } now 0 0 (show n.own = 1 ∨ n.own = 7 ∨ n.own = 14 from by first | omega | (simp only [zor, zand, zorf, zandf, znt, znf, zeq, zne, zeqf, znef, zd, zdf] at *; omega)) (by first | omega | (simp only [zor, zand, zorf, zandf, znt, znf, zeq, zne, zeqf, znef, zd, zdf] at *; omega)))
  apply kj 510052
  intro hb2
  apply kv 20 (wr_i64 (n := i + 1) (by first | omega | (simp only [zor, zand, zorf, zandf, znt, znf, zeq, zne, zeqf, znef, zd, zdf] at *; omega)) (by first | omega | (simp only [zor, zand, zorf, zandf, znt, znf, zeq, zne, zeqf, znef, zd, zdf] at *; omega)))
  exact kg [0, 1] [] [1, 2, 4, 7, 8] o0
  intro hb2
  apply kv 20 (wr_i64 (n := i + 1) (by first | omega | (simp only [zor, zand, zorf, zandf, znt, znf, zeq, zne, zeqf, znef, zd, zdf] at *; omega)) (by first | omega | (simp only [zor, zand, zorf, zandf, znt, znf, zeq, zne, zeqf, znef, zd, zdf] at *; omega)))
  exact kg [0, 1] [] [1, 2, 4, 7, 8] o0
  intro hb1
  apply kj 370038
  intro hb2
  apply kk (rask8_eq { n with bank := (rpop n.bank now).2.1 } now 0 0 (show n.own = 1 ∨ n.own = 7 ∨ n.own = 14 from by first | omega | (simp only [zor, zand, zorf, zandf, znt, znf, zeq, zne, zeqf, znef, zd, zdf] at *; omega)) (by first | omega | (simp only [zor, zand, zorf, zandf, znt, znf, zeq, zne, zeqf, znef, zd, zdf] at *; omega)))
  apply kj 510052
  intro hb3
  apply kv 20 (wr_i64 (n := i + 1) (by first | omega | (simp only [zor, zand, zorf, zandf, znt, znf, zeq, zne, zeqf, znef, zd, zdf] at *; omega)) (by first | omega | (simp only [zor, zand, zorf, zandf, znt, znf, zeq, zne, zeqf, znef, zd, zdf] at *; omega)))
  exact kg [0, 1] [] [1, 2, 4, 7, 8] o0
  intro hb3
  apply kv 20 (wr_i64 (n := i + 1) (by first | omega | (simp only [zor, zand, zorf, zandf, znt, znf, zeq, zne, zeqf, znef, zd, zdf] at *; omega)) (by first | omega | (simp only [zor, zand, zorf, zandf, znt, znf, zeq, zne, zeqf, znef, zd, zdf] at *; omega)))
  exact kg [0, 1] [] [1, 2, 4, 7, 8] o0
  intro hb2
  apply kr 40 hb1
  apply kv 20 (wr_i64 (n := i + 1) (by first | omega | (simp only [zor, zand, zorf, zandf, znt, znf, zeq, zne, zeqf, znef, zd, zdf] at *; omega)) (by first | omega | (simp only [zor, zand, zorf, zandf, znt, znf, zeq, zne, zeqf, znef, zd, zdf] at *; omega)))
  exact kg [0, 1] [] [1, 2, 4, 7, 8] o0
  kernel_rfl
theorem rtickL_loop (now : Int) (μ : Int × RNd × Bool → Nat) (I : Int × RNd × Bool → Prop) (hI0 : ∀ s, I s → (fun s : Int × RNd × Bool => (0 ≤ s.1 ∧ s.1 ≤ 3) ∧ (s.2.1.role ≠ 0 → s.2.1.rpl = 0 ∨ s.2.1.rpl = 1) ∧ (s.2.1.own = 1 ∨ s.2.1.own = 7 ∨ s.2.1.own = 14)) s) (hI : ∀ s, I s → (rtickL now s).1 = true → I (rtickL now s).2) (hμ : ∀ s, I s → (rtickL now s).1 = true → μ (rtickL now s).2 < μ s) (N : Nat) (s : Int × RNd × Bool) (hs : I s) (hN : μ s ≤ N) : AComes Tryz.prog 0 (loopAt Tryz.prog 51 0) (rtickL_at now s).1 (rtickL_at now s).2 (.exit 0) (rtickL_out now (stepsN (rtickL now) N s)).1 (rtickL_out now (stepsN (rtickL now) N s)).2 := by
  have e : loopAt Tryz.prog 51 0 = .loop (roundAt Tryz.prog 51 0) := by kernel_rfl
  rw [e]
  exact loopStepI (by simp) (rtickL now) μ (rtickL_at now) (rtickL_out now) I hI hμ (fun s hs0 => by have hs := hI0 s hs0; exact rtickL_round now s.1 s.2.1 s.2.2 hs.1 hs.2.1 hs.2.2) N s hs hN

end Go.Proofs.E17

namespace Go.Proofs.E17
open Go Go.AX Go.Proofs
set_option maxRecDepth 1000000
set_option linter.unusedVariables false
set_option linter.unusedSimpArgs false

def dueOf (x : Int) : Int := bif decide (x > 0) then x - 1 else 0
def vb (b : Bk) : RBk := ⟨⟨decide (b.g > 0), decide (b.r > 0), decide (b.w > 0)⟩, ⟨dueOf b.g, dueOf b.r, dueOf b.w⟩⟩
def vw (n : Nd) : RNd := ⟨n.me, n.role, n.rpl, n.revert, n.guard, n.rest, n.wait, n.state, n.shut, n.bad, n.own, vb n.bank, n.pairs, n.say, n.burst⟩
def V3 (r : Nd × Bool × Bool) : RNd × Bool × Bool := (vw r.1, r.2.1, r.2.2)

def BkOk (b : Bk) : Prop := (0 ≤ b.g ∧ b.g ≤ 1099511627777) ∧ (0 ≤ b.r ∧ b.r ≤ 1099511627777) ∧ (0 ≤ b.w ∧ b.w ≤ 1099511627777)

theorem dueOf_pos {x : Int} (h : x > 0) : dueOf x = x - 1 := by unfold dueOf; rw [decide_eq_true h]; rfl
theorem dueOf_not {x : Int} (h : ¬ x > 0) : dueOf x = 0 := by unfold dueOf; rw [decide_eq_false h]; rfl
theorem w64 {n : Int} (h0 : -9223372036854775808 ≤ n) (h1 : n ≤ 9223372036854775807) : IntKind.wrap .i64 n = n := wrap_in .i64 h0 h1

theorem v_above (a b : Int) : rabove a b = reqAbove a b := by
  unfold rabove reqAbove
  by_cases h1 : a ≥ 0 <;> by_cases h2 : a ≤ 13 <;> by_cases h3 : b ≥ 0 <;> by_cases h4 : b ≤ 13 <;> simp [h1, h2, h3, h4]

theorem v_stands (n : Nd) (ho : n.own = 1 ∨ n.own = 7 ∨ n.own = 14) : rstands (vw n) = stands n := by
  have e : ∀ x, rstands (vw n) = x → rstands (vw n) = x := fun _ h => h
  obtain ⟨me, role, rpl, rev, gu, re, wa, st, sh, ⟨bw, be⟩, own, ⟨bg, br, bk⟩, pa, sa, bu⟩ := n
  simp only at ho
  by_cases h1 : br > 0 <;> by_cases h2 : bk > 0 <;> cases bw <;> cases be <;> rcases ho with rfl | rfl | rfl <;> simp [rstands, stands, vw, vb, rruns1, rruns2, reqAbove, h1, h2]

theorem v_sound (n : Nd) : rsound (vw n) = vw (openSound n) := by
  obtain ⟨me, role, rpl, rev, gu, re, wa, st, ⟨a, b⟩, ⟨c, d⟩, own, bk, pa, sa, bu⟩ := n
  cases a <;> cases b <;> cases c <;> cases d <;> rfl
theorem v_silent (n : Nd) : rsilent (vw n) = vw (silence n) := rfl
theorem v_say (n : Nd) (now : Int) (m : Msg) : rsay (vw n) now m = vw (says n now m) := rfl
theorem v_take (n : Nd) (now port : Int) (m : Msg) (bad : Bool) : rtake (vw n) now port m bad = (vw (take n now port m bad).1, (take n now port m bad).2) := by
  unfold rtake take
  cases port == 0 <;> cases bad <;> rfl
theorem v_pairs (p : P2) (port : Int) (m : Msg) : rpairs p port m = flushHear p port m := by
  unfold rpairs flushHear
  obtain ⟨⟨a, b, c⟩, ⟨d, e, f⟩⟩ := p
  obtain ⟨r, bl, k, ea, nd⟩ := m
  by_cases h0 : port = 0
  · subst h0; cases bl <;> cases k <;> cases a <;> cases d <;> grind
  · by_cases h1 : port = 1
    · subst h1; cases bl <;> cases k <;> cases a <;> cases d <;> grind
    · have : decide (port < 0) || decide (port > 1) = true := by simp; omega
      grind
theorem v_burst (b : Burst) (now : Int) (h0 : 0 ≤ b.said) (h1 : b.said ≤ 3) : rburst b now = burstTick b now := by
  unfold rburst burstTick
  rw [w64 (n := b.said + 1) (by omega) (by omega)]
  obtain ⟨g, p, nx, on, s⟩ := b
  simp only at h0 h1
  have hs : s = 0 ∨ s = 1 ∨ s = 2 ∨ s = 3 := by omega
  have hn : (decide (now < nx)) = decide (nx > now) := rfl
  rcases hs with rfl | rfl | rfl | rfl <;> simp
end Go.Proofs.E17

namespace Go.Proofs.E17
open Go Go.AX Go.Proofs
set_option maxRecDepth 1000000
set_option linter.unusedVariables false
set_option linter.unusedSimpArgs false

theorem v_due (now len : Int) (h : (decide (now < 0) || (decide (now > 1099511627776) || (decide (len < 0) || decide (len > 1048576)))) = false) :
    ∃ d : Int, IntKind.wrap .i64 (now + len) = d ∧ 0 ≤ d ∧ IntKind.wrap .i64 ((if 1099511627776 < d then 1099511627776 else d) + 1) = (if 1099511627776 < d then 1099511627776 else d) + 1 := by
  simp only [zorf, zdf] at h
  refine ⟨now + len, w64 (by omega) (by omega), by omega, ?_⟩
  rw [w64] <;> split <;> omega

theorem v_start0 (n : Nd) (now len : Int) : { vw n with bank := (rstart0 (vw n).bank now len).1 } = vw (start0 n now len) := by
  unfold rstart0 start0
  cases hc : (decide (now < 0) || (decide (now > 1099511627776) || (decide (len < 0) || decide (len > 1048576)))) with
  | true => rfl
  | false =>
    obtain ⟨d, e1, e2, e3⟩ := v_due now len hc
    simp only [cond_false, e1, e3]
    by_cases h : d > 1099511627776
    · simp [vw, vb, h, dueOf]
    · have h' : ¬ (1099511627776 < d) := h
      simp [vw, vb, h', dueOf, show d + 1 > 0 by omega, show 0 < d + 1 by omega]
theorem v_start1 (n : Nd) (now len : Int) : { vw n with bank := (rstart1 (vw n).bank now len).1 } = vw (start1 n now len) := by
  unfold rstart1 start1
  cases hc : (decide (now < 0) || (decide (now > 1099511627776) || (decide (len < 0) || decide (len > 1048576)))) with
  | true => rfl
  | false =>
    obtain ⟨d, e1, e2, e3⟩ := v_due now len hc
    simp only [cond_false, e1, e3]
    by_cases h : d > 1099511627776
    · simp [vw, vb, h, dueOf]
    · have h' : ¬ (1099511627776 < d) := h
      simp [vw, vb, h', dueOf, show d + 1 > 0 by omega, show 0 < d + 1 by omega]
theorem v_start2 (n : Nd) (now len : Int) : { vw n with bank := (rstart2 (vw n).bank now len).1 } = vw (start2 n now len) := by
  unfold rstart2 start2
  cases hc : (decide (now < 0) || (decide (now > 1099511627776) || (decide (len < 0) || decide (len > 1048576)))) with
  | true => rfl
  | false =>
    obtain ⟨d, e1, e2, e3⟩ := v_due now len hc
    simp only [cond_false, e1, e3]
    by_cases h : d > 1099511627776
    · simp [vw, vb, h, dueOf]
    · have h' : ¬ (1099511627776 < d) := h
      simp [vw, vb, h', dueOf, show d + 1 > 0 by omega, show 0 < d + 1 by omega]

theorem v_stop0 (b : Bk) : rstop0 (vb b) = vb { b with g := 0 } := rfl
theorem v_stop1 (b : Bk) : rstop1 (vb b) = vb { b with r := 0 } := rfl
theorem v_stop2 (b : Bk) : rstop2 (vb b) = vb { b with w := 0 } := rfl

section
variable (n : Nd) (now k port fro : Int)
theorem v_act0 : ract0 (vw n) now port fro = (vw (do0 n now k port fro).1, (do0 n now k port fro).2) := v_take n now port (Msg.mk 13 false false false 0) false
theorem v_act1 : ract1 (vw n) now port fro = (vw (do1 n now k port fro).1, (do1 n now k port fro).2) := v_take n now port (Msg.mk 11 false false false 0) true
theorem v_act2 : ract2 (vw n) now port fro = (vw (do2 n now k port fro).1, (do2 n now k port fro).2) := v_take n now port (Msg.mk 7 false false false 0) false
theorem v_act3 : ract3 (vw n) now port fro = (vw (do3 n now k port fro), false) := by
  show (rsound (vw n), false) = _
  rw [v_sound]; rfl
theorem v_act4 : ract4 (vw n) now port fro = (vw (do4 n now k port fro), false) := rfl
theorem v_act5 : ract5 (vw n) now port fro = (vw (do5 n now k port fro), false) := by
  show ({ vw n with bank := (rstart0 (vw n).bank now n.guard).1 }, false) = _
  rw [v_start0]; rfl
theorem v_act6 : ract6 (vw n) now port fro = (vw (do6 n now k port fro), false) := by
  obtain ⟨me, role, rpl, rev, gu, re, wa, st, ⟨a, b⟩, bad, own, bk, pa, sa, bu⟩ := n
  cases b <;> rfl
theorem v_act7 : ract7 (vw n) now port fro = (vw (do7 n now k port fro), false) := by
  unfold ract7 do7 waitFor1
  show (bif (n.role == 1) && n.revert then _ else _) = _
  cases (n.role == 1) && n.revert with
  | true => show ({ vw n with bank := (rstart1 (vw n).bank now n.rest).1 }, false) = _; rw [v_start1]; rfl
  | false => rfl
theorem v_act8 : ract8 (vw n) now port fro = (vw (do8 n now k port fro), false) := by
  unfold ract8 do8 waitFor2
  show (bif (n.role == 1) && n.revert then _ else _) = _
  cases (n.role == 1) && n.revert with
  | true => show ({ vw n with bank := (rstart2 (vw n).bank now n.wait).1 }, false) = _; rw [v_start2]; rfl
  | false => rfl
theorem v_act9 : ract9 (vw n) now port fro = (vw (do9 n now k port fro), false) := rfl
theorem v_act10 : ract10 (vw n) now port fro = (vw (do10 n now k port fro).1, (do10 n now k port fro).2) := v_take n now n.rpl (Msg.mk 0 true false false 0) true
theorem v_act11 : ract11 (vw n) now port fro = (vw (do11 n now k port fro), false) := by
  unfold ract11 do11 homeFar homeFar_x0 homeFar_x1
  rw [v_sound, v_silent]
  have h1 : (vw (silence (openSound n))).role = n.role := ((openSound_same n).trans (silence_same _)).2.1
  have h2 : (vw (silence (openSound n))).rpl = n.rpl := ((openSound_same n).trans (silence_same _)).2.2.1
  rw [h1, h2]
  cases n.role == 2 with
  | false => rfl
  | true => cases n.rpl == 0 <;> rfl
theorem v_act12 : ract12 (vw n) now port fro = (vw (do12 n now k port fro), false) := by
  unfold ract12 do12
  rw [v_sound, v_silent]
  show (bif n.role == 1 then _ else bif (n.role == 0) && decide (fro > n.me) then _ else _) = _
  by_cases h0 : n.role = 0
  · by_cases h1 : fro ≤ n.me
    · simp [h0, h1, show ¬ (n.me < fro) by omega]
    · simp [h0, h1, show n.me < fro by omega]
  · have e0 : (n.role == 0) = false := by simpa using h0
    have e1 : (n.role != 0) = true := by simpa using h0
    rw [e0, e1]
    cases n.role == 1 <;> rfl
theorem v_act13 : ract13 (vw n) now port fro = (vw (do13 n now k port fro), false) := rfl
end

theorem v_pop (b : Bk) (now : Int) (h : BkOk b) : rpop (vb b) now = ((timerPop b now).1, vb (timerPop b now).2.1, (timerPop b now).2.2) := by
  obtain ⟨⟨g0, g1⟩, ⟨r0, r1⟩, ⟨k0, k1⟩⟩ := h
  obtain ⟨g, r, w⟩ := b
  simp only at g0 g1 r0 r1 k0 k1
  unfold rpop timerPop
  rw [w64 (n := g - 1) (by omega) (by omega), w64 (n := r - 1) (by omega) (by omega), w64 (n := w - 1) (by omega) (by omega), v_stop0, v_stop1, v_stop2]
  simp only [vb, dueOf]
  by_cases a1 : g > 0 <;> by_cases a2 : r > 0 <;> by_cases a3 : w > 0 <;> simp only [a1, a2, a3, decide_true, decide_false, Bool.true_and, Bool.false_and, cond_true, cond_false]
  all_goals grind
end Go.Proofs.E17

namespace Go.Proofs.E17
open Go Go.AX Go.Proofs
set_option maxRecDepth 1000000
set_option linter.unusedVariables false
set_option linter.unusedSimpArgs false
set_option maxHeartbeats 4000000
theorem vset (x : Nd) (s o : Int) : ({ vw x with state := s, own := o } : RNd) = vw { x with state := s, own := o } := rfl
theorem vsets (x : Nd) (s : Int) : ({ vw x with state := s } : RNd) = vw { x with state := s } := rfl
theorem vlt (n : Nd) : decide ((vw n).state < 0) = decide (n.state < 0) := rfl
theorem vgt (n : Nd) : decide ((vw n).state > 4) = decide (n.state > 4) := rfl
theorem q1 {R S : Type} {V : S → R} {c : Bool} {x y : R} {r : S} (h1 : c = true → x = V r) (h2 : c = false → y = V r) : cond c x y = V r := by cases c; exact h2 rfl; exact h1 rfl
theorem q2 {R S : Type} {V : S → R} {c : Bool} {x : R} {r s : S} (h1 : c = true → x = V r) (h2 : c = false → x = V s) : x = V (cond c r s) := by cases c; exact h2 rfl; exact h1 rfl
theorem v_ask3 (n : Nd) (now port fro : Int) (ho : n.own = 1 ∨ n.own = 7 ∨ n.own = 14) : rask3 (vw n) now port fro = V3 (ask3 n now port fro) := by
  unfold rask3 rask3_x0 ask3 ask3_x0
  try simp only [vlt, vgt, v_above, v_stands n ho, fun x => v_act1 x now 3 port fro, fun x => v_act9 x now 3 port fro, vset, vsets]
  repeat' (apply q1 <;> intro _)
  all_goals (try (first | rfl | (simp_all [vw, V3]; done)))
  all_goals repeat' (apply q2 <;> intro _)
  all_goals first | rfl | (exfalso; simp_all [vw]; omega) | (exfalso; simp_all [vw]; done) | (simp_all [vw, V3]; done)
theorem ask3_own (n : Nd) (now port fro : Int) : (ask3 n now port fro).1.own = n.own ∨ (ask3 n now port fro).1.own = 14 := by
  let G : Nd × Bool × Bool → Prop := fun r => r.1.own = n.own ∨ r.1.own = 14
  show G (ask3 n now port fro)
  unfold ask3
  repeat' (first | (refine byIte (fun _ => ?_) (fun _ => ?_)) | exact .inl rfl | exact .inr rfl)
theorem v_ask3s (x : Nd) (now port fro : Int) : rask3 (vw { x with state := 4, own := 14 }) now port fro = V3 (ask3 { x with state := 4, own := 14 } now port fro) := v_ask3 _ _ _ _ (.inr (.inr rfl))
theorem v_ask3t (x : Nd) (now port fro a b c : Int) : rask3 (V3 (ask3 { x with state := 4, own := 14 } a b c)).1 now port fro = V3 (ask3 (ask3 { x with state := 4, own := 14 } a b c).1 now port fro) :=
  v_ask3 _ _ _ _ (by rcases ask3_own { x with state := 4, own := 14 } a b c with h | h <;> rw [h] <;> exact .inr (.inr rfl))
theorem v_ask0 (n : Nd) (now port fro : Int) (ho : n.own = 1 ∨ n.own = 7 ∨ n.own = 14) : rask0 (vw n) now port fro = V3 (ask0 n now port fro) := by
  unfold rask0 rask0_x4 rask0_x3 rask0_x2 rask0_x1 rask0_x0 ask0 ask0_x3 ask0_x2 ask0_x1 ask0_x0
  try simp only [vlt, vgt, v_above, v_stands n ho, fun x => v_act5 x now 0 port fro, fun x => v_act6 x now 0 port fro, fun x => v_act8 x now 0 port fro, fun x => v_act9 x now 0 port fro, fun x => v_act10 x now 0 port fro, vset, vsets, v_ask3s, v_ask3t]
  repeat' (apply q1 <;> intro _)
  all_goals (try (first | rfl | (simp_all [vw, V3]; done)))
  all_goals repeat' (apply q2 <;> intro _)
  all_goals first | rfl | (exfalso; simp_all [vw]; omega) | (exfalso; simp_all [vw]; done) | (simp_all [vw, V3]; done)
theorem v_ask1 (n : Nd) (now port fro : Int) (ho : n.own = 1 ∨ n.own = 7 ∨ n.own = 14) : rask1 (vw n) now port fro = V3 (ask1 n now port fro) := by
  unfold rask1 rask1_x0 ask1 ask1_x0
  try simp only [vlt, vgt, v_above, v_stands n ho, fun x => v_act0 x now 1 port fro, fun x => v_act9 x now 1 port fro, vset, vsets, v_ask3s, v_ask3t]
  repeat' (apply q1 <;> intro _)
  all_goals (try (first | rfl | (simp_all [vw, V3]; done)))
  all_goals repeat' (apply q2 <;> intro _)
  all_goals first | rfl | (exfalso; simp_all [vw]; omega) | (exfalso; simp_all [vw]; done) | (simp_all [vw, V3]; done)
theorem v_ask2 (n : Nd) (now port fro : Int) (ho : n.own = 1 ∨ n.own = 7 ∨ n.own = 14) : rask2 (vw n) now port fro = V3 (ask2 n now port fro) := by
  unfold rask2 rask2_x1 rask2_x0 ask2 ask2_x0
  try simp only [vlt, vgt, v_above, v_stands n ho, fun x => v_act4 x now 2 port fro, fun x => v_act9 x now 2 port fro, fun x => v_act13 x now 2 port fro, vset, vsets, v_ask3s, v_ask3t]
  repeat' (apply q1 <;> intro _)
  all_goals (try (first | rfl | (simp_all [vw, V3]; done)))
  all_goals repeat' (apply q2 <;> intro _)
  all_goals first | rfl | (exfalso; simp_all [vw]; omega) | (exfalso; simp_all [vw]; done) | (simp_all [vw, V3]; done)
theorem v_ask4 (n : Nd) (now port fro : Int) (ho : n.own = 1 ∨ n.own = 7 ∨ n.own = 14) : rask4 (vw n) now port fro = V3 (ask4 n now port fro) := by
  unfold rask4 rask4_x3 rask4_x2 rask4_x1 rask4_x0 ask4 ask4_x2 ask4_x1 ask4_x0
  try simp only [vlt, vgt, v_above, v_stands n ho, fun x => v_act5 x now 4 port fro, fun x => v_act6 x now 4 port fro, fun x => v_act7 x now 4 port fro, vset, vsets, v_ask3s, v_ask3t]
  repeat' (apply q1 <;> intro _)
  all_goals (try (first | rfl | (simp_all [vw, V3]; done)))
  all_goals repeat' (apply q2 <;> intro _)
  all_goals first | rfl | (exfalso; simp_all [vw]; omega) | (exfalso; simp_all [vw]; done) | (simp_all [vw, V3]; done)
theorem v_ask5 (n : Nd) (now port fro : Int) (ho : n.own = 1 ∨ n.own = 7 ∨ n.own = 14) : rask5 (vw n) now port fro = V3 (ask5 n now port fro) := by
  unfold rask5 rask5_x1 rask5_x0 ask5 ask5_x0
  try simp only [vlt, vgt, v_above, v_stands n ho, fun x => v_act3 x now 5 port fro, fun x => v_act4 x now 5 port fro, fun x => v_act9 x now 5 port fro, vset, vsets, v_ask3s, v_ask3t]
  repeat' (apply q1 <;> intro _)
  all_goals (try (first | rfl | (simp_all [vw, V3]; done)))
  all_goals repeat' (apply q2 <;> intro _)
  all_goals first | rfl | (exfalso; simp_all [vw]; omega) | (exfalso; simp_all [vw]; done) | (simp_all [vw, V3]; done)
theorem v_ask6 (n : Nd) (now port fro : Int) (ho : n.own = 1 ∨ n.own = 7 ∨ n.own = 14) : rask6 (vw n) now port fro = V3 (ask6 n now port fro) := by
  unfold rask6 rask6_x5 rask6_x4 rask6_x3 rask6_x2 rask6_x1 rask6_x0 ask6 ask6_x3 ask6_x2 ask6_x1 ask6_x0
  try simp only [vlt, vgt, v_above, v_stands n ho, fun x => v_act3 x now 6 port fro, fun x => v_act4 x now 6 port fro, fun x => v_act5 x now 6 port fro, fun x => v_act6 x now 6 port fro, fun x => v_act8 x now 6 port fro, fun x => v_act9 x now 6 port fro, vset, vsets, v_ask3s, v_ask3t]
  repeat' (apply q1 <;> intro _)
  all_goals (try (first | rfl | (simp_all [vw, V3]; done)))
  all_goals repeat' (apply q2 <;> intro _)
  all_goals first | rfl | (exfalso; simp_all [vw]; omega) | (exfalso; simp_all [vw]; done) | (simp_all [vw, V3]; done)
theorem v_ask7 (n : Nd) (now port fro : Int) (ho : n.own = 1 ∨ n.own = 7 ∨ n.own = 14) : rask7 (vw n) now port fro = V3 (ask7 n now port fro) := by
  unfold rask7 rask7_x0 ask7 ask7_x0
  try simp only [vlt, vgt, v_above, v_stands n ho, fun x => v_act2 x now 7 port fro, fun x => v_act9 x now 7 port fro, vset, vsets, v_ask3s, v_ask3t]
  repeat' (apply q1 <;> intro _)
  all_goals (try (first | rfl | (simp_all [vw, V3]; done)))
  all_goals repeat' (apply q2 <;> intro _)
  all_goals first | rfl | (exfalso; simp_all [vw]; omega) | (exfalso; simp_all [vw]; done) | (simp_all [vw, V3]; done)
theorem v_ask8 (n : Nd) (now port fro : Int) (ho : n.own = 1 ∨ n.own = 7 ∨ n.own = 14) : rask8 (vw n) now port fro = V3 (ask8 n now port fro) := by
  unfold rask8 rask8_x0 ask8 ask8_x0
  try simp only [vlt, vgt, v_above, v_stands n ho, fun x => v_act9 x now 8 port fro, fun x => v_act10 x now 8 port fro, vset, vsets, v_ask3s, v_ask3t]
  repeat' (apply q1 <;> intro _)
  all_goals (try (first | rfl | (simp_all [vw, V3]; done)))
  all_goals repeat' (apply q2 <;> intro _)
  all_goals first | rfl | (exfalso; simp_all [vw]; omega) | (exfalso; simp_all [vw]; done) | (simp_all [vw, V3]; done)
theorem v_ask10 (n : Nd) (now port fro : Int) (ho : n.own = 1 ∨ n.own = 7 ∨ n.own = 14) : rask10 (vw n) now port fro = V3 (ask10 n now port fro) := by
  unfold rask10 rask10_x0 ask10 ask10_x0
  try simp only [vlt, vgt, v_above, v_stands n ho, fun x => v_act9 x now 10 port fro, fun x => v_act10 x now 10 port fro, vset, vsets, v_ask3s, v_ask3t]
  repeat' (apply q1 <;> intro _)
  all_goals (try (first | rfl | (simp_all [vw, V3]; done)))
  all_goals repeat' (apply q2 <;> intro _)
  all_goals first | rfl | (exfalso; simp_all [vw]; omega) | (exfalso; simp_all [vw]; done) | (simp_all [vw, V3]; done)
theorem v_ask12 (n : Nd) (now port fro : Int) (ho : n.own = 1 ∨ n.own = 7 ∨ n.own = 14) : rask12 (vw n) now port fro = V3 (ask12 n now port fro) := by
  unfold rask12 ask12
  try simp only [vlt, vgt, v_above, v_stands n ho, fun x => v_act11 x now 12 port fro, vset, vsets, v_ask3s, v_ask3t]
  repeat' (apply q1 <;> intro _)
  all_goals (try (first | rfl | (simp_all [vw, V3]; done)))
  all_goals repeat' (apply q2 <;> intro _)
  all_goals first | rfl | (exfalso; simp_all [vw]; omega) | (exfalso; simp_all [vw]; done) | (simp_all [vw, V3]; done)
theorem v_ask13 (n : Nd) (now port fro : Int) (ho : n.own = 1 ∨ n.own = 7 ∨ n.own = 14) : rask13 (vw n) now port fro = V3 (ask13 n now port fro) := by
  unfold rask13 rask13_x8 rask13_x7 rask13_x6 rask13_x5 rask13_x4 rask13_x3 rask13_x2 rask13_x1 rask13_x0 ask13 ask13_x5 ask13_x4 ask13_x3 ask13_x2 ask13_x1 ask13_x0
  try simp only [vlt, vgt, v_above, v_stands n ho, fun x => v_act7 x now 13 port fro, fun x => v_act8 x now 13 port fro, fun x => v_act12 x now 13 port fro, vset, vsets, v_ask3s, v_ask3t]
  repeat' (apply q1 <;> intro _)
  all_goals (try (first | rfl | (simp_all [vw, V3]; done)))
  all_goals repeat' (apply q2 <;> intro _)
  all_goals first | rfl | (exfalso; simp_all [vw]; omega) | (exfalso; simp_all [vw]; done) | (simp_all [vw, V3]; done)
theorem v_ask14 (n : Nd) (now port fro : Int) (ho : n.own = 1 ∨ n.own = 7 ∨ n.own = 14) : rask14 (vw n) now port fro = V3 (ask14 n now port fro) := by
  unfold rask14 ask14
  try simp only [vlt, vgt, v_above, v_stands n ho, vset, vsets, v_ask3s, v_ask3t]
  repeat' (apply q1 <;> intro _)
  all_goals (try (first | rfl | (simp_all [vw, V3]; done)))
  all_goals repeat' (apply q2 <;> intro _)
  all_goals first | rfl | (exfalso; simp_all [vw]; omega) | (exfalso; simp_all [vw]; done) | (simp_all [vw, V3]; done)
end Go.Proofs.E17

namespace Go.Proofs.E17
open Go Go.AX Go.Proofs
set_option maxRecDepth 1000000
set_option linter.unusedVariables false
set_option linter.unusedSimpArgs false
set_option maxHeartbeats 4000000
def V2 {A : Type} (r : Nd × A) : RNd × A := (vw r.1, r.2)
def OwnOk (n : Nd) : Prop := n.own = 1 ∨ n.own = 7 ∨ n.own = 14

theorem v_of (m : Msg) : rof m = reqOf m := rfl
theorem v_order (n : Nd) (now k port : Int) (ho : OwnOk n) : rorder (vw n) now k port = V2 (order n now k port) := by
  unfold rorder order
  simp only [v_ask0 n now port 0 ho, v_ask1 n now 0 0 ho, v_ask1 n now 1 0 ho, v_ask7 n now 0 0 ho, v_ask7 n now 1 0 ho, V3]
  have e0 : (k != 0) = !(k == 0) := rfl
  have e1 : (k != 1) = !(k == 1) := rfl
  have e7 : (k != 7) = !(k == 7) := rfl
  have p0 : (port != 0) = !(port == 0) := rfl
  have p1 : (port != 1) = !(port == 1) := rfl
  rw [e0, e1, e7, p0, p1]
  by_cases h0 : k = 0
  · subst h0; cases (ask0 n now port 0).2.2 <;> rfl
  · rw [beq_eq_false_iff_ne.2 h0]
    cases k == 1 <;> cases k == 7 <;> cases port == 0 <;> cases port == 1 <;> cases (ask1 n now 0 0).2.2 <;> cases (ask1 n now 1 0).2.2 <;> cases (ask7 n now 0 0).2.2 <;> cases (ask7 n now 1 0).2.2 <;> rfl

theorem v_badw (n : Nd) (b : Bool) : ({ vw n with bad := { (vw n).bad with w := b } } : RNd) = vw { n with bad := { n.bad with w := b } } := rfl
theorem v_bade (n : Nd) (b : Bool) : ({ vw n with bad := { (vw n).bad with e := b } } : RNd) = vw { n with bad := { n.bad with e := b } } := rfl
theorem v_fault (n : Nd) (now port : Int) (bad : Bool) (ho : OwnOk n) : rfault (vw n) now port bad = V2 (fault n now port bad) := by
  unfold rfault rfault_x0 rfault_x1 rfault_x2 rfault_x3 fault fault_x0 fault_x1 fault_x2 fault_x3
  simp only [v_badw, v_bade]
  rw [v_ask3 { n with bad := { n.bad with w := bad } } _ _ _ ho, v_ask3 { n with bad := { n.bad with e := bad } } _ _ _ ho, v_ask4 { n with bad := { n.bad with w := bad } } _ _ _ ho, v_ask4 { n with bad := { n.bad with e := bad } } _ _ _ ho]
  have p0 : (port != 0) = !(port == 0) := rfl
  have p1 : (port != 1) = !(port == 1) := rfl
  rw [p0, p1]
  obtain ⟨me, role, rpl, rev, gu, re, wa, st, sh, ⟨bw, be⟩, own, bk, pa, sa, bu⟩ := n
  cases port == 0 <;> cases port == 1 <;> cases bad <;> cases bw <;> cases be <;> rfl

theorem v_pair (n : Nd) (p : P2) : ({ vw n with pairs := p } : RNd) = vw { n with pairs := p } := rfl
theorem v_hear (n : Nd) (now port : Int) (m : Msg) (ho : OwnOk n) : rhear (vw n) now port m = V2 (hear n now port m) := by
  unfold rhear rhear_x0 rhear_x1 rhear_x2 rhear_x3 rhear_x4 rhear_x5 rhear_x6 rhear_x7 rhear_x8 rhear_x9 rhear_x10 rhear_x11 hear hear_x0 hear_x1 hear_x2 hear_x3 hear_x4 hear_x5 hear_x6 hear_x7 hear_x8 hear_x9 hear_x10 hear_x11
  simp only [v_pairs, v_of, show (vw n).pairs = n.pairs from rfl, v_pair]
  have h2 := fun p q a b => v_ask2 { n with pairs := p } q a b ho
  have h5 := fun p q a b => v_ask5 { n with pairs := p } q a b ho
  have h6 := fun p q a b => v_ask6 { n with pairs := p } q a b ho
  have h12 := fun p q a b => v_ask12 { n with pairs := p } q a b ho
  have h13 := fun p q a b => v_ask13 { n with pairs := p } q a b ho
  have h14 := fun p q a b => v_ask14 { n with pairs := p } q a b ho
  simp only [h2, h5, h6, h12, h13, h14]
  have p0 : (port != 0) = !(port == 0) := rfl
  have p1 : (port != 1) = !(port == 1) := rfl
  have r0 : rruns0 (vw n).bank = decide (n.bank.g > 0) := rfl
  rw [p0, p1, r0, show (vw n).me = n.me from rfl]
  have key : ∀ (a : Nd × Bool × Bool) (t : Bool), (bif (V3 a).2.1 then ((V3 a).1, true) else ((V3 a).1, t)) = V2 (bif t then (a.1, true) else (a.1, a.2.1)) := by
    intro a t; cases h : a.2.1 <;> cases t <;> simp [V3, V2, h]
  simp only [key]
  cases port == 0 <;> cases port == 1 <;> cases m.node == n.me <;> cases decide (n.bank.g > 0) <;> cases reqOf m == 2 <;> cases reqOf m == 5 <;> cases reqOf m == 6 <;> cases reqOf m == 12 <;> cases reqOf m == 13 <;> rfl
end Go.Proofs.E17

namespace Go.Proofs.E17
open Go Go.AX Go.Proofs
set_option maxRecDepth 1000000
set_option linter.unusedVariables false
set_option linter.unusedSimpArgs false
set_option maxHeartbeats 4000000
structure PI (n : Nd) : Prop where
  role : RoleOk n
  own : OwnOk n
  bk : BkOk n.bank
  said : 0 ≤ n.burst.said ∧ n.burst.said ≤ 3

theorem pi_set {x : Nd} (h : PI x) (s : Int) : PI { x with state := s, own := 14 } := ⟨h.role, .inr (.inr rfl), h.bk, h.said⟩
theorem pi_set1 {x : Nd} (h : PI x) (s : Int) : PI { x with state := s, own := 1 } := ⟨h.role, .inl rfl, h.bk, h.said⟩
theorem pi_set7 {x : Nd} (h : PI x) (s : Int) : PI { x with state := s, own := 7 } := ⟨h.role, .inr (.inl rfl), h.bk, h.said⟩
theorem pi_st {x : Nd} (h : PI x) (s : Int) : PI { x with state := s } := ⟨h.role, h.own, h.bk, h.said⟩
theorem pi_shut {x : Nd} (h : PI x) (s : B2) : PI { x with shut := s } := ⟨h.role, h.own, h.bk, h.said⟩
theorem pi_bad {x : Nd} (h : PI x) (s : B2) : PI { x with bad := s } := ⟨h.role, h.own, h.bk, h.said⟩
theorem pi_pairs {x : Nd} (h : PI x) (s : P2) : PI { x with pairs := s } := ⟨h.role, h.own, h.bk, h.said⟩
theorem pi_says {n : Nd} (h : PI n) (now : Int) (m : Msg) : PI (says n now m) := ⟨h.role, h.own, h.bk, by show (0 : Int) ≤ 0 ∧ (0 : Int) ≤ 3; decide⟩
theorem pi_silence {n : Nd} (h : PI n) : PI (silence n) := ⟨h.role, h.own, h.bk, by show (0 : Int) ≤ 0 ∧ (0 : Int) ≤ 3; decide⟩
theorem pi_take {n : Nd} (h : PI n) (now port : Int) (m : Msg) (bad : Bool) : PI (take n now port m bad).1 := by
  let G : Nd × Bool → Prop := fun r => PI r.1
  show G (take n now port m bad)
  unfold take take_x0 take_x1 take_x2 take_x3
  repeat' (first | (refine byIte (fun _ => ?_) (fun _ => ?_)) | exact pi_says (pi_shut h _) _ _)
theorem pi_openSound {n : Nd} (h : PI n) : PI (openSound n) := by
  unfold openSound
  repeat' (first | (refine byIte (fun _ => ?_) (fun _ => ?_)) | exact pi_shut h _)
theorem pi_start0 {n : Nd} (h : PI n) (now len : Int) : PI (start0 n now len) := by
  unfold start0
  refine byIte (fun _ => h) (fun hc => ?_)
  obtain ⟨d, e1, e2, e3⟩ := v_due now len hc
  simp only [e1, e3]
  exact ⟨h.role, h.own, ⟨by show 0 ≤ (if _ < d then _ else d) + 1 ∧ (if _ < d then _ else d) + 1 ≤ _; split <;> omega, h.bk.2⟩, h.said⟩
theorem pi_start1 {n : Nd} (h : PI n) (now len : Int) : PI (start1 n now len) := by
  unfold start1
  refine byIte (fun _ => h) (fun hc => ?_)
  obtain ⟨d, e1, e2, e3⟩ := v_due now len hc
  simp only [e1, e3]
  exact ⟨h.role, h.own, ⟨h.bk.1, by show 0 ≤ (if _ < d then _ else d) + 1 ∧ (if _ < d then _ else d) + 1 ≤ _; split <;> omega, h.bk.2.2⟩, h.said⟩
theorem pi_start2 {n : Nd} (h : PI n) (now len : Int) : PI (start2 n now len) := by
  unfold start2
  refine byIte (fun _ => h) (fun hc => ?_)
  obtain ⟨d, e1, e2, e3⟩ := v_due now len hc
  simp only [e1, e3]
  exact ⟨h.role, h.own, ⟨h.bk.1, h.bk.2.1, by show 0 ≤ (if _ < d then _ else d) + 1 ∧ (if _ < d then _ else d) + 1 ≤ _; split <;> omega⟩, h.said⟩
section
variable {n : Nd} (h : PI n) (now k port fro : Int)
include h
theorem pi_do0 : PI (do0 n now k port fro).1 := pi_take h _ _ _ _
theorem pi_do1 : PI (do1 n now k port fro).1 := pi_take h _ _ _ _
theorem pi_do2 : PI (do2 n now k port fro).1 := pi_take h _ _ _ _
theorem pi_do3 : PI (do3 n now k port fro) := pi_openSound h
theorem pi_do4 : PI (do4 n now k port fro) := pi_silence h
theorem pi_do5 : PI (do5 n now k port fro) := pi_start0 h _ _
theorem pi_do6 : PI (do6 n now k port fro) := by
  unfold do6 do6_x0
  exact byIte (fun _ => pi_says h _ _) (fun _ => pi_says h _ _)
theorem pi_do7 : PI (do7 n now k port fro) := by
  unfold do7 waitFor1
  exact byIte (fun _ => pi_start1 h _ _) (fun _ => h)
theorem pi_do8 : PI (do8 n now k port fro) := by
  unfold do8 waitFor2
  exact byIte (fun _ => pi_start2 h _ _) (fun _ => h)
theorem pi_do9 : PI (do9 n now k port fro) := ⟨h.role, h.own, ⟨h.bk.1, by show (0 : Int) ≤ 0 ∧ (0 : Int) ≤ _; decide, by show (0 : Int) ≤ 0 ∧ (0 : Int) ≤ _; decide⟩, h.said⟩
theorem pi_do10 : PI (do10 n now k port fro).1 := pi_take h _ _ _ _
theorem pi_do11 : PI (do11 n now k port fro) := by
  unfold do11 homeFar homeFar_x0 homeFar_x1
  repeat' (first | (refine byIte (fun _ => ?_) (fun _ => ?_)) | exact pi_silence (pi_shut (pi_openSound h) _) | exact pi_silence (pi_openSound h))
theorem pi_do12 : PI (do12 n now k port fro) := by
  unfold do12
  exact byIte (fun _ => h) (fun _ => pi_silence (pi_openSound h))
theorem pi_do13 : PI (do13 n now k port fro) := pi_shut h _
end
theorem pi_ask3 {n : Nd} (h : PI n) (now port fro : Int) : PI (ask3 n now port fro).1 := by
  let G : Nd × Bool × Bool → Prop := fun r => PI r.1
  show G (ask3 n now port fro)
  unfold ask3 ask3_x0
  repeat' (refine byIte (fun _ => ?_) (fun _ => ?_))
  all_goals show PI _
  all_goals repeat' (with_reducible first | exact h | apply pi_do0 | apply pi_do1 | apply pi_do2 | apply pi_do3 | apply pi_do4 | apply pi_do5 | apply pi_do6 | apply pi_do7 | apply pi_do8 | apply pi_do9 | apply pi_do10 | apply pi_do11 | apply pi_do12 | apply pi_do13 | apply pi_set | apply pi_set1 | apply pi_set7 | apply pi_pairs | apply pi_bad | apply pi_st)
theorem pi_ask0 {n : Nd} (h : PI n) (now port fro : Int) : PI (ask0 n now port fro).1 := by
  let G : Nd × Bool × Bool → Prop := fun r => PI r.1
  show G (ask0 n now port fro)
  unfold ask0 ask0_x3 ask0_x2 ask0_x1 ask0_x0
  repeat' (refine byIte (fun _ => ?_) (fun _ => ?_))
  all_goals show PI _
  all_goals repeat' (with_reducible first | exact h | apply pi_do0 | apply pi_do1 | apply pi_do2 | apply pi_do3 | apply pi_do4 | apply pi_do5 | apply pi_do6 | apply pi_do7 | apply pi_do8 | apply pi_do9 | apply pi_do10 | apply pi_do11 | apply pi_do12 | apply pi_do13 | apply pi_ask3 | apply pi_set | apply pi_set1 | apply pi_set7 | apply pi_pairs | apply pi_bad | apply pi_st)
theorem pi_ask1 {n : Nd} (h : PI n) (now port fro : Int) : PI (ask1 n now port fro).1 := by
  let G : Nd × Bool × Bool → Prop := fun r => PI r.1
  show G (ask1 n now port fro)
  unfold ask1 ask1_x0
  repeat' (refine byIte (fun _ => ?_) (fun _ => ?_))
  all_goals show PI _
  all_goals repeat' (with_reducible first | exact h | apply pi_do0 | apply pi_do1 | apply pi_do2 | apply pi_do3 | apply pi_do4 | apply pi_do5 | apply pi_do6 | apply pi_do7 | apply pi_do8 | apply pi_do9 | apply pi_do10 | apply pi_do11 | apply pi_do12 | apply pi_do13 | apply pi_ask3 | apply pi_set | apply pi_set1 | apply pi_set7 | apply pi_pairs | apply pi_bad | apply pi_st)
theorem pi_ask2 {n : Nd} (h : PI n) (now port fro : Int) : PI (ask2 n now port fro).1 := by
  let G : Nd × Bool × Bool → Prop := fun r => PI r.1
  show G (ask2 n now port fro)
  unfold ask2 ask2_x0
  repeat' (refine byIte (fun _ => ?_) (fun _ => ?_))
  all_goals show PI _
  all_goals repeat' (with_reducible first | exact h | apply pi_do0 | apply pi_do1 | apply pi_do2 | apply pi_do3 | apply pi_do4 | apply pi_do5 | apply pi_do6 | apply pi_do7 | apply pi_do8 | apply pi_do9 | apply pi_do10 | apply pi_do11 | apply pi_do12 | apply pi_do13 | apply pi_ask3 | apply pi_set | apply pi_set1 | apply pi_set7 | apply pi_pairs | apply pi_bad | apply pi_st)
theorem pi_ask4 {n : Nd} (h : PI n) (now port fro : Int) : PI (ask4 n now port fro).1 := by
  let G : Nd × Bool × Bool → Prop := fun r => PI r.1
  show G (ask4 n now port fro)
  unfold ask4 ask4_x2 ask4_x1 ask4_x0
  repeat' (refine byIte (fun _ => ?_) (fun _ => ?_))
  all_goals show PI _
  all_goals repeat' (with_reducible first | exact h | apply pi_do0 | apply pi_do1 | apply pi_do2 | apply pi_do3 | apply pi_do4 | apply pi_do5 | apply pi_do6 | apply pi_do7 | apply pi_do8 | apply pi_do9 | apply pi_do10 | apply pi_do11 | apply pi_do12 | apply pi_do13 | apply pi_ask3 | apply pi_set | apply pi_set1 | apply pi_set7 | apply pi_pairs | apply pi_bad | apply pi_st)
theorem pi_ask5 {n : Nd} (h : PI n) (now port fro : Int) : PI (ask5 n now port fro).1 := by
  let G : Nd × Bool × Bool → Prop := fun r => PI r.1
  show G (ask5 n now port fro)
  unfold ask5 ask5_x0
  repeat' (refine byIte (fun _ => ?_) (fun _ => ?_))
  all_goals show PI _
  all_goals repeat' (with_reducible first | exact h | apply pi_do0 | apply pi_do1 | apply pi_do2 | apply pi_do3 | apply pi_do4 | apply pi_do5 | apply pi_do6 | apply pi_do7 | apply pi_do8 | apply pi_do9 | apply pi_do10 | apply pi_do11 | apply pi_do12 | apply pi_do13 | apply pi_ask3 | apply pi_set | apply pi_set1 | apply pi_set7 | apply pi_pairs | apply pi_bad | apply pi_st)
theorem pi_ask6 {n : Nd} (h : PI n) (now port fro : Int) : PI (ask6 n now port fro).1 := by
  let G : Nd × Bool × Bool → Prop := fun r => PI r.1
  show G (ask6 n now port fro)
  unfold ask6 ask6_x3 ask6_x2 ask6_x1 ask6_x0
  repeat' (refine byIte (fun _ => ?_) (fun _ => ?_))
  all_goals show PI _
  all_goals repeat' (with_reducible first | exact h | apply pi_do0 | apply pi_do1 | apply pi_do2 | apply pi_do3 | apply pi_do4 | apply pi_do5 | apply pi_do6 | apply pi_do7 | apply pi_do8 | apply pi_do9 | apply pi_do10 | apply pi_do11 | apply pi_do12 | apply pi_do13 | apply pi_ask3 | apply pi_set | apply pi_set1 | apply pi_set7 | apply pi_pairs | apply pi_bad | apply pi_st)
theorem pi_ask7 {n : Nd} (h : PI n) (now port fro : Int) : PI (ask7 n now port fro).1 := by
  let G : Nd × Bool × Bool → Prop := fun r => PI r.1
  show G (ask7 n now port fro)
  unfold ask7 ask7_x0
  repeat' (refine byIte (fun _ => ?_) (fun _ => ?_))
  all_goals show PI _
  all_goals repeat' (with_reducible first | exact h | apply pi_do0 | apply pi_do1 | apply pi_do2 | apply pi_do3 | apply pi_do4 | apply pi_do5 | apply pi_do6 | apply pi_do7 | apply pi_do8 | apply pi_do9 | apply pi_do10 | apply pi_do11 | apply pi_do12 | apply pi_do13 | apply pi_ask3 | apply pi_set | apply pi_set1 | apply pi_set7 | apply pi_pairs | apply pi_bad | apply pi_st)
theorem pi_ask8 {n : Nd} (h : PI n) (now port fro : Int) : PI (ask8 n now port fro).1 := by
  let G : Nd × Bool × Bool → Prop := fun r => PI r.1
  show G (ask8 n now port fro)
  unfold ask8 ask8_x0
  repeat' (refine byIte (fun _ => ?_) (fun _ => ?_))
  all_goals show PI _
  all_goals repeat' (with_reducible first | exact h | apply pi_do0 | apply pi_do1 | apply pi_do2 | apply pi_do3 | apply pi_do4 | apply pi_do5 | apply pi_do6 | apply pi_do7 | apply pi_do8 | apply pi_do9 | apply pi_do10 | apply pi_do11 | apply pi_do12 | apply pi_do13 | apply pi_ask3 | apply pi_set | apply pi_set1 | apply pi_set7 | apply pi_pairs | apply pi_bad | apply pi_st)
theorem pi_ask10 {n : Nd} (h : PI n) (now port fro : Int) : PI (ask10 n now port fro).1 := by
  let G : Nd × Bool × Bool → Prop := fun r => PI r.1
  show G (ask10 n now port fro)
  unfold ask10 ask10_x0
  repeat' (refine byIte (fun _ => ?_) (fun _ => ?_))
  all_goals show PI _
  all_goals repeat' (with_reducible first | exact h | apply pi_do0 | apply pi_do1 | apply pi_do2 | apply pi_do3 | apply pi_do4 | apply pi_do5 | apply pi_do6 | apply pi_do7 | apply pi_do8 | apply pi_do9 | apply pi_do10 | apply pi_do11 | apply pi_do12 | apply pi_do13 | apply pi_ask3 | apply pi_set | apply pi_set1 | apply pi_set7 | apply pi_pairs | apply pi_bad | apply pi_st)
theorem pi_ask12 {n : Nd} (h : PI n) (now port fro : Int) : PI (ask12 n now port fro).1 := by
  let G : Nd × Bool × Bool → Prop := fun r => PI r.1
  show G (ask12 n now port fro)
  unfold ask12
  repeat' (refine byIte (fun _ => ?_) (fun _ => ?_))
  all_goals show PI _
  all_goals repeat' (with_reducible first | exact h | apply pi_do0 | apply pi_do1 | apply pi_do2 | apply pi_do3 | apply pi_do4 | apply pi_do5 | apply pi_do6 | apply pi_do7 | apply pi_do8 | apply pi_do9 | apply pi_do10 | apply pi_do11 | apply pi_do12 | apply pi_do13 | apply pi_ask3 | apply pi_set | apply pi_set1 | apply pi_set7 | apply pi_pairs | apply pi_bad | apply pi_st)
theorem pi_ask13 {n : Nd} (h : PI n) (now port fro : Int) : PI (ask13 n now port fro).1 := by
  let G : Nd × Bool × Bool → Prop := fun r => PI r.1
  show G (ask13 n now port fro)
  unfold ask13 ask13_x5 ask13_x4 ask13_x3 ask13_x2 ask13_x1 ask13_x0
  repeat' (refine byIte (fun _ => ?_) (fun _ => ?_))
  all_goals show PI _
  all_goals repeat' (with_reducible first | exact h | apply pi_do0 | apply pi_do1 | apply pi_do2 | apply pi_do3 | apply pi_do4 | apply pi_do5 | apply pi_do6 | apply pi_do7 | apply pi_do8 | apply pi_do9 | apply pi_do10 | apply pi_do11 | apply pi_do12 | apply pi_do13 | apply pi_ask3 | apply pi_set | apply pi_set1 | apply pi_set7 | apply pi_pairs | apply pi_bad | apply pi_st)
theorem pi_ask14 {n : Nd} (h : PI n) (now port fro : Int) : PI (ask14 n now port fro).1 := by
  let G : Nd × Bool × Bool → Prop := fun r => PI r.1
  show G (ask14 n now port fro)
  unfold ask14
  repeat' (refine byIte (fun _ => ?_) (fun _ => ?_))
  all_goals show PI _
  all_goals repeat' (with_reducible first | exact h | apply pi_do0 | apply pi_do1 | apply pi_do2 | apply pi_do3 | apply pi_do4 | apply pi_do5 | apply pi_do6 | apply pi_do7 | apply pi_do8 | apply pi_do9 | apply pi_do10 | apply pi_do11 | apply pi_do12 | apply pi_do13 | apply pi_ask3 | apply pi_set | apply pi_set1 | apply pi_set7 | apply pi_pairs | apply pi_bad | apply pi_st)
theorem pi_order {n : Nd} (h : PI n) (now k port : Int) : PI (order n now k port).1 := by
  let G : Nd × Bool × Int → Prop := fun r => PI r.1
  show G (order n now k port)
  unfold order
  repeat' (refine byIte (fun _ => ?_) (fun _ => ?_))
  all_goals show PI _
  all_goals repeat' (with_reducible first | exact h | apply pi_ask3 | apply pi_ask0 | apply pi_ask1 | apply pi_ask2 | apply pi_ask4 | apply pi_ask5 | apply pi_ask6 | apply pi_ask7 | apply pi_ask8 | apply pi_ask10 | apply pi_ask12 | apply pi_ask13 | apply pi_ask14 | apply pi_set | apply pi_set1 | apply pi_set7 | apply pi_pairs | apply pi_bad | apply pi_st)
theorem pi_fault {n : Nd} (h : PI n) (now port : Int) (bad : Bool) : PI (fault n now port bad).1 := by
  let G : Nd × Bool → Prop := fun r => PI r.1
  show G (fault n now port bad)
  unfold fault fault_x3 fault_x2 fault_x1 fault_x0
  repeat' (refine byIte (fun _ => ?_) (fun _ => ?_))
  all_goals show PI _
  all_goals repeat' (with_reducible first | exact h | apply pi_ask3 | apply pi_ask0 | apply pi_ask1 | apply pi_ask2 | apply pi_ask4 | apply pi_ask5 | apply pi_ask6 | apply pi_ask7 | apply pi_ask8 | apply pi_ask10 | apply pi_ask12 | apply pi_ask13 | apply pi_ask14 | apply pi_set | apply pi_set1 | apply pi_set7 | apply pi_pairs | apply pi_bad | apply pi_st)
theorem pi_hear {n : Nd} (h : PI n) (now port : Int) (m : Msg) : PI (hear n now port m).1 := by
  let G : Nd × Bool → Prop := fun r => PI r.1
  show G (hear n now port m)
  unfold hear hear_x11 hear_x10 hear_x9 hear_x8 hear_x7 hear_x6 hear_x5 hear_x4 hear_x3 hear_x2 hear_x1 hear_x0
  repeat' (refine byIte (fun _ => ?_) (fun _ => ?_))
  all_goals show PI _
  all_goals repeat' (with_reducible first | exact h | apply pi_ask3 | apply pi_ask0 | apply pi_ask1 | apply pi_ask2 | apply pi_ask4 | apply pi_ask5 | apply pi_ask6 | apply pi_ask7 | apply pi_ask8 | apply pi_ask10 | apply pi_ask12 | apply pi_ask13 | apply pi_ask14 | apply pi_set | apply pi_set1 | apply pi_set7 | apply pi_pairs | apply pi_bad | apply pi_st)
end Go.Proofs.E17

namespace Go.Proofs.E17
open Go Go.AX Go.Proofs
set_option maxRecDepth 1000000
set_option linter.unusedVariables false
set_option linter.unusedSimpArgs false
set_option maxHeartbeats 4000000

theorem z0 : (0 : Int) ≤ 0 ∧ (0 : Int) ≤ 1099511627777 := by decide
def PopB (b : Bk) (r : Int × Bk × Bool) : Prop := BkOk b → BkOk r.2.1
theorem pop_ok (b : Bk) (now : Int) (h : BkOk b) : BkOk (timerPop b now).2.1 := by
  let G : Int × Bk × Bool → Prop := fun r => BkOk r.2.1
  show G (timerPop b now)
  unfold timerPop
  repeat' (refine byIte (fun _ => ?_) (fun _ => ?_))
  all_goals first | exact h | exact ⟨z0, h.2⟩ | exact ⟨h.1, z0, h.2.2⟩ | exact ⟨h.1, h.2.1, z0⟩
theorem pop_name (b : Bk) (now : Int) : (timerPop b now).1 = -1 ∨ (timerPop b now).1 = 0 ∨ (timerPop b now).1 = 1 ∨ (timerPop b now).1 = 2 := by
  let G : Int × Bk × Bool → Prop := fun r => r.1 = -1 ∨ r.1 = 0 ∨ r.1 = 1 ∨ r.1 = 2
  show G (timerPop b now)
  unfold timerPop
  repeat' (refine byIte (fun _ => ?_) (fun _ => ?_))
  all_goals first | exact .inl rfl | exact .inr (.inl rfl) | exact .inr (.inr (.inl rfl)) | exact .inr (.inr (.inr rfl))
theorem pi_bank {n : Nd} (h : PI n) {b : Bk} (hb : BkOk b) : PI { n with bank := b } := ⟨h.role, h.own, hb, h.said⟩

theorem pi_tickL {n : Nd} (h : PI n) (now : Int) (emp : Bool) : PI (tickL now (n, emp)).2.1 := by
  let G : Bool × Nd × Bool → Prop := fun r => PI r.2.1
  show G (tickL now (n, emp))
  have hb := pi_bank h (pop_ok n.bank now h.bk)
  unfold tickL tickL_s tickL_x0 tickL_x1
  repeat' (refine byIte (fun _ => ?_) (fun _ => ?_))
  all_goals first | exact h | exact pi_ask8 hb _ _ _ | exact pi_ask10 hb _ _ _ | exact hb

def VL (i : Int) (r : Bool × Nd × Bool) : Bool × Int × RNd × Bool := (r.1, bif r.1 then i + 1 else i, vw r.2.1, r.2.2)
theorem v_bank (n : Nd) (b : Bk) : ({ vw n with bank := vb b } : RNd) = vw { n with bank := b } := rfl
theorem v_tickL (now i : Int) (n : Nd) (emp : Bool) (h : PI n) : rtickL now (i, vw n, emp) = VL i (tickL now (n, emp)) := by
  show rtickL_s now i (vw n) emp = VL i (tickL_s now n emp)
  unfold rtickL_s rtickL_x0 rtickL_x1 tickL_s tickL_x0 tickL_x1
  have hp : rpop (vw n).bank now = ((timerPop n.bank now).1, vb (timerPop n.bank now).2.1, (timerPop n.bank now).2.2) := v_pop n.bank now h.bk
  rw [hp]
  simp only [v_bank]
  rw [v_ask8 { n with bank := (timerPop n.bank now).2.1 } now 0 0 h.own, v_ask10 { n with bank := (timerPop n.bank now).2.1 } now 0 0 h.own]
  have hn := pop_name n.bank now
  generalize timerPop n.bank now = q at *
  obtain ⟨nm, b, ok⟩ := q
  simp only at hn ⊢
  cases ok
  · rfl
  · rcases hn with rfl | rfl | rfl | rfl
    · rfl
    · rfl
    · cases emp
      · show (true, i + 1, _, _) = VL i (bif _ then _ else _)
        cases h : (ask8 { n with bank := b } now 0 0).2.1 <;> simp [VL, V3, h]
      · show (true, i + 1, _, _) = VL i (bif _ then _ else _)
        cases h : (ask8 { n with bank := b } now 0 0).2.1 <;> simp [VL, V3, h]
    · cases emp
      · show (true, i + 1, _, _) = VL i (bif _ then _ else _)
        cases h : (ask10 { n with bank := b } now 0 0).2.1 <;> simp [VL, V3, h]
      · show (true, i + 1, _, _) = VL i (bif _ then _ else _)
        cases h : (ask10 { n with bank := b } now 0 0).2.1 <;> simp [VL, V3, h]

theorem v_steps (now : Int) : ∀ (N : Nat) (i : Int) (n : Nd) (emp : Bool), PI n → ∃ j, stepsN (rtickL now) N (i, vw n, emp) = (j, vw (stepsN (tickL now) N (n, emp)).1, (stepsN (tickL now) N (n, emp)).2) ∧ PI (stepsN (tickL now) N (n, emp)).1
  | 0, i, n, emp, h => by
    unfold stepsN
    rw [v_tickL now i n emp h]
    exact ⟨_, rfl, pi_tickL h now emp⟩
  | N + 1, i, n, emp, h => by
    unfold stepsN
    rw [v_tickL now i n emp h]
    have h2 := pi_tickL h now emp
    cases hb : (tickL now (n, emp)).1 with
    | false => exact ⟨_, by simp only [VL, hb, cond_false]; rfl, by simpa only [cond_false] using h2⟩
    | true =>
      obtain ⟨j, e1, e2⟩ := v_steps now N (i + 1) (tickL now (n, emp)).2.1 (tickL now (n, emp)).2.2 h2
      exact ⟨j, by simp only [VL, hb, cond_true]; exact e1, by simpa only [cond_true] using e2⟩

def rcnt (b : RBk) : Nat := (bif b.runs.g then 1 else 0) + ((bif b.runs.r then 1 else 0) + (bif b.runs.w then 1 else 0))
theorem rcnt_vb (b : Bk) : rcnt (vb b) = cnt b := by
  obtain ⟨g, r, w⟩ := b
  unfold rcnt cnt vb
  by_cases h1 : g > 0 <;> by_cases h2 : r > 0 <;> by_cases h3 : w > 0 <;> simp [h1, h2, h3]

theorem rtickL_all (now : Int) (n : RNd) (emp : Bool) (hv : ∃ m : Nd, PI m ∧ n = vw m) : AComes Tryz.prog 0 (loopAt Tryz.prog 51 0) (rtickL_at now (0, n, emp)).1 (rtickL_at now (0, n, emp)).2 (.exit 0) (rtickL_out now (stepsN (rtickL now) 3 (0, n, emp))).1 (rtickL_out now (stepsN (rtickL now) 3 (0, n, emp))).2 := by
  obtain ⟨m, hm, rfl⟩ := hv
  refine rtickL_loop now (fun s => rcnt s.2.1.bank) (fun s => ∃ m : Nd, PI m ∧ s.2.1 = vw m ∧ 0 ≤ s.1 ∧ s.1 + cnt m.bank ≤ 3) ?_ ?_ ?_ 3 (0, vw m, emp) ⟨m, hm, rfl, Int.le_refl 0, by have := cnt_le m.bank; show (0 : Int) + _ ≤ 3; omega⟩ ?_
  · rintro ⟨i, _, e⟩ ⟨m, hm, rfl, h0, h1⟩
    simp only at h0 h1
    exact ⟨⟨h0, by omega⟩, hm.role, hm.own⟩
  · rintro ⟨i, _, e⟩ ⟨m, hm, rfl, h0, h1⟩ hb
    simp only at h0 h1 hb
    rw [v_tickL now i m e hm] at hb ⊢
    have hb' : (tickL now (m, e)).1 = true := hb
    have hlt : cnt (tickL now (m, e)).2.1.bank < cnt m.bank := tick_mu now (m, e) hb'
    refine ⟨_, pi_tickL hm now e, rfl, ?_, ?_⟩
    · show 0 ≤ (bif (tickL now (m, e)).1 then i + 1 else i)
      rw [hb']; show 0 ≤ i + 1; omega
    · show (bif (tickL now (m, e)).1 then i + 1 else i) + _ ≤ 3
      rw [hb']; show i + 1 + (cnt (tickL now (m, e)).2.1.bank : Int) ≤ 3; omega
  · rintro ⟨i, _, e⟩ ⟨m, hm, rfl, h0, h1⟩ hb
    simp only at h0 h1 hb
    rw [v_tickL now i m e hm] at hb ⊢
    have hb' : (tickL now (m, e)).1 = true := hb
    have hlt : cnt (tickL now (m, e)).2.1.bank < cnt m.bank := tick_mu now (m, e) hb'
    show rcnt (vb (tickL now (m, e)).2.1.bank) < rcnt (vb m.bank)
    rw [rcnt_vb, rcnt_vb]; exact hlt
  · show rcnt (vb m.bank) ≤ 3
    rw [rcnt_vb]; exact cnt_le _

theorem said_tick (b : Burst) (now : Int) (h : 0 ≤ b.said ∧ b.said ≤ 3) : 0 ≤ (burstTick b now).1.said ∧ (burstTick b now).1.said ≤ 3 := by
  rw [← v_burst b now h.1 h.2]
  let G : Burst × Bool → Prop := fun r => 0 ≤ r.1.said ∧ r.1.said ≤ 3
  show G (rburst b now)
  unfold rburst
  rw [w64 (n := b.said + 1) (by omega) (by omega)]
  refine byIte (fun _ => h) (fun _ => ?_)
  refine byIte (fun h1 => ?_) (fun h1 => ?_)
  · rw [zd] at h1; show 0 ≤ b.said + 1 ∧ b.said + 1 ≤ 3; omega
  · rw [zdf] at h1
    refine byIte (fun h2 => ?_) (fun _ => h)
    rw [zd] at h2; show 0 ≤ b.said + 1 ∧ b.said + 1 ≤ 3; omega
theorem pi_tick {n : Nd} (h : PI n) (now : Int) : PI (tick n now).1 := by
  obtain ⟨_, _, h2⟩ := v_steps now 3 0 n false h
  exact ⟨h2.role, h2.own, h2.bk, said_tick _ now h2.said⟩
end Go.Proofs.E17

namespace Go.Proofs.E17
open Go Go.AX Go.Proofs
set_option maxRecDepth 1000000
set_option linter.unusedVariables false
set_option linter.unusedSimpArgs false

def rtick_x0 (n : RNd) (now : Int) : Burst × Bool := rburst (((stepsN (rtickL now) 3 (0, n, false)).2.1).burst) now
def rtick (n : RNd) (now : Int) : RNd × Bool × Bool :=
  ({ ((stepsN (rtickL now) 3 (0, n, false)).2.1) with burst := (rtick_x0 n now).1 }, (rtick_x0 n now).2, (stepsN (rtickL now) 3 (0, n, false)).2.2)
def rtick_c (r : RNd × Bool × Bool) : Dir := .callL (.tuple ⟨[.agg ⟨RNd.enc r.1⟩, .bool r.2.1, .bool r.2.2]⟩) []
def rtick_E (r : RNd × Bool × Bool) : Value := .tuple ⟨[.agg ⟨RNd.enc r.1⟩, .bool r.2.1, .bool r.2.2]⟩
theorem rtick_eq (n : RNd) (now : Int) (hv : ∃ m : Nd, PI m ∧ n = vw m) : AOn Tryz.prog 51 [.agg ⟨RNd.enc n⟩, .int .i64 now] [] (rtick_E (rtick n now)) [] := by
  unfold rtick
  apply onT 400 rtick_E
  apply kL [0, 1] [] [1, 2, 4, 7, 8] o0 (rtickL_all now n false hv)
  apply kk (rburst_eq (((stepsN (rtickL now) 3 (0, n, false)).2.1).burst) now)
  exact kl
  kernel_rfl
  rfl

end Go.Proofs.E17

namespace Go.Proofs.E17
open Go Go.AX Go.Proofs
set_option maxRecDepth 1000000
set_option linter.unusedVariables false
set_option linter.unusedSimpArgs false
set_option maxHeartbeats 4000000

theorem v_tick {n : Nd} (h : PI n) (now : Int) : rtick (vw n) now = V3 (tick n now) := by
  unfold rtick rtick_x0
  obtain ⟨j, e1, e2⟩ := v_steps now 3 0 n false h
  rw [e1]
  show (_, _, _) = V3 (_, _, _)
  have hb : rburst (vw (stepsN (tickL now) 3 (n, false)).1).burst now = burstTick (stepsN (tickL now) 3 (n, false)).1.burst now := v_burst _ now e2.said.1 e2.said.2
  rw [hb]
  rfl
theorem rtick_v {n : Nd} (h : PI n) (now : Int) : AOn Tryz.prog 51 [.agg ⟨RNd.enc (vw n)⟩, .int .i64 now] [] (rtick_E (V3 (tick n now))) [] := v_tick h now ▸ rtick_eq (vw n) now ⟨n, h, rfl⟩
structure PlanW (p : Plan) : Prop where
  nodes : -9223372036854775808 ≤ p.nodes ∧ p.nodes ≤ 9223372036854775807
  data : 0 ≤ p.data
  ring : 0 ≤ p.ring
  hold : -9223372036854775808 ≤ p.hold ∧ p.hold ≤ 9223372036854775807

theorem v_hold (x : Int) (R : Bool) (h : -9223372036854775808 ≤ x ∧ x ≤ 9223372036854775807) :
    (decide (IntKind.wrap .i64 (x + 1) < 1) || (decide (IntKind.wrap .i64 (x + 1) > 1048577) || R)) = (decide (x < 0) || (decide (x > 1048576) || R)) := by
  by_cases hx : x = 9223372036854775807
  · subst hx
    rw [show IntKind.wrap .i64 (9223372036854775807 + 1) = -9223372036854775808 by decide]
    rfl
  · rw [w64 (by omega) (by omega)]
    by_cases h1 : x < 0 <;> by_cases h2 : x > 1048576 <;> simp [h1, h2, show (x + 1 < 1) = (x < 0) by simp; omega, show (x + 1 > 1048577) = (x > 1048576) by simp; omega] <;> omega

theorem v_check {p : Plan} (w : PlanW p) : rcheck p = planCheck p := by
  unfold rcheck planCheck
  rw [v_hold p.hold _ w.hold]
  by_cases h0 : p.nodes < 3
  · simp [h0]
  · have e1 : decide (p.owner > IntKind.wrap .i64 (p.nodes - 1)) = decide (p.owner ≥ p.nodes) := by
      have := w.nodes
      rw [w64 (by omega) (by omega)]
      apply decide_eq_decide.2; omega
    rw [e1]
    have d0 : (p.data == 0) = !decide (p.data ≥ 1) := by
      have := w.data
      by_cases h : p.data = 0
      · simp [h]
      · rw [beq_eq_false_iff_ne.2 h, decide_eq_true (by omega)]; rfl
    have r0 : (p.ring == 0) = !decide (p.ring ≥ 1) := by
      have := w.ring
      by_cases h : p.ring = 0
      · simp [h]
      · rw [beq_eq_false_iff_ne.2 h, decide_eq_true (by omega)]; rfl
    have d1 : decide (p.data > 4094) = !decide (p.data ≤ 4094) := by
      by_cases h : p.data ≤ 4094 <;> simp [h] <;> omega
    have r1 : decide (p.ring > 4094) = !decide (p.ring ≤ 4094) := by
      by_cases h : p.ring ≤ 4094 <;> simp [h] <;> omega
    rw [d0, r0, d1, r1]
    cases decide (p.data ≥ 1) <;> cases decide (p.data ≤ 4094) <;> cases decide (p.ring ≥ 1) <;> cases decide (p.ring ≤ 4094) <;> cases p.data == p.ring <;> rfl

structure PlanOk (p : Plan) : Prop where
  nodes : 3 ≤ p.nodes ∧ p.nodes ≤ 16
  owner : 0 ≤ p.owner ∧ p.owner < p.nodes
  level : p.level ≤ 7
  data : 1 ≤ p.data ∧ p.data ≤ 4094
  ring : 1 ≤ p.ring ∧ p.ring ≤ 4094
  other : p.data ≠ p.ring
  interval : 1 ≤ p.interval ∧ p.interval ≤ 1048576
  guard : 1 ≤ p.guard ∧ p.guard ≤ 1048576
  rest : 1 ≤ p.rest ∧ p.rest ≤ 1048576
  wait : 1 ≤ p.wait ∧ p.wait ≤ 1048576
  gap : 1 ≤ p.gap ∧ p.gap ≤ 1048576
  period : 1 ≤ p.period ∧ p.period ≤ 1048576
  age : 1 ≤ p.age ∧ p.age ≤ 1048576
  hold : 0 ≤ p.hold ∧ p.hold ≤ 1048576
  room : 1 ≤ p.room ∧ p.room ≤ 1024
  queue : 1 ≤ p.queue ∧ p.queue ≤ 256
theorem planCheck_ok {p : Plan} : planCheck p = 0 → PlanOk p := by
  let G : Int → Prop := fun r => r = 0 → PlanOk p
  show G (planCheck p)
  unfold planCheck
  refine byIte (fun _ h => absurd h (by decide)) (fun h1 => ?_)
  refine byIte (fun h2 => ?_) (fun _ h => absurd h (by decide))
  refine byIte (fun _ h => absurd h (by decide)) (fun h3 => ?_)
  refine byIte (fun h4 => ?_) (fun _ h => absurd h (by decide))
  refine byIte (fun _ h => absurd h (by decide)) (fun h5 => ?_)
  refine byIte (fun _ h => absurd h (by decide)) (fun h6 => ?_)
  intro _
  simp only [zor, zand, zorf, zandf, znt, znf, zeq, zne, zeqf, znef, zd, zdf] at *
  constructor <;> omega

theorem v_role {p : Plan} (h : PlanOk p) (hc : planCheck p = 0) (w : PlanW p) (i : Int) (hi : 0 ≤ i ∧ i < p.nodes) :
    rrole p i = bif i == p.owner then (1, 1) else bif i == Int.tmod (IntKind.wrap .i64 (p.owner + 1)) p.nodes then (2, 0) else (0, -1) := by
  have hn := h.nodes
  have ho := h.owner
  have hf : (rfar1 p p.owner).1 = Int.tmod (IntKind.wrap .i64 (p.owner + 1)) p.nodes := by
    unfold rfar1
    rw [v_check w, hc, w64 (n := p.nodes - 1) (by omega) (by omega), w64 (n := p.owner + 1) (by omega) (by omega)]
    rw [show decide (p.owner ≥ 0) = true by simp; omega, show (!decide (p.owner < p.nodes)) = false by simp; omega]
    by_cases e : p.owner = p.nodes - 1
    · rw [e]
      simp only [beq_self_eq_true, Bool.and_self, cond_true, cond_false]
      show (0 : Int) = Int.tmod (p.nodes - 1 + 1) p.nodes
      rw [show p.nodes - 1 + 1 = p.nodes by omega, Int.tmod_self]
    · rw [beq_eq_false_iff_ne.2 e]
      simp only [beq_self_eq_true, Bool.and_self, cond_true, cond_false]
      show p.owner + 1 = Int.tmod (p.owner + 1) p.nodes
      rw [Int.tmod_eq_of_lt (by omega) (by omega)]
  unfold rrole
  rw [v_check w, hc, hf, show decide (i ≥ 0) = true by simp; omega, show decide (i < p.nodes) = true by simp; omega]
  rfl

theorem v_node {p : Plan} (w : PlanW p) (i : Int) : rnode p i = planNode p i := by
  unfold rnode planNode
  rw [v_check w]

theorem burstNew_ok {p : Plan} (h : PlanOk p) : burstNew p.gap p.period = (Burst.mk p.gap p.period 0 false 0, 0) := by
  have h1 := h.gap
  have h2 := h.period
  unfold burstNew
  rw [decide_eq_true (p := p.gap ≥ 1) (by omega), decide_eq_true (p := p.gap ≤ 1048576) (by omega), decide_eq_true (p := p.period ≥ 1) (by omega), decide_eq_true (p := p.period ≤ 1048576) (by omega)]
  rfl

theorem v_new {p : Plan} (w : PlanW p) (i now : Int) : rnew p i now = V2 (erpsNew p i now) := by
  unfold rnew erpsNew
  rw [v_check w]
  cases hc : (planCheck p != 0) with
  | true => rfl
  | false =>
    have hc0 : planCheck p = 0 := by simpa using hc
    have hp := planCheck_ok hc0
    simp only [cond_false]
    cases hr : (decide (i < 0) || (decide (i ≥ p.nodes) || (decide (now < 0) || decide (now > 1099509530624)))) with
    | true => rfl
    | false =>
      simp only [zorf, zdf] at hr
      have hi : 0 ≤ i ∧ i < p.nodes := by omega
      unfold rnew_x1 rnew_x3 rnew_x0 rnew_x2 erpsNew_x1 erpsNew_x3 erpsNew_x5 erpsNew_x0 erpsNew_x2 erpsNew_x4
      rw [v_role hp hc0 w i hi, v_node w, burstNew_ok hp]
      rw [show (!decide (i < p.nodes)) = false by simp; omega]
      simp only [cond_false]
      have hs : ∀ n : Nd, (bif (n.role == 1) && n.revert then ({ vw n with bank := (rstart1 (vw n).bank now (vw n).rest).1 }, (0 : Int)) else (vw n, 0)) = V2 (bif (n.role == 1) && n.revert then (start1 n now n.rest, (0 : Int)) else (n, 0)) := by
        intro n
        cases (n.role == 1) && n.revert with
        | true => show ({ vw n with bank := (rstart1 (vw n).bank now n.rest).1 }, (0 : Int)) = _; rw [v_start1]; rfl
        | false => rfl
      let N (ro rp : Int) (sh : B2) (m : Msg) : Nd := says (Nd.mk (planNode p i) ro rp p.revert p.guard p.rest p.wait 4 sh (B2.mk false false) 14 (Bk.mk 0 0 0) (P2.mk (Pair.mk false false 0) (Pair.mk false false 0)) (Msg.mk 0 false false false 0) (Burst.mk p.gap p.period 0 false 0)) now m
      cases i == p.owner with
      | true => exact hs (N 1 1 (B2.mk false true) (Msg.mk 0 false false true 0))
      | false =>
        cases i == Int.tmod (IntKind.wrap .i64 (p.owner + 1)) p.nodes with
        | true => exact hs (N 2 0 (B2.mk true false) (Msg.mk 0 false false false 0))
        | false => exact hs (N 0 (-1) (B2.mk false true) (Msg.mk 0 false false true 0))
theorem rnew_v {p : Plan} (w : PlanW p) (i now : Int) : AOn Tryz.prog 16 [.agg ⟨Plan.enc p⟩, .int .i64 i, .int .i64 now] [] (rnew_E (V2 (erpsNew p i now))) [] := v_new w i now ▸ rnew_eq p i now

theorem z3 : (0 : Int) ≤ 0 ∧ (0 : Int) ≤ 3 := by decide
theorem pi_new {p : Plan} {i now : Int} (h0 : (erpsNew p i now).2 = 0) : PI (erpsNew p i now).1 := by
  refine ⟨erpsNew_role p i now, ?_, ?_, ?_⟩
  all_goals
    revert h0
    unfold erpsNew erpsNew_x1 erpsNew_x3 erpsNew_x5 erpsNew_x0 erpsNew_x2 erpsNew_x4
  · let G : Nd × Int → Prop := fun r => r.2 = 0 → OwnOk r.1
    show G _
    refine byIte (fun h h' => absurd h' (by simpa using h)) (fun hc => ?_)
    refine byIte (fun _ h' => absurd h' (by decide)) (fun _ => ?_)
    refine byIte (fun h h' => absurd h' (by simpa using h)) (fun _ => ?_)
    have hs : ∀ (n : Nd) (now l : Int), (start1 n now l).own = n.own := by
      intro n now l; unfold start1; exact byIte (G := fun r : Nd => r.own = n.own) (fun _ => rfl) (fun _ => rfl)
    repeat' (refine byIte (fun _ => ?_) (fun _ => ?_))
    all_goals (intro _; first | exact .inr (.inr rfl) | exact .inr (.inr ((hs _ _ _).trans rfl)))
  · let G : Nd × Int → Prop := fun r => r.2 = 0 → BkOk r.1.bank
    show G _
    have zz : BkOk (Bk.mk 0 0 0) := ⟨z0, z0, z0⟩
    refine byIte (fun h h' => absurd h' (by simpa using h)) (fun hc => ?_)
    refine byIte (fun _ h' => absurd h' (by decide)) (fun _ => ?_)
    refine byIte (fun h h' => absurd h' (by simpa using h)) (fun _ => ?_)
    have hs : ∀ (n : Nd) (now l : Int), BkOk n.bank → BkOk (start1 n now l).bank := by
      intro n now l hb
      exact (pi_start1 (n := { n with own := 14, role := 0, burst := Burst.mk 0 0 0 false 0 }) ⟨fun h => absurd rfl h, .inr (.inr rfl), hb, z3⟩ now l).bk |> fun h => by
        have e : (start1 { n with own := 14, role := 0, burst := Burst.mk 0 0 0 false 0 } now l).bank = (start1 n now l).bank := by
          unfold start1; cases (decide (now < 0) || (decide (now > 1099511627776) || (decide (l < 0) || decide (l > 1048576)))) <;> rfl
        rw [← e]; exact h
    repeat' (refine byIte (fun _ => ?_) (fun _ => ?_))
    all_goals (intro _; first | exact zz | exact hs _ _ _ zz)
  · let G : Nd × Int → Prop := fun r => r.2 = 0 → 0 ≤ r.1.burst.said ∧ r.1.burst.said ≤ 3
    show G _
    refine byIte (fun h h' => absurd h' (by simpa using h)) (fun hc => ?_)
    refine byIte (fun _ h' => absurd h' (by decide)) (fun _ => ?_)
    refine byIte (fun h h' => absurd h' (by simpa using h)) (fun _ => ?_)
    have hs : ∀ (n : Nd) (now l : Int), (start1 n now l).burst = n.burst := by
      intro n now l; unfold start1; exact byIte (G := fun r : Nd => r.burst = n.burst) (fun _ => rfl) (fun _ => rfl)
    repeat' (refine byIte (fun _ => ?_) (fun _ => ?_))
    all_goals (intro _; first | exact z3 | (show 0 ≤ (start1 _ _ _).burst.said ∧ (start1 _ _ _).burst.said ≤ 3; rw [hs]; exact z3))
end Go.Proofs.E17

namespace Go.Proofs.E17
open Go Go.AX Go.Proofs
set_option maxRecDepth 1000000
set_option linter.unusedVariables false
set_option linter.unusedSimpArgs false

def runsm1 (b : Bk) : Bool :=
  false
def runsm1_c (r : Bool) : Dir := .callL (.bool r) []
def runsm1_E (r : Bool) : Value := .bool r
theorem runsm1_eq (b : Bk) : AOn Tryz.prog 14 [.agg ⟨Bk.enc b⟩, .int .i64 (-1)] [] (runsm1_E (runsm1 b)) [] := by
  unfold runsm1
  apply onT 400 runsm1_E
  apply kd .inl
  exact kl
  kernel_rfl
  rfl

def duem1 (b : Bk) : Int :=
  (-1)
def duem1_c (r : Int) : Dir := .callL (.int .i64 r) []
def duem1_E (r : Int) : Value := .int .i64 r
theorem duem1_eq (b : Bk) : AOn Tryz.prog 42 [.agg ⟨Bk.enc b⟩, .int .i64 (-1)] [] (duem1_E (duem1 b)) [] := by
  unfold duem1
  apply onT 400 duem1_E
  apply kd .inl
  exact kl
  kernel_rfl
  rfl

def rrunsm1 (b : RBk) : Bool :=
  false
def rrunsm1_c (r : Bool) : Dir := .callL (.bool r) []
def rrunsm1_E (r : Bool) : Value := .bool r
theorem rrunsm1_eq (b : RBk) : AOn Tryz.prog 82 [.agg ⟨RBk.enc b⟩, .int .i64 (-1)] [] (rrunsm1_E (rrunsm1 b)) [] := by
  unfold rrunsm1
  apply onT 400 rrunsm1_E
  exact kl
  kernel_rfl
  rfl

def rwhenm1 (b : RBk) : Int :=
  (-1)
def rwhenm1_c (r : Int) : Dir := .callL (.int .i64 r) []
def rwhenm1_E (r : Int) : Value := .int .i64 r
theorem rwhenm1_eq (b : RBk) : AOn Tryz.prog 83 [.agg ⟨RBk.enc b⟩, .int .i64 (-1)] [] (rwhenm1_E (rwhenm1 b)) [] := by
  unfold rwhenm1
  apply onT 400 rwhenm1_E
  apply kk (rrunsm1_eq b)
  exact kl
  kernel_rfl
  rfl

def rwhen0 (b : RBk) : Int :=
  bif !(rruns0 b) then
    (-1)
  else
    b.due.g
def rwhen0_c (r : Int) : Dir := .callL (.int .i64 r) []
def rwhen0_E (r : Int) : Value := .int .i64 r
theorem rwhen0_eq (b : RBk) : AOn Tryz.prog 83 [.agg ⟨RBk.enc b⟩, .int .i64 0] [] (rwhen0_E (rwhen0 b)) [] := by
  unfold rwhen0
  apply onT 400 rwhen0_E
  apply kk (rruns0_eq b)
  apply ki 8
  intro hb0
  exact kl
  intro hb0
  exact kl
  kernel_rfl
  rfl

def rwhen1 (b : RBk) : Int :=
  bif !(rruns1 b) then
    (-1)
  else
    b.due.r
def rwhen1_c (r : Int) : Dir := .callL (.int .i64 r) []
def rwhen1_E (r : Int) : Value := .int .i64 r
theorem rwhen1_eq (b : RBk) : AOn Tryz.prog 83 [.agg ⟨RBk.enc b⟩, .int .i64 1] [] (rwhen1_E (rwhen1 b)) [] := by
  unfold rwhen1
  apply onT 400 rwhen1_E
  apply kk (rruns1_eq b)
  apply ki 8
  intro hb0
  exact kl
  intro hb0
  exact kl
  kernel_rfl
  rfl

def rwhen2 (b : RBk) : Int :=
  bif !(rruns2 b) then
    (-1)
  else
    b.due.w
def rwhen2_c (r : Int) : Dir := .callL (.int .i64 r) []
def rwhen2_E (r : Int) : Value := .int .i64 r
theorem rwhen2_eq (b : RBk) : AOn Tryz.prog 83 [.agg ⟨RBk.enc b⟩, .int .i64 2] [] (rwhen2_E (rwhen2 b)) [] := by
  unfold rwhen2
  apply onT 400 rwhen2_E
  apply kk (rruns2_eq b)
  apply ki 8
  intro hb0
  exact kl
  intro hb0
  exact kl
  kernel_rfl
  rfl

def rruns3 (b : RBk) : Bool :=
  false
def rruns3_c (r : Bool) : Dir := .callL (.bool r) []
def rruns3_E (r : Bool) : Value := .bool r
theorem rruns3_eq (b : RBk) : AOn Tryz.prog 82 [.agg ⟨RBk.enc b⟩, .int .i64 3] [] (rruns3_E (rruns3 b)) [] := by
  unfold rruns3
  apply onT 400 rruns3_E
  exact kl
  kernel_rfl
  rfl

def rwhen3 (b : RBk) : Int :=
  (-1)
def rwhen3_c (r : Int) : Dir := .callL (.int .i64 r) []
def rwhen3_E (r : Int) : Value := .int .i64 r
theorem rwhen3_eq (b : RBk) : AOn Tryz.prog 83 [.agg ⟨RBk.enc b⟩, .int .i64 3] [] (rwhen3_E (rwhen3 b)) [] := by
  unfold rwhen3
  apply onT 400 rwhen3_E
  apply kk (rruns3_eq b)
  exact kl
  kernel_rfl
  rfl

def rruns4 (b : RBk) : Bool :=
  false
def rruns4_c (r : Bool) : Dir := .callL (.bool r) []
def rruns4_E (r : Bool) : Value := .bool r
theorem rruns4_eq (b : RBk) : AOn Tryz.prog 82 [.agg ⟨RBk.enc b⟩, .int .i64 4] [] (rruns4_E (rruns4 b)) [] := by
  unfold rruns4
  apply onT 400 rruns4_E
  exact kl
  kernel_rfl
  rfl

def rwhen4 (b : RBk) : Int :=
  (-1)
def rwhen4_c (r : Int) : Dir := .callL (.int .i64 r) []
def rwhen4_E (r : Int) : Value := .int .i64 r
theorem rwhen4_eq (b : RBk) : AOn Tryz.prog 83 [.agg ⟨RBk.enc b⟩, .int .i64 4] [] (rwhen4_E (rwhen4 b)) [] := by
  unfold rwhen4
  apply onT 400 rwhen4_E
  apply kk (rruns4_eq b)
  exact kl
  kernel_rfl
  rfl

def rruns5 (b : RBk) : Bool :=
  false
def rruns5_c (r : Bool) : Dir := .callL (.bool r) []
def rruns5_E (r : Bool) : Value := .bool r
theorem rruns5_eq (b : RBk) : AOn Tryz.prog 82 [.agg ⟨RBk.enc b⟩, .int .i64 5] [] (rruns5_E (rruns5 b)) [] := by
  unfold rruns5
  apply onT 400 rruns5_E
  exact kl
  kernel_rfl
  rfl

def rwhen5 (b : RBk) : Int :=
  (-1)
def rwhen5_c (r : Int) : Dir := .callL (.int .i64 r) []
def rwhen5_E (r : Int) : Value := .int .i64 r
theorem rwhen5_eq (b : RBk) : AOn Tryz.prog 83 [.agg ⟨RBk.enc b⟩, .int .i64 5] [] (rwhen5_E (rwhen5 b)) [] := by
  unfold rwhen5
  apply onT 400 rwhen5_E
  apply kk (rruns5_eq b)
  exact kl
  kernel_rfl
  rfl

def rruns6 (b : RBk) : Bool :=
  false
def rruns6_c (r : Bool) : Dir := .callL (.bool r) []
def rruns6_E (r : Bool) : Value := .bool r
theorem rruns6_eq (b : RBk) : AOn Tryz.prog 82 [.agg ⟨RBk.enc b⟩, .int .i64 6] [] (rruns6_E (rruns6 b)) [] := by
  unfold rruns6
  apply onT 400 rruns6_E
  exact kl
  kernel_rfl
  rfl

def rwhen6 (b : RBk) : Int :=
  (-1)
def rwhen6_c (r : Int) : Dir := .callL (.int .i64 r) []
def rwhen6_E (r : Int) : Value := .int .i64 r
theorem rwhen6_eq (b : RBk) : AOn Tryz.prog 83 [.agg ⟨RBk.enc b⟩, .int .i64 6] [] (rwhen6_E (rwhen6 b)) [] := by
  unfold rwhen6
  apply onT 400 rwhen6_E
  apply kk (rruns6_eq b)
  exact kl
  kernel_rfl
  rfl

def rruns7 (b : RBk) : Bool :=
  false
def rruns7_c (r : Bool) : Dir := .callL (.bool r) []
def rruns7_E (r : Bool) : Value := .bool r
theorem rruns7_eq (b : RBk) : AOn Tryz.prog 82 [.agg ⟨RBk.enc b⟩, .int .i64 7] [] (rruns7_E (rruns7 b)) [] := by
  unfold rruns7
  apply onT 400 rruns7_E
  exact kl
  kernel_rfl
  rfl

def rwhen7 (b : RBk) : Int :=
  (-1)
def rwhen7_c (r : Int) : Dir := .callL (.int .i64 r) []
def rwhen7_E (r : Int) : Value := .int .i64 r
theorem rwhen7_eq (b : RBk) : AOn Tryz.prog 83 [.agg ⟨RBk.enc b⟩, .int .i64 7] [] (rwhen7_E (rwhen7 b)) [] := by
  unfold rwhen7
  apply onT 400 rwhen7_E
  apply kk (rruns7_eq b)
  exact kl
  kernel_rfl
  rfl

def runs8 (b : Bk) : Bool :=
  false
def runs8_c (r : Bool) : Dir := .callL (.bool r) []
def runs8_E (r : Bool) : Value := .bool r
theorem runs8_eq (b : Bk) : AOn Tryz.prog 14 [.agg ⟨Bk.enc b⟩, .int .i64 8] [] (runs8_E (runs8 b)) [] := by
  unfold runs8
  apply onT 400 runs8_E
  apply kd .inl
  exact kl
  kernel_rfl
  rfl

def due8 (b : Bk) : Int :=
  (-1)
def due8_c (r : Int) : Dir := .callL (.int .i64 r) []
def due8_E (r : Int) : Value := .int .i64 r
theorem due8_eq (b : Bk) : AOn Tryz.prog 42 [.agg ⟨Bk.enc b⟩, .int .i64 8] [] (due8_E (due8 b)) [] := by
  unfold due8
  apply onT 400 due8_E
  apply kd .inl
  exact kl
  kernel_rfl
  rfl

def rruns8 (b : RBk) : Bool :=
  false
def rruns8_c (r : Bool) : Dir := .callL (.bool r) []
def rruns8_E (r : Bool) : Value := .bool r
theorem rruns8_eq (b : RBk) : AOn Tryz.prog 82 [.agg ⟨RBk.enc b⟩, .int .i64 8] [] (rruns8_E (rruns8 b)) [] := by
  unfold rruns8
  apply onT 400 rruns8_E
  exact kl
  kernel_rfl
  rfl

def rwhen8 (b : RBk) : Int :=
  (-1)
def rwhen8_c (r : Int) : Dir := .callL (.int .i64 r) []
def rwhen8_E (r : Int) : Value := .int .i64 r
theorem rwhen8_eq (b : RBk) : AOn Tryz.prog 83 [.agg ⟨RBk.enc b⟩, .int .i64 8] [] (rwhen8_E (rwhen8 b)) [] := by
  unfold rwhen8
  apply onT 400 rwhen8_E
  apply kk (rruns8_eq b)
  exact kl
  kernel_rfl
  rfl

def runs9 (b : Bk) : Bool :=
  false
def runs9_c (r : Bool) : Dir := .callL (.bool r) []
def runs9_E (r : Bool) : Value := .bool r
theorem runs9_eq (b : Bk) : AOn Tryz.prog 14 [.agg ⟨Bk.enc b⟩, .int .i64 9] [] (runs9_E (runs9 b)) [] := by
  unfold runs9
  apply onT 400 runs9_E
  apply kd .inl
  exact kl
  kernel_rfl
  rfl

def due9 (b : Bk) : Int :=
  (-1)
def due9_c (r : Int) : Dir := .callL (.int .i64 r) []
def due9_E (r : Int) : Value := .int .i64 r
theorem due9_eq (b : Bk) : AOn Tryz.prog 42 [.agg ⟨Bk.enc b⟩, .int .i64 9] [] (due9_E (due9 b)) [] := by
  unfold due9
  apply onT 400 due9_E
  apply kd .inl
  exact kl
  kernel_rfl
  rfl

def rruns9 (b : RBk) : Bool :=
  false
def rruns9_c (r : Bool) : Dir := .callL (.bool r) []
def rruns9_E (r : Bool) : Value := .bool r
theorem rruns9_eq (b : RBk) : AOn Tryz.prog 82 [.agg ⟨RBk.enc b⟩, .int .i64 9] [] (rruns9_E (rruns9 b)) [] := by
  unfold rruns9
  apply onT 400 rruns9_E
  exact kl
  kernel_rfl
  rfl

def rwhen9 (b : RBk) : Int :=
  (-1)
def rwhen9_c (r : Int) : Dir := .callL (.int .i64 r) []
def rwhen9_E (r : Int) : Value := .int .i64 r
theorem rwhen9_eq (b : RBk) : AOn Tryz.prog 83 [.agg ⟨RBk.enc b⟩, .int .i64 9] [] (rwhen9_E (rwhen9 b)) [] := by
  unfold rwhen9
  apply onT 400 rwhen9_E
  apply kk (rruns9_eq b)
  exact kl
  kernel_rfl
  rfl

theorem vdueT0 (b : Bk) (hb : BkOk b) (h : b.g > 0) : AOn Tryz.prog 42 [.agg ⟨Bk.enc b⟩, .int .i64 0] [] (.int .i64 (b.g - 1)) [] := by
  have e := due0_eq b
  have hk := hb; unfold BkOk at hk
  rwa [show due0_E (due0 b) = .int .i64 (b.g - 1) from wr_i64 (n := b.g - 1) (by omega) (by omega)] at e
theorem vdueF0 (b : Bk) (hb : BkOk b) (h : ¬ b.g > 0) : AOn Tryz.prog 42 [.agg ⟨Bk.enc b⟩, .int .i64 0] [] (.int .i64 (-1)) [] := by
  have e := due0_eq b
  have hk := hb; unfold BkOk at hk
  rwa [show due0_E (due0 b) = .int .i64 (-1) by show Value.int .i64 (IntKind.wrap .i64 (b.g - 1)) = _; rw [show b.g = 0 by omega]; rfl] at e
theorem vwhenT0 (b : Bk) (h : b.g > 0) : AOn Tryz.prog 83 [.agg ⟨RBk.enc (vb b)⟩, .int .i64 0] [] (.int .i64 (b.g - 1)) [] := by
  have e := rwhen0_eq (vb b)
  rwa [show rwhen0_E (rwhen0 (vb b)) = .int .i64 (b.g - 1) by simp [rwhen0_E, rwhen0, rruns0, vb, dueOf, h]] at e
theorem vwhenF0 (b : Bk) (h : ¬ b.g > 0) : AOn Tryz.prog 83 [.agg ⟨RBk.enc (vb b)⟩, .int .i64 0] [] (.int .i64 (-1)) [] := by
  have e := rwhen0_eq (vb b)
  rwa [show rwhen0_E (rwhen0 (vb b)) = .int .i64 (-1) by simp [rwhen0_E, rwhen0, rruns0, vb, dueOf, h]] at e

theorem vdueT1 (b : Bk) (hb : BkOk b) (h : b.r > 0) : AOn Tryz.prog 42 [.agg ⟨Bk.enc b⟩, .int .i64 1] [] (.int .i64 (b.r - 1)) [] := by
  have e := due1_eq b
  have hk := hb; unfold BkOk at hk
  rwa [show due1_E (due1 b) = .int .i64 (b.r - 1) from wr_i64 (n := b.r - 1) (by omega) (by omega)] at e
theorem vdueF1 (b : Bk) (hb : BkOk b) (h : ¬ b.r > 0) : AOn Tryz.prog 42 [.agg ⟨Bk.enc b⟩, .int .i64 1] [] (.int .i64 (-1)) [] := by
  have e := due1_eq b
  have hk := hb; unfold BkOk at hk
  rwa [show due1_E (due1 b) = .int .i64 (-1) by show Value.int .i64 (IntKind.wrap .i64 (b.r - 1)) = _; rw [show b.r = 0 by omega]; rfl] at e
theorem vwhenT1 (b : Bk) (h : b.r > 0) : AOn Tryz.prog 83 [.agg ⟨RBk.enc (vb b)⟩, .int .i64 1] [] (.int .i64 (b.r - 1)) [] := by
  have e := rwhen1_eq (vb b)
  rwa [show rwhen1_E (rwhen1 (vb b)) = .int .i64 (b.r - 1) by simp [rwhen1_E, rwhen1, rruns1, vb, dueOf, h]] at e
theorem vwhenF1 (b : Bk) (h : ¬ b.r > 0) : AOn Tryz.prog 83 [.agg ⟨RBk.enc (vb b)⟩, .int .i64 1] [] (.int .i64 (-1)) [] := by
  have e := rwhen1_eq (vb b)
  rwa [show rwhen1_E (rwhen1 (vb b)) = .int .i64 (-1) by simp [rwhen1_E, rwhen1, rruns1, vb, dueOf, h]] at e

theorem vdueT2 (b : Bk) (hb : BkOk b) (h : b.w > 0) : AOn Tryz.prog 42 [.agg ⟨Bk.enc b⟩, .int .i64 2] [] (.int .i64 (b.w - 1)) [] := by
  have e := due2_eq b
  have hk := hb; unfold BkOk at hk
  rwa [show due2_E (due2 b) = .int .i64 (b.w - 1) from wr_i64 (n := b.w - 1) (by omega) (by omega)] at e
theorem vdueF2 (b : Bk) (hb : BkOk b) (h : ¬ b.w > 0) : AOn Tryz.prog 42 [.agg ⟨Bk.enc b⟩, .int .i64 2] [] (.int .i64 (-1)) [] := by
  have e := due2_eq b
  have hk := hb; unfold BkOk at hk
  rwa [show due2_E (due2 b) = .int .i64 (-1) by show Value.int .i64 (IntKind.wrap .i64 (b.w - 1)) = _; rw [show b.w = 0 by omega]; rfl] at e
theorem vwhenT2 (b : Bk) (h : b.w > 0) : AOn Tryz.prog 83 [.agg ⟨RBk.enc (vb b)⟩, .int .i64 2] [] (.int .i64 (b.w - 1)) [] := by
  have e := rwhen2_eq (vb b)
  rwa [show rwhen2_E (rwhen2 (vb b)) = .int .i64 (b.w - 1) by simp [rwhen2_E, rwhen2, rruns2, vb, dueOf, h]] at e
theorem vwhenF2 (b : Bk) (h : ¬ b.w > 0) : AOn Tryz.prog 83 [.agg ⟨RBk.enc (vb b)⟩, .int .i64 2] [] (.int .i64 (-1)) [] := by
  have e := rwhen2_eq (vb b)
  rwa [show rwhen2_E (rwhen2 (vb b)) = .int .i64 (-1) by simp [rwhen2_E, rwhen2, rruns2, vb, dueOf, h]] at e

def same8 (b : Bk) : Bool :=
  bif decide (b.g > 0) then
    bif decide (b.r > 0) then
      bif decide (b.w > 0) then
        bif decide ((b.r - 1) < (b.g - 1)) then
          bif decide ((b.w - 1) < (b.r - 1)) then
            bif decide (b.r < b.g) then
              bif decide (b.w < b.r) then
                true
              else
                (b.r - 1) == (b.w - 1)
            else
              bif decide (b.w < b.g) then
                true
              else
                (b.g - 1) == (b.w - 1)
          else
            bif decide (b.r < b.g) then
              bif decide (b.w < b.r) then
                (b.w - 1) == (b.r - 1)
              else
                true
            else
              bif decide (b.w < b.g) then
                (b.w - 1) == (b.r - 1)
              else
                (b.g - 1) == (b.r - 1)
        else
          bif decide ((b.w - 1) < (b.g - 1)) then
            bif decide (b.r < b.g) then
              bif decide (b.w < b.r) then
                true
              else
                (b.r - 1) == (b.w - 1)
            else
              bif decide (b.w < b.g) then
                true
              else
                (b.g - 1) == (b.w - 1)
          else
            bif decide (b.r < b.g) then
              bif decide (b.w < b.r) then
                (b.w - 1) == (b.g - 1)
              else
                (b.r - 1) == (b.g - 1)
            else
              bif decide (b.w < b.g) then
                (b.w - 1) == (b.g - 1)
              else
                true
      else
        bif decide ((b.r - 1) < (b.g - 1)) then
          bif decide (b.r < b.g) then
            true
          else
            (b.g - 1) == (b.r - 1)
        else
          bif decide (b.r < b.g) then
            (b.r - 1) == (b.g - 1)
          else
            true
    else
      bif decide (b.w > 0) then
        bif decide ((b.w - 1) < (b.g - 1)) then
          bif decide (b.w < b.g) then
            true
          else
            (b.g - 1) == (b.w - 1)
        else
          bif decide (b.w < b.g) then
            (b.w - 1) == (b.g - 1)
          else
            true
      else
        true
  else
    bif (decide (b.r > 0)) && (decide (b.w > 0)) then
      bif decide ((b.w - 1) < (b.r - 1)) then
        bif decide (b.w < b.r) then
          true
        else
          (b.r - 1) == (b.w - 1)
      else
        bif decide (b.w < b.r) then
          (b.w - 1) == (b.r - 1)
        else
          true
    else
      true
def same8_c (r : Bool) : Dir := .callL (.bool r) []
def same8_E (r : Bool) : Value := .bool r
theorem same8_eq (b : Bk) (hb : BkOk b) : AOn Tryz.prog 48 [.agg ⟨Bk.enc b⟩, .agg ⟨RBk.enc (vb b)⟩] [] (same8_E (same8 b)) [] := by
  have hbk := hb
  unfold BkOk at hbk
  unfold same8
  apply onT 400 same8_E
  apply kc
  intro hb0
  apply kc
  intro hb1
  apply kc
  intro hb2
  apply kf [.callL (.bool false) [], .callL (.bool false) [], .callL (.int .i64 (-1)) []] (o_ (runsm1_eq b) (o_ (rrunsm1_eq (vb b)) (o_ (duem1_eq b) o0)))
  apply kk (rwhenm1_eq (vb b))
  apply kk (rrunsm1_eq (vb b))
  have hq1 := (show (!((decide (b.g > 0)) == (decide (b.g > 0)))) = false from by simp [*])
  apply kf (.callL (.bool (decide (b.g > 0))) [] :: .callL (.bool (decide (b.g > 0))) [] :: gds 3 21 false (.callL (.int .i64 (b.g - 1)) [] :: .gd 21 false :: [.gd 21 false])) (o_ (runs0_eq b) (o_ (rruns0_eq (vb b)) (oN 3 hq1 (o_ (vdueT0 b hb (of_decide_eq_true hb0)) (o_ hq1 (o_ hq1 o0))))))
  apply ku 210027 hq1
  apply kk (vwhenT0 b (of_decide_eq_true hb0))
  apply kr 29 (show ((b.g - 1) != (b.g - 1)) = false from by simp)
  apply kk (rruns0_eq (vb b))
  apply ku 330034 hb0
  apply kk (vwhenT0 b (of_decide_eq_true hb0))
  have hq2 := (show (!((decide (b.r > 0)) == (decide (b.r > 0)))) = false from by simp [*])
  apply kf (.callL (.bool (decide (b.r > 0))) [] :: .callL (.bool (decide (b.r > 0))) [] :: gds 3 21 false (.callL (.int .i64 (b.r - 1)) [] :: .gd 21 false :: [.gd 21 false])) (o_ (runs1_eq b) (o_ (rruns1_eq (vb b)) (oN 3 hq2 (o_ (vdueT1 b hb (of_decide_eq_true hb1)) (o_ hq2 (o_ hq2 o0))))))
  apply ku 210027 hq2
  apply kk (vwhenT1 b (of_decide_eq_true hb1))
  apply kr 29 (show ((b.r - 1) != (b.r - 1)) = false from by simp)
  apply kk (rruns1_eq (vb b))
  apply ku 330034 hb1
  apply kk (vwhenT1 b (of_decide_eq_true hb1))
  apply ki 43
  intro hb3
  apply kk (vwhenT1 b (of_decide_eq_true hb1))
  have hq3 := (show (!((decide (b.w > 0)) == (decide (b.w > 0)))) = false from by simp [*])
  apply kf (.callL (.bool (decide (b.w > 0))) [] :: .callL (.bool (decide (b.w > 0))) [] :: gds 3 21 false (.callL (.int .i64 (b.w - 1)) [] :: .gd 21 false :: [.gd 21 false])) (o_ (runs2_eq b) (o_ (rruns2_eq (vb b)) (oN 3 hq3 (o_ (vdueT2 b hb (of_decide_eq_true hb2)) (o_ hq3 (o_ hq3 o0))))))
  apply ku 210027 hq3
  apply kk (vwhenT2 b (of_decide_eq_true hb2))
  apply kr 29 (show ((b.w - 1) != (b.w - 1)) = false from by simp)
  apply kk (rruns2_eq (vb b))
  apply ku 330034 hb2
  apply kk (vwhenT2 b (of_decide_eq_true hb2))
  apply ki 43
  intro hb4
  apply kk (vwhenT2 b (of_decide_eq_true hb2))
  apply kf [.callL (.bool false) [], .callL (.bool false) [], .callL (.int .i64 (-1)) []] (o_ (runs3_eq b) (o_ (rruns3_eq (vb b)) (o_ (due3_eq b) o0)))
  apply kk (rwhen3_eq (vb b))
  apply kk (rruns3_eq (vb b))
  apply kf [.callL (.bool false) [], .callL (.bool false) [], .callL (.int .i64 (-1)) []] (o_ (runs4_eq b) (o_ (rruns4_eq (vb b)) (o_ (due4_eq b) o0)))
  apply kk (rwhen4_eq (vb b))
  apply kk (rruns4_eq (vb b))
  apply kf [.callL (.bool false) [], .callL (.bool false) [], .callL (.int .i64 (-1)) []] (o_ (runs5_eq b) (o_ (rruns5_eq (vb b)) (o_ (due5_eq b) o0)))
  apply kk (rwhen5_eq (vb b))
  apply kk (rruns5_eq (vb b))
  apply kf [.callL (.bool false) [], .callL (.bool false) [], .callL (.int .i64 (-1)) []] (o_ (runs6_eq b) (o_ (rruns6_eq (vb b)) (o_ (due6_eq b) o0)))
  apply kk (rwhen6_eq (vb b))
  apply kk (rruns6_eq (vb b))
  apply kf [.callL (.bool false) [], .callL (.bool false) [], .callL (.int .i64 (-1)) []] (o_ (runs7_eq b) (o_ (rruns7_eq (vb b)) (o_ (due7_eq b) o0)))
  apply kk (rwhen7_eq (vb b))
  apply kk (rruns7_eq (vb b))
  apply kf [.callL (.bool false) [], .callL (.bool false) [], .callL (.int .i64 (-1)) []] (o_ (runs8_eq b) (o_ (rruns8_eq (vb b)) (o_ (due8_eq b) o0)))
  apply kk (rwhen8_eq (vb b))
  apply kk (rruns8_eq (vb b))
  apply kf [.callL (.bool false) [], .callL (.bool false) [], .callL (.int .i64 (-1)) []] (o_ (runs9_eq b) (o_ (rruns9_eq (vb b)) (o_ (due9_eq b) o0)))
  apply kk (rwhen9_eq (vb b))
  apply kk (rruns9_eq (vb b))
  apply kd .inl
  apply kd .inl
  apply kf (gds 3 13 true []) (oN 3 hb0 o0)
  apply ku 130026 hb0
  apply kf (gds 3 13 true []) (oN 3 hb1 o0)
  apply ku 130026 hb1
  apply ki 27
  intro hb5
  apply kf (gds 3 13 true []) (oN 3 hb2 o0)
  apply ku 130026 hb2
  apply ki 27
  intro hb6
  apply kk (vdueT2 b hb (of_decide_eq_true hb2))
  apply ku 550056 (show ((b.w - 1) == (b.w - 1)) = true from by simp)
  exact kl
  intro hb6
  apply kk (vdueT1 b hb (of_decide_eq_true hb1))
  apply kbool
  apply kj 550056
  intro hb7
  exact kl
  intro hb7
  exact kl
  intro hb5
  apply kf (gds 3 13 true []) (oN 3 hb2 o0)
  apply ku 130026 hb2
  apply ki 27
  intro hb6
  apply kk (vdueT2 b hb (of_decide_eq_true hb2))
  apply ku 550056 (show ((b.w - 1) == (b.w - 1)) = true from by simp)
  exact kl
  intro hb6
  apply kk (vdueT0 b hb (of_decide_eq_true hb0))
  apply kbool
  apply kj 550056
  intro hb7
  exact kl
  intro hb7
  exact kl
  intro hb4
  apply kf [.callL (.bool false) [], .callL (.bool false) [], .callL (.int .i64 (-1)) []] (o_ (runs3_eq b) (o_ (rruns3_eq (vb b)) (o_ (due3_eq b) o0)))
  apply kk (rwhen3_eq (vb b))
  apply kk (rruns3_eq (vb b))
  apply kf [.callL (.bool false) [], .callL (.bool false) [], .callL (.int .i64 (-1)) []] (o_ (runs4_eq b) (o_ (rruns4_eq (vb b)) (o_ (due4_eq b) o0)))
  apply kk (rwhen4_eq (vb b))
  apply kk (rruns4_eq (vb b))
  apply kf [.callL (.bool false) [], .callL (.bool false) [], .callL (.int .i64 (-1)) []] (o_ (runs5_eq b) (o_ (rruns5_eq (vb b)) (o_ (due5_eq b) o0)))
  apply kk (rwhen5_eq (vb b))
  apply kk (rruns5_eq (vb b))
  apply kf [.callL (.bool false) [], .callL (.bool false) [], .callL (.int .i64 (-1)) []] (o_ (runs6_eq b) (o_ (rruns6_eq (vb b)) (o_ (due6_eq b) o0)))
  apply kk (rwhen6_eq (vb b))
  apply kk (rruns6_eq (vb b))
  apply kf [.callL (.bool false) [], .callL (.bool false) [], .callL (.int .i64 (-1)) []] (o_ (runs7_eq b) (o_ (rruns7_eq (vb b)) (o_ (due7_eq b) o0)))
  apply kk (rwhen7_eq (vb b))
  apply kk (rruns7_eq (vb b))
  apply kf [.callL (.bool false) [], .callL (.bool false) [], .callL (.int .i64 (-1)) []] (o_ (runs8_eq b) (o_ (rruns8_eq (vb b)) (o_ (due8_eq b) o0)))
  apply kk (rwhen8_eq (vb b))
  apply kk (rruns8_eq (vb b))
  apply kf [.callL (.bool false) [], .callL (.bool false) [], .callL (.int .i64 (-1)) []] (o_ (runs9_eq b) (o_ (rruns9_eq (vb b)) (o_ (due9_eq b) o0)))
  apply kk (rwhen9_eq (vb b))
  apply kk (rruns9_eq (vb b))
  apply kd .inl
  apply kd .inl
  apply kf (gds 3 13 true []) (oN 3 hb0 o0)
  apply ku 130026 hb0
  apply kf (gds 3 13 true []) (oN 3 hb1 o0)
  apply ku 130026 hb1
  apply ki 27
  intro hb5
  apply kf (gds 3 13 true []) (oN 3 hb2 o0)
  apply ku 130026 hb2
  apply ki 27
  intro hb6
  apply kk (vdueT2 b hb (of_decide_eq_true hb2))
  apply kbool
  apply kj 550056
  intro hb7
  exact kl
  intro hb7
  exact kl
  intro hb6
  apply kk (vdueT1 b hb (of_decide_eq_true hb1))
  apply ku 550056 (show ((b.r - 1) == (b.r - 1)) = true from by simp)
  exact kl
  intro hb5
  apply kf (gds 3 13 true []) (oN 3 hb2 o0)
  apply ku 130026 hb2
  apply ki 27
  intro hb6
  apply kk (vdueT2 b hb (of_decide_eq_true hb2))
  apply kbool
  apply kj 550056
  intro hb7
  exact kl
  intro hb7
  exact kl
  intro hb6
  apply kk (vdueT0 b hb (of_decide_eq_true hb0))
  apply kbool
  apply kj 550056
  intro hb7
  exact kl
  intro hb7
  exact kl
  intro hb3
  have hq4 := (show (!((decide (b.w > 0)) == (decide (b.w > 0)))) = false from by simp [*])
  apply kf (.callL (.bool (decide (b.w > 0))) [] :: .callL (.bool (decide (b.w > 0))) [] :: gds 3 21 false (.callL (.int .i64 (b.w - 1)) [] :: .gd 21 false :: [.gd 21 false])) (o_ (runs2_eq b) (o_ (rruns2_eq (vb b)) (oN 3 hq4 (o_ (vdueT2 b hb (of_decide_eq_true hb2)) (o_ hq4 (o_ hq4 o0))))))
  apply ku 210027 hq4
  apply kk (vwhenT2 b (of_decide_eq_true hb2))
  apply kr 29 (show ((b.w - 1) != (b.w - 1)) = false from by simp)
  apply kk (rruns2_eq (vb b))
  apply ku 330034 hb2
  apply kk (vwhenT2 b (of_decide_eq_true hb2))
  apply ki 43
  intro hb4
  apply kk (vwhenT2 b (of_decide_eq_true hb2))
  apply kf [.callL (.bool false) [], .callL (.bool false) [], .callL (.int .i64 (-1)) []] (o_ (runs3_eq b) (o_ (rruns3_eq (vb b)) (o_ (due3_eq b) o0)))
  apply kk (rwhen3_eq (vb b))
  apply kk (rruns3_eq (vb b))
  apply kf [.callL (.bool false) [], .callL (.bool false) [], .callL (.int .i64 (-1)) []] (o_ (runs4_eq b) (o_ (rruns4_eq (vb b)) (o_ (due4_eq b) o0)))
  apply kk (rwhen4_eq (vb b))
  apply kk (rruns4_eq (vb b))
  apply kf [.callL (.bool false) [], .callL (.bool false) [], .callL (.int .i64 (-1)) []] (o_ (runs5_eq b) (o_ (rruns5_eq (vb b)) (o_ (due5_eq b) o0)))
  apply kk (rwhen5_eq (vb b))
  apply kk (rruns5_eq (vb b))
  apply kf [.callL (.bool false) [], .callL (.bool false) [], .callL (.int .i64 (-1)) []] (o_ (runs6_eq b) (o_ (rruns6_eq (vb b)) (o_ (due6_eq b) o0)))
  apply kk (rwhen6_eq (vb b))
  apply kk (rruns6_eq (vb b))
  apply kf [.callL (.bool false) [], .callL (.bool false) [], .callL (.int .i64 (-1)) []] (o_ (runs7_eq b) (o_ (rruns7_eq (vb b)) (o_ (due7_eq b) o0)))
  apply kk (rwhen7_eq (vb b))
  apply kk (rruns7_eq (vb b))
  apply kf [.callL (.bool false) [], .callL (.bool false) [], .callL (.int .i64 (-1)) []] (o_ (runs8_eq b) (o_ (rruns8_eq (vb b)) (o_ (due8_eq b) o0)))
  apply kk (rwhen8_eq (vb b))
  apply kk (rruns8_eq (vb b))
  apply kf [.callL (.bool false) [], .callL (.bool false) [], .callL (.int .i64 (-1)) []] (o_ (runs9_eq b) (o_ (rruns9_eq (vb b)) (o_ (due9_eq b) o0)))
  apply kk (rwhen9_eq (vb b))
  apply kk (rruns9_eq (vb b))
  apply kd .inl
  apply kd .inl
  apply kf (gds 3 13 true []) (oN 3 hb0 o0)
  apply ku 130026 hb0
  apply kf (gds 3 13 true []) (oN 3 hb1 o0)
  apply ku 130026 hb1
  apply ki 27
  intro hb5
  apply kf (gds 3 13 true []) (oN 3 hb2 o0)
  apply ku 130026 hb2
  apply ki 27
  intro hb6
  apply kk (vdueT2 b hb (of_decide_eq_true hb2))
  apply ku 550056 (show ((b.w - 1) == (b.w - 1)) = true from by simp)
  exact kl
  intro hb6
  apply kk (vdueT1 b hb (of_decide_eq_true hb1))
  apply kbool
  apply kj 550056
  intro hb7
  exact kl
  intro hb7
  exact kl
  intro hb5
  apply kf (gds 3 13 true []) (oN 3 hb2 o0)
  apply ku 130026 hb2
  apply ki 27
  intro hb6
  apply kk (vdueT2 b hb (of_decide_eq_true hb2))
  apply ku 550056 (show ((b.w - 1) == (b.w - 1)) = true from by simp)
  exact kl
  intro hb6
  apply kk (vdueT0 b hb (of_decide_eq_true hb0))
  apply kbool
  apply kj 550056
  intro hb7
  exact kl
  intro hb7
  exact kl
  intro hb4
  apply kf [.callL (.bool false) [], .callL (.bool false) [], .callL (.int .i64 (-1)) []] (o_ (runs3_eq b) (o_ (rruns3_eq (vb b)) (o_ (due3_eq b) o0)))
  apply kk (rwhen3_eq (vb b))
  apply kk (rruns3_eq (vb b))
  apply kf [.callL (.bool false) [], .callL (.bool false) [], .callL (.int .i64 (-1)) []] (o_ (runs4_eq b) (o_ (rruns4_eq (vb b)) (o_ (due4_eq b) o0)))
  apply kk (rwhen4_eq (vb b))
  apply kk (rruns4_eq (vb b))
  apply kf [.callL (.bool false) [], .callL (.bool false) [], .callL (.int .i64 (-1)) []] (o_ (runs5_eq b) (o_ (rruns5_eq (vb b)) (o_ (due5_eq b) o0)))
  apply kk (rwhen5_eq (vb b))
  apply kk (rruns5_eq (vb b))
  apply kf [.callL (.bool false) [], .callL (.bool false) [], .callL (.int .i64 (-1)) []] (o_ (runs6_eq b) (o_ (rruns6_eq (vb b)) (o_ (due6_eq b) o0)))
  apply kk (rwhen6_eq (vb b))
  apply kk (rruns6_eq (vb b))
  apply kf [.callL (.bool false) [], .callL (.bool false) [], .callL (.int .i64 (-1)) []] (o_ (runs7_eq b) (o_ (rruns7_eq (vb b)) (o_ (due7_eq b) o0)))
  apply kk (rwhen7_eq (vb b))
  apply kk (rruns7_eq (vb b))
  apply kf [.callL (.bool false) [], .callL (.bool false) [], .callL (.int .i64 (-1)) []] (o_ (runs8_eq b) (o_ (rruns8_eq (vb b)) (o_ (due8_eq b) o0)))
  apply kk (rwhen8_eq (vb b))
  apply kk (rruns8_eq (vb b))
  apply kf [.callL (.bool false) [], .callL (.bool false) [], .callL (.int .i64 (-1)) []] (o_ (runs9_eq b) (o_ (rruns9_eq (vb b)) (o_ (due9_eq b) o0)))
  apply kk (rwhen9_eq (vb b))
  apply kk (rruns9_eq (vb b))
  apply kd .inl
  apply kd .inl
  apply kf (gds 3 13 true []) (oN 3 hb0 o0)
  apply ku 130026 hb0
  apply kf (gds 3 13 true []) (oN 3 hb1 o0)
  apply ku 130026 hb1
  apply ki 27
  intro hb5
  apply kf (gds 3 13 true []) (oN 3 hb2 o0)
  apply ku 130026 hb2
  apply ki 27
  intro hb6
  apply kk (vdueT2 b hb (of_decide_eq_true hb2))
  apply kbool
  apply kj 550056
  intro hb7
  exact kl
  intro hb7
  exact kl
  intro hb6
  apply kk (vdueT1 b hb (of_decide_eq_true hb1))
  apply kbool
  apply kj 550056
  intro hb7
  exact kl
  intro hb7
  exact kl
  intro hb5
  apply kf (gds 3 13 true []) (oN 3 hb2 o0)
  apply ku 130026 hb2
  apply ki 27
  intro hb6
  apply kk (vdueT2 b hb (of_decide_eq_true hb2))
  apply kbool
  apply kj 550056
  intro hb7
  exact kl
  intro hb7
  exact kl
  intro hb6
  apply kk (vdueT0 b hb (of_decide_eq_true hb0))
  apply ku 550056 (show ((b.g - 1) == (b.g - 1)) = true from by simp)
  exact kl
  intro hb2
  apply kf [.callL (.bool false) [], .callL (.bool false) [], .callL (.int .i64 (-1)) []] (o_ (runsm1_eq b) (o_ (rrunsm1_eq (vb b)) (o_ (duem1_eq b) o0)))
  apply kk (rwhenm1_eq (vb b))
  apply kk (rrunsm1_eq (vb b))
  have hq5 := (show (!((decide (b.g > 0)) == (decide (b.g > 0)))) = false from by simp [*])
  apply kf (.callL (.bool (decide (b.g > 0))) [] :: .callL (.bool (decide (b.g > 0))) [] :: gds 3 21 false (.callL (.int .i64 (b.g - 1)) [] :: .gd 21 false :: [.gd 21 false])) (o_ (runs0_eq b) (o_ (rruns0_eq (vb b)) (oN 3 hq5 (o_ (vdueT0 b hb (of_decide_eq_true hb0)) (o_ hq5 (o_ hq5 o0))))))
  apply ku 210027 hq5
  apply kk (vwhenT0 b (of_decide_eq_true hb0))
  apply kr 29 (show ((b.g - 1) != (b.g - 1)) = false from by simp)
  apply kk (rruns0_eq (vb b))
  apply ku 330034 hb0
  apply kk (vwhenT0 b (of_decide_eq_true hb0))
  have hq6 := (show (!((decide (b.r > 0)) == (decide (b.r > 0)))) = false from by simp [*])
  apply kf (.callL (.bool (decide (b.r > 0))) [] :: .callL (.bool (decide (b.r > 0))) [] :: gds 3 21 false (.callL (.int .i64 (b.r - 1)) [] :: .gd 21 false :: [.gd 21 false])) (o_ (runs1_eq b) (o_ (rruns1_eq (vb b)) (oN 3 hq6 (o_ (vdueT1 b hb (of_decide_eq_true hb1)) (o_ hq6 (o_ hq6 o0))))))
  apply ku 210027 hq6
  apply kk (vwhenT1 b (of_decide_eq_true hb1))
  apply kr 29 (show ((b.r - 1) != (b.r - 1)) = false from by simp)
  apply kk (rruns1_eq (vb b))
  apply ku 330034 hb1
  apply kk (vwhenT1 b (of_decide_eq_true hb1))
  apply ki 43
  intro hb3
  apply kk (vwhenT1 b (of_decide_eq_true hb1))
  have hq7 := (show (!((decide (b.w > 0)) == (decide (b.w > 0)))) = false from by simp [*])
  apply kf (.callL (.bool (decide (b.w > 0))) [] :: .callL (.bool (decide (b.w > 0))) [] :: gds 3 21 false (.callL (.int .i64 (-1)) [] :: .gd 21 false :: [.gd 21 false])) (o_ (runs2_eq b) (o_ (rruns2_eq (vb b)) (oN 3 hq7 (o_ (vdueF2 b hb (of_decide_eq_false hb2)) (o_ hq7 (o_ hq7 o0))))))
  apply ku 210027 hq7
  apply kk (vwhenF2 b (of_decide_eq_false hb2))
  apply kk (rruns2_eq (vb b))
  apply ku 330034 hb2
  apply kf [.callL (.bool false) [], .callL (.bool false) [], .callL (.int .i64 (-1)) []] (o_ (runs3_eq b) (o_ (rruns3_eq (vb b)) (o_ (due3_eq b) o0)))
  apply kk (rwhen3_eq (vb b))
  apply kk (rruns3_eq (vb b))
  apply kf [.callL (.bool false) [], .callL (.bool false) [], .callL (.int .i64 (-1)) []] (o_ (runs4_eq b) (o_ (rruns4_eq (vb b)) (o_ (due4_eq b) o0)))
  apply kk (rwhen4_eq (vb b))
  apply kk (rruns4_eq (vb b))
  apply kf [.callL (.bool false) [], .callL (.bool false) [], .callL (.int .i64 (-1)) []] (o_ (runs5_eq b) (o_ (rruns5_eq (vb b)) (o_ (due5_eq b) o0)))
  apply kk (rwhen5_eq (vb b))
  apply kk (rruns5_eq (vb b))
  apply kf [.callL (.bool false) [], .callL (.bool false) [], .callL (.int .i64 (-1)) []] (o_ (runs6_eq b) (o_ (rruns6_eq (vb b)) (o_ (due6_eq b) o0)))
  apply kk (rwhen6_eq (vb b))
  apply kk (rruns6_eq (vb b))
  apply kf [.callL (.bool false) [], .callL (.bool false) [], .callL (.int .i64 (-1)) []] (o_ (runs7_eq b) (o_ (rruns7_eq (vb b)) (o_ (due7_eq b) o0)))
  apply kk (rwhen7_eq (vb b))
  apply kk (rruns7_eq (vb b))
  apply kf [.callL (.bool false) [], .callL (.bool false) [], .callL (.int .i64 (-1)) []] (o_ (runs8_eq b) (o_ (rruns8_eq (vb b)) (o_ (due8_eq b) o0)))
  apply kk (rwhen8_eq (vb b))
  apply kk (rruns8_eq (vb b))
  apply kf [.callL (.bool false) [], .callL (.bool false) [], .callL (.int .i64 (-1)) []] (o_ (runs9_eq b) (o_ (rruns9_eq (vb b)) (o_ (due9_eq b) o0)))
  apply kk (rwhen9_eq (vb b))
  apply kk (rruns9_eq (vb b))
  apply kd .inl
  apply kd .inl
  apply kf (gds 3 13 true []) (oN 3 hb0 o0)
  apply ku 130026 hb0
  apply kf (gds 3 13 true []) (oN 3 hb1 o0)
  apply ku 130026 hb1
  apply ki 27
  intro hb4
  apply kf [.is 11 (.int .i64 0)] (o_ (ieq .i64 (show (b.w == 0) = true by rw [zeq]; first | omega | (simp only [zor, zand, zorf, zandf, znt, znf, zeq, zne, zeqf, znef, zd, zdf] at *; omega))) o0)
  apply kk (vdueT1 b hb (of_decide_eq_true hb1))
  apply ku 550056 (show ((b.r - 1) == (b.r - 1)) = true from by simp)
  exact kl
  intro hb4
  apply kf [.is 11 (.int .i64 0)] (o_ (ieq .i64 (show (b.w == 0) = true by rw [zeq]; first | omega | (simp only [zor, zand, zorf, zandf, znt, znf, zeq, zne, zeqf, znef, zd, zdf] at *; omega))) o0)
  apply kk (vdueT0 b hb (of_decide_eq_true hb0))
  apply kbool
  apply kj 550056
  intro hb5
  exact kl
  intro hb5
  exact kl
  intro hb3
  have hq8 := (show (!((decide (b.w > 0)) == (decide (b.w > 0)))) = false from by simp [*])
  apply kf (.callL (.bool (decide (b.w > 0))) [] :: .callL (.bool (decide (b.w > 0))) [] :: gds 3 21 false (.callL (.int .i64 (-1)) [] :: .gd 21 false :: [.gd 21 false])) (o_ (runs2_eq b) (o_ (rruns2_eq (vb b)) (oN 3 hq8 (o_ (vdueF2 b hb (of_decide_eq_false hb2)) (o_ hq8 (o_ hq8 o0))))))
  apply ku 210027 hq8
  apply kk (vwhenF2 b (of_decide_eq_false hb2))
  apply kk (rruns2_eq (vb b))
  apply ku 330034 hb2
  apply kf [.callL (.bool false) [], .callL (.bool false) [], .callL (.int .i64 (-1)) []] (o_ (runs3_eq b) (o_ (rruns3_eq (vb b)) (o_ (due3_eq b) o0)))
  apply kk (rwhen3_eq (vb b))
  apply kk (rruns3_eq (vb b))
  apply kf [.callL (.bool false) [], .callL (.bool false) [], .callL (.int .i64 (-1)) []] (o_ (runs4_eq b) (o_ (rruns4_eq (vb b)) (o_ (due4_eq b) o0)))
  apply kk (rwhen4_eq (vb b))
  apply kk (rruns4_eq (vb b))
  apply kf [.callL (.bool false) [], .callL (.bool false) [], .callL (.int .i64 (-1)) []] (o_ (runs5_eq b) (o_ (rruns5_eq (vb b)) (o_ (due5_eq b) o0)))
  apply kk (rwhen5_eq (vb b))
  apply kk (rruns5_eq (vb b))
  apply kf [.callL (.bool false) [], .callL (.bool false) [], .callL (.int .i64 (-1)) []] (o_ (runs6_eq b) (o_ (rruns6_eq (vb b)) (o_ (due6_eq b) o0)))
  apply kk (rwhen6_eq (vb b))
  apply kk (rruns6_eq (vb b))
  apply kf [.callL (.bool false) [], .callL (.bool false) [], .callL (.int .i64 (-1)) []] (o_ (runs7_eq b) (o_ (rruns7_eq (vb b)) (o_ (due7_eq b) o0)))
  apply kk (rwhen7_eq (vb b))
  apply kk (rruns7_eq (vb b))
  apply kf [.callL (.bool false) [], .callL (.bool false) [], .callL (.int .i64 (-1)) []] (o_ (runs8_eq b) (o_ (rruns8_eq (vb b)) (o_ (due8_eq b) o0)))
  apply kk (rwhen8_eq (vb b))
  apply kk (rruns8_eq (vb b))
  apply kf [.callL (.bool false) [], .callL (.bool false) [], .callL (.int .i64 (-1)) []] (o_ (runs9_eq b) (o_ (rruns9_eq (vb b)) (o_ (due9_eq b) o0)))
  apply kk (rwhen9_eq (vb b))
  apply kk (rruns9_eq (vb b))
  apply kd .inl
  apply kd .inl
  apply kf (gds 3 13 true []) (oN 3 hb0 o0)
  apply ku 130026 hb0
  apply kf (gds 3 13 true []) (oN 3 hb1 o0)
  apply ku 130026 hb1
  apply ki 27
  intro hb4
  apply kf [.is 11 (.int .i64 0)] (o_ (ieq .i64 (show (b.w == 0) = true by rw [zeq]; first | omega | (simp only [zor, zand, zorf, zandf, znt, znf, zeq, zne, zeqf, znef, zd, zdf] at *; omega))) o0)
  apply kk (vdueT1 b hb (of_decide_eq_true hb1))
  apply kbool
  apply kj 550056
  intro hb5
  exact kl
  intro hb5
  exact kl
  intro hb4
  apply kf [.is 11 (.int .i64 0)] (o_ (ieq .i64 (show (b.w == 0) = true by rw [zeq]; first | omega | (simp only [zor, zand, zorf, zandf, znt, znf, zeq, zne, zeqf, znef, zd, zdf] at *; omega))) o0)
  apply kk (vdueT0 b hb (of_decide_eq_true hb0))
  apply ku 550056 (show ((b.g - 1) == (b.g - 1)) = true from by simp)
  exact kl
  intro hb1
  apply kc
  intro hb2
  apply kf [.callL (.bool false) [], .callL (.bool false) [], .callL (.int .i64 (-1)) []] (o_ (runsm1_eq b) (o_ (rrunsm1_eq (vb b)) (o_ (duem1_eq b) o0)))
  apply kk (rwhenm1_eq (vb b))
  apply kk (rrunsm1_eq (vb b))
  have hq9 := (show (!((decide (b.g > 0)) == (decide (b.g > 0)))) = false from by simp [*])
  apply kf (.callL (.bool (decide (b.g > 0))) [] :: .callL (.bool (decide (b.g > 0))) [] :: gds 3 21 false (.callL (.int .i64 (b.g - 1)) [] :: .gd 21 false :: [.gd 21 false])) (o_ (runs0_eq b) (o_ (rruns0_eq (vb b)) (oN 3 hq9 (o_ (vdueT0 b hb (of_decide_eq_true hb0)) (o_ hq9 (o_ hq9 o0))))))
  apply ku 210027 hq9
  apply kk (vwhenT0 b (of_decide_eq_true hb0))
  apply kr 29 (show ((b.g - 1) != (b.g - 1)) = false from by simp)
  apply kk (rruns0_eq (vb b))
  apply ku 330034 hb0
  apply kk (vwhenT0 b (of_decide_eq_true hb0))
  have hq10 := (show (!((decide (b.r > 0)) == (decide (b.r > 0)))) = false from by simp [*])
  apply kf (.callL (.bool (decide (b.r > 0))) [] :: .callL (.bool (decide (b.r > 0))) [] :: gds 3 21 false (.callL (.int .i64 (-1)) [] :: .gd 21 false :: [.gd 21 false])) (o_ (runs1_eq b) (o_ (rruns1_eq (vb b)) (oN 3 hq10 (o_ (vdueF1 b hb (of_decide_eq_false hb1)) (o_ hq10 (o_ hq10 o0))))))
  apply ku 210027 hq10
  apply kk (vwhenF1 b (of_decide_eq_false hb1))
  apply kk (rruns1_eq (vb b))
  apply ku 330034 hb1
  have hq11 := (show (!((decide (b.w > 0)) == (decide (b.w > 0)))) = false from by simp [*])
  apply kf (.callL (.bool (decide (b.w > 0))) [] :: .callL (.bool (decide (b.w > 0))) [] :: gds 3 21 false (.callL (.int .i64 (b.w - 1)) [] :: .gd 21 false :: [.gd 21 false])) (o_ (runs2_eq b) (o_ (rruns2_eq (vb b)) (oN 3 hq11 (o_ (vdueT2 b hb (of_decide_eq_true hb2)) (o_ hq11 (o_ hq11 o0))))))
  apply ku 210027 hq11
  apply kk (vwhenT2 b (of_decide_eq_true hb2))
  apply kr 29 (show ((b.w - 1) != (b.w - 1)) = false from by simp)
  apply kk (rruns2_eq (vb b))
  apply ku 330034 hb2
  apply kk (vwhenT2 b (of_decide_eq_true hb2))
  apply ki 43
  intro hb3
  apply kk (vwhenT2 b (of_decide_eq_true hb2))
  apply kf [.callL (.bool false) [], .callL (.bool false) [], .callL (.int .i64 (-1)) []] (o_ (runs3_eq b) (o_ (rruns3_eq (vb b)) (o_ (due3_eq b) o0)))
  apply kk (rwhen3_eq (vb b))
  apply kk (rruns3_eq (vb b))
  apply kf [.callL (.bool false) [], .callL (.bool false) [], .callL (.int .i64 (-1)) []] (o_ (runs4_eq b) (o_ (rruns4_eq (vb b)) (o_ (due4_eq b) o0)))
  apply kk (rwhen4_eq (vb b))
  apply kk (rruns4_eq (vb b))
  apply kf [.callL (.bool false) [], .callL (.bool false) [], .callL (.int .i64 (-1)) []] (o_ (runs5_eq b) (o_ (rruns5_eq (vb b)) (o_ (due5_eq b) o0)))
  apply kk (rwhen5_eq (vb b))
  apply kk (rruns5_eq (vb b))
  apply kf [.callL (.bool false) [], .callL (.bool false) [], .callL (.int .i64 (-1)) []] (o_ (runs6_eq b) (o_ (rruns6_eq (vb b)) (o_ (due6_eq b) o0)))
  apply kk (rwhen6_eq (vb b))
  apply kk (rruns6_eq (vb b))
  apply kf [.callL (.bool false) [], .callL (.bool false) [], .callL (.int .i64 (-1)) []] (o_ (runs7_eq b) (o_ (rruns7_eq (vb b)) (o_ (due7_eq b) o0)))
  apply kk (rwhen7_eq (vb b))
  apply kk (rruns7_eq (vb b))
  apply kf [.callL (.bool false) [], .callL (.bool false) [], .callL (.int .i64 (-1)) []] (o_ (runs8_eq b) (o_ (rruns8_eq (vb b)) (o_ (due8_eq b) o0)))
  apply kk (rwhen8_eq (vb b))
  apply kk (rruns8_eq (vb b))
  apply kf [.callL (.bool false) [], .callL (.bool false) [], .callL (.int .i64 (-1)) []] (o_ (runs9_eq b) (o_ (rruns9_eq (vb b)) (o_ (due9_eq b) o0)))
  apply kk (rwhen9_eq (vb b))
  apply kk (rruns9_eq (vb b))
  apply kd .inl
  apply kd .inl
  apply kf (gds 3 13 true []) (oN 3 hb0 o0)
  apply ku 130026 hb0
  apply kf [.is 11 (.int .i64 0)] (o_ (ieq .i64 (show (b.r == 0) = true by rw [zeq]; first | omega | (simp only [zor, zand, zorf, zandf, znt, znf, zeq, zne, zeqf, znef, zd, zdf] at *; omega))) o0)
  apply kf (gds 3 13 true []) (oN 3 hb2 o0)
  apply ku 130026 hb2
  apply ki 27
  intro hb4
  apply kk (vdueT2 b hb (of_decide_eq_true hb2))
  apply ku 550056 (show ((b.w - 1) == (b.w - 1)) = true from by simp)
  exact kl
  intro hb4
  apply kk (vdueT0 b hb (of_decide_eq_true hb0))
  apply kbool
  apply kj 550056
  intro hb5
  exact kl
  intro hb5
  exact kl
  intro hb3
  apply kf [.callL (.bool false) [], .callL (.bool false) [], .callL (.int .i64 (-1)) []] (o_ (runs3_eq b) (o_ (rruns3_eq (vb b)) (o_ (due3_eq b) o0)))
  apply kk (rwhen3_eq (vb b))
  apply kk (rruns3_eq (vb b))
  apply kf [.callL (.bool false) [], .callL (.bool false) [], .callL (.int .i64 (-1)) []] (o_ (runs4_eq b) (o_ (rruns4_eq (vb b)) (o_ (due4_eq b) o0)))
  apply kk (rwhen4_eq (vb b))
  apply kk (rruns4_eq (vb b))
  apply kf [.callL (.bool false) [], .callL (.bool false) [], .callL (.int .i64 (-1)) []] (o_ (runs5_eq b) (o_ (rruns5_eq (vb b)) (o_ (due5_eq b) o0)))
  apply kk (rwhen5_eq (vb b))
  apply kk (rruns5_eq (vb b))
  apply kf [.callL (.bool false) [], .callL (.bool false) [], .callL (.int .i64 (-1)) []] (o_ (runs6_eq b) (o_ (rruns6_eq (vb b)) (o_ (due6_eq b) o0)))
  apply kk (rwhen6_eq (vb b))
  apply kk (rruns6_eq (vb b))
  apply kf [.callL (.bool false) [], .callL (.bool false) [], .callL (.int .i64 (-1)) []] (o_ (runs7_eq b) (o_ (rruns7_eq (vb b)) (o_ (due7_eq b) o0)))
  apply kk (rwhen7_eq (vb b))
  apply kk (rruns7_eq (vb b))
  apply kf [.callL (.bool false) [], .callL (.bool false) [], .callL (.int .i64 (-1)) []] (o_ (runs8_eq b) (o_ (rruns8_eq (vb b)) (o_ (due8_eq b) o0)))
  apply kk (rwhen8_eq (vb b))
  apply kk (rruns8_eq (vb b))
  apply kf [.callL (.bool false) [], .callL (.bool false) [], .callL (.int .i64 (-1)) []] (o_ (runs9_eq b) (o_ (rruns9_eq (vb b)) (o_ (due9_eq b) o0)))
  apply kk (rwhen9_eq (vb b))
  apply kk (rruns9_eq (vb b))
  apply kd .inl
  apply kd .inl
  apply kf (gds 3 13 true []) (oN 3 hb0 o0)
  apply ku 130026 hb0
  apply kf [.is 11 (.int .i64 0)] (o_ (ieq .i64 (show (b.r == 0) = true by rw [zeq]; first | omega | (simp only [zor, zand, zorf, zandf, znt, znf, zeq, zne, zeqf, znef, zd, zdf] at *; omega))) o0)
  apply kf (gds 3 13 true []) (oN 3 hb2 o0)
  apply ku 130026 hb2
  apply ki 27
  intro hb4
  apply kk (vdueT2 b hb (of_decide_eq_true hb2))
  apply kbool
  apply kj 550056
  intro hb5
  exact kl
  intro hb5
  exact kl
  intro hb4
  apply kk (vdueT0 b hb (of_decide_eq_true hb0))
  apply ku 550056 (show ((b.g - 1) == (b.g - 1)) = true from by simp)
  exact kl
  intro hb2
  apply kf [.callL (.bool false) [], .callL (.bool false) [], .callL (.int .i64 (-1)) []] (o_ (runsm1_eq b) (o_ (rrunsm1_eq (vb b)) (o_ (duem1_eq b) o0)))
  apply kk (rwhenm1_eq (vb b))
  apply kk (rrunsm1_eq (vb b))
  have hq12 := (show (!((decide (b.g > 0)) == (decide (b.g > 0)))) = false from by simp [*])
  apply kf (.callL (.bool (decide (b.g > 0))) [] :: .callL (.bool (decide (b.g > 0))) [] :: gds 3 21 false (.callL (.int .i64 (b.g - 1)) [] :: .gd 21 false :: [.gd 21 false])) (o_ (runs0_eq b) (o_ (rruns0_eq (vb b)) (oN 3 hq12 (o_ (vdueT0 b hb (of_decide_eq_true hb0)) (o_ hq12 (o_ hq12 o0))))))
  apply ku 210027 hq12
  apply kk (vwhenT0 b (of_decide_eq_true hb0))
  apply kr 29 (show ((b.g - 1) != (b.g - 1)) = false from by simp)
  apply kk (rruns0_eq (vb b))
  apply ku 330034 hb0
  apply kk (vwhenT0 b (of_decide_eq_true hb0))
  have hq13 := (show (!((decide (b.r > 0)) == (decide (b.r > 0)))) = false from by simp [*])
  apply kf (.callL (.bool (decide (b.r > 0))) [] :: .callL (.bool (decide (b.r > 0))) [] :: gds 3 21 false (.callL (.int .i64 (-1)) [] :: .gd 21 false :: [.gd 21 false])) (o_ (runs1_eq b) (o_ (rruns1_eq (vb b)) (oN 3 hq13 (o_ (vdueF1 b hb (of_decide_eq_false hb1)) (o_ hq13 (o_ hq13 o0))))))
  apply ku 210027 hq13
  apply kk (vwhenF1 b (of_decide_eq_false hb1))
  apply kk (rruns1_eq (vb b))
  apply ku 330034 hb1
  have hq14 := (show (!((decide (b.w > 0)) == (decide (b.w > 0)))) = false from by simp [*])
  apply kf (.callL (.bool (decide (b.w > 0))) [] :: .callL (.bool (decide (b.w > 0))) [] :: gds 3 21 false (.callL (.int .i64 (-1)) [] :: .gd 21 false :: [.gd 21 false])) (o_ (runs2_eq b) (o_ (rruns2_eq (vb b)) (oN 3 hq14 (o_ (vdueF2 b hb (of_decide_eq_false hb2)) (o_ hq14 (o_ hq14 o0))))))
  apply ku 210027 hq14
  apply kk (vwhenF2 b (of_decide_eq_false hb2))
  apply kk (rruns2_eq (vb b))
  apply ku 330034 hb2
  apply kf [.callL (.bool false) [], .callL (.bool false) [], .callL (.int .i64 (-1)) []] (o_ (runs3_eq b) (o_ (rruns3_eq (vb b)) (o_ (due3_eq b) o0)))
  apply kk (rwhen3_eq (vb b))
  apply kk (rruns3_eq (vb b))
  apply kf [.callL (.bool false) [], .callL (.bool false) [], .callL (.int .i64 (-1)) []] (o_ (runs4_eq b) (o_ (rruns4_eq (vb b)) (o_ (due4_eq b) o0)))
  apply kk (rwhen4_eq (vb b))
  apply kk (rruns4_eq (vb b))
  apply kf [.callL (.bool false) [], .callL (.bool false) [], .callL (.int .i64 (-1)) []] (o_ (runs5_eq b) (o_ (rruns5_eq (vb b)) (o_ (due5_eq b) o0)))
  apply kk (rwhen5_eq (vb b))
  apply kk (rruns5_eq (vb b))
  apply kf [.callL (.bool false) [], .callL (.bool false) [], .callL (.int .i64 (-1)) []] (o_ (runs6_eq b) (o_ (rruns6_eq (vb b)) (o_ (due6_eq b) o0)))
  apply kk (rwhen6_eq (vb b))
  apply kk (rruns6_eq (vb b))
  apply kf [.callL (.bool false) [], .callL (.bool false) [], .callL (.int .i64 (-1)) []] (o_ (runs7_eq b) (o_ (rruns7_eq (vb b)) (o_ (due7_eq b) o0)))
  apply kk (rwhen7_eq (vb b))
  apply kk (rruns7_eq (vb b))
  apply kf [.callL (.bool false) [], .callL (.bool false) [], .callL (.int .i64 (-1)) []] (o_ (runs8_eq b) (o_ (rruns8_eq (vb b)) (o_ (due8_eq b) o0)))
  apply kk (rwhen8_eq (vb b))
  apply kk (rruns8_eq (vb b))
  apply kf [.callL (.bool false) [], .callL (.bool false) [], .callL (.int .i64 (-1)) []] (o_ (runs9_eq b) (o_ (rruns9_eq (vb b)) (o_ (due9_eq b) o0)))
  apply kk (rwhen9_eq (vb b))
  apply kk (rruns9_eq (vb b))
  apply kd .inl
  apply kd .inl
  apply kf (gds 3 13 true []) (oN 3 hb0 o0)
  apply ku 130026 hb0
  apply kf [.is 11 (.int .i64 0)] (o_ (ieq .i64 (show (b.r == 0) = true by rw [zeq]; first | omega | (simp only [zor, zand, zorf, zandf, znt, znf, zeq, zne, zeqf, znef, zd, zdf] at *; omega))) o0)
  apply kf [.is 11 (.int .i64 0)] (o_ (ieq .i64 (show (b.w == 0) = true by rw [zeq]; first | omega | (simp only [zor, zand, zorf, zandf, znt, znf, zeq, zne, zeqf, znef, zd, zdf] at *; omega))) o0)
  apply kk (vdueT0 b hb (of_decide_eq_true hb0))
  apply ku 550056 (show ((b.g - 1) == (b.g - 1)) = true from by simp)
  exact kl
  intro hb0
  apply kand
  apply kc
  intro hb1
  apply kc
  intro hb2
  apply kf [.callL (.bool false) [], .callL (.bool false) [], .callL (.int .i64 (-1)) []] (o_ (runsm1_eq b) (o_ (rrunsm1_eq (vb b)) (o_ (duem1_eq b) o0)))
  apply kk (rwhenm1_eq (vb b))
  apply kk (rrunsm1_eq (vb b))
  have hq15 := (show (!((decide (b.g > 0)) == (decide (b.g > 0)))) = false from by simp [*])
  apply kf (.callL (.bool (decide (b.g > 0))) [] :: .callL (.bool (decide (b.g > 0))) [] :: gds 3 21 false (.callL (.int .i64 (-1)) [] :: .gd 21 false :: [.gd 21 false])) (o_ (runs0_eq b) (o_ (rruns0_eq (vb b)) (oN 3 hq15 (o_ (vdueF0 b hb (of_decide_eq_false hb0)) (o_ hq15 (o_ hq15 o0))))))
  apply ku 210027 hq15
  apply kk (vwhenF0 b (of_decide_eq_false hb0))
  apply kk (rruns0_eq (vb b))
  apply ku 330034 hb0
  have hq16 := (show (!((decide (b.r > 0)) == (decide (b.r > 0)))) = false from by simp [*])
  apply kf (.callL (.bool (decide (b.r > 0))) [] :: .callL (.bool (decide (b.r > 0))) [] :: gds 3 21 false (.callL (.int .i64 (b.r - 1)) [] :: .gd 21 false :: [.gd 21 false])) (o_ (runs1_eq b) (o_ (rruns1_eq (vb b)) (oN 3 hq16 (o_ (vdueT1 b hb (of_decide_eq_true hb1)) (o_ hq16 (o_ hq16 o0))))))
  apply ku 210027 hq16
  apply kk (vwhenT1 b (of_decide_eq_true hb1))
  apply kr 29 (show ((b.r - 1) != (b.r - 1)) = false from by simp)
  apply kk (rruns1_eq (vb b))
  apply ku 330034 hb1
  apply kk (vwhenT1 b (of_decide_eq_true hb1))
  have hq17 := (show (!((decide (b.w > 0)) == (decide (b.w > 0)))) = false from by simp [*])
  apply kf (.callL (.bool (decide (b.w > 0))) [] :: .callL (.bool (decide (b.w > 0))) [] :: gds 3 21 false (.callL (.int .i64 (b.w - 1)) [] :: .gd 21 false :: [.gd 21 false])) (o_ (runs2_eq b) (o_ (rruns2_eq (vb b)) (oN 3 hq17 (o_ (vdueT2 b hb (of_decide_eq_true hb2)) (o_ hq17 (o_ hq17 o0))))))
  apply ku 210027 hq17
  apply kk (vwhenT2 b (of_decide_eq_true hb2))
  apply kr 29 (show ((b.w - 1) != (b.w - 1)) = false from by simp)
  apply kk (rruns2_eq (vb b))
  apply ku 330034 hb2
  apply kk (vwhenT2 b (of_decide_eq_true hb2))
  apply ki 43
  intro hb3
  apply kk (vwhenT2 b (of_decide_eq_true hb2))
  apply kf [.callL (.bool false) [], .callL (.bool false) [], .callL (.int .i64 (-1)) []] (o_ (runs3_eq b) (o_ (rruns3_eq (vb b)) (o_ (due3_eq b) o0)))
  apply kk (rwhen3_eq (vb b))
  apply kk (rruns3_eq (vb b))
  apply kf [.callL (.bool false) [], .callL (.bool false) [], .callL (.int .i64 (-1)) []] (o_ (runs4_eq b) (o_ (rruns4_eq (vb b)) (o_ (due4_eq b) o0)))
  apply kk (rwhen4_eq (vb b))
  apply kk (rruns4_eq (vb b))
  apply kf [.callL (.bool false) [], .callL (.bool false) [], .callL (.int .i64 (-1)) []] (o_ (runs5_eq b) (o_ (rruns5_eq (vb b)) (o_ (due5_eq b) o0)))
  apply kk (rwhen5_eq (vb b))
  apply kk (rruns5_eq (vb b))
  apply kf [.callL (.bool false) [], .callL (.bool false) [], .callL (.int .i64 (-1)) []] (o_ (runs6_eq b) (o_ (rruns6_eq (vb b)) (o_ (due6_eq b) o0)))
  apply kk (rwhen6_eq (vb b))
  apply kk (rruns6_eq (vb b))
  apply kf [.callL (.bool false) [], .callL (.bool false) [], .callL (.int .i64 (-1)) []] (o_ (runs7_eq b) (o_ (rruns7_eq (vb b)) (o_ (due7_eq b) o0)))
  apply kk (rwhen7_eq (vb b))
  apply kk (rruns7_eq (vb b))
  apply kf [.callL (.bool false) [], .callL (.bool false) [], .callL (.int .i64 (-1)) []] (o_ (runs8_eq b) (o_ (rruns8_eq (vb b)) (o_ (due8_eq b) o0)))
  apply kk (rwhen8_eq (vb b))
  apply kk (rruns8_eq (vb b))
  apply kf [.callL (.bool false) [], .callL (.bool false) [], .callL (.int .i64 (-1)) []] (o_ (runs9_eq b) (o_ (rruns9_eq (vb b)) (o_ (due9_eq b) o0)))
  apply kk (rwhen9_eq (vb b))
  apply kk (rruns9_eq (vb b))
  apply kd .inl
  apply kd .inl
  apply kf [.is 11 (.int .i64 0)] (o_ (ieq .i64 (show (b.g == 0) = true by rw [zeq]; first | omega | (simp only [zor, zand, zorf, zandf, znt, znf, zeq, zne, zeqf, znef, zd, zdf] at *; omega))) o0)
  apply kf (gds 3 13 true []) (oN 3 hb1 o0)
  apply ku 130026 hb1
  apply kf (gds 3 13 true []) (oN 3 hb2 o0)
  apply ku 130026 hb2
  apply ki 27
  intro hb4
  apply kk (vdueT2 b hb (of_decide_eq_true hb2))
  apply ku 550056 (show ((b.w - 1) == (b.w - 1)) = true from by simp)
  exact kl
  intro hb4
  apply kk (vdueT1 b hb (of_decide_eq_true hb1))
  apply kbool
  apply kj 550056
  intro hb5
  exact kl
  intro hb5
  exact kl
  intro hb3
  apply kf [.callL (.bool false) [], .callL (.bool false) [], .callL (.int .i64 (-1)) []] (o_ (runs3_eq b) (o_ (rruns3_eq (vb b)) (o_ (due3_eq b) o0)))
  apply kk (rwhen3_eq (vb b))
  apply kk (rruns3_eq (vb b))
  apply kf [.callL (.bool false) [], .callL (.bool false) [], .callL (.int .i64 (-1)) []] (o_ (runs4_eq b) (o_ (rruns4_eq (vb b)) (o_ (due4_eq b) o0)))
  apply kk (rwhen4_eq (vb b))
  apply kk (rruns4_eq (vb b))
  apply kf [.callL (.bool false) [], .callL (.bool false) [], .callL (.int .i64 (-1)) []] (o_ (runs5_eq b) (o_ (rruns5_eq (vb b)) (o_ (due5_eq b) o0)))
  apply kk (rwhen5_eq (vb b))
  apply kk (rruns5_eq (vb b))
  apply kf [.callL (.bool false) [], .callL (.bool false) [], .callL (.int .i64 (-1)) []] (o_ (runs6_eq b) (o_ (rruns6_eq (vb b)) (o_ (due6_eq b) o0)))
  apply kk (rwhen6_eq (vb b))
  apply kk (rruns6_eq (vb b))
  apply kf [.callL (.bool false) [], .callL (.bool false) [], .callL (.int .i64 (-1)) []] (o_ (runs7_eq b) (o_ (rruns7_eq (vb b)) (o_ (due7_eq b) o0)))
  apply kk (rwhen7_eq (vb b))
  apply kk (rruns7_eq (vb b))
  apply kf [.callL (.bool false) [], .callL (.bool false) [], .callL (.int .i64 (-1)) []] (o_ (runs8_eq b) (o_ (rruns8_eq (vb b)) (o_ (due8_eq b) o0)))
  apply kk (rwhen8_eq (vb b))
  apply kk (rruns8_eq (vb b))
  apply kf [.callL (.bool false) [], .callL (.bool false) [], .callL (.int .i64 (-1)) []] (o_ (runs9_eq b) (o_ (rruns9_eq (vb b)) (o_ (due9_eq b) o0)))
  apply kk (rwhen9_eq (vb b))
  apply kk (rruns9_eq (vb b))
  apply kd .inl
  apply kd .inl
  apply kf [.is 11 (.int .i64 0)] (o_ (ieq .i64 (show (b.g == 0) = true by rw [zeq]; first | omega | (simp only [zor, zand, zorf, zandf, znt, znf, zeq, zne, zeqf, znef, zd, zdf] at *; omega))) o0)
  apply kf (gds 3 13 true []) (oN 3 hb1 o0)
  apply ku 130026 hb1
  apply kf (gds 3 13 true []) (oN 3 hb2 o0)
  apply ku 130026 hb2
  apply ki 27
  intro hb4
  apply kk (vdueT2 b hb (of_decide_eq_true hb2))
  apply kbool
  apply kj 550056
  intro hb5
  exact kl
  intro hb5
  exact kl
  intro hb4
  apply kk (vdueT1 b hb (of_decide_eq_true hb1))
  apply ku 550056 (show ((b.r - 1) == (b.r - 1)) = true from by simp)
  exact kl
  intro hb2
  apply kf [.callL (.bool false) [], .callL (.bool false) [], .callL (.int .i64 (-1)) []] (o_ (runsm1_eq b) (o_ (rrunsm1_eq (vb b)) (o_ (duem1_eq b) o0)))
  apply kk (rwhenm1_eq (vb b))
  apply kk (rrunsm1_eq (vb b))
  have hq18 := (show (!((decide (b.g > 0)) == (decide (b.g > 0)))) = false from by simp [*])
  apply kf (.callL (.bool (decide (b.g > 0))) [] :: .callL (.bool (decide (b.g > 0))) [] :: gds 3 21 false (.callL (.int .i64 (-1)) [] :: .gd 21 false :: [.gd 21 false])) (o_ (runs0_eq b) (o_ (rruns0_eq (vb b)) (oN 3 hq18 (o_ (vdueF0 b hb (of_decide_eq_false hb0)) (o_ hq18 (o_ hq18 o0))))))
  apply ku 210027 hq18
  apply kk (vwhenF0 b (of_decide_eq_false hb0))
  apply kk (rruns0_eq (vb b))
  apply ku 330034 hb0
  have hq19 := (show (!((decide (b.r > 0)) == (decide (b.r > 0)))) = false from by simp [*])
  apply kf (.callL (.bool (decide (b.r > 0))) [] :: .callL (.bool (decide (b.r > 0))) [] :: gds 3 21 false (.callL (.int .i64 (b.r - 1)) [] :: .gd 21 false :: [.gd 21 false])) (o_ (runs1_eq b) (o_ (rruns1_eq (vb b)) (oN 3 hq19 (o_ (vdueT1 b hb (of_decide_eq_true hb1)) (o_ hq19 (o_ hq19 o0))))))
  apply ku 210027 hq19
  apply kk (vwhenT1 b (of_decide_eq_true hb1))
  apply kr 29 (show ((b.r - 1) != (b.r - 1)) = false from by simp)
  apply kk (rruns1_eq (vb b))
  apply ku 330034 hb1
  apply kk (vwhenT1 b (of_decide_eq_true hb1))
  have hq20 := (show (!((decide (b.w > 0)) == (decide (b.w > 0)))) = false from by simp [*])
  apply kf (.callL (.bool (decide (b.w > 0))) [] :: .callL (.bool (decide (b.w > 0))) [] :: gds 3 21 false (.callL (.int .i64 (-1)) [] :: .gd 21 false :: [.gd 21 false])) (o_ (runs2_eq b) (o_ (rruns2_eq (vb b)) (oN 3 hq20 (o_ (vdueF2 b hb (of_decide_eq_false hb2)) (o_ hq20 (o_ hq20 o0))))))
  apply ku 210027 hq20
  apply kk (vwhenF2 b (of_decide_eq_false hb2))
  apply kk (rruns2_eq (vb b))
  apply ku 330034 hb2
  apply kf [.callL (.bool false) [], .callL (.bool false) [], .callL (.int .i64 (-1)) []] (o_ (runs3_eq b) (o_ (rruns3_eq (vb b)) (o_ (due3_eq b) o0)))
  apply kk (rwhen3_eq (vb b))
  apply kk (rruns3_eq (vb b))
  apply kf [.callL (.bool false) [], .callL (.bool false) [], .callL (.int .i64 (-1)) []] (o_ (runs4_eq b) (o_ (rruns4_eq (vb b)) (o_ (due4_eq b) o0)))
  apply kk (rwhen4_eq (vb b))
  apply kk (rruns4_eq (vb b))
  apply kf [.callL (.bool false) [], .callL (.bool false) [], .callL (.int .i64 (-1)) []] (o_ (runs5_eq b) (o_ (rruns5_eq (vb b)) (o_ (due5_eq b) o0)))
  apply kk (rwhen5_eq (vb b))
  apply kk (rruns5_eq (vb b))
  apply kf [.callL (.bool false) [], .callL (.bool false) [], .callL (.int .i64 (-1)) []] (o_ (runs6_eq b) (o_ (rruns6_eq (vb b)) (o_ (due6_eq b) o0)))
  apply kk (rwhen6_eq (vb b))
  apply kk (rruns6_eq (vb b))
  apply kf [.callL (.bool false) [], .callL (.bool false) [], .callL (.int .i64 (-1)) []] (o_ (runs7_eq b) (o_ (rruns7_eq (vb b)) (o_ (due7_eq b) o0)))
  apply kk (rwhen7_eq (vb b))
  apply kk (rruns7_eq (vb b))
  apply kf [.callL (.bool false) [], .callL (.bool false) [], .callL (.int .i64 (-1)) []] (o_ (runs8_eq b) (o_ (rruns8_eq (vb b)) (o_ (due8_eq b) o0)))
  apply kk (rwhen8_eq (vb b))
  apply kk (rruns8_eq (vb b))
  apply kf [.callL (.bool false) [], .callL (.bool false) [], .callL (.int .i64 (-1)) []] (o_ (runs9_eq b) (o_ (rruns9_eq (vb b)) (o_ (due9_eq b) o0)))
  apply kk (rwhen9_eq (vb b))
  apply kk (rruns9_eq (vb b))
  apply kd .inl
  apply kd .inl
  apply kf [.is 11 (.int .i64 0)] (o_ (ieq .i64 (show (b.g == 0) = true by rw [zeq]; first | omega | (simp only [zor, zand, zorf, zandf, znt, znf, zeq, zne, zeqf, znef, zd, zdf] at *; omega))) o0)
  apply kf (gds 3 13 true []) (oN 3 hb1 o0)
  apply ku 130026 hb1
  apply kf [.is 11 (.int .i64 0)] (o_ (ieq .i64 (show (b.w == 0) = true by rw [zeq]; first | omega | (simp only [zor, zand, zorf, zandf, znt, znf, zeq, zne, zeqf, znef, zd, zdf] at *; omega))) o0)
  apply kk (vdueT1 b hb (of_decide_eq_true hb1))
  apply ku 550056 (show ((b.r - 1) == (b.r - 1)) = true from by simp)
  exact kl
  intro hb1
  apply kcs (decide (b.w > 0))
  intro hb2
  apply kf [.callL (.bool false) [], .callL (.bool false) [], .callL (.int .i64 (-1)) []] (o_ (runsm1_eq b) (o_ (rrunsm1_eq (vb b)) (o_ (duem1_eq b) o0)))
  apply kk (rwhenm1_eq (vb b))
  apply kk (rrunsm1_eq (vb b))
  have hq21 := (show (!((decide (b.g > 0)) == (decide (b.g > 0)))) = false from by simp [*])
  apply kf (.callL (.bool (decide (b.g > 0))) [] :: .callL (.bool (decide (b.g > 0))) [] :: gds 3 21 false (.callL (.int .i64 (-1)) [] :: .gd 21 false :: [.gd 21 false])) (o_ (runs0_eq b) (o_ (rruns0_eq (vb b)) (oN 3 hq21 (o_ (vdueF0 b hb (of_decide_eq_false hb0)) (o_ hq21 (o_ hq21 o0))))))
  apply ku 210027 hq21
  apply kk (vwhenF0 b (of_decide_eq_false hb0))
  apply kk (rruns0_eq (vb b))
  apply ku 330034 hb0
  have hq22 := (show (!((decide (b.r > 0)) == (decide (b.r > 0)))) = false from by simp [*])
  apply kf (.callL (.bool (decide (b.r > 0))) [] :: .callL (.bool (decide (b.r > 0))) [] :: gds 3 21 false (.callL (.int .i64 (-1)) [] :: .gd 21 false :: [.gd 21 false])) (o_ (runs1_eq b) (o_ (rruns1_eq (vb b)) (oN 3 hq22 (o_ (vdueF1 b hb (of_decide_eq_false hb1)) (o_ hq22 (o_ hq22 o0))))))
  apply ku 210027 hq22
  apply kk (vwhenF1 b (of_decide_eq_false hb1))
  apply kk (rruns1_eq (vb b))
  apply ku 330034 hb1
  have hq23 := (show (!((decide (b.w > 0)) == (decide (b.w > 0)))) = false from by simp [*])
  apply kf (.callL (.bool (decide (b.w > 0))) [] :: .callL (.bool (decide (b.w > 0))) [] :: gds 3 21 false (.callL (.int .i64 (b.w - 1)) [] :: .gd 21 false :: [.gd 21 false])) (o_ (runs2_eq b) (o_ (rruns2_eq (vb b)) (oN 3 hq23 (o_ (vdueT2 b hb (of_decide_eq_true hb2)) (o_ hq23 (o_ hq23 o0))))))
  apply ku 210027 hq23
  apply kk (vwhenT2 b (of_decide_eq_true hb2))
  apply kr 29 (show ((b.w - 1) != (b.w - 1)) = false from by simp)
  apply kk (rruns2_eq (vb b))
  apply ku 330034 hb2
  apply kk (vwhenT2 b (of_decide_eq_true hb2))
  apply kf [.callL (.bool false) [], .callL (.bool false) [], .callL (.int .i64 (-1)) []] (o_ (runs3_eq b) (o_ (rruns3_eq (vb b)) (o_ (due3_eq b) o0)))
  apply kk (rwhen3_eq (vb b))
  apply kk (rruns3_eq (vb b))
  apply kf [.callL (.bool false) [], .callL (.bool false) [], .callL (.int .i64 (-1)) []] (o_ (runs4_eq b) (o_ (rruns4_eq (vb b)) (o_ (due4_eq b) o0)))
  apply kk (rwhen4_eq (vb b))
  apply kk (rruns4_eq (vb b))
  apply kf [.callL (.bool false) [], .callL (.bool false) [], .callL (.int .i64 (-1)) []] (o_ (runs5_eq b) (o_ (rruns5_eq (vb b)) (o_ (due5_eq b) o0)))
  apply kk (rwhen5_eq (vb b))
  apply kk (rruns5_eq (vb b))
  apply kf [.callL (.bool false) [], .callL (.bool false) [], .callL (.int .i64 (-1)) []] (o_ (runs6_eq b) (o_ (rruns6_eq (vb b)) (o_ (due6_eq b) o0)))
  apply kk (rwhen6_eq (vb b))
  apply kk (rruns6_eq (vb b))
  apply kf [.callL (.bool false) [], .callL (.bool false) [], .callL (.int .i64 (-1)) []] (o_ (runs7_eq b) (o_ (rruns7_eq (vb b)) (o_ (due7_eq b) o0)))
  apply kk (rwhen7_eq (vb b))
  apply kk (rruns7_eq (vb b))
  apply kf [.callL (.bool false) [], .callL (.bool false) [], .callL (.int .i64 (-1)) []] (o_ (runs8_eq b) (o_ (rruns8_eq (vb b)) (o_ (due8_eq b) o0)))
  apply kk (rwhen8_eq (vb b))
  apply kk (rruns8_eq (vb b))
  apply kf [.callL (.bool false) [], .callL (.bool false) [], .callL (.int .i64 (-1)) []] (o_ (runs9_eq b) (o_ (rruns9_eq (vb b)) (o_ (due9_eq b) o0)))
  apply kk (rwhen9_eq (vb b))
  apply kk (rruns9_eq (vb b))
  apply kd .inl
  apply kd .inl
  apply kf [.is 11 (.int .i64 0)] (o_ (ieq .i64 (show (b.g == 0) = true by rw [zeq]; first | omega | (simp only [zor, zand, zorf, zandf, znt, znf, zeq, zne, zeqf, znef, zd, zdf] at *; omega))) o0)
  apply kf [.is 11 (.int .i64 0)] (o_ (ieq .i64 (show (b.r == 0) = true by rw [zeq]; first | omega | (simp only [zor, zand, zorf, zandf, znt, znf, zeq, zne, zeqf, znef, zd, zdf] at *; omega))) o0)
  apply kf (gds 3 13 true []) (oN 3 hb2 o0)
  apply ku 130026 hb2
  apply kk (vdueT2 b hb (of_decide_eq_true hb2))
  apply ku 550056 (show ((b.w - 1) == (b.w - 1)) = true from by simp)
  exact kl
  intro hb2
  apply kf [.callL (.bool false) [], .callL (.bool false) [], .callL (.int .i64 (-1)) []] (o_ (runsm1_eq b) (o_ (rrunsm1_eq (vb b)) (o_ (duem1_eq b) o0)))
  apply kk (rwhenm1_eq (vb b))
  apply kk (rrunsm1_eq (vb b))
  have hq24 := (show (!((decide (b.g > 0)) == (decide (b.g > 0)))) = false from by simp [*])
  apply kf (.callL (.bool (decide (b.g > 0))) [] :: .callL (.bool (decide (b.g > 0))) [] :: gds 3 21 false (.callL (.int .i64 (-1)) [] :: .gd 21 false :: [.gd 21 false])) (o_ (runs0_eq b) (o_ (rruns0_eq (vb b)) (oN 3 hq24 (o_ (vdueF0 b hb (of_decide_eq_false hb0)) (o_ hq24 (o_ hq24 o0))))))
  apply ku 210027 hq24
  apply kk (vwhenF0 b (of_decide_eq_false hb0))
  apply kk (rruns0_eq (vb b))
  apply ku 330034 hb0
  have hq25 := (show (!((decide (b.r > 0)) == (decide (b.r > 0)))) = false from by simp [*])
  apply kf (.callL (.bool (decide (b.r > 0))) [] :: .callL (.bool (decide (b.r > 0))) [] :: gds 3 21 false (.callL (.int .i64 (-1)) [] :: .gd 21 false :: [.gd 21 false])) (o_ (runs1_eq b) (o_ (rruns1_eq (vb b)) (oN 3 hq25 (o_ (vdueF1 b hb (of_decide_eq_false hb1)) (o_ hq25 (o_ hq25 o0))))))
  apply ku 210027 hq25
  apply kk (vwhenF1 b (of_decide_eq_false hb1))
  apply kk (rruns1_eq (vb b))
  apply ku 330034 hb1
  have hq26 := (show (!((decide (b.w > 0)) == (decide (b.w > 0)))) = false from by simp [*])
  apply kf (.callL (.bool (decide (b.w > 0))) [] :: .callL (.bool (decide (b.w > 0))) [] :: gds 3 21 false (.callL (.int .i64 (-1)) [] :: .gd 21 false :: [.gd 21 false])) (o_ (runs2_eq b) (o_ (rruns2_eq (vb b)) (oN 3 hq26 (o_ (vdueF2 b hb (of_decide_eq_false hb2)) (o_ hq26 (o_ hq26 o0))))))
  apply ku 210027 hq26
  apply kk (vwhenF2 b (of_decide_eq_false hb2))
  apply kk (rruns2_eq (vb b))
  apply ku 330034 hb2
  apply kf [.callL (.bool false) [], .callL (.bool false) [], .callL (.int .i64 (-1)) []] (o_ (runs3_eq b) (o_ (rruns3_eq (vb b)) (o_ (due3_eq b) o0)))
  apply kk (rwhen3_eq (vb b))
  apply kk (rruns3_eq (vb b))
  apply kf [.callL (.bool false) [], .callL (.bool false) [], .callL (.int .i64 (-1)) []] (o_ (runs4_eq b) (o_ (rruns4_eq (vb b)) (o_ (due4_eq b) o0)))
  apply kk (rwhen4_eq (vb b))
  apply kk (rruns4_eq (vb b))
  apply kf [.callL (.bool false) [], .callL (.bool false) [], .callL (.int .i64 (-1)) []] (o_ (runs5_eq b) (o_ (rruns5_eq (vb b)) (o_ (due5_eq b) o0)))
  apply kk (rwhen5_eq (vb b))
  apply kk (rruns5_eq (vb b))
  apply kf [.callL (.bool false) [], .callL (.bool false) [], .callL (.int .i64 (-1)) []] (o_ (runs6_eq b) (o_ (rruns6_eq (vb b)) (o_ (due6_eq b) o0)))
  apply kk (rwhen6_eq (vb b))
  apply kk (rruns6_eq (vb b))
  apply kf [.callL (.bool false) [], .callL (.bool false) [], .callL (.int .i64 (-1)) []] (o_ (runs7_eq b) (o_ (rruns7_eq (vb b)) (o_ (due7_eq b) o0)))
  apply kk (rwhen7_eq (vb b))
  apply kk (rruns7_eq (vb b))
  apply kf [.callL (.bool false) [], .callL (.bool false) [], .callL (.int .i64 (-1)) []] (o_ (runs8_eq b) (o_ (rruns8_eq (vb b)) (o_ (due8_eq b) o0)))
  apply kk (rwhen8_eq (vb b))
  apply kk (rruns8_eq (vb b))
  apply kf [.callL (.bool false) [], .callL (.bool false) [], .callL (.int .i64 (-1)) []] (o_ (runs9_eq b) (o_ (rruns9_eq (vb b)) (o_ (due9_eq b) o0)))
  apply kk (rwhen9_eq (vb b))
  apply kk (rruns9_eq (vb b))
  apply kd .inl
  apply kd .inl
  apply kf [.is 11 (.int .i64 0)] (o_ (ieq .i64 (show (b.g == 0) = true by rw [zeq]; first | omega | (simp only [zor, zand, zorf, zandf, znt, znf, zeq, zne, zeqf, znef, zd, zdf] at *; omega))) o0)
  apply kf [.is 11 (.int .i64 0)] (o_ (ieq .i64 (show (b.r == 0) = true by rw [zeq]; first | omega | (simp only [zor, zand, zorf, zandf, znt, znf, zeq, zne, zeqf, znef, zd, zdf] at *; omega))) o0)
  apply kf [.is 11 (.int .i64 0)] (o_ (ieq .i64 (show (b.w == 0) = true by rw [zeq]; first | omega | (simp only [zor, zand, zorf, zandf, znt, znf, zeq, zne, zeqf, znef, zd, zdf] at *; omega))) o0)
  exact kl
  kernel_rfl
  rfl

end Go.Proofs.E17
