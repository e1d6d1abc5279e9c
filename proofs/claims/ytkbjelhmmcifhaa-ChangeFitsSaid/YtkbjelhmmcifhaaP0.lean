/- The plain functions: what the gates' lists and a schedule tell. No condition. -/
import Derived.Test.YtkbjelhmmcifhaaB0
namespace Go.Proofs.Ytkbjelhmmcifhaa.CF
open Go.Proofs.Ytkbjelhmmcifhaa.PChangeFits (S71 S33 k71 k33 z71 z33 rd_T71)

/-- Of the entry in force so long behind a cycle's beginning: which classes may go, how long still; e, then r lie ahead, acc lies behind. -/
def gat (cyc into : Int) : S71 → List S71 → Int → Int × Int
  | e, [], _ => (e.f0, cyc - into)
  | e, e' :: r, acc => if cyc ≤ acc + e.f1 then (e.f0, cyc - into) else if into < acc + e.f1 then (e.f0, acc + e.f1 - into) else gat cyc into e' r (acc + e.f1)

def gatL (l : S33) (t : Int) : Int × Int :=
  match l.f3 with
  | [] => (0, 0)
  | e :: r => gat l.f1 ((t - l.f0) % l.f1) e r 0

def gState (l : S33) (t : Int) : Int := if t < l.f0 then 255 else (gatL l t).1
def gNext (l : S33) (t : Int) : Int := if t < l.f0 then l.f0 else t + (gatL l t).2
def gStart (l : S33) (t : Int) : Int := if t ≤ l.f0 then l.f0 else l.f0 + (t - l.f0 + l.f1 - 1) / l.f1 * l.f1

/-- A list that may be. -/
structure VL (l : S33) : Prop where
  b0 : 0 ≤ l.f0
  b1 : l.f0 < 4611686018427387904
  c0 : 1 ≤ l.f1
  c1 : l.f1 ≤ 1000000000
  x0 : 0 ≤ l.f2
  x1 : l.f2 ≤ 1000000000
  n0 : 1 ≤ l.f3.length
  n1 : l.f3.length ≤ 64
  es : ∀ e, e ∈ l.f3 → 0 ≤ e.f0 ∧ e.f0 ≤ 255 ∧ 1 ≤ e.f1 ∧ e.f1 ≤ 1000000000

def tailFrom (S : Sch) : Int := S.o.f0 + (S.at_ - S.o.f0) / S.o.f1 * S.o.f1
def tailOk (S : Sch) : Bool := S.waits && S.has && decide (S.o.f0 < S.at_) && decide (tailFrom S ≠ S.o.f0) && decide (tailFrom S ≠ S.at_) && decide (S.at_ - tailFrom S ≤ S.o.f2)
def movedF (S : Sch) : S33 := ⟨S.at_, S.a.f1, S.a.f2, S.a.f3⟩

/-- Which classes may go at a time. -/
def stF (S : Sch) (t : Int) : Int :=
  if S.waits = true ∧ S.at_ ≤ t then gState (movedF S) t
  else if tailOk S = true ∧ tailFrom S ≤ t then gState S.o (tailFrom S - 1)
  else if S.has = true then gState S.o t else 255
/-- When that may change next. -/
def nx0 (S : Sch) (t : Int) : Int :=
  if tailOk S = true ∧ tailFrom S ≤ t then -1
  else if S.has = true then (if tailOk S = true ∧ tailFrom S < gNext S.o t then tailFrom S else gNext S.o t) else -1
def nxF (S : Sch) (t : Int) : Int :=
  if S.waits = true ∧ S.at_ ≤ t then gNext (movedF S) t
  else if S.waits = true ∧ (nx0 S t < 0 ∨ S.at_ < nx0 S t) then S.at_ else nx0 S t

def stepsF (S : Sch) : Int := 2 * ((S.o.f3.length : Int) + S.a.f3.length) + 8
/-- The next edge; behind a whole cycle, the change; and how many edges are still to come. -/
def leapF (S : Sch) (t n : Int) : Int × Int :=
  if S.waits = true ∧ t < S.at_ ∧ nxF S t = S.at_ then (nxF S t, stepsF S)
  else if n = 1 ∧ S.waits = true ∧ 0 ≤ nxF S t ∧ nxF S t < S.at_ then
    (if tailOk S = true ∧ nxF S t < tailFrom S then (tailFrom S, stepsF S) else (S.at_, stepsF S))
  else (nxF S t, n - 1)
/-- Is a class open at a time? -/
def opn (S : Sch) (c t : Int) : Bool := decide (stF S t / 2 ^ c.toNat % 2 = 1)
def fromL (S : Sch) (c : Int) : Nat → Int → Int → Option Int
  | 0, _, _ => none
  | f + 1, t, n => if 0 < n ∧ 0 ≤ t then (if opn S c t = true then some t else fromL S c f (leapF S t n).1 (leapF S t n).2) else some (-1)
def untilL (S : Sch) (c : Int) : Nat → Int → Int → Option Int
  | 0, _, _ => none
  | f + 1, t, n => if 0 < n ∧ 0 ≤ t then (if opn S c t = false then some t else untilL S c f (leapF S t n).1 (leapF S t n).2) else some (-1)

end Go.Proofs.Ytkbjelhmmcifhaa.CF
