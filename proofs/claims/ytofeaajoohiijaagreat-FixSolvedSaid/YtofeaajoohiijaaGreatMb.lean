/- What the program's functions compute: sums. -/
import Derived.Test.YtofeaajoohiijaaGreatMa
namespace Go.TL
open Go

def smallM (n : Int) : Bool := decide (-4611686018427387904 ≤ n) && decide (n ≤ 4611686018427387904)
def mulM (a b : Int) : Int × Bool := if smallM a && smallM b && smallM (a * b) then (a * b, true) else (0, false)

def endM (d : Dom) (k : Int) (high : Bool) : Int × Bool :=
  let v := if decide (k > 0) == high then most d else least d
  ((mulM k v.1).1, v.2 && (mulM k v.1).2)

def floorM (a b : Int) : Int := if a.tmod b < 0 then w64 (w64 (a.tdiv b) - 1) else w64 (a.tdiv b)

def turnedM (l : List Int) : List Int := l.map fun k => w64 (-k)

/-- A variable's domain. -/
def at' (d : List Dom) (v : Int) : Dom := d.getD v.toNat []

def endsF (d : List Dom) : List Int → List Int → Int → Int → Int × Int × Bool
  | v :: vs, k :: ks, lo, hi =>
    if (endM (at' d v) k false).2 then endsF d vs ks (w64 (lo + (endM (at' d v) k false).1)) (w64 (hi + (endM (at' d v) k true).1)) else (0, 0, false)
  | _, _, lo, hi => (lo, hi, true)
def endsM (d : List Dom) (vs ks : List Int) : Int × Int × Bool := endsF d vs ks 0 0

/-- A variable's domain, by one term's ends. -/
def mostCut (x : Dom) (k rest : Int) : Dom := if k > 0 then cut x (-1048576) (floorM rest k) else cut x (w64 (-(floorM rest (w64 (-k))))) 1048576

def mostF (low rhs : Int) : List Int → List Int → List Dom → Bool → Bool × Bool × List Dom
  | v :: vs, k :: ks, d, ch =>
    if mostCut (at' d v) k (w64 (rhs - w64 (low - (endM (at' d v) k false).1))) = [] then (false, false, d)
    else mostF low rhs vs ks (d.set v.toNat (mostCut (at' d v) k (w64 (rhs - w64 (low - (endM (at' d v) k false).1))))) (ch || !decide (mostCut (at' d v) k (w64 (rhs - w64 (low - (endM (at' d v) k false).1))) = at' d v))
  | _, _, d, ch => (ch, true, d)
def mostM (d : List Dom) (vs ks : List Int) (rhs : Int) : Bool × Bool × List Dom := mostF (endsM d vs ks).1 rhs vs ks d false

end Go.TL
