/- What the program's functions compute: constraints' sums. -/
import Derived.Test.YtofeaajoohiijaaGreatMb
import Derived.Test.YtofeaajoohiijaaGreatDd
namespace Go.TL
open Go

def hasM (d : Dom) (v : Int) : Bool := d.any fun r => decide (r.lo ≤ v) && decide (v ≤ r.hi)

def soM (d : List Dom) (c : Con) : Bool :=
  if (endsM d c.vars c.coefs).2.2 = false then false
  else if c.op = 0 then decide ((endsM d c.vars c.coefs).2.1 ≤ c.rhs)
  else if c.op = 1 then decide ((endsM d c.vars c.coefs).1 = c.rhs) && decide ((endsM d c.vars c.coefs).2.1 = c.rhs)
  else decide (c.rhs < (endsM d c.vars c.coefs).1) || decide ((endsM d c.vars c.coefs).2.1 < c.rhs)

def notM (c : Con) : Con :=
  if c.op = 0 then { c with coefs := turnedM c.coefs, rhs := w64 (w64 (-c.rhs) - 1) }
  else if c.op = 1 then { c with op := 2 } else if c.op = 2 then { c with op := 1 } else c

def knownM (d : List Dom) (c : Con) : Bool × Bool := if soM d c then (true, true) else (false, soM d (notM c))

/-- The one variable with more values than one, by its place (-1: none), and the sum of the others; none: there are more. -/
def otherF (d : List Dom) : List Int → List Int → Int → Int → Int → Option (Int × Int)
  | v :: vs, k :: ks, i, op, s =>
    if size (at' d v) > 1 then (if op ≥ 0 then none else otherF d vs ks (i + 1) i s)
    else otherF d vs ks (i + 1) op (w64 (s + (endM (at' d v) k false).1))
  | _, _, _, op, s => some (op, s)
def otherM (d : List Dom) (c : Con) : Bool × List Dom :=
  match otherF d c.vars c.coefs 0 (-1) 0 with
  | none => (true, d)
  | some (op, s) =>
    if op < 0 then (decide (s ≠ c.rhs), d)
    else
      let v := c.vars.getD op.toNat 0
      let k := c.coefs.getD op.toNat 0
      let y := if (w64 (c.rhs - s)).tmod k = 0 then minus (at' d v) [⟨w64 ((w64 (c.rhs - s)).tdiv k), w64 ((w64 (c.rhs - s)).tdiv k)⟩] else at' d v
      (decide (y ≠ []), d.set v.toNat y)

/-- Rounds, until nothing changes. -/
def roundsM (c : Con) : Nat → List Dom → Option (Option (List Dom))
  | 0, _ => none
  | n + 1, d =>
    if (mostM d c.vars c.coefs c.rhs).2.1 = false then some none
    else if c.op = 0 then some (some (mostM d c.vars c.coefs c.rhs).2.2)
    else if (mostM (mostM d c.vars c.coefs c.rhs).2.2 c.vars (turnedM c.coefs) (w64 (-c.rhs))).2.1 = false then some none
    else if (mostM d c.vars c.coefs c.rhs).1 = false ∧ (mostM (mostM d c.vars c.coefs c.rhs).2.2 c.vars (turnedM c.coefs) (w64 (-c.rhs))).1 = false then some (some (mostM (mostM d c.vars c.coefs c.rhs).2.2 c.vars (turnedM c.coefs) (w64 (-c.rhs))).2.2)
    else roundsM c n (mostM (mostM d c.vars c.coefs c.rhs).2.2 c.vars (turnedM c.coefs) (w64 (-c.rhs))).2.2

/-- What is told: domains and yes, or none and no. -/
def encTold (r : Option (List Dom)) : V := .tup [encDoms (r.getD []), .b r.isSome]
theorem closed_encTold (r : Option (List Dom)) : Closed (encTold r) := .tup _ (by
  intro e he; simp at he; rcases he with rfl | rfl
  · exact closed_encDoms _
  · exact .b _)

def linM (fuel : Nat) (d : List Dom) (c : Con) : Option (Option (List Dom)) :=
  if [] ∈ d then some none
  else if c.op = 2 then some (if (otherM d c).1 then some (otherM d c).2 else none)
  else roundsM c fuel d

end Go.TL
