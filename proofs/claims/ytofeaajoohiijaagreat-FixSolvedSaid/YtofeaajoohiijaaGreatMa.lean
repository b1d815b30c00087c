/- What the program's functions compute, as functions over plain lists: domains. -/
import Derived.Test.YtofeaajoohiijaaGreatDc
namespace Go.TL
open Go

def w64 (n : Int) : Int := IntKind.i64.wrap n
theorem w64_def (n : Int) : IntKind.i64.wrap n = w64 n := rfl

/-- Small enough: no length of a list is a matter of memory. -/
def lim : Nat := 1099511627776

def least (d : Dom) : Int × Bool := match d with | [] => (0, false) | r :: _ => (r.lo, true)
def most (d : Dom) : Int × Bool := match d.getLast? with | none => (0, false) | some r => (r.hi, true)
def sizeStep (n : Int) (r : Rg) : Int := w64 (n + w64 (w64 (r.hi - r.lo) + 1))
def size (d : Dom) : Int := d.foldl sizeStep 0

def meetF : Nat → Dom → Dom → Dom
  | n + 1, x :: a, y :: b =>
    (if maxInt x.lo y.lo ≤ minInt x.hi y.hi then [⟨maxInt x.lo y.lo, minInt x.hi y.hi⟩] else []) ++ if x.hi < y.hi then meetF n a (y :: b) else meetF n (x :: a) b
  | _, _, _ => []
def meet (a b : Dom) : Dom := meetF (a.length + b.length) a b
def cut (d : Dom) (lo hi : Int) : Dom := if lo > hi then [] else meet d [⟨lo, hi⟩]

/-- One range without some others: what is put out, and where the rest begins. -/
def minusStep (hi : Int) (s : Dom × Int) (y : Rg) : Dom × Int :=
  if y.hi < s.2 ∨ hi < y.lo then s else ((if s.2 < y.lo then s.1 ++ [⟨s.2, w64 (y.lo - 1)⟩] else s.1), w64 (y.hi + 1))
def minus1 (b : Dom) (out : Dom) (x : Rg) : Dom :=
  let s := b.foldl (minusStep x.hi) (out, x.lo)
  if s.2 ≤ x.hi then s.1 ++ [⟨s.2, x.hi⟩] else s.1
def minus (a b : Dom) : Dom := a.foldl (minus1 b) []

end Go.TL
