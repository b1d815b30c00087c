/- Plain data of the program, and how it is told as abstract values. -/
import Derived.Test.YtofeaajoohiijaaGreatTLp
namespace Go.TL
open Go

structure Rg where
  lo : Int
  hi : Int
  deriving DecidableEq, Inhabited

abbrev Dom := List Rg

def vint (n : Int) : V := .i .i64 n
def encInts (l : List Int) : V := .lst (l.map vint)
def encRg (r : Rg) : V := .agg [.i .i64 r.lo, .i .i64 r.hi]
def encDom (d : Dom) : V := .lst (d.map encRg)
def encDoms (l : List Dom) : V := .lst (l.map encDom)
def encRows (l : List (List Int)) : V := .lst (l.map encInts)

@[simp] theorem cellsOf_encRg (r : Rg) : cellsOf (encRg r) = [.i .i64 r.lo, .i .i64 r.hi] := rfl
@[simp] theorem cellsOf_vint (n : Int) : cellsOf (vint n) = [.i .i64 n] := rfl
@[simp] theorem cellsOf_encInts (l : List Int) : cellsOf (encInts l) = [encInts l] := rfl
@[simp] theorem cellsOf_encDom (l : Dom) : cellsOf (encDom l) = [encDom l] := rfl
@[simp] theorem cellsOf_encDoms (l : List Dom) : cellsOf (encDoms l) = [encDoms l] := rfl
@[simp] theorem cellsOf_encRows (l : List (List Int)) : cellsOf (encRows l) = [encRows l] := rfl

@[simp] theorem boxable_encInts (l : List Int) : boxable (encInts l) = true := rfl
@[simp] theorem storable_encInts (l : List Int) : storable (encInts l) = true := rfl
@[simp] theorem boxable_encDom (l : Dom) : boxable (encDom l) = true := rfl
@[simp] theorem storable_encDom (l : Dom) : storable (encDom l) = true := rfl
@[simp] theorem boxable_encDoms (l : List Dom) : boxable (encDoms l) = true := rfl
@[simp] theorem storable_encDoms (l : List Dom) : storable (encDoms l) = true := rfl
@[simp] theorem boxable_encRows (l : List (List Int)) : boxable (encRows l) = true := rfl
@[simp] theorem storable_encRows (l : List (List Int)) : storable (encRows l) = true := rfl
@[simp] theorem boxable_encRg (r : Rg) : boxable (encRg r) = true := rfl
@[simp] theorem boxable_vint (n : Int) : boxable (vint n) = true := rfl
@[simp] theorem storable_vint (n : Int) : storable (vint n) = true := rfl

@[simp] theorem lenC_encInts (P : Program) (t : TypeId) (H : List Obj) (K : V → Prop) (l : List Int) : lenC P t (encInts l) H K = ((selem P t).isSome = true ∧ K (.i .i64 l.length)) := by simp only [encInts, lenC_lst, List.length_map]
@[simp] theorem indexAddrC_encInts (P : Program) (t : TypeId) (H : List Obj) (K : V → List Obj → Prop) (l : List Int) (k : IntKind) (i : Int) : indexAddrC P t (encInts l) (.i k i) H K = indexAddrC P t (.lst (l.map vint)) (.i k i) H K := rfl
@[simp] theorem lenC_encDom (P : Program) (t : TypeId) (H : List Obj) (K : V → Prop) (l : Dom) : lenC P t (encDom l) H K = ((selem P t).isSome = true ∧ K (.i .i64 l.length)) := by simp only [encDom, lenC_lst, List.length_map]
@[simp] theorem indexAddrC_encDom (P : Program) (t : TypeId) (H : List Obj) (K : V → List Obj → Prop) (l : Dom) (k : IntKind) (i : Int) : indexAddrC P t (encDom l) (.i k i) H K = indexAddrC P t (.lst (l.map encRg)) (.i k i) H K := rfl
@[simp] theorem lenC_encDoms (P : Program) (t : TypeId) (H : List Obj) (K : V → Prop) (l : List Dom) : lenC P t (encDoms l) H K = ((selem P t).isSome = true ∧ K (.i .i64 l.length)) := by simp only [encDoms, lenC_lst, List.length_map]
@[simp] theorem indexAddrC_encDoms (P : Program) (t : TypeId) (H : List Obj) (K : V → List Obj → Prop) (l : List Dom) (k : IntKind) (i : Int) : indexAddrC P t (encDoms l) (.i k i) H K = indexAddrC P t (.lst (l.map encDom)) (.i k i) H K := rfl
@[simp] theorem lenC_encRows (P : Program) (t : TypeId) (H : List Obj) (K : V → Prop) (l : List (List Int)) : lenC P t (encRows l) H K = ((selem P t).isSome = true ∧ K (.i .i64 l.length)) := by simp only [encRows, lenC_lst, List.length_map]
@[simp] theorem indexAddrC_encRows (P : Program) (t : TypeId) (H : List Obj) (K : V → List Obj → Prop) (l : List (List Int)) (k : IntKind) (i : Int) : indexAddrC P t (encRows l) (.i k i) H K = indexAddrC P t (.lst (l.map encInts)) (.i k i) H K := rfl

theorem closed_encInts (l : List Int) : Closed (encInts l) := .lst _ fun e he => by
  obtain ⟨n, _, rfl⟩ := List.mem_map.1 he; exact .i _ _
theorem closed_encRg (r : Rg) : Closed (encRg r) := .agg _ (by simp [closed_i])
theorem closed_encDom (l : Dom) : Closed (encDom l) := .lst _ fun e he => by
  obtain ⟨n, _, rfl⟩ := List.mem_map.1 he; exact closed_encRg _
theorem closed_encDoms (l : List Dom) : Closed (encDoms l) := .lst _ fun e he => by
  obtain ⟨n, _, rfl⟩ := List.mem_map.1 he; exact closed_encDom _
theorem closed_encRows (l : List (List Int)) : Closed (encRows l) := .lst _ fun e he => by
  obtain ⟨n, _, rfl⟩ := List.mem_map.1 he; exact closed_encInts _

theorem wrap_ok {n : Int} (h : -9223372036854775808 ≤ n) (h' : n ≤ 9223372036854775807) : IntKind.i64.wrap n = n := by
  have e1 : IntKind.i64.bits = 64 := rfl
  have e2 : IntKind.i64.signed = true := rfl
  simp only [IntKind.wrap, e1, e2]
  simp
  split <;> omega

theorem wrap_succ {k n : Nat} (h : k < n) (hn : n ≤ 9223372036854775807) : IntKind.i64.wrap ((k : Int) + 1) = ((k + 1 : Nat) : Int) := by
  rw [wrap_ok (by omega) (by omega)]; rfl

/-- Results that are closed are told as they are. -/
theorem Pure.of' {P : Program} {f : FuncId} {args : List V} {r : V} (hr : Closed r) (h : ∀ H, Fn P f args H fun x H' => x = r ∧ ∃ news, H' = H ++ news) : Pure P f args r :=
  .of fun H => (h H).mono fun x H' ⟨hx, news, hn⟩ => ⟨news, hn, by rw [hx]; exact .closed _ hr⟩

/-- A slice that grows: nothing yet, or a row at its own place. -/
def accV (H : List Obj) : List V → V
  | [] => .emp
  | xs => .sl H.length xs.length 0 xs.length none
def accH (H : List Obj) (k : Nat) : List V → List Obj
  | [] => H
  | xs => H ++ [.row k xs]

theorem acc_frz (H : List Obj) (k : Nat) (xs : List V) (hc : ∀ x ∈ xs, Closed x) : Frz H.length (accH H k xs) (accV H xs) (.lst xs) := by
  cases xs with
  | nil => exact .emp
  | cons x xs =>
    refine .sl H.length _ 0 _ none k (x :: xs) _ (Nat.le_refl _) (by simp [accH]) rfl (by simp) rfl fun i e y hi he hy => ?_
    simp at he
    rw [he] at hy
    cases hy
    exact .closed _ (hc _ (List.mem_of_getElem? he))

theorem acc_append (H : List Obj) (k : Nat) (xs ys : List V) (hy : ys ≠ []) (hs : ∀ a ∈ ys, ∀ c ∈ cellsOf a, storable c = true) (K : V → List Obj → Prop)
    (h : K (accV H (xs ++ ys)) (accH H k (xs ++ ys))) : appendV k (accV H xs) ys (accH H k xs) K := by
  cases xs with
  | nil =>
    obtain ⟨y, ys, rfl⟩ := List.exists_cons_of_ne_nil hy
    simpa [accV, accH, appendV] using h
  | cons x xs =>
    have h0 : (accH H k (x :: xs))[H.length]? = some (.row k (x :: xs)) := by simp [accH]
    have hpos : 0 < ys.length := List.length_pos_iff.2 hy
    unfold appendV
    simp only [accV, h0]
    refine ⟨trivial, trivial, by omega, hs, ?_⟩
    rw [if_pos (by omega)]
    refine ⟨trivial, ?_⟩
    have e1 : (accH H k (x :: xs)).set H.length (.row k ((x :: xs).take (x :: xs).length ++ ys)) = accH H k ((x :: xs) ++ ys) := by
      simp [accH]
    rw [e1]
    have e2 : accV H ((x :: xs) ++ ys) = .sl H.length ((x :: xs).length + ys.length) 0 ((x :: xs).length + ys.length) none := by simp [accV]; omega
    rw [e2] at h
    exact h

theorem accH_prefix (H : List Obj) (k : Nat) (xs : List V) : ∃ news, accH H k xs = H ++ news := by
  cases xs with
  | nil => exact ⟨[], by simp [accH]⟩
  | cons x xs => exact ⟨_, rfl⟩

@[simp] theorem lenV_acc (H : List Obj) (xs : List V) : lenV (accV H xs) = xs.length := by cases xs <;> rfl

end Go.TL
