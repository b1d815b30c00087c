/- Constraints, goals, models, as plain data. -/
import Derived.Test.YtofeaajoohiijaaGreatDc
import Derived.Test.YtofeaajoohiijaaGreatTLs
import Derived.Test.YtofeaajoohiijaaGreatTLc
namespace Go.TL
open Go

structure Con where
  kind : Int
  vars : List Int
  coefs : List Int
  op : Int
  rhs : Int
  rows : List (List Int)
  b : Int
  deriving DecidableEq, Inhabited

structure Goal where
  kind : Int
  vars : List Int
  coefs : List Int
  deriving DecidableEq, Inhabited

structure Var where
  name : ByteArray
  d : Dom
  deriving Inhabited

structure Model where
  vars : List Var
  cons : List Con
  goal : Goal
  deriving Inhabited

def encCon (c : Con) : V := .agg [vint c.kind, encInts c.vars, encInts c.coefs, vint c.op, vint c.rhs, encRows c.rows, vint c.b]
def encCons (l : List Con) : V := .lst (l.map encCon)
def encGoal (g : Goal) : V := .agg [vint g.kind, encInts g.vars, encInts g.coefs]
def encVar (v : Var) : V := .agg [.s v.name, encDom v.d]
def encVars (l : List Var) : V := .lst (l.map encVar)
def encModel (m : Model) : V := .agg [encVars m.vars, encCons m.cons, vint m.goal.kind, encInts m.goal.vars, encInts m.goal.coefs]

@[simp] theorem cellsOf_encCon (c : Con) : cellsOf (encCon c) = [vint c.kind, encInts c.vars, encInts c.coefs, vint c.op, vint c.rhs, encRows c.rows, vint c.b] := rfl
@[simp] theorem cellsOf_encGoal (g : Goal) : cellsOf (encGoal g) = [vint g.kind, encInts g.vars, encInts g.coefs] := rfl
@[simp] theorem cellsOf_encVar (v : Var) : cellsOf (encVar v) = [.s v.name, encDom v.d] := rfl
@[simp] theorem cellsOf_encModel (m : Model) : cellsOf (encModel m) = [encVars m.vars, encCons m.cons, vint m.goal.kind, encInts m.goal.vars, encInts m.goal.coefs] := rfl
@[simp] theorem boxable_encCon (c : Con) : boxable (encCon c) = true := rfl
@[simp] theorem boxable_encModel (m : Model) : boxable (encModel m) = true := rfl
@[simp] theorem boxable_encVar (m : Var) : boxable (encVar m) = true := rfl
@[simp] theorem boxable_encGoal (m : Goal) : boxable (encGoal m) = true := rfl
@[simp] theorem cellsOf_encCons (l : List Con) : cellsOf (encCons l) = [encCons l] := rfl
@[simp] theorem cellsOf_encVars (l : List Var) : cellsOf (encVars l) = [encVars l] := rfl
@[simp] theorem boxable_encCons (l : List Con) : boxable (encCons l) = true := rfl
@[simp] theorem storable_encCons (l : List Con) : storable (encCons l) = true := rfl
@[simp] theorem boxable_encVars (l : List Var) : boxable (encVars l) = true := rfl
@[simp] theorem storable_encVars (l : List Var) : storable (encVars l) = true := rfl
@[simp] theorem lenC_encCons (P : Program) (t : TypeId) (H : List Obj) (K : V → Prop) (l : List Con) : lenC P t (encCons l) H K = ((selem P t).isSome = true ∧ K (.i .i64 l.length)) := by simp only [encCons, lenC_lst, List.length_map]
@[simp] theorem indexAddrC_encCons (P : Program) (t : TypeId) (H : List Obj) (K : V → List Obj → Prop) (l : List Con) (k : IntKind) (i : Int) : indexAddrC P t (encCons l) (.i k i) H K = indexAddrC P t (.lst (l.map encCon)) (.i k i) H K := rfl
@[simp] theorem lenC_encVars (P : Program) (t : TypeId) (H : List Obj) (K : V → Prop) (l : List Var) : lenC P t (encVars l) H K = ((selem P t).isSome = true ∧ K (.i .i64 l.length)) := by simp only [encVars, lenC_lst, List.length_map]
@[simp] theorem indexAddrC_encVars (P : Program) (t : TypeId) (H : List Obj) (K : V → List Obj → Prop) (l : List Var) (k : IntKind) (i : Int) : indexAddrC P t (encVars l) (.i k i) H K = indexAddrC P t (.lst (l.map encVar)) (.i k i) H K := rfl

theorem closed_encCon (c : Con) : Closed (encCon c) := .agg _ (by
  intro e he
  simp at he
  rcases he with rfl | rfl | rfl | rfl | rfl | rfl | rfl <;> first | exact .i _ _ | exact closed_encInts _ | exact closed_encRows _)
theorem closed_encCons (l : List Con) : Closed (encCons l) := .lst _ fun e he => by
  obtain ⟨n, _, rfl⟩ := List.mem_map.1 he; exact closed_encCon _
theorem closed_encGoal (c : Goal) : Closed (encGoal c) := .agg _ (by
  intro e he
  simp at he
  rcases he with rfl | rfl | rfl <;> first | exact .i _ _ | exact closed_encInts _)
theorem closed_encVar (c : Var) : Closed (encVar c) := .agg _ (by
  intro e he
  simp at he
  rcases he with rfl | rfl <;> first | exact .s _ | exact closed_encDom _)
theorem closed_encVars (l : List Var) : Closed (encVars l) := .lst _ fun e he => by
  obtain ⟨n, _, rfl⟩ := List.mem_map.1 he; exact closed_encVar _
theorem closed_encModel (c : Model) : Closed (encModel c) := .agg _ (by
  intro e he
  simp at he
  rcases he with rfl | rfl | rfl | rfl | rfl <;> first | exact .i _ _ | exact closed_encInts _ | exact closed_encVars _ | exact closed_encCons _)

theorem closed_int {d : List Int} : ∀ x ∈ d.map vint, Closed x := by
  intro x hx; obtain ⟨r, _, rfl⟩ := List.mem_map.1 hx; exact .i _ _
theorem closed_doms {d : List Dom} : ∀ x ∈ d.map encDom, Closed x := by
  intro x hx; obtain ⟨r, _, rfl⟩ := List.mem_map.1 hx; exact closed_encDom _
theorem closed_rowsI {d : List (List Int)} : ∀ x ∈ d.map encInts, Closed x := by
  intro x hx; obtain ⟨r, _, rfl⟩ := List.mem_map.1 hx; exact closed_encInts _

theorem map_take_succ {α β : Type} (f : α → β) {l : List α} {k : Nat} (h : k < l.length) : (l.take (k + 1)).map f = (l.take k).map f ++ [f l[k]] := by
  rw [List.take_succ_eq_append_getElem h, List.map_append]; rfl
theorem take_map_succ {α β : Type} (f : α → β) {l : List α} {k : Nat} (h : k < l.length) : (l.map f).take (k + 1) = (l.take k).map f ++ [f l[k]] := by
  rw [← List.map_take]; exact map_take_succ f h

variable {H G : List Obj} {k : Nat} {x : V} {xs : List V}

/-- A row that grew is written to. -/
theorem Acc.put {o n : Nat} {ys : List V} (h : Acc H k G x xs) (hx : x = .sl o n 0 n none) (hl : ys.length = xs.length) : Acc H k (G.set o (.row k ys)) x ys := by
  obtain ⟨⟨news, hG⟩, h⟩ := h
  rcases h with ⟨rfl, rfl⟩ | ⟨o', h1, h2, rfl⟩
  · cases hx
  · cases hx
    refine ⟨⟨news.set (o - H.length) (.row k ys), by rw [hG, List.set_append_right _ _ h1]⟩, .inr ⟨o, h1, by simp [(List.getElem?_eq_some_iff.1 h2).1], by rw [hl]⟩⟩

theorem Acc.sl (h : Acc H k G x xs) (hne : xs ≠ []) : ∃ o, H.length ≤ o ∧ G[o]? = some (.row k xs) ∧ x = .sl o xs.length 0 xs.length none := by
  rcases h.row with ⟨h1, _⟩ | h
  · exact absurd h1 hne
  · exact h

theorem Acc.mk' {o n : Nat} {news : List Obj} (hG : G = H ++ news) (ho : H.length ≤ o) (h : G[o]? = some (.row k xs)) (hn : n = xs.length) : Acc H k G (.sl o n 0 n none) xs := by
  subst hn; exact ⟨⟨news, hG⟩, .inr ⟨o, ho, h, rfl⟩⟩

/-- A function that yields a new row of flat things, called with own rows: it reads them as lists. -/
theorem Fn.borrowAcc {P : Program} {f : FuncId} {as bs : List V} {es : List V} (h : Fn P f bs [] fun y G => Acc [] k G y es) (hes : ∀ e ∈ es, ∀ c ∈ cellsOf e, flat c = true) (hf : Frzs H as bs) : Fn P f as H fun y G => Acc H k G y es := by
  refine ⟨h.1, fun w ρ vs s hv => (h.2 w ρ vs (Sim.nil ρ w) (hv.frz s hf)).mono ?_⟩
  rintro e w' ⟨v, x, ρ', G, rfl, hx, s', g, hacc⟩
  have hb : ∀ b, b < w.heap.size → w'.heap[b]? = w.heap[b]? := fun b h => (g.froz b h (fun o ob ho => by simp at ho)).1
  rcases hacc.row with ⟨rfl, rfl⟩ | ⟨o, _, ho, rfl⟩
  · cases hx
    exact ⟨_, .emp, ρ, H, rfl, .emp _, s.same g.size hb g.io, .same s g.size hb g.io, .nil H k⟩
  · obtain ⟨arr, t, e0, f0, k0, c0⟩ := s'.row o k es ho
    have hblk : w.heap.size ≤ ρ' o := Nat.le_of_not_lt fun hlt => (g.froz (ρ' o) hlt (fun o ob ho => by simp at ho)).2 o _ ho (by simp) rfl
    have hnew := sim_new (w' := w') (ob := Go.TL.Obj.row k es) s hblk (s'.lt ho (by simp)) hb (by
      intro k' es' e
      cases e
      refine ⟨arr, t, e0, f0, k0, fun i e j x h1 h2 => ?_⟩
      obtain ⟨v, hv, hr⟩ := c0 i e j x h1 h2
      exact ⟨v, hv, hr.flat (hes _ (List.mem_of_getElem? h1) _ (List.mem_of_getElem? h2))⟩) (by intro es e; cases e) g.io
    refine ⟨v, .sl H.length es.length 0 es.length none, _, _, rfl, ?_, hnew.1, hnew.2, ⟨⟨_, rfl⟩, .inr ⟨H.length, Nat.le_refl _, by simp, rfl⟩⟩⟩
    cases hx with
    | sl _ _ _ _ _ _ ho' h1' hh' =>
      obtain ⟨c, t', sz, rfl, a1, a2, a3, a4, a5, a6⟩ := (hh' _ _ ho).2 rfl
      refine .sl _ _ _ _ _ _ (by simp) rfl fun k' es' he => ?_
      simp at he
      obtain ⟨rfl, rfl⟩ := he
      exact ⟨Nat.le_refl _, fun _ => ⟨c, t', sz, by simp, a1, a2, a3, by simpa using a4, a5, a6⟩⟩

/-- The same, with a truth. -/
theorem Fn.borrowAcc2 {P : Program} {f : FuncId} {as bs : List V} {es : List V} {b : Bool} (h : Fn P f bs [] fun y G => ∃ z, y = .tup [z, .b b] ∧ Acc [] k G z es) (hes : ∀ e ∈ es, ∀ c ∈ cellsOf e, flat c = true) (hf : Frzs H as bs) : Fn P f as H fun y G => ∃ z, y = .tup [z, .b b] ∧ Acc H k G z es := by
  refine ⟨h.1, fun w ρ vs s hv => (h.2 w ρ vs (Sim.nil ρ w) (hv.frz s hf)).mono ?_⟩
  rintro e w' ⟨v, x, ρ', G, rfl, hx, s', g, z, rfl, hacc⟩
  have hb : ∀ b, b < w.heap.size → w'.heap[b]? = w.heap[b]? := fun b h => (g.froz b h (fun o ob ho => by simp at ho)).1
  obtain ⟨v0, v1, rfl⟩ : ∃ v0 v1, v = .tuple #[v0, v1] := by
    cases hx with
    | tup _ vs hl hv =>
      rcases vs with ⟨_ | ⟨v0, _ | ⟨v1, _ | _⟩⟩⟩ <;> simp at hl
      exact ⟨v0, v1, rfl⟩
  have hx0 : VR w' ρ' G z v0 := by
    cases hx with
    | tup _ vs hl hv => exact hv 0 _ _ rfl rfl
  have hx1 : VR w' ρ' G (.b b) v1 := by
    cases hx with
    | tup _ vs hl hv => exact hv 1 _ _ rfl rfl
  have tup : ∀ {ρ'' H' y}, VR w' ρ'' H' y v0 → VR w' ρ'' H' (.tup [y, .b b]) (.tuple #[v0, v1]) := fun h => .tup _ _ rfl fun j x u h1 h2 => by
    match j with
    | 0 => simp at h1 h2; subst h1 h2; exact h
    | 1 => simp at h1 h2; subst h1 h2; exact hx1.flat rfl
    | j + 2 => simp at h1
  rcases hacc.row with ⟨rfl, rfl⟩ | ⟨o, _, ho, rfl⟩
  · cases hx0
    exact ⟨_, _, ρ, H, rfl, tup (.emp _), s.same g.size hb g.io, .same s g.size hb g.io, .emp, rfl, .nil H k⟩
  · obtain ⟨arr, t, e0, f0, k0, c0⟩ := s'.row o k es ho
    have hblk : w.heap.size ≤ ρ' o := Nat.le_of_not_lt fun hlt => (g.froz (ρ' o) hlt (fun o ob ho => by simp at ho)).2 o _ ho (by simp) rfl
    have hnew := sim_new (w' := w') (ob := Go.TL.Obj.row k es) s hblk (s'.lt ho (by simp)) hb (by
      intro k' es' e
      cases e
      refine ⟨arr, t, e0, f0, k0, fun i e j x h1 h2 => ?_⟩
      obtain ⟨v, hv, hr⟩ := c0 i e j x h1 h2
      exact ⟨v, hv, hr.flat (hes _ (List.mem_of_getElem? h1) _ (List.mem_of_getElem? h2))⟩) (by intro es e; cases e) g.io
    refine ⟨_, _, _, _, rfl, tup (y := .sl H.length es.length 0 es.length none) ?_, hnew.1, hnew.2, _, rfl, ⟨⟨_, rfl⟩, .inr ⟨H.length, Nat.le_refl _, by simp, rfl⟩⟩⟩
    cases hx0 with
    | sl _ _ _ _ _ _ ho' h1' hh' =>
      obtain ⟨c, t', sz, rfl, a1, a2, a3, a4, a5, a6⟩ := (hh' _ _ ho).2 rfl
      refine .sl _ _ _ _ _ _ (by simp) rfl fun k' es' he => ?_
      simp at he
      obtain ⟨rfl, rfl⟩ := he
      exact ⟨Nat.le_refl _, fun _ => ⟨c, t', sz, by simp, a1, a2, a3, by simpa using a4, a5, a6⟩⟩

/-- Two slices that lie apart. -/
def Sep (x y : V) : Prop := ∀ o n off len c n' off' len' c', x = .sl o n off len c → y ≠ .sl o n' off' len' c'
theorem Sep.symm {x y : V} (h : Sep x y) : Sep y x := fun o n off len c n' off' len' c' hy hx => h o n' off' len' c' n off len c hx hy
theorem Sep.emp (x : V) : Sep .emp x := fun _ _ _ _ _ _ _ _ _ h => by cases h

theorem Acc.app2 {k' : Nat} {y : V} {ys : List V} (h : Acc H k G x xs) (h' : Acc H k' G y ys) (hs : Sep x y) {zs : List V} (hz : zs ≠ []) (hst : ∀ a ∈ zs, ∀ c ∈ cellsOf a, storable c = true) {K : V → List Obj → Prop}
    (hK : ∀ x' G', Acc H k G' x' (xs ++ zs) → Acc H k' G' y ys → Sep x' y → K x' G') : appendV k x zs G K := by
  refine h.app hz hst fun x' G' ha hle hoth => hK x' G' ha ?_ ?_
  · rcases h'.row with ⟨rfl, rfl⟩ | ⟨o, h1, h2, rfl⟩
    · exact ⟨ha.pre, .inl ⟨rfl, rfl⟩⟩
    · have hn : NotIn x o := fun n off len c hx => hs o n off len c _ _ _ _ hx rfl
      exact ⟨ha.pre, .inr ⟨o, h1, by rw [(hoth o (List.getElem?_eq_some_iff.1 h2).1 hn).1]; exact h2, rfl⟩⟩
  · rcases h'.row with ⟨rfl, rfl⟩ | ⟨o, h1, h2, rfl⟩
    · exact (Sep.emp _).symm
    · have hn : NotIn x o := fun n off len c hx => hs o n off len c _ _ _ _ hx rfl
      intro o' n off len c n' off' len' c' hx' hy
      cases hy
      exact (hoth o (List.getElem?_eq_some_iff.1 h2).1 hn).2 _ _ _ _ hx'

theorem flat_int {d : List Int} : ∀ x ∈ d.map vint, ∀ c ∈ cellsOf x, flat c = true := by
  intro x hx c hc; obtain ⟨r, _, rfl⟩ := List.mem_map.1 hx; simp at hc; subst hc; rfl
theorem flat_dom {d : Dom} : ∀ x ∈ d.map encRg, ∀ c ∈ cellsOf x, flat c = true := by
  intro x hx c hc; obtain ⟨r, _, rfl⟩ := List.mem_map.1 hx; simp at hc; rcases hc with rfl | rfl <;> rfl

theorem Frz.box {n₀ o : Nat} {e : V} (hn : n₀ ≤ o) (ho : H[o]? = some (.row k [e])) (hc : ∀ c ∈ cellsOf e, Closed c) : Frz n₀ H (.ptr o 1 0 0) (.iptr (cellsOf e)) := by
  refine .ptr o 1 0 k [e] e _ hn ho rfl rfl rfl fun j x y h1 h2 => ?_
  rw [h1] at h2
  cases h2
  exact .closed _ (hc _ (List.mem_of_getElem? h1))

theorem Acc.lenC_eq (h : Acc H k G x xs) (P : Program) (t : TypeId) (K : V → Prop) (hs : (selem P t).isSome = true) : lenC P t x G K = K (.i .i64 xs.length) := by
  rcases h.row with ⟨rfl, rfl⟩ | ⟨o, h1, h2, rfl⟩
  · simp [lenC_emp, hs]
  · simp [lenC_sl, hs, h2]

theorem Acc.frz0 (h : Acc H k G x xs) (hc : ∀ x ∈ xs, Closed x) : Frz 0 G x (.lst xs) := by
  rcases h.row with ⟨rfl, rfl⟩ | ⟨o, h1, h2, rfl⟩
  · exact .emp
  · exact .own h2 rfl hc

theorem Acc.mores (h : Acc H k G x xs) (news : List Obj) : Acc H k (G ++ news) x xs := by
  obtain ⟨⟨n0, rfl⟩, h⟩ := h
  refine ⟨⟨n0 ++ news, by simp⟩, h.imp id ?_⟩
  rintro ⟨o, h1, h2, rfl⟩
  exact ⟨o, h1, by rw [List.getElem?_append_left (List.getElem?_eq_some_iff.1 h2).1]; exact h2, rfl⟩

/-- A function that only answers, called with a row that is not used behind it. -/
theorem Acc.consume {P : Program} {f : FuncId} {r : V} (h : Acc H k G x xs) (hp : Pure P f [.lst xs] r) : Fn P f [x] G fun y G' => y = r ∧ ∃ news, G' = H ++ news := by
  have one : ∀ {w : World} {ρ : Nat → Nat} {H' : List Obj} {y : V} {v : Value}, VR w ρ H' y v → VRs w ρ H' [y] #[v] := fun h => ⟨rfl, fun j z u h1 h2 => by
    match j with
    | 0 => simp at h1 h2; subst h1 h2; exact h
    | j + 1 => simp at h1⟩
  obtain ⟨news, hG⟩ := h.pre
  rcases h.row with ⟨rfl, rfl⟩ | ⟨o, h1, h2, rfl⟩
  · refine ⟨(hp G).1, fun w ρ vs s hv => ?_⟩
    obtain ⟨hn, hv⟩ := hv
    obtain ⟨v, rfl⟩ : ∃ v, vs = #[v] := by
      rcases vs with ⟨_ | ⟨v, _ | _⟩⟩ <;> simp at hn
      exact ⟨v, rfl⟩
    have hx := hv 0 _ v rfl rfl
    cases hx with
    | emp a =>
      refine ((hp G).2 w ρ _ s (one (.lnil a 0))).mono ?_
      rintro e w' ⟨v, x, ρ', G', rfl, hx, s', g, rfl, rfl⟩
      exact ⟨v, _, ρ', _, rfl, hx, s', g, rfl, news, hG⟩
  · refine ⟨(hp G).1, fun w ρ vs s hv => ?_⟩
    obtain ⟨hn, hv⟩ := hv
    obtain ⟨v, rfl⟩ : ∃ v, vs = #[v] := by
      rcases vs with ⟨_ | ⟨v, _ | _⟩⟩ <;> simp at hn
      exact ⟨v, rfl⟩
    have hx := hv 0 _ v rfl rfl
    refine ((hp (G.set o .dead)).2 w ρ _ (s.kill o) (one (hx.freeze s h2 rfl))).mono ?_
    rintro e w' ⟨v, x, ρ', G', rfl, hx, s', g, rfl, rfl⟩
    exact ⟨v, _, ρ', _, rfl, hx, s', (Evo.kill o).trans g, rfl, news.set (o - H.length) .dead, by rw [hG, List.set_append_right _ _ h1]⟩

theorem Frz.clo1 {n₀ : Nat} {f : FuncId} {c d : V} (h : Frz n₀ H c d) : Frz n₀ H (.clo f [c]) (.clo f [d]) := by
  refine .clo f _ _ rfl fun j x y h1 h2 => ?_
  cases j with
  | zero => simp at h1 h2; subst h1 h2; exact h
  | succ j => simp at h1

theorem Frz.tup2 {n₀ : Nat} {a b c d : V} (h : Frz n₀ H a c) (h' : Frz n₀ H b d) : Frz n₀ H (.tup [a, b]) (.tup [c, d]) := by
  refine .tup _ _ rfl fun j x y h1 h2 => ?_
  match j with
  | 0 => simp at h1 h2; subst h1 h2; exact h
  | 1 => simp at h1 h2; subst h1 h2; exact h'
  | j + 2 => simp at h1

end Go.TL
