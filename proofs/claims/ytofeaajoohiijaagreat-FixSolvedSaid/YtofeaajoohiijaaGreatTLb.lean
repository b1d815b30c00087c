/- The tree logic, part two: slots, code, calls. -/
import Derived.Test.YtofeaajoohiijaaGreatTLa
import Derived.Laws.AppendOwn
namespace Go.TL
open Go

abbrev Slots := Nat → V

def upd (σ : Slots) (d : Nat) (x : V) : Slots := fun t => if t = d then x else σ t
theorem upd_apply (σ : Slots) (d : Nat) (x : V) (t : Nat) : upd σ d x t = if t = d then x else σ t := rfl

def ofV : Value → V
  | .int k n => .i k n
  | .bool x => .b x
  | .string x => .s x
  | .slice _ 0 0 => .emp
  | v => .raw v

def ev (σ : Slots) : Operand → V
  | .tmp t => σ t
  | .const v => ofV v
  | .global _ => .any
  | .func f => .clo f []

theorem VR_ofV (w : World) (ρ : Nat → Nat) (H : List Obj) (v : Value) : VR w ρ H (ofV v) v := by
  unfold ofV
  split
  · exact .i _ _
  · exact .b _
  · exact .s _
  · exact .emp _
  · exact .raw _

theorem VR.inv_b {w : World} {ρ : Nat → Nat} {H : List Obj} {t : Bool} {v : Value} (h : VR w ρ H (.b t) v) : v = .bool t := by cases h; rfl
theorem VR.inv_i {w : World} {ρ : Nat → Nat} {H : List Obj} {k : IntKind} {n : Int} {v : Value} (h : VR w ρ H (.i k n) v) : v = .int k n := by cases h; rfl
theorem VR.inv_s {w : World} {ρ : Nat → Nat} {H : List Obj} {x : ByteArray} {v : Value} (h : VR w ρ H (.s x) v) : v = .string x := by cases h; rfl
theorem VR.inv_raw {w : World} {ρ : Nat → Nat} {H : List Obj} {x v : Value} (h : VR w ρ H (.raw x) v) : v = x := by cases h; rfl

structure SimA (N : Nat) (σ : Slots) (H : List Obj) (ρ : Nat → Nat) (a : Act) (w : World) : Prop where
  defers : a.defers = []
  size : a.tmps.size = N
  slot : ∀ t : Nat, VR w ρ H (σ t) (a.tmps.getD t undef)
  sim : Sim ρ H w

theorem SimA.ev {N : Nat} {σ : Slots} {H : List Obj} {ρ : Nat → Nat} {a : Act} {w : World} (h : SimA N σ H ρ a w) (x : Operand) : VR w ρ H (ev σ x) (a.eval x) := by
  cases x with
  | tmp t => exact h.slot t
  | const v => exact VR_ofV _ _ _ v
  | global g => exact .any _
  | func f => exact .clo f [] #[] rfl (fun j x v h _ => by simp at h)

def aput (N : Nat) (σ : Slots) (d : Option Nat) (x : V) : Slots :=
  match d with
  | some d => if d < N then upd σ d x else σ
  | none => σ

theorem getD_put (tm : Array Value) (d : Nat) (v : Value) (h : d < tm.size) (t : Nat) : (tm.setIfInBounds d v).getD t undef = if t = d then v else tm.getD t undef := by
  by_cases ht : t = d
  · subst ht; simp [h]
  · simp [Array.getElem?_setIfInBounds_ne (Ne.symm ht), ht]

theorem SimA.put {N : Nat} {σ : Slots} {H H' : List Obj} {ρ ρ' : Nat → Nat} {a : Act} {w w' : World} (h : SimA N σ H ρ a w) (g : Evo w ρ H w' ρ' H') (s : Sim ρ' H' w')
    (d : Option Nat) {x : V} {v : Value} (hx : VR w' ρ' H' x v) : SimA N (aput N σ d x) H' ρ' (a.put d v) w' := by
  cases d with
  | none => exact ⟨h.defers, h.size, fun t => (h.slot t).evo g, s⟩
  | some d =>
    refine ⟨h.defers, by simpa [Act.put] using h.size, fun t => ?_, s⟩
    simp only [aput, Act.put]
    by_cases hd : d < N
    · rw [if_pos hd, getD_put _ _ _ (by rw [h.size]; exact hd), upd_apply]
      split
      · exact hx
      · exact (h.slot t).evo g
    · rw [if_neg hd]
      have : a.tmps.setIfInBounds d v = a.tmps := Array.setIfInBounds_eq_of_size_le (by rw [h.size]; omega)
      rw [this]
      exact (h.slot t).evo g

abbrev Post := Exit → Slots → List Obj → Prop

def cpost (N : Nat) (Q : Post) (w : World) (ρ : Nat → Nat) (H : List Obj) : Exit → Act → World → Prop :=
  fun e a' w' => ∃ ρ' σ' H', SimA N σ' H' ρ' a' w' ∧ Evo w ρ H w' ρ' H' ∧ Q e σ' H'

/-- Whatever stands for these slots and objects: the code comes to an end that Q tells. -/
def AWP (P : Program) (N : Nat) (c : Code) (σ : Slots) (H : List Obj) (Q : Post) : Prop :=
  ∀ (a : Act) (w : World) (ρ : Nat → Nat), SimA N σ H ρ a w → c.wp P (cpost N Q w ρ H) a w

theorem AWP.mono {P : Program} {N : Nat} {c : Code} {σ : Slots} {H : List Obj} {Q Q' : Post} (h : AWP P N c σ H Q) (hq : ∀ e σ H, Q e σ H → Q' e σ H) : AWP P N c σ H Q' :=
  fun a w ρ hs => wp_mono (h a w ρ hs) fun e _ _ ⟨ρ', σ', H', s, g, q⟩ => ⟨ρ', σ', H', s, g, hq e _ _ q⟩

def seqK (P : Program) (N : Nat) (b : Code) (Q : Post) : Post
  | .normal, σ, H => AWP P N b σ H Q
  | e, σ, H => Q e σ H

theorem AWP.seq {P : Program} {N : Nat} {x y : Code} {σ : Slots} {H : List Obj} {Q : Post} (h : AWP P N x σ H (seqK P N y Q)) : AWP P N (.seq x y) σ H Q := by
  intro a w ρ hs
  refine wp_seq (wp_mono (h a w ρ hs) ?_)
  rintro e a' w' ⟨ρ', σ', H', s, g, q⟩
  cases e with
  | normal =>
    refine wp_mono (q a' w' ρ' s) ?_
    rintro e2 a2 w2 ⟨ρ2, σ2, H2, s2, g2, q2⟩
    exact ⟨ρ2, σ2, H2, s2, g.trans g2, q2⟩
  | _ => exact ⟨ρ', σ', H', s, g, q⟩

def blockK (id : Nat) (Q : Post) : Post
  | .exit id', σ, H => if id' = id then Q .normal σ H else Q (.exit id') σ H
  | e, σ, H => Q e σ H

theorem AWP.block {P : Program} {N id : Nat} {x : Code} {σ : Slots} {H : List Obj} {Q : Post} (h : AWP P N x σ H (blockK id Q)) : AWP P N (.block id x) σ H Q := by
  intro a w ρ hs
  refine wp_block (wp_mono (h a w ρ hs) ?_)
  rintro e a' w' ⟨ρ', σ', H', s, g, q⟩
  cases e with
  | exit id' =>
    simp only [Exit.inBlock, blockK] at q ⊢
    split
    · rename_i hid; rw [if_pos hid] at q; exact ⟨ρ', σ', H', s, g, q⟩
    · rename_i hid; rw [if_neg hid] at q; exact ⟨ρ', σ', H', s, g, q⟩
  | _ => exact ⟨ρ', σ', H', s, g, q⟩

theorem AWP.skip {P : Program} {N : Nat} {σ : Slots} {H : List Obj} {Q : Post} (h : Q .normal σ H) : AWP P N .skip σ H Q :=
  fun _ w ρ hs => wp_skip ⟨ρ, σ, H, hs, .refl w ρ H, h⟩
theorem AWP.label {P : Program} {N l : Nat} {σ : Slots} {H : List Obj} {Q : Post} (h : Q .normal σ H) : AWP P N (.label l) σ H Q :=
  fun _ w ρ hs => wp_label ⟨ρ, σ, H, hs, .refl w ρ H, h⟩
theorem AWP.exit {P : Program} {N id : Nat} {σ : Slots} {H : List Obj} {Q : Post} (h : Q (.exit id) σ H) : AWP P N (.exit id) σ H Q :=
  fun _ w ρ hs => wp_exit ⟨ρ, σ, H, hs, .refl w ρ H, h⟩
theorem AWP.ret {P : Program} {N : Nat} {σ : Slots} {H : List Obj} {Q : Post} (h : Q .ret σ H) : AWP P N .ret σ H Q :=
  fun _ w ρ hs => wp_ret ⟨ρ, σ, H, hs, .refl w ρ H, h⟩

/-- A test: of a bool that is told. -/
def condW (c : V) (yes no : Prop) : Prop :=
  match c with
  | .b t => if t = true then yes else no
  | _ => False

theorem AWP.cond {P : Program} {N : Nat} {c : Operand} {x y : Code} {σ : Slots} {H : List Obj} {Q : Post} (h : condW (ev σ c) (AWP P N x σ H Q) (AWP P N y σ H Q)) : AWP P N (.cond c x y) σ H Q := by
  intro a w ρ hs
  have hc := hs.ev c
  unfold condW at h
  split at h
  · rename_i t ht
    rw [ht] at hc
    have hc' : a.eval c = .bool t := hc.inv_b
    cases t with
    | true => exact wp_cond_true hc' (h a w ρ hs)
    | false => exact wp_cond_false hc' (h a w ρ hs)
  · exact h.elim

/-- A loop: by a relation with a number that every round lowers. -/
theorem AWP.loop {P : Program} {N : Nat} {c : Code} {σ : Slots} {H : List Obj} {Q : Post} (I : Nat → Slots → List Obj → Prop) (n : Nat) (h₀ : I n σ H)
    (round : ∀ n σ H, I n σ H → AWP P N c σ H (fun e σ' H' => match e with | .normal => ∃ m, m < n ∧ I m σ' H' | e => Q e σ' H')) : AWP P N (.loop c) σ H Q := by
  intro a w ρ hs b k cs
  have key : ∀ n σ H a w₁ ρ₁, I n σ H → SimA N σ H ρ₁ a w₁ → 
      ∃ e a' w', cpost N Q w₁ ρ₁ H e a' w' ∧ Arrives P (lone (b.at a (.code c :: .inLoop c :: k)) cs w₁) b k cs e a' w' := by
    intro n
    induction n using Nat.strongRecOn with
    | _ n ih =>
      intro σ H a w₁ ρ₁ hI hs₁
      obtain ⟨e, a₁, w₂, ⟨ρ₂, σ₂, H₂, s₂, g₂, q⟩, harr⟩ := round n σ H hI a w₁ ρ₁ hs₁ b (.inLoop c :: k) cs
      cases e with
      | normal =>
        obtain ⟨m, hm, hI₁⟩ := q
        obtain ⟨e₂, a₂, w₃, ⟨ρ₃, σ₃, H₃, s₃, g₃, q₃⟩, harr₂⟩ := ih m hm σ₂ H₂ a₁ w₂ ρ₂ hI₁ s₂
        exact ⟨e₂, a₂, w₃, ⟨ρ₃, σ₃, H₃, s₃, g₂.trans g₃, q₃⟩, .of_steps (Steps.trans harr (.one step_inLoop)) harr₂⟩
      | exit id => exact ⟨_, a₁, w₂, ⟨ρ₂, σ₂, H₂, s₂, g₂, q⟩, .pass (x := .inLoop c) rfl (fun _ _ => .inl (by simp)) harr⟩
      | goto l => exact ⟨_, a₁, w₂, ⟨ρ₂, σ₂, H₂, s₂, g₂, q⟩, .pass (x := .inLoop c) rfl (fun _ _ => .inl (by simp)) harr⟩
      | ret => exact ⟨_, a₁, w₂, ⟨ρ₂, σ₂, H₂, s₂, g₂, q⟩, .pass (x := .inLoop c) rfl (fun _ _ => .inl (by simp)) harr⟩
      | panic ch => exact ⟨_, a₁, w₂, ⟨ρ₂, σ₂, H₂, s₂, g₂, q⟩, .pass (x := .inLoop c) rfl (fun _ _ => .inl (by simp)) harr⟩
      | outgrown => exact ⟨_, a₁, w₂, ⟨ρ₂, σ₂, H₂, s₂, g₂, q⟩, .pass (x := .inLoop c) rfl (fun _ _ => .inl (by simp)) harr⟩
  obtain ⟨e, a', w', hq, harr⟩ := key n σ H a w ρ h₀ hs
  exact ⟨e, a', w', hq, .of_steps (.one step_loop) harr⟩

/-- Objects or slots may be told less of. -/
theorem AWP.less {P : Program} {N : Nat} {c : Code} {σ σ' : Slots} {H H' : List Obj} {Q : Post}
    (hl : ∀ w ρ, Sim ρ H w → Sim ρ H' w ∧ Evo w ρ H w ρ H' ∧ ∀ t v, VR w ρ H (σ t) v → VR w ρ H' (σ' t) v) (h : AWP P N c σ' H' Q) : AWP P N c σ H Q := by
  intro a w ρ hs
  obtain ⟨s', g, hv⟩ := hl w ρ hs.sim
  refine wp_mono (h a w ρ ⟨hs.defers, hs.size, fun t => hv t _ (hs.slot t), s'⟩) ?_
  rintro e a' w' ⟨ρ', σ'', H'', s, g', q⟩
  exact ⟨ρ', σ'', H'', s, g.trans g', q⟩

/-! ### Functions -/

def VRs (w : World) (ρ : Nat → Nat) (H : List Obj) (xs : List V) (vs : Array Value) : Prop := xs.length = vs.size ∧ ∀ (j : Nat) x v, xs[j]? = some x → vs[j]? = some v → VR w ρ H x v

/-- A function with a Go text. -/
def goodFn (P : Program) (f : FuncId) : Bool :=
  match P.funcs[f]? with
  | some fn => (fn.name != "runtime.NumGoroutine") && fn.body.isSome
  | none => false

/-- A call, with these arguments and objects: it returns, and R tells what and with which objects. -/
def Fn (P : Program) (f : FuncId) (args : List V) (H : List Obj) (R : V → List Obj → Prop) : Prop :=
  goodFn P f = true ∧ ∀ (w : World) (ρ : Nat → Nat) (vs : Array Value), Sim ρ H w → VRs w ρ H args vs →
    Calls P f vs w fun e w' => ∃ v x ρ' H', e = .returned v ∧ VR w' ρ' H' x v ∧ Sim ρ' H' w' ∧ Evo w ρ H w' ρ' H' ∧ R x H'

theorem Fn.mono {P : Program} {f : FuncId} {args : List V} {H : List Obj} {R R' : V → List Obj → Prop} (h : Fn P f args H R) (hr : ∀ x H, R x H → R' x H) : Fn P f args H R' :=
  ⟨h.1, fun w ρ vs s hv => (h.2 w ρ vs s hv).mono fun _ _ ⟨v, x, ρ', H', a, b, c, d, r⟩ => ⟨v, x, ρ', H', a, b, c, d, hr _ _ r⟩⟩

/-- What a function's results are, out of its slots: a value; or a variable's cell. -/
def resOf (σ : Slots) : ResultVar → Option V
  | .tmp t => some (σ t)
  | .cell _ _ => none

def retV (fn : Func) (σ : Slots) (k : V → Prop) : Prop :=
  match fn.results.toList with
  | [.tmp t] => k (σ t)
  | [.tmp t, .tmp u] => k (.tup [σ t, σ u])
  | [.tmp t, .tmp u, .tmp v] => k (.tup [σ t, σ u, σ v])
  | [.tmp t, .tmp u, .tmp v, .tmp x] => k (.tup [σ t, σ u, σ v, σ x])
  | [.tmp t, .tmp u, .tmp v, .tmp x, .tmp y] => k (.tup [σ t, σ u, σ v, σ x, σ y])
  | [] => k (.tup [])
  | _ => False

def fnPost (fn : Func) (R : V → List Obj → Prop) : Post
  | .normal, σ, H => retV fn σ fun x => R x H
  | .ret, σ, H => retV fn σ fun x => R x H
  | _, _, _ => False

def argSlots (args : List V) : Slots := fun t => args.getD t .any

theorem results_of {P : Program} {fn : Func} {σ : Slots} {H : List Obj} {ρ : Nat → Nat} {a : Act} {w : World} {N : Nat} (hs : SimA N σ H ρ a w) {k : V → Prop} (h : retV fn σ k) :
    ∃ v x, (results fn a.tmps).run P w = .ok v w ∧ VR w ρ H x v ∧ k x := by
  obtain ⟨nm, og, ta, pa, rt, nf, nt, res, bd, nr, ou, fi, el, ln, me, tn⟩ := fn
  obtain ⟨res⟩ := res
  unfold retV at h
  simp only at h
  split at h
  · exact ⟨_, _, by simp [results], hs.slot _, h⟩
  all_goals first
    | exact h.elim
    | exact ⟨_, _, by simp [results]; rfl, .tup _ _ rfl (fun j x v h1 h2 => by
        rcases j with _ | _ | _ | _ | _ | j <;> simp at h1 h2 <;> (try subst h1) <;> (try subst h2) <;> first | exact hs.slot _ | (simpa using hs.slot _)), h⟩

theorem Fn.of_body {P : Program} {f : FuncId} {fn : Func} {c : Code} {args : List V} {H : List Obj} {R : V → List Obj → Prop} (hf : P.funcs[f]? = some fn) (hb : fn.body = some c)
    (hgood : goodFn P f = true) (hn : args.length ≤ fn.ntmps) (h : AWP P fn.ntmps c (argSlots args) H (fnPost fn R)) : Fn P f args H R := by
  refine ⟨hgood, fun w ρ vs s hv => ?_⟩
  refine calls_of_wp hf hb ?_
  have hsz : (vs ++ Array.replicate (fn.ntmps - vs.size) undef).size = fn.ntmps := by
    have := hv.1; simp; omega
  refine wp_mono (h _ w ρ ⟨rfl, hsz, fun t => ?_, s⟩) ?_
  · unfold argSlots
    by_cases ht : t < args.length
    · have h1 : args[t]? = some args[t] := List.getElem?_eq_getElem ht
      have htv : t < vs.size := hv.1 ▸ ht
      have h2 : vs[t]? = some vs[t] := Array.getElem?_eq_getElem htv
      have := hv.2 t _ _ h1 h2
      simpa [List.getD, h1, Array.getElem?_append, htv, h2] using this
    · have h1 : args[t]? = none := List.getElem?_eq_none (by omega)
      simp only [List.getD, h1]
      exact .any _
  · rintro e a' w' ⟨ρ', σ', H', s', g, q⟩
    cases e with
    | normal =>
      obtain ⟨v, x, hr, hx, hk⟩ := results_of (P := P) (k := fun x => R x H') s' q
      exact ⟨s'.defers, v, hr, v, x, ρ', H', rfl, hx, s'.sim, g, hk⟩
    | ret =>
      obtain ⟨v, x, hr, hx, hk⟩ := results_of (P := P) (k := fun x => R x H') s' q
      exact ⟨s'.defers, v, hr, v, x, ρ', H', rfl, hx, s'.sim, g, hk⟩
    | _ => exact q.elim

/-- The same, however results are told. -/
theorem Fn.of_body' {P : Program} {f : FuncId} {fn : Func} {c : Code} {args : List V} {H : List Obj} {R : V → List Obj → Prop} (hf : P.funcs[f]? = some fn) (hb : fn.body = some c)
    (hgood : goodFn P f = true) (hn : args.length ≤ fn.ntmps) (post : Post)
    (hres : ∀ σ H ρ a w, SimA fn.ntmps σ H ρ a w → (post .normal σ H ∨ post .ret σ H) → ∃ v x, (results fn a.tmps).run P w = .ok v w ∧ VR w ρ H x v ∧ R x H)
    (hno : ∀ e σ H, e ≠ .normal → e ≠ .ret → ¬ post e σ H) (h : AWP P fn.ntmps c (argSlots args) H post) : Fn P f args H R := by
  refine ⟨hgood, fun w ρ vs s hv => ?_⟩
  refine calls_of_wp hf hb ?_
  have hsz : (vs ++ Array.replicate (fn.ntmps - vs.size) undef).size = fn.ntmps := by
    have := hv.1; simp; omega
  refine wp_mono (h _ w ρ ⟨rfl, hsz, fun t => ?_, s⟩) ?_
  · unfold argSlots
    by_cases ht : t < args.length
    · have h1 : args[t]? = some args[t] := List.getElem?_eq_getElem ht
      have htv : t < vs.size := hv.1 ▸ ht
      have h2 : vs[t]? = some vs[t] := Array.getElem?_eq_getElem htv
      have := hv.2 t _ _ h1 h2
      simpa [List.getD, h1, Array.getElem?_append, htv, h2] using this
    · have h1 : args[t]? = none := List.getElem?_eq_none (by omega)
      simp only [List.getD, h1]
      exact .any _
  · rintro e a' w' ⟨ρ', σ', H', s', g, q⟩
    cases e with
    | normal =>
      obtain ⟨v, x, hr, hx, hk⟩ := hres _ _ _ _ _ s' (.inl q)
      exact ⟨s'.defers, v, hr, v, x, ρ', H', rfl, hx, s'.sim, g, hk⟩
    | ret =>
      obtain ⟨v, x, hr, hx, hk⟩ := hres _ _ _ _ _ s' (.inr q)
      exact ⟨s'.defers, v, hr, v, x, ρ', H', rfl, hx, s'.sim, g, hk⟩
    | _ => exact absurd q (hno _ _ _ (by simp) (by simp))

/-! ### Operations -/

/-- An operation, whatever stands for these slots and objects: what it yields, and the objects then, is as K tells. -/
def OpW (P : Program) (N : Nat) (o : Oper) (σ : Slots) (H : List Obj) (K : V → List Obj → Prop) : Prop :=
  ∀ (a : Act) (w : World) (ρ : Nat → Nat), SimA N σ H ρ a w → ∀ (next : Act → World → Prop) (Q : Exit → Act → World → Prop),
    (∀ v w' ρ' x H', K x H' → Sim ρ' H' w' → Evo w ρ H w' ρ' H' → VR w' ρ' H' x v → next (a.put o.dst v) w') → o.wp P a w next Q

theorem OpW.val {P : Program} {o : Oper} {N : Nat} {σ : Slots} {H : List Obj} {K : V → List Obj → Prop} (x : V) (hk : K x H)
    (h : ∀ a w ρ, SimA N σ H ρ a w → ∃ v, (execOp a.eval o).run P w = .ok (.value v) w ∧ VR w ρ H x v) : OpW P N o σ H K := by
  intro a w ρ hs next Q kk
  obtain ⟨v, hr, hv⟩ := h a w ρ hs
  unfold Oper.wp
  rw [hr]
  exact kk v w ρ x H hk hs.sim (.refl w ρ H) hv

/-- The operations of a region, in the text's order. -/
def gslot (all : List Oper) (j : Nat) : Option Nat := (all[j]?).bind (·.dst)

def guardW (c : V) (want : Bool) (yes no : Prop) : Prop :=
  match c with
  | .b t => if t = want then yes else no
  | _ => False

def opsW (P : Program) (N : Nat) (all : List Oper) : List Oper → Slots → List Obj → (Slots → List Obj → Prop) → Prop
  | [], σ, H, K => K σ H
  | o :: r, σ, H, K =>
    match o.guard with
    | none => OpW P N o σ H fun x H' => opsW P N all r (aput N σ o.dst x) H' K
    | some (j, want) =>
      match gslot all j with
      | some t => if t < N then guardW (σ t) want (OpW P N o σ H fun x H' => opsW P N all r (aput N σ o.dst x) H' K) (opsW P N all r (aput N σ o.dst .any) H K) else False
      | none => False

theorem Oper.wp_post {P : Program} {o : Oper} {a : Act} {w : World} {K K' : Act → World → Prop} {Q Q' : Exit → Act → World → Prop} (hk : ∀ a w, K a w → K' a w)
    (hq : ∀ e a w, Q e a w → Q' e a w) (hh : o.wp P a w K Q) : o.wp P a w K' Q' := by
  unfold Oper.wp at *
  generalize (execOp a.eval o).run P w = r at *
  cases r with
  | ok n w' =>
    cases n <;> simp only [Oper.upon] at hh ⊢ <;>
      first
        | exact hk _ _ hh
        | exact Calls.mono hh (fun e w'' he => by cases e <;> first | exact hk _ _ he | exact hq _ _ _ he | exact (let ⟨a, w, h⟩ := he; ⟨a, w, hq _ _ _ h⟩))
        | exact Rows.mono hh (fun _ _ he => hk _ _ he)
  | halt x w' => cases x <;> simp only [Oper.upon] at hh ⊢ <;> first | exact hq _ _ _ hh | exact hh

theorem wpOps_mono {P : Program} {ops : Array Oper} {Q Q' : Exit → Act → World → Prop} (hq : ∀ e a w, Q e a w → Q' e a w) :
    ∀ (l : List Nat) (a : Act) (w : World), wpOps P ops Q l a w → wpOps P ops Q' l a w
  | [], _, _, h => hq _ _ _ h
  | i :: l, a, w, h => by
    simp only [wpOps] at h ⊢
    split
    · rename_i hn; rw [hn] at h; exact wpOps_mono hq l _ _ h
    · rename_i o ho
      rw [ho] at h
      simp only at h
      split
      · rename_i hw
        rw [if_pos hw] at h
        rcases h with h | ⟨h, a', w', hl⟩
        · exact .inl (Oper.wp_post (fun a w => wpOps_mono hq l a w) hq h)
        · exact .inr ⟨h, a', w', hq _ _ _ hl⟩
      · rename_i hw
        rw [if_neg hw] at h
        exact wpOps_mono hq l _ _ h

theorem opsW_sound {P : Program} {N : Nat} (ops : Array Oper) {K : Slots → List Obj → Prop} {Q : Post} (hK : ∀ σ H, K σ H → Q .normal σ H) :
    ∀ (n i : Nat) (σ : Slots) (H : List Obj), i + n = ops.size → opsW P N ops.toList (ops.toList.drop i) σ H K →
      ∀ (a : Act) (w : World) (ρ : Nat → Nat), SimA N σ H ρ a w → wpOps P ops (cpost N Q w ρ H) ((List.range' i n)) a w := by
  intro n
  induction n with
  | zero =>
    intro i σ H hi h a w ρ hs
    have : ops.toList.drop i = [] := by apply List.drop_eq_nil_of_le; simp; omega
    rw [this] at h
    exact ⟨ρ, σ, H, hs, .refl w ρ H, hK _ _ h⟩
  | succ n ih =>
    intro i σ H hi h a w ρ hs
    have hlt : i < ops.size := by omega
    have hd : ops.toList.drop i = ops[i] :: ops.toList.drop (i + 1) := by
      rw [List.drop_eq_getElem_cons (by simpa using hlt)]; simp
    rw [hd] at h
    rw [List.range'_succ]
    have hget : ops[i]? = some ops[i] := Array.getElem?_eq_getElem hlt
    have mono : ∀ {w₁ ρ₁ H₁ a₁}, Evo w ρ H w₁ ρ₁ H₁ → wpOps P ops (cpost N Q w₁ ρ₁ H₁) (List.range' (i + 1) n) a₁ w₁ → wpOps P ops (cpost N Q w ρ H) (List.range' (i + 1) n) a₁ w₁ := by
      intro w₁ ρ₁ H₁ a₁ g hh
      refine wpOps_mono ?_ _ _ _ hh
      rintro e a' w' ⟨ρ', σ', H', s, g', q⟩
      exact ⟨ρ', σ', H', s, g.trans g', q⟩
    have step : OpW P N ops[i] σ H (fun x H' => opsW P N ops.toList (ops.toList.drop (i + 1)) (aput N σ ops[i].dst x) H' K) →
        ops[i].wp P a w (wpOps P ops (cpost N Q w ρ H) (List.range' (i + 1) n)) (cpost N Q w ρ H) := by
      intro he
      refine he a w ρ hs _ _ fun v w' ρ' x H' hk s' g' hv => ?_
      exact mono g' (ih (i + 1) _ H' (by omega) hk _ w' ρ' (hs.put g' s' _ hv))
    simp only [opsW] at h
    simp only [wpOps, hget]
    cases hg : ops[i].guard with
    | none =>
      rw [hg] at h
      have hw : Region.wanted ops[i] (yielded ops a.tmps) = true := by simp [Region.wanted, hg]
      rw [if_pos hw]
      exact .inl (step h)
    | some jw =>
      obtain ⟨j, want⟩ := jw
      rw [hg] at h
      simp only at h
      cases ht : gslot ops.toList j with
      | none => rw [ht] at h; exact h.elim
      | some t =>
        rw [ht] at h
        simp only at h
        by_cases htN : t < N
        · rw [if_pos htN] at h
          unfold guardW at h
          split at h
          · rename_i x hx
            have hv := hs.slot t
            rw [hx] at hv
            have hvt : a.tmps.getD t undef = .bool x := hv.inv_b
            have hy : yielded ops a.tmps j = some x := by
              unfold yielded
              unfold gslot at ht
              simp only [Array.getElem?_toList] at ht
              rw [ht]
              have hsz : t < a.tmps.size := by rw [hs.size]; exact htN
              rw [Array.getD, dif_pos hsz] at hvt
              simp [Array.getElem?_eq_getElem hsz]
              rw [show a.tmps[t] = Value.bool x from hvt]
            have hw : Region.wanted ops[i] (yielded ops a.tmps) = (some x == some want) := by simp [Region.wanted, hg, hy]
            by_cases hxw : x = want
            · rw [if_pos hxw] at h
              rw [hw, if_pos (by simp [hxw])]
              exact .inl (step h)
            · rw [if_neg hxw] at h
              rw [hw, if_neg (by simp [hxw])]
              exact ih (i + 1) _ H (by omega) h _ w ρ (hs.put (.refl w ρ H) hs.sim _ (.any _))
          · exact h.elim
        · rw [if_neg htN] at h; exact h.elim

theorem AWP.region {P : Program} {N id : Nat} {ops : Array Oper} {σ : Slots} {H : List Obj} {Q : Post} (h : opsW P N ops.toList ops.toList σ H (Q .normal)) :
    AWP P N (.region id ops false) σ H Q := by
  intro a w ρ hs
  refine wp_region ?_
  have := opsW_sound (P := P) (N := N) ops (K := Q .normal) (Q := Q) (fun _ _ h => h) ops.size 0 σ H (by omega) (by simpa using h) a w ρ hs
  rwa [← List.range_eq_range'] at this

end Go.TL
