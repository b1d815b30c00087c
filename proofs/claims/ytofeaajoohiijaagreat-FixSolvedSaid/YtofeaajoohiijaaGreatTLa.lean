/- The tree logic, part one: abstract values, what they say of a world, and how that lasts. No program in sight. -/
import Derived.Orders
import Derived.Laws.AppendOwn
import Derived.Laws.CopyRow
namespace Go.TL
open Go

/-- What a slot or a cell holds, told by value where it may be. -/
inductive V where
  | any
  | i (k : IntKind) (n : Int)
  | b (x : Bool)
  | s (x : ByteArray)
  | emp
  | lst (es : List V)
  | agg (cs : List V)
  | tup (vs : List V)
  | sl (o n off len : Nat) (cap : Option Nat)
  | ptr (o n i j : Nat)
  | iptr (cs : List V)
  | map (o : Nat)
  | clo (f : FuncId) (caps : List V)
  | raw (v : Value)
  deriving Inhabited

def cellsOf : V → List V
  | .agg cs => cs
  | v => [v]

inductive Obj where
  | dead
  | row (k : Nat) (es : List V)
  | map (es : List (V × V))
  deriving Inhabited

/-- No live object has this block. -/
def Unowned (ρ : Nat → Nat) (H : List Obj) (b : Nat) : Prop := ∀ o ob, H[o]? = some ob → ob ≠ .dead → ρ o ≠ b

def SlOk (w : World) (ρ : Nat → Nat) (k : Nat) (o n off len : Nat) (cap : Option Nat) (v : Value) : Prop :=
  ∃ c t sz, v = .slice (some ⟨ρ o, off * k, none⟩) len c ∧ len ≤ c ∧ off + len ≤ n ∧ (∀ c', cap = some c' → c = c' ∧ off + c' ≤ n) ∧
    w.shape? (ρ o) = some (t, sz) ∧ (off + c) * k ≤ sz ∧ (cap = none → n ≤ off + c)

inductive VR (w : World) (ρ : Nat → Nat) (H : List Obj) : V → Value → Prop
  | any (v : Value) : VR w ρ H .any v
  | i (k : IntKind) (n : Int) : VR w ρ H (.i k n) (.int k n)
  | b (x : Bool) : VR w ρ H (.b x) (.bool x)
  | s (x : ByteArray) : VR w ρ H (.s x) (.string x)
  | raw (v : Value) : VR w ρ H (.raw v) v
  | emp (a : Option Addr) : VR w ρ H .emp (.slice a 0 0)
  | lnil (a : Option Addr) (c : Nat) : VR w ρ H (.lst []) (.slice a 0 c)
  | lst (es : List V) (blk off c k : Nat) (f : Nat → Nat → Value) (hne : es ≠ []) (hc : es.length ≤ c)
      (hk : ∀ e ∈ es, (cellsOf e).length = k) (hb : blk < w.heap.size) (hu : Unowned ρ H blk)
      (hcell : ∀ (i : Nat) e (j : Nat) x, es[i]? = some e → (cellsOf e)[j]? = some x → w.cell? ⟨blk, off + i * k + j, none⟩ = some (f i j))
      (hv : ∀ (i : Nat) e (j : Nat) x, es[i]? = some e → (cellsOf e)[j]? = some x → VR w ρ H x (f i j)) :
      VR w ρ H (.lst es) (.slice (some ⟨blk, off, none⟩) es.length c)
  | agg (cs : List V) (vs : Array Value) (hl : cs.length = vs.size)
      (hv : ∀ (j : Nat) x v, cs[j]? = some x → vs[j]? = some v → VR w ρ H x v) : VR w ρ H (.agg cs) (.agg vs)
  | tup (cs : List V) (vs : Array Value) (hl : cs.length = vs.size)
      (hv : ∀ (j : Nat) x v, cs[j]? = some x → vs[j]? = some v → VR w ρ H x v) : VR w ρ H (.tup cs) (.tuple vs)
  | clo (f : FuncId) (cs : List V) (vs : Array Value) (hl : cs.length = vs.size)
      (hv : ∀ (j : Nat) x v, cs[j]? = some x → vs[j]? = some v → VR w ρ H x v) : VR w ρ H (.clo f cs) (.func (.func f) #[] vs)
  | sl (o n off len : Nat) (cap : Option Nat) (v : Value) (ho : o < H.length) (h1 : v.oneCell' = true)
      (h : ∀ k es, H[o]? = some (.row k es) → n ≤ es.length ∧ (es.length = n → SlOk w ρ k o n off len cap v)) :
      VR w ρ H (.sl o n off len cap) v
  | ptr (o n i j : Nat) (v : Value) (ho : o < H.length) (h1 : v.oneCell' = true)
      (h : ∀ k es, H[o]? = some (.row k es) → n ≤ es.length ∧ (es.length = n → v = .pointer (some ⟨ρ o, i * k + j, none⟩))) :
      VR w ρ H (.ptr o n i j) v
  | iptr (cs : List V) (blk off : Nat) (f : Nat → Value) (hb : blk < w.heap.size) (hu : Unowned ρ H blk)
      (hcell : ∀ (j : Nat) x, cs[j]? = some x → w.cell? ⟨blk, off + j, none⟩ = some (f j))
      (hv : ∀ (j : Nat) x, cs[j]? = some x → VR w ρ H x (f j)) : VR w ρ H (.iptr cs) (.pointer (some ⟨blk, off, none⟩))
  | map (o : Nat) (v : Value) (ho : o < H.length) (h1 : v.oneCell' = true) (h : ∀ es, H[o]? = some (.map es) → v = .map (some (ρ o))) : VR w ρ H (.map o) v

/-- How one state may come of another: what nobody owns stays as it is; objects keep their blocks, or grow, or die. -/
structure Evo (w : World) (ρ : Nat → Nat) (H : List Obj) (w' : World) (ρ' : Nat → Nat) (H' : List Obj) : Prop where
  size : w.heap.size ≤ w'.heap.size
  len : H.length ≤ H'.length
  froz : ∀ b, b < w.heap.size → Unowned ρ H b → w'.heap[b]? = w.heap[b]? ∧ Unowned ρ' H' b
  dead : ∀ o : Nat, H[o]? = some .dead → H'[o]? = some .dead
  row : ∀ (o k : Nat) es, H[o]? = some (.row k es) → H'[o]? = some .dead ∨
    ∃ es', H'[o]? = some (.row k es') ∧ es.length ≤ es'.length ∧ (es'.length = es.length → ρ' o = ρ o ∧ w'.shape? (ρ o) = w.shape? (ρ o))
  map : ∀ (o : Nat) es, H[o]? = some (.map es) → H'[o]? = some .dead ∨ ∃ es', H'[o]? = some (.map es') ∧ ρ' o = ρ o
  io : w'.os = w.os ∧ w'.output = w.output ∧ w'.tape = w.tape

theorem Evo.refl (w : World) (ρ : Nat → Nat) (H : List Obj) : Evo w ρ H w ρ H :=
  ⟨Nat.le_refl _, Nat.le_refl _, fun _ _ h => ⟨rfl, h⟩, fun _ h => h, fun _ _ es h => .inr ⟨es, h, Nat.le_refl _, fun _ => ⟨rfl, rfl⟩⟩,
    fun _ es h => .inr ⟨es, h, rfl⟩, rfl, rfl, rfl⟩

theorem Evo.trans {w₁ w₂ w₃ : World} {ρ₁ ρ₂ ρ₃ : Nat → Nat} {H₁ H₂ H₃ : List Obj} (h : Evo w₁ ρ₁ H₁ w₂ ρ₂ H₂) (g : Evo w₂ ρ₂ H₂ w₃ ρ₃ H₃) :
    Evo w₁ ρ₁ H₁ w₃ ρ₃ H₃ := by
  refine ⟨Nat.le_trans h.size g.size, Nat.le_trans h.len g.len, ?_, fun o ho => g.dead o (h.dead o ho), ?_, ?_, g.io.1.trans h.io.1, g.io.2.1.trans h.io.2.1, g.io.2.2.trans h.io.2.2⟩
  · intro b hb hu
    obtain ⟨e1, u1⟩ := h.froz b hb hu
    obtain ⟨e2, u2⟩ := g.froz b (Nat.lt_of_lt_of_le hb h.size) u1
    exact ⟨e2.trans e1, u2⟩
  · intro o k es ho
    rcases h.row o k es ho with hd | ⟨es', ho', hl, hr⟩
    · exact .inl (g.dead o hd)
    · rcases g.row o k es' ho' with hd | ⟨es'', ho'', hl', hr'⟩
      · exact .inl hd
      · refine .inr ⟨es'', ho'', Nat.le_trans hl hl', fun he => ?_⟩
        obtain ⟨r1, s1⟩ := hr (by omega)
        obtain ⟨r2, s2⟩ := hr' (by omega)
        rw [r1] at r2 s2
        exact ⟨r2, s2.trans s1⟩
  · intro o es ho
    rcases h.map o es ho with hd | ⟨es', ho', hr⟩
    · exact .inl (g.dead o hd)
    · rcases g.map o es' ho' with hd | ⟨es'', ho'', hr'⟩
      · exact .inl hd
      · exact .inr ⟨es'', ho'', hr'.trans hr⟩

theorem obj_cases {H : List Obj} {o : Nat} (ho : o < H.length) : H[o]? = some .dead ∨ (∃ k es, H[o]? = some (.row k es)) ∨ ∃ es, H[o]? = some (.map es) := by
  rw [List.getElem?_eq_getElem ho]
  cases H[o] with
  | dead => exact .inl rfl
  | row k es => exact .inr (.inl ⟨k, es, rfl⟩)
  | map es => exact .inr (.inr ⟨es, rfl⟩)

theorem VR.evo {w w' : World} {ρ ρ' : Nat → Nat} {H H' : List Obj} (g : Evo w ρ H w' ρ' H') {x : V} {v : Value} (h : VR w ρ H x v) : VR w' ρ' H' x v := by
  induction h with
  | any v => exact .any v
  | i k n => exact .i k n
  | b x => exact .b x
  | s x => exact .s x
  | raw v => exact .raw v
  | emp a => exact .emp a
  | lnil a c => exact .lnil a c
  | lst es blk off c k f hne hc hk hb hu hcell hv ih =>
    obtain ⟨e, u⟩ := g.froz blk hb hu
    refine .lst es blk off c k f hne hc hk (Nat.lt_of_lt_of_le hb g.size) u (fun i e' j x h1 h2 => ?_) ih
    have := hcell i e' j x h1 h2
    simp only [World.cell?] at this ⊢
    rw [e]; exact this
  | agg cs vs hl hv ih => exact .agg cs vs hl ih
  | tup cs vs hl hv ih => exact .tup cs vs hl ih
  | clo f cs vs hl hv ih => exact .clo f cs vs hl ih
  | sl o n off len cap v ho h1 h =>
    refine .sl o n off len cap v (Nat.lt_of_lt_of_le ho g.len) h1 fun k es he => ?_
    rcases obj_cases ho with hd | ⟨k0, es0, hr⟩ | ⟨es0, hm⟩
    · rw [g.dead o hd] at he; cases he
    · rcases g.row o k0 es0 hr with hd | ⟨es', ho', hl, hr'⟩
      · rw [hd] at he; cases he
      · rw [ho'] at he
        cases he
        obtain ⟨hn, hs⟩ := h _ _ hr
        refine ⟨Nat.le_trans hn hl, fun hlen => ?_⟩
        obtain ⟨c, t, sz, rfl, a1, a2, a3, a4, a5⟩ := hs (by omega)
        obtain ⟨r1, s1⟩ := hr' (by omega)
        exact ⟨c, t, sz, by rw [r1], a1, a2, a3, by rw [r1, s1]; exact a4, a5⟩
    · rcases g.map o es0 hm with hd | ⟨es', ho', _⟩
      · rw [hd] at he; cases he
      · rw [ho'] at he; cases he
  | ptr o n i j v ho h1 h =>
    refine .ptr o n i j v (Nat.lt_of_lt_of_le ho g.len) h1 fun k es he => ?_
    rcases obj_cases ho with hd | ⟨k0, es0, hr⟩ | ⟨es0, hm⟩
    · rw [g.dead o hd] at he; cases he
    · rcases g.row o k0 es0 hr with hd | ⟨es', ho', hl, hr'⟩
      · rw [hd] at he; cases he
      · rw [ho'] at he
        cases he
        obtain ⟨hn, hs⟩ := h _ _ hr
        refine ⟨Nat.le_trans hn hl, fun hlen => ?_⟩
        obtain ⟨r1, s1⟩ := hr' (by omega)
        rw [r1]; exact hs (by omega)
    · rcases g.map o es0 hm with hd | ⟨es', ho', _⟩
      · rw [hd] at he; cases he
      · rw [ho'] at he; cases he
  | iptr cs blk off f hb hu hcell hv ih =>
    obtain ⟨e, u⟩ := g.froz blk hb hu
    refine .iptr cs blk off f (Nat.lt_of_lt_of_le hb g.size) u (fun j x h1 => ?_) ih
    have := hcell j x h1
    simp only [World.cell?] at this ⊢
    rw [e]; exact this
  | map o v ho h1 h =>
    refine .map o v (Nat.lt_of_lt_of_le ho g.len) h1 fun es he => ?_
    rcases obj_cases ho with hd | ⟨k0, es0, hr⟩ | ⟨es0, hm⟩
    · rw [g.dead o hd] at he; cases he
    · rcases g.row o k0 es0 hr with hd | ⟨es', ho', _⟩
      · rw [hd] at he; cases he
      · rw [ho'] at he; cases he
    · rcases g.map o es0 hm with hd | ⟨es', ho', hr'⟩
      · rw [hd] at he; cases he
      · rw [hr']; exact h es0 hm

/-- Memory holds the live objects, each in a block of its own. -/
structure Sim (ρ : Nat → Nat) (H : List Obj) (w : World) : Prop where
  inj : ∀ (o₁ o₂ : Nat) ob₁ ob₂, H[o₁]? = some ob₁ → ob₁ ≠ .dead → H[o₂]? = some ob₂ → ob₂ ≠ .dead → ρ o₁ = ρ o₂ → o₁ = o₂
  row : ∀ (o k : Nat) es, H[o]? = some (.row k es) → ∃ arr t, w.heap[ρ o]? = some (.cells arr t (0, 0)) ∧ es.length * k ≤ arr.size ∧
    (∀ e ∈ es, (cellsOf e).length = k) ∧
    ∀ (i : Nat) e (j : Nat) x, es[i]? = some e → (cellsOf e)[j]? = some x → ∃ v, arr[i * k + j]? = some v ∧ VR w ρ H x v
  map : ∀ (o : Nat) es, H[o]? = some (.map es) → ∃ ents clock, w.heap[ρ o]? = some (.map ents clock) ∧ ents.size = es.length ∧
    ∀ (i : Nat) kx, es[i]? = some kx → ∃ en, ents[i]? = some en ∧ VR w ρ H kx.1 en.key ∧ VR w ρ H kx.2 en.val

theorem Sim.lt {ρ : Nat → Nat} {H : List Obj} {w : World} (h : Sim ρ H w) {o : Nat} {ob : Obj} (ho : H[o]? = some ob) (hd : ob ≠ .dead) : ρ o < w.heap.size := by
  cases ob with
  | dead => exact absurd rfl hd
  | row k es =>
    obtain ⟨arr, t, e, _⟩ := h.row o k es ho
    exact (Array.getElem?_eq_some_iff.1 e).1
  | map es =>
    obtain ⟨ents, c, e, _⟩ := h.map o es ho
    exact (Array.getElem?_eq_some_iff.1 e).1

end Go.TL
