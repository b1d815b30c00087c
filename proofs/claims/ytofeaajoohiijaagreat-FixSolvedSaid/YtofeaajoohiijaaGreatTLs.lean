/- The tree logic: functions that only answer, called with own rows; rows that become lists. -/
import Derived.Test.YtofeaajoohiijaaGreatTLp
import Derived.Scope
namespace Go.TL
open Go

/-- A value without memory. -/
def flat : V → Bool
  | .i _ _ | .b _ | .s _ | .any => true
  | _ => false

theorem VR.flat {w w' : World} {ρ ρ' : Nat → Nat} {H H' : List Obj} {x : V} {v : Value} (hx : TL.flat x = true) (h : VR w ρ H x v) : VR w' ρ' H' x v := by
  cases h with
  | any => exact .any _
  | i => exact .i _ _
  | b => exact .b _
  | s => exact .s _
  | _ => cases hx

def Flat (x : V) : Prop := flat x = true ∨ ∃ cs, x = .tup cs ∧ ∀ c ∈ cs, flat c = true

theorem VR.Flat {w w' : World} {ρ ρ' : Nat → Nat} {H H' : List Obj} {x : V} {v : Value} (hx : TL.Flat x) (h : VR w ρ H x v) : VR w' ρ' H' x v := by
  rcases hx with hx | ⟨cs, rfl, hc⟩
  · exact h.flat hx
  · cases h with
    | tup _ vs hl hv => exact .tup cs vs hl fun j x v a b => (hv j x v a b).flat (hc _ (List.mem_of_getElem? a))

theorem Evo.same {w w' : World} {ρ : Nat → Nat} {H : List Obj} (s : Sim ρ H w) (hsz : w.heap.size ≤ w'.heap.size) (hb : ∀ b, b < w.heap.size → w'.heap[b]? = w.heap[b]?) (hio : w'.os = w.os ∧ w'.output = w.output ∧ w'.tape = w.tape) : Evo w ρ H w' ρ H :=
  ⟨hsz, Nat.le_refl _, fun b h hu => ⟨hb b h, hu⟩, fun _ h => h, fun o k es ho => .inr ⟨es, ho, Nat.le_refl _, fun _ => ⟨rfl, by
    have := s.lt ho (by simp)
    simp only [World.shape?, hb _ this]⟩⟩, fun o es ho => .inr ⟨es, ho, rfl⟩, hio⟩

theorem Sim.same {w w' : World} {ρ : Nat → Nat} {H : List Obj} (s : Sim ρ H w) (hsz : w.heap.size ≤ w'.heap.size) (hb : ∀ b, b < w.heap.size → w'.heap[b]? = w.heap[b]?) (hio : w'.os = w.os ∧ w'.output = w.output ∧ w'.tape = w.tape) : Sim ρ H w' := by
  have g := Evo.same s hsz hb hio
  refine ⟨s.inj, fun o k es ho => ?_, fun o es ho => ?_⟩
  · obtain ⟨arr, t, e0, f0, k0, c0⟩ := s.row o k es ho
    refine ⟨arr, t, by rw [hb _ (s.lt ho (by simp))]; exact e0, f0, k0, fun i e j x h1 h2 => ?_⟩
    obtain ⟨v, hv, hr⟩ := c0 i e j x h1 h2
    exact ⟨v, hv, hr.evo g⟩
  · obtain ⟨ents, c, e0, z0, c0⟩ := s.map o es ho
    refine ⟨ents, c, by rw [hb _ (s.lt ho (by simp))]; exact e0, z0, fun i kx h => ?_⟩
    obtain ⟨en, a, b, d⟩ := c0 i kx h
    exact ⟨en, a, b.evo g, d.evo g⟩

theorem Sim.nil (ρ : Nat → Nat) (w : World) : Sim ρ [] w := ⟨by simp, by simp, by simp⟩

/-- Arguments, own rows among them told as lists. -/
def Frzs (H : List Obj) (xs ys : List V) : Prop := xs.length = ys.length ∧ ∀ (j : Nat) x y, xs[j]? = some x → ys[j]? = some y → Frz 0 H x y

theorem Frzs.nil (H : List Obj) : Frzs H [] [] := ⟨rfl, by simp⟩
theorem Frzs.cons {H : List Obj} {x y : V} {xs ys : List V} (h : Frz 0 H x y) (g : Frzs H xs ys) : Frzs H (x :: xs) (y :: ys) := by
  refine ⟨by simp [g.1], fun j a b h1 h2 => ?_⟩
  cases j with
  | zero => simp at h1 h2; subst h1 h2; exact h
  | succ j => exact g.2 j a b h1 h2

theorem VRs.frz {w : World} {ρ : Nat → Nat} {H : List Obj} {xs ys : List V} {vs : Array Value} (s : Sim ρ H w) (hf : Frzs H xs ys) (h : VRs w ρ H xs vs) : VRs w ρ [] ys vs := by
  refine ⟨hf.1 ▸ h.1, fun j y v h1 h2 => ?_⟩
  have hj : j < xs.length := by rw [hf.1]; exact (List.getElem?_eq_some_iff.1 h1).1
  have hx := List.getElem?_eq_getElem hj
  exact VR.frz (H := []) (news := H) (ρ' := ρ) (ρ := ρ) s (by simp) (hf.2 j _ y hx h1) (h.2 j _ v hx h2)

/-- A function that only answers, called with own rows: it reads them as lists. -/
theorem Pure.borrow {P : Program} {f : FuncId} {xs ys : List V} {r : V} {H : List Obj} (h : Pure P f ys r) (hr : Flat r) (hf : Frzs H xs ys) : Fn P f xs H fun x H' => x = r ∧ H' = H := by
  refine ⟨(h []).1, fun w ρ vs s hv => ((h []).2 w ρ vs (Sim.nil ρ w) (hv.frz s hf)).mono ?_⟩
  rintro e w' ⟨v, x, ρ', H', rfl, hx, s', g, rfl, rfl⟩
  have hb : ∀ b, b < w.heap.size → w'.heap[b]? = w.heap[b]? := fun b h => (g.froz b h (fun o ob ho => by simp at ho)).1
  exact ⟨v, x, ρ, H, rfl, hx.Flat hr, s.same g.size hb g.io, .same s g.size hb g.io, rfl, rfl⟩

theorem Pure.borrowK {P : Program} {f : FuncId} {xs ys : List V} {r : V} {H : List Obj} {K : V → List Obj → Prop} (h : Pure P f ys r) (hr : Flat r) (hf : Frzs H xs ys) (k : K r H) : Fn P f xs H K :=
  (h.borrow hr hf).mono fun _ _ ⟨e1, e2⟩ => by rw [e1, e2]; exact k

theorem callE_borrow {P : Program} {f : FuncId} {args caps ys : List V} {r : V} {H : List Obj} {K : V → List Obj → Prop} (h : Pure P f ys r) (hr : Flat r) (hf : Frzs H (args ++ caps) ys) (k : K r H) : callE P (.clo f caps) args H K :=
  ⟨r, H, h.borrow hr hf, k⟩

/-- A call of which a truth alone is of use. -/
theorem Fn.borrowB {P : Program} {f : FuncId} {as bs : List V} {H : List Obj} {b : Bool} (h : Fn P f bs [] fun x _ => ∃ y, x = .tup [y, .b b]) (hf : Frzs H as bs) : Fn P f as H fun x G => x = .tup [.any, .b b] ∧ G = H := by
  refine ⟨h.1, fun w ρ vs s hv => (h.2 w ρ vs (Sim.nil ρ w) (hv.frz s hf)).mono ?_⟩
  rintro e w' ⟨v, x, ρ', G, rfl, hx, s', g, y, rfl⟩
  have hb : ∀ b, b < w.heap.size → w'.heap[b]? = w.heap[b]? := fun b h => (g.froz b h (fun o ob ho => by simp at ho)).1
  refine ⟨v, _, ρ, H, rfl, ?_, s.same g.size hb g.io, .same s g.size hb g.io, rfl, rfl⟩
  cases hx with
  | tup _ vs hl hv =>
    refine .tup _ _ hl fun j x u h1 h2 => ?_
    match j with
    | 0 => simp at h1; subst h1; exact .any _
    | 1 => simp at h1; subst h1; exact (hv 1 _ u rfl h2).flat rfl
    | j + 2 => simp at h1

theorem Frz.own {H : List Obj} {o k : Nat} {es : List V} {n : Nat} (ho : H[o]? = some (.row k es)) (hn : n = es.length) (hc : ∀ e ∈ es, Closed e) : Frz 0 H (.sl o n 0 n none) (.lst es) := by
  subst hn
  refine .sl o _ 0 _ none k es es (Nat.zero_le _) ho rfl (by simp) rfl fun i e y hi he hy => ?_
  simp at he
  rw [he] at hy
  cases hy
  exact .closed _ (hc _ (List.mem_of_getElem? he))

/-- A row is given up. -/
theorem Evo.kill {w : World} {ρ : Nat → Nat} {H : List Obj} (o : Nat) : Evo w ρ H w ρ (H.set o .dead) := by
  have hu : ∀ b, Unowned ρ H b → Unowned ρ (H.set o .dead) b := by
    intro b hu o' ob ho hd
    rw [List.getElem?_set] at ho
    split at ho
    · split at ho
      · cases ho; exact absurd rfl hd
      · cases ho
    · exact hu o' ob ho hd
  refine ⟨Nat.le_refl _, by simp, fun b _ h => ⟨rfl, hu b h⟩, fun o' h => ?_, fun o' k es h => ?_, fun o' es h => ?_, rfl, rfl, rfl⟩ <;> rw [List.getElem?_set]
  · split
    · split
      · rfl
      · rename_i e hl; subst e; exact absurd (List.getElem?_eq_some_iff.1 h).1 hl
    · exact h
  · split
    · rename_i e; subst e
      rw [if_pos (List.getElem?_eq_some_iff.1 h).1]; exact .inl rfl
    · exact .inr ⟨es, h, Nat.le_refl _, fun _ => ⟨rfl, rfl⟩⟩
  · split
    · rename_i e; subst e
      rw [if_pos (List.getElem?_eq_some_iff.1 h).1]; exact .inl rfl
    · exact .inr ⟨es, h, rfl⟩

theorem Sim.kill {w : World} {ρ : Nat → Nat} {H : List Obj} (s : Sim ρ H w) (o : Nat) : Sim ρ (H.set o .dead) w := by
  have hold : ∀ (o' : Nat) ob, (H.set o .dead)[o']? = some ob → ob ≠ .dead → H[o']? = some ob := by
    intro o' ob ho hd
    rw [List.getElem?_set] at ho
    split at ho
    · split at ho
      · cases ho; exact absurd rfl hd
      · cases ho
    · exact ho
  refine ⟨fun o₁ o₂ ob₁ ob₂ h1 d1 h2 d2 e => s.inj o₁ o₂ ob₁ ob₂ (hold _ _ h1 d1) d1 (hold _ _ h2 d2) d2 e, fun o' k es ho => ?_, fun o' es ho => ?_⟩
  · obtain ⟨arr, t, e0, f0, k0, c0⟩ := s.row o' k es (hold _ _ ho (by simp))
    exact ⟨arr, t, e0, f0, k0, fun i e j x h1 h2 => by obtain ⟨v, a, b⟩ := c0 i e j x h1 h2; exact ⟨v, a, b.evo (.kill o)⟩⟩
  · obtain ⟨ents, c, e0, z0, c0⟩ := s.map o' es (hold _ _ ho (by simp))
    exact ⟨ents, c, e0, z0, fun i kx h => by obtain ⟨en, a, b, d⟩ := c0 i kx h; exact ⟨en, a, b.evo (.kill o), d.evo (.kill o)⟩⟩

theorem VR.freeze {w : World} {ρ : Nat → Nat} {H : List Obj} (s : Sim ρ H w) {o k : Nat} {es : List V} {n : Nat} (ho : H[o]? = some (.row k es)) (hn : n = es.length) {v : Value} (h : VR w ρ H (.sl o n 0 n none) v) : VR w ρ (H.set o .dead) (.lst es) v := by
  subst hn
  cases h with
  | sl _ _ _ _ _ _ ho' h1' hh' =>
    obtain ⟨c, t, sz, rfl, a1, a2, a3, a4, a5, a6⟩ := (hh' _ _ ho).2 rfl
    by_cases hz : es = []
    · subst hz; exact .lnil _ _
    · obtain ⟨arr, ta, e0, f0, k0, c0⟩ := s.row o k es ho
      refine .lst es (ρ o) (0 * k) c k (fun i j => (arr[i * k + j]?).getD undef) hz a1 (fun y hy => k0 y hy) (s.lt ho (by simp)) ?_ ?_ ?_
      · intro o1 ob1 h1 d1 e1
        rw [List.getElem?_set] at h1
        split at h1
        · cases h1; exact d1 rfl
        · rename_i hne
          exact hne (s.inj o1 o _ _ h1 d1 ho (by simp) e1).symm
      · intro i y j x h1 h2
        obtain ⟨u, hu', _⟩ := c0 i y j x h1 h2
        simp only [World.cell?, e0]
        simp [hu']
      · intro i y j x h1 h2
        obtain ⟨u, hu', hx⟩ := c0 i y j x h1 h2
        simp only [hu', Option.getD_some]
        exact hx.evo (.kill o)

/-- Behind a row's last change: it is a list from here on. -/
theorem AWP.freeze {P : Program} {N : Nat} {c : Code} {σ : Slots} {H : List Obj} {Q : Post} (t o : Nat) {k n : Nat} {es : List V} (hs : σ t = .sl o n 0 n none) (ho : H[o]? = some (.row k es)) (hn : n = es.length)
    (h : AWP P N c (updX σ t (.lst es)) (H.set o .dead) Q) : AWP P N c σ H Q := by
  refine .less (fun w ρ s => ⟨s.kill o, .kill o, fun u v hv => ?_⟩) h
  rw [updX_apply]
  split
  · rename_i e; subst e; rw [hs] at hv; exact hv.freeze s ho hn
  · exact hv.evo (.kill o)

/-- The same of a slice of no elements. -/
theorem AWP.freezeE {P : Program} {N : Nat} {c : Code} {σ : Slots} {H : List Obj} {Q : Post} (t : Nat) (hs : σ t = .emp) (h : AWP P N c (updX σ t (.lst [])) H Q) : AWP P N c σ H Q := by
  refine .less (fun w ρ s => ⟨s, .refl _ _ _, fun u v hv => ?_⟩) h
  rw [updX_apply]
  split
  · rename_i e; subst e; rw [hs] at hv; cases hv; exact .lnil _ _
  · exact hv

/-- A scope that nothing jumps in. -/
def ngK (Q : Post) : Post
  | .goto _, _, _ => False
  | e, σ, H => Q e σ H
@[simp] theorem ngK_normal (Q : Post) (σ : Slots) (H : List Obj) : ngK Q .normal σ H = Q .normal σ H := rfl
@[simp] theorem ngK_ret (Q : Post) (σ : Slots) (H : List Obj) : ngK Q .ret σ H = Q .ret σ H := rfl
@[simp] theorem ngK_exit (Q : Post) (id : Nat) (σ : Slots) (H : List Obj) : ngK Q (.exit id) σ H = Q (.exit id) σ H := rfl

theorem AWP.scope {P : Program} {N : Nat} {c : Code} {σ : Slots} {H : List Obj} {Q : Post} (h : AWP P N c σ H (ngK Q)) : AWP P N (.scope c) σ H Q := by
  intro a w ρ hs
  refine wp_scope_straight (wp_mono (h a w ρ hs) ?_)
  rintro e a' w' ⟨ρ', σ', H', s', g, q⟩
  cases e with
  | goto l => exact q
  | _ => exact ⟨ρ', σ', H', s', g, q⟩

@[simp] theorem codeX_scope (P : Program) (N : Nat) (c : Code) (σ : Slots) (H : List Obj) (Q : Post) : codeX P N (.scope c) σ H Q = AWP P N (.scope c) σ H Q := by rw [codeX_eq]; rfl

theorem AWP.scopeC {P : Program} {N : Nat} {c : Code} {σ : Slots} {H : List Obj} {Q : Post} (h : codeX P N c σ H (ngK Q)) : AWP P N (.scope c) σ H Q :=
  .scope (codeC_sound _ _ _ _ (codeX_eq ▸ h))

end Go.TL
