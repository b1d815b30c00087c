/- The tree logic, part sixteen: open orders, as equations. -/
import Derived.Test.YtofeaajoohiijaaGreatTLo
namespace Go.TL
open Go

theorem buildV_det {pl : List (Nat × Nat)} {K : List V → Prop} : ∀ {ps : List (Nat × V)} {cells : List V}, buildV pl K cells ps → ∃ cs, buildV pl (fun c => c = cs) cells ps ∧ K cs
  | [], cells, h => ⟨cells, rfl, h⟩
  | (i, v) :: ps, cells, h => by
    simp only [buildV] at h ⊢
    split at h
    · obtain ⟨h1, h2, h3, h4⟩ := h
      obtain ⟨cs, hc, hk⟩ := buildV_det h4
      exact ⟨cs, ⟨h1, h2, h3, hc⟩, hk⟩
    · exact h.elim

theorem buildV_mono {pl : List (Nat × Nat)} {K K' : List V → Prop} (hk : ∀ c, K c → K' c) : ∀ {ps : List (Nat × V)} {cells : List V}, buildV pl K cells ps → buildV pl K' cells ps
  | [], _, h => hk _ h
  | (i, v) :: ps, cells, h => by
    simp only [buildV] at h ⊢
    split at h
    · exact ⟨h.1, h.2.1, h.2.2.1, buildV_mono hk h.2.2.2⟩
    · exact h.elim

def isCall : Op → Bool
  | .call { callee := .value _, .. } => true
  | .binOp op _ _ y _ => isNilCmp op y
  | _ => false

theorem appendV_det {k : Nat} {x : V} {ys : List V} {H : List Obj} {K : V → List Obj → Prop} (h : appendV k x ys H K) : ∃ r H', appendV k x ys H (eqK r H') ∧ K r H' := by
  have E : ∀ (x : V) (H' : List Obj), eqK x H' x H' := fun _ _ => ⟨rfl, rfl⟩
  unfold appendV at h ⊢
  split at h
  · exact ⟨_, _, E _ _, h⟩
  · split at h
    · obtain ⟨a1, a2, a3, h⟩ := h
      split at h
      · obtain ⟨a4, h⟩ := h
        split at h
        · rename_i hg
          exact ⟨_, _, ⟨a1, a2, a3, a4, by rw [if_pos hg]; exact ⟨h.1, E _ _⟩⟩, h.2⟩
        · rename_i hg
          exact ⟨_, _, ⟨a1, a2, a3, a4, by rw [if_neg hg]; exact E _ _⟩, h⟩
      · exact ⟨_, _, ⟨a1, a2, a3, h.1, E _ _⟩, h.2⟩
    · exact h.elim
  · exact h.elim

theorem opC_det {P : Program} {op : Op} {σ : Slots} {H : List Obj} {K : V → List Obj → Prop} (hn : isCall op = false) (h : opC P op σ H K) : ∃ x H', opC P op σ H (eqK x H') ∧ K x H' := by
  have E : ∀ (x : V) (H' : List Obj), eqK x H' x H' := fun _ _ => ⟨rfl, rfl⟩
  have A : ∀ x, atH (eqK x H) H x := fun _ => ⟨rfl, rfl⟩
  cases op <;> simp only [opC] at h ⊢ <;> try exact h.elim
  case move => exact ⟨_, _, E _ _, h⟩
  case assign => exact ⟨_, _, E _ _, h⟩
  case pick c a b =>
    unfold condW at h ⊢
    split at h
    · rename_i t ht
      cases t with
      | true => exact ⟨_, _, E _ _, h⟩
      | false => exact ⟨_, _, E _ _, h⟩
    · exact h.elim
  case alloc =>
    unfold allocC boxC at h ⊢
    split at h
    · exact ⟨_, _, ⟨h.1, E _ _⟩, h.2⟩
    · exact h.elim
  case box => exact ⟨_, _, ⟨h.1, E _ _⟩, h.2⟩
  case build =>
    unfold buildC at h ⊢
    split at h
    · obtain ⟨cs, h1, h2⟩ := buildV_det h
      exact ⟨_, _, buildV_mono (fun c hc => by rw [hc]; exact E _ _) h1, h2⟩
    · exact h.elim
  case buildSlice =>
    unfold buildSliceC at h ⊢
    split at h
    · split at h
      · obtain ⟨a, b, c, d, e, f⟩ := h
        exact ⟨_, _, ⟨a, b, c, d, e, E _ _⟩, f⟩
      · exact h.elim
    · exact h.elim
  case load =>
    unfold loadC at h ⊢
    split at h
    · split at h
      · exact ⟨_, _, E _ _, h⟩
      · exact h.elim
    · split at h
      · exact ⟨_, _, ⟨h.1, E _ _⟩, h.2⟩
      · exact h.elim
    · exact h.elim
  case store =>
    unfold storeC at h ⊢
    split at h
    · split at h
      · obtain ⟨a, b, c, d, h⟩ := h
        split at h
        · rename_i he
          exact ⟨_, _, ⟨a, b, c, d, h.1, E _ _⟩, h.2⟩
        · exact h.elim
      · exact h.elim
    · exact h.elim
  case nilCheck =>
    unfold nilC at h ⊢
    split at h
    · exact ⟨_, _, E _ _, h⟩
    · exact ⟨_, _, ⟨h.1, E _ _⟩, h.2⟩
    · exact ⟨_, _, E _ _, h⟩
    · exact h.elim
  case binOp =>
    simp only [isCall] at hn
    simp only [hn, Bool.false_eq_true, if_false] at h ⊢
    unfold binC at h ⊢
    split at h
    · split at h
      · exact ⟨_, H, ⟨h.1, A _⟩, h.2⟩
      · exact ⟨_, H, ⟨h.1, A _⟩, h.2⟩
      · obtain ⟨a, h⟩ := h
        unfold intBin at h ⊢
        split at h <;> first | exact ⟨_, H, ⟨a, A _⟩, h⟩ | exact ⟨_, H, ⟨a, h.1, A _⟩, h.2⟩ | exact h.elim
    · unfold strBin at h ⊢
      split at h <;> first | exact ⟨_, H, A _, h⟩ | exact ⟨_, H, ⟨h.1, A _⟩, h.2⟩ | exact h.elim
    · obtain ⟨a, h⟩ := h
      split at h <;> first | exact ⟨_, H, ⟨a, A _⟩, h⟩ | exact h.elim
    · obtain ⟨a, h⟩ := h
      split at h
      · rename_i he; exact ⟨_, H, ⟨a, A _⟩, h⟩
      · rename_i he; exact ⟨_, H, ⟨a, A _⟩, h⟩
      · exact h.elim
    · exact h.elim
  case makeMap =>
    unfold makeMapC at h ⊢
    exact ⟨_, _, ⟨h.1, E _ _⟩, h.2⟩
  case lookup =>
    unfold lookupC at h ⊢
    split at h
    · split at h
      · exact ⟨_, H, ⟨h.1, h.2.1, A _⟩, h.2.2⟩
      · exact h.elim
    · exact ⟨_, H, ⟨h.1, A _⟩, h.2⟩
    · exact h.elim
  case mapUpdate =>
    unfold mapUpdateC at h ⊢
    split at h
    · split at h
      · exact ⟨_, _, ⟨h.1, h.2.1, E _ _⟩, h.2.2⟩
      · exact h.elim
    · exact h.elim
  case insert =>
    unfold mapUpdateC at h ⊢
    split at h
    · split at h
      · exact ⟨_, _, ⟨h.1, h.2.1, E _ _⟩, h.2.2⟩
      · exact h.elim
    · exact h.elim
  case unOp =>
    unfold unC at h ⊢
    split at h <;> first | exact ⟨_, H, A _, h⟩ | exact h.elim
  case convert =>
    unfold convC at h ⊢
    split at h
    · exact ⟨_, H, ⟨h.1, A _⟩, h.2⟩
    · exact h.elim
  case makeFunc =>
    unfold makeFuncC at h ⊢
    split at h
    · exact ⟨_, H, A _, h⟩
    · exact h.elim
  case makeSlice =>
    unfold makeSliceC at h ⊢
    split at h
    · split at h
      · obtain ⟨a, b, c, d, e, f, g, h⟩ := h
        exact ⟨_, _, ⟨a, b, c, d, e, f, g, E _ _⟩, h⟩
      · exact h.elim
    · exact h.elim
  case slice =>
    unfold sliceC at h ⊢
    split at h
    · obtain ⟨a, b, h⟩ := h
      split at h
      · obtain ⟨c, d, e, h⟩ := h; exact ⟨_, _, ⟨a, b, c, d, e, E _ _⟩, h⟩
      · exact h.elim
    · obtain ⟨a, b, c, d, h⟩ := h; exact ⟨_, _, ⟨a, b, c, d, E _ _⟩, h⟩
    · split at h
      · split at h
        · obtain ⟨a, b, h⟩ := h
          split at h
          · obtain ⟨c, d, e, f, h⟩ := h; exact ⟨_, _, ⟨a, b, c, d, e, f, E _ _⟩, h⟩
          · exact h.elim
        · exact h.elim
      · exact h.elim
    · split at h
      · split at h
        · obtain ⟨a, b, b', h⟩ := h
          split at h
          · obtain ⟨c, d, e, f, h⟩ := h; exact ⟨_, _, ⟨a, b, b', c, d, e, f, E _ _⟩, h⟩
          · exact h.elim
        · exact h.elim
      · exact h.elim
    · exact h.elim
  case fieldAddr =>
    unfold fieldAddrC at h ⊢
    split at h
    · obtain ⟨a, b, h⟩ := h
      split at h
      · exact ⟨_, _, ⟨a, b, E _ _⟩, h⟩
      · exact ⟨_, _, ⟨a, b, h.1, E _ _⟩, h.2⟩
      · exact h.elim
    · exact h.elim
  case field =>
    unfold fieldC at h ⊢
    split at h
    · split at h
      · split at h
        · exact ⟨_, H, ⟨h.1, A _⟩, h.2⟩
        · exact h.elim
      · split at h
        · exact ⟨_, H, A _, h⟩
        · exact h.elim
      · exact h.elim
    · exact h.elim
  case indexAddr =>
    unfold indexAddrC at h ⊢
    split at h
    · split at h
      · split at h
        · obtain ⟨a, h⟩ := h
          split at h
          · exact ⟨_, _, ⟨a, h.1, E _ _⟩, h.2⟩
          · exact h.elim
        · obtain ⟨a, b, h⟩ := h
          split at h
          · exact ⟨_, _, ⟨a, b, h.1, h.2.1, E _ _⟩, h.2.2⟩
          · exact h.elim
        · exact h.elim
      · exact h.elim
    · exact h.elim
  case index =>
    unfold strIndexC at h ⊢
    split at h
    · obtain ⟨a, b, c, h⟩ := h; exact ⟨_, H, ⟨a, b, c, A _⟩, h⟩
    · exact h.elim
  case extract =>
    unfold extractC at h ⊢
    split at h
    · split at h
      · exact ⟨_, H, A _, h⟩
      · exact h.elim
    · exact h.elim
  case call c =>
    obtain ⟨callee, args, ts⟩ := c
    cases callee with
    | value f => cases hn
    | invoke r m => exact h.elim
    | builtin b =>
      simp only at h ⊢
      unfold biC at h ⊢
      split at h
      · unfold lenC at h ⊢
        split at h
        · exact ⟨_, H, ⟨h.1, A _⟩, h.2⟩
        · exact ⟨_, H, ⟨h.1, A _⟩, h.2⟩
        · exact ⟨_, H, ⟨h.1, A _⟩, h.2⟩
        · exact ⟨_, H, ⟨h.1, h.2.1, A _⟩, h.2.2⟩
        · exact h.elim
      · unfold appendC at h ⊢
        obtain ⟨a, h⟩ := h
        split at h
        · split at h
          · obtain ⟨b, c, d, e, h⟩ := h
            split at h
            · rename_i h0
              exact ⟨_, _, ⟨a, b, c, d, e, by rw [if_pos h0]; exact ⟨h.1, E _ _⟩⟩, h.2⟩
            · rename_i h0
              obtain ⟨f, g, h⟩ := h
              obtain ⟨x, H', k1, k2⟩ := appendV_det h
              exact ⟨x, H', ⟨a, b, c, d, e, by rw [if_neg h0]; exact ⟨f, g, k1⟩⟩, k2⟩
          · exact h.elim
        · exact h.elim
      · unfold min2C at h ⊢
        split at h
        · exact ⟨_, H, ⟨h.1, A _⟩, h.2⟩
        · exact h.elim
      · unfold max2C at h ⊢
        split at h
        · exact ⟨_, H, ⟨h.1, A _⟩, h.2⟩
        · exact h.elim
      · unfold deleteC at h ⊢
        split at h
        · split at h
          · exact ⟨_, _, ⟨h.1, h.2.1, E _ _⟩, h.2.2⟩
          · exact h.elim
        · exact h.elim
      · unfold clearC at h ⊢
        split at h
        · split at h
          · split at h
            · exact ⟨_, _, E _ _, h⟩
            · exact ⟨_, _, E _ _, h⟩
            · split at h
              · rename_i he
                obtain ⟨a, b, c, d, e, f, h⟩ := h
                exact ⟨_, _, ⟨a, b, c, d, e, f, E _ _⟩, h⟩
              · exact h.elim
            · exact h.elim
          · exact h.elim
        · exact h.elim
      · exact h.elim


/-- A call in a region whose order is open: it answers one thing. -/
def callE (P : Program) (f : V) (args : List V) (H : List Obj) (K : V → List Obj → Prop) : Prop := ∃ x H', callC P f args H (eqK x H') ∧ K x H'

def detW (P : Program) (op : Op) (σ : Slots) (H : List Obj) (K : V → List Obj → Prop) : Prop :=
  match op with
  | .call { callee := .value f, args, .. } => callE P (ev σ f) (args.toList.map (ev σ)) H K
  | op => if isCall op = true then False else opC P op σ H K

theorem detW_det {P : Program} {op : Op} {σ : Slots} {H : List Obj} {K : V → List Obj → Prop} (h : detW P op σ H K) : ∃ x H', opC P op σ H (eqK x H') ∧ K x H' := by
  unfold detW at h
  split at h
  · exact h
  · rename_i hn
    split at h
    · exact h.elim
    · rename_i hc
      exact opC_det (by simpa using hc) h

def drawD (P : Program) (N : Nat) (all : List Oper) (effs ls : List Nat) : Nat → List (Op × Slots × V) → List Oper → Slots → List Obj → (Slots → List Obj → Prop) → Prop
  | _, _, [], σ, H, K => K σ H
  | i, pend, o :: r, σ, H, K =>
    let run := if effs.contains i then detW P o.op σ H (fun x H' => (∀ p ∈ pend, opC P p.1 p.2.1 H' (eqK p.2.2 H')) ∧ drawD P N all effs ls (i + 1) pend r (aput N σ o.dst x) H' K)
      else detW P o.op σ H (fun x H' => H' = H ∧ drawD P N all effs ls (i + 1) (if ls.contains i then (o.op, σ, x) :: pend else pend) r (aput N σ o.dst x) H K)
    match o.guard with
    | none => run
    | some (j, want) =>
      match gslot all j with
      | some t => if t < N then guardW (σ t) want run (drawD P N all effs ls (i + 1) pend r (aput N σ o.dst .any) H K) else False
      | none => False

def looseOk (all : List Oper) (effs ls : List Nat) : Bool := (List.range all.length).all fun i => loose all effs i == ls.contains i

theorem drawD_sound {P : Program} {N : Nat} {all : List Oper} {effs ls : List Nat} {K : Slots → List Obj → Prop} (hl : looseOk all effs ls = true) :
    ∀ (r : List Oper) (i : Nat) (pend : List (Op × Slots × V)) (σ : Slots) (H : List Obj), i + r.length = all.length → drawD P N all effs ls i pend r σ H K → drawC P N all effs i pend r σ H K
  | [], _, _, _, _, _, h => h
  | o :: r, i, pend, σ, H, hlen, h => by
    have hli : loose all effs i = ls.contains i := by
      unfold looseOk at hl
      rw [List.all_eq_true] at hl
      simpa using hl i (by simp at hlen ⊢; omega)
    have hlen' : i + 1 + r.length = all.length := by simp at hlen; omega
    have run : (if effs.contains i then detW P o.op σ H (fun x H' => (∀ p ∈ pend, opC P p.1 p.2.1 H' (eqK p.2.2 H')) ∧ drawD P N all effs ls (i + 1) pend r (aput N σ o.dst x) H' K)
      else detW P o.op σ H (fun x H' => H' = H ∧ drawD P N all effs ls (i + 1) (if ls.contains i then (o.op, σ, x) :: pend else pend) r (aput N σ o.dst x) H K)) →
      (if effs.contains i then ∃ x H', opC P o.op σ H (eqK x H') ∧ (∀ p ∈ pend, opC P p.1 p.2.1 H' (eqK p.2.2 H')) ∧ drawC P N all effs (i + 1) pend r (aput N σ o.dst x) H' K
      else ∃ x, opC P o.op σ H (eqK x H) ∧ drawC P N all effs (i + 1) (if loose all effs i then (o.op, σ, x) :: pend else pend) r (aput N σ o.dst x) H K) := by
      intro h
      split at h
      · rename_i hc
        rw [if_pos hc]
        obtain ⟨x, H', h1, h2, h3⟩ := detW_det h
        exact ⟨x, H', h1, h2, drawD_sound hl r (i + 1) pend _ H' hlen' h3⟩
      · rename_i hc
        rw [if_neg hc]
        obtain ⟨x, H', h1, rfl, h3⟩ := detW_det h
        exact ⟨x, h1, by rw [hli]; exact drawD_sound hl r (i + 1) _ _ _ hlen' h3⟩
    simp only [drawD, drawC] at h ⊢
    split
    · rename_i hg
      rw [hg] at h
      exact run h
    · rename_i j want hg
      rw [hg] at h
      simp only at h
      split
      · rename_i t ht
        rw [ht] at h
        simp only at h
        split
        · rename_i htN
          rw [if_pos htN] at h
          unfold guardW at h ⊢
          split at h
          · rename_i b hb
            split at h
            · rename_i hw; rw [if_pos hw]; exact run h
            · rename_i hw; rw [if_neg hw]; exact drawD_sound hl r (i + 1) pend _ H hlen' h
          · exact h.elim
        · rename_i htN
          rw [if_neg htN] at h; exact h
      · rename_i ht
        rw [ht] at h; exact h

/-! As equations, not looked into. -/
theorem drawX_ex : ∃ f : Program → Nat → List Oper → List Nat → List Nat → Nat → List (Op × Slots × V) → List Oper → Slots → List Obj → (Slots → List Obj → Prop) → Prop, f = drawD := ⟨_, rfl⟩
noncomputable def drawX := Classical.choose drawX_ex
theorem drawX_eq : drawX = drawD := Classical.choose_spec drawX_ex
theorem detX_ex : ∃ f : Program → Op → Slots → List Obj → (V → List Obj → Prop) → Prop, f = detW := ⟨_, rfl⟩
noncomputable def detX := Classical.choose detX_ex
theorem detX_eq : detX = detW := Classical.choose_spec detX_ex

def pendD (P : Program) (pend : List (Op × Slots × V)) (H' : List Obj) : Prop := ∀ p ∈ pend, opC P p.1 p.2.1 H' (eqK p.2.2 H')
/-- Behind an effect. -/
def effK0 (P : Program) (N : Nat) (all : List Oper) (effs ls : List Nat) (i : Nat) (pend : List (Op × Slots × V)) (r : List Oper) (d : Option Nat) (σ : Slots) (K : Slots → List Obj → Prop) : V → List Obj → Prop :=
  fun x H' => pendD P pend H' ∧ drawD P N all effs ls (i + 1) pend r (aput N σ d x) H' K
/-- Behind any other operation. -/
def resK0 (P : Program) (N : Nat) (all : List Oper) (effs ls : List Nat) (i : Nat) (pend : List (Op × Slots × V)) (r : List Oper) (op : Op) (d : Option Nat) (σ : Slots) (H : List Obj) (K : Slots → List Obj → Prop) : V → List Obj → Prop :=
  fun x H' => H' = H ∧ drawD P N all effs ls (i + 1) (if ls.contains i then (op, σ, x) :: pend else pend) r (aput N σ d x) H K
theorem effK_ex : ∃ f, f = effK0 := ⟨_, rfl⟩
noncomputable def effK := Classical.choose effK_ex
theorem effK_eq : effK = effK0 := Classical.choose_spec effK_ex
theorem resK_ex : ∃ f, f = resK0 := ⟨_, rfl⟩
noncomputable def resK := Classical.choose resK_ex
theorem resK_eq : resK = resK0 := Classical.choose_spec resK_ex

section
variable (P : Program) (N : Nat) (all : List Oper) (effs ls : List Nat) (i : Nat) (pend : List (Op × Slots × V)) (r : List Oper) (σ : Slots) (H : List Obj) (K : Slots → List Obj → Prop)
theorem drawX_nil : drawX P N all effs ls i pend [] σ H K = K σ H := by rw [drawX_eq]; rfl
theorem drawX_cons (dst : Option Tmp) (op : Op) (ty : TypeId) (pos : String) (after : Array Edge) : drawX P N all effs ls i pend (⟨dst, op, ty, pos, after, none⟩ :: r) σ H K =
    if effs.contains i then detX P op σ H (effK P N all effs ls i pend r dst σ K) else detX P op σ H (resK P N all effs ls i pend r op dst σ H K) := by rw [drawX_eq, detX_eq, effK_eq, resK_eq]; rfl
theorem drawX_guard (dst : Option Tmp) (op : Op) (ty : TypeId) (pos : String) (after : Array Edge) (j : Nat) (want : Bool) : drawX P N all effs ls i pend (⟨dst, op, ty, pos, after, some (j, want)⟩ :: r) σ H K =
    match gslot all j with
      | some t => if t < N then guardW (σ t) want (if effs.contains i then detX P op σ H (effK P N all effs ls i pend r dst σ K) else detX P op σ H (resK P N all effs ls i pend r op dst σ H K))
          (drawX P N all effs ls (i + 1) pend r (aputX N σ dst .any) H K) else False
      | none => False := by rw [drawX_eq, detX_eq, effK_eq, resK_eq, aputX_eq]; rfl
theorem effK_apply (d : Option Nat) (x : V) (H' : List Obj) : effK P N all effs ls i pend r d σ K x H' = (pendD P pend H' ∧ drawX P N all effs ls (i + 1) pend r (aputX N σ d x) H' K) := by
  rw [effK_eq, drawX_eq, aputX_eq]; rfl
theorem resK_apply (op : Op) (d : Option Nat) (x : V) (H' : List Obj) : resK P N all effs ls i pend r op d σ H K x H' =
    (H' = H ∧ drawX P N all effs ls (i + 1) (if ls.contains i then (op, σ, x) :: pend else pend) r (aputX N σ d x) H K) := by rw [resK_eq, drawX_eq, aputX_eq]; rfl
theorem pendD_nil : pendD P [] H = True := by simp [pendD]
theorem pendD_cons (op : Op) (x : V) : pendD P ((op, σ, x) :: pend) H = (opX P op σ H (eqK x H) ∧ pendD P pend H) := by simp [pendD, opX_eq]
theorem detX_call (f : Operand) (args : List Operand) (ts : Array TypeId) (L : V → List Obj → Prop) : detX P (.call { callee := .value f, args := args.toArray, argTypes := ts }) σ H L = callE P (ev σ f) (args.map (ev σ)) H L := by
  rw [detX_eq]; rfl
theorem detX_op {op : Op} (L : V → List Obj → Prop) (h : isCall op = false) : detX P op σ H L = opX P op σ H L := by
  rw [detX_eq, opX_eq]
  unfold detW
  split
  · cases h
  · rw [h]; rfl
theorem detX_move (x : Operand) (L : V → List Obj → Prop) : detX P (.move x) σ H L = opX P (.move x) σ H L := detX_op P σ H L rfl
theorem detX_assign (x : Operand) (L : V → List Obj → Prop) : detX P (.assign x) σ H L = opX P (.assign x) σ H L := detX_op P σ H L rfl
theorem detX_pick (c a b : Operand) (L : V → List Obj → Prop) : detX P (.pick c a b) σ H L = opX P (.pick c a b) σ H L := detX_op P σ H L rfl
theorem detX_alloc (t : TypeId) (L : V → List Obj → Prop) : detX P (.alloc t) σ H L = opX P (.alloc t) σ H L := detX_op P σ H L rfl
theorem detX_box (t : TypeId) (x : Operand) (L : V → List Obj → Prop) : detX P (.box t x) σ H L = opX P (.box t x) σ H L := detX_op P σ H L rfl
theorem detX_build (t : TypeId) (ps : Array (Nat × Operand)) (L : V → List Obj → Prop) : detX P (.build t ps) σ H L = opX P (.build t ps) σ H L := detX_op P σ H L rfl
theorem detX_buildSlice (t : TypeId) (n : Nat) (ps : Array (Nat × Operand)) (L : V → List Obj → Prop) : detX P (.buildSlice t n ps) σ H L = opX P (.buildSlice t n ps) σ H L := detX_op P σ H L rfl
theorem detX_load (t : TypeId) (a : Operand) (L : V → List Obj → Prop) : detX P (.load t a) σ H L = opX P (.load t a) σ H L := detX_op P σ H L rfl
theorem detX_store (t : TypeId) (a x : Operand) (L : V → List Obj → Prop) : detX P (.store t a x) σ H L = opX P (.store t a x) σ H L := detX_op P σ H L rfl
theorem detX_nilc (x : Operand) (L : V → List Obj → Prop) : detX P (.nilCheck x) σ H L = opX P (.nilCheck x) σ H L := detX_op P σ H L rfl
theorem detX_bin (op : BinOp) (t : TypeId) (x y : Operand) (u : TypeId) (L : V → List Obj → Prop) : detX P (.binOp op t x y u) σ H L = if isNilCmp op y = true then False else opX P (.binOp op t x y u) σ H L := by
  by_cases h : isNilCmp op y = true
  · rw [if_pos h, detX_eq]; show (if isNilCmp op y = true then False else _) = False; rw [if_pos h]
  · rw [if_neg h]; exact detX_op P σ H L (by simpa [isCall] using h)
theorem detX_makeMap (t : TypeId) (r : Option Operand) (L : V → List Obj → Prop) : detX P (.makeMap t r) σ H L = opX P (.makeMap t r) σ H L := detX_op P σ H L rfl
theorem detX_lookup (t : TypeId) (m k : Operand) (ok : Bool) (L : V → List Obj → Prop) : detX P (.lookup t m k ok) σ H L = opX P (.lookup t m k ok) σ H L := detX_op P σ H L rfl
theorem detX_mapUpdate (t : TypeId) (m k x : Operand) (L : V → List Obj → Prop) : detX P (.mapUpdate t m k x) σ H L = opX P (.mapUpdate t m k x) σ H L := detX_op P σ H L rfl
theorem detX_insert (t : TypeId) (m k x : Operand) (L : V → List Obj → Prop) : detX P (.insert t m k x) σ H L = opX P (.insert t m k x) σ H L := detX_op P σ H L rfl
theorem detX_un (op : UnOp) (t : TypeId) (x : Operand) (L : V → List Obj → Prop) : detX P (.unOp op t x) σ H L = opX P (.unOp op t x) σ H L := detX_op P σ H L rfl
theorem detX_convert (s d : TypeId) (x : Operand) (L : V → List Obj → Prop) : detX P (.convert s d x) σ H L = opX P (.convert s d x) σ H L := detX_op P σ H L rfl
theorem detX_makeFunc (fn : Go.Fn) (first captured : Array Operand) (L : V → List Obj → Prop) : detX P (.makeFunc fn first captured) σ H L = opX P (.makeFunc fn first captured) σ H L := detX_op P σ H L rfl
theorem detX_makeSlice (t : TypeId) (l c : Operand) (L : V → List Obj → Prop) : detX P (.makeSlice t l c) σ H L = opX P (.makeSlice t l c) σ H L := detX_op P σ H L rfl
theorem detX_slice (t : TypeId) (x : Operand) (lo hi mx : Option Operand) (L : V → List Obj → Prop) : detX P (.slice t x lo hi mx) σ H L = opX P (.slice t x lo hi mx) σ H L := detX_op P σ H L rfl
theorem detX_fieldAddr (s : TypeId) (x : Operand) (f : Nat) (L : V → List Obj → Prop) : detX P (.fieldAddr s x f) σ H L = opX P (.fieldAddr s x f) σ H L := detX_op P σ H L rfl
theorem detX_field (t : TypeId) (x : Operand) (f : Nat) (L : V → List Obj → Prop) : detX P (.field t x f) σ H L = opX P (.field t x f) σ H L := detX_op P σ H L rfl
theorem detX_indexAddr (t : TypeId) (x ix : Operand) (L : V → List Obj → Prop) : detX P (.indexAddr t x ix) σ H L = opX P (.indexAddr t x ix) σ H L := detX_op P σ H L rfl
theorem detX_index (t : TypeId) (x ix : Operand) (L : V → List Obj → Prop) : detX P (.index t x ix) σ H L = opX P (.index t x ix) σ H L := detX_op P σ H L rfl
theorem detX_extract (x : Operand) (i : Nat) (L : V → List Obj → Prop) : detX P (.extract x i) σ H L = opX P (.extract x i) σ H L := detX_op P σ H L rfl
theorem detX_builtin (b : Builtin) (args : Array Operand) (ts : Array TypeId) (L : V → List Obj → Prop) : detX P (.call { callee := .builtin b, args := args, argTypes := ts }) σ H L = opX P (.call { callee := .builtin b, args := args, argTypes := ts }) σ H L := detX_op P σ H L rfl
end

theorem callE_use {P : Program} {f : FuncId} {args caps : List V} {r : V} {H : List Obj} {K : V → List Obj → Prop} (h : Pure P f (args ++ caps) r) (k : K r H) : callE P (.clo f caps) args H K :=
  ⟨r, H, h H, k⟩

theorem AWP.drawL {P : Program} {N id : Nat} {ops : List Oper} {σ : Slots} {H : List Obj} {Q : Post} (effs ls : List Nat) (hm : P.follows .mixedOrders = true) (hok : drawOk ops.toArray effs = true) (hl : looseOk ops effs ls = true)
    (h : drawX P N ops effs ls 0 [] ops σ H (Q .normal)) : AWP P N (.region id ops.toArray true) σ H Q := by
  rw [drawX_eq] at h
  exact .draw effs hm hok (drawD_sound hl ops 0 [] σ H (by simp) h)

attribute [simp] drawX_nil drawX_cons drawX_guard effK_apply resK_apply pendD_nil pendD_cons detX_call eqK_apply detX_makeMap detX_lookup detX_mapUpdate detX_insert detX_move detX_assign detX_pick detX_alloc detX_box detX_build detX_buildSlice detX_load detX_store detX_nilc detX_bin detX_un detX_convert detX_makeFunc detX_makeSlice detX_slice detX_fieldAddr detX_field detX_indexAddr detX_index detX_extract detX_builtin

end Go.TL
