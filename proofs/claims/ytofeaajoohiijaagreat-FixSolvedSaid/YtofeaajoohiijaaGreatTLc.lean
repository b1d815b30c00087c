/- The tree logic, part three: how objects come and change. -/
import Derived.Test.YtofeaajoohiijaaGreatTLb
namespace Go.TL
open Go

theorem getElem?_set' {α : Type} (l : List α) (o : Nat) (x : α) (j : Nat) (ho : o < l.length) : (l.set o x)[j]? = if j = o then some x else l[j]? := by
  by_cases h : j = o
  · subst h; simp [ho]
  · rw [if_neg h, List.getElem?_set_ne (Ne.symm h)]

/-- A row changes: in its block, or in a new one. -/
theorem sim_put {ρ : Nat → Nat} {H : List Obj} {w w' : World} (s : Sim ρ H w) {o k : Nat} {es es' : List V} {blk : Nat} {arr : Array Value} {t : TypeId}
    (ho : H[o]? = some (.row k es)) (hblk : blk = ρ o ∨ w.heap.size ≤ blk) (hsz : w.heap.size ≤ w'.heap.size)
    (hsame : ∀ b, b < w.heap.size → b ≠ ρ o → w'.heap[b]? = w.heap[b]?) (hlen : es.length ≤ es'.length)
    (hshape : es'.length = es.length → blk = ρ o ∧ w'.shape? (ρ o) = w.shape? (ρ o))
    (hb : w'.heap[blk]? = some (.cells arr t (0, 0))) (hfit : es'.length * k ≤ arr.size) (hk : ∀ e ∈ es', (cellsOf e).length = k)
    (hc : ∀ (i : Nat) e (j : Nat) x, es'[i]? = some e → (cellsOf e)[j]? = some x → ∃ v, arr[i * k + j]? = some v ∧ VR w ρ H x v) (hio : w'.os = w.os ∧ w'.output = w.output ∧ w'.tape = w.tape := by exact ⟨rfl, rfl, rfl⟩) :
    let ρ' := fun x => if x = o then blk else ρ x
    Sim ρ' (H.set o (.row k es')) w' ∧ Evo w ρ H w' ρ' (H.set o (.row k es')) := by
  intro ρ'
  have hol : o < H.length := (List.getElem?_eq_some_iff.1 ho).1
  have hlt := s.lt ho (by simp)
  have hget : ∀ j, (H.set o (.row k es'))[j]? = if j = o then some (.row k es') else H[j]? := fun j => getElem?_set' H o _ j hol
  have hρ : ∀ j, j ≠ o → ρ' j = ρ j := fun j hj => if_neg hj
  have hρo : ρ' o = blk := if_pos rfl
  have g : Evo w ρ H w' ρ' (H.set o (.row k es')) := by
    refine ⟨hsz, by simp, ?_, ?_, ?_, ?_, hio⟩
    · intro b hbl hu
      have hbo : b ≠ ρ o := fun e => hu o _ ho (by simp) e.symm
      refine ⟨hsame b hbl hbo, fun j ob hj hd => ?_⟩
      rw [hget] at hj
      by_cases hjo : j = o
      · subst hjo; rw [hρo]; rcases hblk with e | e
        · rw [e]; exact hbo.symm
        · omega
      · rw [if_neg hjo] at hj; rw [hρ j hjo]; exact hu j ob hj hd
    · intro j hj
      rw [hget]
      by_cases hjo : j = o
      · subst hjo; rw [ho] at hj; cases hj
      · rw [if_neg hjo]; exact hj
    · intro j k' es₀ hj
      right
      by_cases hjo : j = o
      · subst hjo
        rw [ho] at hj; cases hj
        exact ⟨es', by rw [hget, if_pos rfl], hlen, fun he => by obtain ⟨a1, a2⟩ := hshape he; exact ⟨hρo.trans a1, a2⟩⟩
      · refine ⟨es₀, by rw [hget, if_neg hjo]; exact hj, Nat.le_refl _, fun _ => ⟨hρ j hjo, ?_⟩⟩
        have hne : ρ j ≠ ρ o := fun e => hjo (s.inj j o _ _ hj (by simp) ho (by simp) e)
        simp only [World.shape?]
        rw [hsame _ (s.lt hj (by simp)) hne]
    · intro j es₀ hj
      right
      have hjo : j ≠ o := fun e => by subst e; rw [ho] at hj; cases hj
      exact ⟨es₀, by rw [hget, if_neg hjo]; exact hj, hρ j hjo⟩
  refine ⟨⟨?_, ?_, ?_⟩, g⟩
  · intro o₁ o₂ ob₁ ob₂ h1 d1 h2 d2 e
    rw [hget] at h1 h2
    by_cases e1 : o₁ = o <;> by_cases e2 : o₂ = o
    · rw [e1, e2]
    · subst e1
      rw [if_neg e2] at h2
      rw [hρo, hρ o₂ e2] at e
      rcases hblk with e' | e'
      · exact absurd (s.inj o₂ o₁ _ _ h2 d2 ho (by simp) (by rw [← e, e'])) e2
      · have := s.lt h2 d2; omega
    · subst e2
      rw [if_neg e1] at h1
      rw [hρo, hρ o₁ e1] at e
      rcases hblk with e' | e'
      · exact absurd (s.inj o₁ o₂ _ _ h1 d1 ho (by simp) (by rw [e, e'])) e1
      · have := s.lt h1 d1; omega
    · rw [if_neg e1] at h1
      rw [if_neg e2] at h2
      rw [hρ _ e1, hρ _ e2] at e
      exact s.inj o₁ o₂ _ _ h1 d1 h2 d2 e
  · intro j k' es₀ hj
    rw [hget] at hj
    by_cases hjo : j = o
    · subst hjo
      rw [if_pos rfl] at hj
      cases hj
      rw [hρo]
      refine ⟨arr, t, hb, hfit, hk, fun i e j x h1 h2 => ?_⟩
      obtain ⟨v, hv, hx⟩ := hc i e j x h1 h2
      exact ⟨v, hv, hx.evo g⟩
    · rw [if_neg hjo] at hj
      rw [hρ j hjo]
      obtain ⟨arr₀, t₀, e0, f0, k0, c0⟩ := s.row j k' es₀ hj
      have hne : ρ j ≠ ρ o := fun e => hjo (s.inj j o _ _ hj (by simp) ho (by simp) e)
      refine ⟨arr₀, t₀, by rw [hsame _ (s.lt hj (by simp)) hne]; exact e0, f0, k0, fun i e j x h1 h2 => ?_⟩
      obtain ⟨v, hv, hx⟩ := c0 i e j x h1 h2
      exact ⟨v, hv, hx.evo g⟩
  · intro j es₀ hj
    rw [hget] at hj
    have hjo : j ≠ o := fun e => by subst e; rw [if_pos rfl] at hj; cases hj
    rw [if_neg hjo] at hj
    rw [hρ j hjo]
    obtain ⟨ents, clock, e0, z0, c0⟩ := s.map j es₀ hj
    have hne : ρ j ≠ ρ o := fun e => hjo (s.inj j o _ _ hj (by simp) ho (by simp) e)
    refine ⟨ents, clock, by rw [hsame _ (s.lt hj (by simp)) hne]; exact e0, z0, fun i kx h1 => ?_⟩
    obtain ⟨en, h2, h3, h4⟩ := c0 i kx h1
    exact ⟨en, h2, h3.evo g, h4.evo g⟩

/-- A new object: a row, in a new block. -/
theorem sim_new {ρ : Nat → Nat} {H : List Obj} {w w' : World} (s : Sim ρ H w) {blk : Nat} {ob : Obj}
    (hblk : w.heap.size ≤ blk) (hb' : blk < w'.heap.size)
    (hsame : ∀ b, b < w.heap.size → w'.heap[b]? = w.heap[b]?)
    (hrow : ∀ k es, ob = .row k es → ∃ arr t, w'.heap[blk]? = some (.cells arr t (0, 0)) ∧ es.length * k ≤ arr.size ∧ (∀ e ∈ es, (cellsOf e).length = k) ∧
      ∀ (i : Nat) e (j : Nat) x, es[i]? = some e → (cellsOf e)[j]? = some x → ∃ v, arr[i * k + j]? = some v ∧ VR w ρ H x v)
    (hmap : ∀ es, ob = .map es → ∃ ents clock, w'.heap[blk]? = some (.map ents clock) ∧ ents.size = es.length ∧
      ∀ (i : Nat) kx, es[i]? = some kx → ∃ en, ents[i]? = some en ∧ VR w ρ H kx.1 en.key ∧ VR w ρ H kx.2 en.val) (hio : w'.os = w.os ∧ w'.output = w.output ∧ w'.tape = w.tape := by exact ⟨rfl, rfl, rfl⟩) :
    let ρ' := fun x => if x = H.length then blk else ρ x
    Sim ρ' (H ++ [ob]) w' ∧ Evo w ρ H w' ρ' (H ++ [ob]) := by
  intro ρ'
  have hget : ∀ j, (H ++ [ob])[j]? = if j = H.length then some ob else H[j]? := by
    intro j
    by_cases hj : j = H.length
    · subst hj; simp
    · rw [if_neg hj]
      by_cases hl : j < H.length
      · rw [List.getElem?_append_left hl]
      · rw [List.getElem?_append_right (by omega), List.getElem?_eq_none (by omega : H.length ≤ j)]
        exact List.getElem?_eq_none (by simp; omega)
  have hρ : ∀ j, j < H.length → ρ' j = ρ j := fun j hj => if_neg (by omega)
  have hρo : ρ' H.length = blk := if_pos rfl
  have lt : ∀ {j : Nat} {x : Obj}, H[j]? = some x → j < H.length := fun h => (List.getElem?_eq_some_iff.1 h).1
  have g : Evo w ρ H w' ρ' (H ++ [ob]) := by
    refine ⟨by omega, by simp, ?_, ?_, ?_, ?_, hio⟩
    · intro b hbl hu
      refine ⟨hsame b hbl, fun j x hj hd => ?_⟩
      rw [hget] at hj
      by_cases hjo : j = H.length
      · subst hjo; rw [hρo]; omega
      · rw [if_neg hjo] at hj; rw [hρ j (lt hj)]; exact hu j x hj hd
    · intro j hj
      rw [hget, if_neg (by have := lt hj; omega)]; exact hj
    · intro j k es hj
      right
      refine ⟨es, by rw [hget, if_neg (by have := lt hj; omega)]; exact hj, Nat.le_refl _, fun _ => ⟨hρ j (lt hj), ?_⟩⟩
      simp only [World.shape?]
      rw [hsame _ (s.lt hj (by simp))]
    · intro j es hj
      right
      exact ⟨es, by rw [hget, if_neg (by have := lt hj; omega)]; exact hj, hρ j (lt hj)⟩
  refine ⟨⟨?_, ?_, ?_⟩, g⟩
  · intro o₁ o₂ ob₁ ob₂ h1 d1 h2 d2 e
    rw [hget] at h1 h2
    by_cases e1 : o₁ = H.length <;> by_cases e2 : o₂ = H.length
    · rw [e1, e2]
    · subst e1
      rw [if_neg e2] at h2
      rw [hρo, hρ o₂ (lt h2)] at e
      have := s.lt h2 d2; omega
    · subst e2
      rw [if_neg e1] at h1
      rw [hρo, hρ o₁ (lt h1)] at e
      have := s.lt h1 d1; omega
    · rw [if_neg e1] at h1
      rw [if_neg e2] at h2
      rw [hρ _ (lt h1), hρ _ (lt h2)] at e
      exact s.inj o₁ o₂ _ _ h1 d1 h2 d2 e
  · intro j k es hj
    rw [hget] at hj
    by_cases hjo : j = H.length
    · subst hjo
      rw [if_pos rfl] at hj
      cases hj
      rw [hρo]
      obtain ⟨arr, t, e0, f0, k0, c0⟩ := hrow k es rfl
      refine ⟨arr, t, e0, f0, k0, fun i e j x h1 h2 => ?_⟩
      obtain ⟨v, hv, hx⟩ := c0 i e j x h1 h2
      exact ⟨v, hv, hx.evo g⟩
    · rw [if_neg hjo] at hj
      rw [hρ j (lt hj)]
      obtain ⟨arr₀, t₀, e0, f0, k0, c0⟩ := s.row j k es hj
      refine ⟨arr₀, t₀, by rw [hsame _ (s.lt hj (by simp))]; exact e0, f0, k0, fun i e j x h1 h2 => ?_⟩
      obtain ⟨v, hv, hx⟩ := c0 i e j x h1 h2
      exact ⟨v, hv, hx.evo g⟩
  · intro j es hj
    rw [hget] at hj
    by_cases hjo : j = H.length
    · subst hjo
      rw [if_pos rfl] at hj
      cases hj
      rw [hρo]
      obtain ⟨ents, clock, e0, z0, c0⟩ := hmap es rfl
      refine ⟨ents, clock, e0, z0, fun i kx h1 => ?_⟩
      obtain ⟨en, h2, h3, h4⟩ := c0 i kx h1
      exact ⟨en, h2, h3.evo g, h4.evo g⟩
    · rw [if_neg hjo] at hj
      rw [hρ j (lt hj)]
      obtain ⟨ents, clock, e0, z0, c0⟩ := s.map j es hj
      refine ⟨ents, clock, by rw [hsame _ (s.lt hj (by simp))]; exact e0, z0, fun i kx h1 => ?_⟩
      obtain ⟨en, h2, h3, h4⟩ := c0 i kx h1
      exact ⟨en, h2, h3.evo g, h4.evo g⟩

end Go.TL
