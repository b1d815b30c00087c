/- Sums: walks. -/
import Derived.Test.YtofeaajoohiijaaGreatRf
import Derived.Test.YtofeaajoohiijaaGreatMc
namespace Go.TL
open Go Go.Proofs
set_option maxRecDepth 4000

/-- Asked of each range: the first one of which it is so. -/
def idxM {α : Type} (p : α → Bool) (d : List α) : Int := if d.any p then ((d.findIdx p : Nat) : Int) else -1

theorem idxM_ge {α : Type} (p : α → Bool) (d : List α) : decide (0 ≤ idxM p d) = d.any p := by
  unfold idxM
  cases h : d.any p <;> simp

theorem findIdx_at {α : Type} {p : α → Bool} {l : List α} {k : Nat} (hk : k < l.length) (h : ∀ x ∈ l.take k, p x = false) (hp : p l[k] = true) : l.findIdx p = k := by
  rw [List.findIdx_eq hk]
  refine ⟨hp, fun j hj => ?_⟩
  exact h _ (List.mem_take_iff_getElem.2 ⟨j, by omega, rfl⟩)

theorem indexFunc_dom (d : Dom) (f : FuncId) (caps : List V) (p : Rg → Bool) (hc : ∀ x ∈ caps, Closed x) (hl : d.length ≤ lim) (hp : ∀ r ∈ d, Pure Tryz.prog f (encRg r :: caps) (.b (p r))) :
    Pure Tryz.prog 110 [encDom d, .clo f caps] (vint (idxM p d)) := by
  unfold lim at hl
  refine Pure.of' (.i _ _) fun H => go110 (by simp) ?_
  unfold Tryz.f110
  simp
  refine AWP.loopC (fun n σ G => ∃ k : Nat, k ≤ d.length ∧ n = d.length - k ∧ G = H ∧ σ 0 = encDom d ∧ σ 1 = .clo f caps ∧ σ 6 = encDom d ∧ σ 7 = vint d.length ∧ σ 8 = vint k ∧ (∀ x ∈ d.take k, p x = false)) d.length ⟨0, by simp [vint, encDom]⟩ ?_
  rintro n σ G ⟨k, hk, rfl, rfl, h0, h1, h6, h7, h8, hv⟩
  by_cases hlt : k < d.length
  · have hg : d[k]? = some d[k] := List.getElem?_eq_getElem hlt
    simp [h0, h1, h6, h7, h8, encDom, vint, hlt, hg]
    refine (hp _ (List.getElem_mem hlt)).use ?_
    simp [h0, h1, h6, h7, h8, encDom, vint, hlt, hg, wrap_succ hlt (by omega)]
    split
    · rename_i h
      have : d.any p = true := List.any_eq_true.2 ⟨_, List.getElem_mem hlt, h⟩
      simp [idxM, this, findIdx_at hlt hv h]
    · rename_i h
      refine ⟨d.length - (k + 1), by omega, k + 1, by omega, rfl, by omega, fun x hx => ?_⟩
      rw [List.take_succ_eq_append_getElem hlt, List.mem_append] at hx
      rcases hx with hx | hx
      · exact hv x hx
      · simp at hx; subst hx; simpa using h
  · obtain rfl : k = d.length := by omega
    rw [List.take_length] at hv
    have : d.any p = false := by
      rw [Bool.eq_false_iff]; intro h
      obtain ⟨x, hx, hx'⟩ := List.any_eq_true.1 h
      rw [hv x hx] at hx'; cases hx'
    simp [h0, h1, h6, h7, h8, vint, idxM, this]

theorem containsFunc_dom (d : Dom) (f : FuncId) (caps : List V) (p : Rg → Bool) (hc : ∀ x ∈ caps, Closed x) (hl : d.length ≤ lim) (hp : ∀ r ∈ d, Pure Tryz.prog f (encRg r :: caps) (.b (p r))) :
    Pure Tryz.prog 89 [encDom d, .clo f caps] (.b (d.any p)) := by
  refine Pure.of' (.b _) fun H => go89 (by simp) ?_
  unfold Tryz.f89
  simp
  refine (indexFunc_dom d f caps p hc hl hp).use ?_
  simp [vint, idxM_ge]

theorem dom_Has1 (r : Rg) (v : Int) : Pure Tryz.prog 90 [encRg r, .iptr [vint v]] (.b (decide (r.lo ≤ v) && decide (v ≤ r.hi))) := by
  refine Pure.of' (.b _) fun H => go90 (by simp) ?_
  unfold Tryz.f90
  by_cases h : r.lo ≤ v <;> simp [encRg, vint, h]

theorem dom_Has (d : Dom) (v : Int) (hl : d.length ≤ lim) : Pure Tryz.prog 56 [encDom d, vint v] (.b (hasM d v)) := by
  refine Pure.of' (.b _) fun H => go56 (by simp) ?_
  unfold Tryz.f56
  simp [vint]
  refine (containsFunc_dom d 90 [.iptr [vint v]] (fun r => decide (r.lo ≤ v) && decide (v ≤ r.hi)) (by simp [Closed.iptr, vint, closed_i]) hl (fun r _ => dom_Has1 r v)).borrowK (.inl rfl)
    (.cons (.closed _ (closed_encDom d)) (.cons (.clo1 (.box (k := 1) (e := vint v) (Nat.zero_le _) (by simp [vint]) (by simp [vint, closed_i]))) (.nil _))) ?_
  simp [hasM]

theorem linear_so (d : List Dom) (c : Con) (hl : c.vars.length ≤ lim) (hk : c.vars.length ≤ c.coefs.length) (hv : ∀ v ∈ c.vars, 0 ≤ v ∧ v < d.length) (hd : ∀ y ∈ d, y.length ≤ lim) :
    Pure Tryz.prog 88 [encDoms d, encCon c] (.b (soM d c)) := by
  refine Pure.of' (.b _) fun H => go88 (by simp) ?_
  unfold Tryz.f88
  simp
  refine (linear_Ends d c.vars c.coefs hl hk hv hd).use ?_
  unfold soM
  generalize endsM d c.vars c.coefs = e
  obtain ⟨lo, hi, ok⟩ := e
  cases ok <;> simp [vint]
  by_cases h0 : c.op = 0
  · simp [h0]
  · simp [h0]
    by_cases h1 : c.op = 1
    · by_cases h2 : lo = c.rhs <;> simp [h1, h2]
      rfl
    · by_cases h2 : c.rhs < lo
      · simp [h1, h2, show ¬ lo ≤ c.rhs by omega]
      · simp [h1, h2, show lo ≤ c.rhs by omega]

theorem linear_Not (c : Con) (hl : c.vars.length ≤ lim) (hk : c.coefs.length ≤ lim) : Pure Tryz.prog 57 [encCon c] (encCon (notM c)) := by
  refine Pure.of' (closed_encCon _) fun H => go57 (by simp) ?_
  unfold Tryz.f57
  simp
  refine (clone_ints c.vars hl).use ?_
  by_cases h0 : c.op = 0
  · simp [vint, h0, encRows, encInts, encCon]
    refine AWP.drawL [8, 10] [] follows (by kernel_rfl) (by kernel_rfl) ?_
    simp [vint, h0, encRows, encInts, encCon]
    refine callE_use (linear_turned c.coefs hk) ?_
    simp [vint, h0, encRows, encInts, encCon, notM, w64]
  · by_cases h1 : c.op = 1
    · simp [vint, h0, h1, encRows, encInts, encCon]
      refine (clone_ints c.coefs hk).use ?_
      simp [vint, h0, h1, encRows, encInts, encCon, notM, w64]
    · by_cases h2 : c.op = 2
      · simp [vint, h0, h1, h2, encRows, encInts, encCon]
        refine (clone_ints c.coefs hk).use ?_
        simp [vint, h0, h1, h2, encRows, encInts, encCon, notM, w64]
      · simp [vint, h0, h1, h2, encRows, encInts, encCon]
        refine (clone_ints c.coefs hk).use ?_
        simp [vint, h0, h1, h2, encRows, encInts, encCon, notM, w64]

theorem turnedM_length (l : List Int) : (turnedM l).length = l.length := by simp [turnedM]

theorem linear_Known (d : List Dom) (c : Con) (hl : c.vars.length ≤ lim) (hk : c.vars.length = c.coefs.length) (hv : ∀ v ∈ c.vars, 0 ≤ v ∧ v < d.length) (hd : ∀ y ∈ d, y.length ≤ lim) :
    Pure Tryz.prog 55 [encDoms d, encCon c] (.tup [.b (knownM d c).1, .b (knownM d c).2]) := by
  refine Pure.of' (.tup _ (by simp [closed_b])) fun H => go55 (by simp) ?_
  unfold Tryz.f55
  simp
  refine (linear_so d c hl (by omega) hv hd).use ?_
  unfold knownM
  cases soM d c <;> simp
  refine (linear_Not c hl (by omega)).use ?_
  simp
  have hn : (notM c).vars = c.vars ∧ (notM c).coefs.length = c.coefs.length := by
    unfold notM; split
    · exact ⟨rfl, turnedM_length _⟩
    · split
      · exact ⟨rfl, rfl⟩
      · split <;> exact ⟨rfl, rfl⟩
  refine (linear_so d (notM c) (by rw [hn.1]; exact hl) (by rw [hn.1, hn.2]; omega) (by rw [hn.1]; exact hv) hd).use ?_
  simp

end Go.TL
