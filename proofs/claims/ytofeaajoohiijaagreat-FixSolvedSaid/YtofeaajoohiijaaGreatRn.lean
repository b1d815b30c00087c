/- Domains held against each other; all known: walks. -/
import Derived.Test.YtofeaajoohiijaaGreatRm
namespace Go.TL
open Go Go.Proofs
set_option maxRecDepth 4000

theorem R2_Same (a b : Dom) (hl : a.length ≤ lim) : Pure Tryz.prog 24 [encDom a, encDom b] (.b (decide (a = b))) := by
  unfold lim at hl
  refine Pure.of' (.b _) fun H => go24 (by simp) ?_
  unfold Tryz.f24
  simp [encDom]
  split
  · rename_i hlen
    have hlen : a.length = b.length := by omega
    refine AWP.loopC (fun n σ H' => ∃ k : Nat, k ≤ a.length ∧ n = a.length - k ∧ H' = H ∧ σ 0 = encDom a ∧ σ 1 = encDom b ∧ σ 5 = vint k ∧ a.take k = b.take k) a.length ⟨0, by simp [vint, encDom]⟩ ?_
    rintro n σ H' ⟨k, hk, rfl, rfl, h0, h1, h5, hv⟩
    by_cases hlt : k < a.length
    · have hlt' : k < b.length := by omega
      simp [h0, h1, h5, encDom, vint, hlt]
      refine AWP.drawL [] [] follows (by kernel_rfl) (by kernel_rfl) ?_
      simp [h0, h1, h5, encDom, vint, encRg, hlt, hlt', wrap_succ hlt (by omega)]
      split
      · rename_i e
        intro hab
        subst hab
        simp at e
      · rename_i e
        refine ⟨a.length - (k + 1), by omega, k + 1, by omega, rfl, rfl, ?_⟩
        have : a[k] = b[k] := by
          have e1 : a[k].lo = b[k].lo := Classical.byContradiction fun h => e (.inl h)
          have e2 : a[k].hi = b[k].hi := Classical.byContradiction fun h => e (.inr h)
          cases h : a[k]; cases h' : b[k]
          rw [h, h'] at e1 e2
          simp at e1 e2
          rw [e1, e2]
        rw [List.take_succ_eq_append_getElem hlt, List.take_succ_eq_append_getElem hlt', hv, this]
    · simp [h0, h1, h5, encDom, vint, hlt]
      obtain rfl : k = a.length := by omega
      rw [List.take_length, hlen, List.take_length] at hv
      exact hv
  · rename_i hlen
    intro hab
    subst hab
    exact hlen rfl

theorem R3_Same (a b : List Dom) (hl : a.length ≤ lim) (hd : ∀ y ∈ a, y.length ≤ lim) : Pure Tryz.prog 10 [encDoms a, encDoms b] (.b (decide (a = b))) := by
  unfold lim at hl
  refine Pure.of' (.b _) fun H => go10 (by simp) ?_
  unfold Tryz.f10
  simp [encDoms]
  split
  · rename_i hlen
    have hlen : a.length = b.length := by omega
    refine AWP.loopC (fun n σ H' => ∃ k : Nat, k ≤ a.length ∧ n = a.length - k ∧ H' = H ∧ σ 0 = encDoms a ∧ σ 1 = encDoms b ∧ σ 5 = vint k ∧ a.take k = b.take k) a.length ⟨0, by simp [vint, encDoms]⟩ ?_
    rintro n σ H' ⟨k, hk, rfl, rfl, h0, h1, h5, hv⟩
    by_cases hlt : k < a.length
    · have hlt' : k < b.length := by omega
      have hc := R2_Same a[k] b[k] (hd _ (List.getElem_mem hlt))
      simp [h0, h1, h5, encDoms, vint, hlt]
      refine AWP.drawL [] [] follows (by kernel_rfl) (by kernel_rfl) ?_
      simp [h0, h1, h5, encDoms, vint, hlt, hlt']
      refine callE_use hc ?_
      simp [h0, h1, h5, vint, wrap_succ hlt (by omega)]
      split
      · rename_i e
        refine ⟨a.length - (k + 1), by omega, k + 1, by omega, rfl, by simp [encDoms], by simp [encDoms], by omega, ?_⟩
        rw [List.take_succ_eq_append_getElem hlt, List.take_succ_eq_append_getElem hlt', hv, e]
      · rename_i e
        intro hab
        subst hab
        exact e rfl
    · simp [h0, h1, h5, encDoms, vint, hlt]
      obtain rfl : k = a.length := by omega
      rw [List.take_length, hlen, List.take_length] at hv
      exact hv
  · rename_i hlen
    intro hab
    subst hab
    exact hlen rfl

def solvedF : List Dom → List Int → List Int × Bool
  | [], acc => (acc, true)
  | x :: d, acc => if (least x).2 = false ∨ size x ≠ 1 then ([], false) else solvedF d (acc ++ [(least x).1])
def solvedM (d : List Dom) : List Int × Bool := solvedF d []

theorem fix_SolvedA (d : List Dom) (hl : d.length ≤ lim) (hd : ∀ y ∈ d, y.length ≤ lim) (H : List Obj) : Fn Tryz.prog 13 [encDoms d] H fun y G => ∃ z, y = .tup [z, .b (solvedM d).2] ∧ Acc H 1 G z ((solvedM d).1.map vint) := by
  unfold lim at hl
  refine go13 (by simp) ?_
  unfold Tryz.f13
  simp
  refine AWP.loopC (fun n σ G => ∃ (k : Nat) (acc : List Int), k ≤ d.length ∧ n = d.length - k ∧ solvedF (d.drop k) acc = solvedM d ∧ acc.length ≤ k ∧ Acc H 1 G (σ 4) (acc.map vint) ∧ σ 10 = encDoms d ∧ σ 11 = vint d.length ∧ σ 12 = vint k) d.length
    ⟨0, [], by omega, by simp, by simp [solvedM], by simp, by simpa using Acc.nil H 1, by simp [vint, encDoms]⟩ ?_
  rintro n σ G ⟨k, acc, hk, rfl, hs, hal, hacc, h10, h11, h12⟩
  by_cases hlt : k < d.length
  · obtain ⟨x, hx⟩ : ∃ x, d[k] = x := ⟨_, rfl⟩
    have hxl : x.length ≤ lim := by rw [← hx]; exact hd _ (List.getElem_mem hlt)
    rw [List.drop_eq_getElem_cons hlt, hx, solvedF] at hs
    have hL := hacc.lenV
    rw [List.length_map] at hL
    simp [h10, h11, h12, encDoms, vint, hlt, hx]
    refine (dom_Least x).use ?_
    rcases hle : least x with ⟨v, ok⟩
    rw [hle] at hs
    cases ok
    · simp at hs
      simp [← hs]
      exact ⟨hacc.pre, .inl ⟨rfl, rfl⟩⟩
    · simp
      refine (dom_Size x hxl).use ?_
      simp [vint]
      split
      · rename_i h1
        simp [h1] at hs
        simp [h10, h11, h12, vint, hL]
        refine ⟨by omega, by omega, hacc.app (by simp) (by simp [storable]) fun x' G' hacc' _ _ => ?_⟩
        simp [h10, h11, h12, vint, wrap_succ hlt (by omega)]
        exact ⟨d.length - (k + 1), by omega, k + 1, by omega, rfl, acc ++ [v], hs, by simp; omega, by simpa [vint] using hacc', by simp [encDoms]⟩
      · rename_i h1
        simp [h1] at hs
        simp [← hs]
        exact ⟨hacc.pre, .inl ⟨rfl, rfl⟩⟩
  · obtain rfl : k = d.length := by omega
    rw [List.drop_eq_nil_of_le (Nat.le_refl _)] at hs
    simp [h10, h11, h12, vint, ← hs, solvedF]
    exact hacc

theorem fix_Solved (d : List Dom) (hl : d.length ≤ lim) (hd : ∀ y ∈ d, y.length ≤ lim) : Pure Tryz.prog 13 [encDoms d] (.tup [encInts (solvedM d).1, .b (solvedM d).2]) :=
  .of fun H => (fix_SolvedA d hl hd H).mono fun y G ⟨z, hy, hacc⟩ => by
    obtain ⟨n, hn⟩ := hacc.pre
    exact ⟨n, hn, hy ▸ .tup2 (hacc.frz closed_int) (.closed _ (.b _))⟩

end Go.TL
