/- Small functions of the references. -/
import Derived.Test.YtofeaajoohiijaaGreatTy
import Derived.Test.YtofeaajoohiijaaGreatDa
namespace Go.TL
open Go Go.Proofs

theorem R2_Has (l : List Int) (v : Int) (hl : l.length ≤ 9223372036854775807) : Pure Tryz.prog 66 [encInts l, vint v] (.b (decide (v ∈ l))) := by
  refine Pure.of' (.b _) fun H => go66 (by simp) ?_
  unfold Tryz.f66
  simp
  refine AWP.loopC (fun n σ H' => ∃ k : Nat, k ≤ l.length ∧ n = l.length - k ∧ H' = H ∧ σ 0 = encInts l ∧ σ 1 = vint v ∧ σ 5 = vint k ∧ ¬ v ∈ l.take k) l.length ⟨0, by simp [vint]⟩ ?_
  rintro n σ H' ⟨k, hk, rfl, rfl, h0, h1, h5, hv⟩
  by_cases hlt : k < l.length
  · have hg : l[k]? = some l[k] := List.getElem?_eq_getElem hlt
    simp [h0, h1, h5, encInts, vint, hlt, hg, wrap_succ hlt hl]
    split
    · rename_i e
      simp [← e]
    · rename_i e
      refine ⟨l.length - (k + 1), by omega, k + 1, by omega, rfl, rfl, ?_⟩
      rw [List.take_succ_eq_append_getElem hlt, List.mem_append]
      rintro (h | h)
      · exact hv h
      · simp at h; exact e h.symm
  · simp [h0, h1, h5, encInts, vint, hlt]
    obtain rfl : k = l.length := by omega
    simpa using hv

theorem R2_Nums (a b : List Int) (hl : a.length ≤ 9223372036854775807) : Pure Tryz.prog 14 [encInts a, encInts b] (.b (decide (a = b))) := by
  refine Pure.of' (.b _) fun H => go14 (by simp) ?_
  unfold Tryz.f14
  simp [encInts]
  split
  · rename_i hlen
    have hlen : a.length = b.length := by omega
    refine AWP.loopC (fun n σ H' => ∃ k : Nat, k ≤ a.length ∧ n = a.length - k ∧ H' = H ∧ σ 0 = encInts a ∧ σ 1 = encInts b ∧ σ 5 = vint k ∧ a.take k = b.take k) a.length ⟨0, by simp [vint, encInts]⟩ ?_
    rintro n σ H' ⟨k, hk, rfl, rfl, h0, h1, h5, hv⟩
    by_cases hlt : k < a.length
    · have hg : a[k]? = some a[k] := List.getElem?_eq_getElem hlt
      have hlt' : k < b.length := by omega
      have hg' : b[k]? = some b[k] := List.getElem?_eq_getElem hlt'
      simp [h0, h1, h5, encInts, vint, hlt]
      refine AWP.drawL [] [] follows (by kernel_rfl) (by kernel_rfl) ?_
      simp [h0, h1, h5, encInts, vint, hlt, hlt', hg, hg', wrap_succ hlt hl]
      split
      · rename_i e
        refine ⟨a.length - (k + 1), by omega, k + 1, by omega, rfl, rfl, ?_⟩
        rw [List.take_succ_eq_append_getElem hlt, List.take_succ_eq_append_getElem hlt', hv, e]
      · rename_i e
        intro hab
        subst hab
        exact e rfl
    · simp [h0, h1, h5, encInts, vint, hlt]
      obtain rfl : k = a.length := by omega
      rw [List.take_length, hlen, List.take_length] at hv
      exact hv
  · rename_i hlen
    intro hab
    subst hab
    exact hlen rfl

end Go.TL
