/- Sums: walks. -/
import Derived.Test.YtofeaajoohiijaaGreatRc
namespace Go.TL
open Go Go.Proofs

theorem linear_end (d : Dom) (k : Int) (high : Bool) (hl : d.length ≤ lim) : Pure Tryz.prog 93 [encDom d, vint k, .b high] (.tup [vint (endM d k high).1, .b (endM d k high).2]) := by
  refine Pure.of' (.tup _ (by simp [vint, closed_i, closed_b])) fun H => go93 (by simp) ?_
  unfold Tryz.f93
  simp [vint]
  refine (dom_Least d).use ?_
  simp [vint]
  split
  · rename_i h
    refine (dom_Most d hl).use ?_
    simp [vint]
    refine (ints_Mul k (most d).1).use ?_
    simp [vint]
    have : endM d k high = ((mulM k (most d).1).1, (most d).2 && (mulM k (most d).1).2) := by
      unfold endM; rw [if_pos]; cases high <;> simpa using h
    rw [this]
    cases (most d).2 <;> simp
  · rename_i h
    refine (ints_Mul k (least d).1).use ?_
    simp [vint]
    have : endM d k high = ((mulM k (least d).1).1, (least d).2 && (mulM k (least d).1).2) := by
      unfold endM; rw [if_neg]; cases high <;> simpa using h
    rw [this]
    cases (least d).2 <;> simp

theorem linear_floor (a b : Int) (hb : b ≠ 0) : Pure Tryz.prog 96 [vint a, vint b] (vint (floorM a b)) := by
  refine Pure.of' (.i _ _) fun H => go96 (by simp) ?_
  unfold Tryz.f96
  simp [vint, hb, floorM]
  split <;> simp [w64, *]

theorem linear_turned (l : List Int) (hl : l.length ≤ lim) : Pure Tryz.prog 64 [encInts l] (encInts (turnedM l)) := by
  unfold lim at hl
  refine Pure.acc (k := 1) (fun x hx => by obtain ⟨r, _, rfl⟩ := List.mem_map.1 hx; exact .i _ _) fun H => go64 (by simp) ?_
  unfold Tryz.f64
  simp
  refine AWP.loopC (fun n σ G => ∃ k : Nat, k ≤ l.length ∧ n = l.length - k ∧ Acc H 1 G (σ 3) ((turnedM (l.take k)).map vint) ∧ σ 6 = encInts l ∧ σ 7 = vint l.length ∧ σ 8 = vint k) l.length
    ⟨0, by omega, by simp, by simpa [turnedM] using Acc.nil H 1, by simp [vint, encInts]⟩ ?_
  rintro n σ G ⟨k, hk, rfl, hacc, h0, h1, h5⟩
  by_cases hlt : k < l.length
  · have hg : l[k]? = some l[k] := List.getElem?_eq_getElem hlt
    have hL : lenV (σ 3) = k := by rw [hacc.lenV]; simp [turnedM]; omega
    simp [h0, h1, h5, hL, encInts, vint, hlt, hg, wrap_succ hlt (by omega)]
    refine ⟨by omega, by omega, hacc.app (by simp) (by simp [storable]) fun x' G' hacc' _ _ => ?_⟩
    simp [h0, h1, h5, encInts, vint, wrap_succ hlt (by omega)]
    refine ⟨l.length - (k + 1), by omega, k + 1, by omega, rfl, ?_, by omega⟩
    rw [List.take_succ_eq_append_getElem hlt, turnedM, List.map_append, List.map_append]
    exact hacc'
  · simp [h0, h1, h5, vint, hlt]
    obtain rfl : k = l.length := by omega
    simpa using hacc

end Go.TL
