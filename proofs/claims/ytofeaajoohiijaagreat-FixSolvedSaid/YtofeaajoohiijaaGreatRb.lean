/- Domains: walks. -/
import Derived.Test.YtofeaajoohiijaaGreatTy
import Derived.Test.YtofeaajoohiijaaGreatMa
namespace Go.TL
open Go Go.Proofs
set_option maxRecDepth 4000

theorem dom_Least (d : Dom) : Pure Tryz.prog 33 [encDom d] (.tup [vint (least d).1, .b (least d).2]) := by
  refine Pure.of' (.tup _ (by simp [vint, closed_i, closed_b])) fun H => go33 (by simp) ?_
  unfold Tryz.f33
  cases d with
  | nil => simp [encDom, least, vint]
  | cons r d => simp [encDom, least, vint, encRg, show ¬ ((d.length : Int) + 1 = 0) by omega]

theorem dom_Most (d : Dom) (hl : d.length ≤ lim) : Pure Tryz.prog 92 [encDom d] (.tup [vint (most d).1, .b (most d).2]) := by
  refine Pure.of' (.tup _ (by simp [vint, closed_i, closed_b])) fun H => go92 (by simp) ?_
  unfold Tryz.f92
  unfold lim at hl
  by_cases h0 : d = []
  · subst h0; simp [encDom, most, vint]
  · have hp : 0 < d.length := List.length_pos_iff.2 h0
    have hw : IntKind.i64.wrap ((d.length : Int) - 1) = ((d.length - 1 : Nat) : Int) := by rw [wrap_ok (by omega) (by omega)]; omega
    have hg : d[d.length - 1]? = some d[d.length - 1] := List.getElem?_eq_getElem (by omega)
    have hm : most d = (d[d.length - 1].hi, true) := by simp [most, List.getLast?_eq_getElem?, hg]
    simp [encDom, hm, vint, encRg, show ¬ ((d.length : Int) = 0) by omega, hw, hg]
    omega

theorem dom_Size (d : Dom) (hl : d.length ≤ lim) : Pure Tryz.prog 34 [encDom d] (vint (size d)) := by
  refine Pure.of' (.i _ _) fun H => go34 (by simp) ?_
  unfold Tryz.f34
  unfold lim at hl
  simp [encDom]
  refine AWP.loopC (fun n σ H' => ∃ k : Nat, k ≤ d.length ∧ n = d.length - k ∧ (∃ news, H' = H ++ news) ∧ σ 6 = encDom d ∧ σ 7 = vint d.length ∧ σ 8 = vint k ∧ σ 3 = vint ((d.take k).foldl sizeStep 0)) d.length
    ⟨0, by simp [vint, encDom]⟩ ?_
  rintro n σ H' ⟨k, hk, rfl, ⟨news, rfl⟩, h6, h7, h8, h3⟩
  by_cases hlt : k < d.length
  · have hg : d[k]? = some d[k] := List.getElem?_eq_getElem hlt
    simp [h6, h7, h8, h3, encDom, vint, encRg, hlt, hg, wrap_succ hlt (by omega)]
    refine ⟨d.length - (k + 1), by omega, k + 1, by omega, rfl, rfl, ?_⟩
    rw [List.take_succ_eq_append_getElem hlt, List.foldl_append]
    simp [sizeStep, w64]
  · obtain rfl : k = d.length := by omega
    simp [h6, h7, h8, h3, encDom, vint, size]

theorem closed_dom {d : Dom} : ∀ x ∈ d.map encRg, Closed x := by
  intro x hx
  obtain ⟨r, _, rfl⟩ := List.mem_map.1 hx
  exact closed_encRg r

theorem meetF_drop (a b : Dom) (i j m : Nat) (hi : i < a.length) (hj : j < b.length) : meetF (m + 1) (a.drop i) (b.drop j) =
    (if maxInt a[i].lo b[j].lo ≤ minInt a[i].hi b[j].hi then [⟨maxInt a[i].lo b[j].lo, minInt a[i].hi b[j].hi⟩] else []) ++ if a[i].hi < b[j].hi then meetF m (a.drop (i + 1)) (b.drop j) else meetF m (a.drop i) (b.drop (j + 1)) := by
  rw [List.drop_eq_getElem_cons hi, List.drop_eq_getElem_cons hj, meetF]

theorem meetF_end (a b : Dom) (m : Nat) (h : a = [] ∨ b = []) : meetF m a b = [] := by
  cases m with
  | zero => simp [meetF]
  | succ m =>
    rcases h with rfl | rfl
    · simp [meetF]
    · cases a <;> simp [meetF]

theorem meetF_le : ∀ (n : Nat) (a b : Dom), (meetF n a b).length ≤ n
  | 0, _, _ => by simp [meetF]
  | n + 1, [], b => by simp [meetF]
  | n + 1, _ :: _, [] => by simp [meetF]
  | n + 1, x :: a, y :: b => by
    simp only [meetF, List.length_append]
    have h1 := meetF_le n a (y :: b)
    have h2 := meetF_le n (x :: a) b
    split <;> split <;> simp <;> omega

theorem dom_Meet (a b : Dom) (ha : a.length ≤ lim) (hb : b.length ≤ lim) : Pure Tryz.prog 51 [encDom a, encDom b] (encDom (meet a b)) := by
  refine Pure.acc (k := 2) closed_dom fun H => go51 (by simp) ?_
  unfold Tryz.f51
  unfold lim at ha hb
  simp
  refine AWP.loopC (fun n σ G => ∃ (i j : Nat) (out : Dom), i ≤ a.length ∧ j ≤ b.length ∧ n = a.length - i + (b.length - j) ∧ out ++ meetF n (a.drop i) (b.drop j) = meet a b ∧ out.length ≤ i + j ∧
    Acc H 2 G (σ 5) (out.map encRg) ∧ σ 0 = encDom a ∧ σ 1 = encDom b ∧ σ 6 = vint i ∧ σ 7 = vint j) (a.length + b.length)
    ⟨0, 0, [], by omega, by omega, rfl, by simp [meet], by simp, by simpa using Acc.nil H 2, by simp [vint]⟩ ?_
  rintro n σ G ⟨i, j, out, hi, hj, rfl, hm, hlen, hacc, h0, h1, h6, h7⟩
  by_cases hi' : i < a.length
  · have hgi : a[i]? = some a[i] := List.getElem?_eq_getElem hi'
    by_cases hj' : j < b.length
    · have hgj : b[j]? = some b[j] := List.getElem?_eq_getElem hj'
      obtain ⟨m, hmm⟩ : ∃ m, a.length - i + (b.length - j) = m + 1 := ⟨a.length - i + (b.length - j) - 1, by omega⟩
      rw [hmm, meetF_drop a b i j m hi' hj', ← List.append_assoc] at hm
      simp [h0, h1, h6, h7, encDom, vint, encRg, hi', hj', hgi, hgj]
      refine AWP.drawL [] [] follows (by kernel_rfl) (by kernel_rfl) ?_
      simp [h0, h1, h6, h7, encDom, vint, encRg, hi', hj', hgi, hgj]
      split
      · rename_i hle
        rw [if_pos hle] at hm
        have hL := hacc.lenV
        rw [List.length_map] at hL
        rw [hL]
        refine ⟨by omega, by omega, ?_⟩
        refine hacc.app (by simp) (by simp [storable]) fun x' G' hacc' hG' hother => ?_
        simp [h0, h1, h6, h7, encDom, vint, encRg, hi', hj', hgi, hgj]
        refine AWP.drawL [] [] follows (by kernel_rfl) (by kernel_rfl) ?_
        simp [h0, h1, h6, h7, encDom, vint, encRg, hi', hj', hgi, hgj]
        split
        · rename_i h
          rw [if_pos h] at hm
          exact ⟨m, by omega, i + 1, by omega, j, by omega, by omega, _, hm, by simp; omega, by simpa [encRg, vint] using hacc', wrap_succ hi' (by omega), rfl⟩
        · rename_i h
          rw [if_neg h] at hm
          exact ⟨m, by omega, i, by omega, j + 1, by omega, by omega, _, hm, by simp; omega, by simpa [encRg, vint] using hacc', rfl, wrap_succ hj' (by omega)⟩
      · rename_i hle
        rw [if_neg hle, List.append_nil] at hm
        refine AWP.drawL [] [] follows (by kernel_rfl) (by kernel_rfl) ?_
        simp [h0, h1, h6, h7, encDom, vint, encRg, hi', hj', hgi, hgj]
        split
        · rename_i h
          rw [if_pos h] at hm
          exact ⟨m, by omega, i + 1, by omega, j, by omega, by omega, _, hm, by omega, by simpa [encRg, vint] using hacc, wrap_succ hi' (by omega), rfl⟩
        · rename_i h
          rw [if_neg h] at hm
          exact ⟨m, by omega, i, by omega, j + 1, by omega, by omega, _, hm, by omega, by simpa [encRg, vint] using hacc, rfl, wrap_succ hj' (by omega)⟩
    · obtain rfl : j = b.length := by omega
      rw [meetF_end _ _ _ (.inr (by simp)), List.append_nil] at hm
      subst hm
      simpa [h0, h1, h6, h7, encDom, vint, hi'] using hacc
  · obtain rfl : i = a.length := by omega
    rw [meetF_end _ _ _ (.inl (by simp)), List.append_nil] at hm
    subst hm
    simpa [h0, h1, h6, h7, encDom, vint] using hacc

theorem meet_le (a b : Dom) : (meet a b).length ≤ a.length + b.length := meetF_le _ _ _

theorem dom_Cut (d : Dom) (lo hi : Int) (hl : d.length ≤ lim) : Pure Tryz.prog 60 [encDom d, vint lo, vint hi] (encDom (cut d lo hi)) := by
  refine Pure.of fun H => go60 (by simp) ?_
  unfold Tryz.f60
  have hm := dom_Meet d [⟨lo, hi⟩] (by omega) (by simp [lim])
  simp [vint]
  split
  · rename_i h
    have hc : cut d lo hi = [] := by unfold cut; rw [if_pos (by omega)]
    rw [hc]
    exact .emp
  · rename_i h
    have hc : cut d lo hi = meet d [⟨lo, hi⟩] := by unfold cut; rw [if_neg (by omega)]
    rw [hc]
    refine hm.use ?_
    simp
    exact .closed _ (closed_encDom _)

/-- Two lists of ranges are one. -/
theorem slices_Equal (a b : Dom) (hl : a.length ≤ lim) : Pure Tryz.prog 42 [encDom a, encDom b] (.b (decide (a = b))) := by
  unfold lim at hl
  refine Pure.of' (.b _) fun H => go42 (by simp) ?_
  unfold Tryz.f42
  simp [encDom]
  split
  · rename_i hlen
    have hlen : a.length = b.length := by omega
    refine AWP.loopC (fun n σ H' => ∃ k : Nat, k ≤ a.length ∧ n = a.length - k ∧ H' = H ∧ σ 0 = encDom a ∧ σ 1 = encDom b ∧ σ 13 = vint k ∧ σ 12 = vint a.length ∧ a.take k = b.take k) a.length ⟨0, by simp [vint, encDom]⟩ ?_
    rintro n σ H' ⟨k, hk, rfl, rfl, h0, h1, h5, h6, hv⟩
    by_cases hlt : k < a.length
    · have hg : a[k]? = some a[k] := List.getElem?_eq_getElem hlt
      have hlt' : k < b.length := by omega
      have hg' : b[k]? = some b[k] := List.getElem?_eq_getElem hlt'
      simp [h0, h1, h5, h6, encDom, vint, hlt]
      refine AWP.drawL [] [] follows (by kernel_rfl) (by kernel_rfl) ?_
      simp [h0, h1, h5, h6, encDom, vint, encRg, hlt, hlt', hg, hg', wrap_succ hlt (by omega)]
      split
      · rename_i e
        intro hab
        subst hab
        simp at e
      · rename_i e
        refine ⟨a.length - (k + 1), by omega, k + 1, by omega, rfl, rfl, ?_⟩
        have : a[k] = b[k] := by
          have e1 : a[k].lo = b[k].lo := Classical.byContradiction fun h => e (.inl h)
          have e2 : a[k].hi = b[k].hi := Classical.byContradiction fun h => e (.inr h)
          cases h : a[k]; cases h' : b[k]
          rw [h, h'] at e1 e2
          simp at e1 e2
          rw [e1, e2]
        rw [List.take_succ_eq_append_getElem hlt, List.take_succ_eq_append_getElem hlt', hv, this]
    · simp [h0, h1, h5, h6, encDom, vint, hlt]
      obtain rfl : k = a.length := by omega
      rw [List.take_length, hlen, List.take_length] at hv
      exact hv
  · rename_i hlen
    intro hab
    subst hab
    exact hlen rfl

theorem dom_Same (a b : Dom) (hl : a.length ≤ lim) : Pure Tryz.prog 22 [encDom a, encDom b] (.b (decide (a = b))) := by
  refine Pure.of' (.b _) fun H => go22 (by simp) ?_
  unfold Tryz.f22
  simp
  refine (slices_Equal a b hl).use ?_
  simp

end Go.TL
