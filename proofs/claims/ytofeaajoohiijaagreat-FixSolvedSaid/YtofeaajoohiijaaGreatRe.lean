/- Copies of slices: walks. -/
import Derived.Test.YtofeaajoohiijaaGreatRd
namespace Go.TL
open Go Go.Proofs

theorem clone_dom (d : Dom) (hl : d.length ≤ lim) : Pure Tryz.prog 19 [encDom d] (encDom d) := by
  unfold lim at hl
  refine Pure.acc (k := 2) (fun x hx => by obtain ⟨r, _, rfl⟩ := List.mem_map.1 hx; exact closed_encRg _) fun H => go19 (by simp) ?_
  unfold Tryz.f19
  cases d with
  | nil =>
    simp [encDom]
    exact Acc.nil H 2
  | cons r d =>
    have hl' : d.length + 1 ≤ 1099511627776 := by simpa using hl
    simp [encDom]
    refine ⟨by omega, by omega, (Acc.nil H 2).app (by simp) (fun a ha c hc => ?_) fun x' G' hacc _ _ => ?_⟩
    · obtain ⟨q, _, rfl⟩ := List.mem_map.1 (show a ∈ (r :: d).map encRg by simpa using ha)
      simp [encRg] at hc
      rcases hc with rfl | rfl <;> rfl
    · simpa using hacc

theorem clone_ints (d : List Int) (hl : d.length ≤ lim) : Pure Tryz.prog 73 [encInts d] (encInts d) := by
  unfold lim at hl
  refine Pure.acc (k := 1) (fun x hx => by obtain ⟨r, _, rfl⟩ := List.mem_map.1 hx; exact .i _ _) fun H => go73 (by simp) ?_
  unfold Tryz.f73
  cases d with
  | nil =>
    simp [encInts]
    exact Acc.nil H 1
  | cons r d =>
    have hl' : d.length + 1 ≤ 1099511627776 := by simpa using hl
    simp [encInts]
    refine ⟨by omega, by omega, (Acc.nil H 1).app (by simp) (fun a ha c hc => ?_) fun x' G' hacc _ _ => ?_⟩
    · obtain ⟨q, _, rfl⟩ := List.mem_map.1 (show a ∈ (r :: d).map vint by simpa using ha)
      simp [vint] at hc
      subst hc; rfl
    · simpa using hacc

theorem clone_rows (d : List (List Int)) (hl : d.length ≤ lim) : Pure Tryz.prog 45 [encRows d] (encRows d) := by
  unfold lim at hl
  refine Pure.acc (k := 1) (fun x hx => by obtain ⟨r, _, rfl⟩ := List.mem_map.1 hx; exact closed_encInts _) fun H => go45 (by simp) ?_
  unfold Tryz.f45
  cases d with
  | nil =>
    simp [encRows]
    exact Acc.nil H 1
  | cons r d =>
    have hl' : d.length + 1 ≤ 1099511627776 := by simpa using hl
    simp [encRows]
    refine ⟨by omega, by omega, (Acc.nil H 1).app (by simp) (fun a ha c hc => ?_) fun x' G' hacc _ _ => ?_⟩
    · obtain ⟨q, _, rfl⟩ := List.mem_map.1 (show a ∈ (r :: d).map encInts by simpa using ha)
      simp [encInts] at hc
      subst hc; rfl
    · simpa using hacc

/-- What `own` hands on: false where one is empty; else all of them in a row of its own. -/
def Owned (H : List Obj) (d : List Dom) (x : V) (G : List Obj) : Prop :=
  if [] ∈ d then x = .tup [.emp, .b false] ∧ ∃ news, G = H ++ news else ∃ y, x = .tup [y, .b true] ∧ Acc H 1 G y (d.map encDom)

theorem linear_own (d : List Dom) (hl : d.length ≤ lim) (hd : ∀ x ∈ d, x.length ≤ lim) (H : List Obj) : Fn Tryz.prog 62 [encDoms d] H (Owned H d) := by
  unfold lim at hl
  refine go62 (by simp) ?_
  unfold Tryz.f62
  simp
  refine AWP.loopC (fun n σ G => ∃ k : Nat, k ≤ d.length ∧ n = d.length - k ∧ Acc H 1 G (σ 4) ((d.take k).map encDom) ∧ ¬ [] ∈ d.take k ∧ σ 7 = encDoms d ∧ σ 8 = vint d.length ∧ σ 9 = vint k) d.length
    ⟨0, by omega, by simp, by simpa using Acc.nil H 1, by simp, by simp [vint, encDoms]⟩ ?_
  rintro n σ G ⟨k, hk, rfl, hacc, hne, h0, h1, h5⟩
  by_cases hlt : k < d.length
  · have hg : d[k]? = some d[k] := List.getElem?_eq_getElem hlt
    have hL : lenV (σ 4) = k := by rw [hacc.lenV]; simp; omega
    simp [h0, h1, h5, encDoms, encDom, vint, hlt, hg]
    split
    · rename_i h
      have hm : [] ∈ d := h ▸ List.getElem_mem hlt
      unfold Owned
      rw [if_pos hm]
      exact ⟨rfl, hacc.pre⟩
    · rename_i h
      refine (clone_dom d[k] (hd _ (List.getElem_mem hlt))).use ?_
      simp [hL]
      refine ⟨by omega, by omega, hacc.app (by simp) (by simp) fun x' G' hacc' _ _ => ?_⟩
      simp [h0, h1, h5, encDoms, vint, wrap_succ hlt (by omega)]
      refine ⟨d.length - (k + 1), by omega, k + 1, by omega, rfl, ?_, ?_, by omega⟩
      · rw [← List.map_take, List.take_succ_eq_append_getElem hlt, List.map_append]
        exact hacc'
      · rw [List.take_succ_eq_append_getElem hlt, List.mem_append]
        rintro (h' | h')
        · exact hne h'
        · simp at h'; exact h (by first | exact h' | exact h'.symm)
  · simp [h0, h1, h5, vint, hlt]
    obtain rfl : k = d.length := by omega
    rw [List.take_length] at hne hacc
    unfold Owned
    rw [if_neg hne]
    exact ⟨_, rfl, hacc⟩

end Go.TL
