/- Domains without some values; a sum's rounds: walks. -/
import Derived.Test.YtofeaajoohiijaaGreatRg
namespace Go.TL
open Go Go.Proofs
set_option maxRecDepth 4000

theorem mkEl_rg (r : Rg) (cs : List V) : mkEl (encRg r) cs = .agg cs := rfl

theorem minusStep_le (hi : Int) (s : Dom × Int) (y : Rg) : (minusStep hi s y).1.length ≤ s.1.length + 1 := by
  unfold minusStep; split
  · omega
  · simp only; split <;> simp

theorem foldl_le {α β : Type} (f : α → β → α) (m : α → Nat) (c : Nat) (h : ∀ a b, m (f a b) ≤ m a + c) : ∀ (l : List β) (a : α), m (l.foldl f a) ≤ m a + l.length * c
  | [], a => by simp
  | b :: l, a => by
    have h1 := foldl_le f m c h l (f a b)
    have h2 := h a b
    simp only [List.foldl_cons, List.length_cons, Nat.add_mul, Nat.one_mul]
    omega

theorem minus1_le (b out : Dom) (x : Rg) : (minus1 b out x).length ≤ out.length + (b.length + 1) := by
  have h := foldl_le (minusStep x.hi) (fun s => s.1.length) 1 (fun s y => minusStep_le x.hi s y) b (out, x.lo)
  simp only [Nat.mul_one] at h
  unfold minus1
  simp only
  split
  · simp only [List.length_append, List.length_cons, List.length_nil]; omega
  · omega

theorem dom_Minus (a b : Dom) (hl : a.length * (b.length + 1) ≤ lim) (ha : a.length ≤ lim) (hb : b.length ≤ lim) : Pure Tryz.prog 94 [encDom a, encDom b] (encDom (minus a b)) := by
  unfold lim at hl ha hb
  refine Pure.acc (k := 2) closed_dom fun H => go94 (by simp) ?_
  unfold Tryz.f94
  simp
  refine AWP.loopC (fun n σ G => ∃ k : Nat, k ≤ a.length ∧ n = a.length - k ∧ Acc H 2 G (σ 5) (((a.take k).foldl (minus1 b) []).map encRg) ∧ σ 1 = encDom b ∧ σ 10 = encDom a ∧ σ 11 = vint a.length ∧ σ 12 = vint k) a.length
    ⟨0, by omega, by simp, by simpa using Acc.nil H 2, by simp [vint, encDom]⟩ ?_
  rintro n σ G ⟨k, hk, rfl, hacc, h1, h10, h11, h12⟩
  by_cases hlt : k < a.length
  · have hg : a[k]? = some a[k] := List.getElem?_eq_getElem hlt
    have hout : ((a.take k).foldl (minus1 b) []).length + (b.length + 1) ≤ 1099511627776 := by
      have h := foldl_le (minus1 b) List.length (b.length + 1) (fun o x => minus1_le b o x) (a.take k) []
      rw [List.length_take, Nat.min_eq_left hk] at h
      have h2 : (k + 1) * (b.length + 1) ≤ a.length * (b.length + 1) := Nat.mul_le_mul_right _ hlt
      rw [Nat.add_mul, Nat.one_mul] at h2
      simp only [List.length_nil] at h
      omega
    have htake : (a.take (k + 1)).foldl (minus1 b) [] = minus1 b ((a.take k).foldl (minus1 b) []) a[k] := by
      rw [List.take_succ_eq_append_getElem hlt, List.foldl_append]; rfl
    generalize (a.take k).foldl (minus1 b) [] = out at hacc hout htake
    obtain ⟨r, hr⟩ : ∃ r, a[k] = r := ⟨_, rfl⟩
    rw [hr] at hg htake
    simp [h1, h10, h11, h12, encDom, vint, encRg, hlt, hr]
    refine AWP.loopC (fun n σ' G' => ∃ (j : Nat) (o : Nat), j ≤ b.length ∧ n = b.length - j ∧ H.length ≤ o ∧ NotIn (σ' 5) o ∧ Acc H 2 G' (σ' 5) (((b.take j).foldl (minusStep r.hi) (out, r.lo)).1.map encRg) ∧
      G'[o]? = some (.row 2 [encRg ⟨((b.take j).foldl (minusStep r.hi) (out, r.lo)).2, r.hi⟩]) ∧ σ' 7 = .ptr o 1 0 0 ∧ σ' 1 = encDom b ∧ σ' 10 = encDom a ∧ σ' 11 = vint a.length ∧ σ' 12 = vint k ∧ σ' 16 = encDom b ∧ σ' 17 = vint b.length ∧ σ' 18 = vint j) b.length
      ⟨0, G.length, by omega, by simp, by have := hacc.le; omega, by simpa using hacc.fresh, by simpa using hacc.more _, by simp [encRg, vint], by simp [vint, encDom, h1, h10, h11, h12]⟩ ?_
    rintro n σ' G' ⟨j, o, hj, rfl, ho, hni, hacc', hrow, h7', h1', h10', h11', h12', h16', h17', h18'⟩
    have hol : o < G'.length := (List.getElem?_eq_some_iff.1 hrow).1
    have hslen : ((b.take j).foldl (minusStep r.hi) (out, r.lo)).1.length ≤ out.length + j := by
      have h := foldl_le (minusStep r.hi) (fun s => s.1.length) 1 (fun s y => minusStep_le r.hi s y) (b.take j) (out, r.lo)
      rw [List.length_take, Nat.min_eq_left hj] at h
      simp only [Nat.mul_one] at h
      exact h
    by_cases hjt : j < b.length
    · have hgj : b[j]? = some b[j] := List.getElem?_eq_getElem hjt
      have hstep : (b.take (j + 1)).foldl (minusStep r.hi) (out, r.lo) = minusStep r.hi ((b.take j).foldl (minusStep r.hi) (out, r.lo)) b[j] := by
        rw [List.take_succ_eq_append_getElem hjt, List.foldl_append]; rfl
      generalize hs : (b.take j).foldl (minusStep r.hi) (out, r.lo) = s at *
      obtain ⟨ds, lo⟩ := s
      have hL := hacc'.lenV
      simp only [List.length_map] at hL hslen
      obtain ⟨y, hy⟩ : ∃ y, b[j] = y := ⟨_, rfl⟩
      rw [hy] at hstep hgj
      have hrow2 : (G' ++ [Go.TL.Obj.row 2 [encRg y]])[o]? = some (.row 2 [encRg ⟨lo, r.hi⟩]) := by rw [List.getElem?_append_left hol]; exact hrow
      have hrow3 : (G' ++ [Go.TL.Obj.row 2 [encRg y]])[G'.length]? = some (.row 2 [encRg y]) := by simp
      have hni2 : NotIn (σ' 5) G'.length := hacc'.fresh
      simp only [encRg, vint] at hrow2 hrow3
      by_cases hc1 : y.hi < lo ∨ r.hi < y.lo
      · have hms : minusStep r.hi (ds, lo) y = (ds, lo) := by unfold minusStep; rw [if_pos hc1]
        rw [hms] at hstep
        by_cases hc : y.hi < lo
        · simp [h7', h1', h10', h11', h12', h16', h17', h18', encDom, vint, encRg, hjt, hy, hrow2, hrow3, hc, wrap_succ hjt (by omega)]
          exact ⟨b.length - (j + 1), by omega, j + 1, by omega, rfl, o, by simp [hstep, hrow2, ho, hni]; exact hacc'.more _⟩
        · have hc2 : r.hi < y.lo := by omega
          simp [h7', h1', h10', h11', h12', h16', h17', h18', encDom, vint, encRg, hjt, hy, hrow2, hrow3, hc, hc2, wrap_succ hjt (by omega)]
          exact ⟨b.length - (j + 1), by omega, j + 1, by omega, rfl, o, by simp [hstep, hrow2, ho, hni]; exact hacc'.more _⟩
      · have hc : ¬ y.hi < lo := fun h => hc1 (.inl h)
        have hc2 : ¬ r.hi < y.lo := fun h => hc1 (.inr h)
        have hms : minusStep r.hi (ds, lo) y = ((if lo < y.lo then ds ++ [⟨lo, w64 (y.lo - 1)⟩] else ds), w64 (y.hi + 1)) := by unfold minusStep; rw [if_neg hc1]
        rw [hms] at hstep
        by_cases hc3 : lo < y.lo
        · rw [if_pos hc3] at hstep
          simp [h7', h1', h10', h11', h12', h16', h17', h18', encDom, vint, encRg, hjt, hy, hrow2, hrow3, hc, hc2, hc3, hL]
          refine ⟨by omega, by omega, (hacc'.more _).app (by simp) (by simp [storable]) fun x' G2 hacc2 hlen2 hoth => ?_⟩
          have hp1 := hoth o (by simp; omega) hni
          have hp2 := hoth G'.length (by simp) hni2
          rw [hrow2] at hp1
          rw [hrow3] at hp2
          have ho2 : o < G2.length := (List.getElem?_eq_some_iff.1 hp1.1).1
          simp [h7', h1', h10', h11', h12', h16', h17', h18', encDom, vint, encRg, hp1.1, hp2.1, splice, mkEl, wrap_succ hjt (by omega)]
          refine ⟨b.length - (j + 1), by omega, j + 1, by omega, rfl, o, ?_⟩
          simp [hstep, ho, hp1.2, ho2, w64]
          simpa [encRg, vint, w64] using hacc2.set ho hp1.2 _
        · rw [if_neg hc3] at hstep
          simp [h7', h1', h10', h11', h12', h16', h17', h18', encDom, vint, encRg, hjt, hy, hrow2, hrow3, hc, hc2, hc3, hL, splice, mkEl, wrap_succ hjt (by omega)]
          refine ⟨b.length - (j + 1), by omega, j + 1, by omega, rfl, o, ?_⟩
          simp [hstep, ho, hni, w64, List.getElem?_set_self, Nat.lt_succ_of_lt hol]
          exact (hacc'.more _).set ho hni _
    · obtain rfl : j = b.length := by omega
      rw [List.take_length] at hacc' hrow hslen
      have hfin : minus1 b out r = let s := b.foldl (minusStep r.hi) (out, r.lo); if s.2 ≤ r.hi then s.1 ++ [⟨s.2, r.hi⟩] else s.1 := rfl
      generalize hs : b.foldl (minusStep r.hi) (out, r.lo) = s at *
      obtain ⟨ds, lo⟩ := s
      have hL := hacc'.lenV
      simp only [List.length_map] at hL hslen
      simp [h7', h1', h10', h11', h12', h16', h17', h18', vint, hrow, encRg]
      split
      · rename_i hle
        simp [hL]
        refine ⟨by omega, by omega, hacc'.app (by simp) (by simp [storable]) fun x' G2 hacc2 _ _ => ?_⟩
        simp [h12', h1', h10', h11', vint, wrap_succ hlt (by omega)]
        refine ⟨a.length - (k + 1), by omega, k + 1, by omega, rfl, ?_, by simp [encDom]⟩
        rw [htake, hfin]
        simpa [hle, encRg, vint] using hacc2
      · rename_i hle
        simp [h12', h1', h10', h11', vint, wrap_succ hlt (by omega)]
        refine ⟨a.length - (k + 1), by omega, k + 1, by omega, rfl, ?_, by simp [encDom]⟩
        rw [htake, hfin]
        simpa [hle] using hacc'
  · obtain rfl : k = a.length := by omega
    rw [List.take_length] at hacc
    simpa [h1, h10, h11, h12, vint, minus] using hacc

end Go.TL
