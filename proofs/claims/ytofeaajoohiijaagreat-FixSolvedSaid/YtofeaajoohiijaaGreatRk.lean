/- slices.Compact; the variables of a constraint: walks. -/
import Derived.Test.YtofeaajoohiijaaGreatRj
namespace Go.TL
open Go Go.Proofs
set_option maxRecDepth 4000

/-- Each of what stands beside itself once. -/
def compactM : List Int → List Int
  | a :: b :: l => if a = b then compactM (b :: l) else a :: compactM (b :: l)
  | l => l

theorem compactM_ne : ∀ (l : List Int), l ≠ [] → compactM l ≠ []
  | [], h => absurd rfl h
  | [a], _ => by simp [compactM]
  | a :: b :: l, _ => by
    unfold compactM; split
    · exact compactM_ne (b :: l) (by simp)
    · simp

theorem compactM_snoc : ∀ (a : List Int) (x y : Int), compactM (a ++ [x, y]) = if x = y then compactM (a ++ [x]) else compactM (a ++ [x]) ++ [y]
  | [], x, y => by simp [compactM]; split <;> simp_all
  | [b], x, y => by
    simp only [List.cons_append, List.nil_append, compactM]
    by_cases h1 : b = x <;> by_cases h2 : x = y <;> simp [h1, h2]
  | b :: c :: a, x, y => by
    have ih := compactM_snoc (c :: a) x y
    simp only [List.cons_append] at ih ⊢
    rw [compactM, compactM, ih]
    split <;> split <;> simp_all

theorem compactM_take {l : List Int} {k : Nat} (h1 : 1 ≤ k) (h : k < l.length) : compactM (l.take (k + 1)) = if l[k - 1] = l[k] then compactM (l.take k) else compactM (l.take k) ++ [l[k]] := by
  obtain ⟨j, rfl⟩ : ∃ j, k = j + 1 := ⟨k - 1, by omega⟩
  rw [List.take_succ_eq_append_getElem h, List.take_succ_eq_append_getElem (by omega : j < l.length), List.append_assoc]
  exact compactM_snoc _ _ _

theorem compactM_le : ∀ (l : List Int), (compactM l).length ≤ l.length
  | [] => by simp [compactM]
  | [a] => by simp [compactM]
  | a :: b :: l => by
    have := compactM_le (b :: l)
    unfold compactM; split
    · simp at this ⊢; omega
    · simp at this ⊢; omega

theorem compact_none (H : List Obj) : Fn Tryz.prog 75 [.emp] H fun r G => r = .emp ∧ G = H := by
  refine go75 (by simp) ?_
  unfold Tryz.f75
  simp

theorem slices_Compact (l : List Int) (hl : l.length ≤ lim) (o : Nat) (H : List Obj) (ho : H[o]? = some (.row 1 (l.map vint))) :
    Fn Tryz.prog 75 [.sl o l.length 0 l.length none] H fun r G => ∃ (ys : List Int) (c : Option Nat), ys.length = l.length ∧ G = H.set o (.row 1 (ys.map vint)) ∧ ys.take (compactM l).length = compactM l ∧ r = .sl o l.length 0 (compactM l).length c := by
  unfold lim at hl
  have hol : o < H.length := (List.getElem?_eq_some_iff.1 ho).1
  refine go75 (by simp) ?_
  unfold Tryz.f75
  simp [ho]
  by_cases h2 : (l.length : Int) < 2
  · simp [h2]
    have hc : compactM l = l := by
      match l, h2 with
      | [], _ => rfl
      | [a], _ => rfl
      | a :: b :: l, h2 => simp at h2; omega
    exact ⟨l, rfl, (set_self ho).symm, by rw [hc, List.take_length], by rw [hc]⟩
  · simp [h2]
    refine AWP.loopC (fun n σ G => ∃ k : Nat, 1 ≤ k ∧ k ≤ l.length ∧ n = l.length - k ∧ H = G ∧ compactM (l.take k) = l.take k ∧ σ 0 = .sl o l.length 0 l.length none ∧ σ 3 = vint k) (l.length - 1) ⟨1, by omega, by omega, by have := hol; omega, rfl, by
        match l, h2 with
        | [], h2 => simp at h2
        | a :: l, _ => rfl, by simp [vint]⟩ ?_
    rintro n σ G ⟨k, hk1, hk, rfl, rfl, hcm, h0, h3⟩
    by_cases hlt : k < l.length
    · have hg : l[k]? = some l[k] := List.getElem?_eq_getElem hlt
      have hp : k - 1 < l.length := by omega
      have hgp : l[k - 1]? = some l[k - 1] := List.getElem?_eq_getElem hp
      have hw : IntKind.i64.wrap ((k : Int) - 1) = ((k - 1 : Nat) : Int) := by rw [wrap_ok (by omega) (by omega)]; omega
      have hct := compactM_take hk1 hlt
      have hlt' : (k : Int) < l.length := by omega
      have hpi : ((k - 1 : Nat) : Int) < l.length := by omega
      simp [h0, h3, vint, ho, hlt]
      refine AWP.drawL [] [] follows (by kernel_rfl) (by kernel_rfl) ?_
      simp [h0, h3, vint, ho, hlt, hw, hpi, hp]
      split
      · rename_i heq
        refine ⟨by omega, AWP.loopC (fun n σ' G2 => ∃ (q m : Nat) (ys : List Int), 1 ≤ q ∧ k + q ≤ l.length ∧ n = l.length - (k + q) ∧ m ≤ k + q - 1 ∧ 1 ≤ m ∧ ys.length = l.length ∧ G2 = H.set o (.row 1 (ys.map vint)) ∧ (compactM (l.take (k + q))).length = m ∧ ys.take m = compactM (l.take (k + q)) ∧ ys.drop (k + q - 1) = l.drop (k + q - 1) ∧
          σ' 0 = .sl o l.length 0 l.length none ∧ σ' 4 = .sl o l.length k (l.length - k) none ∧ σ' 3 = vint m ∧ σ' 5 = vint q) (l.length - (k + 1)) ⟨1, k, l, by omega, by omega, by omega, by omega, by omega, rfl, (set_self ho).symm, by
            rw [hct, if_pos heq.symm, hcm]; simp; omega, by rw [hct, if_pos heq.symm, hcm], rfl, by simp [h0, h3, vint]; omega⟩ ?_⟩
        rintro n σ' G2 ⟨q, m, ys, hq1, hq, rfl, hm, hm1, hyl, rfl, hcl, htk, hdr, h0', h4', h3', h5'⟩
        by_cases hqt : k + q < l.length
        · have hget : ∀ i, k + q - 1 ≤ i → ys[i]? = l[i]? := by
            intro i hi
            have h1 : (ys.drop (k + q - 1))[i - (k + q - 1)]? = (l.drop (k + q - 1))[i - (k + q - 1)]? := by rw [hdr]
            rw [List.getElem?_drop, List.getElem?_drop, show k + q - 1 + (i - (k + q - 1)) = i by omega] at h1
            exact h1
          have hp : k + q - 1 < l.length := by omega
          have hg1 : ys[k + q]? = some l[k + q] := by rw [hget _ (by omega)]; exact List.getElem?_eq_getElem hqt
          have hg0 : ys[k + (q - 1)]? = some l[k + q - 1] := by rw [show k + (q - 1) = k + q - 1 by omega, hget _ (by omega)]; exact List.getElem?_eq_getElem hp
          have hw : IntKind.i64.wrap ((q : Int) - 1) = ((q - 1 : Nat) : Int) := by rw [wrap_ok (by omega) (by omega)]; omega
          have hwm : IntKind.i64.wrap ((m : Int) + 1) = ((m + 1 : Nat) : Int) := by rw [wrap_ok (by omega) (by omega)]; rfl
          have hct2 := compactM_take (l := l) (k := k + q) (by omega) hqt
          have hqi : ((q - 1 : Nat) : Int) < ((l.length - k : Nat) : Int) := by omega
          have hq2 : q < l.length - k := by omega
          have hmi : (m : Int) < l.length := by omega
          simp [h0', h4', h3', h5', vint, hol, hyl, hq2]
          refine AWP.drawL [] [] follows (by kernel_rfl) (by kernel_rfl) ?_
          have hm2 : m < ys.length := by omega
          have hgm : ys[m]? = some ys[m] := List.getElem?_eq_getElem hm2
          have hwq : IntKind.i64.wrap ((q : Int) + 1) = ((q + 1 : Nat) : Int) := by rw [wrap_ok (by omega) (by omega)]; rfl
          simp [h0', h4', h3', h5', vint, hol, hyl, hq2, hw, hqi, hg1, hg0, hgm, hmi, hwm, hwq, splice, mkEl]
          split
          · rename_i e
            rw [if_pos e.symm] at hct2
            exact ⟨l.length - (k + (q + 1)), by omega, q + 1, by omega, by omega, rfl, m, by omega, by omega, ys, hyl, rfl, by rw [show k + (q + 1) = k + q + 1 by omega, hct2]; exact hcl, by rw [show k + (q + 1) = k + q + 1 by omega, hct2]; exact htk, by
              rw [show k + (q + 1) - 1 = k + q - 1 + 1 by omega, ← List.drop_drop, ← List.drop_drop, hdr], rfl, rfl⟩
          · rename_i e
            rw [if_neg (fun h => e h.symm)] at hct2
            refine ⟨l.length - (k + (q + 1)), by omega, q + 1, by omega, by omega, rfl, m + 1, by omega, by omega, ys.set m l[k + q], by simp [hyl], by rw [List.map_set]; rfl, by rw [show k + (q + 1) = k + q + 1 by omega, hct2]; simp [hcl], ?_, ?_, rfl, rfl⟩
            · rw [show k + (q + 1) = k + q + 1 by omega, hct2, ← htk]
              apply List.ext_getElem?
              intro i
              rw [List.getElem?_take, List.getElem?_append, List.length_take, Nat.min_eq_left (by omega), List.getElem?_take, List.getElem?_set]
              by_cases h1 : i < m
              · rw [if_pos (by omega), if_pos h1, if_pos h1, if_neg (by omega)]
              · rw [if_neg h1]
                by_cases h2 : i = m
                · subst h2; simp [hm2]
                · rw [if_neg (by omega)]
                  rw [List.getElem?_eq_none]; simp; omega
            · apply List.ext_getElem?
              intro i
              rw [List.getElem?_drop, List.getElem?_drop, List.getElem?_set_ne (by omega)]
              exact hget _ (by omega)
        · have hqe : k + q = l.length := by omega
          rw [hqe, List.take_length] at hcl htk
          have hq3 : ¬ q < l.length - k := by omega
          have hmi : (m : Int) ≤ l.length := by omega
          have hml : ¬ l.length = m := by omega
          have hml2 : m ≤ l.length := by omega
          have hz : (ys.map vint).take m ++ (List.replicate (l.length - m) (V.i .i64 0) ++ (ys.map vint).drop (m + (l.length - m))) = (ys.take m ++ List.replicate (l.length - m) 0).map vint := by
            rw [List.drop_eq_nil_of_le (by simp; omega)]
            simp [vint]
          have hz2 : m + (l.length - m) = l.length := by omega
          simp [h0', h4', h3', h5', vint, hol, hyl, hq3, hml, hml2, hz2]
          refine ⟨ys.take m ++ List.replicate (l.length - m) 0, by simp; omega, ?_, ?_, hcl.symm⟩
          · rw [← hz, hz2]
          · rw [hcl, List.take_append_of_le_length (by simp; omega), List.take_take, Nat.min_self]; exact htk
      · rename_i hne
        simp [h0, h3, vint, wrap_succ hlt (by omega)]
        refine ⟨l.length - (k + 1), by omega, k + 1, by omega, by omega, rfl, ?_, by omega⟩
        rw [hct, if_neg (fun e => hne e.symm), hcm, List.take_succ_eq_append_getElem hlt]
    · obtain rfl : k = l.length := by omega
      rw [List.take_length] at hcm
      simp [h0, h3, vint, ho]
      exact ⟨l, rfl, (set_self ho).symm, by rw [hcm, List.take_length], by rw [hcm]⟩

/-- The variables of a constraint. -/
def usesM (c : Con) : List Int := compactM (sortI (if c.kind = 4 then c.vars ++ [c.b] else c.vars))

theorem usesM_tail (l : List Int) (hl : l.length ≤ lim) (x : V) (H G : List Obj) (hacc : Acc H 1 G x (l.map vint)) :
    Fn Tryz.prog 74 [x] G fun r G1 => Fn Tryz.prog 75 [x] G1 fun y G2 => (∃ news, G2 = H ++ news) ∧ Frz H.length G2 y (encInts (compactM (sortI l))) := by
  rcases hacc.row with ⟨h, rfl⟩ | ⟨o, h1, h2, rfl⟩
  · have hl0 : l = [] := by simpa using h
    subst hl0
    refine (slices_Sort_none G .emp rfl).mono fun r G1 hr => ?_
    obtain ⟨rfl, rfl⟩ := hr
    refine (compact_none _).mono fun y G2 hy => ?_
    obtain ⟨rfl, rfl⟩ := hy
    exact ⟨hacc.pre, by simpa [sortI, compactM, encInts] using Frz.emp⟩
  · rw [List.length_map]
    refine (slices_Sort_row l hl o G h2).mono fun r G1 hr => ?_
    obtain ⟨rfl, rfl⟩ := hr
    have hol : o < G.length := (List.getElem?_eq_some_iff.1 h2).1
    have hc := slices_Compact (sortI l) (by rw [sortI_length]; exact hl) o (G.set o (.row 1 ((sortI l).map vint))) (by simp [hol])
    rw [sortI_length] at hc
    refine hc.mono fun y G2 hy => ?_
    obtain ⟨ys, c, e1, rfl, e3, rfl⟩ := hy
    rw [List.set_set]
    obtain ⟨news, hn⟩ := hacc.pre
    refine ⟨⟨news.set (o - H.length) (.row 1 (ys.map vint)), by rw [hn, List.set_append_right _ _ h1]⟩, ?_⟩
    have hle := compactM_le (sortI l)
    rw [sortI_length] at hle
    refine .sl o _ 0 _ c 1 (ys.map vint) _ h1 (by simp [hol]) (by simp [e1]) (by omega) (by simp) fun i e y hi he hy => ?_
    rw [Nat.zero_add, List.getElem?_map] at he
    rw [List.getElem?_map] at hy
    have hyi : (compactM (sortI l))[i]? = ys[i]? := by rw [← e3, List.getElem?_take, if_pos hi]
    rw [hyi, he] at hy
    cases hy
    obtain ⟨z, _, rfl⟩ := Option.map_eq_some_iff.1 he
    exact .closed _ (.i _ _)

theorem clone_ints_row (d : List Int) (hl : d.length ≤ lim) (H : List Obj) : Fn Tryz.prog 73 [encInts d] H fun x G => Acc H 1 G x (d.map vint) := by
  unfold lim at hl
  refine go73 (by simp) ?_
  unfold Tryz.f73
  cases d with
  | nil =>
    simp [encInts]
    exact Acc.nil H 1
  | cons r d =>
    have hl' : d.length + 1 ≤ 1099511627776 := by simpa using hl
    simp [encInts]
    refine ⟨by omega, by omega, (Acc.nil H 1).app (by simp) (fun a ha c hc => ?_) fun x' G' hacc _ _ => ?_⟩
    · obtain ⟨q, _, rfl⟩ := List.mem_map.1 (show a ∈ (r :: d).map vint by simpa using ha)
      simp [vint] at hc
      subst hc; rfl
    · simpa using hacc

theorem model_Uses (c : Con) (hl : c.vars.length < lim) : Pure Tryz.prog 41 [encCon c] (encInts (usesM c)) := by
  refine Pure.of fun H => go41 (by simp) ?_
  unfold Tryz.f41
  simp
  refine (clone_ints_row c.vars (by omega) _).mono fun x G hacc => ?_
  have hbox : G[H.length]? = some (.row 7 [encCon c]) := by obtain ⟨n, e⟩ := hacc.pre; rw [e]; simp
  have hL := hacc.lenV
  rw [List.length_map] at hL
  unfold lim at hl
  simp [hbox, vint]
  unfold usesM
  split
  · rename_i hk
    simp [hbox, vint, hL, hk]
    refine ⟨by omega, by omega, hacc.app (by simp) (by simp [storable]) fun x' G' hacc' _ _ => ?_⟩
    have hacc2 := hacc'.weak
    simp
    have := usesM_tail (c.vars ++ [c.b]) (by simp [lim]; omega) x' H G' (by simpa [vint] using hacc2)
    refine this.mono fun r G1 h1 => ?_
    simp
    refine h1.mono fun y G2 h2 => ?_
    simpa using h2
  · have := usesM_tail c.vars (by simp [lim]; omega) x H G hacc.weak
    refine this.mono fun r G1 h1 => ?_
    simp
    refine h1.mono fun y G2 h2 => ?_
    simpa using h2

end Go.TL
