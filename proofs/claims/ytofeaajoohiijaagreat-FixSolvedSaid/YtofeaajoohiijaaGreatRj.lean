/- Domains of values, values of domains: walks. -/
import Derived.Test.YtofeaajoohiijaaGreatIc
import Derived.Test.YtofeaajoohiijaaGreatRi
namespace Go.TL
open Go Go.Proofs
set_option maxRecDepth 4000

def packStep (out : Dom) (v : Int) : Dom :=
  match out.getLast? with
  | none => [⟨v, v⟩]
  | some r => if r.hi ≥ v then out else if r.hi = w64 (v - 1) then out.dropLast ++ [⟨r.lo, v⟩] else out ++ [⟨v, v⟩]
def packedM (l : List Int) : Dom := l.foldl packStep []
def valueM (v : Int) : Bool := decide (-1048576 ≤ v) && decide (v ≤ 1048576)
def ofM (l : List Int) : Dom × Int :=
  if l.any (fun v => !valueM v) then ([], 20) else if size (packedM (sortI l)) > 4096 then ([], 2) else (packedM (sortI l), 0)

def smallRg (d : Dom) : Prop := ∀ r ∈ d, -4611686018427387904 ≤ r.lo ∧ r.hi ≤ 4611686018427387904

theorem dom_all (d : Dom) (H : List Obj) : Fn Tryz.prog 85 [encDom d] H fun x G => x = .clo 108 [.ptr H.length 1 0 0] ∧ G = H ++ [.row 1 [encDom d]] := by
  refine go85 (by simp) ?_
  unfold Tryz.f85
  simp

theorem slices_Values (d : List Int) (H : List Obj) : Fn Tryz.prog 82 [encInts d] H fun x G => x = .clo 106 [.ptr H.length 1 0 0] ∧ G = H ++ [.row 1 [encInts d]] := by
  refine go82 (by simp) ?_
  unfold Tryz.f82
  simp

theorem valsM_le (d : Dom) : (valsM d).length ≤ 4097 := by unfold valsM; rw [List.length_take]; omega

theorem dom_Values (d : Dom) (hl : d.length ≤ lim) (hb : smallRg d) : Pure Tryz.prog 49 [encDom d] (encInts (valsM d)) := by
  refine Pure.acc (k := 1) closed_int fun H => go49 (by simp) ?_
  unfold Tryz.f49
  simp
  refine (dom_all d H).mono fun x G hx => ?_
  obtain ⟨rfl, rfl⟩ := hx
  simp
  refine (collect_dom d hl hb H.length _ (by simp)).mono fun x G hacc => ?_
  simpa using hacc.weak

/-- Sorted, as a row of its own. -/
theorem sorted_ints (d : List Int) (hl : d.length ≤ lim) (o : Nat) (H : List Obj) (ho : H[o]? = some (.row 1 [encInts d])) :
    Fn Tryz.prog 81 [.clo 106 [.ptr o 1 0 0]] H fun x G => Acc H 1 G x ((sortI d).map vint) := by
  refine go81 (by simp) ?_
  unfold Tryz.f81
  simp
  refine (collect_ints d hl o H ho).mono fun x G hacc => ?_
  simp
  by_cases hd : d = []
  · subst hd
    rcases hacc.row with ⟨_, rfl⟩ | ⟨o', _, _, rfl⟩
    · refine (slices_Sort_none G .emp rfl).mono fun y G' hy => ?_
      obtain ⟨rfl, rfl⟩ := hy
      simp
      simpa [sortI] using hacc
    · refine (slices_Sort_row [] (by simp [lim]) o' G (by assumption)).mono fun y G' hy => ?_
      obtain ⟨rfl, rfl⟩ := hy
      simp
      exact hacc.put rfl (by simp [sortI])
  · obtain ⟨o', h1, h2, rfl⟩ := hacc.sl (by simpa using hd)
    simp only [List.length_map] at *
    refine (slices_Sort_row d hl o' G h2).mono fun y G' hy => ?_
    obtain ⟨rfl, rfl⟩ := hy
    simp
    exact hacc.put rfl (by simp [sortI_length])

theorem indexFunc_ints (d : List Int) (f : FuncId) (caps : List V) (p : Int → Bool) (hl : d.length ≤ lim) (hp : ∀ r ∈ d, Pure Tryz.prog f (vint r :: caps) (.b (p r))) :
    Pure Tryz.prog 83 [encInts d, .clo f caps] (vint (idxM p d)) := by
  unfold lim at hl
  refine Pure.of' (.i _ _) fun H => go83 (by simp) ?_
  unfold Tryz.f83
  simp
  refine AWP.loopC (fun n σ G => ∃ k : Nat, k ≤ d.length ∧ n = d.length - k ∧ G = H ∧ σ 0 = encInts d ∧ σ 1 = .clo f caps ∧ σ 6 = encInts d ∧ σ 7 = vint d.length ∧ σ 8 = vint k ∧ (∀ x ∈ d.take k, p x = false)) d.length ⟨0, by simp [vint, encInts]⟩ ?_
  rintro n σ G ⟨k, hk, rfl, rfl, h0, h1, h6, h7, h8, hv⟩
  by_cases hlt : k < d.length
  · have hg : d[k]? = some d[k] := List.getElem?_eq_getElem hlt
    simp [h0, h1, h6, h7, h8, encInts, vint, hlt, hg]
    refine (hp _ (List.getElem_mem hlt)).use ?_
    simp [h0, h1, h6, h7, h8, encInts, vint, hlt, hg, wrap_succ hlt (by omega)]
    split
    · rename_i h
      have : d.any p = true := List.any_eq_true.2 ⟨_, List.getElem_mem hlt, h⟩
      simp [idxM, this, findIdx_at hlt hv h]
    · rename_i h
      refine ⟨d.length - (k + 1), by omega, k + 1, by omega, rfl, by omega, fun x hx => ?_⟩
      rw [List.take_succ_eq_append_getElem hlt, List.mem_append] at hx
      rcases hx with hx | hx
      · exact hv x hx
      · simp at hx; subst hx; simpa using h
  · obtain rfl : k = d.length := by omega
    rw [List.take_length] at hv
    have : d.any p = false := by
      rw [Bool.eq_false_iff]; intro h
      obtain ⟨x, hx, hx'⟩ := List.any_eq_true.1 h
      rw [hv x hx] at hx'; cases hx'
    simp [h0, h1, h6, h7, h8, vint, idxM, this]

theorem containsFunc_ints (d : List Int) (f : FuncId) (caps : List V) (p : Int → Bool) (hl : d.length ≤ lim) (hp : ∀ r ∈ d, Pure Tryz.prog f (vint r :: caps) (.b (p r))) :
    Pure Tryz.prog 77 [encInts d, .clo f caps] (.b (d.any p)) := by
  refine Pure.of' (.b _) fun H => go77 (by simp) ?_
  unfold Tryz.f77
  simp
  refine (indexFunc_ints d f caps p hl hp).use ?_
  simp [vint, idxM_ge]

theorem dom_value (v : Int) : Pure Tryz.prog 79 [vint v] (.b (valueM v)) := by
  refine Pure.of' (.b _) fun H => go79 (by simp) ?_
  unfold Tryz.f79
  by_cases h : -1048576 ≤ v <;> simp [vint, valueM, h]

theorem dom_Of1 (v : Int) : Pure Tryz.prog 78 [vint v] (.b (!valueM v)) := by
  refine Pure.of' (.b _) fun H => go78 (by simp) ?_
  unfold Tryz.f78
  simp [vint]
  refine (dom_value v).use ?_
  simp

theorem packStep_le (out : Dom) (v : Int) : (packStep out v).length ≤ out.length + 1 := by
  unfold packStep
  split
  · simp
  · split
    · omega
    · split
      · simp
      · simp

theorem packStep_cat (out : Dom) (r : Rg) (v : Int) : packStep (out ++ [r]) v = if r.hi ≥ v then out ++ [r] else if r.hi = w64 (v - 1) then out ++ [⟨r.lo, v⟩] else out ++ [r] ++ [⟨v, v⟩] := by
  unfold packStep; simp

theorem dom_packed (l : List Int) (hl : l.length ≤ lim) (H : List Obj) : Fn Tryz.prog 80 [encInts l] H fun y G => Acc H 2 G y ((packedM l).map encRg) := by
  unfold lim at hl
  refine go80 (by simp) ?_
  unfold Tryz.f80
  simp
  refine AWP.loopC (fun n σ G => ∃ (k : Nat) (out : Dom), k ≤ l.length ∧ n = l.length - k ∧ out = (l.take k).foldl packStep [] ∧ out.length ≤ k ∧ Acc H 2 G (σ 3) (out.map encRg) ∧ σ 7 = encInts l ∧ σ 8 = vint l.length ∧ σ 9 = vint k) l.length
    ⟨0, [], by omega, by simp, by simp, by simp, by simpa using Acc.nil H 2, by simp [vint, encInts]⟩ ?_
  rintro n σ G ⟨k, out, hk, rfl, ho, hol, hacc, h7, h8, h9⟩
  by_cases hlt : k < l.length
  · obtain ⟨v, hv⟩ : ∃ v, l[k] = v := ⟨_, rfl⟩
    have hg : l[k]? = some v := by rw [← hv]; exact List.getElem?_eq_getElem hlt
    have hst : (l.take (k + 1)).foldl packStep [] = packStep out v := by rw [List.take_succ_eq_append_getElem hlt, List.foldl_append, ← ho, hv]; rfl
    have hle := packStep_le out v
    have hL := hacc.lenV
    rw [List.length_map] at hL
    have happ : ∀ {K : V → List Obj → Prop}, (∀ x' G', Acc H 2 G' x' ((out ++ [(⟨v, v⟩ : Rg)]).map encRg) → K x' G') → appendV 2 (σ 3) [.agg [.i .i64 v, .i .i64 v]] G K := fun h => hacc.app (by simp) (by simp [storable]) fun x' G' ha _ _ => h x' G' (by simpa [encRg, vint] using ha)
    have hln := hacc.lenC_eq Tryz.prog 44
    rcases List.eq_nil_or_concat out with hn | ⟨init, r, hn⟩
    · subst hn
      simp [h7, h8, h9, encInts, vint, hlt, hv, hln, hL]
      refine happ fun x' G' ha => ?_
      simp [h7, h8, h9, vint, wrap_succ hlt (by omega)]
      exact ⟨l.length - (k + 1), by omega, k + 1, by omega, rfl, by rw [hst]; simp [packStep], by rw [hst]; simpa [packStep, encRg, vint] using ha, by simp [encInts]⟩
    · rw [List.concat_eq_append] at hn
      obtain ⟨o, ho1, ho2, hx⟩ := hacc.sl (by rw [hn]; simp)
      have hog : o < G.length := (List.getElem?_eq_some_iff.1 ho2).1
      rw [hn] at ho2 hL hst hol hle
      rw [hn] at hx
      simp only [List.length_map, List.length_append, List.length_cons, List.length_nil, Nat.zero_add] at hL hol hx
      rw [packStep_cat] at hst hle
      have hw1 : IntKind.i64.wrap (init.length : Int) = init.length := wrap_ok (by omega) (by omega)
      have hget : (List.map encRg init ++ [V.agg [V.i .i64 r.lo, V.i .i64 r.hi]])[init.length]? = some (V.agg [V.i .i64 r.lo, V.i .i64 r.hi]) := by simp
      have hset : ∀ y, (List.map encRg init ++ [V.agg [V.i .i64 r.lo, V.i .i64 r.hi]]).set init.length y = List.map encRg init ++ [y] := fun y => by rw [List.set_append_right _ _ (by simp)]; simp
      have hpos : (0 : Int) < (init.length : Int) + 1 := by omega
      have hi1 : (0 : Int) ≤ init.length := by omega
      have hi2 : (init.length : Int) < init.length + 1 := by omega
      simp only [hx] at happ hln hL
      rw [hn] at happ
      by_cases c1 : r.hi ≥ v
      · rw [if_pos c1] at hst hle
        have c1' : v ≤ r.hi := c1
        simp [h7, h8, h9, hx, encInts, vint, encRg, hlt, hv, hpos, hw1, hget, hset, ho2, hi2, c1', wrap_succ hlt (by omega)]
        refine ⟨l.length - (k + 1), by omega, k + 1, by omega, rfl, ?_, ?_, by simp [encInts]⟩
        · rw [hst]; simp; omega
        · rw [hst, ← hn]; rw [hx] at hacc; simpa [hn] using hacc
      · rw [if_neg c1] at hst hle
        have c1' : ¬ v ≤ r.hi := c1
        by_cases c2 : r.hi = w64 (v - 1)
        · rw [if_pos c2] at hst hle
          have hnw : r.hi = IntKind.i64.wrap (v - 1) := c2
          simp [h7, h8, h9, hx, encInts, vint, encRg, hlt, hv, hpos, hw1, hget, hset, ho2, hi2, c1', eq_true hnw, splice, mkEl, wrap_succ hlt (by omega)]
          refine ⟨l.length - (k + 1), by omega, k + 1, by omega, rfl, ?_, ?_, by simp [encInts]⟩
          · rw [hst]; simp; omega
          · rw [hst]
            rw [hx] at hacc
            simpa [encRg, vint] using hacc.put (ys := (init ++ [(⟨r.lo, v⟩ : Rg)]).map encRg) rfl (by simp [hn])
        · rw [if_neg c2] at hst hle
          have c2' : ¬ r.hi = IntKind.i64.wrap (v - 1) := c2
          simp [h7, h8, h9, hx, encInts, vint, encRg, hlt, hv, hpos, hw1, hget, hset, ho2, hi2, c1', c2', hL]
          refine ⟨by omega, by omega, happ fun x' G' ha => ?_⟩
          simp [h7, h8, h9, vint, wrap_succ hlt (by omega)]
          exact ⟨l.length - (k + 1), by omega, k + 1, by omega, rfl, by rw [hst]; simp; omega, by rw [hst]; simpa using ha, by simp [encInts]⟩
  · obtain rfl : k = l.length := by omega
    rw [List.take_length] at ho
    simp [h7, h8, h9, vint]
    rw [ho] at hacc
    exact hacc

theorem packedM_le (l : List Int) : (packedM l).length ≤ l.length := by
  have := foldl_le packStep List.length 1 (fun o v => packStep_le o v) l []
  simpa [packedM] using this

theorem dom_Of (l : List Int) (hl : l.length ≤ lim) : Pure Tryz.prog 46 [encInts l] (.tup [encDom (ofM l).1, vint (ofM l).2]) := by
  refine Pure.of fun H => go46 (by simp) ?_
  unfold Tryz.f46
  simp
  have hcf := containsFunc_ints l 78 [] (fun v => !valueM v) hl (fun v _ => dom_Of1 v)
  have hof : ofM l = if l.any (fun v => !valueM v) then ([], 20) else if size (packedM (sortI l)) > 4096 then ([], 2) else (packedM (sortI l), 0) := rfl
  generalize l.any (fun v => !valueM v) = q at hcf hof
  refine hcf.use ?_
  cases q
  · simp
    refine (slices_Values l H).mono fun x G hx => ?_
    obtain ⟨rfl, rfl⟩ := hx
    simp
    refine (sorted_ints l hl H.length _ (by simp)).mono fun x G hacc => ?_
    simp
    refine (Fn.borrowAcc (dom_packed (sortI l) (by rw [sortI_length]; exact hl) []) flat_dom (.cons (hacc.frz0 closed_int) (.nil _))).mono fun y G' hacc' => ?_
    simp
    have hpl : (packedM (sortI l)).length ≤ lim := Nat.le_trans (packedM_le _) (by rw [sortI_length]; exact hl)
    refine (dom_Size (packedM (sortI l)) hpl).borrowK (.inl rfl) (.cons (hacc'.frz0 closed_dom) (.nil _)) ?_
    simp [vint]
    obtain ⟨n1, e1⟩ := hacc.pre
    obtain ⟨n2, e2⟩ := hacc'.pre
    have hacc2 : Acc H 2 G' y ((packedM (sortI l)).map encRg) := by
      have : G = H ++ (Go.TL.Obj.row 1 [encInts l] :: n1) := by rw [e1]; simp
      rw [this] at hacc'
      exact hacc'.weak
    split
    · rename_i h
      have : ofM l = ([], 2) := by rw [hof]; simp [h]
      simp [this]
      exact ⟨hacc2.pre, .tup2 .emp (.closed _ (.i _ _))⟩
    · rename_i h
      have : ofM l = (packedM (sortI l), 0) := by rw [hof]; simp [h]
      simp [this]
      exact ⟨hacc2.pre, .tup2 (hacc2.frz closed_dom) (.closed _ (.i _ _))⟩
  · have : ofM l = ([], 20) := by rw [hof]; simp
    simp [this]
    exact .tup2 .emp (.closed _ (.i _ _))

end Go.TL
