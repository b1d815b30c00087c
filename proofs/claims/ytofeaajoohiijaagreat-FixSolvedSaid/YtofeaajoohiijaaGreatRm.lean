/- All others: what is left: walks. -/
import Derived.Test.YtofeaajoohiijaaGreatRl
namespace Go.TL
open Go Go.Proofs
set_option maxRecDepth 4000

def listsM (d : List Dom) (vs : List Int) : List (List Int) := vs.map fun v => valsM (at' d v)

def smallDoms (d : List Dom) : Prop := ∀ y ∈ d, y.length ≤ 1048576 ∧ smallRg y

theorem unlike_lists (d : List Dom) (vs : List Int) (hl : vs.length ≤ lim) (hv : ∀ v ∈ vs, 0 ≤ v ∧ v < d.length) (hd : smallDoms d) : Pure Tryz.prog 43 [encDoms d, encInts vs] (encRows (listsM d vs)) := by
  unfold lim at hl
  refine Pure.acc (k := 1) closed_rowsI fun H => go43 (by simp) ?_
  unfold Tryz.f43
  simp
  refine AWP.loopC (fun n σ G => ∃ k : Nat, k ≤ vs.length ∧ n = vs.length - k ∧ Acc H 1 G (σ 5) ((listsM d (vs.take k)).map encInts) ∧ σ 0 = encDoms d ∧ σ 8 = encInts vs ∧ σ 9 = vint vs.length ∧ σ 10 = vint k) vs.length
    ⟨0, by omega, by simp, by simpa [listsM] using Acc.nil H 1, by simp [vint, encInts]⟩ ?_
  rintro n σ G ⟨k, hk, rfl, hacc, h0, h8, h9, h10⟩
  by_cases hlt : k < vs.length
  · have hg : vs[k]? = some vs[k] := List.getElem?_eq_getElem hlt
    have hvk := hv _ (List.getElem_mem hlt)
    have ha := at_get hvk.1 hvk.2
    have hyd := hd _ (List.mem_of_getElem? ha)
    have hL : lenV (σ 5) = k := by rw [hacc.lenV]; simp [listsM]; omega
    simp [h0, h8, h9, h10, encInts, encDoms, vint, hlt, hvk, at_getE]
    refine (dom_Values (at' d vs[k]) (Nat.le_trans hyd.1 (by simp [lim])) hyd.2).use ?_
    simp [hL]
    refine ⟨by omega, by omega, hacc.app (by simp) (by simp) fun x' G' hacc' _ _ => ?_⟩
    simp [h0, h8, h9, h10, vint, wrap_succ hlt (by omega)]
    refine ⟨vs.length - (k + 1), by omega, k + 1, by omega, rfl, ?_, by simp [encDoms, encInts]⟩
    rw [show (listsM d (vs.take (k + 1))).map encInts = (listsM d (vs.take k)).map encInts ++ [encInts (valsM (at' d vs[k]))] from by
      unfold listsM; rw [map_take_succ _ hlt, List.map_append]; rfl]
    exact hacc'
  · obtain rfl : k = vs.length := by omega
    rw [List.take_length] at hacc
    simp [h0, h8, h9, h10, vint]
    exact hacc

theorem clone_rows_row (d : List (List Int)) (hl : d.length ≤ lim) (H : List Obj) : Fn Tryz.prog 45 [encRows d] H fun x G => Acc H 1 G x (d.map encInts) := by
  unfold lim at hl
  refine go45 (by simp) ?_
  unfold Tryz.f45
  cases d with
  | nil =>
    simp [encRows]
    exact Acc.nil H 1
  | cons r d =>
    have hl' : d.length + 1 ≤ 1099511627776 := by simpa using hl
    simp [encRows]
    refine ⟨by omega, by omega, (Acc.nil H 1).app (by simp) (fun a ha c hc => ?_) fun x' G' hacc _ _ => ?_⟩
    · obtain ⟨q, _, rfl⟩ := List.mem_map.1 (show a ∈ (r :: d).map encInts by simpa using ha)
      simp [encInts] at hc
      subst hc; rfl
    · simpa using hacc

def leftF (l : List (List Int)) (n i : Nat) : List Int → List Int → Option (List Int)
  | [], acc => some acc
  | x :: xs, acc => match matchM (l.set i [x]) n with
    | none => none
    | some r => leftF l n i xs (if r.isSome then acc ++ [x] else acc)

def allF (l : List (List Int)) (n : Nat) : Nat → List Int → List Dom → Option (List Dom)
  | _, [], out => some out
  | i, v :: vs, out => match leftF l n i (l.getD i []) [] with
    | none => none
    | some left => allF l n (i + 1) vs (out.set v.toNat (ofM left).1)

def allM (n : Nat) (d : List Dom) (c : Con) : Option (Option (List Dom)) :=
  if [] ∈ d then some none
  else match matchM (listsM d c.vars) n with
    | none => none
    | some none => some none
    | some (some _) => (allF (listsM d c.vars) n 0 c.vars d).map some

theorem leftF_le (l : List (List Int)) (n i : Nat) : ∀ (xs acc ys : List Int), leftF l n i xs acc = some ys → ys.length ≤ xs.length + acc.length
  | [], acc, ys, h => by simp [leftF] at h; subst h; simp
  | x :: xs, acc, ys, h => by
    unfold leftF at h
    split at h
    · cases h
    · have := leftF_le l n i xs _ ys h
      split at this
      · simp at this ⊢; omega
      · simp at this ⊢; omega

theorem unlike_Prune (d : List Dom) (c : Con) (n : Nat) (r : Option (List Dom)) (hr : allM n d c = some r) (hl : c.vars.length ≤ lim) (hv : ∀ v ∈ c.vars, 0 ≤ v ∧ v < d.length) (hdl : d.length ≤ lim) (hd : smallDoms d) (hne : c.vars ≠ []) :
    Pure Tryz.prog 25 [encDoms d, encCon c] (encTold r) := by
  unfold lim at hl hdl
  have hdn : d ≠ [] := by
    rintro rfl
    obtain ⟨v, l, e⟩ := List.exists_cons_of_ne_nil hne
    have := hv v (by rw [e]; simp)
    simp at this; omega
  refine Pure.of fun H => go25 (by simp) ?_
  unfold Tryz.f25
  simp
  refine AWP.loopC (fun m σ G => ∃ k : Nat, k ≤ d.length ∧ m = d.length - k ∧ Acc (H ++ [Go.TL.Obj.row 7 [encCon c]]) 1 G (σ 6) ((d.take k).map encDom) ∧ ¬ [] ∈ d.take k ∧ σ 0 = encDoms d ∧ σ 3 = .ptr H.length 1 0 0 ∧ σ 20 = encDoms d ∧ σ 21 = vint d.length ∧ σ 22 = vint k) d.length
    ⟨0, by omega, by simp, by simpa using Acc.nil _ 1, by simp, by simp [vint, encDoms]⟩ ?_
  rintro m σ G ⟨k, hk, rfl, hacc, hnn, h0, h3, h20, h21, h22⟩
  by_cases hlt : k < d.length
  · have hg : d[k]? = some d[k] := List.getElem?_eq_getElem hlt
    have hL : lenV (σ 6) = k := by rw [hacc.lenV]; simp; omega
    have hw := hacc.weak
    simp [h0, h3, h20, h21, h22, encDoms, encDom, vint, hlt]
    split
    · rename_i h
      have hm : [] ∈ d := h ▸ List.getElem_mem hlt
      unfold allM at hr
      rw [if_pos hm] at hr
      cases hr
      simp [encTold]
      exact ⟨hw.pre, .tup2 .emp (.closed _ (.b _))⟩
    · rename_i h
      refine (clone_dom d[k] (Nat.le_trans (hd _ (List.getElem_mem hlt)).1 (by simp [lim]))).use ?_
      simp [hL]
      refine ⟨by omega, by omega, hacc.app (by simp) (by simp) fun x' G' hacc' _ _ => ?_⟩
      simp [h0, h3, h20, h21, h22, vint, wrap_succ hlt (by omega)]
      refine ⟨d.length - (k + 1), by omega, k + 1, by omega, rfl, ?_, ?_, by simp [encDoms]⟩
      · rw [take_map_succ _ hlt]
        exact hacc'
      · rw [List.take_succ_eq_append_getElem hlt, List.mem_append]
        rintro (h' | h')
        · exact hnn h'
        · simp at h'; exact h (by first | exact h' | exact h'.symm)
  · obtain rfl : k = d.length := by omega
    rw [List.take_length] at hnn hacc
    unfold allM at hr
    rw [if_neg hnn] at hr
    have hbox : G[H.length]? = some (.row 7 [encCon c]) := by obtain ⟨n, e⟩ := hacc.pre; rw [e]; simp
    have hacc := hacc.weak
    simp [h0, h3, h20, h21, h22, vint, hbox]
    refine (unlike_lists d c.vars hl hv hd).use ?_
    simp
    have hll : (listsM d c.vars).length = c.vars.length := by simp [listsM]
    have hlr : ∀ r ∈ listsM d c.vars, r.length ≤ lim := by
      intro r hr; obtain ⟨v, _, rfl⟩ := List.mem_map.1 hr; exact Nat.le_trans (valsM_le _) (by simp [lim])
    generalize listsM d c.vars = l at *
    rcases hmm : matchM l n with _ | q
    · rw [hmm] at hr; cases hr
    · rw [hmm] at hr
      refine (unlike_matched l (by simp [lim]; omega) hlr n q hmm G).mono fun x G1 hx => ?_
      obtain ⟨y, rfl, news, rfl⟩ := hx
      have hacc1 := hacc.mores news
      have hbox1 : (G ++ news)[H.length]? = some (.row 7 [encCon c]) := by rw [List.getElem?_append_left (List.getElem?_eq_some_iff.1 hbox).1]; exact hbox
      generalize G ++ news = G at hacc1 hbox1
      cases q with
      | none =>
        cases hr
        simp [encTold]
        exact ⟨hacc1.pre, .tup2 .emp (.closed _ (.b _))⟩
      | some q =>
        simp only [Option.map_eq_some_iff] at hr
        obtain ⟨ds, hr, rfl⟩ := hr
        simp [h3, hbox1]
        refine AWP.loopC (fun m σ G => ∃ (k : Nat) (out : List Dom), k ≤ c.vars.length ∧ m = c.vars.length - k ∧ out.length = d.length ∧ allF l n k (c.vars.drop k) out = some ds ∧ Acc H 1 G (σ 6) (out.map encDom) ∧ G[H.length]? = some (.row 7 [encCon c]) ∧
          σ 3 = .ptr H.length 1 0 0 ∧ σ 9 = encRows l ∧ σ 47 = encInts c.vars ∧ σ 48 = vint c.vars.length ∧ σ 49 = vint k) c.vars.length
          ⟨0, d, by omega, by simp, rfl, by simpa using hr, by simpa using hacc1, hbox1, by simp [vint, h3]⟩ ?_
        rintro m σ G0 ⟨k, out, hk, rfl, hol, hr', hacc0, hbox0, g3, g9, g47, g48, g49⟩
        by_cases hlt : k < c.vars.length
        · have hvk := hv _ (List.getElem_mem hlt)
          have hkl : k < l.length := by omega
          obtain ⟨v, hvv⟩ : ∃ v, c.vars[k] = v := ⟨_, rfl⟩
          obtain ⟨ws, hws⟩ : ∃ ws, l[k] = ws := ⟨_, rfl⟩
          have hwd : l.getD k [] = ws := by rw [List.getD_eq_getElem?_getD, List.getElem?_eq_getElem hkl, hws]; rfl
          have hwl : ws.length ≤ lim := by rw [← hws]; exact hlr _ (List.getElem_mem hkl)
          unfold lim at hwl
          rw [hvv] at hvk
          rw [List.drop_eq_getElem_cons hlt, hvv, allF, hwd] at hr'
          rcases hlf : leftF l n k ws [] with _ | left
          · rw [hlf] at hr'; cases hr'
          · rw [hlf] at hr'
            simp only at hr'
            obtain ⟨o6, ho61, ho62, hx6⟩ := hacc0.sl (by intro h; have h9 := congrArg List.length h; rw [List.length_map, hol] at h9; exact hdn (List.eq_nil_of_length_eq_zero h9))
            have ho6l : o6 < G0.length := (List.getElem?_eq_some_iff.1 ho62).1
            have hboxl : H.length < G0.length := (List.getElem?_eq_some_iff.1 hbox0).1
            simp [g3, g9, g47, g48, g49, encInts, encRows, vint, hlt, hvv, hkl, hws]
            refine AWP.loopC (fun m' σ' G' => ∃ (j : Nat) (acc : List Int), j ≤ ws.length ∧ m' = ws.length - j ∧ leftF l n k (ws.drop j) acc = some left ∧ acc.length ≤ j ∧ Acc G0 1 G' (σ' 14) (acc.map vint) ∧
              σ' 3 = .ptr H.length 1 0 0 ∧ σ' 6 = σ 6 ∧ σ' 9 = encRows l ∧ σ' 12 = vint k ∧ σ' 13 = vint v ∧ σ' 47 = encInts c.vars ∧ σ' 48 = vint c.vars.length ∧ σ' 49 = vint k ∧ σ' 57 = encInts ws ∧ σ' 58 = vint ws.length ∧ σ' 59 = vint j) ws.length
              ⟨0, [], by omega, by simp, by simpa using hlf, by simp, by simpa using Acc.nil G0 1, by simp [vint, encRows, encInts, g3, g9, g47, g48, g49]⟩ ?_
            rintro m' σ' G' ⟨j, acc, hj, rfl, hlf', hal, hacc', g3', g6', g9', g12', g13', g47', g48', g49', g57', g58', g59'⟩
            by_cases hjt : j < ws.length
            · obtain ⟨w, hw⟩ : ∃ w, ws[j] = w := ⟨_, rfl⟩
              rw [List.drop_eq_getElem_cons hjt, hw, leftF] at hlf'
              rcases hm2 : matchM (l.set k [w]) n with _ | q2
              · rw [hm2] at hlf'; cases hlf'
              · rw [hm2] at hlf'
                simp only at hlf'
                simp [g3', g6', g9', g12', g13', g47', g48', g49', g57', g58', g59', encInts, vint, hjt, hw]
                refine (clone_rows_row l (by simp [lim]; omega) G').mono fun x G2 hx => ?_
                obtain ⟨o7, h71, h72, rfl⟩ := hx.sl (by intro h; have h9 := congrArg List.length h; rw [List.length_map] at h9; rw [List.length_nil] at h9; omega)
                have h7l : o7 < G2.length := (List.getElem?_eq_some_iff.1 h72).1
                have hkk : (k : Int) < l.length := by omega
                simp [g3', g6', g9', g12', g13', g47', g48', g49', g57', g58', g59', vint, h72, hkl, encInts, splice, mkEl, List.range'_succ]
                have hput := hx.put (o := o7) (n := l.length) (ys := (l.set k [w]).map encInts) (by simp) (by simp)
                have hset : (l.map encInts).set k (.lst [.i .i64 w]) = (l.set k [w]).map encInts := by rw [List.map_set]; rfl
                simp only [hset]
                have hfr : Frz 0 (G2.set o7 (.row 1 ((l.set k [w]).map encInts))) (.sl o7 l.length 0 l.length none) (encRows (l.set k [w])) := by
                  have := hput.frz0 closed_rowsI
                  unfold encRows
                  simpa using this
                have hlr2 : ∀ r ∈ l.set k [w], r.length ≤ lim := by
                  intro r hr
                  rcases List.mem_or_eq_of_mem_set hr with hr | rfl
                  · exact hlr r hr
                  · simp [lim]
                refine (Fn.borrowB ((unlike_matched (l.set k [w]) (by simp [lim]; omega) hlr2 n q2 hm2 []).mono fun x _ hx => by obtain ⟨y, rfl, _⟩ := hx; exact ⟨y, rfl⟩) (.cons hfr (.nil _))).mono fun x G3 hx => ?_
                obtain ⟨rfl, rfl⟩ := hx
                obtain ⟨news, hn⟩ := hput.pre
                rw [hn]
                have hacc2 := hacc'.mores news
                generalize G' ++ news = G4 at hacc2
                have hL := hacc2.lenV
                rw [List.length_map] at hL
                cases q2 with
                | none =>
                  simp [g3', g6', g9', g12', g13', g47', g48', g49', g57', g58', g59', vint, wrap_succ hjt (by omega)]
                  exact ⟨ws.length - (j + 1), by omega, j + 1, by omega, rfl, acc, by simpa using hlf', by omega, hacc2, by simp [encInts]⟩
                | some q2 =>
                  simp [g3', g6', g9', g12', g13', g47', g48', g49', g57', g58', g59', vint, hL, List.range'_succ]
                  refine ⟨by omega, by omega, hacc2.app (by simp) (by simp [storable]) fun x' G5 hacc3 _ _ => ?_⟩
                  simp [g3', g6', g9', g12', g13', g47', g48', g49', g57', g58', g59', vint, wrap_succ hjt (by omega)]
                  exact ⟨ws.length - (j + 1), by omega, j + 1, by omega, rfl, acc ++ [w], by simpa using hlf', by simp; omega, by simpa [vint] using hacc3, by simp [encInts]⟩
            · obtain rfl : j = ws.length := by omega
              rw [List.drop_eq_nil_of_le (Nat.le_refl _)] at hlf'
              simp [leftF] at hlf'
              subst hlf'
              simp [g3', g6', g9', g12', g13', g47', g48', g49', g57', g58', g59', vint]
              refine (hacc'.consume (dom_Of acc (by simp [lim]; omega))).mono fun x G6 hx => ?_
              obtain ⟨rfl, news, rfl⟩ := hx
              have hacc1 := hacc0.mores news
              have hrow6 : (G0 ++ news)[o6]? = some (.row 1 (out.map encDom)) := by rw [List.getElem?_append_left ho6l]; exact ho62
              have hbox6 : (G0 ++ news)[H.length]? = some (.row 7 [encCon c]) := by rw [List.getElem?_append_left hboxl]; exact hbox0
              generalize G0 ++ news = G7 at hacc1 hrow6 hbox6
              rw [hx6] at hacc1
              have h7l : o6 < G7.length := (List.getElem?_eq_some_iff.1 hrow6).1
              have hvo : v < out.length := by omega
              have hvo2 : v.toNat < out.length := by omega
              simp only [List.length_map] at hx6 hacc1
              simp [g3', g6', g9', g12', g13', g47', g48', g49', hx6, vint, hrow6, hvk, hvo, hvo2, at_getE, encDom, splice, mkEl, wrap_succ hlt (by omega)]
              have hput := hacc1.put (ys := (out.set v.toNat (ofM acc).1).map encDom) rfl (by simp)
              refine ⟨c.vars.length - (k + 1), by omega, k + 1, by omega, rfl, out.set v.toNat (ofM acc).1, by simp [hol], hr', ?_, ?_, by simp [encInts, encRows]⟩
              · rw [List.map_set] at hput ⊢; exact hput
              · rw [List.getElem?_set_ne]; exact hbox6
                rintro rfl; rw [hbox6] at hrow6; simp at hrow6
        · obtain rfl : k = c.vars.length := by omega
          rw [List.drop_eq_nil_of_le (Nat.le_refl _)] at hr'
          simp [allF] at hr'
          subst hr'
          simp [g3, g9, g47, g48, g49, vint, encTold]
          exact ⟨hacc0.pre, .tup2 (hacc0.frz closed_doms) (.closed _ (.b _))⟩

end Go.TL
