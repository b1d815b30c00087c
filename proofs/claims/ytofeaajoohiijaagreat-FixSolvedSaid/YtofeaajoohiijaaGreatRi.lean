/- A sum that is not a number; a sum's rounds: walks. -/
import Derived.Test.YtofeaajoohiijaaGreatRh
namespace Go.TL
open Go Go.Proofs
set_option maxRecDepth 4000

theorem otherF_drop (d : List Dom) (vs ks : List Int) (i : Nat) (n op s : Int) (h : i < vs.length) (h' : i < ks.length) : otherF d (vs.drop i) (ks.drop i) n op s =
    if size (at' d vs[i]) > 1 then (if op ≥ 0 then none else otherF d (vs.drop (i + 1)) (ks.drop (i + 1)) (n + 1) n s)
    else otherF d (vs.drop (i + 1)) (ks.drop (i + 1)) (n + 1) op (w64 (s + (endM (at' d vs[i]) ks[i] false).1)) := by
  rw [List.drop_eq_getElem_cons h, List.drop_eq_getElem_cons h', otherF]

theorem set_atE {d : List Dom} {v : Int} (h0 : 0 ≤ v) (h1 : v < d.length) : d.set v.toNat (at' d v) = d := by
  apply List.ext_getElem?; intro i; rw [List.getElem?_set]; split
  · rename_i e; subst e; rw [at_get h0 h1]; simp; omega
  · rfl

theorem linear_other (d : List Dom) (c : Con) (o : Nat) (H : List Obj) (ho : H[o]? = some (.row 1 (d.map encDom)))
    (hl : c.vars.length ≤ lim) (hk : c.vars.length ≤ c.coefs.length) (hv : ∀ v ∈ c.vars, 0 ≤ v ∧ v < d.length) (hd : ∀ y ∈ d, y.length ≤ 1048576) (hk0 : ∀ k ∈ c.coefs, k ≠ 0) :
    Fn Tryz.prog 63 [.sl o d.length 0 d.length none, encCon c] H fun r H' => r = .b (otherM d c).1 ∧ ∃ news, H' = H.set o (.row 1 ((otherM d c).2.map encDom)) ++ news := by
  unfold lim at hl
  have hol : o < H.length := (List.getElem?_eq_some_iff.1 ho).1
  refine go63 (by simp) ?_
  unfold Tryz.f63
  simp
  refine AWP.loopC (fun n σ G => ∃ (k : Nat) (op s : Int), k ≤ c.vars.length ∧ n = c.vars.length - k ∧ G = H ++ [Go.TL.Obj.row 7 [encCon c]] ∧ (-1 ≤ op ∧ op < k) ∧
    otherF d (c.vars.drop k) (c.coefs.drop k) k op s = otherF d c.vars c.coefs 0 (-1) 0 ∧ σ 0 = .sl o d.length 0 d.length none ∧ σ 3 = .ptr H.length 1 0 0 ∧ σ 5 = vint op ∧ σ 6 = vint s ∧ σ 15 = encInts c.vars ∧ σ 16 = vint c.vars.length ∧ σ 17 = vint k) c.vars.length
    ⟨0, -1, 0, by omega, by simp, rfl, by omega, by simp, by simp [vint]⟩ ?_
  rintro n σ G ⟨k, op, s, hk', rfl, rfl, hop, he, h0, h3, h5, h6, h15, h16, h17⟩
  have hG : (H ++ [Go.TL.Obj.row 7 [encCon c]])[o]? = some (.row 1 (d.map encDom)) := by rw [List.getElem?_append_left hol]; exact ho
  have hG2 : ∀ R, (H.set o R ++ [Go.TL.Obj.row 7 [encCon c]])[o]? = some R := by
    intro R; rw [List.getElem?_append_left (by simp; exact hol)]; simp [hol]
  by_cases hlt : k < c.vars.length
  · have hg : c.vars[k]? = some c.vars[k] := List.getElem?_eq_getElem hlt
    have hlk : k < c.coefs.length := by omega
    have hgk : c.coefs[k]? = some c.coefs[k] := List.getElem?_eq_getElem hlk
    have hvk := hv _ (List.getElem_mem hlt)
    have ha := at_get hvk.1 hvk.2
    rw [otherF_drop d c.vars c.coefs k k op s hlt hlk] at he
    have hyl : (at' d c.vars[k]).length ≤ lim := Nat.le_trans (hd _ (List.mem_of_getElem? ha)) (by simp [lim])
    have e1 := linear_end (at' d c.vars[k]) c.coefs[k] false hyl
    have e2 := dom_Size (at' d c.vars[k]) hyl
    obtain ⟨y, hy⟩ : ∃ y, at' d c.vars[k] = y := ⟨_, rfl⟩
    rw [hy] at he e1 e2
    simp [h0, h3, h5, h6, h15, h16, h17, hG, encInts, vint, hlt, hvk, at_getE, hy]
    refine e2.use ?_
    by_cases hs : size y > 1
    · rw [if_pos hs] at he
      by_cases hp : op ≥ 0
      · rw [if_pos hp] at he
        simp [h0, h3, h5, h6, h15, h16, h17, vint, hs, hp]
        have : otherM d c = (true, d) := by unfold otherM; rw [← he]
        simp [this, set_self ho]
      · rw [if_neg hp] at he
        simp [h0, h3, h5, h6, h15, h16, h17, vint, hs, hp, wrap_succ hlt (by omega)]
        refine ⟨c.vars.length - (k + 1), by omega, k + 1, by omega, rfl, k, by omega, ?_⟩
        simp [← he, encInts]
    · rw [if_neg hs] at he
      simp [h0, h3, h5, h6, h15, h16, h17, vint, hs]
      refine AWP.drawL [] [] follows (by kernel_rfl) (by kernel_rfl) ?_
      simp [h0, h3, h5, h6, h15, h16, h17, hG, encInts, vint, hlt, hvk, at_getE, hy, hlk]
      refine callE_use e1 ?_
      simp [h0, h3, h5, h6, h15, h16, h17, vint, wrap_succ hlt (by omega)]
      refine ⟨c.vars.length - (k + 1), by omega, k + 1, by omega, rfl, op, by omega, w64 (s + (endM y c.coefs[k] false).1), by rw [show ((k + 1 : Nat) : Int) = (k : Int) + 1 from by omega]; exact he, ?_⟩
      simp [encInts, w64]
  · obtain rfl : k = c.vars.length := by omega
    have hf : otherF d c.vars c.coefs 0 (-1) 0 = some (op, s) := by rw [← he]; simp [otherF]
    simp [h0, h3, h5, h6, h15, h16, h17, encInts, vint]
    by_cases hp : op < 0
    · have : otherM d c = (decide (s ≠ c.rhs), d) := by unfold otherM; rw [hf]; simp [hp]
      simp [hp, this, set_self ho, h6, h3, vint]
      by_cases hss : s = c.rhs <;> simp [hss]
    · have hp1 : op.toNat < c.vars.length := by omega
      have hp2 : op.toNat < c.coefs.length := by omega
      have hk1 := hk0 _ (List.getElem_mem hp2)
      have hvk := hv _ (List.getElem_mem hp1)
      have ha := at_get hvk.1 hvk.2
      obtain ⟨v, hvv⟩ : ∃ v, c.vars[op.toNat] = v := ⟨_, rfl⟩
      obtain ⟨q, hq⟩ : ∃ q, c.coefs[op.toNat] = q := ⟨_, rfl⟩
      rw [hvv] at hvk ha
      rw [hq] at hk1
      obtain ⟨y, hy⟩ : ∃ y, at' d v = y := ⟨_, rfl⟩
      rw [hy] at ha
      have hyl := hd _ (List.mem_of_getElem? ha)
      simp [hp]
      refine AWP.drawL [] [] follows (by kernel_rfl) (by kernel_rfl) ?_
      have hop0 : 0 ≤ op := by omega
      have hopl : op < c.vars.length := by omega
      have hopl2 : op < c.coefs.length := by omega
      simp [h0, h3, h5, h6, h15, h16, h17, hG, encInts, vint, hop0, hopl, hopl2, hvv, hq, hk1, w64_def]
      split
      · rename_i hr
        generalize hx : w64 ((w64 (c.rhs - s)).tdiv q) = x
        have hm := dom_Minus y [⟨x, x⟩] (by simp [lim]; omega) (by simp [lim]; omega) (by simp [lim])
        simp [h0, hG, hvk, at_getE, hy]
        simp [encDom, encRg, vint] at hm
        refine hm.use ?_
        have hoM : otherM d c = (decide (minus y [⟨x, x⟩] ≠ []), d.set v.toNat (minus y [⟨x, x⟩])) := by
          unfold otherM; rw [hf]; simp [hp, hp1, hp2, hvv, hq, hr, hy, hx]
        have hvd : v.toNat < d.length := by omega
        simp [h0, hG, hG2, hvk, at_getE, hy, encDom, splice, mkEl, hol, hoM, hvd]
        cases minus y [⟨x, x⟩] <;> simp
      · rename_i hr
        have hoM : otherM d c = (decide (y ≠ []), d) := by
          unfold otherM; rw [hf]; simp [hp, hp1, hp2, hvv, hq, hr, hy]
          rw [← hy]; exact set_atE hvk.1 hvk.2
        simp [h0, hG, hvk, at_getE, hy, hoM, set_self ho]
        cases y <;> simp

theorem mostF_len (low rhs : Int) (B : Nat) : ∀ (vs ks : List Int) (d : List Dom) (ch : Bool), (∀ y ∈ d, y.length ≤ B) → (mostF low rhs vs ks d ch).2.2.length = d.length ∧ ∀ y ∈ (mostF low rhs vs ks d ch).2.2, y.length ≤ B
  | [], _, d, ch, h => by simp [mostF]; exact h
  | _ :: _, [], d, ch, h => by simp [mostF]; exact h
  | v :: vs, k :: ks, d, ch, h => by
    unfold mostF
    split
    · exact ⟨rfl, h⟩
    · have := mostF_len low rhs B vs ks (d.set v.toNat (mostCut (at' d v) k (w64 (rhs - w64 (low - (endM (at' d v) k false).1))))) (ch || !decide (mostCut (at' d v) k (w64 (rhs - w64 (low - (endM (at' d v) k false).1))) = at' d v)) (by
        intro z hz
        rcases List.mem_or_eq_of_mem_set hz with hz | rfl
        · exact h z hz
        · refine Nat.le_trans (mostCut_le _ _ _) ?_
          unfold at'
          rw [List.getD_eq_getElem?_getD]
          cases hg : d[v.toNat]? with
          | none => simp
          | some y => exact h y (List.mem_of_getElem? hg))
      rw [List.length_set] at this
      exact this

theorem Acc.weak {H G : List Obj} {k : Nat} {a : List Obj} {x : V} {xs : List V} (h : Acc (H ++ a) k G x xs) : Acc H k G x xs := by
  obtain ⟨⟨news, hG⟩, h⟩ := h
  refine ⟨⟨a ++ news, by rw [hG, List.append_assoc]⟩, h.imp id ?_⟩
  rintro ⟨o, h1, h2, rfl⟩
  exact ⟨o, by simp at h1; omega, h2, rfl⟩

theorem w64_id {n : Int} (h : -9223372036854775808 ≤ n) (h' : n ≤ 9223372036854775807) : w64 n = n := wrap_ok h h'

theorem linear_Prune (d : List Dom) (c : Con) (fuel : Nat) (r : Option (List Dom)) (hr : linM fuel d c = some r) (hl : c.vars.length ≤ lim) (hk : c.vars.length = c.coefs.length) (hne : c.vars ≠ [])
    (hv : ∀ v ∈ c.vars, 0 ≤ v ∧ v < d.length) (hdl : d.length ≤ lim) (hd : ∀ y ∈ d, y.length ≤ 1048576) (hk0 : ∀ k ∈ c.coefs, k ≠ 0 ∧ -9223372036854775808 < k ∧ k ≤ 9223372036854775807) :
    Pure Tryz.prog 31 [encDoms d, encCon c] (encTold r) := by
  have hdn : d ≠ [] := by
    rintro rfl
    obtain ⟨v, l, e⟩ := List.exists_cons_of_ne_nil hne
    have := hv v (by rw [e]; simp)
    simp at this; omega
  refine Pure.of fun H => go31 (by simp) ?_
  unfold Tryz.f31
  simp
  refine AWP.scopeC ?_
  simp
  refine (linear_own d hdl (fun y hy => Nat.le_trans (hd y hy) (by simp [lim])) _).mono fun x G hO => ?_
  unfold Owned at hO
  unfold linM at hr
  by_cases hE : [] ∈ d
  · rw [if_pos hE] at hO hr
    obtain ⟨rfl, news, rfl⟩ := hO
    cases hr
    simp [encTold]
    exact .tup2 .emp (.closed _ (.b _))
  · rw [if_neg hE] at hO hr
    obtain ⟨y, rfl, hacc⟩ := hO
    obtain ⟨news, hG⟩ := hacc.pre
    have hbox : G[H.length]? = some (.row 7 [encCon c]) := by rw [hG]; simp
    have hacc := hacc.weak
    obtain ⟨o, ho1, ho2, rfl⟩ := hacc.sl (by simpa using hdn)
    have hoH : o ≠ H.length := by rintro rfl; rw [hbox] at ho2; simp at ho2
    rw [List.length_map] at *
    simp [hbox, vint]
    by_cases h2 : c.op = 2
    · rw [if_pos h2] at hr
      cases hr
      rw [if_pos h2]
      refine (linear_other d c o G ho2 hl (by omega) hv hd (fun k hk => (hk0 k hk).1)).mono fun x G' hx => ?_
      obtain ⟨rfl, news', rfl⟩ := hx
      have hlen : (otherM d c).2.length = d.length := by
        unfold otherM; split
        · rfl
        · split
          · rfl
          · simp
      cases hb : (otherM d c).1
      · simp [encTold, hG]
        refine ⟨⟨(Go.TL.Obj.row 7 [encCon c] :: news).set (o - H.length) (.row 1 ((otherM d c).2.map encDom)) ++ news', ?_⟩, .tup2 .emp (.closed _ (.b _))⟩
        rw [List.set_append_right _ _ ho1, List.append_assoc]
      · have hp := (hacc.put (o := o) (ys := (otherM d c).2.map encDom) rfl (by simp [hlen])).pre
        simp [encTold]
        obtain ⟨n2, hn2⟩ := hp
        refine ⟨⟨n2 ++ news', by rw [hn2]; simp⟩, .tup2 ?_ (.closed _ (.b _))⟩
        refine (Acc.mk' (k := 1) (news := n2 ++ news') (H := H) (by rw [hn2, List.append_assoc]) ho1 ?_ (by simp [hlen])).frz closed_doms
        have hol : o < G.length := (List.getElem?_eq_some_iff.1 ho2).1
        rw [List.getElem?_append_left (by simp; exact hol)]
        simp [hol]
    · rw [if_neg h2] at hr
      rw [if_neg h2]
      refine (linear_turned c.coefs (by omega)).use ?_
      simp [hbox]
      refine AWP.loopC (fun n σ G => ∃ d' : List Dom, roundsM c n d' = some r ∧ d'.length = d.length ∧ (∀ y ∈ d', y.length ≤ 1048576) ∧ Acc H 1 G (.sl o d.length 0 d.length none) (d'.map encDom) ∧ G[o]? = some (.row 1 (d'.map encDom)) ∧ G[H.length]? = some (.row 7 [encCon c]) ∧
        σ 6 = .sl o d.length 0 d.length none ∧ σ 3 = .ptr H.length 1 0 0 ∧ σ 8 = encInts (turnedM c.coefs)) fuel ⟨d, hr, rfl, hd, hacc, ho2, hbox, by simp⟩ ?_
      rintro n σ G' ⟨d', hr', hdl', hd', hacc', hrow, hbox', h6, h3, h8⟩
      have hol : o < G'.length := (List.getElem?_eq_some_iff.1 hrow).1
      cases n with
      | zero => cases hr'
      | succ n =>
        unfold roundsM at hr'
        have hv' : ∀ v ∈ c.vars, 0 ≤ v ∧ v < d'.length := by rw [hdl']; exact hv
        have m1 := linear_most d' c.vars c.coefs c.rhs o G' hrow hl (by omega) hv' (fun y hy => Nat.le_trans (hd' y hy) (by simp [lim])) (fun k hk => ⟨(hk0 k hk).1, by
          have := hk0 k hk; rw [w64_id (by omega) (by omega)]; omega⟩)
        have l1 := mostF_len (endsM d' c.vars c.coefs).1 c.rhs 1048576 c.vars c.coefs d' false hd'
        change (mostM d' c.vars c.coefs c.rhs).2.2.length = _ ∧ ∀ y ∈ (mostM d' c.vars c.coefs c.rhs).2.2, _ at l1
        generalize mostM d' c.vars c.coefs c.rhs = q1 at *
        obtain ⟨ch1, ok1, d1⟩ := q1
        simp only at hr' l1
        have acc1 := hacc'.put (o := o) (ys := d1.map encDom) rfl (by simp [l1.1])
        have row1 : (G'.set o (.row 1 (d1.map encDom)))[o]? = some (.row 1 (d1.map encDom)) := by simp [hol]
        have box1 : (G'.set o (.row 1 (d1.map encDom)))[H.length]? = some (.row 7 [encCon c]) := by rw [List.getElem?_set_ne hoH]; exact hbox'
        simp [h6, h3, h8, hbox', vint]
        rw [hdl'] at m1
        refine m1.mono fun x G2 hx => ?_
        obtain ⟨rfl, rfl⟩ := hx
        cases ok1
        · simp at hr'
          cases hr'
          simp [encTold]
          exact ⟨acc1.pre, .tup2 .emp (.closed _ (.b _))⟩
        · simp at hr'
          simp [h6, h3, h8, box1, vint]
          by_cases h0 : c.op = 0
          · rw [if_pos h0] at hr'
            cases hr'
            rw [if_pos h0]
            simp [encTold, h6]
            exact ⟨acc1.pre, .tup2 (acc1.frz closed_doms) (.closed _ (.b _))⟩
          · rw [if_neg h0] at hr'
            rw [if_neg h0]
            have m2 := linear_most d1 c.vars (turnedM c.coefs) (w64 (-c.rhs)) o _ row1 hl (by rw [turnedM_length]; omega) (by rw [l1.1]; exact hv') (fun y hy => Nat.le_trans (l1.2 y hy) (by simp [lim])) (by
              intro k hk
              obtain ⟨q, hq, rfl⟩ := List.mem_map.1 hk
              have := hk0 q hq
              rw [w64_id (n := -q) (by omega) (by omega), w64_id (by omega) (by omega)]
              omega)
            have l2 := mostF_len (endsM d1 c.vars (turnedM c.coefs)).1 (w64 (-c.rhs)) 1048576 c.vars (turnedM c.coefs) d1 false l1.2
            change (mostM d1 c.vars (turnedM c.coefs) (w64 (-c.rhs))).2.2.length = _ ∧ ∀ y ∈ (mostM d1 c.vars (turnedM c.coefs) (w64 (-c.rhs))).2.2, _ at l2
            generalize mostM d1 c.vars (turnedM c.coefs) (w64 (-c.rhs)) = q2 at *
            obtain ⟨ch2, ok2, d2⟩ := q2
            simp only at hr' l2
            have acc2 := acc1.put (o := o) (ys := d2.map encDom) rfl (by simp [l2.1])
            rw [List.set_set] at acc2
            have row2 : (G'.set o (.row 1 (d2.map encDom)))[o]? = some (.row 1 (d2.map encDom)) := by simp [hol]
            have box2 : (G'.set o (.row 1 (d2.map encDom)))[H.length]? = some (.row 7 [encCon c]) := by rw [List.getElem?_set_ne hoH]; exact hbox'
            rw [l1.1, hdl'] at m2
            simp [w64_def]
            refine m2.mono fun x G3 hx => ?_
            obtain ⟨rfl, rfl⟩ := hx
            rw [List.set_set]
            cases ok2
            · simp at hr'
              cases hr'
              simp [encTold]
              exact ⟨acc2.pre, .tup2 .emp (.closed _ (.b _))⟩
            · simp at hr'
              cases ch1
              · cases ch2
                · simp at hr'
                  cases hr'
                  simp [h6, encTold]
                  exact ⟨acc2.pre, .tup2 (acc2.frz closed_doms) (.closed _ (.b _))⟩
                · simp at hr'
                  simp [h6, h3, h8]
                  exact ⟨n, by omega, d2, hr', by rw [l2.1, l1.1, hdl'], l2.2, acc2, row2, box2⟩
              · simp at hr'
                simp [h6, h3, h8]
                exact ⟨n, by omega, d2, hr', by rw [l2.1, l1.1, hdl'], l2.2, acc2, row2, box2⟩

end Go.TL
