/- Ends of sums, and what they leave: walks. -/
import Derived.Test.YtofeaajoohiijaaGreatRe
import Derived.Test.YtofeaajoohiijaaGreatTLs
namespace Go.TL
open Go Go.Proofs
set_option maxRecDepth 4000

theorem endsF_drop (d : List Dom) (vs ks : List Int) (i : Nat) (lo hi : Int) (h : i < vs.length) (h' : i < ks.length) : endsF d (vs.drop i) (ks.drop i) lo hi =
    if (endM (at' d vs[i]) ks[i] false).2 then endsF d (vs.drop (i + 1)) (ks.drop (i + 1)) (w64 (lo + (endM (at' d vs[i]) ks[i] false).1)) (w64 (hi + (endM (at' d vs[i]) ks[i] true).1)) else (0, 0, false) := by
  rw [List.drop_eq_getElem_cons h, List.drop_eq_getElem_cons h', endsF]

theorem at_getE {d : List Dom} {v : Int} {h : v.toNat < d.length} : d[v.toNat]'h = at' d v := by
  unfold at'
  rw [List.getD_eq_getElem?_getD, List.getElem?_eq_getElem h]
  rfl

/-- A domain's place in a row. -/
theorem at_get {d : List Dom} {v : Int} (h0 : 0 ≤ v) (h1 : v < d.length) : d[v.toNat]? = some (at' d v) := by
  unfold at'
  rw [List.getD_eq_getElem?_getD, List.getElem?_eq_getElem (by omega)]
  rfl

theorem linear_Ends (d : List Dom) (vs ks : List Int)
    (hl : vs.length ≤ lim) (hk : vs.length ≤ ks.length) (hv : ∀ v ∈ vs, 0 ≤ v ∧ v < d.length) (hd : ∀ y ∈ d, y.length ≤ lim) :
    Pure Tryz.prog 95 [encDoms d, encInts vs, encInts ks] (.tup [vint (endsM d vs ks).1, vint (endsM d vs ks).2.1, .b (endsM d vs ks).2.2]) := by
  unfold lim at hl
  refine Pure.of' (.tup _ (by simp [vint, closed_i, closed_b])) fun H => go95 (by simp) ?_
  unfold Tryz.f95
  simp
  refine AWP.loopC (fun n σ G => ∃ (k : Nat) (lo hi : Int), k ≤ vs.length ∧ n = vs.length - k ∧ G = H ∧ endsF d (vs.drop k) (ks.drop k) lo hi = endsM d vs ks ∧ σ 0 = encDoms d ∧ σ 2 = encInts ks ∧ σ 9 = vint lo ∧ σ 10 = vint hi ∧ σ 17 = encInts vs ∧ σ 18 = vint vs.length ∧ σ 19 = vint k) vs.length
    ⟨0, 0, 0, by omega, by simp, rfl, by simp [endsM], by simp [vint, encInts]⟩ ?_
  rintro n σ G ⟨k, lo, hi, hk', rfl, rfl, he, h0, h2, h9, h10, h17, h18, h19⟩
  by_cases hlt : k < vs.length
  · have hg : vs[k]? = some vs[k] := List.getElem?_eq_getElem hlt
    have hlk : k < ks.length := by omega
    have hgk : ks[k]? = some ks[k] := List.getElem?_eq_getElem hlk
    have hvk := hv _ (List.getElem_mem hlt)
    have ha := at_get hvk.1 hvk.2
    rw [endsF_drop d vs ks k lo hi hlt hlk] at he
    have hdl : (at' d vs[k]).length ≤ lim := hd _ (List.mem_of_getElem? ha)
    have e1 := linear_end (at' d vs[k]) ks[k] false hdl
    have e2 := linear_end (at' d vs[k]) ks[k] true hdl
    simp [h0, h2, h9, h10, h17, h18, h19, encInts, vint, hlt, hg]
    refine AWP.drawL [] [] follows (by kernel_rfl) (by kernel_rfl) ?_
    simp [h0, h2, h9, h10, h17, h18, h19, encInts, encDoms, vint, hlt, hg, hlk, hgk, hvk, at_getE]
    refine callE_use e1 ?_
    simp [vint]
    refine AWP.drawL [] [] follows (by kernel_rfl) (by kernel_rfl) ?_
    simp [h0, h2, h9, h10, h17, h18, h19, encInts, encDoms, vint, hlt, hg, hlk, hgk, hvk, at_getE]
    refine callE_use e2 ?_
    simp [h0, h2, h9, h10, h17, h18, h19, vint, wrap_succ hlt (by omega)]
    split
    · rename_i h
      rw [if_pos h] at he
      refine ⟨vs.length - (k + 1), by omega, k + 1, by omega, rfl, _, _, he, ?_⟩
      simp [w64, encDoms, encInts]
    · rename_i h
      rw [if_neg h] at he
      rw [← he]; simp
  · obtain rfl : k = vs.length := by omega
    simp [h0, h2, h9, h10, h17, h18, h19, encInts, vint]
    simp [endsF] at he
    rw [← he]
    simp

theorem mostF_drop (low rhs : Int) (vs ks : List Int) (i : Nat) (d : List Dom) (ch : Bool) (h : i < vs.length) (h' : i < ks.length) : mostF low rhs (vs.drop i) (ks.drop i) d ch =
    if mostCut (at' d vs[i]) ks[i] (w64 (rhs - w64 (low - (endM (at' d vs[i]) ks[i] false).1))) = [] then (false, false, d)
    else mostF low rhs (vs.drop (i + 1)) (ks.drop (i + 1)) (d.set vs[i].toNat (mostCut (at' d vs[i]) ks[i] (w64 (rhs - w64 (low - (endM (at' d vs[i]) ks[i] false).1))))) (ch || !decide (mostCut (at' d vs[i]) ks[i] (w64 (rhs - w64 (low - (endM (at' d vs[i]) ks[i] false).1))) = at' d vs[i])) := by
  rw [List.drop_eq_getElem_cons h, List.drop_eq_getElem_cons h', mostF]

theorem meetF_one (y : Rg) : ∀ (n : Nat) (a : Dom), (meetF n a [y]).length ≤ a.length
  | 0, _ => by simp [meetF]
  | n + 1, [] => by simp [meetF]
  | n + 1, x :: a => by
    have h1 := meetF_one y n a
    have h2 : meetF n (x :: a) [] = [] := meetF_end _ _ _ (.inr rfl)
    simp only [meetF, List.length_append, h2]
    split <;> split <;> simp <;> omega

theorem cut_le (d : Dom) (lo hi : Int) : (cut d lo hi).length ≤ d.length := by
  unfold cut meet
  split
  · simp
  · exact meetF_one _ _ _

theorem mostCut_le (d : Dom) (k r : Int) : (mostCut d k r).length ≤ d.length := by unfold mostCut; split <;> exact cut_le _ _ _

theorem mkEl_lst (a : List V) (y : V) : mkEl (.lst a) (splice [.lst a] 0 [y]) = y := by simp [mkEl, splice]
theorem w64_neg_ne {k : Int} (h : k ≠ 0) (h1 : -9223372036854775808 ≤ k) (h2 : k ≤ 9223372036854775807) : w64 (-k) ≠ 0 := by
  unfold w64
  have e1 : IntKind.i64.bits = 64 := rfl
  have e2 : IntKind.i64.signed = true := rfl
  simp only [IntKind.wrap, e1, e2]
  simp
  split <;> omega

theorem set_self {H : List Obj} {o : Nat} {x : Obj} (h : H[o]? = some x) : H.set o x = H := by
  apply List.ext_getElem? ; intro i; rw [List.getElem?_set]; split
  · rename_i e; subst e; rw [if_pos (List.getElem?_eq_some_iff.1 h).1, h]
  · rfl

theorem linear_most (d : List Dom) (vs ks : List Int) (rhs : Int) (o : Nat) (H : List Obj) (ho : H[o]? = some (.row 1 (d.map encDom)))
    (hl : vs.length ≤ lim) (hk : vs.length ≤ ks.length) (hv : ∀ v ∈ vs, 0 ≤ v ∧ v < d.length) (hd : ∀ y ∈ d, y.length ≤ lim) (hk0 : ∀ k ∈ ks, k ≠ 0 ∧ w64 (-k) ≠ 0) :
    Fn Tryz.prog 65 [.sl o d.length 0 d.length none, encInts vs, encInts ks, vint rhs] H fun r H' => r = .tup [.b (mostM d vs ks rhs).1, .b (mostM d vs ks rhs).2.1] ∧ H' = H.set o (.row 1 ((mostM d vs ks rhs).2.2.map encDom)) := by
  have hE := linear_Ends d vs ks hl hk hv hd
  unfold lim at hl
  have hol : o < H.length := (List.getElem?_eq_some_iff.1 ho).1
  refine go65 (by simp) ?_
  unfold Tryz.f65
  simp
  refine hE.borrowK (.inr ⟨_, rfl, by simp [vint, flat]⟩) (.cons (.own ho (by simp) (by intro e he; obtain ⟨y, _, rfl⟩ := List.mem_map.1 he; exact closed_encDom y)) (.cons (.closed _ (closed_encInts _)) (.cons (.closed _ (closed_encInts _)) (.nil _)))) ?_
  simp
  refine AWP.loopC (fun n σ G => ∃ (k : Nat) (d' : List Dom) (ch : Bool), k ≤ vs.length ∧ n = vs.length - k ∧ G = H.set o (.row 1 (d'.map encDom)) ∧ d'.length = d.length ∧ (∀ y ∈ d', y.length ≤ lim) ∧
    mostF (endsM d vs ks).1 rhs (vs.drop k) (ks.drop k) d' ch = mostM d vs ks rhs ∧ σ 0 = .sl o d.length 0 d.length none ∧ σ 2 = encInts ks ∧ σ 3 = vint rhs ∧ σ 10 = vint (endsM d vs ks).1 ∧ σ 13 = .b ch ∧ σ 29 = encInts vs ∧ σ 30 = vint vs.length ∧ σ 31 = vint k) vs.length
    ⟨0, d, false, by omega, by simp, by rw [set_self ho], rfl, hd, by simp [mostM], by simp [vint, encInts]⟩ ?_
  rintro n σ G ⟨k, d', ch, hk', rfl, rfl, hdl, hd', he, h0, h2, h3, h10, h13, h29, h30, h31⟩
  have hG : (H.set o (.row 1 (d'.map encDom)))[o]? = some (.row 1 (d'.map encDom)) := by simp [hol]
  by_cases hlt : k < vs.length
  · have hg : vs[k]? = some vs[k] := List.getElem?_eq_getElem hlt
    have hlk : k < ks.length := by omega
    have hgk : ks[k]? = some ks[k] := List.getElem?_eq_getElem hlk
    have hvk := hv _ (List.getElem_mem hlt)
    rw [← hdl] at hvk
    have ha := at_get hvk.1 hvk.2
    rw [mostF_drop _ _ vs ks k d' ch hlt hlk] at he
    have hyl : (at' d' vs[k]).length ≤ lim := hd' _ (List.mem_of_getElem? ha)
    have hkk := hk0 _ (List.getElem_mem hlk)
    have e1 := linear_end (at' d' vs[k]) ks[k] false hyl
    generalize hy : at' d' vs[k] = y at he hyl e1
    simp [h0, h2, h3, h10, h13, h29, h30, h31, encInts, vint, hlt, hg, hlk, hgk, hol, ← hdl, hvk, at_getE, hy]
    refine e1.use ?_
    simp [h0, h2, h3, h10, h13, h29, h30, h31, encInts, vint, hlt, hg, hlk, hgk, hol, ← hdl, hvk, at_getE, hy, w64_def]
    generalize hR : w64 (rhs - w64 ((endsM d vs ks).fst - (endM y ks[k] false).fst)) = R at *
    have hcl := mostCut_le y ks[k] R
    split
    case' isTrue h =>
      refine (linear_floor R ks[k] hkk.1).use ?_
      simp [vint]
      refine (dom_Cut y (-1048576) (floorM R ks[k]) hyl).use ?_
      rw [show cut y (-1048576) (floorM R ks[k]) = mostCut y ks[k] R from by simp [mostCut, h]]
    case' isFalse h =>
      refine (linear_floor R (w64 (-ks[k])) hkk.2).use ?_
      simp [vint, w64_def]
      refine (dom_Cut y (w64 (-floorM R (w64 (-ks[k])))) 1048576 hyl).use ?_
      rw [show cut y (w64 (-floorM R (w64 (-ks[k])))) 1048576 = mostCut y ks[k] R from by simp [mostCut, h]]
    all_goals
      generalize hx : mostCut y ks[k] R = x at he hcl ⊢
      have e3 := dom_Same x y (Nat.le_trans hcl hyl)
      cases ch <;> simp [h0, h2, h3, h10, h13, h29, h30, h31, hol, ← hdl, hvk, at_getE, hy]
      all_goals split
      all_goals
        first
        | (rename_i hx0
           rw [if_pos hx0] at he
           rw [← he]
           simp)
        | (rename_i hx0
           rw [if_neg hx0] at he
           try refine e3.use ?_
           simp [h0, h2, h3, h10, h13, h29, h30, h31, hol, ← hdl, hvk, at_getE, hy, encInts, vint, wrap_succ hlt (by omega)]
           refine ⟨vs.length - (k + 1), by omega, k + 1, by omega, rfl, d'.set vs[k].toNat x, ?_, by simp, ?_, ?_⟩
           · rw [List.map_set]; rfl
           · intro z hz
             rcases List.mem_or_eq_of_mem_set hz with h | rfl
             · exact hd' _ h
             · exact Nat.le_trans hcl hyl
           · by_cases hxy : x = y <;> simp [hxy] at he ⊢ <;> exact he)
  · obtain rfl : k = vs.length := by omega
    simp [h0, h2, h3, h10, h13, h29, h30, h31, encInts, vint]
    simp [mostF] at he
    rw [← he]
    simp

end Go.TL
