/- FixSolved: walked. -/
import Derived.Test.YtofeaajoohiijaaGreatRr
namespace Go.TL
open Go Go.Proofs
set_option maxRecDepth 4000

def one1 (x : Int) : Dom := [⟨x.tmod 1000, x.tmod 1000⟩]

theorem solvedF_ones : ∀ (l acc : List Int), solvedF (l.map one1) acc = (acc ++ l.map fun x => x.tmod 1000, true)
  | [], acc => by simp [solvedF]
  | x :: l, acc => by
    have hz : size (one1 x) = 1 := by
      have e : ∀ t : Int, w64 (0 + w64 (w64 (t - t) + 1)) = 1 := fun t => by rw [Int.sub_self]; decide
      simp [size, one1, sizeStep]
      have := e (x.tmod 1000)
      simpa using this
    rw [List.map_cons, solvedF, if_neg (by simp [one1, least, hz] at *)]
    · rw [solvedF_ones l]; simp [one1, least]

theorem solvedF_app (d : List Dom) (x : Dom) (hx : (least x).2 = false ∨ size x ≠ 1) : ∀ acc, solvedF (d ++ [x]) acc = ([], false) := by
  induction d with
  | nil => intro acc; rw [List.nil_append, solvedF, if_pos hx]
  | cons y d ih =>
    intro acc
    rw [List.cons_append, solvedF]
    split
    · rfl
    · exact ih _

theorem Acc.frzG {H G : List Obj} {k : Nat} {x : V} {xs ys : List V} (h : Acc H k G x xs) (hl : ys.length = xs.length) (hy : ∀ (i : Nat) x y, xs[i]? = some x → ys[i]? = some y → Frz 0 G x y) : Frz 0 G x (.lst ys) := by
  rcases h.row with ⟨rfl, rfl⟩ | ⟨o, h1, h2, rfl⟩
  · have : ys = [] := List.eq_nil_of_length_eq_zero (by simpa using hl)
    subst this; exact .emp
  · exact .sl o _ 0 _ none k xs ys (Nat.zero_le _) h2 rfl (by simp) hl fun i e y hi he hyy => hy i e y (by simpa using he) hyy

theorem appendV_emp (k : Nat) (ys : List V) (H : List Obj) (K : V → List Obj → Prop) : appendV k .emp ys H K = K (.sl H.length ys.length 0 ys.length none) (H ++ [.row k ys]) := rfl

theorem frz_snoc {G : List Obj} {d : List Dom} {e : V} {y : Dom} (he : Frz 0 G e (encDom y)) (i : Nat) (a b : V) (ha : (d.map encDom ++ [e])[i]? = some a) (hb : ((d ++ [y]).map encDom)[i]? = some b) : Frz 0 G a b := by
  rw [List.map_append, List.map_cons, List.map_nil] at hb
  by_cases hi : i < d.length
  · rw [List.getElem?_append_left (by simpa using hi)] at ha hb
    rw [ha] at hb
    cases hb
    exact .closed _ (closed_doms _ (List.mem_of_getElem? ha))
  · have hi2 : i = d.length := by
      have := (List.getElem?_eq_some_iff.1 ha).1
      simp at this; omega
    subst hi2
    simp at ha hb
    subst ha hb
    exact he

theorem law13_FixSolved (a : List Int) (more : Bool) : Pure Tryz.prog 5 [encInts a, .b more] (.b true) := by
  refine Pure.of' (.b _) fun H => go5 (by simp) ?_
  unfold Tryz.f5
  simp
  refine AWP.loopC (fun n σ G => ∃ k : Nat, k ≤ a.length ∧ k ≤ 30 ∧ n = 30 - k ∧ Acc H 1 G (σ 5) (((a.take k).map one1).map encDom) ∧ Acc H 1 G (σ 6) (((a.take k).map fun x => x.tmod 1000).map vint) ∧ Sep (σ 5) (σ 6) ∧ σ 0 = encInts a ∧ σ 1 = .b more ∧ σ 7 = vint k) 30
    ⟨0, by omega, by omega, by simp, by simpa using Acc.nil H 1, by simpa using Acc.nil H 1, by simpa using Sep.emp _, by simp [vint]⟩ ?_
  rintro n σ G ⟨k, hk, hk30, rfl, h5, h6, hsep, h0, h1, h7⟩
  by_cases hlt : k < a.length ∧ k < 30
  · obtain ⟨hlt, hlt30⟩ := hlt
    have hL5 := h5.lenV
    have hL6 := h6.lenV
    simp at hL5 hL6
    rw [Nat.min_eq_left hk] at hL5 hL6
    obtain ⟨x, hx⟩ : ∃ x, a[k] = x := ⟨_, rfl⟩
    have hlt30' : (k : Int) < 30 := by omega
    have hw : IntKind.i64.wrap (x.tmod 1000) = x.tmod 1000 := by
      have h1 := Int.tmod_lt_of_pos x (show (0 : Int) < 1000 by decide)
      have h2 : -1000 < x.tmod 1000 := by
        have := Int.lt_tmod_of_pos x (show (0 : Int) < 1000 by decide)
        omega
      exact wrap_ok (by omega) (by omega)
    simp [h0, h1, h7, encInts, vint, hlt, hlt30', hx, hL5, hL6, hw, List.range'_succ]
    refine ⟨by omega, by omega, h5.app2 h6 hsep (by simp) (by simp [storable]) fun x' G' h5' h6' hsep' => ?_⟩
    have hL6' := h6'.lenV
    simp at hL6'
    rw [Nat.min_eq_left hk] at hL6'
    simp [h0, h1, h7, vint, hL6', List.range'_succ]
    refine ⟨by omega, by omega, h6'.app2 h5' hsep'.symm (by simp) (by simp [storable]) fun y' G2 h6'' h5'' hsep'' => ?_⟩
    simp [h0, h1, h7, vint, wrap_succ hlt30 (by omega)]
    have e5 : ((a.take (k + 1)).map one1).map encDom = ((a.take k).map one1).map encDom ++ [V.lst [V.agg [V.i .i64 (x.tmod 1000), V.i .i64 (x.tmod 1000)]]] := by
      rw [map_take_succ _ hlt, List.map_append, hx]; rfl
    have e6 : ((a.take (k + 1)).map fun x => x.tmod 1000).map vint = ((a.take k).map fun x => x.tmod 1000).map vint ++ [V.i .i64 (x.tmod 1000)] := by
      rw [map_take_succ _ hlt, List.map_append, hx]; rfl
    refine ⟨30 - (k + 1), by omega, k + 1, by omega, by omega, rfl, ?_, ?_, hsep''.symm, by simp [encInts]⟩
    · have := e5 ▸ h5''
      simpa using this
    · have := e6 ▸ h6''
      simpa using this
  · generalize hl : a.take k = l at h5 h6
    have hll : l.length ≤ 30 := by rw [← hl, List.length_take]; omega
    have hc : ∀ e ∈ (l.map one1).map encDom, Closed e := closed_doms
    have hS := fix_SolvedA (l.map one1) (by simp [lim]; omega) (by intro y hy; obtain ⟨x, _, rfl⟩ := List.mem_map.1 hy; simp [one1, lim]) []
    have hsol : solvedM (l.map one1) = (l.map fun x => x.tmod 1000, true) := by simp [solvedM, solvedF_ones]
    rw [hsol] at hS
    have tail : ∀ (e : V) (y : Dom), y.length ≤ 1 → ((least y).2 = false ∨ size y ≠ 1) → ∀ (x' : V) (G' : List Obj), Frz 0 G' e (encDom y) → Acc H 1 G' x' ((l.map one1).map encDom ++ [e]) →
        Fn Tryz.prog 13 [x'] G' fun y G => ∃ z, y = .tup [z, .b false] ∧ Acc G' 1 G z [] := by
      intro e y hy1 hy x' G' he hacc
      have hs2 := fix_SolvedA (l.map one1 ++ [y]) (by simp [lim]; omega) (by
        intro q hq
        rw [List.mem_append] at hq
        rcases hq with hq | hq
        · obtain ⟨x, _, rfl⟩ := List.mem_map.1 hq; simp [one1, lim]
        · simp at hq; subst hq; simp [lim]; omega) []
      have : solvedM (l.map one1 ++ [y]) = ([], false) := solvedF_app _ _ hy _
      rw [this] at hs2
      exact Fn.borrowAcc2 hs2 (by simp) (.cons (hacc.frzG (by simp) (frz_snoc he)) (.nil _))
    have fin : ∀ {K : V → List Obj → Prop} (G : List Obj), K (.b true) G → Fn Tryz.prog 7 [] G K := fun G h => law13_fixed.use h
    have hN := R2_Nums (l.map fun x => x.tmod 1000) (l.map fun x => x.tmod 1000) (by simp; omega)
    have hgo : ∀ {K : V → List Obj → Prop}, (∀ z G1, Acc G 1 G1 z ((l.map fun x => x.tmod 1000).map vint) → K (.tup [z, .b true]) G1) → Fn Tryz.prog 13 [σ 5] G K := fun h =>
      (Fn.borrowAcc2 hS flat_int (.cons (h5.frz0 closed_doms) (.nil _))).mono fun y G1 ⟨z, hy, hz⟩ => hy ▸ h z G1 hz
    by_cases hka : k < a.length
    case' pos =>
      have hk3 : ¬ (k : Int) < 30 := by omega
      simp [h0, h1, h7, encInts, vint, hka, hk3]
    case' neg => simp [h0, h1, h7, encInts, vint, hka]
    all_goals
      refine hgo fun z G1 hz => ?_
      obtain ⟨news, hn⟩ := hz.pre
      have h5' := h5.mores news
      have h6' := h6.mores news
      rw [← hn] at h5' h6'
      simp
      refine hN.borrowK (.inl rfl) (.cons (hz.frz0 closed_int) (.cons (h6'.frz0 closed_int) (.nil _))) ?_
      simp
      have hL5 := h5'.lenV
      rw [List.length_map, List.length_map] at hL5
      cases more
      · simp [h1, hL5, List.range'_succ]
        refine ⟨by omega, by omega, h5'.app (by simp) (by simp) fun x' G' ha _ _ => ?_⟩
        simp
        refine (tail .emp [] (by simp) (.inl rfl) x' G' .emp (by simpa using ha)).mono fun y G3 hy => ?_
        obtain ⟨z2, rfl, hz2⟩ := hy
        have hlz := hz2.lenC_eq Tryz.prog 24
        simp [hlz]
        refine fin _ ?_
        simp
        obtain ⟨n1, e1⟩ := ha.pre
        obtain ⟨n2, e2⟩ := hz2.pre
        exact ⟨n1 ++ n2, by rw [e2, e1, List.append_assoc]⟩
      · simp [h1, hL5, List.range'_succ]
        rw [appendV_emp]
        simp [hL5, List.range'_succ]
        have h5'' := h5'.more (.row 2 [.agg [.i .i64 1, .i .i64 2]])
        have hnf := h5'.fresh
        refine ⟨by omega, by omega, h5''.app (by simp) (by simp) fun x' G' ha _ hoth => ?_⟩
        have hrow := (hoth G1.length (by simp) hnf).1
        simp at hrow
        simp
        refine (tail (.sl G1.length 1 0 1 none) [⟨1, 2⟩] (by simp) (.inr (by decide)) x' G' (.own hrow rfl (by simp; exact closed_encRg _)) (by simpa using ha)).mono fun y G3 hy => ?_
        obtain ⟨z2, rfl, hz2⟩ := hy
        have hlz := hz2.lenC_eq Tryz.prog 24
        simp [hlz]
        refine fin _ ?_
        simp
        obtain ⟨n1, e1⟩ := ha.pre
        obtain ⟨n2, e2⟩ := hz2.pre
        exact ⟨n1 ++ n2, by rw [e2, e1, List.append_assoc]⟩

end Go.TL
