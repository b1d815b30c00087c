/- The tree logic, part fifteen: whatever order a region is carried out in. -/
import Derived.Test.YtofeaajoohiijaaGreatTLn
namespace Go.TL
open Go

section
variable {P : Program} {N : Nat} {ops : Array Oper} {effs : List Nat} {val : Nat → V} {Hs : Nat → List Obj} {σs : Nat → Slots}

theorem drawOk_pair (h : drawOk ops effs = true) {i j : Nat} (hij : i < j) (hj : j < ops.size) : pairOk ops.toList effs i j = true := by
  unfold drawOk at h
  simp only [Bool.and_eq_true, List.all_eq_true, List.mem_range, Array.length_toList] at h
  exact h.1.1.1 j hj i hij

theorem drawOk_edge (h : drawOk ops effs = true) {j : Nat} {o : Oper} (ho : ops[j]? = some o) {e : Edge} (he : e ∈ o.after) (hb : Region.binds .any e = true) : e.on < j := by
  unfold drawOk at h
  simp only [Bool.and_eq_true, List.all_eq_true] at h
  have h2 := h.1.1.2 (o, j) (by rw [List.mem_iff_getElem?]; exact ⟨j, by simp [ho]⟩)
  rw [Array.all_eq_true_iff_forall_mem] at h2
  have := h2 e he
  simpa [hb] using this

theorem drawOk_eff (h : drawOk ops effs = true) {e : Nat} (he : e ∈ effs) : e < ops.size := by
  unfold drawOk at h
  simp only [Bool.and_eq_true, List.all_eq_true] at h
  simpa using h.1.2 e he

theorem pair_dst (h : drawOk ops effs = true) {i j t : Nat} {a b : Oper} (hi : ops[i]? = some a) (hj : ops[j]? = some b) (ha : a.dst = some t) (hb : b.dst = some t) : i = j := by
  have li := (Array.getElem?_eq_some_iff.1 hi).1
  have lj := (Array.getElem?_eq_some_iff.1 hj).1
  rcases Nat.lt_trichotomy i j with q | q | q
  · have := drawOk_pair h q lj
    simp [pairOk, hi, hj, ha, hb] at this
  · exact q
  · have := drawOk_pair h q li
    simp [pairOk, hi, hj, ha, hb] at this

theorem pair_use (h : drawOk ops effs = true) {i j t : Nat} {a b : Oper} (hij : i < j) (hi : ops[i]? = some a) (hj : ops[j]? = some b) (ha : a.dst = some t) (hb : t ∈ looks ops.toList b) : bafter ops.toList j i = true := by
  have := drawOk_pair h hij (Array.getElem?_eq_some_iff.1 hj).1
  simp only [pairOk, Array.getElem?_toList, hi, hj, ha, Bool.and_eq_true, Bool.or_eq_true] at this
  rcases this.2 with q | ⟨⟨q, _⟩, _⟩
  · exact q
  · simp [hb] at q

theorem pair_war (h : drawOk ops effs = true) {i j t : Nat} {a b : Oper} (hij : i < j) (hi : ops[i]? = some a) (hj : ops[j]? = some b) (hb : b.dst = some t) (ha : t ∈ looks ops.toList a) : bafter ops.toList j i = true := by
  have := drawOk_pair h hij (Array.getElem?_eq_some_iff.1 hj).1
  simp only [pairOk, Array.getElem?_toList, hi, hj, hb, Bool.and_eq_true, Bool.or_eq_true] at this
  rcases this.2 with q | ⟨⟨_, q⟩, _⟩
  · exact q
  · simp [ha] at q

theorem pair_eff (h : drawOk ops effs = true) {i j : Nat} {a b : Oper} (hij : i < j) (hi : ops[i]? = some a) (hj : ops[j]? = some b) (he : i ∈ effs) (hs : insens b.op = false ∨ j ∈ effs) : bafter ops.toList j i = true := by
  have := drawOk_pair h hij (Array.getElem?_eq_some_iff.1 hj).1
  simp only [pairOk, Array.getElem?_toList, hi, hj, Bool.and_eq_true, Bool.or_eq_true] at this
  rcases this.2 with q | ⟨_, q⟩
  · exact q
  · simp [he] at q
    rcases hs with hs | hs
    · rw [hs] at q; exact absurd q.1 (by simp)
    · exact absurd hs q.2

theorem bafter_dep {j i : Nat} {o : Oper} (ho : ops[j]? = some o) (h : bafter ops.toList j i = true) : ∃ e ∈ o.after, Region.binds .any e = true ∧ e.on = i := by
  unfold bafter at h
  simp only [Array.getElem?_toList, ho] at h
  rw [Array.any_eq_true] at h
  obtain ⟨k, hk, h⟩ := h
  simp only [Bool.and_eq_true, beq_iff_eq] at h
  exact ⟨_, Array.getElem_mem hk, h.1, h.2⟩

/-- What the slots are in the text's order. -/
theorem slots_at (σ : Slots) (hst : ∀ j o, ops.toList[j]? = some o → StepOk P N ops.toList effs val Hs σs j o) (h0 : σs 0 = σ) (hok : drawOk ops effs = true) :
    ∀ j, j ≤ ops.size → ∀ t, (∀ i o, i < j → ops[i]? = some o → o.dst = some t → t < N → σs j t = val i) ∧ ((∀ i o, i < j → ops[i]? = some o → t < N → o.dst ≠ some t) → σs j t = σ t) := by
  intro j
  induction j with
  | zero => exact fun _ t => ⟨fun i o h => by omega, fun _ => by rw [h0]⟩
  | succ j ih =>
    intro hj t
    have hlt : j < ops.size := by omega
    have hoj : ops[j]? = some ops[j] := Array.getElem?_eq_getElem hlt
    have hs := (hst j ops[j] (by simp)).slots
    obtain ⟨ih1, ih2⟩ := ih (by omega) t
    have hval : σs (j + 1) t = if ops[j].dst = some t ∧ t < N then val j else σs j t := by
      rw [hs]
      unfold aput
      cases hd : ops[j].dst with
      | none => simp
      | some d =>
        simp only
        by_cases hdN : d < N
        · rw [if_pos hdN, upd_apply]
          by_cases htd : t = d
          · subst htd; rw [if_pos rfl, if_pos ⟨rfl, hdN⟩]
          · rw [if_neg htd, if_neg (by rintro ⟨e, _⟩; cases e; exact htd rfl)]
        · rw [if_neg hdN, if_neg (by rintro ⟨e, hN⟩; cases e; exact hdN hN)]
    constructor
    · intro i o hi ho hd htN
      rw [hval]
      by_cases hij : i = j
      · subst hij
        rw [hoj] at ho; cases ho
        rw [if_pos ⟨hd, htN⟩]
      · rw [if_neg]
        · exact ih1 i o (by omega) ho hd htN
        · rintro ⟨hd', _⟩
          exact hij (pair_dst hok ho hoj hd hd')
    · intro hno
      rw [hval, if_neg (by rintro ⟨hd, htN⟩; exact hno j _ (by omega) hoj htN hd)]
      exact ih2 fun i o hi ho => hno i o (by omega) ho

theorem heap_const (hst : ∀ j o, ops.toList[j]? = some o → StepOk P N ops.toList effs val Hs σs j o) : ∀ (d a : Nat), a + d ≤ ops.size → (∀ e ∈ effs, ¬ (a ≤ e ∧ e < a + d)) → Hs (a + d) = Hs a
  | 0, _, _, _ => rfl
  | d + 1, a, h, hn => by
    have hlt : a + d < ops.size := by omega
    have := (hst (a + d) ops[a + d] (by simp [Array.getElem?_eq_getElem hlt])).same (fun he => hn _ he ⟨by omega, by omega⟩)
    rw [show a + (d + 1) = a + d + 1 by omega, this]
    exact heap_const hst d a (by omega) fun e he => fun h => hn e he ⟨h.1, by omega⟩

theorem heap_const' (hst : ∀ j o, ops.toList[j]? = some o → StepOk P N ops.toList effs val Hs σs j o) {a b : Nat} (hab : a ≤ b) (hb : b ≤ ops.size) (hn : ∀ e ∈ effs, ¬ (a ≤ e ∧ e < b)) : Hs b = Hs a := by
  obtain ⟨d, rfl⟩ := Nat.exists_eq_add_of_le hab
  exact heap_const hst d a hb hn

/-- Those that have come up, and what stands then. -/
structure Inv (P : Program) (N : Nat) (ops : Array Oper) (effs : List Nat) (val : Nat → V) (Hs : Nat → List Obj) (σ : Slots) (w₀ : World) (ρ₀ : Nat → Nat) (H₀ : List Obj) (S : Array Bool) (a : Act) (w : World) : Prop where
  size : S.size = ops.size
  down : ∀ (j : Nat) o, ops[j]? = some o → S.getD j false = true → ∀ e ∈ o.after, Region.binds .any e = true → S.getD e.on false = true
  state : ∃ ρ' σ' H' m, SimA N σ' H' ρ' a w ∧ Evo w₀ ρ₀ H₀ w ρ' H' ∧ (∀ (i t : Nat) o, ops[i]? = some o → S.getD i false = true → o.dst = some t → t < N → σ' t = val i) ∧
    (∀ t : Nat, (∀ (i : Nat) o, ops[i]? = some o → S.getD i false = true → t < N → o.dst ≠ some t) → σ' t = σ t) ∧ m ≤ ops.size ∧ H' = Hs m ∧ ∀ e ∈ effs, S.getD e false = true ↔ e < m

theorem any_sound {σ : Slots} {w₀ : World} {ρ₀ : Nat → Nat} {H₀ : List Obj} {Q : Post} (hok : drawOk ops effs = true) (hst : ∀ j o, ops.toList[j]? = some o → StepOk P N ops.toList effs val Hs σs j o) (h0 : σs 0 = σ)
    (hq : Q .normal (σs ops.size) (Hs ops.size)) : ∀ (fuel : Nat) (S : Array Bool) (a : Act) (w : World), (S.toList.count false) = fuel → Inv P N ops effs val Hs σ w₀ ρ₀ H₀ S a w →
    wpAny P .any ops (cpost N Q w₀ ρ₀ H₀) fuel S a w := by
  -- at the end all have come up
  have fin : ∀ (S : Array Bool) (a : Act) (w : World), Inv P N ops effs val Hs σ w₀ ρ₀ H₀ S a w → Region.ready .any ops S = [] → cpost N Q w₀ ρ₀ H₀ .normal a w := by
    intro S a w hI hr
    have all : ∀ j, j < ops.size → S.getD j false = true := by
      intro j
      induction j using Nat.strongRecOn with
      | _ j ih =>
        intro hj
        cases hS : S.getD j false with
        | true => rfl
        | false =>
          exfalso
          have hjS : j < S.size := by rw [hI.size]; exact hj
          have : j ∈ Region.ready .any ops S := by
            rw [mem_ready]
            refine ⟨by simpa [hjS] using hS, ops[j], Array.getElem?_eq_getElem hj, fun e he hb => ?_⟩
            have hlt := drawOk_edge hok (Array.getElem?_eq_getElem hj) he hb
            exact ih e.on hlt (by omega)
          rw [hr] at this
          cases this
    obtain ⟨ρ', σ', H', m, hs, g, hA, hB, hm, rfl, hme⟩ := hI.state
    have eσ : σ' = σs ops.size := by
      funext t
      obtain ⟨s1, s2⟩ := slots_at σ hst h0 hok ops.size (Nat.le_refl _) t
      by_cases hex : ∃ (i : Nat) (o : Oper), ops[i]? = some o ∧ o.dst = some t ∧ t < N
      · obtain ⟨i, o, ho, hd, htN⟩ := hex
        have hi := (Array.getElem?_eq_some_iff.1 ho).1
        rw [hA i t o ho (all i hi) hd htN, s1 i o hi ho hd htN]
      · have hno : ∀ (i : Nat) o, ops[i]? = some o → t < N → o.dst ≠ some t := fun i o ho htN hd => hex ⟨i, o, ho, hd, htN⟩
        rw [hB t fun i o ho _ htN => hno i o ho htN, s2 fun i o _ ho htN => hno i o ho htN]
    have eH : Hs ops.size = Hs m := heap_const' hst hm (Nat.le_refl _) fun e he h => by
      have := (hme e he).1 (all e h.2)
      omega
    exact ⟨ρ', σ', _, hs, g, by rw [eσ, ← eH]; exact hq⟩
  intro fuel
  induction fuel with
  | zero =>
    intro S a w hc hI
    have hr : Region.ready .any ops S = [] := by
      refine List.eq_nil_iff_forall_not_mem.2 fun j hj => ?_
      obtain ⟨h1, o, ho, _⟩ := mem_ready.1 hj
      have hjS : j < S.size := by rw [hI.size]; exact (Array.getElem?_eq_some_iff.1 ho).1
      have : false ∈ S.toList := by
        simp only [Array.getD, dif_pos hjS] at h1
        have h2 : S[j] = false := h1
        rw [← h2]; simp
      exact absurd (List.count_pos_iff.2 this) (by omega)
    exact ⟨hr, fin S a w hI hr⟩
  | succ fuel ih =>
    intro S a w hc hI
    refine ⟨fin S a w hI, fun j hj => ?_⟩
    obtain ⟨hjf, o, ho, hdep⟩ := mem_ready.1 hj
    have hlt : j < ops.size := (Array.getElem?_eq_some_iff.1 ho).1
    have hjS : j < S.size := by rw [hI.size]; exact hlt
    have hjf' : S.getD j false = false := by simp only [Array.getD, dif_pos hjS] at hjf ⊢; exact hjf
    have hol : ops.toList[j]? = some o := by simpa using ho
    have step := hst j o hol
    obtain ⟨ρ', σ', H', m, hs, g, hA, hB, hm, rfl, hme⟩ := hI.state
    -- its operands are as in the text's order
    have agree : ∀ t, t ∈ looks ops.toList o → σ' t = σs j t := by
      intro t ht
      obtain ⟨s1, s2⟩ := slots_at σ hst h0 hok j (by omega) t
      by_cases hex : ∃ (i : Nat) (oi : Oper), ops[i]? = some oi ∧ oi.dst = some t ∧ t < N
      · obtain ⟨i, oi, hoi, hd, htN⟩ := hex
        by_cases hij : i < j
        · obtain ⟨e, he, hb, rfl⟩ := bafter_dep ho (pair_use hok hij hoi ho hd ht)
          rw [hA _ t oi hoi (hdep e he hb) hd htN, s1 _ oi hij hoi hd htN]
        · have hnS : S.getD i false = false := by
            by_cases hije : i = j
            · rw [hije]; exact hjf'
            · cases hS : S.getD i false with
              | false => rfl
              | true =>
                obtain ⟨e, he, hb, e1⟩ := bafter_dep hoi (pair_war hok (by omega) ho hoi hd ht)
                have := hI.down i oi hoi hS e he hb
                rw [e1, hjf'] at this; cases this
          have q1 : σ' t = σ t := by
            refine hB t fun i' o' ho' hS' _ hd' => ?_
            have := pair_dst hok hoi ho' hd hd'
            subst this
            rw [hnS] at hS'; cases hS'
          have q2 : σs j t = σ t := by
            refine s2 fun i' o' hi' ho' _ hd' => ?_
            have := pair_dst hok hoi ho' hd hd'
            omega
          rw [q1, q2]
      · have hno : ∀ (i : Nat) o, ops[i]? = some o → t < N → o.dst ≠ some t := fun i o ho htN hd => hex ⟨i, o, ho, hd, htN⟩
        rw [hB t fun i o ho _ htN => hno i o ho htN, s2 fun i o _ ho htN => hno i o ho htN]
    have opnd : ∀ t, .tmp t ∈ o.op.operands.toList → σs j t = σ' t := fun t ht =>
      (agree t (List.mem_append_left _ (List.mem_filterMap.2 ⟨.tmp t, ht, rfl⟩))).symm
    -- the effects ahead of it
    have before : (insens o.op = false ∨ j ∈ effs) → ∀ e ∈ effs, e < j → e < m := by
      intro hsn e he hej
      obtain ⟨d, hd, hb, e1⟩ := bafter_dep ho (pair_eff hok hej (Array.getElem?_eq_getElem (drawOk_eff hok he)) ho he hsn)
      exact (hme e he).1 (by rw [← e1]; exact hdep d hd hb)
    have hjm : j ∈ effs → Hs m = Hs j ∧ m ≤ j := by
      intro he
      have hmj : m ≤ j := by
        rcases Nat.lt_or_ge j m with q | q
        · have := (hme j he).2 q
          rw [hjf'] at this; cases this
        · exact q
      exact ⟨(heap_const' hst hmj (by omega) fun e he' h => by have := before (.inr he) e he' h.2; omega).symm, hmj⟩
    obtain ⟨b, hgo, hrun, hskip, hloose⟩ := step.goes
    -- what it yields
    have yields : b = true → opC P o.op σ' (Hs m) (eqK (val j) (if j ∈ effs then Hs (j + 1) else Hs m)) := by
      intro hb
      refine opC_congr opnd ?_
      by_cases he : j ∈ effs
      · rw [if_pos he, (hjm he).1]
        exact hrun hb
      · rw [if_neg he]
        have h1 := hrun hb
        rw [step.same he] at h1
        cases hi : insens o.op with
        | true => exact opC_insens hi h1
        | false =>
          rcases Nat.lt_or_ge j m with q | q
          · by_cases hl : loose ops.toList effs j = true
            · exact hloose hb he hl m q (by simpa using hm)
            · have hc : Hs m = Hs j := heap_const' hst (by omega) hm fun e he' h => by
                have hje : j < e := by
                  rcases Nat.lt_or_ge j e with q' | q'
                  · exact q'
                  · have : e = j := by omega
                    subst this; exact absurd he' he
                have hSe := (hme e he').2 h.2
                refine hl ?_
                unfold loose
                simp only [hol, hi, Bool.not_false, Bool.true_and, List.any_eq_true, Bool.and_eq_true, decide_eq_true_eq, Bool.not_eq_true']
                refine ⟨e, he', hje, ?_⟩
                cases hbb : bafter ops.toList e j with
                | false => rfl
                | true =>
                  obtain ⟨d, hd, hb', e1⟩ := bafter_dep (Array.getElem?_eq_getElem (drawOk_eff hok he')) hbb
                  have := hI.down e _ (Array.getElem?_eq_getElem (drawOk_eff hok he')) hSe d hd hb'
                  rw [e1, hjf'] at this; cases this
              rw [hc]; exact h1
          · have hc : Hs j = Hs m := heap_const' hst q (by omega) fun e he' h => by
              have := before (.inl hi) e he' h.2
              omega
            rw [← hc]; exact h1
    -- what stands behind it
    have next : ∀ (v : Value) (w' : World) (ρ'' : Nat → Nat), Sim ρ'' (if j ∈ effs then Hs (j + 1) else Hs m) w' → Evo w ρ' (Hs m) w' ρ'' (if j ∈ effs then Hs (j + 1) else Hs m) →
        VR w' ρ'' (if j ∈ effs then Hs (j + 1) else Hs m) (val j) v → wpAny P .any ops (cpost N Q w₀ ρ₀ H₀) fuel (S.setIfInBounds j true) (a.put o.dst v) w' := by
      intro v w' ρ'' s' g' hv
      have hget : ∀ i, (S.setIfInBounds j true).getD i false = if i = j then true else S.getD i false := by
        intro i
        by_cases hij : i = j
        · subst hij; simp [hjS]
        · rw [if_neg hij, getD_set_ne _ (Ne.symm hij)]
      refine ih _ _ _ ?_ ⟨by simp [hI.size], ?_, ?_⟩
      · have hcs : (S.setIfInBounds j true).toList = S.toList.set j true := by simp
        rw [hcs]
        have hSj : S.toList[j]'(by simpa using hjS) = false := by
          simp only [Array.getD, dif_pos hjS] at hjf'
          simpa using hjf'
        rw [List.count_set (by simpa using hjS)]
        simp [hSj]
        have : S.toList.count false = S.count false := by simp
        omega
      · intro i oi hoi hSi e he hb
        rw [hget] at hSi ⊢
        by_cases hij : i = j
        · subst hij
          rw [ho] at hoi; cases hoi
          split
          · rfl
          · exact hdep e he hb
        · rw [if_neg hij] at hSi
          split
          · rfl
          · exact hI.down i oi hoi hSi e he hb
      · refine ⟨ρ'', aput N σ' o.dst (val j), _, if j ∈ effs then j + 1 else m, hs.put g' s' _ hv, g.trans g', ?_, ?_, ?_, ?_, ?_⟩
        · intro i t oi hoi hSi hd htN
          rw [hget] at hSi
          unfold aput
          by_cases hij : i = j
          · subst hij
            rw [ho] at hoi; cases hoi
            rw [hd]
            simp only
            rw [if_pos htN, upd_apply, if_pos rfl]
          · rw [if_neg hij] at hSi
            have hold := hA i t oi hoi hSi hd htN
            cases hdo : o.dst with
            | none => exact hold
            | some d =>
              simp only
              split
              · rw [upd_apply, if_neg]
                · exact hold
                · rintro rfl
                  exact hij (pair_dst hok hoi ho hd hdo)
              · exact hold
        · intro t hno
          have hold := hB t fun i oi hoi hSi htN => hno i oi hoi (by
            rw [hget]
            split
            · rfl
            · exact hSi) htN
          unfold aput
          cases hdo : o.dst with
          | none => exact hold
          | some d =>
            simp only
            split
            · rename_i hdN
              rw [upd_apply, if_neg]
              · exact hold
              · rintro rfl
                exact hno j o ho (by rw [hget, if_pos rfl]) hdN hdo
            · exact hold
        · split <;> omega
        · split <;> rfl
        · intro e he
          rw [hget]
          by_cases hj' : j ∈ effs
          · rw [if_pos hj']
            obtain ⟨_, hmj⟩ := hjm hj'
            by_cases hej : e = j
            · subst hej; simp
            · rw [if_neg hej, hme e he]
              constructor
              · intro h; omega
              · intro h; exact before (.inr hj') e he (by omega)
          · rw [if_neg hj', if_neg (fun e1 : e = j => hj' (e1 ▸ he))]
            exact hme e he
    -- the guard
    have hwant : Region.wanted o (yielded ops a.tmps) = b := by
      unfold Goes at hgo
      unfold Region.wanted
      cases hgd : o.guard with
      | none => rw [hgd] at hgo; simp at hgo; rw [hgo]
      | some gw =>
        obtain ⟨gj, want⟩ := gw
        rw [hgd] at hgo
        obtain ⟨t, x, ht, htN, hx, rfl⟩ := hgo
        have htl : t ∈ looks ops.toList o := by
          refine List.mem_append_right _ ?_
          rw [hgd]
          show t ∈ (gslot ops.toList gj).toList
          rw [ht]
          simp
        have hvt := hs.slot t
        rw [agree t htl, hx] at hvt
        have hvt' := hvt.inv_b
        have htsz : t < a.tmps.size := by rw [hs.size]; exact htN
        simp only
        unfold yielded
        unfold gslot at ht
        simp only [Array.getElem?_toList] at ht
        rw [ht]
        rw [Array.getD, dif_pos htsz] at hvt'
        have hvt2 : a.tmps[t] = Value.bool x := hvt'
        simp [Array.getElem?_eq_getElem htsz, hvt2]
    unfold wpOp
    simp only [ho, hwant]
    cases b with
    | true =>
      simp only [if_true]
      refine .inl (opC_sound (N := N) (yields rfl) a w ρ' hs _ _ fun v w' ρ'' x H'' hk s' g' hv => ?_)
      obtain ⟨rfl, rfl⟩ := hk
      exact next v w' ρ'' s' g' hv
    | false =>
      simp only [Bool.false_eq_true, if_false]
      obtain ⟨hv, hsame⟩ := hskip rfl
      have e1 : (if j ∈ effs then Hs (j + 1) else Hs m) = Hs m := by
        split
        · rename_i he; rw [hsame, (hjm he).1]
        · rfl
      refine next _ w ρ' (by rw [e1]; exact hs.sim) (by rw [e1]; exact .refl _ _ _) (by rw [hv]; exact .any _)

end

theorem AWP.draw {P : Program} {N id : Nat} {ops : Array Oper} {σ : Slots} {H : List Obj} {Q : Post} (effs : List Nat) (hm : P.follows .mixedOrders = true) (hok : drawOk ops effs = true)
    (h : drawC P N ops.toList effs 0 [] ops.toList σ H (Q .normal)) : AWP P N (.region id ops true) σ H Q := by
  intro a w ρ hs
  refine wp_region_any hm ?_
  obtain ⟨val, Hs, σs, e1, e2, hk, _, hst⟩ := drawC_run ops.toList 0 [] σ H rfl (by simp) h
  simp only [Nat.zero_add, Array.length_toList] at hk
  have hE : Evo w ρ H { w with drawn := w.drawn + 1 } ρ H :=
    ⟨Nat.le_refl _, Nat.le_refl _, fun _ _ h => ⟨rfl, h⟩, fun _ h => h, fun _ _ es h => .inr ⟨es, h, Nat.le_refl _, fun _ => ⟨rfl, rfl⟩⟩, fun _ es h => .inr ⟨es, h, rfl⟩, rfl, rfl, rfl⟩
  have hS : Sim ρ H { w with drawn := w.drawn + 1 } := by
    refine ⟨hs.sim.inj, fun o k es ho => ?_, fun o es ho => ?_⟩
    · obtain ⟨arr, t, a1, a2, a3, a4⟩ := hs.sim.row o k es ho
      exact ⟨arr, t, a1, a2, a3, fun i e j x h1 h2 => let ⟨v, hv, hx⟩ := a4 i e j x h1 h2; ⟨v, hv, hx.evo hE⟩⟩
    · obtain ⟨ents, c, a1, a2, a3⟩ := hs.sim.map o es ho
      exact ⟨ents, c, a1, a2, fun i kx h1 => let ⟨en, h2, h3, h4⟩ := a3 i kx h1; ⟨en, h2, h3.evo hE, h4.evo hE⟩⟩
  have hrep : ∀ i, (Array.replicate ops.size false).getD i false = false := by
    intro i
    by_cases hi : i < ops.size <;> simp [Array.getD, hi]
  refine any_sound (σ := σ) hok (fun j o ho => hst j o (Nat.zero_le _) ho) e1 hk ops.size _ a _ (by simp) ⟨by simp, ?_, ρ, σ, H, 0, ⟨hs.defers, hs.size, fun t => (hs.slot t).evo hE, hS⟩, hE, ?_, fun _ _ => rfl, Nat.zero_le _, e2.symm, ?_⟩
  · intro j o _ hj
    rw [hrep] at hj; cases hj
  · intro i t o _ hi
    rw [hrep] at hi; cases hi
  · intro e _
    rw [hrep]
    simp

end Go.TL
