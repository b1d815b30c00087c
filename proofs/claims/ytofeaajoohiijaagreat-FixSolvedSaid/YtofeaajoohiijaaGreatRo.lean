/- The queue of constraints: walks. -/
import Derived.Test.YtofeaajoohiijaaGreatRn
namespace Go.TL
open Go Go.Proofs
set_option maxRecDepth 4000

def uget : List (Int × List Int) → Int → Option (List Int)
  | [], _ => none
  | e :: l, n => if n = e.1 then some e.2 else uget l n
/-- A constraint more that has a variable. -/
def uput : List (Int × List Int) → Int → Int → List (Int × List Int)
  | [], n, x => [(n, [x])]
  | e :: l, n, x => if n = e.1 then (e.1, e.2 ++ [x]) :: l else e :: uput l n x

theorem uget_uput : ∀ (l : List (Int × List Int)) (n x m : Int), uget (uput l n x) m = if m = n then some ((uget l n).getD [] ++ [x]) else uget l m
  | [], n, x, m => by simp [uput, uget]
  | e :: l, n, x, m => by
    have ih := uget_uput l n x m
    unfold uput
    by_cases h : n = e.1
    · rw [if_pos h]
      by_cases hm : m = e.1
      · simp [uget, h, hm]
      · simp [uget, h, hm]
    · rw [if_neg h]
      by_cases hm : m = e.1
      · have : ¬ m = n := by rw [hm]; exact fun h' => h h'.symm
        simp [uget, hm, h]
        intro h'; exact absurd h'.symm h
      · simp only [uget, if_neg hm, ih, if_neg h]

theorem iget_iput : ∀ (l : List (Int × V)) (n : Int) (x : V) (m : Int), iget (iput l n x) m = if m = n then some x else iget l m
  | [], n, x, m => by simp [iput, iget]
  | e :: l, n, x, m => by
    have ih := iget_iput l n x m
    unfold iput
    by_cases h : n = e.1
    · rw [if_pos h]
      by_cases hm : m = e.1 <;> simp [iget, h, hm]
    · rw [if_neg h]
      by_cases hm : m = e.1
      · simp [iget, hm, h]
        intro h'; exact absurd h'.symm h
      · simp only [iget, if_neg hm, ih]

def addI (l : List Int) (i : Int) : List Int := if i ∈ l then l else l ++ [i]
theorem iput_addI (n : Int) : ∀ l, iput (seenV l) n (.b true) = seenV (addI l n) := by
  intro l
  unfold addI
  split
  · rename_i h
    induction l with
    | nil => cases h
    | cons e l ih =>
      simp only [seenV, List.map_cons, iput] at ih ⊢
      by_cases hn : n = e
      · simp [hn]
      · rw [if_neg hn, ih (by simpa [hn] using h)]
  · rename_i h
    exact iput_seenV n l h
theorem idel_seenV (n : Int) : ∀ l, idel (seenV l) n = seenV (l.erase n)
  | [] => rfl
  | e :: l => by
    have ih := idel_seenV n l
    simp only [seenV, List.map_cons, idel] at ih ⊢
    by_cases hn : n = e
    · subst hn; simp
    · rw [if_neg hn, List.erase_cons_tail (by simpa using fun h => hn h.symm), ih]; rfl

structure UInv (base : Nat) (H : List Obj) (us : List (Int × V)) (U : List (Int × List Int)) : Prop where
  no : ∀ v, uget U v = none → iget us v = none
  so : ∀ v xs, uget U v = some xs → xs ≠ [] ∧ ∃ o, iget us v = some (.sl o xs.length 0 xs.length none) ∧ base ≤ o ∧ H[o]? = some (.row 1 (xs.map vint))
  inj : ∀ v v' o n n', iget us v = some (.sl o n 0 n none) → iget us v' = some (.sl o n' 0 n' none) → v = v'

structure QInv (H0 H : List Obj) (l : V) (oQ oO oU : Nat) (us : List (Int × V)) (op : List Int) (U : List (Int × List Int)) : Prop where
  hq : H[oQ]? = some (.row 3 [.agg [l, .map oO, .map oU]])
  ho : H[oO]? = some (.map (imap (seenV op)))
  hu : H[oU]? = some (.map (imap us))
  use : UInv H0.length H us U
  ne : oO ≠ oU
  bq : H0.length ≤ oQ
  bo : H0.length ≤ oO
  bu : H0.length ≤ oU
  pre : ∃ news, H = H0 ++ news

variable {H0 H : List Obj} {l : V} {oQ oO oU : Nat} {us : List (Int × V)} {op : List Int} {U : List (Int × List Int)}

theorem pre_set (h : ∃ news, H = H0 ++ news) {o : Nat} (ho : H0.length ≤ o) (ob : Obj) : ∃ news, H.set o ob = H0 ++ news := by
  obtain ⟨news, rfl⟩ := h
  exact ⟨_, List.set_append_right _ _ ho⟩

theorem QInv.setOp (h : QInv H0 H l oQ oO oU us op U) (op' : List Int) : QInv H0 (H.set oO (.map (imap (seenV op')))) l oQ oO oU us op' U := by
  have key : ∀ {o k : Nat} {es : List V}, H[o]? = some (Go.TL.Obj.row k es) → (H.set oO (.map (imap (seenV op'))))[o]? = some (.row k es) := by
    intro o k es ho
    rw [List.getElem?_set_ne]; exact ho
    rintro rfl; rw [h.ho] at ho; cases ho
  refine ⟨key h.hq, by simp [(List.getElem?_eq_some_iff.1 h.ho).1], by rw [List.getElem?_set_ne h.ne]; exact h.hu, ⟨h.use.no, fun v xs hx => ?_, h.use.inj⟩, h.ne, h.bq, h.bo, h.bu, pre_set h.pre h.bo _⟩
  obtain ⟨h1, o, h2, h3, h4⟩ := h.use.so v xs hx
  exact ⟨h1, o, h2, h3, key h4⟩

/-- Other objects behind. -/
theorem QInv.more (h : QInv H0 H l oQ oO oU us op U) (n : List Obj) : QInv H0 (H ++ n) l oQ oO oU us op U := by
  have key : ∀ {o : Nat} {ob : Obj}, H[o]? = some ob → (H ++ n)[o]? = some ob := by
    intro o ob ho; rw [List.getElem?_append_left (List.getElem?_eq_some_iff.1 ho).1]; exact ho
  refine ⟨key h.hq, key h.ho, key h.hu, ⟨h.use.no, fun v xs hx => ?_, h.use.inj⟩, h.ne, h.bq, h.bo, h.bu, ?_⟩
  · obtain ⟨h1, o, h2, h3, h4⟩ := h.use.so v xs hx
    exact ⟨h1, o, h2, h3, key h4⟩
  · obtain ⟨m, rfl⟩ := h.pre
    exact ⟨m ++ n, by simp⟩

theorem appendV_mono {k : Nat} {x : V} {ys : List V} {H : List Obj} {K K' : V → List Obj → Prop} (h : appendV k x ys H K) (hk : ∀ x G, K x G → K' x G) : appendV k x ys H K' := by
  unfold appendV at h ⊢
  cases x with
  | emp => exact hk _ _ h
  | sl o n off len cap =>
    simp only at h ⊢
    split at h
    · obtain ⟨h1, h2, h3, h4⟩ := h
      refine ⟨h1, h2, h3, ?_⟩
      cases cap with
      | none =>
        simp only at h4 ⊢
        refine ⟨h4.1, ?_⟩
        have h5 := h4.2
        by_cases hb : n < off + len + ys.length
        · rw [if_pos hb] at h5 ⊢; exact ⟨h5.1, hk _ _ h5.2⟩
        · rw [if_neg hb] at h5 ⊢; exact hk _ _ h5
      | some c => exact ⟨h4.1, hk _ _ h4.2⟩
    · exact h
  | _ => exact h

/-- A constraint more in the map of uses. -/
theorem QInv.put (h : QInv H0 H l oQ oO oU us op U) (v i : Int) :
    appendV 1 ((iget us v).getD .emp) [vint i] H fun x' G' => G'[oU]? = some (.map (imap us)) ∧ QInv H0 (G'.set oU (.map (imap (iput us v x')))) l oQ oO oU (iput us v x') op (uput U v i) := by
  have hQl := (List.getElem?_eq_some_iff.1 h.hq).1
  have hOl := (List.getElem?_eq_some_iff.1 h.ho).1
  have hUl := (List.getElem?_eq_some_iff.1 h.hu).1
  have hQU : oU ≠ oQ := by rintro rfl; have := h.hu; rw [h.hq] at this; cases this
  have hlen : H0.length ≤ H.length := Nat.le_trans h.bq (Nat.le_of_lt hQl)
  rcases hu : uget U v with _ | xs
  · have hn := h.use.no v hu
    rw [hn]
    refine ⟨by rw [List.getElem?_append_left hUl]; exact h.hu, ?_⟩
    have hfr : ∀ w xs, uget U w = some xs → ∃ o, iget us w = some (.sl o xs.length 0 xs.length none) ∧ H0.length ≤ o ∧ o < H.length ∧ H[o]? = some (.row 1 (xs.map vint)) := by
      intro w xs hw
      obtain ⟨_, o, h2, h3, h4⟩ := h.use.so w xs hw
      exact ⟨o, h2, h3, (List.getElem?_eq_some_iff.1 h4).1, h4⟩
    refine ⟨by rw [List.getElem?_set_ne hQU, List.getElem?_append_left hQl]; exact h.hq, by rw [List.getElem?_set_ne h.ne.symm, List.getElem?_append_left hOl]; exact h.ho, List.getElem?_set_self (by first | exact Nat.lt_of_lt_of_le hUl (by simp) | simpa using hUl), ⟨?_, ?_, ?_⟩, h.ne, h.bq, h.bo, h.bu, ?_⟩
    · intro w hw
      rw [uget_uput] at hw
      split at hw
      · cases hw
      · rename_i hwv; rw [iget_iput, if_neg hwv]; exact h.use.no w hw
    · intro w ys hw
      rw [uget_uput] at hw
      split at hw
      · rename_i hwv
        rw [hu] at hw
        cases hw
        refine ⟨by simp, H.length, by rw [iget_iput, if_pos hwv]; rfl, hlen, ?_⟩
        rw [List.getElem?_set_ne (by omega)]; simp
      · rename_i hwv
        obtain ⟨h1, o, h2, h3, h4⟩ := h.use.so w ys hw
        refine ⟨h1, o, by rw [iget_iput, if_neg hwv]; exact h2, h3, ?_⟩
        rw [List.getElem?_set_ne, List.getElem?_append_left (List.getElem?_eq_some_iff.1 h4).1]; exact h4
        rintro rfl; rw [h.hu] at h4; cases h4
    · intro w w' o n n' hw hw'
      rw [iget_iput] at hw hw'
      have hlt : ∀ u m, iget us u = some (.sl o m 0 m none) → o < H.length := by
        intro u m hm
        rcases hq : uget U u with _ | xs
        · rw [h.use.no u hq] at hm; cases hm
        · obtain ⟨o', h1, _, h3, _⟩ := hfr u xs hq
          rw [h1] at hm; cases hm; exact h3
      by_cases a : w = v <;> by_cases b : w' = v
      · rw [a, b]
      · rw [if_pos a] at hw; rw [if_neg b] at hw'
        cases hw; exact absurd (hlt _ _ hw') (by omega)
      · rw [if_neg a] at hw; rw [if_pos b] at hw'
        cases hw'; exact absurd (hlt _ _ hw) (by omega)
      · rw [if_neg a] at hw; rw [if_neg b] at hw'
        exact h.use.inj w w' o n n' hw hw'
    · exact pre_set (by obtain ⟨m, rfl⟩ := h.pre; exact ⟨m ++ _, by rw [List.append_assoc]⟩) h.bu _
  · obtain ⟨hne, o, h2, h3, h4⟩ := h.use.so v xs hu
    have hol := (List.getElem?_eq_some_iff.1 h4).1
    have hoQ : o ≠ oQ := by rintro rfl; rw [h.hq] at h4; simp at h4
    have hoO : o ≠ oO := by rintro rfl; rw [h.ho] at h4; cases h4
    have hoU : o ≠ oU := by rintro rfl; rw [h.hu] at h4; cases h4
    rw [h2]
    unfold appendV
    simp only [Option.getD_some, h4]
    refine ⟨trivial, by simp, by omega, by simp [storable, vint], ?_⟩
    rw [if_pos (by simp)]
    refine ⟨trivial, by rw [List.getElem?_set_ne hoU]; exact h.hu, ?_⟩
    have htk : (xs.map vint).take xs.length = xs.map vint := List.take_of_length_le (by simp)
    rw [htk]
    refine ⟨by rw [List.getElem?_set_ne hQU, List.getElem?_set_ne hoQ]; exact h.hq, by rw [List.getElem?_set_ne h.ne.symm, List.getElem?_set_ne hoO]; exact h.ho, List.getElem?_set_self (by first | exact Nat.lt_of_lt_of_le hUl (by simp) | simpa using hUl), ⟨?_, ?_, ?_⟩, h.ne, h.bq, h.bo, h.bu, pre_set (pre_set h.pre h3 _) h.bu _⟩
    · intro w hw
      rw [uget_uput] at hw
      split at hw
      · cases hw
      · rename_i hwv; rw [iget_iput, if_neg hwv]; exact h.use.no w hw
    · intro w ys hw
      rw [uget_uput] at hw
      split at hw
      · rename_i hwv
        rw [hu] at hw
        cases hw
        refine ⟨by simp, o, by rw [iget_iput, if_pos hwv]; simp, h3, ?_⟩
        rw [List.getElem?_set_ne (Ne.symm hoU)]; simp [hol]
      · rename_i hwv
        obtain ⟨h1, o', h2', h3', h4'⟩ := h.use.so w ys hw
        refine ⟨h1, o', by rw [iget_iput, if_neg hwv]; exact h2', h3', ?_⟩
        have : o ≠ o' := by rintro rfl; exact hwv (h.use.inj w v o _ _ h2' h2)
        rw [List.getElem?_set_ne, List.getElem?_set_ne this]; exact h4'
        rintro rfl; rw [h.hu] at h4'; cases h4'
    · intro w w' o' n n' hw hw'
      rw [iget_iput] at hw hw'
      by_cases a : w = v <;> by_cases b : w' = v
      · rw [a, b]
      · rw [if_pos a] at hw; rw [if_neg b] at hw'
        cases hw; rw [a]; exact (h.use.inj w' v o _ _ hw' h2).symm
      · rw [if_neg a] at hw; rw [if_pos b] at hw'
        cases hw'; rw [b]; exact h.use.inj w v o _ _ hw h2
      · rw [if_neg a] at hw; rw [if_neg b] at hw'
        exact h.use.inj w w' o' n n' hw hw'

end Go.TL
