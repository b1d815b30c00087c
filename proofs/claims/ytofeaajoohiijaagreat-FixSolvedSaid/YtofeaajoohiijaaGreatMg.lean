/- Domains stay small: the plain side. -/
import Derived.Test.YtofeaajoohiijaaGreatRm
namespace Go.TL
open Go

theorem meetF_small : ∀ (n : Nat) (a b : Dom), smallRg a → smallRg (meetF n a b)
  | 0, _, _, _ => by intro r hr; simp [meetF] at hr
  | n + 1, [], _, _ => by intro r hr; simp [meetF] at hr
  | n + 1, _ :: _, [], _ => by intro r hr; simp [meetF] at hr
  | n + 1, x :: a, y :: b, h => by
    intro r hr
    unfold meetF at hr
    rw [List.mem_append] at hr
    rcases hr with hr | hr
    · have hx := h x (by simp)
      split at hr
      · simp at hr; subst hr
        simp only [maxInt, minInt]
        constructor
        · split <;> omega
        · split <;> omega
      · cases hr
    · split at hr
      · exact meetF_small n a (y :: b) (fun r hr => h r (by simp [hr])) r hr
      · exact meetF_small n (x :: a) b h r hr

theorem cut_small {d : Dom} (h : smallRg d) (lo hi : Int) : smallRg (cut d lo hi) := by
  unfold cut meet
  split
  · intro r hr; cases hr
  · exact meetF_small _ _ _ h
theorem mostCut_small {d : Dom} (h : smallRg d) (k r : Int) : smallRg (mostCut d k r) := by unfold mostCut; split <;> exact cut_small h _ _

theorem at_small {d : List Dom} (h : smallDoms d) (v : Int) : (at' d v).length ≤ 1048576 ∧ smallRg (at' d v) := by
  unfold at'
  rw [List.getD_eq_getElem?_getD]
  cases hg : d[v.toNat]? with
  | none => exact ⟨by simp, fun r hr => by simp at hr⟩
  | some y => exact h y (List.mem_of_getElem? hg)

theorem set_small {d : List Dom} (h : smallDoms d) (i : Nat) {y : Dom} (hy : y.length ≤ 1048576 ∧ smallRg y) : smallDoms (d.set i y) := by
  intro z hz
  rcases List.mem_or_eq_of_mem_set hz with hz | rfl
  · exact h z hz
  · exact hy

theorem mostF_small (low rhs : Int) : ∀ (vs ks : List Int) (d : List Dom) (ch : Bool), smallDoms d → (mostF low rhs vs ks d ch).2.2.length = d.length ∧ smallDoms (mostF low rhs vs ks d ch).2.2
  | [], _, d, ch, h => by simp [mostF]; exact h
  | _ :: _, [], d, ch, h => by simp [mostF]; exact h
  | v :: vs, k :: ks, d, ch, h => by
    unfold mostF
    split
    · exact ⟨rfl, h⟩
    · have := mostF_small low rhs vs ks (d.set v.toNat (mostCut (at' d v) k (w64 (rhs - w64 (low - (endM (at' d v) k false).1))))) (ch || !decide (mostCut (at' d v) k (w64 (rhs - w64 (low - (endM (at' d v) k false).1))) = at' d v))
        (set_small h _ ⟨Nat.le_trans (mostCut_le _ _ _) (at_small h v).1, mostCut_small (at_small h v).2 _ _⟩)
      rw [List.length_set] at this
      exact this
theorem mostM_small {d : List Dom} (h : smallDoms d) (vs ks : List Int) (rhs : Int) : (mostM d vs ks rhs).2.2.length = d.length ∧ smallDoms (mostM d vs ks rhs).2.2 := mostF_small _ _ _ _ _ _ h

theorem roundsM_small (c : Con) : ∀ (n : Nat) (d d' : List Dom), smallDoms d → roundsM c n d = some (some d') → d'.length = d.length ∧ smallDoms d'
  | 0, _, _, _, h => by cases h
  | n + 1, d, d', hd, h => by
    unfold roundsM at h
    have h1 := mostM_small hd c.vars c.coefs c.rhs
    have h2 := mostM_small h1.2 c.vars (turnedM c.coefs) (w64 (-c.rhs))
    split at h
    · cases h
    · split at h
      · cases h; exact h1
      · split at h
        · cases h
        · split at h
          · cases h; exact ⟨h2.1.trans h1.1, h2.2⟩
          · have h3 := roundsM_small c n _ d' h2.2 h
            exact ⟨h3.1.trans (h2.1.trans h1.1), h3.2⟩

theorem minusOne_small {d : Dom} (hl : d.length ≤ 1048576) (h : smallRg d) (x : Int) : smallRg (minus d [⟨x, x⟩]) := by
  have key : ∀ (a out : Dom), smallRg a → smallRg out → smallRg (a.foldl (minus1 [⟨x, x⟩]) out) := by
    intro a
    induction a with
    | nil => intro out _ ho; exact ho
    | cons r a ih =>
      intro out ha ho
      refine ih _ (fun q hq => ha q (by simp [hq])) ?_
      have hr := ha r (by simp)
      intro q hq
      unfold minus1 at hq
      simp only [List.foldl_cons, List.foldl_nil, minusStep] at hq
      by_cases h1 : x < r.lo ∨ r.hi < x
      · simp only [if_pos h1] at hq
        split at hq
        · rw [List.mem_append] at hq
          rcases hq with hq | hq
          · exact ho q hq
          · simp at hq; subst hq; exact hr
        · exact ho q hq
      · simp only [if_neg h1] at hq
        have hx1 : r.lo ≤ x := by omega
        have hx2 : x ≤ r.hi := by omega
        have w1 : w64 (x - 1) = x - 1 := w64_id (by omega) (by omega)
        have w2 : w64 (x + 1) = x + 1 := w64_id (by omega) (by omega)
        rw [w1, w2] at hq
        have ho2 : ∀ q ∈ (if r.lo < x then out ++ [(⟨r.lo, x - 1⟩ : Rg)] else out), -4611686018427387904 ≤ q.lo ∧ q.hi ≤ 4611686018427387904 := by
          intro q hq
          split at hq
          · rw [List.mem_append] at hq
            rcases hq with hq | hq
            · exact ho q hq
            · simp at hq; subst hq; simp only; omega
          · exact ho q hq
        split at hq
        · rw [List.mem_append] at hq
          rcases hq with hq | hq
          · exact ho2 q hq
          · simp at hq; subst hq; simp only; omega
        · exact ho2 q hq
  exact key d [] h (fun q hq => by cases hq)

theorem packStep_small {out : Dom} {v : Int} (ho : smallRg out) (hv : valueM v = true) : smallRg (packStep out v) := by
  simp [valueM] at hv
  intro q hq
  unfold packStep at hq
  split at hq
  · simp at hq; subst hq; simp only; omega
  · rename_i r hr
    have hrm : r ∈ out := List.mem_of_getLast? hr
    split at hq
    · exact ho q hq
    · split at hq
      · rw [List.mem_append] at hq
        rcases hq with hq | hq
        · exact ho q ((List.dropLast_sublist out).subset hq)
        · simp at hq; subst hq
          have := ho r hrm
          simp only; omega
      · rw [List.mem_append] at hq
        rcases hq with hq | hq
        · exact ho q hq
        · simp at hq; subst hq; simp only; omega

theorem packedM_small {l : List Int} (h : ∀ v ∈ l, valueM v = true) : smallRg (packedM l) := by
  unfold packedM
  have key : ∀ (l : List Int) (out : Dom), (∀ v ∈ l, valueM v = true) → smallRg out → smallRg (l.foldl packStep out) := by
    intro l
    induction l with
    | nil => intro out _ h; exact h
    | cons v l ih => intro out h ho; exact ih _ (fun w hw => h w (by simp [hw])) (packStep_small ho (h v (by simp)))
  exact key l [] h (fun q hq => by cases hq)

theorem ofM_small (l : List Int) (hl : l.length ≤ 1048576) : (ofM l).1.length ≤ 1048576 ∧ smallRg (ofM l).1 := by
  unfold ofM
  split
  · exact ⟨by simp, fun q hq => by cases hq⟩
  · rename_i h
    split
    · exact ⟨by simp, fun q hq => by cases hq⟩
    · refine ⟨Nat.le_trans (packedM_le _) (by rw [sortI_length]; exact hl), packedM_small fun v hv => ?_⟩
      rw [mem_sortI] at hv
      simp at h
      exact h v hv

theorem allF_small (l : List (List Int)) (hl : ∀ r ∈ l, r.length ≤ 4097) (n : Nat) : ∀ (vs : List Int) (i : Nat) (d d' : List Dom), smallDoms d → allF l n i vs d = some d' → d'.length = d.length ∧ smallDoms d'
  | [], i, d, d', hd, h => by simp [allF] at h; subst h; exact ⟨rfl, hd⟩
  | v :: vs, i, d, d', hd, h => by
    unfold allF at h
    split at h
    · cases h
    · rename_i left hlf
      have hle := leftF_le l n i _ _ _ hlf
      have hgl : (l.getD i []).length ≤ 4097 := by
        rw [List.getD_eq_getElem?_getD]
        cases hg : l[i]? with
        | none => simp
        | some r => exact hl r (List.mem_of_getElem? hg)
      have := allF_small l hl n vs (i + 1) _ d' (set_small hd v.toNat (ofM_small left (by simp only [List.length_nil, Nat.add_zero] at hle; omega))) h
      rw [List.length_set] at this
      exact this

theorem allM_small {n : Nat} {d d' : List Dom} {c : Con} (hd : smallDoms d) (h : allM n d c = some (some d')) : d'.length = d.length ∧ smallDoms d' := by
  unfold allM at h
  split at h
  · cases h
  · split at h
    · cases h
    · cases h
    · simp only [Option.map_eq_some_iff] at h
      obtain ⟨x, h, e⟩ := h
      cases e
      refine allF_small _ ?_ n c.vars 0 d _ hd h
      intro r hr
      obtain ⟨v, _, rfl⟩ := List.mem_map.1 hr
      exact valsM_le _

theorem linM_small {n : Nat} {d d' : List Dom} {c : Con} (hop : c.op ≠ 2) (hd : smallDoms d) (h : linM n d c = some (some d')) : d'.length = d.length ∧ smallDoms d' := by
  unfold linM at h
  by_cases hE : [] ∈ d
  · rw [if_pos hE] at h; cases h
  · rw [if_neg hE, if_neg hop] at h
    exact roundsM_small c n d d' hd h

end Go.TL
