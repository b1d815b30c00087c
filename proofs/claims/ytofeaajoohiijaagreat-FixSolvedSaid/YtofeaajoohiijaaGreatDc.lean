/- Slices that grow, among other objects. -/
import Derived.Test.YtofeaajoohiijaaGreatDa
namespace Go.TL
open Go

def NotIn (x : V) (p : Nat) : Prop := ∀ n off len c, x ≠ .sl p n off len c

theorem NotIn.emp (p : Nat) : NotIn .emp p := by intro _ _ _ _ h; cases h

structure Acc (H : List Obj) (k : Nat) (G : List Obj) (x : V) (xs : List V) : Prop where
  pre : ∃ news, G = H ++ news
  row : (xs = [] ∧ x = .emp) ∨ ∃ o, H.length ≤ o ∧ G[o]? = some (.row k xs) ∧ x = .sl o xs.length 0 xs.length none

theorem Acc.nil (H : List Obj) (k : Nat) : Acc H k H .emp [] := ⟨⟨[], by simp⟩, .inl ⟨rfl, rfl⟩⟩

variable {H G : List Obj} {k : Nat} {x : V} {xs : List V}

theorem Acc.lenV (h : Acc H k G x xs) : lenV x = xs.length := by
  rcases h.row with ⟨rfl, rfl⟩ | ⟨o, _, _, rfl⟩ <;> rfl

theorem Acc.more (h : Acc H k G x xs) (ob : Obj) : Acc H k (G ++ [ob]) x xs := by
  obtain ⟨⟨news, rfl⟩, h⟩ := h
  refine ⟨⟨news ++ [ob], by simp⟩, h.imp id ?_⟩
  rintro ⟨o, h1, h2, rfl⟩
  exact ⟨o, h1, by rw [List.getElem?_append_left (List.getElem?_eq_some_iff.1 h2).1]; exact h2, rfl⟩

theorem Acc.lt (h : Acc H k G x xs) {o n off len : Nat} {c : Option Nat} (hx : x = .sl o n off len c) : o < G.length := by
  rcases h.row with ⟨rfl, rfl⟩ | ⟨o, _, h2, rfl⟩
  · cases hx
  · cases hx; exact (List.getElem?_eq_some_iff.1 h2).1

theorem Acc.fresh (h : Acc H k G x xs) : NotIn x G.length := by
  intro n off len c hx
  have := h.lt hx
  omega

theorem Acc.set (h : Acc H k G x xs) {p : Nat} (hp : H.length ≤ p) (hn : NotIn x p) (ob : Obj) : Acc H k (G.set p ob) x xs := by
  obtain ⟨⟨news, rfl⟩, h⟩ := h
  refine ⟨⟨news.set (p - H.length) ob, by rw [List.set_append_right _ _ hp]⟩, h.imp id ?_⟩
  rintro ⟨o, h1, h2, rfl⟩
  refine ⟨o, h1, ?_, rfl⟩
  have : p ≠ o := by rintro rfl; exact hn _ _ _ _ rfl
  rw [List.getElem?_set_ne this]
  exact h2

theorem Acc.le (h : Acc H k G x xs) : H.length ≤ G.length := by
  obtain ⟨news, rfl⟩ := h.pre
  simp

theorem Acc.app (h : Acc H k G x xs) {ys : List V} (hy : ys ≠ []) (hs : ∀ a ∈ ys, ∀ c ∈ cellsOf a, storable c = true) {K : V → List Obj → Prop}
    (hK : ∀ x' G', Acc H k G' x' (xs ++ ys) → G.length ≤ G'.length → (∀ p, p < G.length → NotIn x p → G'[p]? = G[p]? ∧ NotIn x' p) → K x' G') : appendV k x ys G K := by
  have hpos : 0 < ys.length := List.length_pos_iff.2 hy
  have hle := h.le
  obtain ⟨⟨news, hG⟩, h⟩ := h
  rcases h with ⟨rfl, rfl⟩ | ⟨o, h1, h2, rfl⟩
  · refine hK _ _ ⟨⟨news ++ [.row k ys], by rw [hG]; simp⟩, .inr ⟨G.length, hle, by simp, by simp⟩⟩ (by simp) fun p hp _ => ⟨List.getElem?_append_left hp, ?_⟩
    intro n off len c e
    cases e
    exact Nat.lt_irrefl _ hp
  · have hol : o < G.length := (List.getElem?_eq_some_iff.1 h2).1
    unfold appendV
    simp only [h2]
    refine ⟨trivial, trivial, by omega, hs, ?_⟩
    rw [if_pos (by omega)]
    refine ⟨trivial, ?_⟩
    rw [List.take_length]
    refine hK _ _ ⟨⟨news.set (o - H.length) (.row k (xs ++ ys)), by rw [hG, List.set_append_right _ _ h1]⟩, .inr ⟨o, h1, by simp [hol], by simp⟩⟩ (by simp) fun p hp hn => ?_
    have : o ≠ p := by rintro rfl; exact hn _ _ _ _ rfl
    refine ⟨List.getElem?_set_ne this, ?_⟩
    intro n off len c e
    cases e
    exact this rfl

theorem Acc.frz (h : Acc H k G x xs) (hc : ∀ x ∈ xs, Closed x) : Frz H.length G x (.lst xs) := by
  rcases h.row with ⟨rfl, rfl⟩ | ⟨o, h1, h2, rfl⟩
  · exact .emp
  · refine .sl o _ 0 _ none k xs _ h1 h2 rfl (by simp) rfl fun i e y hi he hy => ?_
    simp at he
    rw [he] at hy
    cases hy
    exact .closed _ (hc _ (List.mem_of_getElem? he))

/-- The elements of one, to be read. -/
theorem Acc.elems (h : Acc H k G x xs) : elems G x = some xs := by
  rcases h.row with ⟨rfl, rfl⟩ | ⟨o, h1, h2, rfl⟩
  · rfl
  · simp [TL.elems, h2]

theorem Acc.isSl (h : Acc H k G x xs) : isSl G x = true := by
  rcases h.row with ⟨rfl, rfl⟩ | ⟨o, h1, h2, rfl⟩
  · rfl
  · simp [TL.isSl, h2]

/-- A function's result, where it is a slice that grew. -/
theorem Pure.acc {P : Program} {f : FuncId} {args : List V} {k : Nat} {xs : List V} (hc : ∀ x ∈ xs, Closed x) (h : ∀ H, Fn P f args H fun x G => Acc H k G x xs) : Pure P f args (.lst xs) :=
  .of fun H => (h H).mono fun _ _ ha => ⟨ha.pre.choose, ha.pre.choose_spec, ha.frz hc⟩

/-! Slices that are read, whoever they belong to. -/
theorem elems_sl {o n off len : Nat} {c : Option Nat} {es : List V} (he : TL.elems G (.sl o n off len c) = some es) : ∃ k r, G[o]? = some (.row k r) ∧ r.length = n ∧ off + len ≤ n ∧ es = (r.drop off).take len ∧ es.length = len := by
  unfold TL.elems at he
  simp only at he
  split at he
  · rename_i k r hr
    split at he
    · rename_i hl
      cases he
      exact ⟨k, r, hr, hl.1, hl.2, rfl, by rw [List.length_take, List.length_drop]; exact Nat.min_eq_left (by omega)⟩
    · cases he
  · cases he

theorem len_elems {P : Program} {t : TypeId} {K : V → Prop} {es : List V} (hs : (selem P t).isSome = true) (he : TL.elems G x = some es) (hK : K (.i .i64 es.length)) : lenC P t x G K := by
  cases x with
  | lst ys => cases he; exact ⟨hs, hK⟩
  | emp => cases he; exact ⟨hs, hK⟩
  | sl o n off len c =>
    obtain ⟨k, r, h1, h2, h3, h4, h5⟩ := elems_sl he
    rw [h5] at hK
    refine ⟨hs, ?_, hK⟩
    rw [h1]; exact h2
  | _ => cases he

theorem index_elems {P : Program} {t e : TypeId} {k : Nat} {K : V → List Obj → Prop} {es : List V} {i : Nat} {y : V} (hs : selem P t = some e) (hk : csz P e = some k) (he : TL.elems G x = some es) (hi : es[i]? = some y)
    (hy : (cellsOf y).length = k) (hk' : ∀ o n off len c k' r, x = .sl o n off len c → G[o]? = some (.row k' r) → k' = k) (hK : ∀ p, behind G p = some (cellsOf y) → K p G) : indexAddrC P t x (.i .i64 i) G K := by
  unfold indexAddrC
  rw [hs]
  simp only [hk]
  cases x with
  | lst ys =>
    cases he
    refine ⟨by omega, ?_⟩
    simp only [Int.toNat_natCast, hi]
    exact ⟨hy, hK _ rfl⟩
  | emp => cases he; cases hi
  | sl o n off len c =>
    obtain ⟨k', r, h1, h2, h3, h4, h5⟩ := elems_sl he
    have hlt : i < len := by rw [← h5]; exact (List.getElem?_eq_some_iff.1 hi).1
    refine ⟨by omega, by omega, ?_⟩
    simp only [h1, Int.toNat_natCast]
    refine ⟨hk' _ _ _ _ _ _ _ rfl h1, h2, hK _ ?_⟩
    rw [h4, List.getElem?_take, if_pos hlt, List.getElem?_drop] at hi
    simp [behind, h1, h2, hi]
  | _ => cases he

/-- A load of one cell, whoever it belongs to. -/
theorem load_behind {P : Program} {t : TypeId} {K : V → List Obj → Prop} {p y : V} {cs : List V} (hb : behind G p = some (y :: cs)) (ht : tagg P t = some false) (hK : K y G) : loadC P t p G K := by
  unfold loadC
  rw [hb, ht]
  exact hK

end Go.TL
