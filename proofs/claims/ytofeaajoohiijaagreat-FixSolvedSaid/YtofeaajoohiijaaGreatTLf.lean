/- The tree logic, part six: stores, new variables, appends. -/
import Derived.Test.YtofeaajoohiijaaGreatTLe
namespace Go.TL
open Go

def storable : V → Bool
  | .any | .agg _ | .tup _ => false
  | .raw v => v.oneCell'
  | _ => true

theorem VR.one {w : World} {ρ : Nat → Nat} {H : List Obj} {x : V} {v : Value} (h : VR w ρ H x v) (hs : storable x = true) : v.oneCell' = true := by
  cases h <;> first | rfl | assumption | (simp [storable] at hs; done) | simpa [storable] using hs

def boxable : V → Bool
  | .agg _ => true
  | x => storable x

/-! By what a value is. -/
theorem cellsOf_i (k : IntKind) (n : Int) : cellsOf (.i k n) = [.i k n] := rfl
theorem storable_i (k : IntKind) (n : Int) : storable (.i k n) = true := rfl
theorem boxable_i (k : IntKind) (n : Int) : boxable (.i k n) = true := rfl
theorem cellsOf_b (x : Bool) : cellsOf (.b x) = [.b x] := rfl
theorem storable_b (x : Bool) : storable (.b x) = true := rfl
theorem boxable_b (x : Bool) : boxable (.b x) = true := rfl
theorem cellsOf_s (x : ByteArray) : cellsOf (.s x) = [.s x] := rfl
theorem storable_s (x : ByteArray) : storable (.s x) = true := rfl
theorem boxable_s (x : ByteArray) : boxable (.s x) = true := rfl
theorem cellsOf_emp  : cellsOf (.emp) = [.emp] := rfl
theorem storable_emp  : storable (.emp) = true := rfl
theorem boxable_emp  : boxable (.emp) = true := rfl
theorem cellsOf_lst (es : List V) : cellsOf (.lst es) = [.lst es] := rfl
theorem storable_lst (es : List V) : storable (.lst es) = true := rfl
theorem boxable_lst (es : List V) : boxable (.lst es) = true := rfl
theorem cellsOf_agg (cs : List V) : cellsOf (.agg cs) = cs := rfl
theorem storable_agg (cs : List V) : storable (.agg cs) = false := rfl
theorem boxable_agg (cs : List V) : boxable (.agg cs) = true := rfl
theorem cellsOf_sl (o n off len : Nat) (c : Option Nat) : cellsOf (.sl o n off len c) = [.sl o n off len c] := rfl
theorem storable_sl (o n off len : Nat) (c : Option Nat) : storable (.sl o n off len c) = true := rfl
theorem boxable_sl (o n off len : Nat) (c : Option Nat) : boxable (.sl o n off len c) = true := rfl
theorem cellsOf_ptr (o n i j : Nat) : cellsOf (.ptr o n i j) = [.ptr o n i j] := rfl
theorem storable_ptr (o n i j : Nat) : storable (.ptr o n i j) = true := rfl
theorem boxable_ptr (o n i j : Nat) : boxable (.ptr o n i j) = true := rfl
theorem cellsOf_iptr (cs : List V) : cellsOf (.iptr cs) = [.iptr cs] := rfl
theorem storable_iptr (cs : List V) : storable (.iptr cs) = true := rfl
theorem boxable_iptr (cs : List V) : boxable (.iptr cs) = true := rfl
theorem cellsOf_map (o : Nat) : cellsOf (.map o) = [.map o] := rfl
theorem storable_map (o : Nat) : storable (.map o) = true := rfl
theorem boxable_map (o : Nat) : boxable (.map o) = true := rfl
theorem cellsOf_clo (f : FuncId) (cs : List V) : cellsOf (.clo f cs) = [.clo f cs] := rfl
theorem storable_clo (f : FuncId) (cs : List V) : storable (.clo f cs) = true := rfl
theorem boxable_clo (f : FuncId) (cs : List V) : boxable (.clo f cs) = true := rfl
theorem cellsOf_raw (v : Value) : cellsOf (.raw v) = [.raw v] := rfl
theorem storable_raw (v : Value) : storable (.raw v) = v.oneCell' := rfl
theorem boxable_raw (v : Value) : boxable (.raw v) = v.oneCell' := rfl

theorem cells_one {v : Value} (h : v.oneCell' = true) : v.cells = #[v] := by
  cases v <;> first | rfl | simp [Value.oneCell'] at h

theorem cellsOf_storable {x : V} (h : storable x = true) : cellsOf x = [x] := by
  cases x <;> first | rfl | simp [storable] at h

/-- A value's cells, as the machine has them. -/
theorem VR.cells {w : World} {ρ : Nat → Nat} {H : List Obj} {x : V} {v : Value} (h : VR w ρ H x v) (hb : boxable x = true) :
    v.cells.size = (cellsOf x).length ∧ ∀ (j : Nat) y, (cellsOf x)[j]? = some y → ∃ u, v.cells[j]? = some u ∧ VR w ρ H y u := by
  have main : storable x = true → v.cells.size = (cellsOf x).length ∧ ∀ (j : Nat) y, (cellsOf x)[j]? = some y → ∃ u, v.cells[j]? = some u ∧ VR w ρ H y u := by
    intro hs
    rw [cells_one (h.one hs), cellsOf_storable hs]
    refine ⟨rfl, fun j y hj => ?_⟩
    rcases j with _ | j
    · simp at hj; subst hj; exact ⟨v, rfl, h⟩
    · simp at hj
  cases x with
  | agg cs =>
    cases h with
    | agg _ vs hl hv =>
      refine ⟨by simp [Value.cells, cellsOf, hl], fun j y hj => ?_⟩
      have hj' : cs[j]? = some y := hj
      have hlt : j < vs.size := by rw [← hl]; exact (List.getElem?_eq_some_iff.1 hj').1
      exact ⟨vs[j], by simp [Value.cells, hlt], hv j y _ hj' (Array.getElem?_eq_getElem hlt)⟩
  | _ => exact main (by simpa [boxable] using hb)

def splice (l : List V) (j : Nat) (xs : List V) : List V := l.take j ++ xs ++ l.drop (j + xs.length)

theorem splice_length {l : List V} {j : Nat} {xs : List V} (h : j + xs.length ≤ l.length) : (splice l j xs).length = l.length := by
  simp [splice]; omega

theorem splice_get {α : Type} (l : List α) (j : Nat) (xs : List α) (h : j + xs.length ≤ l.length) (i : Nat) :
    (l.take j ++ xs ++ l.drop (j + xs.length))[i]? = if j ≤ i ∧ i < j + xs.length then xs[i - j]? else l[i]? := by
  by_cases h1 : i < j
  · rw [if_neg (by omega), List.append_assoc, List.getElem?_append_left (by simp; omega), List.getElem?_take, if_pos h1]
  · by_cases h2 : i < j + xs.length
    · rw [if_pos ⟨by omega, h2⟩, List.append_assoc, List.getElem?_append_right (by simp; omega), List.getElem?_append_left (by simp; omega)]
      congr 1; simp; omega
    · rw [if_neg (by omega), List.getElem?_append_right (by simp; omega), List.getElem?_drop]
      congr 1; simp; omega

def mkEl (e : V) (cs : List V) : V :=
  match e with
  | .agg _ => .agg cs
  | e => cs.headD e

def storeC (P : Program) (t : TypeId) (ad x : V) (H : List Obj) (K : V → List Obj → Prop) : Prop :=
  match ad with
  | .ptr o n i j =>
    match H[o]? with
    | some (.row k es) => es.length = n ∧ csz P t = some (cellsOf x).length ∧ (cellsOf x).all storable = true ∧ boxable x = true ∧
      match es[i]? with
      | some e => j + (cellsOf x).length ≤ (cellsOf e).length ∧ K .any (H.set o (.row k (es.set i (mkEl e (splice (cellsOf e) j (cellsOf x))))))
      | none => False
    | _ => False
  | _ => False

theorem cellsOf_mkEl {e : V} {j : Nat} {xs : List V} (hl : j + xs.length ≤ (cellsOf e).length) (hs : xs.all storable = true) : cellsOf (mkEl e (splice (cellsOf e) j xs)) = splice (cellsOf e) j xs := by
  have main : cellsOf e = [e] → cellsOf ((splice [e] j xs).headD e) = splice [e] j xs := by
    intro h1
    rw [h1] at hl
    simp at hl
    match xs, hl with
    | [], hl =>
      rcases j with _ | _ | j
      · simp [splice, h1]
      · simp [splice, h1]
      · omega
    | [x], hl =>
      obtain rfl : j = 0 := by simp at hl; omega
      simp at hs
      simp [splice, cellsOf_storable hs]
    | x :: y :: r, hl => simp at hl; omega
  cases e with
  | agg cs => rfl
  | _ => exact main rfl

theorem run_storeAt {P : Program} {t : TypeId} {ad x : V} {w : World} {ρ : Nat → Nat} {H : List Obj} {K : V → List Obj → Prop} (s : Sim ρ H w) {va v : Value} (ha : VR w ρ H ad va) (hx : VR w ρ H x v)
    (h : storeC P t ad x H K) : ∃ w' ρ' H', (Instr.storeAt t va v).run P w = .ok () w' ∧ Sim ρ' H' w' ∧ Evo w ρ H w' ρ' H' ∧ K .any H' := by
  unfold storeC at h
  split at h
  · rename_i o n i j
    split at h
    · rename_i k es hr
      obtain ⟨hn, hz, hst, hbx, h⟩ := h
      split at h
      · rename_i e he
        obtain ⟨hfit, hk⟩ := h
        cases ha with
        | ptr _ _ _ _ _ ho h1 hh =>
          have hva := (hh _ _ hr).2 hn
          subst hva
          obtain ⟨arr, tt, e0, f0, k0, c0⟩ := s.row o k es hr
          obtain ⟨hcs, hcv⟩ := hx.cells hbx
          have hek : (cellsOf e).length = k := k0 e (List.mem_of_getElem? he)
          have hil : i < es.length := (List.getElem?_eq_some_iff.1 he).1
          have hil' : (i + 1) * k ≤ es.length * k := Nat.mul_le_mul_right _ hil
          rw [Nat.add_mul, Nat.one_mul] at hil'
          have h1c : ∀ u ∈ v.cells.toList, u.oneCell' = true := by
            intro u hu
            obtain ⟨q, hq⟩ := List.mem_iff_getElem?.1 hu
            have hql : q < (cellsOf x).length := by
              have := (List.getElem?_eq_some_iff.1 hq).1
              simp at this; omega
            obtain ⟨u', hu', hv'⟩ := hcv q _ (List.getElem?_eq_getElem hql)
            have : u' = u := by
              rw [Array.getElem?_toList] at hq
              rw [hq] at hu'; exact (Option.some.inj hu').symm
            subst this
            exact hv'.one (by rw [List.all_eq_true] at hst; exact hst _ (List.getElem_mem hql))
          have hrun := run_storeCells_at P (ρ o) (i * k + j) tt v.cells.toList 0 arr w e0 (by simp only [Array.length_toList]; omega) h1c
          simp only [Nat.add_zero] at hrun
          generalize harr : (arr.toList.take (i * k + j) ++ v.cells.toList ++ arr.toList.drop (i * k + j + v.cells.toList.length)).toArray = arr' at hrun
          have hsz : arr'.size = arr.size := by
            rw [← harr]; simp; omega
          have hget : ∀ q, arr'[q]? = if i * k + j ≤ q ∧ q < i * k + j + (cellsOf x).length then v.cells[q - (i * k + j)]? else arr[q]? := by
            intro q
            rw [← harr]
            have := splice_get arr.toList (i * k + j) v.cells.toList (by simp; omega) q
            rw [List.getElem?_toArray, this]
            simp [hcs]
          have hce := cellsOf_mkEl hfit hst
          have P1 := sim_put (w' := w.setRow (ρ o) arr') s hr (es' := es.set i (mkEl e (splice (cellsOf e) j (cellsOf x)))) (blk := ρ o) (arr := arr') (t := tt) (.inl rfl)
            (by simp [World.setRow]) (fun b _ hb => setRow_other w _ b _ hb) (by simp) (fun _ => ⟨rfl, by simp only [World.shape?]; rw [setRow_heap w _ arr arr' tt (0, 0) e0, e0]; simp [hsz]⟩)
            (setRow_heap w _ arr arr' tt (0, 0) e0) (by simp; omega)
            (by
              intro y hy
              rcases List.mem_or_eq_of_mem_set hy with hy | rfl
              · exact k0 y hy
              · rw [hce, splice_length hfit, hek])
            (by
              intro a y b z hy hz'
              rw [List.getElem?_set] at hy
              by_cases hai : i = a
              · subst hai
                rw [if_pos rfl, if_pos hil] at hy
                cases hy
                rw [hce] at hz'
                unfold splice at hz'
                rw [splice_get _ _ _ hfit] at hz'
                rw [hget]
                split at hz'
                · rename_i hb
                  obtain ⟨u, hu, hv'⟩ := hcv _ _ hz'
                  refine ⟨u, ?_, hv'⟩
                  rw [if_pos (by omega), ← hu]
                  congr 1; omega
                · rename_i hb
                  obtain ⟨u, hu, hv'⟩ := c0 _ _ _ _ he hz'
                  refine ⟨u, ?_, hv'⟩
                  rw [if_neg (by omega)]; exact hu
              · rw [if_neg hai] at hy
                obtain ⟨u, hu, hv'⟩ := c0 _ _ _ _ hy hz'
                refine ⟨u, ?_, hv'⟩
                have hyk := k0 y (List.mem_of_getElem? hy)
                have hbk : b < k := by rw [← hyk]; exact (List.getElem?_eq_some_iff.1 hz').1
                rw [hget, if_neg ?_]; · exact hu
                rintro ⟨q1, q2⟩
                rcases Nat.lt_or_gt_of_ne hai with q | q
                · have := Nat.mul_le_mul_right k q
                  rw [Nat.succ_mul] at this
                  omega
                · have := Nat.mul_le_mul_right k q
                  rw [Nat.succ_mul] at this
                  omega)
          obtain ⟨s', g⟩ := P1
          refine ⟨_, _, _, ?_, s', g, hk⟩
          have hne : ¬ (v.cells.size ≠ (cellsOf x).length) := by simp [hcs]
          simp only [Instr.storeAt, Instr.sureAddr, Sem.run_bind, Sem.run_pure, Result.andThen_ok, storeVar, run_sizeOf hz, hne, if_false, hrun]
      · exact h.elim
    · exact h.elim
  · exact h.elim

end Go.TL
