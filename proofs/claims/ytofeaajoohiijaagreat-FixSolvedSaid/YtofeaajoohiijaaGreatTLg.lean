/- The tree logic, part seven: new variables, literals, appends. -/
import Derived.Test.YtofeaajoohiijaaGreatTLf
namespace Go.TL
open Go

def newAt (ρ : Nat → Nat) (n blk : Nat) : Nat → Nat := fun x => if x = n then blk else ρ x

/-- A variable of one element in a new block. -/
theorem sim_var {ρ : Nat → Nat} {H : List Obj} {w : World} (s : Sim ρ H w) {x : V} {v : Value} (hx : VR w ρ H x v) (hb : boxable x = true) (t : TypeId) :
    let w' := w.alloc (.cells v.cells t)
    let ρ' := newAt ρ H.length w.heap.size
    let H' := H ++ [Obj.row (cellsOf x).length [x]]
    Sim ρ' H' w' ∧ Evo w ρ H w' ρ' H' ∧ VR w' ρ' H' (.ptr H.length 1 0 0) (.pointer (some ⟨w.heap.size, 0, none⟩)) := by
  intro w' ρ' H'
  obtain ⟨hcs, hcv⟩ := hx.cells hb
  have hnew : w'.heap[w.heap.size]? = some (.cells v.cells t (0, 0)) := heap_alloc_new w _
  obtain ⟨s', g⟩ := sim_new (w' := w') (blk := w.heap.size) (ob := Obj.row (cellsOf x).length [x]) s (Nat.le_refl _) (show w.heap.size < (w.heap.push _).size by simp) (fun b hb => heap_alloc_old w _ b hb)
    (by
      intro k es he
      cases he
      refine ⟨v.cells, t, hnew, by simp [hcs], by simp, fun i e j y h1 h2 => ?_⟩
      rcases i with _ | i
      · simp at h1; subst h1
        obtain ⟨u, hu, hv⟩ := hcv j y h2
        exact ⟨u, by simpa using hu, hv⟩
      · simp at h1)
    (by intro es he; cases he)
  refine ⟨s', g, .ptr _ _ _ _ _ (by simp [H']) rfl fun k es he => ?_⟩
  have : H'[H.length]? = some (Obj.row (cellsOf x).length [x]) := by simp [H']
  rw [this] at he
  cases he
  refine ⟨by simp, fun _ => ?_⟩
  simp [ρ', newAt]

def boxC (x : V) (H : List Obj) (K : V → List Obj → Prop) : Prop := boxable x = true ∧ K (.ptr H.length 1 0 0) (H ++ [.row (cellsOf x).length [x]])

theorem run_box {P : Program} {t : TypeId} {x : V} {w : World} {ρ : Nat → Nat} {H : List Obj} {K : V → List Obj → Prop} (s : Sim ρ H w) {v : Value} (hx : VR w ρ H x v) (h : boxC x H K) :
    ∃ y u w' ρ' H', (Instr.box t v).run P w = .ok u w' ∧ VR w' ρ' H' y u ∧ Sim ρ' H' w' ∧ Evo w ρ H w' ρ' H' ∧ K y H' := by
  obtain ⟨hb, hk⟩ := h
  obtain ⟨s', g, hv⟩ := sim_var s hx hb t
  exact ⟨_, _, _, _, _, by simp [Instr.box, newVar, newRow], hv, s', g, hk⟩

/-- A type's zero value. -/
def zeroV (P : Program) (t : TypeId) : Option V :=
  match (P.info? t).bind (·.zero) with
  | some (.agg cs) => some (.agg (cs.toList.map ofV))
  | some v => some (ofV v)
  | none => none

theorem zero_run {P : Program} {t : TypeId} {z : V} (h : zeroV P t = some z) : ∃ v, (∀ w, (zeroValue t).run P w = .ok v w) ∧ ∀ w ρ H, VR w ρ H z v := by
  unfold zeroV at h
  cases hi : P.info? t with
  | none => rw [hi] at h; simp at h
  | some i =>
    rw [hi] at h
    simp only [Option.bind_some] at h
    cases hz : i.zero with
    | none => rw [hz] at h; simp at h
    | some v =>
      rw [hz] at h
      refine ⟨v, fun w => by simp [zeroValue, typeInfo, hi, hz], fun w ρ H => ?_⟩
      cases v with
      | agg cs =>
        simp only [Option.some.injEq] at h
        subst h
        refine .agg _ _ (by simp) fun j x v h1 h2 => ?_
        rw [List.getElem?_map, Array.getElem?_toList, h2] at h1
        simp at h1
        subst h1
        exact VR_ofV _ _ _ _
      | _ => simp only [Option.some.injEq] at h; subst h; exact VR_ofV _ _ _ _

def allocC (P : Program) (t : TypeId) (H : List Obj) (K : V → List Obj → Prop) : Prop :=
  match zeroV P t with
  | some z => boxC z H K
  | none => False

theorem run_alloc {P : Program} {t : TypeId} {w : World} {ρ : Nat → Nat} {H : List Obj} {K : V → List Obj → Prop} (s : Sim ρ H w) (h : allocC P t H K) :
    ∃ y u w' ρ' H', (Instr.alloc t true (.tuple #[])).run P w = .ok u w' ∧ VR w' ρ' H' y u ∧ Sim ρ' H' w' ∧ Evo w ρ H w' ρ' H' ∧ K y H' := by
  unfold allocC at h
  split at h
  · rename_i z hz
    obtain ⟨v, hr, hv⟩ := zero_run hz
    obtain ⟨hb, hk⟩ := h
    obtain ⟨s', g, hv'⟩ := sim_var s (hv w ρ H) hb t
    exact ⟨_, _, _, _, _, by simp [Instr.alloc, hr, newVar, newRow], hv', s', g, hk⟩
  · exact h.elim

/-- A value's elements, where it is a slice. -/
def elems (H : List Obj) : V → Option (List V)
  | .lst es => some es
  | .emp => some []
  | .sl o n off len _ =>
    match H[o]? with
    | some (.row _ es) => if es.length = n ∧ off + len ≤ n then some ((es.drop off).take len) else none
    | _ => none
  | _ => none

/-- .. and as the machine has them. -/
theorem VR.elems {w : World} {ρ : Nat → Nat} {H : List Obj} (s : Sim ρ H w) {x : V} {v : Value} {ys : List V} {k : Nat} (h : VR w ρ H x v) (hy : TL.elems H x = some ys)
    (hk : ∀ y ∈ ys, (cellsOf y).length = k) :
    ∃ a c, v = .slice a ys.length c ∧ (ys = [] ∨ ∃ (ad : Addr) (news : List Value), a = some ad ∧ news.length = ys.length * k ∧ (∀ (j : Nat) u, news[j]? = some u → w.cell? (ad.add j) = some u) ∧
      ∀ (i : Nat) e (j : Nat) x, ys[i]? = some e → (cellsOf e)[j]? = some x → ∃ u, news[i * k + j]? = some u ∧ VR w ρ H x u) := by
  have build : ∀ (blk off : Nat), (∀ (i : Nat) e (j : Nat) x, ys[i]? = some e → (cellsOf e)[j]? = some x → ∃ u, w.cell? ⟨blk, off + i * k + j, none⟩ = some u ∧ VR w ρ H x u) →
      ∃ news : List Value, news.length = ys.length * k ∧ (∀ (j : Nat) u, news[j]? = some u → w.cell? ((⟨blk, off, none⟩ : Addr).add j) = some u) ∧
      ∀ (i : Nat) e (j : Nat) x, ys[i]? = some e → (cellsOf e)[j]? = some x → ∃ u, news[i * k + j]? = some u ∧ VR w ρ H x u := by
    intro blk off hc
    refine ⟨(List.range (ys.length * k)).map fun j => (w.cell? ⟨blk, off + j, none⟩).getD undef, by simp, ?_, ?_⟩
    · intro q u hq
      rw [add_plain]
      rw [List.getElem?_map] at hq
      by_cases hqn : q < ys.length * k
      · rw [List.getElem?_range hqn] at hq
        have hk0 : 0 < k := by
          rcases Nat.eq_zero_or_pos k with h0 | h0
          · rw [h0] at hqn; omega
          · exact h0
        have hi : q / k < ys.length := (Nat.div_lt_iff_lt_mul hk0).2 hqn
        have hj : q % k < k := Nat.mod_lt _ hk0
        have he := List.getElem?_eq_getElem hi
        have hjj : q % k < (cellsOf ys[q / k]).length := by rw [hk _ (List.getElem_mem hi)]; exact hj
        obtain ⟨u', hu', _⟩ := hc (q / k) _ (q % k) _ he (List.getElem?_eq_getElem hjj)
        have hqk : q / k * k + q % k = q := by rw [Nat.mul_comm]; exact Nat.div_add_mod q k
        rw [Nat.add_assoc, hqk] at hu'
        simp only [Option.map_some, Option.some.injEq] at hq
        rw [hu'] at hq ⊢
        simp at hq
        rw [hq]
      · rw [List.getElem?_eq_none (by simp; omega)] at hq; cases hq
    · intro i e j x h1 h2
      obtain ⟨u, hu, hv⟩ := hc i e j x h1 h2
      refine ⟨u, ?_, hv⟩
      have hil : i < ys.length := (List.getElem?_eq_some_iff.1 h1).1
      have hjl : j < k := by rw [← hk e (List.mem_of_getElem? h1)]; exact (List.getElem?_eq_some_iff.1 h2).1
      have : (i + 1) * k ≤ ys.length * k := Nat.mul_le_mul_right _ hil
      rw [Nat.add_mul, Nat.one_mul] at this
      rw [List.getElem?_map, List.getElem?_range (by omega)]
      simp only [Option.map_some, Option.some.injEq]
      rw [← Nat.add_assoc, hu]; rfl
  cases x with
  | emp =>
    simp only [TL.elems, Option.some.injEq] at hy
    subst hy
    cases h with
    | emp a => exact ⟨a, 0, rfl, .inl rfl⟩
  | lst es =>
    simp only [TL.elems, Option.some.injEq] at hy
    subst hy
    cases h with
    | lnil a c => exact ⟨a, c, rfl, .inl rfl⟩
    | lst _ blk off c k' f hne hc hk' hbl hu' hcell hvv =>
      have hkk : k' = k := by
        obtain ⟨y, ys, rfl⟩ := List.exists_cons_of_ne_nil hne
        rw [← hk' y (by simp), hk y (by simp)]
      subst hkk
      obtain ⟨news, h1, h2, h3⟩ := build blk off fun i e j x a b => ⟨f i j, hcell i e j x a b, hvv i e j x a b⟩
      exact ⟨_, c, rfl, .inr ⟨_, news, rfl, h1, h2, h3⟩⟩
  | sl o n off len cap =>
    simp only [TL.elems] at hy
    cases hr : H[o]? with
    | none => rw [hr] at hy; cases hy
    | some ob =>
      cases ob with
      | row k' es =>
        rw [hr] at hy
        simp only at hy
        split at hy
        · rename_i hc
          obtain ⟨hn, hle⟩ := hc
          simp only [Option.some.injEq] at hy
          subst hy
          cases h with
          | sl _ _ _ _ _ _ ho h1' hh =>
            obtain ⟨c, tt, sz, rfl, a1, a2, a3, a4, a5⟩ := (hh _ _ hr).2 hn
            have hlen : ((es.drop off).take len).length = len := by simp; omega
            by_cases hz : len = 0
            · exact ⟨_, c, by rw [hlen], .inl (by subst hz; simp)⟩
            obtain ⟨arr, t, e0, f0, k0, c0⟩ := s.row o k' es hr
            have hkk : k' = k := by
              have h0 : ((es.drop off).take len)[0]? = es[off]? := by simp [List.getElem?_take, List.getElem?_drop]; omega
              have hol : off < es.length := by omega
              rw [List.getElem?_eq_getElem hol] at h0
              rw [← k0 es[off] (List.getElem_mem hol), hk _ (List.mem_of_getElem? h0)]
            subst hkk
            obtain ⟨news, h1, h2, h3⟩ := build (ρ o) (off * k') fun i e j x a b => by
              rw [List.getElem?_take] at a
              split at a
              · rw [List.getElem?_drop] at a
                obtain ⟨u, hu, hv⟩ := c0 _ _ _ _ a b
                refine ⟨u, ?_, hv⟩
                simp only [World.cell?, e0]
                rw [← hu, Nat.add_mul]
                simp
              · cases a
            exact ⟨_, c, by rw [hlen], .inr ⟨_, news, rfl, h1, h2, h3⟩⟩
        · cases hy
      | dead => rw [hr] at hy; cases hy
      | map es => rw [hr] at hy; cases hy
  | _ => cases hy

def tbytes (P : Program) (t : TypeId) : Nat := ((P.info? t).map (·.bytes)).getD 0

/-- What append answers, and the objects behind it: of a slice x and the elements ys, each of k cells. -/
def appendV (k : Nat) (x : V) (ys : List V) (H : List Obj) (K : V → List Obj → Prop) : Prop :=
  match x with
  | .emp => K (.sl H.length ys.length 0 ys.length none) (H ++ [.row k ys])
  | .sl o n off len cap =>
    match H[o]? with
    | some (.row k' es) => k' = k ∧ es.length = n ∧ off + len ≤ n ∧
      match cap with
      | none => (∀ a ∈ ys, ∀ c ∈ cellsOf a, storable c = true) ∧
        if n < off + len + ys.length then off = 0 ∧ K (.sl o (len + ys.length) 0 (len + ys.length) none) (H.set o (.row k (es.take len ++ ys)))
        else K (.sl o n off (len + ys.length) none) (H.set o (.row k (es.take (off + len) ++ ys ++ es.drop (off + len + ys.length))))
      | some c => c < len + ys.length ∧ K (.sl H.length (len + ys.length) 0 (len + ys.length) none) (H ++ [.row k ((es.drop off).take len ++ ys)])
    | _ => False
  | _ => False

def isSl (H : List Obj) : V → Bool
  | .emp | .lst _ => true
  | .sl o n _ _ _ => match H[o]? with | some (.row _ es) => es.length == n | _ => false
  | _ => false

def lenV : V → Nat
  | .sl _ _ _ len _ => len
  | .lst es => es.length
  | _ => 0
theorem elems_lst (H : List Obj) (es : List V) : elems H (.lst es) = some es := rfl
theorem elems_emp (H : List Obj) : elems H .emp = some [] := rfl
theorem elems_row (H : List Obj) (o n off len : Nat) (c : Option Nat) : elems H (.sl o n off len c) = match H[o]? with
    | some (.row _ es) => if es.length = n ∧ off + len ≤ n then some ((es.drop off).take len) else none
    | _ => none := rfl
theorem isSl_lst (H : List Obj) (es : List V) : isSl H (.lst es) = true := rfl
theorem isSl_emp (H : List Obj) : isSl H .emp = true := rfl
theorem isSl_row (H : List Obj) (o n off len : Nat) (c : Option Nat) : isSl H (.sl o n off len c) = match H[o]? with | some (.row _ es) => es.length == n | _ => false := rfl
theorem lenV_sl (o n off len : Nat) (c : Option Nat) : lenV (.sl o n off len c) = len := rfl
theorem lenV_lst (es : List V) : lenV (.lst es) = es.length := rfl
theorem lenV_emp : lenV .emp = 0 := rfl

def appendC (P : Program) (t t' : TypeId) (x y : V) (H : List Obj) (K : V → List Obj → Prop) : Prop :=
  t' = t ∧
  match selem P t with
  | some e =>
    match csz P e, zeroV P e, elems H y with
    | some k, some z, some ys => 0 < k ∧ boxable z = true ∧ (cellsOf z).length = k ∧ (∀ a ∈ ys, (cellsOf a).length = k) ∧
      if ys.length = 0 then isSl H x = true ∧ K x H
      else (lenV x + ys.length) * tbytes P e ≤ 140737488355328 ∧ lenV x + ys.length ≤ 9223372036854775807 ∧ appendV k x ys H K
    | _, _, _ => False
  | none => False

theorem size_zeroCells' (z : Array Value) (n : Nat) : (Builtin.zeroCells z n).size = n * z.size := by simp [Builtin.zeroCells]

/-- A row with new elements behind it, in a new block, as a new object. -/
theorem sim_row {ρ : Nat → Nat} {H : List Obj} {w : World} (s : Sim ρ H w) {k : Nat} {ys : List V} {news rest : List Value} {e : TypeId} (hlen : news.length = ys.length * k)
    (hk : ∀ a ∈ ys, (cellsOf a).length = k)
    (hv : ∀ (i : Nat) e (j : Nat) x, ys[i]? = some e → (cellsOf e)[j]? = some x → ∃ u, news[i * k + j]? = some u ∧ VR w ρ H x u) (n cap : Nat) (hcap : ys.length ≤ cap) (hrest : ys.length * k + rest.length = cap * k) (hn : n = ys.length) (d : Nat) :
    let w' := { w with drawn := d, heap := w.heap.push (.cells (news ++ rest).toArray e) }
    let ρ' := newAt ρ H.length w.heap.size
    let H' := H ++ [Obj.row k ys]
    Sim ρ' H' w' ∧ Evo w ρ H w' ρ' H' ∧ VR w' ρ' H' (.sl H.length n 0 n none) (.slice (some ⟨w.heap.size, 0, none⟩) n cap) := by
  intro w' ρ' H'
  subst hn
  have hnew : w'.heap[w.heap.size]? = some (.cells (news ++ rest).toArray e (0, 0)) := by simp [w']
  have hold : ∀ b, b < w.heap.size → w'.heap[b]? = w.heap[b]? := fun b hb => by simp only [w']; rw [Array.getElem?_push, if_neg (Nat.ne_of_lt hb)]
  obtain ⟨s', g⟩ := sim_new (w' := w') (blk := w.heap.size) (ob := Obj.row k ys) s (Nat.le_refl _) (by simp [w']) hold
    (by
      intro k' es he
      cases he
      refine ⟨_, e, hnew, by simp; omega, hk, fun i e j y h1 h2 => ?_⟩
      obtain ⟨u, hu, hv'⟩ := hv i e j y h1 h2
      refine ⟨u, ?_, hv'⟩
      have : i * k + j < news.length := (List.getElem?_eq_some_iff.1 hu).1
      rw [List.getElem?_toArray, List.getElem?_append_left this]; exact hu)
    (by intro es he; cases he)
  refine ⟨s', g, .sl _ _ _ _ _ _ (by simp [H']) rfl fun k' es he => ?_⟩
  have : H'[H.length]? = some (Obj.row k ys) := by simp [H']
  rw [this] at he
  cases he
  refine ⟨Nat.le_refl _, fun _ => ⟨cap, e, ((news ++ rest).toArray).size, by simp [ρ', newAt], hcap, by omega, by simp, ?_, ?_, fun _ => by omega⟩⟩
  · have hb : ρ' H.length = w.heap.size := if_pos rfl
    simp only [World.shape?, hb, hnew]
  · simp; omega


theorem toArray_app (a : List Value) (b : Array Value) : a.toArray ++ b = (a ++ b.toList).toArray := by apply Array.ext'; simp
theorem toArray_app3 (a b : List Value) (c : Array Value) : a.toArray ++ b.toArray ++ c = ((a ++ b) ++ c.toList).toArray := by apply Array.ext'; simp

theorem selem_info {P : Program} {e k : Nat} {z : V} (hk : csz P e = some k) (hz : zeroV P e = some z) (hb : boxable z = true) (hc : (cellsOf z).length = k) :
    ∃ i zv, P.info? e = some i ∧ i.zero = some zv ∧ i.size = k ∧ zv.cells.size = k ∧ i.bytes = tbytes P e := by
  unfold csz at hk
  unfold zeroV at hz
  cases hi : P.info? e with
  | none => rw [hi] at hk; cases hk
  | some i =>
    rw [hi] at hk hz
    simp only [Option.map_some, Option.some.injEq, Option.bind_some] at hk hz
    cases hzv : i.zero with
    | none => rw [hzv] at hz; cases hz
    | some zv =>
      rw [hzv] at hz
      refine ⟨i, zv, rfl, hzv, hk, ?_, by simp [tbytes, hi]⟩
      rw [← hc]
      cases zv with
      | agg cs => simp only [Option.some.injEq] at hz; subst hz; simp [Value.cells, cellsOf]
      | _ =>
        simp only [Option.some.injEq] at hz
        have := (VR_ofV default (fun _ => 0) [] _).cells (by rw [hz]; exact hb)
        rw [hz] at this
        exact this.1

theorem run_append {P : Program} {t t' ty : TypeId} {x y : V} {w : World} {ρ : Nat → Nat} {H : List Obj} {K : V → List Obj → Prop} (s : Sim ρ H w) {vx vy : Value} (hx : VR w ρ H x vx) (hy : VR w ρ H y vy)
    (h : appendC P t t' x y H K) :
    ∃ r u w' ρ' H', (Builtin.append_ #[t, t'] ty #[vx, vy]).run P w = .ok u w' ∧ VR w' ρ' H' r u ∧ Sim ρ' H' w' ∧ Evo w ρ H w' ρ' H' ∧ K r H' := by
  unfold appendC at h
  obtain ⟨rfl, h⟩ := h
  split at h
  · rename_i e he
    have hu := of_selem he
    split at h
    · rename_i k z ys hk hz hys
      obtain ⟨hk0, hzb, hzc, hyk, h⟩ := h
      obtain ⟨i, zv, hi, hzv, hisz, hzvs, hib⟩ := selem_info hk hz hzb hzc
      obtain ⟨ya, yc, rfl, hyy⟩ := hy.elems s hys hyk
      split at h
      · rename_i hy0
        obtain ⟨hsl, hk⟩ := h
        have hys0 : ys = [] := List.eq_nil_of_length_eq_zero hy0
        have key : ∃ b l c, vx = .slice b l c ∧ l ≤ c := by
          cases x with
          | emp => cases hx with | emp a => exact ⟨a, 0, 0, rfl, Nat.le_refl _⟩
          | lst es =>
            cases hx with
            | lnil a c => exact ⟨a, 0, c, rfl, Nat.zero_le _⟩
            | lst _ blk off c k f hne hc => exact ⟨_, _, c, rfl, hc⟩
          | sl o n off len cap =>
            simp only [isSl] at hsl
            cases hr : H[o]? with
            | none => rw [hr] at hsl; cases hsl
            | some ob =>
              cases ob with
              | row k' es =>
                rw [hr] at hsl
                simp only [beq_iff_eq] at hsl
                cases hx with
                | sl _ _ _ _ _ _ ho h1' hh =>
                  obtain ⟨c, tt, sz, rfl, a1, _⟩ := (hh _ _ hr).2 hsl
                  exact ⟨_, _, c, rfl, a1⟩
              | dead => rw [hr] at hsl; cases hsl
              | map es => rw [hr] at hsl; cases hsl
          | _ => cases hsl
        obtain ⟨b, l, c, rfl, hlc⟩ := key
        refine ⟨x, _, w, ρ, H, ?_, hx, s, .refl w ρ H, hk⟩
        rw [hys0]
        cases ya <;> cases b <;> simp [Builtin.append_, run_underlying hu, sizeOf, typeInfo, hi, Builtin.lenOf, Builtin.firstCells, loadCells, loadCellsFrom, storeCells, hlc]
      · rename_i hy0
        obtain ⟨hbytes, h63, h⟩ := h
        obtain ⟨ad, news, rfl, hn1, hn2, hn3⟩ := hyy.resolve_left (fun e => hy0 (by rw [e]; rfl))
        have hni : news.length = ys.length * i.size := by rw [hisz]; exact hn1
        unfold appendV at h
        split at h
        · -- to nothing
          simp only [lenV, Nat.zero_add] at hbytes h63
          cases hx with
          | emp a =>
            have hgc := grownCap_ge w ys.length 0 e
            have hgc' : ys.length ≤ grownCap w (0 + ys.length) 0 e := by rw [Nat.zero_add]; exact hgc
            have hzl : ∀ n, (Builtin.zeroCells zv.cells n).toList.length = n * k := fun n => by simp [size_zeroCells', hzvs]
            obtain ⟨s', g, hv⟩ := sim_row (rest := (Builtin.zeroCells zv.cells (grownCap w ys.length 0 e - ys.length)).toList) (e := e) s hn1 hyk hn3 ys.length (grownCap w ys.length 0 e) hgc
              (by rw [hzl, ← Nat.add_mul]; congr 1; omega) rfl (w.drawn + 1)
            refine ⟨_, _, _, _, _, ?_, hv, s', g, h⟩
            cases a with
            | none =>
              have hr := run_append_nil (P := P) w t' ty e i zv hu hi hzv ad ys.length yc news hni hn2 (by omega) (by omega) (by rw [hib]; omega)
              rw [hr, toArray_app]; rfl
            | some a =>
              have hr := run_append_grow (P := P) w t' ty e i zv hu hi hzv a 0 0 [] (by simp) (by simp) ad ys.length yc news hni hn2 (by omega) (by simpa using (by omega : (ys.length : Int) ≤ 9223372036854775807))
                (growslice_fits (by omega) (by rw [hib]; simpa using hbytes))
              simp only [Nat.zero_add] at hr
              rw [hr, toArray_app3]; rfl
        · rename_i o n off len cap
          simp only [lenV] at hbytes h63
          split at h
          · rename_i k' es hr
            obtain ⟨rfl, hn, hfit, h⟩ := h
            cases hx with
            | sl _ _ _ _ _ _ ho h1' hh =>
              obtain ⟨c, tt, sz, rfl, a1, a2, a3, a4, a5, a6⟩ := (hh _ _ hr).2 hn
              obtain ⟨arr, ta, e0, f0, k0, c0⟩ := s.row o k' es hr
              have hshape : tt = ta ∧ sz = arr.size := by
                simp only [World.shape?, e0, Option.some.injEq, Prod.mk.injEq] at a4
                exact ⟨a4.1.symm, a4.2.symm⟩
              obtain ⟨rfl, rfl⟩ := hshape
              -- what is there now, as cells
              have holds : ∃ olds : List Value, olds.length = len * k' ∧ (∀ (j : Nat) u, olds[j]? = some u → w.cell? ((⟨ρ o, off * k', none⟩ : Addr).add j) = some u) ∧
                  ∀ (i : Nat) e (j : Nat) x, ((es.drop off).take len)[i]? = some e → (cellsOf e)[j]? = some x → ∃ u, olds[i * k' + j]? = some u ∧ VR w ρ H x u := by
                have hlen : ((es.drop off).take len).length = len := by simp; omega
                obtain ⟨a, c', he', hh'⟩ := (VR.sl (w := w) (ρ := ρ) (H := H) o n off len cap _ ho h1' hh).elems s (ys := (es.drop off).take len) (k := k') (by simp [TL.elems, hr, hn, hfit])
                  (fun y hy => k0 y (List.mem_of_mem_drop (List.mem_of_mem_take hy)))
                rcases hh' with h0 | ⟨ad', olds, rfl, o1, o2, o3⟩
                · rw [h0] at hlen
                  simp at hlen
                  subst hlen
                  exact ⟨[], by simp, by simp, by simp⟩
                · injection he' with e1 _ _
                  cases e1
                  exact ⟨olds, by rw [o1, hlen], o2, o3⟩
              obtain ⟨olds, ho1, ho2, ho3⟩ := holds
              -- a new block
              have grow : ∀ (hg : c < len + ys.length), ∃ s' : List Value, s'.length = (grownCap w (len + ys.length) c e - (len + ys.length)) * k' ∧ (Builtin.append_ #[t', t'] ty #[.slice (some ⟨ρ o, off * k', none⟩) len c, .slice (some ad) ys.length yc]).run P w =
                  .ok (.slice (some ⟨w.heap.size, 0, none⟩) (len + ys.length) (grownCap w (len + ys.length) c e)) { w with drawn := w.drawn + 1, heap := w.heap.push (.cells ((olds ++ news) ++ s').toArray e) } := by
                intro hg
                have hr := run_append_grow (P := P) w t' ty e i zv hu hi hzv ⟨ρ o, off * k', none⟩ len c olds (by rw [hisz]; exact ho1) ho2 ad ys.length yc news hni hn2 hg (by omega)
                  (growslice_fits (by omega) (by rw [hib]; exact hbytes))
                refine ⟨(Builtin.zeroCells zv.cells (grownCap w (len + ys.length) c e - (len + ys.length))).toList, by simp [size_zeroCells', hzvs], ?_⟩
                rw [hr, toArray_app3]; rfl
              have hboth : ∀ (i : Nat) e (j : Nat) x, ((es.drop off).take len ++ ys)[i]? = some e → (cellsOf e)[j]? = some x → ∃ u, (olds ++ news)[i * k' + j]? = some u ∧ VR w ρ H x u := by
                intro i e j x h1 h2
                have hlen : ((es.drop off).take len).length = len := by simp; omega
                rw [List.getElem?_append] at h1
                split at h1
                · obtain ⟨u, hu, hv⟩ := ho3 i e j x h1 h2
                  exact ⟨u, by rw [List.getElem?_append_left (List.getElem?_eq_some_iff.1 hu).1]; exact hu, hv⟩
                · rename_i hge
                  rw [hlen] at h1 hge
                  obtain ⟨u, hu, hv⟩ := hn3 _ _ _ _ h1 h2
                  refine ⟨u, ?_, hv⟩
                  have hle : len * k' ≤ i * k' := Nat.mul_le_mul_right _ (by omega)
                  rw [List.getElem?_append_right (by rw [ho1]; omega), ho1, ← hu, Nat.sub_mul]
                  congr 1; omega
              have hbk : ∀ a ∈ (es.drop off).take len ++ ys, (cellsOf a).length = k' := by
                intro a ha
                rcases List.mem_append.1 ha with ha | ha
                · exact k0 a (List.mem_of_mem_drop (List.mem_of_mem_take ha))
                · exact hyk a ha
              have hlen : ((es.drop off).take len).length = len := by simp; omega
              have hbl : ((es.drop off).take len ++ ys).length = len + ys.length := by simp; omega
              have hol : (olds ++ news).length = ((es.drop off).take len ++ ys).length * k' := by rw [hbl, List.length_append, ho1, hn1, Nat.add_mul]
              cases cap with
              | some c1 =>
                obtain ⟨hg, hk⟩ := h
                obtain ⟨rfl, _⟩ := a3 c1 rfl
                obtain ⟨rest, hrl, hrun⟩ := grow hg
                have hgc := grownCap_ge w (len + ys.length) c e
                obtain ⟨s', g, hv⟩ := sim_row (rest := rest) (e := e) s hol hbk hboth (len + ys.length) (grownCap w (len + ys.length) c e) (by omega)
                  (by rw [hbl, hrl, ← Nat.add_mul]; congr 1; omega) hbl.symm (w.drawn + 1)
                exact ⟨_, _, _, _, _, hrun, hv, s', g, hk⟩
              | none =>
                obtain ⟨hst, h⟩ := h
                have a6' := a6 rfl
                have h1c : ∀ u ∈ news, u.oneCell' = true := by
                  intro u hu
                  obtain ⟨q, hq⟩ := List.mem_iff_getElem?.1 hu
                  have hql : q < ys.length * k' := by rw [← hn1]; exact (List.getElem?_eq_some_iff.1 hq).1
                  have hi' : q / k' < ys.length := (Nat.div_lt_iff_lt_mul hk0).2 hql
                  have hj' : q % k' < k' := Nat.mod_lt _ hk0
                  have hjj : q % k' < (cellsOf ys[q / k']).length := by rw [hyk _ (List.getElem_mem hi')]; exact hj'
                  obtain ⟨u', hu', hv'⟩ := hn3 (q / k') _ (q % k') _ (List.getElem?_eq_getElem hi') (List.getElem?_eq_getElem hjj)
                  have hqk : q / k' * k' + q % k' = q := by rw [Nat.mul_comm]; exact Nat.div_add_mod q k'
                  rw [hqk, hq] at hu'
                  cases hu'
                  exact hv'.one (hst _ (List.getElem_mem hi') _ (List.getElem_mem hjj))
                -- in its own block
                have room : ∀ (hrm : len + ys.length ≤ c) (es' : List V), es' = es.take (off + len) ++ ys ++ es.drop (off + len + ys.length) → ∃ w' ρ', 
                    (Builtin.append_ #[t', t'] ty #[.slice (some ⟨ρ o, off * k', none⟩) len c, .slice (some ad) ys.length yc]).run P w = .ok (.slice (some ⟨ρ o, off * k', none⟩) (len + ys.length) c) w' ∧
                    ρ' o = ρ o ∧ w'.shape? (ρ o) = some (tt, arr.size) ∧ Sim ρ' (H.set o (.row k' es')) w' ∧ Evo w ρ H w' ρ' (H.set o (.row k' es')) := by
                  rintro hrm es' rfl
                  have hoc : (off + len + ys.length) * k' ≤ arr.size := Nat.le_trans (Nat.mul_le_mul_right _ (by omega)) a5
                  rw [Nat.add_mul (off + len)] at hoc
                  have hst := run_storeCells_at P (ρ o) ((off + len) * k') tt news 0 arr w e0 (by omega) h1c
                  simp only [Nat.add_zero] at hst
                  have hf := run_firstCells_some (P := P) w i.size ys.length ad ys.length yc news hni hn2
                  generalize harr : (arr.toList.take ((off + len) * k') ++ news ++ arr.toList.drop ((off + len) * k' + news.length)).toArray = arr' at hst
                  have hsz : arr'.size = arr.size := by rw [← harr]; simp; omega
                  have hget : ∀ q, arr'[q]? = if (off + len) * k' ≤ q ∧ q < (off + len) * k' + news.length then news[q - (off + len) * k']? else arr[q]? := by
                    intro q
                    rw [← harr]
                    have := splice_get arr.toList ((off + len) * k') news (by simp; omega) q
                    rw [List.getElem?_toArray, this]
                    simp
                  have hget' : ∀ q, (es.take (off + len) ++ ys ++ es.drop (off + len + ys.length))[q]? = if q < off + len then es[q]? else if q < off + len + ys.length then ys[q - (off + len)]? else es[q]? := by
                    intro q
                    have htl : (es.take (off + len)).length = off + len := by simp; omega
                    by_cases h1 : q < off + len
                    · rw [if_pos h1, List.append_assoc, List.getElem?_append_left (by omega), List.getElem?_take, if_pos h1]
                    · rw [if_neg h1]
                      by_cases h2 : q < off + len + ys.length
                      · rw [if_pos h2, List.append_assoc, List.getElem?_append_right (by omega), List.getElem?_append_left (by omega), htl]
                      · rw [if_neg h2, List.getElem?_append_right (by simp; omega), List.getElem?_drop]
                        congr 1
                        simp
                        omega
                  have hsh : (w.setRow (ρ o) arr').shape? (ρ o) = some (tt, arr.size) := by
                    simp only [World.shape?]; rw [setRow_heap w _ arr arr' tt (0, 0) e0]; simp [hsz]
                  obtain ⟨s', g⟩ := sim_put (w' := w.setRow (ρ o) arr') s hr (es' := es.take (off + len) ++ ys ++ es.drop (off + len + ys.length)) (blk := ρ o) (arr := arr') (t := tt) (.inl rfl)
                    (by simp [World.setRow]) (fun b _ hb => setRow_other w _ b _ hb) (by simp; omega) (fun _ => ⟨rfl, by rw [hsh]; simp only [World.shape?, e0]⟩)
                    (setRow_heap w _ arr arr' tt (0, 0) e0)
                    (by
                      rw [hsz]
                      have : (es.take (off + len) ++ ys ++ es.drop (off + len + ys.length)).length ≤ max es.length (off + len + ys.length) := by simp; omega
                      refine Nat.le_trans (Nat.mul_le_mul_right k' this) ?_
                      rcases Nat.le_total es.length (off + len + ys.length) with q | q
                      · rw [Nat.max_eq_right q, Nat.add_mul (off + len)]; exact hoc
                      · rw [Nat.max_eq_left q]; exact f0)
                    (by
                      intro a ha
                      rcases List.mem_append.1 ha with ha | ha
                      · rcases List.mem_append.1 ha with ha | ha
                        · exact k0 a (List.mem_of_mem_take ha)
                        · exact hyk a ha
                      · exact k0 a (List.mem_of_mem_drop ha))
                    (by
                      intro q y b z hq hz
                      rw [hget'] at hq
                      rw [hget]
                      have hyb : b < k' ∧ (cellsOf y).length = k' := by
                        have h2 := (List.getElem?_eq_some_iff.1 hz).1
                        have : (cellsOf y).length = k' := by
                          split at hq
                          · exact k0 y (List.mem_of_getElem? hq)
                          · split at hq
                            · exact hyk y (List.mem_of_getElem? hq)
                            · exact k0 y (List.mem_of_getElem? hq)
                        exact ⟨this ▸ h2, this⟩
                      by_cases q1 : q < off + len
                      · rw [if_pos q1] at hq
                        have := Nat.mul_le_mul_right k' (show q + 1 ≤ off + len by omega)
                        rw [Nat.add_mul q, Nat.one_mul] at this
                        rw [if_neg (by omega)]
                        exact c0 _ _ _ _ hq hz
                      · rw [if_neg q1] at hq
                        have h1 := Nat.mul_le_mul_right k' (show off + len ≤ q by omega)
                        by_cases q2 : q < off + len + ys.length
                        · rw [if_pos q2] at hq
                          have := Nat.mul_le_mul_right k' (show q + 1 ≤ off + len + ys.length by omega)
                          rw [Nat.add_mul q, Nat.one_mul, Nat.add_mul (off + len)] at this
                          rw [if_pos (by omega)]
                          obtain ⟨u, hu, hv⟩ := hn3 _ _ _ _ hq hz
                          refine ⟨u, ?_, hv⟩
                          rw [← hu, Nat.sub_mul]
                          congr 1; omega
                        · rw [if_neg q2] at hq
                          have := Nat.mul_le_mul_right k' (show off + len + ys.length ≤ q by omega)
                          rw [Nat.add_mul (off + len)] at this
                          rw [if_neg (by omega)]
                          exact c0 _ _ _ _ hq hz)
                  refine ⟨_, fun x => if x = o then ρ o else ρ x, ?_, if_pos rfl, hsh, s', g⟩
                  rw [Nat.add_mul] at hst
                  rw [hisz] at hf
                  simp [Builtin.append_, run_underlying hu, sizeOf, typeInfo, hi, Builtin.lenOf, hrm, hf, add_plain, hisz, hst]
                have hol' : o < (H.set o (Obj.row k' (es.take len ++ ys))).length := by simpa using ho
                split at h
                · rename_i hgr
                  obtain ⟨rfl, hk⟩ := h
                  simp only [Nat.zero_add, Nat.zero_mul, List.drop_zero] at *
                  have hes : (es.take len ++ ys).length = len + ys.length := by simp; omega
                  by_cases hrm : len + ys.length ≤ c
                  · obtain ⟨w', ρ', hrun, hρ, hsh, s', g⟩ := room hrm (es.take len ++ ys) (by rw [List.drop_eq_nil_of_le (by omega), List.append_nil])
                    refine ⟨_, _, w', ρ', _, hrun, .sl _ _ _ _ _ _ hol' rfl fun k2 es2 hr2 => ?_, s', g, hk⟩
                    rw [getElem?_set' _ _ _ _ ho, if_pos rfl] at hr2
                    cases hr2
                    exact ⟨by omega, fun _ => ⟨c, tt, arr.size, by rw [hρ]; simp, hrm, by omega, by simp, by rw [hρ]; exact hsh, by simpa using a5, fun _ => by omega⟩⟩
                  · obtain ⟨rest, hrl, hrun⟩ := grow (by omega)
                    have hgc := grownCap_ge w (len + ys.length) c e
                    have hz0 : (olds ++ news).length + rest.length = grownCap w (len + ys.length) c e * k' := by
                      rw [hol, hbl, hrl, ← Nat.add_mul]; congr 1; omega
                    obtain ⟨s', g⟩ := sim_put (w' := { w with drawn := w.drawn + 1, heap := w.heap.push (.cells ((olds ++ news) ++ rest).toArray e) }) s hr (es' := es.take len ++ ys) (blk := w.heap.size)
                      (arr := ((olds ++ news) ++ rest).toArray) (t := e) (.inr (Nat.le_refl _)) (by simp) (fun b hb _ => by rw [Array.getElem?_push, if_neg (Nat.ne_of_lt hb)]) (by omega) (fun hh => by omega) (by simp)
                      (by
                        have hsz2 : ((olds ++ news) ++ rest).toArray.size = grownCap w (len + ys.length) c e * k' := by rw [List.size_toArray, List.length_append, hz0]
                        rw [hsz2, hes]
                        exact Nat.mul_le_mul_right _ hgc)
                      hbk
                      (by
                        intro q y b z h1 h2
                        obtain ⟨u, hu, hv⟩ := hboth q y b z h1 h2
                        refine ⟨u, ?_, hv⟩
                        rw [List.getElem?_toArray, List.getElem?_append_left (List.getElem?_eq_some_iff.1 hu).1]; exact hu)
                    refine ⟨_, _, _, _, _, hrun, .sl _ _ _ _ _ _ hol' rfl fun k2 es2 hr2 => ?_, s', g, hk⟩
                    rw [getElem?_set' _ _ _ _ ho, if_pos rfl] at hr2
                    cases hr2
                    refine ⟨by omega, fun _ => ⟨grownCap w (len + ys.length) c e, e, ((olds ++ news) ++ rest).toArray.size, by simp, by omega, by omega, by simp, ?_, ?_, fun _ => by omega⟩⟩
                    · simp [World.shape?]
                    · rw [Nat.zero_add, List.size_toArray, List.length_append, hz0]; exact Nat.le_refl _
                · rename_i hgr
                  have hrm : len + ys.length ≤ c := by omega
                  obtain ⟨w', ρ', hrun, hρ, hsh, s', g⟩ := room hrm _ rfl
                  refine ⟨_, _, w', ρ', _, hrun, .sl _ _ _ _ _ _ (by simpa using ho) rfl fun k2 es2 hr2 => ?_, s', g, h⟩
                  rw [getElem?_set' _ _ _ _ ho, if_pos rfl] at hr2
                  cases hr2
                  have hl2 : (es.take (off + len) ++ ys ++ es.drop (off + len + ys.length)).length = n := by simp; omega
                  exact ⟨by omega, fun _ => ⟨c, tt, arr.size, by rw [hρ], hrm, by omega, by simp, by rw [hρ]; exact hsh, a5, fun _ => a6'⟩⟩
          · exact h.elim
        · exact h.elim
    · exact h.elim
  · exact h.elim

end Go.TL
