/- The tree logic, part ten: all operations together. -/
import Derived.Test.YtofeaajoohiijaaGreatTLr
namespace Go.TL
open Go

def atH (K : V → List Obj → Prop) (H : List Obj) : V → Prop := fun z => K z H
theorem atH_apply (K : V → List Obj → Prop) (H : List Obj) (z : V) : atH K H z = K z H := rfl

def nilC (x : V) (H : List Obj) (K : V → List Obj → Prop) : Prop :=
  match x with
  | .iptr _ => K x H
  | .ptr o n i j => (behind H (.ptr o n i j)).isSome = true ∧ K x H
  | .clo _ _ => K x H
  | _ => False

def convC (P : Program) (s d : TypeId) (x : V) (K : V → Prop) : Prop :=
  match x, P.underlying d with
  | .i _ n, some (.int k) => (P.underlying s).isSome = true ∧ K (.i k (k.wrap n))
  | _, _ => False

def extractC (x : V) (i : Nat) (K : V → Prop) : Prop :=
  match x with
  | .tup vs => (match vs[i]? with | some y => K y | none => False)
  | _ => False

def strIndexC (P : Program) (t : TypeId) (x ix : V) (K : V → Prop) : Prop :=
  match x, ix with
  | .s b, .i _ i => isStr P t = true ∧ 0 ≤ i ∧ i < b.size ∧ K (.i .u8 (b.get! i.toNat).toNat)
  | _, _ => False

def minInt (a b : Int) : Int := if b < a then b else a
def maxInt (a b : Int) : Int := if b > a then b else a

def min2C (x y : V) (K : V → Prop) : Prop := match x, y with | .i k a, .i k' b => k' = k ∧ K (.i k (minInt a b)) | _, _ => False
def max2C (x y : V) (K : V → Prop) : Prop := match x, y with | .i k a, .i k' b => k' = k ∧ K (.i k (maxInt a b)) | _, _ => False

/-- make([]T, n): n zero elements. -/
def makeSliceC (P : Program) (t : TypeId) (l c : V) (H : List Obj) (K : V → List Obj → Prop) : Prop :=
  match selem P t, l, c with
  | some e, .i _ n, .i _ m =>
    match csz P e, zeroV P e with
    | some k, some z => 0 < k ∧ boxable z = true ∧ (cellsOf z).length = k ∧ 0 ≤ n ∧ n ≤ m ∧ tbytes P e * m ≤ 140737488355328 ∧ m ≤ 9223372036854775807 ∧
      K (.sl H.length n.toNat 0 n.toNat none) (H ++ [.row k (List.replicate n.toNat z)])
    | _, _ => False
  | _, _, _ => False

def makeFuncC (fn : Go.Fn) (first captured : List V) (K : V → Prop) : Prop :=
  match fn, first with
  | .func f, [] => K (.clo f captured)
  | _, _ => False

def callC (P : Program) (f : V) (args : List V) (H : List Obj) (K : V → List Obj → Prop) : Prop :=
  match f with
  | .clo fid caps => Fn P fid (args ++ caps) H K
  | _ => False

def biC (P : Program) (b : Builtin) (args : List V) (ts : List TypeId) (H : List Obj) (K : V → List Obj → Prop) : Prop :=
  match b, args, ts with
  | .len, [x], [t] => lenC P t x H (atH K H)
  | .append, [x, y], [t, t'] => appendC P t t' x y H K
  | .min, [x, y], _ => min2C x y (atH K H)
  | .max, [x, y], _ => max2C x y (atH K H)
  | .delete, [m, k], [t, _] => deleteC P t m k H K
  | .clear, [x], [t] => clearC P t x H K
  | _, _, _ => False

def opC (P : Program) (op : Op) (σ : Slots) (H : List Obj) (K : V → List Obj → Prop) : Prop :=
  match op with
  | .move x => K (ev σ x) H
  | .assign x => K (ev σ x) H
  | .pick c a b => condW (ev σ c) (K (ev σ a) H) (K (ev σ b) H)
  | .alloc t => allocC P t H K
  | .box _ x => boxC (ev σ x) H K
  | .build t ps => buildC P t (ps.toList.map fun p => (p.1, ev σ p.2)) H K
  | .buildSlice t n ps => buildSliceC P t n (ps.toList.map fun p => (p.1, ev σ p.2)) H K
  | .load t a => loadC P t (ev σ a) H K
  | .store t a x => storeC P t (ev σ a) (ev σ x) H K
  | .nilCheck x => nilC (ev σ x) H K
  | .binOp op t x y _ => if isNilCmp op y = true then nilCmpC P op t (ev σ x) (atH K H) else binC P op t (ev σ x) (ev σ y) (atH K H)
  | .unOp op _ x => unC op (ev σ x) (atH K H)
  | .convert s d x => convC P s d (ev σ x) (atH K H)
  | .makeFunc fn first captured => makeFuncC fn (first.toList.map (ev σ)) (captured.toList.map (ev σ)) (atH K H)
  | .makeSlice t l c => makeSliceC P t (ev σ l) (ev σ c) H K
  | .slice t x lo hi mx => sliceC P t (ev σ x) (lo.map (ev σ)) (hi.map (ev σ)) (mx.map (ev σ)) H K
  | .fieldAddr s x f => fieldAddrC P s (ev σ x) f H K
  | .field t x f => fieldC P t (ev σ x) f (atH K H)
  | .indexAddr t x ix => indexAddrC P t (ev σ x) (ev σ ix) H K
  | .index t x ix => strIndexC P t (ev σ x) (ev σ ix) (atH K H)
  | .extract x i => extractC (ev σ x) i (atH K H)
  | .makeMap _ r => makeMapC (r.map (ev σ)) H K
  | .lookup t m k ok => lookupC P t (ev σ m) (ev σ k) ok H (atH K H)
  | .mapUpdate t m k x => mapUpdateC P t (ev σ m) (ev σ k) (ev σ x) H K
  | .insert t m k x => mapUpdateC P t (ev σ m) (ev σ k) (ev σ x) H K
  | .call { callee := .value f, args, .. } => callC P (ev σ f) (args.toList.map (ev σ)) H K
  | .call { callee := .builtin b, args, argTypes } => biC P b (args.toList.map (ev σ)) argTypes.toList H K
  | _ => False

theorem wp_value {P : Program} {o : Oper} {N : Nat} {σ : Slots} {H : List Obj} {ρ : Nat → Nat} {a : Act} {w : World} {next : Act → World → Prop} {Q : Exit → Act → World → Prop} {K : V → List Obj → Prop}
    (hs : SimA N σ H ρ a w) (kk : ∀ v w' ρ' x H', K x H' → Sim ρ' H' w' → Evo w ρ H w' ρ' H' → VR w' ρ' H' x v → next (a.put o.dst v) w')
    (h : ∃ y u, (execOp a.eval o).run P w = .ok (.value u) w ∧ VR w ρ H y u ∧ K y H) : o.wp P a w next Q := by
  obtain ⟨y, u, hr, hv, hk⟩ := h
  unfold Oper.wp
  rw [hr]
  exact kk u w ρ y H hk hs.sim (.refl w ρ H) hv

theorem wp_value' {P : Program} {o : Oper} {H : List Obj} {ρ : Nat → Nat} {a : Act} {w : World} {next : Act → World → Prop} {Q : Exit → Act → World → Prop} {K : V → List Obj → Prop}
    (kk : ∀ v w' ρ' x H', K x H' → Sim ρ' H' w' → Evo w ρ H w' ρ' H' → VR w' ρ' H' x v → next (a.put o.dst v) w')
    (h : ∃ y u w' ρ' H', (execOp a.eval o).run P w = .ok (.value u) w' ∧ VR w' ρ' H' y u ∧ Sim ρ' H' w' ∧ Evo w ρ H w' ρ' H' ∧ K y H') : o.wp P a w next Q := by
  obtain ⟨y, u, w', ρ', H', hr, hv, s, g, hk⟩ := h
  unfold Oper.wp
  rw [hr]
  exact kk u w' ρ' y H' hk s g hv

theorem parts_eq {N : Nat} {σ : Slots} {H : List Obj} {ρ : Nat → Nat} {a : Act} {w : World} (hs : SimA N σ H ρ a w) (ps : Array (Nat × Operand)) :
    (ps.map fun (i, x) => (i, a.eval x)) = (ps.toList.map fun p => (p.1, a.eval p.2)).toArray ∧
    ((ps.toList.map fun p => (p.1, a.eval p.2)).map (·.1) = (ps.toList.map fun p => (p.1, ev σ p.2)).map (·.1)) ∧
    ∀ (j : Nat) p q, (ps.toList.map fun p => (p.1, ev σ p.2))[j]? = some p → (ps.toList.map fun p => (p.1, a.eval p.2))[j]? = some q → VR w ρ H p.2 q.2 := by
  refine ⟨by apply Array.ext'; simp, by simp, fun j p q h1 h2 => ?_⟩
  rw [List.getElem?_map] at h1 h2
  cases hp : ps.toList[j]? with
  | none => rw [hp] at h1; cases h1
  | some x =>
    rw [hp] at h1 h2
    simp only [Option.map_some, Option.some.injEq] at h1 h2
    subst h1 h2
    exact hs.ev _

theorem opt_eq {N : Nat} {σ : Slots} {H : List Obj} {ρ : Nat → Nat} {a : Act} {w : World} (hs : SimA N σ H ρ a w) (o : Option Operand) :
    (∀ x, o.map (ev σ) = some x → ∃ v, o.map a.eval = some v ∧ VR w ρ H x v) ∧ (o.map (ev σ) = none → o.map a.eval = none) := by
  cases o with
  | none => simp
  | some y =>
    simp only [Option.map_some, Option.some.injEq, reduceCtorEq, false_implies, and_true]
    rintro x rfl
    exact ⟨_, rfl, hs.ev y⟩

theorem VRs_map {N : Nat} {σ : Slots} {H : List Obj} {ρ : Nat → Nat} {a : Act} {w : World} (hs : SimA N σ H ρ a w) (xs : Array Operand) : VRs w ρ H (xs.toList.map (ev σ)) (xs.map a.eval) := by
  refine ⟨by simp, fun j x v h1 h2 => ?_⟩
  rw [List.getElem?_map, Array.getElem?_toList] at h1
  rw [Array.getElem?_map] at h2
  cases hp : xs[j]? with
  | none => rw [hp] at h1; cases h1
  | some y =>
    rw [hp] at h1 h2
    simp only [Option.map_some, Option.some.injEq] at h1 h2
    subst h1 h2
    exact hs.ev y

theorem VRs.append {w : World} {ρ : Nat → Nat} {H : List Obj} {xs ys : List V} {us vs : Array Value} (h : VRs w ρ H xs us) (g : VRs w ρ H ys vs) : VRs w ρ H (xs ++ ys) (us ++ vs) := by
  refine ⟨by simp [h.1, g.1], fun j x v h1 h2 => ?_⟩
  by_cases hj : j < xs.length
  · rw [List.getElem?_append_left hj] at h1
    rw [Array.getElem?_append_left (h.1 ▸ hj)] at h2
    exact h.2 j x v h1 h2
  · rw [List.getElem?_append_right (by omega)] at h1
    rw [Array.getElem?_append_right (by have := h.1; omega)] at h2
    rw [← h.1] at h2
    exact g.2 _ x v h1 h2

theorem run_makeSlice {P : Program} {t : TypeId} {l c : V} {w : World} {ρ : Nat → Nat} {H : List Obj} {K : V → List Obj → Prop} (s : Sim ρ H w) {vl vc : Value} (hl : VR w ρ H l vl) (hc : VR w ρ H c vc)
    (h : makeSliceC P t l c H K) : ∃ y u w' ρ' H', (Instr.makeSlice t vl vc).run P w = .ok u w' ∧ VR w' ρ' H' y u ∧ Sim ρ' H' w' ∧ Evo w ρ H w' ρ' H' ∧ K y H' := by
  unfold makeSliceC at h
  split at h
  · rename_i e kl n kc m he
    have hu := of_selem he
    have e1 := hl.inv_i; have e2 := hc.inv_i
    subst e1 e2
    split at h
    · rename_i k z hk hz
      obtain ⟨hk0, hzb, hzc, h0, hnm, hby, h63, hK⟩ := h
      obtain ⟨i, zv, hi, hzv, hisz, hzvs, hib⟩ := selem_info hk hz hzb hzc
      obtain ⟨vz, hzr, hzVR⟩ := zero_run hz
      obtain ⟨z1, z2⟩ := (hzVR w ρ H).cells hzb
      rw [hzc] at z1
      have wr : ∀ x : Int, 0 ≤ x → x ≤ 9223372036854775807 → IntKind.i64.wrap x = x := by
        intro x h1 h2
        have : IntKind.i64.bits = 64 := rfl
        have h3 : IntKind.i64.signed = true := rfl
        simp only [IntKind.wrap, this, h3]
        have : x % (2 ^ 64 : Int) = x := Int.emod_eq_of_lt h1 (by omega)
        rw [this]
        simp
        omega
      have hwn := wr n h0 (by omega)
      have hwm := wr m (by omega) h63
      obtain ⟨m', rfl⟩ := Int.eq_ofNat_of_zero_le (show 0 ≤ m by omega)
      obtain ⟨n', rfl⟩ := Int.eq_ofNat_of_zero_le h0
      have hnm' : n' ≤ m' := by omega
      simp only [Int.toNat_natCast] at hK
      have zero_or : ∀ (q : Nat), q = m' * k → ((Array.range q).map fun i => (if q = 0 then (#[] : Array Value) else vz.cells)[i % (if q = 0 then (#[] : Array Value) else vz.cells).size]!).toList.length = m' * k := by
        intro q hq; simp [hq]
      let rows : List Value := (List.range (m' * k)).map fun i => vz.cells[i % k]!
      have hrl : rows.length = m' * k := by simp [rows]
      have hsplit : rows = rows.take (n' * k) ++ rows.drop (n' * k) := (List.take_append_drop _ _).symm
      have hle : n' * k ≤ m' * k := Nat.mul_le_mul_right _ hnm'
      obtain ⟨s', g, hv⟩ := sim_row (k := k) (ys := List.replicate n' z) (news := rows.take (n' * k)) (rest := rows.drop (n' * k)) (e := e) s (by rw [List.length_take, hrl, Nat.min_eq_left hle, List.length_replicate])
        (by intro a ha; rw [(List.mem_replicate.1 ha).2]; exact hzc)
        (by
          intro a y j x h1 h2
          rw [List.getElem?_replicate] at h1
          split at h1
          · rename_i ha
            cases h1
            have hj : j < k := by rw [← hzc]; exact (List.getElem?_eq_some_iff.1 h2).1
            obtain ⟨u, hu, hx⟩ := z2 j x h2
            refine ⟨u, ?_, hx⟩
            have hak : (a + 1) * k ≤ n' * k := Nat.mul_le_mul_right _ ha
            rw [Nat.add_mul, Nat.one_mul] at hak
            rw [List.getElem?_take, if_pos (by omega), List.getElem?_map, List.getElem?_range (by omega)]
            simp only [Option.map_some]
            have : (a * k + j) % k = j := by rw [Nat.mul_comm, Nat.mul_add_mod]; exact Nat.mod_eq_of_lt hj
            rw [this]
            have hju : j < vz.cells.size := by rw [z1]; exact hj
            simp [hju] at hu ⊢
            exact hu
          · cases h1)
        n' m' (by simpa using hnm') (by rw [List.length_replicate, List.length_drop, hrl]; omega) (by simp) w.drawn
      refine ⟨_, _, _, _, _, ?_, hv, s', g, hK⟩
      have room : ∀ b, (askRoom b).run P w = .ok () w := by intro b; unfold askRoom; split <;> rfl
      have hinfo : (typeInfo e).run P w = .ok i w := by simp [typeInfo, hi]
      have hby2 : (i.bytes : Int) * (m' : Int) ≤ 140737488355328 := by rw [hib]; exact hby
      have big : ¬ (((m' : Int) < 0 || (i.bytes : Int) * (m' : Int) > 2 ^ 48 || decide ((n' : Int) < 0) || decide ((n' : Int) > (m' : Int))) = true) := by
        simp
        omega
      have hrows : ((Array.range (m' * k)).map fun x => (if m' * k = 0 then (#[] : Array Value) else vz.cells)[x % (if m' * k = 0 then (#[] : Array Value) else vz.cells).size]!) = (rows.take (n' * k) ++ rows.drop (n' * k)).toArray := by
        rw [← hsplit]
        by_cases h0 : m' * k = 0
        · apply Array.ext'; simp [rows, h0]
        · apply Array.ext'; simp [rows, h0, z1]
      have hsz : (sizeOf e).run P w = .ok k w := run_sizeOf hk w
      unfold Instr.makeSlice
      simp only [Sem.run_bind, run_underlying hu, Result.andThen_ok, asInt, asIntOf, Sem.run_pure, hinfo, hwn, hwm]
      rw [if_neg big]
      simp only [Sem.run_bind, room, Result.andThen_ok, hsz, Int.toNat_natCast]
      by_cases h0 : m' * k = 0
      · rw [if_pos h0] at hrows ⊢
        simp only [Sem.run_bind, Sem.run_pure, Result.andThen_ok, hrows, newRow, run_newObj]
      · rw [if_neg h0] at hrows ⊢
        simp only [Sem.run_bind, Sem.run_pure, Result.andThen_ok, hzr, hrows, newRow, run_newObj]
    · exact h.elim
  · exact h.elim

end Go.TL
