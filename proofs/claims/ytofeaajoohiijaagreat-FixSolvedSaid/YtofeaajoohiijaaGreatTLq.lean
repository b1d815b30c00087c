/- The tree logic: maps. -/
import Derived.Test.YtofeaajoohiijaaGreatTLi
import Derived.MapKept
namespace Go.TL
open Go Go.MapKept

def sameV : V → V → Bool
  | .i k n, .i k' n' => k == k' && n == n'
  | .s a, .s b => a == b
  | .b a, .b b => a == b
  | _, _ => false

def keyD (d : TypeDesc) : V → Bool
  | .i k _ => match d with | .int k' => k == k' | _ => false
  | .s _ => match d with | .string => true | _ => false
  | .b _ => match d with | .bool => true | _ => false
  | _ => false

def mget : List (V × V) → V → Option V
  | [], _ => none
  | e :: es, k => if sameV k e.1 then some e.2 else mget es k

def mput : List (V × V) → V → V → List (V × V)
  | [], k, x => [(k, x)]
  | e :: es, k, x => if sameV k e.1 then (e.1, x) :: es else e :: mput es k x

def mdel : List (V × V) → V → List (V × V)
  | [], _ => []
  | e :: es, k => if sameV k e.1 then es else e :: mdel es k

def keysOk (d : TypeDesc) (es : List (V × V)) : Bool := es.all fun e => keyD d e.1

def mapT (P : Program) (t : TypeId) : Option (TypeDesc × V) :=
  match P.underlying t with
  | some (.map kt et) => match P.underlying kt, zeroV P et with
    | some d, some z => some (d, z)
    | _, _ => none
  | _ => none

theorem mapT_inv {P : Program} {t : TypeId} {d : TypeDesc} {z : V} (h : mapT P t = some (d, z)) : ∃ kt et, P.underlying t = some (.map kt et) ∧ P.underlying kt = some d ∧ zeroV P et = some z := by
  unfold mapT at h
  split at h
  · rename_i kt et hu
    split at h
    · rename_i d' z' h1 h2
      cases h
      exact ⟨kt, et, hu, h1, h2⟩
    · cases h
  · cases h

/-- A key that may be: its value is one alone. -/
theorem VR.key {w : World} {ρ : Nat → Nat} {H : List Obj} {d : TypeDesc} {x : V} {v : Value} (h : VR w ρ H x v) (hk : keyD d x = true) : IsKey d v := by
  cases h <;> simp [keyD] at hk
  case i k n => cases d <;> simp at hk; subst hk; rfl
  case b x => cases d <;> simp at hk; trivial
  case s x => cases d <;> simp at hk; trivial

theorem VR.keyEq {w : World} {ρ : Nat → Nat} {H : List Obj} {d : TypeDesc} {x y : V} {v u : Value} (h : VR w ρ H x v) (g : VR w ρ H y u) (hk : keyD d x = true) (hk' : keyD d y = true) :
    Instr.sameNow d v u = some (sameV x y) := by
  cases h <;> simp [keyD] at hk <;> cases d <;> simp at hk <;> cases g <;> simp [keyD] at hk' <;> simp_all [Instr.sameNow, sameV]

/-- Entries, told by value. -/
def EntR (w : World) (ρ : Nat → Nat) (H : List Obj) (ents : List MapEntry) (es : List (V × V)) : Prop :=
  ents.length = es.length ∧ ∀ (i : Nat) kx, es[i]? = some kx → ∃ en, ents[i]? = some en ∧ VR w ρ H kx.1 en.key ∧ VR w ρ H kx.2 en.val

theorem EntR.nil {w : World} {ρ : Nat → Nat} {H : List Obj} : EntR w ρ H [] [] := ⟨rfl, by simp⟩
theorem EntR.cons {w : World} {ρ : Nat → Nat} {H : List Obj} {en : MapEntry} {ents : List MapEntry} {e : V × V} {es : List (V × V)} (h1 : VR w ρ H e.1 en.key) (h2 : VR w ρ H e.2 en.val) (h : EntR w ρ H ents es) :
    EntR w ρ H (en :: ents) (e :: es) := by
  refine ⟨by simp [h.1], fun i kx hi => ?_⟩
  cases i with
  | zero => simp at hi; subst hi; exact ⟨en, rfl, h1, h2⟩
  | succ i => simpa using h.2 i kx (by simpa using hi)
theorem EntR.inv {w : World} {ρ : Nat → Nat} {H : List Obj} {ents : List MapEntry} {e : V × V} {es : List (V × V)} (h : EntR w ρ H ents (e :: es)) :
    ∃ en rest, ents = en :: rest ∧ VR w ρ H e.1 en.key ∧ VR w ρ H e.2 en.val ∧ EntR w ρ H rest es := by
  cases ents with
  | nil => have := h.1; simp at this
  | cons en rest =>
    obtain ⟨en', a, b, c⟩ := h.2 0 e rfl
    simp at a
    subst a
    exact ⟨en, rest, rfl, b, c, by have := h.1; simpa using this, fun i kx hi => by simpa using h.2 (i + 1) kx (by simpa using hi)⟩

/-- What is found of a key. -/
theorem find_ent {w : World} {ρ : Nat → Nat} {H : List Obj} {d : TypeDesc} {k : V} {kv : Value} (hk : VR w ρ H k kv) (hkd : keyD d k = true) : ∀ (es : List (V × V)) (ents : List MapEntry) (i : Nat),
    EntR w ρ H ents es → keysOk d es = true →
    (Instr.findNow d kv ents i = some none ∧ mget es k = none ∧ mdel es k = es ∧ ∀ x, mput es k x = es ++ [(k, x)]) ∨
    ∃ j en x, Instr.findNow d kv ents i = some (some (i + j, en.val)) ∧ ents[j]? = some en ∧ mget es k = some x ∧ VR w ρ H x en.val ∧ en.key = kv ∧
      EntR w ρ H (ents.eraseIdx j) (mdel es k) ∧ ∀ y u, VR w ρ H y u → EntR w ρ H (ents.modify j fun e => { e with key := kv, val := u }) (mput es k y)
  | [], ents, i, h, _ => by
    obtain rfl : ents = [] := List.eq_nil_of_length_eq_zero h.1
    exact .inl ⟨rfl, rfl, rfl, fun _ => rfl⟩
  | e :: es, ents, i, h, hok => by
    obtain ⟨en, rest, rfl, h1, h2, h3⟩ := h.inv
    simp only [keysOk, List.all_cons, Bool.and_eq_true] at hok
    have hs := hk.keyEq h1 hkd hok.1
    by_cases hsame : sameV k e.1 = true
    · rw [hsame] at hs
      have hkey : en.key = kv := by
        obtain ⟨r, hr, hiff⟩ := sameNow_of_keys (hk.key hkd) (h1.key hok.1)
        rw [hr] at hs
        cases hs
        exact (hiff.1 rfl).symm
      refine .inr ⟨0, en, e.2, by simp [Instr.findNow, hs], rfl, by simp [mget, hsame], h2, hkey, by simpa [mdel, hsame] using h3, fun y u hy => ?_⟩
      simp only [List.modify_zero_cons, mput, hsame, if_true]
      exact .cons (by show VR w ρ H e.1 kv; rw [← hkey]; exact h1) hy h3
    · have hf : sameV k e.1 = false := by simpa using hsame
      rw [hf] at hs
      rcases find_ent hk hkd es rest (i + 1) h3 hok.2 with ⟨a1, a2, a3, a4⟩ | ⟨j, en', x, a1, a2, a3, a4, a5, a6, a7⟩
      · exact .inl ⟨by simp [Instr.findNow, hs, a1], by simp [mget, hf, a2], by simp [mdel, hf, a3], fun x => by simp [mput, hf, a4]⟩
      · refine .inr ⟨j + 1, en', x, by simp [Instr.findNow, hs, a1]; omega, by simpa using a2, by simp [mget, hf, a3], a4, a5, ?_, fun y u hy => ?_⟩
        · simp only [List.eraseIdx_cons_succ, mdel, hf]
          exact .cons h1 h2 a6
        · simp only [List.modify_succ_cons, mput, hf]
          exact .cons h1 h2 (a7 y u hy)

/-- A map changes. -/
theorem sim_mapput {ρ : Nat → Nat} {H : List Obj} {w : World} (s : Sim ρ H w) {o : Nat} {es es' : List (V × V)} {ents : Array MapEntry} {clock : Nat} (ho : H[o]? = some (.map es)) (he : EntR w ρ H ents.toList es') :
    let w' : World := { w with heap := w.heap.setIfInBounds (ρ o) (.map ents clock) }
    Sim ρ (H.set o (.map es')) w' ∧ Evo w ρ H w' ρ (H.set o (.map es')) := by
  intro w'
  have hol : o < H.length := (List.getElem?_eq_some_iff.1 ho).1
  obtain ⟨ents0, clock0, hb0, -, -⟩ := s.map o es ho
  obtain ⟨hnew, hold⟩ := heap_set (o' := .map ents clock) hb0
  have hsize : w'.heap.size = w.heap.size := by simp [w']
  have hget : ∀ j, (H.set o (.map es'))[j]? = if j = o then some (.map es') else H[j]? := fun j => getElem?_set' H o _ j hol
  have hne : ∀ {j : Nat} {ob : Obj}, j ≠ o → H[j]? = some ob → ob ≠ .dead → ρ j ≠ ρ o := fun hjo hj hd e => hjo (s.inj _ o _ _ hj hd ho (by simp) e)
  have g : Evo w ρ H w' ρ (H.set o (.map es')) := by
    refine ⟨by rw [hsize]; exact Nat.le_refl _, by simp, ?_, ?_, ?_, ?_, rfl, rfl, rfl⟩
    · intro b hbl hu
      have hbo : b ≠ ρ o := fun e => hu o _ ho (by simp) e.symm
      refine ⟨hold b hbo, fun j ob hj hd => ?_⟩
      rw [hget] at hj
      by_cases hjo : j = o
      · subst hjo; exact hbo.symm
      · rw [if_neg hjo] at hj; exact hu j ob hj hd
    · intro j hj
      rw [hget]
      by_cases hjo : j = o
      · subst hjo; rw [ho] at hj; cases hj
      · rw [if_neg hjo]; exact hj
    · intro j k' es₀ hj
      right
      have hjo : j ≠ o := fun e => by subst e; rw [ho] at hj; cases hj
      refine ⟨es₀, by rw [hget, if_neg hjo]; exact hj, Nat.le_refl _, fun _ => ⟨rfl, ?_⟩⟩
      simp only [World.shape?]
      show (match w'.heap[ρ j]? with | _ => _) = _
      rw [hold _ (hne hjo hj (by simp))]
    · intro j es₀ hj
      right
      by_cases hjo : j = o
      · subst hjo; exact ⟨es', by rw [hget, if_pos rfl], rfl⟩
      · exact ⟨es₀, by rw [hget, if_neg hjo]; exact hj, rfl⟩
  refine ⟨⟨?_, ?_, ?_⟩, g⟩
  · intro o₁ o₂ ob₁ ob₂ h1 d1 h2 d2 e
    have pick : ∀ {j : Nat} {ob : Obj}, (H.set o (.map es'))[j]? = some ob → ob ≠ .dead → ∃ ob', H[j]? = some ob' ∧ ob' ≠ .dead := by
      intro j ob hj hd
      rw [hget] at hj
      by_cases hjo : j = o
      · subst hjo; exact ⟨_, ho, by simp⟩
      · rw [if_neg hjo] at hj; exact ⟨ob, hj, hd⟩
    obtain ⟨a, a1, a2⟩ := pick h1 d1
    obtain ⟨b, b1, b2⟩ := pick h2 d2
    exact s.inj o₁ o₂ a b a1 a2 b1 b2 e
  · intro j k' es₀ hj
    rw [hget] at hj
    have hjo : j ≠ o := fun e => by subst e; rw [if_pos rfl] at hj; cases hj
    rw [if_neg hjo] at hj
    obtain ⟨arr₀, t₀, e0, f0, k0, c0⟩ := s.row j k' es₀ hj
    refine ⟨arr₀, t₀, by rw [hold _ (hne hjo hj (by simp))]; exact e0, f0, k0, fun i e j x h1 h2 => ?_⟩
    obtain ⟨v, hv, hx⟩ := c0 i e j x h1 h2
    exact ⟨v, hv, hx.evo g⟩
  · intro j es₀ hj
    rw [hget] at hj
    by_cases hjo : j = o
    · subst hjo
      rw [if_pos rfl] at hj
      cases hj
      refine ⟨ents, clock, hnew, by have := he.1; simpa using this, fun i kx h1 => ?_⟩
      obtain ⟨en, h2, h3, h4⟩ := he.2 i kx h1
      exact ⟨en, by simpa using h2, h3.evo g, h4.evo g⟩
    · rw [if_neg hjo] at hj
      obtain ⟨ents, clock, e0, z0, c0⟩ := s.map j es₀ hj
      refine ⟨ents, clock, by rw [hold _ (hne hjo hj (by simp))]; exact e0, z0, fun i kx h1 => ?_⟩
      obtain ⟨en, h2, h3, h4⟩ := c0 i kx h1
      exact ⟨en, h2, h3.evo g, h4.evo g⟩

def makeMapC (r : Option V) (H : List Obj) (K : V → List Obj → Prop) : Prop := r = none ∧ K (.map H.length) (H ++ [.map []])

theorem run_makeMap {P : Program} {t : TypeId} {w : World} {ρ : Nat → Nat} {H : List Obj} {K : V → List Obj → Prop} (s : Sim ρ H w) (h : makeMapC none H K) :
    ∃ y u w' ρ' H', (Instr.makeMap t none).run P w = .ok u w' ∧ VR w' ρ' H' y u ∧ Sim ρ' H' w' ∧ Evo w ρ H w' ρ' H' ∧ K y H' := by
  obtain ⟨e1, e2⟩ := heap_alloc w (.map #[] 0)
  obtain ⟨s', g⟩ := sim_new (w' := w.alloc (.map #[] 0)) (blk := w.heap.size) (ob := .map []) s (Nat.le_refl _) (show w.heap.size < (w.heap.push _).size by simp) e2
    (by intro k es he; cases he) (by intro es he; cases he; exact ⟨#[], 0, e1, rfl, by simp⟩)
  refine ⟨_, .map (some w.heap.size), _, _, _, by simp [Instr.makeMap, Result.andThen], .map _ _ (by simp) rfl fun es he => ?_, s', g, h.2⟩
  simp

def mres (z : V) (ok : Bool) (r : Option V) : V := if ok then .tup [r.getD z, .b r.isSome] else r.getD z

def lookupC (P : Program) (t : TypeId) (m k : V) (ok : Bool) (H : List Obj) (K : V → Prop) : Prop :=
  match mapT P t, m with
  | some (d, z), .map o => (match H[o]? with | some (.map es) => keysOk d es = true ∧ keyD d k = true ∧ K (mres z ok (mget es k)) | _ => False)
  | some (d, z), .raw (.map none) => keyD d k = true ∧ K (mres z ok none)
  | _, _ => False

theorem run_lookup {P : Program} {t : TypeId} {m k : V} {ok : Bool} {w : World} {ρ : Nat → Nat} {H : List Obj} {K : V → Prop} (s : Sim ρ H w) {mv kv : Value} (hm : VR w ρ H m mv) (hk : VR w ρ H k kv) (h : lookupC P t m k ok H K) :
    ∃ y u, (Instr.lookup t mv kv ok).run P w = .ok u w ∧ VR w ρ H y u ∧ K y := by
  have pair : ∀ {x : V} {v : Value} {b : Bool}, VR w ρ H x v → VR w ρ H (.tup [x, .b b]) (.tuple #[v, .bool b]) := by
    intro x v b hx
    refine .tup _ _ rfl fun j y u h1 h2 => ?_
    rcases j with _ | _ | j
    · simp at h1 h2; subst h1 h2; exact hx
    · simp at h1 h2; subst h1 h2; exact .b _
    · simp at h1
  unfold lookupC at h
  split at h
  · rename_i d z o hT
    obtain ⟨kt, et, u1, u2, u3⟩ := mapT_inv hT
    obtain ⟨zv, z1, z2⟩ := zero_run u3
    split at h
    · rename_i es ho
      obtain ⟨h1, h2, hK⟩ := h
      obtain ⟨ents, clock, hb, hsz, hent⟩ := s.map o es ho
      have hmv : mv = .map (some (ρ o)) := by
        cases hm with
        | map _ _ _ _ h' => exact h' es ho
      subst hmv
      have hE : EntR w ρ H ents.toList es := ⟨by simpa using hsz, fun i kx hi => by obtain ⟨en, a, b⟩ := hent i kx hi; exact ⟨en, by simpa using a, b⟩⟩
      rcases find_ent hk h2 es ents.toList 0 hE h1 with ⟨a1, a2, -, -⟩ | ⟨j, en, x, a1, -, a3, a4, -⟩
      · rw [a2] at hK
        cases ok
        · exact ⟨_, zv, by simp [Instr.lookup, run_underlying u1, run_getObj_map hb, run_checkKey u2 (hk.key h2), run_findKey u2 a1, z1, Result.andThen], z2 _ _ _, hK⟩
        · exact ⟨_, .tuple #[zv, .bool false], by simp [Instr.lookup, run_underlying u1, run_getObj_map hb, run_checkKey u2 (hk.key h2), run_findKey u2 a1, z1, Result.andThen], pair (z2 _ _ _), hK⟩
      · rw [a3] at hK
        cases ok
        · exact ⟨_, en.val, by simp [Instr.lookup, run_underlying u1, run_getObj_map hb, run_checkKey u2 (hk.key h2), run_findKey u2 a1, Result.andThen], a4, hK⟩
        · exact ⟨_, .tuple #[en.val, .bool true], by simp [Instr.lookup, run_underlying u1, run_getObj_map hb, run_checkKey u2 (hk.key h2), run_findKey u2 a1, Result.andThen], pair a4, hK⟩
    · exact h.elim
  · rename_i d z hT
    obtain ⟨kt, et, u1, u2, u3⟩ := mapT_inv hT
    obtain ⟨zv, z1, z2⟩ := zero_run u3
    obtain ⟨h2, hK⟩ := h
    have hmv : mv = .map none := by cases hm; rfl
    subst hmv
    have a1 : Instr.findNow d kv ([] : List MapEntry) 0 = some none := rfl
    cases ok
    · exact ⟨_, zv, by simp [Instr.lookup, run_underlying u1, run_checkKey u2 (hk.key h2), run_findKey u2 a1, z1, Result.andThen], z2 _ _ _, hK⟩
    · exact ⟨_, .tuple #[zv, .bool false], by simp [Instr.lookup, run_underlying u1, run_checkKey u2 (hk.key h2), run_findKey u2 a1, z1, Result.andThen], pair (z2 _ _ _), hK⟩
  · exact h.elim

def mapUpdateC (P : Program) (t : TypeId) (m k x : V) (H : List Obj) (K : V → List Obj → Prop) : Prop :=
  match mapT P t, m with
  | some (d, _), .map o => (match H[o]? with | some (.map es) => keysOk d es = true ∧ keyD d k = true ∧ K .any (H.set o (.map (mput es k x))) | _ => False)
  | _, _ => False

theorem EntR.push {w : World} {ρ : Nat → Nat} {H : List Obj} {ents : List MapEntry} {es : List (V × V)} (h : EntR w ρ H ents es) {en : MapEntry} {e : V × V} (h1 : VR w ρ H e.1 en.key) (h2 : VR w ρ H e.2 en.val) :
    EntR w ρ H (ents ++ [en]) (es ++ [e]) := by
  refine ⟨by simp [h.1], fun i kx hi => ?_⟩
  rcases Nat.lt_or_ge i es.length with hl | hl
  · rw [List.getElem?_append_left hl] at hi
    rw [List.getElem?_append_left (by rw [h.1]; exact hl)]
    exact h.2 i kx hi
  · rw [List.getElem?_append_right hl] at hi
    rw [List.getElem?_append_right (by rw [h.1]; exact hl), h.1]
    generalize i - es.length = j at hi ⊢
    cases j with
    | zero => simp at hi; subst hi; exact ⟨en, rfl, h1, h2⟩
    | succ j => simp at hi

theorem run_mapUpdate {P : Program} {t : TypeId} {m k x : V} {w : World} {ρ : Nat → Nat} {H : List Obj} {K : V → List Obj → Prop} (s : Sim ρ H w) {mv kv v : Value} (hm : VR w ρ H m mv) (hk : VR w ρ H k kv) (hx : VR w ρ H x v)
    (h : mapUpdateC P t m k x H K) : ∃ w' H', (Instr.mapUpdate t mv kv v).run P w = .ok () w' ∧ Sim ρ H' w' ∧ Evo w ρ H w' ρ H' ∧ K .any H' := by
  unfold mapUpdateC at h
  split at h
  · rename_i d z o hT
    obtain ⟨kt, et, u1, u2, u3⟩ := mapT_inv hT
    split at h
    · rename_i es ho
      obtain ⟨h1, h2, hK⟩ := h
      obtain ⟨ents, clock, hb, hsz, hent⟩ := s.map o es ho
      have hmv : mv = .map (some (ρ o)) := by
        cases hm with
        | map _ _ _ _ h' => exact h' es ho
      subst hmv
      have hE : EntR w ρ H ents.toList es := ⟨by simpa using hsz, fun i kx hi => by obtain ⟨en, a, b⟩ := hent i kx hi; exact ⟨en, by simpa using a, b⟩⟩
      rcases find_ent hk h2 es ents.toList 0 hE h1 with ⟨a1, a2, -, a4⟩ | ⟨j, en, y, a1, a2, a3, a4, a5, -, a7⟩
      · have hE' : EntR w ρ H (ents.push { key := kv, val := v, born := clock }).toList (mput es k x) := by
          rw [a4, Array.toList_push]
          exact hE.push hk hx
        obtain ⟨s', g⟩ := sim_mapput (clock := clock + 1) s ho hE'
        refine ⟨_, _, ?_, s', g, hK⟩
        simp [Instr.mapUpdate, run_underlying u1, run_getObj_map hb, run_checkKey u2 (hk.key h2), run_findKey u2 a1, run_setObj_map _ hb, Result.andThen]
      · have hE' : EntR w ρ H (ents.modify j fun e => { e with key := kv, val := v }).toList (mput es k x) := by
          rw [Array.toList_modify]
          exact a7 x v hx
        obtain ⟨s', g⟩ := sim_mapput (clock := clock) s ho hE'
        have hj : ents[j]? = some en := by simpa using a2
        refine ⟨_, _, ?_, s', g, hK⟩
        simp [Instr.mapUpdate, run_underlying u1, run_getObj_map hb, run_checkKey u2 (hk.key h2), run_findKey u2 a1, hj, a5, run_keyThatStays (hk.key h2), run_setObj_map _ hb, Result.andThen]
    · exact h.elim
  · exact h.elim

def deleteC (P : Program) (t : TypeId) (m k : V) (H : List Obj) (K : V → List Obj → Prop) : Prop :=
  match mapT P t, m with
  | some (d, _), .map o => (match H[o]? with | some (.map es) => keysOk d es = true ∧ keyD d k = true ∧ K (.tup []) (H.set o (.map (mdel es k))) | _ => False)
  | _, _ => False

theorem run_delete {P : Program} {t t' ty : TypeId} {m k : V} {w : World} {ρ : Nat → Nat} {H : List Obj} {K : V → List Obj → Prop} (s : Sim ρ H w) {mv kv : Value} (hm : VR w ρ H m mv) (hk : VR w ρ H k kv)
    (h : deleteC P t m k H K) : ∃ y u w' ρ' H', (Builtin.delete_ #[t, t'] ty #[mv, kv]).run P w = .ok u w' ∧ VR w' ρ' H' y u ∧ Sim ρ' H' w' ∧ Evo w ρ H w' ρ' H' ∧ K y H' := by
  unfold deleteC at h
  split at h
  · rename_i d z o hT
    obtain ⟨kt, et, u1, u2, u3⟩ := mapT_inv hT
    split at h
    · rename_i es ho
      obtain ⟨h1, h2, hK⟩ := h
      obtain ⟨ents, clock, hb, hsz, hent⟩ := s.map o es ho
      have hmv : mv = .map (some (ρ o)) := by
        cases hm with
        | map _ _ _ _ h' => exact h' es ho
      subst hmv
      have hE : EntR w ρ H ents.toList es := ⟨by simpa using hsz, fun i kx hi => by obtain ⟨en, a, b⟩ := hent i kx hi; exact ⟨en, by simpa using a, b⟩⟩
      have e0 : ∀ w' ρ' H', VR w' ρ' H' (.tup []) (.tuple #[]) := fun _ _ _ => .tup _ _ rfl (by simp)
      rcases find_ent hk h2 es ents.toList 0 hE h1 with ⟨a1, a2, a3, -⟩ | ⟨j, en, y, a1, a2, a3, a4, a5, a6, -⟩
      · rw [a3] at hK
        obtain ⟨s', g⟩ := sim_mapput (clock := clock) s ho hE
        refine ⟨_, .tuple #[], _, _, _, ?_, e0 _ _ _, s', g, hK⟩
        simp [Builtin.delete_, run_underlying u1, run_getObj_map hb, run_checkKey u2 (hk.key h2), run_findKey u2 a1, run_setObj_map _ hb, Result.andThen]
      · have hE' : EntR w ρ H (ents.eraseIdxIfInBounds j).toList (mdel es k) := by
          have hlt : j < ents.size := by have := (List.getElem?_eq_some_iff.1 a2).1; simpa using this
          unfold Array.eraseIdxIfInBounds
          rw [dif_pos hlt, Array.toList_eraseIdx]
          exact a6
        obtain ⟨s', g⟩ := sim_mapput (clock := clock) s ho hE'
        refine ⟨_, .tuple #[], _, _, _, ?_, e0 _ _ _, s', g, hK⟩
        simp [Builtin.delete_, run_underlying u1, run_getObj_map hb, run_checkKey u2 (hk.key h2), run_findKey u2 a1, run_setObj_map _ hb, Result.andThen]
    · exact h.elim
  · exact h.elim

/-! Maps of whole numbers. -/
def imap (l : List (Int × V)) : List (V × V) := l.map fun p => (.i .i64 p.1, p.2)
def iget : List (Int × V) → Int → Option V
  | [], _ => none
  | e :: l, n => if n = e.1 then some e.2 else iget l n
def iput : List (Int × V) → Int → V → List (Int × V)
  | [], n, x => [(n, x)]
  | e :: l, n, x => if n = e.1 then (e.1, x) :: l else e :: iput l n x
def idel : List (Int × V) → Int → List (Int × V)
  | [], _ => []
  | e :: l, n => if n = e.1 then l else e :: idel l n

@[simp] theorem keysOk_imap (l : List (Int × V)) : keysOk (.int .i64) (imap l) = true := by simp [keysOk, imap, keyD]
@[simp] theorem keyD_i (n : Int) : keyD (.int .i64) (.i .i64 n) = true := by simp [keyD]
@[simp] theorem mget_imap (n : Int) : ∀ (l : List (Int × V)), mget (imap l) (.i .i64 n) = iget l n
  | [] => rfl
  | e :: l => by
    have h := mget_imap n l
    simp only [imap, List.map_cons, mget, iget, sameV] at h ⊢
    by_cases hn : n = e.1 <;> simp [hn, h]
@[simp] theorem mput_imap (n : Int) (x : V) : ∀ (l : List (Int × V)), mput (imap l) (.i .i64 n) x = imap (iput l n x)
  | [] => rfl
  | e :: l => by
    have h := mput_imap n x l
    simp only [imap, List.map_cons, mput, iput, sameV] at h ⊢
    by_cases hn : n = e.1 <;> simp [hn, h]
@[simp] theorem mdel_imap (n : Int) : ∀ (l : List (Int × V)), mdel (imap l) (.i .i64 n) = imap (idel l n)
  | [] => rfl
  | e :: l => by
    have h := mdel_imap n l
    simp only [imap, List.map_cons, mdel, idel, sameV] at h ⊢
    by_cases hn : n = e.1 <;> simp [hn, h]

end Go.TL
