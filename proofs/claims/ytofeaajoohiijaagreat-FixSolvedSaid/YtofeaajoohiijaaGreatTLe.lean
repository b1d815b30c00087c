/- The tree logic, part five: slices of slices and strings, lengths, arithmetic. -/
import Derived.Test.YtofeaajoohiijaaGreatTLd
namespace Go.TL
open Go

def isStr (P : Program) (t : TypeId) : Bool := match P.underlying t with | some .string => true | _ => false
def isBoolT (P : Program) (t : TypeId) : Bool := match P.underlying t with | some .bool => true | _ => false

theorem of_isStr {P : Program} {t : TypeId} (h : isStr P t = true) : P.underlying t = some .string := by
  unfold isStr at h; split at h
  · assumption
  · cases h
theorem of_isBoolT {P : Program} {t : TypeId} (h : isBoolT P t = true) : P.underlying t = some .bool := by
  unfold isBoolT at h; split at h
  · assumption
  · cases h
theorem of_selem {P : Program} {t e : TypeId} (h : selem P t = some e) : P.underlying t = some (.slice e) := by
  unfold selem at h; split at h
  · rename_i hu; cases h; exact hu
  · cases h

/-- A bound of a slice expression, if it is there. -/
def bnd (d : Nat) : Option V → Option Int
  | none => some d
  | some (.i _ n) => some n
  | _ => none

def capOf (mx : Option V) (cap m : Nat) : Nat := match mx with | none => cap | some _ => m
theorem capOf_none (cap m : Nat) : capOf none cap m = cap := rfl
theorem capOf_some (x : V) (cap m : Nat) : capOf (some x) cap m = m := rfl

def slRes (o n off : Nat) (cap : Option Nat) (mx : Option V) (l h m : Nat) : V :=
  if l ≠ 0 ∧ h = l then .lst [] else .sl o n (off + l) (h - l) (match mx with | none => cap.map (· - l) | some _ => some (m - l))

def sliceC (P : Program) (t : TypeId) (x : V) (lo hi mx : Option V) (H : List Obj) (K : V → List Obj → Prop) : Prop :=
  match x with
  | .s b => isStr P t = true ∧ mx = none ∧
    match bnd 0 lo, bnd b.size hi with
    | some l, some h => 0 ≤ l ∧ l ≤ h ∧ h ≤ b.size ∧ K (.s (b.extract l.toNat h.toNat)) H
    | _, _ => False
  | .emp => (∃ e k, selem P t = some e ∧ csz P e = some k) ∧ bnd 0 lo = some 0 ∧ bnd 0 hi = some 0 ∧ (mx = none ∨ bnd 0 mx = some 0 ∧ hi ≠ none) ∧ K .emp H
  | .lst es =>
    match selem P t with
    | some e =>
      match csz P e with
      | some k => (∀ y ∈ es, (cellsOf y).length = k) ∧ (mx = none ∨ hi ≠ none) ∧
        match bnd 0 lo, bnd es.length hi, bnd es.length mx with
        | some l, some h, some m => 0 ≤ l ∧ l ≤ h ∧ h ≤ m ∧ m ≤ es.length ∧ K (.lst ((es.take h.toNat).drop l.toNat)) H
        | _, _, _ => False
      | none => False
    | none => False
  | .sl o n off len cap =>
    match selem P t with
    | some e =>
      match csz P e, H[o]? with
      | some k, some (.row k' es) => k' = k ∧ es.length = n ∧ (mx = none ∨ hi ≠ none) ∧
        match bnd 0 lo, bnd len hi, bnd len mx with
        | some l, some h, some m => 0 ≤ l ∧ l ≤ h ∧ h ≤ m ∧ m ≤ len ∧ K (slRes o n off cap mx l.toNat h.toNat m.toNat) H
        | _, _, _ => False
      | _, _ => False
    | none => False
  | _ => False

theorem run_sliceBound {P : Program} {w : World} {k : IntKind} {i : Int} {y : Nat} {c : BoundsCode} (h0 : 0 ≤ i) (h1 : i ≤ y) : (Instr.sliceBound (.int k i) y c).run P w = .ok i.toNat w := by
  simp [Instr.sliceBound, asIntOf, h0, h1]

theorem bnd_some {w : World} {ρ : Nat → Nat} {H : List Obj} {d : Nat} {x : V} {v : Value} {n : Int} (hv : VR w ρ H x v) (h : bnd d (some x) = some n) : ∃ k, v = .int k n := by
  cases x with
  | i k m => simp [bnd] at h; subst h; exact ⟨k, hv.inv_i⟩
  | _ => simp [bnd] at h

theorem run_sliceBounds {P : Program} {w : World} {ρ : Nat → Nat} {H : List Obj} {b : Bool} {len cap : Nat} {lo hi mx : Option V} {vl vh vm : Option Value}
    (el : ∀ x, lo = some x → ∃ v, vl = some v ∧ VR w ρ H x v) (el' : lo = none → vl = none)
    (eh : ∀ x, hi = some x → ∃ v, vh = some v ∧ VR w ρ H x v) (eh' : hi = none → vh = none)
    (em : ∀ x, mx = some x → ∃ v, vm = some v ∧ VR w ρ H x v) (em' : mx = none → vm = none)
    {l h m : Int} (hl : bnd 0 lo = some l) (hh : bnd len hi = some h) (hm : bnd len mx = some m) (hmx : mx = none ∨ hi ≠ none)
    (h0 : 0 ≤ l) (h1 : l ≤ h) (h2 : h ≤ m) (h3 : m ≤ len) (hc : len ≤ cap) :
    (Instr.sliceBounds b len cap vl vh vm).run P w = .ok (l.toNat, h.toNat, capOf mx cap m.toNat) w := by
  unfold Instr.sliceBounds
  cases mx with
  | none =>
    rw [em' rfl]
    cases hi with
    | none =>
      rw [eh' rfl]
      simp only [bnd, Option.some.injEq] at hh
      cases lo with
      | none =>
        rw [el' rfl]
        simp only [bnd, Option.some.injEq] at hl
        simp [← hl, ← hh, capOf]
      | some x =>
        obtain ⟨v, rfl, hv⟩ := el x rfl
        obtain ⟨k, rfl⟩ := bnd_some hv hl
        have hb := run_sliceBound (P := P) (w := w) (k := k) (c := .sliceB) h0 (show l ≤ ((len : Nat) : Int) by omega)
        simp [hb, ← hh, capOf]
    | some x =>
      obtain ⟨v, rfl, hv⟩ := eh x rfl
      obtain ⟨k, rfl⟩ := bnd_some hv hh
      have hb := run_sliceBound (P := P) (w := w) (k := k) (c := if b = true then BoundsCode.sliceAcap else BoundsCode.sliceAlen) (show 0 ≤ h by omega) (show h ≤ (cap : Int) by omega)
      cases lo with
      | none =>
        rw [el' rfl]
        simp only [bnd, Option.some.injEq] at hl
        simp [hb, ← hl, capOf]
      | some y =>
        obtain ⟨v', rfl, hv'⟩ := el y rfl
        obtain ⟨k', rfl⟩ := bnd_some hv' hl
        have hb' := run_sliceBound (P := P) (w := w) (k := k') (c := .sliceB) h0 (show l ≤ ((h.toNat : Nat) : Int) by omega)
        simp [hb, hb', capOf]
  | some z =>
    obtain ⟨vz, rfl, hvz⟩ := em z rfl
    obtain ⟨kz, rfl⟩ := bnd_some hvz hm
    have hbz := run_sliceBound (P := P) (w := w) (k := kz) (c := if b = true then BoundsCode.slice3Acap else BoundsCode.slice3Alen) (show 0 ≤ m by omega) (show m ≤ (cap : Int) by omega)
    cases hi with
    | none => exact absurd rfl (hmx.resolve_left (by simp))
    | some x =>
      obtain ⟨v, rfl, hv⟩ := eh x rfl
      obtain ⟨k, rfl⟩ := bnd_some hv hh
      have hb := run_sliceBound (P := P) (w := w) (k := k) (c := .slice3B) (show 0 ≤ h by omega) (show h ≤ ((m.toNat : Nat) : Int) by omega)
      cases lo with
      | none =>
        rw [el' rfl]
        simp only [bnd, Option.some.injEq] at hl
        simp [hbz, hb, ← hl, capOf]
      | some y =>
        obtain ⟨v', rfl, hv'⟩ := el y rfl
        obtain ⟨k', rfl⟩ := bnd_some hv' hl
        have hb' := run_sliceBound (P := P) (w := w) (k := k') (c := .slice3C) h0 (show l ≤ ((h.toNat : Nat) : Int) by omega)
        simp [hbz, hb, hb', capOf]

theorem run_sliceAt {P : Program} {t : TypeId} {x : V} {lo hi mx : Option V} {w : World} {ρ : Nat → Nat} {H : List Obj} {K : V → List Obj → Prop} {v : Value} {vl vh vm : Option Value} (hv : VR w ρ H x v)
    (el : ∀ x, lo = some x → ∃ v, vl = some v ∧ VR w ρ H x v) (el' : lo = none → vl = none)
    (eh : ∀ x, hi = some x → ∃ v, vh = some v ∧ VR w ρ H x v) (eh' : hi = none → vh = none)
    (em : ∀ x, mx = some x → ∃ v, vm = some v ∧ VR w ρ H x v) (em' : mx = none → vm = none)
    (h : sliceC P t x lo hi mx H K) : ∃ y u, (Instr.sliceAt t v vl vh vm).run P w = .ok u w ∧ VR w ρ H y u ∧ K y H := by
  unfold sliceC at h
  split at h
  · rename_i b
    obtain ⟨hs, rfl, h⟩ := h
    have hu := of_isStr hs
    split at h
    · rename_i l hh hl' hh'
      obtain ⟨h0, h1, h2, hk⟩ := h
      have := hv.inv_s
      subst this
      have hb := run_sliceBounds (P := P) (b := false) (len := b.size) (cap := b.size) el el' eh eh' em em' hl' hh' (show bnd b.size none = some (b.size : Int) from rfl) (.inl rfl) h0 h1 h2 (Int.le_refl _) (Nat.le_refl _)
      rw [em' rfl] at hb
      refine ⟨_, .string (b.extract l.toNat hh.toNat), ?_, .s _, hk⟩
      simp [Instr.sliceAt, Instr.slice, run_underlying hu, em' rfl, hb]
    · exact h.elim
  · obtain ⟨⟨e, k, he, hk0⟩, hl, hh, hm, hk⟩ := h
    have hu := of_selem he
    cases hv with
    | emp a =>
      have hmx : mx = none ∨ hi ≠ none := hm.imp id (fun x => x.2)
      have hm0 : bnd 0 mx = some 0 := by
        rcases hm with rfl | ⟨h, _⟩
        · rfl
        · exact h
      have hb := run_sliceBounds (P := P) (b := true) (len := 0) (cap := 0) el el' eh eh' em em' hl hh hm0 hmx (by omega) (by omega) (by omega) (by omega) (by omega)
      refine ⟨.emp, .slice a 0 0, ?_, .emp _, hk⟩
      cases mx <;> simp [capOf] at hb <;> simp [Instr.sliceAt, Instr.slice, run_underlying hu, hb, run_sizeOf hk0]
  · rename_i es
    split at h
    · rename_i e he
      have hu := of_selem he
      split at h
      · rename_i k hk0
        obtain ⟨hall, hmx, h⟩ := h
        split at h
        · rename_i l hh m hl' hh' hm'
          obtain ⟨h0, h1, h2, h3, hk⟩ := h
          have hlen : ((es.take hh.toNat).drop l.toNat).length = hh.toNat - l.toNat := by simp; omega
          cases hv with
          | lnil a c =>
            simp at h3
            have hb := run_sliceBounds (P := P) (b := true) (len := 0) (cap := c) el el' eh eh' em em' hl' hh' hm' hmx h0 h1 h2 (by simpa using h3) (by omega)
            have hl0 : l.toNat = 0 := by omega
            have hh0 : hh.toNat = 0 := by omega
            simp only [List.take_nil, List.drop_nil] at hk
            refine ⟨.lst [], .slice (if capOf mx c m.toNat = l.toNat then a else a.map (·.add (l.toNat * k))) 0 (capOf mx c m.toNat - l.toNat), ?_, .lnil _ _, hk⟩
            simp [Instr.sliceAt, Instr.slice, run_underlying hu, hb, run_sizeOf hk0, hl0, hh0]
          | lst _ blk off c k' f hne hc hk' hbl hu' hcell hvv =>
            have hb := run_sliceBounds (P := P) (b := true) (len := es.length) (cap := c) el el' eh eh' em em' hl' hh' hm' hmx h0 h1 h2 h3 hc
            have hkk : k' = k := by
              obtain ⟨y, ys, rfl⟩ := List.exists_cons_of_ne_nil hne
              rw [← hk' y (by simp), hall y (by simp)]
            subst hkk
            generalize hmm : (capOf mx c m.toNat) = mm at hb
            have hmm' : hh.toNat ≤ mm := by
              rw [← hmm]; cases mx with
              | none => simp only [capOf]; omega
              | some _ => simp only [capOf]; omega
            by_cases hnil : (es.take hh.toNat).drop l.toNat = []
            · have hz : hh.toNat - l.toNat = 0 := by rw [← hlen, hnil]; rfl
              rw [hnil] at hk
              refine ⟨.lst [], .slice (if mm = l.toNat then some ⟨blk, off, none⟩ else some ((⟨blk, off, none⟩ : Addr).add (l.toNat * k'))) 0 (mm - l.toNat), ?_, .lnil _ _, hk⟩
              simp [Instr.sliceAt, Instr.slice, run_underlying hu, hb, run_sizeOf hk0, hz]
            · have hlt : l.toNat < hh.toNat := by
                rcases Nat.lt_or_ge l.toNat hh.toNat with h' | h'
                · exact h'
                · exact absurd (List.eq_nil_of_length_eq_zero (by rw [hlen]; omega)) hnil
              refine ⟨_, _, ?_, VR.lst ((es.take hh.toNat).drop l.toNat) blk (off + l.toNat * k') (mm - l.toNat) k' (fun i j => f (l.toNat + i) j) hnil (by rw [hlen]; omega)
                (fun y hy => hk' y (List.mem_of_mem_take (List.mem_of_mem_drop hy))) hbl hu' ?_ ?_, hk⟩
              · have : mm ≠ l.toNat := by omega
                simp [Instr.sliceAt, Instr.slice, run_underlying hu, hb, run_sizeOf hk0, this, add_plain, hlen]
              · intro i y j x hy hx
                rw [List.getElem?_drop, List.getElem?_take] at hy
                split at hy
                · have := hcell _ _ _ _ hy hx
                  rw [← this, Nat.add_mul]; congr 2; omega
                · cases hy
              · intro i y j x hy hx
                rw [List.getElem?_drop, List.getElem?_take] at hy
                split at hy
                · exact hvv _ _ _ _ hy hx
                · cases hy
        · exact h.elim
      · exact h.elim
    · exact h.elim
  · rename_i o n off len cap
    split at h
    · rename_i e he
      have hu := of_selem he
      split at h
      · rename_i k k' es hk0 hr
        obtain ⟨rfl, hn, hmx, h⟩ := h
        split at h
        · rename_i l hh m hl' hh' hm'
          obtain ⟨h0, h1, h2, h3, hk⟩ := h
          cases hv with
          | sl _ _ _ _ _ _ ho h1' hhh =>
            obtain ⟨c, tt, sz, rfl, a1, a2, a3, a4, a5⟩ := (hhh _ _ hr).2 hn
            have hb := run_sliceBounds (P := P) (b := true) (len := len) (cap := c) el el' eh eh' em em' hl' hh' hm' hmx h0 h1 h2 h3 a1
            generalize hmm : (capOf mx c m.toNat) = mm at hb
            have hmm' : hh.toNat ≤ mm ∧ mm ≤ c := by
              rw [← hmm]; cases mx with
              | none => simp only [capOf]; omega
              | some _ => simp only [capOf]; omega
            by_cases hz : l.toNat ≠ 0 ∧ hh.toNat = l.toNat
            · unfold slRes at hk; rw [if_pos hz] at hk
              refine ⟨.lst [], _, ?_, .lnil (if mm = l.toNat then some ⟨ρ o, off * k', none⟩ else some ((⟨ρ o, off * k', none⟩ : Addr).add (l.toNat * k'))) (mm - l.toNat), hk⟩
              have hz' : hh.toNat - l.toNat = 0 := by omega
              simp [Instr.sliceAt, Instr.slice, run_underlying hu, hb, run_sizeOf hk0, hz']
            · unfold slRes at hk; rw [if_neg hz] at hk
              refine ⟨_, .slice (some ⟨ρ o, (off + l.toNat) * k', none⟩) (hh.toNat - l.toNat) (mm - l.toNat), ?_, ?_, hk⟩
              · by_cases hml : mm = l.toNat
                · have hl0 : l.toNat = 0 := by
                    rcases Nat.eq_zero_or_pos l.toNat with h' | h'
                    · exact h'
                    · exact absurd ⟨by omega, by omega⟩ hz
                  simp [Instr.sliceAt, Instr.slice, run_underlying hu, hb, run_sizeOf hk0, hml, hl0]
                · simp [Instr.sliceAt, Instr.slice, run_underlying hu, hb, run_sizeOf hk0, hml, add_plain, Nat.add_mul]
              · refine .sl _ _ _ _ _ _ ho rfl fun k2 es2 hr2 => ?_
                rw [hr] at hr2
                cases hr2
                refine ⟨by omega, fun _ => ⟨mm - l.toNat, tt, sz, rfl, by omega, by omega, ?_, a4, ?_, ?_⟩⟩
                · intro c' hc'
                  cases mx with
                  | none =>
                    simp only [capOf] at hmm
                    subst hmm
                    cases cap with
                    | none => simp at hc'
                    | some cc =>
                      simp at hc'
                      obtain ⟨b1, b2⟩ := a3 cc rfl
                      omega
                  | some z =>
                    simp [capOf] at hc' hmm
                    omega
                · have : off + l.toNat + (mm - l.toNat) ≤ off + c := by omega
                  exact Nat.le_trans (Nat.mul_le_mul_right _ this) a5.1
                · intro hcn
                  cases mx with
                  | none =>
                    simp only [capOf] at hmm
                    subst hmm
                    cases cap with
                    | none => have := a5.2 rfl; omega
                    | some cc => simp at hcn
                  | some z => simp at hcn
        · exact h.elim
      · exact h.elim
    · exact h.elim
  · exact h.elim

end Go.TL
