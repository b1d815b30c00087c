/- The tree logic, part four: operations that make and change nothing. -/
import Derived.Test.YtofeaajoohiijaaGreatTLc
namespace Go.TL
open Go

def csz (P : Program) (t : TypeId) : Option Nat := (P.info? t).map (·.size)
def tagg (P : Program) (t : TypeId) : Option Bool :=
  match P.underlying t with
  | some (.struct _) | some (.array _ _) => some true
  | some _ => some false
  | none => none
def selem (P : Program) (t : TypeId) : Option TypeId :=
  match P.underlying t with
  | some (.slice e) => some e
  | _ => none
/-- A struct's field: where it begins, its type. -/
def fieldOf (P : Program) (s : TypeId) (f : Nat) : Option (Nat × TypeId) :=
  match P.underlying s with
  | some (.struct fs) => (fs[f]?).map fun x => (x.offset, x.type)
  | _ => none

theorem run_sizeOf {P : Program} {t n : Nat} (h : csz P t = some n) (w : World) : (sizeOf t).run P w = .ok n w := by
  unfold csz at h
  cases hi : P.info? t with
  | none => rw [hi] at h; simp at h
  | some i => rw [hi] at h; simp at h; simp [sizeOf, typeInfo, hi, h]
theorem run_isAgg {P : Program} {t : Nat} {b : Bool} (h : tagg P t = some b) (w : World) : (isAgg t).run P w = .ok b w := by
  unfold tagg at h
  split at h <;> rename_i hd <;> cases h <;> simp only [isAgg, Sem.run_bind, run_underlying hd, Result.andThen_ok] <;> rfl

/-- What lies behind an address, from there on. -/
def behind (H : List Obj) : V → Option (List V)
  | .iptr cs => some cs
  | .ptr o n i j =>
    match H[o]? with
    | some (.row _ es) => if es.length = n then (es[i]?).map fun e => (cellsOf e).drop j else none
    | _ => none
  | _ => none

def Cells (w : World) (ρ : Nat → Nat) (H : List Obj) (blk off : Nat) (cs : List V) : Prop :=
  ∀ (j : Nat) x, cs[j]? = some x → ∃ v, w.cell? ⟨blk, off + j, none⟩ = some v ∧ VR w ρ H x v

theorem VR.behind {w : World} {ρ : Nat → Nat} {H : List Obj} (s : Sim ρ H w) {x : V} {v : Value} {cs : List V} (h : VR w ρ H x v) (hb : behind H x = some cs) :
    ∃ blk off, v = .pointer (some ⟨blk, off, none⟩) ∧ Cells w ρ H blk off cs := by
  cases x with
  | iptr cs' =>
    simp only [TL.behind, Option.some.injEq] at hb
    subst hb
    cases h with
    | iptr _ blk off f hb hu hcell hv => exact ⟨blk, off, rfl, fun j x hj => ⟨f j, hcell j x hj, hv j x hj⟩⟩
  | ptr o n i j =>
    cases h with
    | ptr _ _ _ _ _ ho h1 hh =>
      simp only [TL.behind] at hb
      cases hr : H[o]? with
      | none => rw [hr] at hb; cases hb
      | some ob =>
        cases ob with
        | row k es =>
          rw [hr] at hb
          simp only at hb
          split at hb
          · rename_i hlen
            cases he : es[i]? with
            | none => rw [he] at hb; cases hb
            | some e =>
              rw [he] at hb
              simp only [Option.map_some, Option.some.injEq] at hb
              subst hb
              have hv := (hh k es hr).2 hlen
              refine ⟨ρ o, i * k + j, hv, fun jj x hj => ?_⟩
              obtain ⟨arr, t, e0, f0, k0, c0⟩ := s.row o k es hr
              rw [List.getElem?_drop] at hj
              obtain ⟨u, hu, hx⟩ := c0 i e (j + jj) x he hj
              refine ⟨u, ?_, hx⟩
              simp [World.cell?, e0, ← hu]
              congr 1
              omega
          · cases hb
        | dead => rw [hr] at hb; cases hb
        | map es => rw [hr] at hb; cases hb
  | _ => cases hb

theorem add_plain (b o n : Nat) : (⟨b, o, none⟩ : Addr).add n = ⟨b, o + n, none⟩ := by unfold Addr.add; split <;> simp_all

theorem Cells.list {w : World} {ρ : Nat → Nat} {H : List Obj} {blk off : Nat} {cs : List V} (h : Cells w ρ H blk off cs) (n : Nat) (hn : n ≤ cs.length) :
    ∃ vals : List Value, vals.length = n ∧ (∀ (j : Nat) v, vals[j]? = some v → w.cell? ((⟨blk, off, none⟩ : Addr).add j) = some v) ∧
      ∀ (j : Nat) x v, (cs.take n)[j]? = some x → vals[j]? = some v → VR w ρ H x v := by
  refine ⟨(List.range n).map fun j => (w.cell? ⟨blk, off + j, none⟩).getD undef, by simp, ?_, ?_⟩
  · intro j v hj
    rw [add_plain]
    rw [List.getElem?_map] at hj
    by_cases hjn : j < n
    · rw [List.getElem?_range hjn] at hj
      obtain ⟨u, hu, _⟩ := h j _ (List.getElem?_eq_getElem (by omega : j < cs.length))
      simp only [Option.map_some, Option.some.injEq] at hj
      rw [hu] at hj ⊢
      simp at hj
      rw [hj]
    · rw [List.getElem?_eq_none (by simp; omega)] at hj; cases hj
  · intro j x v hx hj
    rw [List.getElem?_map] at hj
    rw [List.getElem?_take] at hx
    split at hx
    · rename_i hjn
      rw [List.getElem?_range hjn] at hj
      obtain ⟨u, hu, hv⟩ := h j x hx
      simp only [Option.map_some, Option.some.injEq] at hj
      rw [hu] at hj
      simp at hj
      rw [← hj]; exact hv
    · cases hx

/-- A load. -/
def loadC (P : Program) (t : TypeId) (x : V) (H : List Obj) (K : V → List Obj → Prop) : Prop :=
  match behind H x, tagg P t with
  | some cs, some false => match cs with | c :: _ => K c H | [] => False
  | some cs, some true => match csz P t with | some n => n ≤ cs.length ∧ K (.agg (cs.take n)) H | none => False
  | _, _ => False

theorem run_loadAt {P : Program} {t : TypeId} {x : V} {w : World} {ρ : Nat → Nat} {H : List Obj} {K : V → List Obj → Prop} (s : Sim ρ H w) {v : Value} (hv : VR w ρ H x v) (h : loadC P t x H K) :
    ∃ y u, (Instr.loadAt t v).run P w = .ok u w ∧ VR w ρ H y u ∧ K y H := by
  unfold loadC at h
  split at h
  · rename_i cs hb ha
    cases cs with
    | nil => exact h.elim
    | cons c cs =>
      obtain ⟨blk, off, rfl, hc⟩ := hv.behind s hb
      obtain ⟨u, hu, hx⟩ := hc 0 c rfl
      refine ⟨c, u, ?_, hx, h⟩
      simp only [Instr.loadAt, Instr.sureAddr, Sem.run_bind, Sem.run_pure, Result.andThen_ok, loadVar, run_isAgg ha, Bool.false_eq_true, if_false, run_load]
      rw [Nat.add_zero] at hu
      rw [hu]
  · rename_i cs hb ha
    split at h
    · rename_i n hn
      obtain ⟨hle, hk⟩ := h
      obtain ⟨blk, off, rfl, hc⟩ := hv.behind s hb
      obtain ⟨vals, hl, h1, h2⟩ := hc.list n hle
      refine ⟨.agg (cs.take n), .agg vals.toArray, ?_, .agg _ _ (by simp; omega) (fun j x v a b => h2 j x v a (by simpa using b)), hk⟩
      have := run_loadCells_list (P := P) w ⟨blk, off, none⟩ vals h1
      rw [hl] at this
      simp only [Instr.loadAt, Instr.sureAddr, Sem.run_bind, Sem.run_pure, Result.andThen_ok, loadVar, run_isAgg ha, if_true, run_sizeOf hn, this]
    · exact h.elim
  · exact h.elim

/-- A field's address. -/
def fieldAddrC (P : Program) (s : TypeId) (x : V) (f : Nat) (H : List Obj) (K : V → List Obj → Prop) : Prop :=
  match fieldOf P s f with
  | some (off, t) => csz P t ≠ some 0 ∧ csz P t ≠ none ∧
    match x with
    | .iptr cs => K (.iptr (cs.drop off)) H
    | .ptr o n i j => (behind H (.ptr o n i j)).isSome = true ∧ K (.ptr o n i (j + off)) H
    | _ => False
  | none => False

theorem run_fieldAt {P : Program} {t : TypeId} {f : Nat} {x : V} {w : World} {ρ : Nat → Nat} {H : List Obj} {K : V → List Obj → Prop} {v : Value} (hv : VR w ρ H x v) (h : fieldAddrC P t x f H K) :
    ∃ y u, (Instr.fieldAt t v f).run P w = .ok u w ∧ VR w ρ H y u ∧ K y H := by
  unfold fieldAddrC at h
  split at h
  · rename_i off ft hf
    obtain ⟨h0, hN, h⟩ := h
    cases hz : csz P ft with
    | none => exact absurd hz hN
    | some n =>
      have hn0 : n ≠ 0 := fun e => h0 (by rw [hz, e])
      unfold fieldOf at hf
      split at hf
      · rename_i fs hu
        cases hfs : fs[f]? with
        | none => rw [hfs] at hf; cases hf
        | some fd =>
          rw [hfs] at hf
          simp only [Option.map_some, Option.some.injEq, Prod.mk.injEq] at hf
          obtain ⟨rfl, rfl⟩ := hf
          have hplace : ∀ a : Addr, (fieldPlace a fd).run P w = .ok (a.add fd.offset) w := by
            intro a
            simp only [fieldPlace, Sem.run_bind, run_sizeOf hz, Result.andThen_ok, hn0, if_false, Sem.run_pure]
          cases x with
          | iptr cs =>
            cases hv with
            | iptr _ blk o g hb hu' hcell hvv =>
              refine ⟨.iptr (cs.drop fd.offset), .pointer (some ⟨blk, o + fd.offset, none⟩), ?_, ?_, h⟩
              · simp only [Instr.fieldAt, Sem.run_bind, run_underlying hu, Result.andThen_ok, hfs, Instr.sureAddr, Sem.run_pure, hplace, add_plain]
              · refine .iptr _ blk _ (fun j => g (fd.offset + j)) hb hu' (fun j x hj => ?_) (fun j x hj => ?_)
                · rw [List.getElem?_drop] at hj
                  have := hcell _ _ hj
                  rwa [show o + fd.offset + j = o + (fd.offset + j) by omega]
                · rw [List.getElem?_drop] at hj
                  exact hvv _ _ hj
          | ptr o n' i j =>
            obtain ⟨hb, hk⟩ := h
            obtain ⟨cs, hcs⟩ := Option.isSome_iff_exists.1 hb
            cases hv with
            | ptr _ _ _ _ _ ho h1 hh =>
              have hh' := hh
              simp only [TL.behind] at hcs
              cases hr : H[o]? with
              | none => rw [hr] at hcs; cases hcs
              | some ob =>
                cases ob with
                | row k es =>
                  rw [hr] at hcs
                  simp only at hcs
                  split at hcs
                  · rename_i hlen
                    have hv := (hh k es hr).2 hlen
                    subst hv
                    refine ⟨.ptr o n' i (j + fd.offset), .pointer (some ⟨ρ o, i * k + j + fd.offset, none⟩), ?_, ?_, hk⟩
                    · simp only [Instr.fieldAt, Sem.run_bind, run_underlying hu, Result.andThen_ok, hfs, Instr.sureAddr, Sem.run_pure, hplace, add_plain]
                    · refine .ptr _ _ _ _ _ ho rfl fun k' es' hr' => ?_
                      rw [hr] at hr'
                      cases hr'
                      exact ⟨by omega, fun _ => by rw [Nat.add_assoc]⟩
                  · cases hcs
                | dead => rw [hr] at hcs; cases hcs
                | map es => rw [hr] at hcs; cases hcs
          | _ => exact h.elim
      · cases hf
  · exact h.elim

/-- An element's address. -/
def indexAddrC (P : Program) (t : TypeId) (x ix : V) (H : List Obj) (K : V → List Obj → Prop) : Prop :=
  match selem P t, ix with
  | some e, .i _ i =>
    match csz P e with
    | some k =>
      match x with
      | .lst es => 0 ≤ i ∧ match es[i.toNat]? with
        | some y => (cellsOf y).length = k ∧ K (.iptr (cellsOf y)) H
        | none => False
      | .sl o n off len _ => 0 ≤ i ∧ i < len ∧ match H[o]? with
        | some (.row k' es) => k' = k ∧ es.length = n ∧ K (.ptr o n (off + i.toNat) 0) H
        | _ => False
      | _ => False
    | none => False
  | _, _ => False

theorem run_indexAt {P : Program} {t : TypeId} {x ix : V} {w : World} {ρ : Nat → Nat} {H : List Obj} {K : V → List Obj → Prop} {v vi : Value} (hv : VR w ρ H x v) (hi : VR w ρ H ix vi)
    (h : indexAddrC P t x ix H K) : ∃ y u, (Instr.indexAt t v vi).run P w = .ok u w ∧ VR w ρ H y u ∧ K y H := by
  unfold indexAddrC at h
  split at h
  · rename_i e kk i he
    have := hi.inv_i
    subst this
    split at h
    · rename_i k hk
      have hu : P.underlying t = some (.slice e) := by
        unfold selem at he
        split at he
        · rename_i hu; cases he; exact hu
        · cases he
      cases x with
      | lst es =>
        obtain ⟨h0, h⟩ := h
        split at h
        · rename_i y hy
          obtain ⟨hlen, hK⟩ := h
          have hilt : i.toNat < es.length := (List.getElem?_eq_some_iff.1 hy).1
          cases hv with
          | lnil => simp at hilt
          | lst _ blk off c k' f hne hc hk' hb hu' hcell hvv =>
            have hkk : k' = k := by rw [← hk' y (List.mem_of_getElem? hy), hlen]
            subst hkk
            refine ⟨.iptr (cellsOf y), .pointer (some ⟨blk, off + i.toNat * k', none⟩), ?_, ?_, hK⟩
            · have hilt' : i < (es.length : Int) := by omega
              simp only [Instr.indexAt, asIntOf, Sem.run_bind, Sem.run_pure, Result.andThen_ok, run_underlying hu, h0, hilt', and_self, if_true, run_sizeOf hk, add_plain]
            · exact .iptr _ blk _ (fun j => f i.toNat j) hb hu' (fun j x hj => hcell _ _ _ _ hy hj) (fun j x hj => hvv _ _ _ _ hy hj)
        · exact h.elim
      | sl o n off len cap =>
        obtain ⟨h0, h1, h⟩ := h
        split at h
        · rename_i k' es hr
          obtain ⟨rfl, hlen, hK⟩ := h
          cases hv with
          | sl _ _ _ _ _ _ ho h1' hh =>
            obtain ⟨c, tt, sz, rfl, a1, a2, a3, a4, a5⟩ := (hh _ _ hr).2 hlen
            refine ⟨.ptr o n (off + i.toNat) 0, .pointer (some ⟨ρ o, off * k' + i.toNat * k', none⟩), ?_, ?_, hK⟩
            · simp only [Instr.indexAt, asIntOf, Sem.run_bind, Sem.run_pure, Result.andThen_ok, run_underlying hu, h0, h1, and_self, if_true, run_sizeOf hk, add_plain]
            · refine .ptr _ _ _ _ _ ho rfl fun k2 es2 hr2 => ?_
              rw [hr] at hr2
              cases hr2
              exact ⟨by omega, fun _ => by rw [Nat.add_mul, Nat.add_zero]⟩
        · exact h.elim
      | _ => exact h.elim
    · exact h.elim
  · exact h.elim

end Go.TL
