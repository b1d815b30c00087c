/- The tree logic, part eight: literals. -/
import Derived.Test.YtofeaajoohiijaaGreatTLg
namespace Go.TL
open Go

theorem foldl_put (off : Nat) : ∀ (l : List Value) (k : Nat) (cells : Array Value), off + k + l.length ≤ cells.size →
    ((l.zipIdx k).foldl (fun cs (c : Value × Nat) => cs.setIfInBounds (off + c.2) c.1) cells).size = cells.size ∧
    ∀ q, ((l.zipIdx k).foldl (fun cs (c : Value × Nat) => cs.setIfInBounds (off + c.2) c.1) cells)[q]? = if off + k ≤ q ∧ q < off + k + l.length then l[q - (off + k)]? else cells[q]?
  | [], k, cells, _ => ⟨rfl, fun q => by simp; omega⟩
  | v :: l, k, cells, h => by
    simp only [List.zipIdx_cons, List.foldl_cons]
    simp at h
    obtain ⟨h1, h2⟩ := foldl_put off l (k + 1) (cells.setIfInBounds (off + k) v) (by simp; omega)
    refine ⟨by rw [h1]; simp, fun q => ?_⟩
    rw [h2]
    by_cases hq : q = off + k
    · subst hq
      have : off + k < cells.size := by omega
      rw [if_neg (by omega), if_pos (by simp)]
      simp [this]
    · by_cases hq2 : off + (k + 1) ≤ q ∧ q < off + (k + 1) + l.length
      · rw [if_pos hq2, if_pos (by simp; omega)]
        rw [show q - (off + k) = (q - (off + (k + 1))) + 1 by omega]
        simp
      · rw [if_neg hq2, if_neg (by simp; omega), Array.getElem?_setIfInBounds_ne (by omega)]

theorem fill_step (place : Nat → Option (Nat × Nat)) (cells : Array Value) (i : Nat) (v : Value) (rest : List (Nat × Value)) (off : Nat) (hp : place i = some (off, v.cells.size)) (hf : off + v.cells.size ≤ cells.size) :
    ∃ cells', Instr.fill place cells ((i, v) :: rest) = Instr.fill place cells' rest ∧ cells'.size = cells.size ∧
      ∀ q, cells'[q]? = if off ≤ q ∧ q < off + v.cells.size then v.cells[q - off]? else cells[q]? := by
  obtain ⟨h1, h2⟩ := foldl_put off v.cells.toList 0 cells (by simpa using hf)
  refine ⟨(v.cells.zipIdx.foldl (fun cs (c, j) => cs.setIfInBounds (off + j) c) cells), ?_, ?_, ?_⟩
  · have hf' : ¬ cells.size < off + v.cells.size := by omega
    simp [Instr.fill, hp, hf']
  · rw [← Array.foldl_toList, Array.toList_zipIdx]; exact h1
  · intro q
    rw [← Array.foldl_toList, Array.toList_zipIdx]
    have := h2 q
    simpa using this

/-- The parts of a literal, one behind the other. -/
theorem fill_all (k : Nat) : ∀ (vs : List Value) (i : Nat) (cells : Array Value), (∀ v ∈ vs, v.cells.size = k) → (i + vs.length) * k ≤ cells.size →
    ∃ cells', Instr.fill (fun i => some (i * k, k)) cells ((List.range' i vs.length).zip vs) = some cells' ∧ cells'.size = cells.size ∧
      (∀ (a : Nat) v (j : Nat) u, vs[a]? = some v → v.cells[j]? = some u → cells'[(i + a) * k + j]? = some u) ∧ ∀ q, q < i * k → cells'[q]? = cells[q]?
  | [], i, cells, _, _ => ⟨cells, rfl, rfl, fun a v j u h => by simp at h, fun _ _ => rfl⟩
  | v :: vs, i, cells, hk, hf => by
    have hv := hk v (by simp)
    simp only [List.length_cons] at hf
    have hf' : (i + 1) * k ≤ cells.size := Nat.le_trans (Nat.mul_le_mul_right _ (by omega)) hf
    rw [Nat.add_mul, Nat.one_mul] at hf'
    obtain ⟨c1, e1, z1, g1⟩ := fill_step (fun i => some (i * k, k)) cells i v ((List.range' (i + 1) vs.length).zip vs) (i * k) (by rw [hv]) (by rw [hv]; omega)
    obtain ⟨c2, e2, z2, g2, f2⟩ := fill_all k vs (i + 1) c1 (fun u hu => hk u (by simp [hu])) (by rw [z1]; rwa [show i + 1 + vs.length = i + (vs.length + 1) by omega])
    refine ⟨c2, ?_, by rw [z2, z1], ?_, ?_⟩
    · rw [List.length_cons, List.range'_succ, List.zip_cons_cons, e1, e2]
    · intro a u j y ha hu
      rcases a with _ | a
      · simp at ha; subst ha
        have hj : j < k := by rw [← hv]; exact (Array.getElem?_eq_some_iff.1 hu).1
        rw [Nat.add_zero, f2 _ (by rw [Nat.add_mul i, Nat.one_mul]; omega), g1, if_pos (by rw [hv]; omega), Nat.add_sub_cancel_left]
        exact hu
      · simp at ha
        have := g2 a u j y ha hu
        rwa [show i + 1 + a = i + (a + 1) by omega] at this
    · intro q hq
      rw [f2 q (by rw [Nat.add_mul]; omega), g1, if_neg (by omega)]

/-- A slice literal with all its elements: told as a list. -/
def buildSliceC (P : Program) (t len : Nat) (ps : List (Nat × V)) (H : List Obj) (K : V → List Obj → Prop) : Prop :=
  match selem P t with
  | some e =>
    match csz P e, zeroV P e with
    | some k, some z => 0 < k ∧ boxable z = true ∧ len * k ≤ 16777216 ∧ ps.map (·.1) = List.range' 0 len ∧
      (∀ p ∈ ps, boxable p.2 = true ∧ (cellsOf p.2).length = k) ∧ K (if len = 0 then .emp else .lst (ps.map (·.2))) H
    | _, _ => False
  | none => False

theorem zip_fst_snd {α β : Type} : ∀ (l : List (α × β)), (l.map (·.1)).zip (l.map (·.2)) = l
  | [] => rfl
  | (a, b) :: l => by simp [zip_fst_snd l]

theorem run_buildSlice {P : Program} {t len : Nat} {ps : List (Nat × V)} {vps : List (Nat × Value)} {w : World} {ρ : Nat → Nat} {H : List Obj} {K : V → List Obj → Prop} (s : Sim ρ H w)
    (hfst : vps.map (·.1) = ps.map (·.1)) (hps : ∀ (j : Nat) p q, ps[j]? = some p → vps[j]? = some q → VR w ρ H p.2 q.2) (h : buildSliceC P t len ps H K) :
    ∃ y u w', (Instr.buildSlice t len vps.toArray).run P w = .ok u w' ∧ VR w' ρ H y u ∧ Sim ρ H w' ∧ Evo w ρ H w' ρ H ∧ K y H := by
  unfold buildSliceC at h
  split at h
  · rename_i e he
    have hu := of_selem he
    split at h
    · rename_i k z hk hz
      obtain ⟨hk0, hzb, hlim, hrange, hall, h⟩ := h
      have hlen : vps.length = len := by
        have := congrArg List.length (hfst.trans hrange); simpa using this
      have hplen : ps.length = len := by
        have := congrArg List.length hrange; simpa using this
      have hvc : ∀ v ∈ vps.map (·.2), v.cells.size = k := by
        intro v hv
        obtain ⟨j, hj⟩ := List.mem_iff_getElem?.1 hv
        rw [List.getElem?_map] at hj
        cases hq : vps[j]? with
        | none => rw [hq] at hj; cases hj
        | some q =>
          rw [hq] at hj
          simp at hj
          have hjl : j < ps.length := by rw [hplen, ← hlen]; exact (List.getElem?_eq_some_iff.1 hq).1
          have hp := List.getElem?_eq_getElem hjl
          obtain ⟨b1, b2⟩ := hall _ (List.getElem_mem hjl)
          rw [← hj, ((hps j _ q hp hq).cells b1).1, b2]
      obtain ⟨vz, hzr, hzv⟩ := zero_run hz
      generalize hz0 : (Array.range (len * k)).map (fun i => vz.cells[i % vz.cells.size]!) = c0
      have hc0 : c0.size = len * k := by rw [← hz0]; simp
      obtain ⟨c1, e1, z1, g1, _⟩ := fill_all k (vps.map (·.2)) 0 c0 hvc (by rw [hc0]; simp [hlen])
      have hvps : (List.range' 0 (vps.map (·.2)).length).zip (vps.map (·.2)) = vps := by
        rw [List.length_map, hlen, ← hrange, ← hfst]; exact zip_fst_snd vps
      rw [hvps] at e1
      have hrun : (Instr.buildSlice t len vps.toArray).run P w = .ok (.slice (some ⟨w.heap.size, 0, none⟩) len len) (w.alloc (.cells c1 e)) := by
        have hlim' : ¬ (2 ^ 24 < len * k) := by omega
        by_cases hl0 : len = 0
        · subst hl0
          have : vps = [] := List.eq_nil_of_length_eq_zero hlen
          subst this
          simp [Instr.fill] at e1
          subst e1
          have : c0 = #[] := by rw [← hz0]; simp
          subst this
          simp [Instr.buildSlice, run_underlying hu, run_sizeOf hk, newRow, Instr.fill]
          congr 2
          apply Array.eq_empty_of_size_eq_zero
          simp
        · have hne : ¬ (len * k = 0) := by
            have := Nat.mul_pos (Nat.pos_of_ne_zero hl0) hk0
            omega
          simp only [Instr.buildSlice, Sem.run_bind, run_underlying hu, Result.andThen_ok, run_sizeOf hk, gt_iff_lt, hlim', if_false, hne, hzr, Sem.run_pure, hz0, e1, newRow, run_newObj]
          rfl
      have hold : ∀ b, b < w.heap.size → (w.alloc (.cells c1 e)).heap[b]? = w.heap[b]? := fun b hb => heap_alloc_old w _ b hb
      have g : Evo w ρ H (w.alloc (.cells c1 e)) ρ H := by
        refine ⟨show w.heap.size ≤ (w.heap.push _).size by simp, Nat.le_refl _, fun b hb hu => ⟨hold b hb, hu⟩, fun _ h => h, fun o k es ho => .inr ⟨es, ho, Nat.le_refl _, fun _ => ⟨rfl, ?_⟩⟩, fun o es ho => .inr ⟨es, ho, rfl⟩, rfl, rfl, rfl⟩
        simp only [World.shape?]; rw [hold _ (s.lt ho (by simp))]
      have s' : Sim ρ H (w.alloc (.cells c1 e)) := by
        refine ⟨s.inj, fun o k es ho => ?_, fun o es ho => ?_⟩
        · obtain ⟨arr, t, a1, a2, a3, a4⟩ := s.row o k es ho
          refine ⟨arr, t, by rw [hold _ (s.lt ho (by simp))]; exact a1, a2, a3, fun i e j x h1 h2 => ?_⟩
          obtain ⟨v, hv, hx⟩ := a4 i e j x h1 h2
          exact ⟨v, hv, hx.evo g⟩
        · obtain ⟨ents, c, a1, a2, a3⟩ := s.map o es ho
          refine ⟨ents, c, by rw [hold _ (s.lt ho (by simp))]; exact a1, a2, fun i kx h1 => ?_⟩
          obtain ⟨en, h2, h3, h4⟩ := a3 i kx h1
          exact ⟨en, h2, h3.evo g, h4.evo g⟩
      refine ⟨_, _, _, hrun, ?_, s', g, h⟩
      by_cases hl0 : len = 0
      · subst hl0; rw [if_pos rfl]; exact .emp _
      · rw [if_neg hl0]
        have hpl : (ps.map (·.2)).length = len := by simpa using hplen
        have hnew : (w.alloc (.cells c1 e)).heap[w.heap.size]? = some (.cells c1 e (0, 0)) := heap_alloc_new w _
        have cell : ∀ (i : Nat) a (j : Nat) x, (ps.map (·.2))[i]? = some a → (cellsOf a)[j]? = some x → ∃ u, c1[i * k + j]? = some u ∧ VR w ρ H x u := by
          intro i a j x ha hx
          rw [List.getElem?_map] at ha
          cases hp : ps[i]? with
          | none => rw [hp] at ha; cases ha
          | some p =>
            rw [hp] at ha
            simp at ha
            subst ha
            have hil : i < vps.length := by rw [hlen, ← hplen]; exact (List.getElem?_eq_some_iff.1 hp).1
            have hq := List.getElem?_eq_getElem hil
            obtain ⟨b1, b2⟩ := hall _ (List.mem_of_getElem? hp)
            obtain ⟨u, hu, hv⟩ := ((hps i p _ hp hq).cells b1).2 j x hx
            refine ⟨u, ?_, hv⟩
            have := g1 i vps[i].2 j u (by rw [List.getElem?_map, hq]; rfl) hu
            simpa using this
        have := VR.lst (w := w.alloc (.cells c1 e)) (ρ := ρ) (H := H) (ps.map (·.2)) w.heap.size 0 len k (fun i j => (c1[i * k + j]?).getD undef)
          (by intro h; rw [h] at hpl; simp at hpl; exact hl0 hpl.symm) (by omega)
          (by
            intro a ha
            obtain ⟨p, hp, rfl⟩ := List.mem_map.1 ha
            exact (hall p hp).2)
          (show w.heap.size < (w.heap.push _).size by simp)
          (by
            intro o ob ho hd e
            have := s.lt ho hd
            omega)
          (by
            intro i a j x ha hx
            obtain ⟨u, hu, _⟩ := cell i a j x ha hx
            simp only [World.cell?, hnew, Nat.zero_add]
            simp [hu])
          (by
            intro i a j x ha hx
            obtain ⟨u, hu, hv⟩ := cell i a j x ha hx
            rw [hu]
            exact hv.evo g)
        rw [hpl] at this
        exact this
    · exact h.elim
  · exact h.elim

end Go.TL
