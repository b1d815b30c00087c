/- The tree logic: a literal that is written to, as a row of one's own. -/
import Derived.Test.YtofeaajoohiijaaGreatTLs
namespace Go.TL
open Go

def buildOwnC (P : Program) (t len : Nat) (ps : List (Nat × V)) (H : List Obj) (K : V → List Obj → Prop) : Prop :=
  match selem P t with
  | some e =>
    match csz P e, zeroV P e with
    | some k, some z => len ≠ 0 ∧ 0 < k ∧ boxable z = true ∧ len * k ≤ 16777216 ∧ ps.map (·.1) = List.range' 0 len ∧
      (∀ p ∈ ps, boxable p.2 = true ∧ (cellsOf p.2).length = k) ∧ K (.sl H.length len 0 len none) (H ++ [.row k (ps.map (·.2))])
    | _, _ => False
  | none => False

theorem run_buildOwn {P : Program} {t len : Nat} {ps : List (Nat × V)} {vps : List (Nat × Value)} {w : World} {ρ : Nat → Nat} {H : List Obj} {K : V → List Obj → Prop} (s : Sim ρ H w)
    (hfst : vps.map (·.1) = ps.map (·.1)) (hps : ∀ (j : Nat) p q, ps[j]? = some p → vps[j]? = some q → VR w ρ H p.2 q.2) (h : buildOwnC P t len ps H K) :
    ∃ y u w' ρ' H', (Instr.buildSlice t len vps.toArray).run P w = .ok u w' ∧ VR w' ρ' H' y u ∧ Sim ρ' H' w' ∧ Evo w ρ H w' ρ' H' ∧ K y H' := by
  unfold buildOwnC at h
  split at h
  · rename_i e he
    have hu := of_selem he
    split at h
    · rename_i k z hk hz
      obtain ⟨hl0', hk0, hzb, hlim, hrange, hall, h⟩ := h
      have hlen : vps.length = len := by
        have := congrArg List.length (hfst.trans hrange); simpa using this
      have hplen : ps.length = len := by
        have := congrArg List.length hrange; simpa using this
      have hvc : ∀ v ∈ vps.map (·.2), v.cells.size = k := by
        intro v hv
        obtain ⟨j, hj⟩ := List.mem_iff_getElem?.1 hv
        rw [List.getElem?_map] at hj
        cases hq : vps[j]? with
        | none => rw [hq] at hj; cases hj
        | some q =>
          rw [hq] at hj
          simp at hj
          have hjl : j < ps.length := by rw [hplen, ← hlen]; exact (List.getElem?_eq_some_iff.1 hq).1
          have hp := List.getElem?_eq_getElem hjl
          obtain ⟨b1, b2⟩ := hall _ (List.getElem_mem hjl)
          rw [← hj, ((hps j _ q hp hq).cells b1).1, b2]
      obtain ⟨vz, hzr, hzv⟩ := zero_run hz
      generalize hz0 : (Array.range (len * k)).map (fun i => vz.cells[i % vz.cells.size]!) = c0
      have hc0 : c0.size = len * k := by rw [← hz0]; simp
      obtain ⟨c1, e1, z1, g1, _⟩ := fill_all k (vps.map (·.2)) 0 c0 hvc (by rw [hc0]; simp [hlen])
      have hvps : (List.range' 0 (vps.map (·.2)).length).zip (vps.map (·.2)) = vps := by
        rw [List.length_map, hlen, ← hrange, ← hfst]; exact zip_fst_snd vps
      rw [hvps] at e1
      have hrun : (Instr.buildSlice t len vps.toArray).run P w = .ok (.slice (some ⟨w.heap.size, 0, none⟩) len len) (w.alloc (.cells c1 e)) := by
        have hlim' : ¬ (2 ^ 24 < len * k) := by omega
        by_cases hl0 : len = 0
        · subst hl0
          have : vps = [] := List.eq_nil_of_length_eq_zero hlen
          subst this
          simp [Instr.fill] at e1
          subst e1
          have : c0 = #[] := by rw [← hz0]; simp
          subst this
          simp [Instr.buildSlice, run_underlying hu, run_sizeOf hk, newRow, Instr.fill]
          congr 2
          apply Array.eq_empty_of_size_eq_zero
          simp
        · have hne : ¬ (len * k = 0) := by
            have := Nat.mul_pos (Nat.pos_of_ne_zero hl0) hk0
            omega
          simp only [Instr.buildSlice, Sem.run_bind, run_underlying hu, Result.andThen_ok, run_sizeOf hk, gt_iff_lt, hlim', if_false, hne, hzr, Sem.run_pure, hz0, e1, newRow, run_newObj]
          rfl
      have hold : ∀ b, b < w.heap.size → (w.alloc (.cells c1 e)).heap[b]? = w.heap[b]? := fun b hb => heap_alloc_old w _ b hb
      have hpl : (ps.map (·.2)).length = len := by simpa using hplen
      have hnew : (w.alloc (.cells c1 e)).heap[w.heap.size]? = some (.cells c1 e (0, 0)) := heap_alloc_new w _
      have hc1 : c1.size = len * k := by rw [z1, hc0]
      have cell : ∀ (i : Nat) a (j : Nat) x, (ps.map (·.2))[i]? = some a → (cellsOf a)[j]? = some x → ∃ u, c1[i * k + j]? = some u ∧ VR w ρ H x u := by
        intro i a j x ha hx
        rw [List.getElem?_map] at ha
        cases hp : ps[i]? with
        | none => rw [hp] at ha; cases ha
        | some p =>
          rw [hp] at ha
          simp at ha
          subst ha
          have hil : i < vps.length := by rw [hlen, ← hplen]; exact (List.getElem?_eq_some_iff.1 hp).1
          have hq := List.getElem?_eq_getElem hil
          obtain ⟨b1, b2⟩ := hall _ (List.mem_of_getElem? hp)
          obtain ⟨u, hu, hv⟩ := ((hps i p _ hp hq).cells b1).2 j x hx
          refine ⟨u, ?_, hv⟩
          have := g1 i vps[i].2 j u (by rw [List.getElem?_map, hq]; rfl) hu
          simpa using this
      have hn := sim_new (w' := w.alloc (.cells c1 e)) (blk := w.heap.size) (ob := .row k (ps.map (·.2))) s (Nat.le_refl _) (show w.heap.size < (w.heap.push _).size by simp) hold (by
        intro k' es' e'
        cases e'
        refine ⟨c1, e, hnew, by rw [hpl, hc1]; exact Nat.le_refl _, fun a ha => ?_, cell⟩
        obtain ⟨p, hp, rfl⟩ := List.mem_map.1 ha
        exact (hall p hp).2) (by intro es e'; cases e')
      refine ⟨_, _, _, _, _, hrun, ?_, hn.1, hn.2, h⟩
      refine .sl _ _ _ _ _ _ (by simp) rfl fun k' es' he' => ?_
      simp at he'
      obtain ⟨rfl, rfl⟩ := he'
      refine ⟨by simp [hplen], fun _ => ⟨len, e, c1.size, by simp, Nat.le_refl _, by simp, by simp, ?_, by rw [hc1]; simp, fun _ => by simp⟩⟩
      simp only [if_true]
      simp only [World.shape?, hnew]
    · exact h.elim
  · exact h.elim

theorem opOwn_sound {P : Program} {N : Nat} {o : Oper} {σ : Slots} {H : List Obj} {K : V → List Obj → Prop} {t n : Nat} {ps : List (Nat × Operand)} (ho : o.op = .buildSlice t n ps.toArray) (h : buildOwnC P t n (ps.map fun p => (p.1, ev σ p.2)) H K) : OpW P N o σ H K := by
  intro a w ρ hs next Q kk
  obtain ⟨e1, e2, e3⟩ := parts_eq hs ps.toArray
  obtain ⟨y, u, w', ρ', H', hr, r1, r2, r3, r4⟩ := run_buildOwn (P := P) hs.sim e2 e3 (by simpa using h)
  exact wp_value' kk ⟨y, u, w', ρ', H', by simp only [execOp, ho, e1]; simp [hr], r1, r2, r3, r4⟩

theorem opsW_op {P : Program} {N : Nat} {all r : List Oper} {dst : Option Tmp} {op : Op} {ty : TypeId} {pos : String} {after : Array Edge} {σ : Slots} {H : List Obj} {K : Slots → List Obj → Prop}
    (h : opX P op σ H fun x H' => opsW P N all r (aputX N σ dst x) H' K) : opsW P N all (⟨dst, op, ty, pos, after, none⟩ :: r) σ H K := by
  rw [opX_eq, aputX_eq] at h
  exact opC_sound (o := ⟨dst, op, ty, pos, after, none⟩) h

theorem opsW_own {P : Program} {N : Nat} {all r : List Oper} {dst : Option Tmp} {t n : Nat} {ps : List (Nat × Operand)} {ty : TypeId} {pos : String} {after : Array Edge} {σ : Slots} {H : List Obj} {K : Slots → List Obj → Prop}
    (h : buildOwnC P t n (ps.map fun p => (p.1, ev σ p.2)) H fun x H' => opsW P N all r (aputX N σ dst x) H' K) : opsW P N all (⟨dst, .buildSlice t n ps.toArray, ty, pos, after, none⟩ :: r) σ H K := by
  rw [aputX_eq] at h
  exact opOwn_sound (o := ⟨dst, .buildSlice t n ps.toArray, ty, pos, after, none⟩) rfl h

theorem AWP.ofX {P : Program} {N : Nat} {c : Code} {σ : Slots} {H : List Obj} {Q : Post} (h : codeX P N c σ H Q) : AWP P N c σ H Q := codeC_sound _ _ _ _ (codeX_eq ▸ h)

theorem Fn.ofA {P : Program} {f : FuncId} {fn : Func} {args : List V} {H : List Obj} {R : V → List Obj → Prop} (hf : P.funcs[f]? = some fn) (N : Nat) (rs : List ResultVar) (hN : fn.ntmps = N)
    (hb : fn.body.isSome = true) (hr : fn.results.toList = rs) (hgood : goodFn P f = true) (hn : args.length ≤ N) (h : AWP P N (fn.body.getD .skip) (argSlots args) H (retK P rs R)) : Fn P f args H R := by
  obtain ⟨c, hc⟩ := Option.isSome_iff_exists.1 hb
  rw [hc] at h
  subst hN
  refine .of_body' hf hc hgood hn (retK P rs R) (fun σ H ρ a w hs hq => results_ofR hr hs (hq.elim id id)) (fun e σ H h1 h2 hq => ?_) h
  cases e <;> first | exact h1 rfl | exact h2 rfl | exact hq

/-- What is new of an answer is told as lists. -/
theorem Fn.close {P : Program} {f : FuncId} {args : List V} {r : V} {H : List Obj} (h : Fn P f args H fun x H' => ∃ news, H' = H ++ news ∧ Frz H.length H' x r) : Fn P f args H fun x H' => x = r ∧ H' = H := by
  refine ⟨h.1, fun w ρ vs s hv => (h.2 w ρ vs s hv).mono ?_⟩
  rintro e w' ⟨v, x, ρ', H', rfl, hx, s', g, news, rfl, hf⟩
  have hρ : ∀ (o : Nat) ob, H[o]? = some ob → ob ≠ .dead → ρ' o = ρ o := by
    intro o ob ho hd
    have hlt : o < H.length := (List.getElem?_eq_some_iff.1 ho).1
    cases ob with
    | dead => exact absurd rfl hd
    | row k es =>
      rcases g.row o k es ho with hdd | ⟨es', he, _, hr⟩
      · rw [app_get hlt, ho] at hdd; cases hdd
      · rw [app_get hlt, ho] at he
        cases he
        exact (hr rfl).1
    | map es =>
      rcases g.map o es ho with hdd | ⟨es', he, hr⟩
      · rw [app_get hlt, ho] at hdd; cases hdd
      · exact hr
  have hE : Evo w ρ H w' ρ H := by
    refine ⟨g.size, Nat.le_refl _, fun b hb hu => ⟨(g.froz b hb hu).1, hu⟩, fun _ h => h, fun o k es ho => .inr ⟨es, ho, Nat.le_refl _, fun _ => ⟨rfl, ?_⟩⟩, fun o es ho => .inr ⟨es, ho, rfl⟩, g.io⟩
    have hlt : o < H.length := (List.getElem?_eq_some_iff.1 ho).1
    rcases g.row o k es ho with hdd | ⟨es', he, _, hr⟩
    · rw [app_get hlt, ho] at hdd; cases hdd
    · rw [app_get hlt, ho] at he
      cases he
      exact (hr rfl).2
  refine ⟨v, r, ρ, H, rfl, hx.frz s' hρ hf, ⟨s.inj, fun o k es ho => ?_, fun o es ho => ?_⟩, hE, rfl, rfl⟩
  · have hlt : o < H.length := (List.getElem?_eq_some_iff.1 ho).1
    obtain ⟨arr, t, e0, f0, k0, c0⟩ := s'.row o k es (by rw [app_get hlt]; exact ho)
    obtain ⟨arr₀, t₀, _, _, _, d0⟩ := s.row o k es ho
    rw [hρ o _ ho (by simp)] at e0
    refine ⟨arr, t, e0, f0, k0, fun i e j x h1 h2 => ?_⟩
    obtain ⟨u, hu, hx'⟩ := c0 i e j x h1 h2
    obtain ⟨u₀, _, hx₀⟩ := d0 i e j x h1 h2
    exact ⟨u, hu, VR.down hρ hx₀ hx'⟩
  · have hlt : o < H.length := (List.getElem?_eq_some_iff.1 ho).1
    obtain ⟨ents, c, e0, z0, c0⟩ := s'.map o es (by rw [app_get hlt]; exact ho)
    obtain ⟨ents₀, c₀, _, _, d0⟩ := s.map o es ho
    rw [hρ o _ ho (by simp)] at e0
    refine ⟨ents, c, e0, z0, fun i kx h1 => ?_⟩
    obtain ⟨en, a1, a2, a3⟩ := c0 i kx h1
    obtain ⟨en₀, b1, b2, b3⟩ := d0 i kx h1
    exact ⟨en, a1, VR.down hρ b2 a2, VR.down hρ b3 a3⟩

/-- A value may be told less of. -/
def Wk (x y : V) : Prop := ∀ (w : World) (ρ : Nat → Nat) (H : List Obj) (v : Value), VR w ρ H x v → VR w ρ H y v
theorem Wk.refl (x : V) : Wk x x := fun _ _ _ _ h => h
theorem Wk.emp : Wk .emp (.lst []) := fun _ _ _ _ h => by cases h; exact .lnil _ _
theorem Wk.agg {cs ds : List V} (hl : cs.length = ds.length) (h : ∀ (j : Nat) x y, cs[j]? = some x → ds[j]? = some y → Wk x y) : Wk (.agg cs) (.agg ds) := by
  intro w ρ H v hv
  cases hv with
  | agg _ vs hl' hv' =>
    refine .agg ds vs (hl ▸ hl') fun j y u a b => ?_
    have hj : j < cs.length := by rw [hl]; exact (List.getElem?_eq_some_iff.1 a).1
    exact h j _ y (List.getElem?_eq_getElem hj) a _ _ _ _ (hv' j _ u (List.getElem?_eq_getElem hj) b)
theorem Wk.con {a b c0 c1 d e r0 r1 f : V} (h : Wk c0 c1) (g : Wk r0 r1) : Wk (.agg [a, b, c0, d, e, r0, f]) (.agg [a, b, c1, d, e, r1, f]) := by
  refine .agg rfl fun j x y h1 h2 => ?_
  match j with
  | 0 => simp at h1 h2; subst h1 h2; exact .refl _
  | 1 => simp at h1 h2; subst h1 h2; exact .refl _
  | 2 => simp at h1 h2; subst h1 h2; exact h
  | 3 => simp at h1 h2; subst h1 h2; exact .refl _
  | 4 => simp at h1 h2; subst h1 h2; exact .refl _
  | 5 => simp at h1 h2; subst h1 h2; exact g
  | 6 => simp at h1 h2; subst h1 h2; exact .refl _
  | j + 7 => simp at h1

theorem opsW_wk {P : Program} {N : Nat} {all r : List Oper} {dst : Option Tmp} {op : Op} {ty : TypeId} {pos : String} {after : Array Edge} {σ : Slots} {H : List Obj} {K : Slots → List Obj → Prop}
    (h : opX P op σ H fun x H' => ∃ x', Wk x x' ∧ opsW P N all r (aputX N σ dst x') H' K) : opsW P N all (⟨dst, op, ty, pos, after, none⟩ :: r) σ H K := by
  rw [opX_eq] at h
  have h2 := opC_sound (N := N) (o := ⟨dst, op, ty, pos, after, none⟩) h
  show OpW P N ⟨dst, op, ty, pos, after, none⟩ σ H _
  intro a w ρ hs next Q kk
  refine h2 a w ρ hs next Q fun v w' ρ' x H' hx s g hv => ?_
  obtain ⟨x', hw, hk⟩ := hx
  exact kk v w' ρ' x' H' (by rw [aputX_eq] at hk; exact hk) s g (hw _ _ _ _ hv)

end Go.TL
