/- slices.Collect: of a slice's numbers, of a domain's values. -/
import Derived.Test.YtofeaajoohiijaaGreatSo
import Derived.Test.YtofeaajoohiijaaGreatIt
import Derived.Test.YtofeaajoohiijaaGreatRg
namespace Go.TL
open Go Go.Proofs

/-- What comes out as a new row of numbers. -/
theorem Fn.ofRow {P : Program} {f : FuncId} {args : List V} {H : List Obj} {zs : List Int} {T : TypeId} (hg : goodFn P f = true)
    (h : ∀ (w : World) (ρ : Nat → Nat) (vs : Array Value), Sim ρ H w → VRs w ρ H args vs → Calls P f vs w fun e W' => ∃ v, e = .returned v ∧ W'.ownsRow w.heap.size T 1 v zs.length (zs.map (Value.int .i64)) ∧ (v = .slice none 0 0 ↔ zs = []) ∧ Go.RowKit.Below w.heap.size w W') :
    Fn P f args H fun x G => Acc H 1 G x (zs.map vint) := by
  refine ⟨hg, fun w ρ vs s hv => (h w ρ vs s hv).mono ?_⟩
  rintro e w' ⟨v, rfl, hrow, hnil, hb⟩
  rcases hrow.2 with ⟨rfl, hn⟩ | ⟨g, cap, cur, rfl, hbg, hgb, hcap, _, hsz, htake⟩
  · have hz : zs = [] := hnil.1 rfl
    subst hz
    exact ⟨_, .emp, ρ, H, rfl, .emp _, s.same hb.size hb.block ⟨hb.os, hb.output, hb.tape⟩, .same s hb.size hb.block ⟨hb.os, hb.output, hb.tape⟩, .nil H 1⟩
  · have hz : zs ≠ [] := fun e => by have := hnil.2 e; cases this
    have hcur : ∀ i, (hi : i < zs.length) → cur[i]? = some (.int .i64 zs[i]) := by
      intro i hi
      have h1 : (cur.toList.take (zs.length * 1))[i]? = some (.int .i64 zs[i]) := by rw [htake]; simp [hi]
      rw [List.getElem?_take, if_pos (by omega)] at h1
      simpa using h1
    have hgl : g < w'.heap.size := (Array.getElem?_eq_some_iff.1 hgb).1
    have hnew := sim_new (w' := w') (ob := Go.TL.Obj.row 1 (zs.map vint)) s hbg hgl hb.block (by
      intro k es e
      cases e
      refine ⟨cur, _, hgb, by simp; omega, by intro e he; obtain ⟨y, _, rfl⟩ := List.mem_map.1 he; rfl, fun i e j x h1 h2 => ?_⟩
      rw [List.getElem?_map] at h1
      obtain ⟨y, hy, rfl⟩ := Option.map_eq_some_iff.1 h1
      have hi : i < zs.length := (List.getElem?_eq_some_iff.1 hy).1
      have hyy : zs[i] = y := (List.getElem?_eq_some_iff.1 hy).2
      match j with
      | 0 => simp at h2; subst h2; exact ⟨_, by rw [Nat.mul_one, Nat.add_zero]; exact hcur i hi, by rw [hyy]; exact .i _ _⟩
      | j + 1 => simp at h2) (by intro es e; cases e) ⟨hb.os, hb.output, hb.tape⟩
    refine ⟨_, .sl H.length zs.length 0 zs.length none, _, _, rfl, ?_, hnew.1, hnew.2, ⟨⟨_, rfl⟩, .inr ⟨H.length, Nat.le_refl _, by simp, by simp⟩⟩⟩
    refine .sl _ _ _ _ _ _ (by simp) rfl fun k es he => ?_
    simp at he
    obtain ⟨rfl, rfl⟩ := he
    refine ⟨by simp, fun _ => ⟨cap, T, cur.size, by simp, hcap, by omega, by simp, ?_, by rw [hsz]; omega, fun _ => by omega⟩⟩
    simp only [if_true]
    exact shape_at hgb

def rgp (d : Dom) : List (Int × Int) := d.map fun r => (r.lo, r.hi)
/-- A domain's values, as the iterator gives them. -/
def valsM (d : Dom) : List Int := ((rgp d).flatMap TLi.rgv).take 4097

theorem VR.clo1 {w : World} {ρ : Nat → Nat} {H : List Obj} {f : FuncId} {x : V} {v : Value} (h : VR w ρ H (.clo f [x]) v) : ∃ u, v = .func (.func f) #[] #[u] ∧ VR w ρ H x u := by
  cases h with
  | clo _ _ vs hl hv =>
    obtain ⟨u, rfl⟩ : ∃ u, vs = #[u] := by
      rcases vs with ⟨_ | ⟨v, _ | _⟩⟩ <;> simp at hl
      exact ⟨v, rfl⟩
    exact ⟨u, rfl, hv 0 _ u rfl rfl⟩

theorem VR.boxed {w : World} {ρ : Nat → Nat} {H : List Obj} (s : Sim ρ H w) {o : Nat} {x : V} {v : Value} (ho : H[o]? = some (.row 1 [x])) (hx : cellsOf x = [x]) (h : VR w ρ H (.ptr o 1 0 0) v) :
    ∃ u, v = .pointer (some ⟨ρ o, 0, none⟩) ∧ w.cell? ⟨ρ o, 0, none⟩ = some u ∧ VR w ρ H x u ∧ ρ o < w.heap.size := by
  cases h with
  | ptr _ _ _ _ _ ho' h1' hh' =>
    have := (hh' _ _ ho).2 rfl
    simp at this
    subst this
    obtain ⟨arr, t, e0, f0, k0, c0⟩ := s.row o 1 _ ho
    obtain ⟨u, hu, hr⟩ := c0 0 x 0 x rfl (by rw [hx]; rfl)
    exact ⟨u, rfl, by simp [World.cell?, e0]; simpa using hu, hr, s.lt ho (by simp)⟩

theorem ints_of {w : World} {ρ : Nat → Nat} {H : List Obj} {l : List Int} {v : Value} (h : VR w ρ H (encInts l) v) : TLi.Ints w.heap.size w v l := by
  unfold encInts at h
  generalize hm : l.map vint = es at h
  cases h with
  | lnil a c => left; exact ⟨by simpa using hm, a, c, rfl⟩
  | lst _ blk off c k f hne hc hk hb hu hcell hv =>
    right
    subst hm
    refine ⟨blk, off, c, by simp, hb, fun j hj => ?_⟩
    have hj' : (l.map vint)[j]? = some (vint l[j]) := by simp [hj]
    have hk1 : k = 1 := (hk _ (List.mem_of_getElem? hj')).symm
    subst hk1
    have h1 := hcell j _ 0 _ hj' rfl
    have h2 := hv j _ 0 _ hj' rfl
    have h3 := h2.inv_i
    rw [h3] at h1
    simp [hj]
    simpa using h1

theorem rgs_of {w : World} {ρ : Nat → Nat} {H : List Obj} {d : Dom} {v : Value} (h : VR w ρ H (encDom d) v) : TLi.Rgs w.heap.size w v (rgp d) := by
  unfold encDom at h
  generalize hm : d.map encRg = es at h
  cases h with
  | lnil a c => left; exact ⟨by simp at hm; subst hm; rfl, a, c, rfl⟩
  | lst _ blk off c k f hne hc hk hb hu hcell hv =>
    right
    subst hm
    refine ⟨blk, off, c, by simp [rgp], hb, fun j hj => ?_⟩
    have hj0 : j < d.length := by simpa [rgp] using hj
    have hj' : (d.map encRg)[j]? = some (encRg d[j]) := by simp [hj0]
    have hk1 : k = 2 := (hk _ (List.mem_of_getElem? hj')).symm
    subst hk1
    have h1 := hcell j _ 0 _ hj' rfl
    have h2 := (hv j _ 0 _ hj' rfl).inv_i
    have h3 := hcell j _ 1 _ hj' rfl
    have h4 := (hv j _ 1 _ hj' rfl).inv_i
    rw [h2] at h1
    rw [h4] at h3
    simp [rgp, hj0]
    exact ⟨by simpa using h1, h3⟩

theorem collect_ints (l : List Int) (hl : l.length ≤ lim) (o : Nat) (H : List Obj) (ho : H[o]? = some (.row 1 [encInts l])) :
    Fn Tryz.prog 84 [.clo 106 [.ptr o 1 0 0]] H fun x G => Acc H 1 G x (l.map vint) := by
  unfold lim at hl
  refine Fn.ofRow (T := 3) (by kernel_rfl) fun w ρ vs s hv => ?_
  obtain ⟨hn, hv⟩ := hv
  obtain ⟨v, rfl⟩ : ∃ v, vs = #[v] := by
    rcases vs with ⟨_ | ⟨v, _ | _⟩⟩ <;> simp at hn
    exact ⟨v, rfl⟩
  obtain ⟨u, rfl, hu⟩ := (hv 0 _ v rfl rfl).clo1
  obtain ⟨sv, rfl, hc, hx, hlt⟩ := VR.boxed s ho rfl hu
  have hI := ints_of hx
  refine (callsIn_wide (n := 9)).1 (TLi.collect_in 9 106 #[.pointer (some ⟨ρ o, 0, none⟩)] (enters_of Tryz.func106 (by kernel_rfl) rfl) (by omega) l l.length 43 (by decide) (by unfold maxLen; omega) (by omega) w fun W hW => ?_)
  exact TLi.values_stops Fence.wide _ trivial rfl (by omega) (ρ o) w.heap.size _ sv l (by omega) W (Nat.lt_of_lt_of_le hlt hW.size) hW.size ((hW.cell (p := ⟨ρ o, 0, none⟩) hlt).trans hc) (hI.below hW)

theorem collect_dom (d : Dom) (hl : d.length ≤ lim) (hbig : ∀ r ∈ d, -4611686018427387904 ≤ r.lo ∧ r.hi ≤ 4611686018427387904) (o : Nat) (H : List Obj) (ho : H[o]? = some (.row 1 [encDom d])) :
    Fn Tryz.prog 84 [.clo 108 [.ptr o 1 0 0]] H fun x G => Acc H 1 G x ((valsM d).map vint) := by
  unfold lim at hl
  refine Fn.ofRow (T := 3) (by kernel_rfl) fun w ρ vs s hv => ?_
  obtain ⟨hn, hv⟩ := hv
  obtain ⟨v, rfl⟩ : ∃ v, vs = #[v] := by
    rcases vs with ⟨_ | ⟨v, _ | _⟩⟩ <;> simp at hn
    exact ⟨v, rfl⟩
  obtain ⟨u, rfl, hu⟩ := (hv 0 _ v rfl rfl).clo1
  obtain ⟨sv, rfl, hc, hx, hlt⟩ := VR.boxed s ho rfl hu
  have hI := rgs_of hx
  refine (callsIn_wide (n := 9)).1 (TLi.collect_in 9 108 #[.pointer (some ⟨ρ o, 0, none⟩)] (enters_of Tryz.func108 (by kernel_rfl) rfl) (by omega) (valsM d) 4097 43 (by decide) (by unfold maxLen; omega) (by omega) w fun W hW => ?_)
  exact TLi.all_stops Fence.wide _ trivial rfl (by omega) (ρ o) w.heap.size sv (rgp d) (by simp [rgp]; omega) (by
    intro r hr
    obtain ⟨q, hq, rfl⟩ := List.mem_map.1 hr
    exact hbig q hq) W (Nat.lt_of_lt_of_le hlt hW.size) hW.size ((hW.cell (p := ⟨ρ o, 0, none⟩) hlt).trans hc) (hI.below hW)

end Go.TL
