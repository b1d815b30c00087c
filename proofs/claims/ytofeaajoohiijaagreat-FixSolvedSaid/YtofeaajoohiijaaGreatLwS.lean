/- FixSolved holds: for every input the law returns true, and each argument reads behind the call as it read before. -/
import Derived.Test.YtofeaajoohiijaaGreatRows
import Derived.Test.YtofeaajoohiijaaGreatRt
import Derived.WalkKit
import Derived.ProofKit
import Derived.OpenShut
import Derived.ShutString
import Derived.ChangeOld
import Derived.Below
import Derived.SizedLaws
namespace Go.Proofs.YtofeaajoohiijaaGreat.fixSolved
open Go.ChangeShapes Go.WideShapes Go.ChangeAt Go.RowKit

theorem own : ownKnob Tryz.prog.godebug = none := by kernel_rfl
theorem laidOut : laidOutB Tryz.prog = true := by kernel_rfl

/-- A function that only answers true, out of any world. -/
theorem calls_true {f : FuncId} {args : List TL.V} (h : TL.Pure Tryz.prog f args (.b true)) {W : World} {vs : Array Value} {ρ : Nat → Nat} (hv : TL.VRs W ρ [] args vs) : Calls Tryz.prog f vs W fun e W' => e = .returned (.bool true) ∧ Below W.heap.size W W' := by
  refine ((h []).2 W ρ vs (TL.Sim.nil ρ W) hv).mono ?_
  rintro e w' ⟨v, x, ρ', H', rfl, hx, s', g, rfl, rfl⟩
  cases hx
  exact ⟨rfl, g.io.1, g.io.2.2, g.io.2.1, g.size, fun b h => (g.froz b h (fun o ob ho => by simp at ho)).1⟩

theorem vr_ints {W : World} {ρ : Nat → Nat} {a : Option Addr} {len cap : Nat} {zs : List Int}
    (h : (a = none ∧ len = 0 ∧ cap = 0 ∧ zs = []) ∨ ∃ x, a = some x ∧ len ≤ cap ∧ cap ≤ maxLen ∧ zs.length = cap ∧ (∀ i, i < zs.length → W.cell? (x.add i) = some (.int .i64 (zs.getD i 0)))) :
    TL.VR W ρ [] (TL.encInts (zs.take len)) (.slice a len cap) := by
  rcases h with ⟨rfl, rfl, rfl, rfl⟩ | ⟨x, rfl, h1, h2, h3, h4⟩
  · exact .lnil _ _
  · by_cases h0 : len = 0
    · subst h0; exact .lnil _ _
    · have hspot : x.spot = none := by simpa [Addr.add] using World.cell?_spot (h4 0 (by omega))
      obtain ⟨b, o, s⟩ := x
      simp only at hspot
      subst hspot
      · have h5 : ∀ i, i < zs.length → W.cell? ⟨b, o + i, none⟩ = some (.int .i64 (zs.getD i 0)) := fun j hj => by rw [← Go.WideShapes.add_plain]; exact h4 j hj
        have hc0 := h5 0 (by omega)
        have hb : b < W.heap.size := by
          simp only [World.cell?] at hc0
          rcases hh : W.heap[b]? with _ | ob
          · simp [hh] at hc0
          · exact (Array.getElem?_eq_some_iff.1 hh).1
        have hlen : ((zs.take len).map TL.vint).length = len := by simp; omega
        have := TL.VR.lst (w := W) (ρ := ρ) (H := []) ((zs.take len).map TL.vint) b o cap 1 (fun i _ => .int .i64 (zs.getD i 0)) (by intro h; have := congrArg List.length h; rw [hlen] at this; exact h0 this) (by rw [hlen]; exact h1)
          (by intro e he; obtain ⟨y, _, rfl⟩ := List.mem_map.1 he; rfl) hb (by intro o ob ho; simp at ho)
          (by
            intro i e j y he hy
            have hi : i < len := by have := (List.getElem?_eq_some_iff.1 he).1; rw [hlen] at this; exact this
            have hj : j = 0 := by
              rw [List.getElem?_map] at he
              obtain ⟨q, _, rfl⟩ := Option.map_eq_some_iff.1 he
              match j with
              | 0 => rfl
              | j + 1 => simp at hy
            subst hj
            have := h5 i (by omega)
            simp only [Nat.mul_one, Nat.add_zero]
            exact this)
          (by
            intro i e j y he hy
            have hi : i < len := by have := (List.getElem?_eq_some_iff.1 he).1; rw [hlen] at this; exact this
            rw [List.getElem?_map] at he
            obtain ⟨q, hq, rfl⟩ := Option.map_eq_some_iff.1 he
            match j with
            | 0 =>
              simp at hy
              subst hy
              rw [List.getElem?_take, if_pos hi] at hq
              rw [List.getD_eq_getElem?_getD, hq]
              exact .i _ _
            | j + 1 => simp at hy)
        rw [hlen] at this
        exact this

set_option maxRecDepth 100000 in
theorem lifted (os : Os) (started : os.Started) (H : Type) (enc : TypeId × Value → H) :
    ReturnsInHanded {} Tryz.checked os 5 .any (Rows.fixSolvedSpec.pre6 enc Tryz.prog Tryz.f5 Rows.fixSolvedRow.domain false) (Rows.fixSolvedSpec.post enc Tryz.prog Tryz.f5 false true false false) := by
  refine returnsInHanded_of_change_sized (C := Tryz.checked) own started (by kernel_rfl) Tryz.func5
    (ChangeSpec.witness6 (enc := enc) (C := Tryz.checked) false ⟨#[], #[.slice none 0 0, .bool false], []⟩ 8 (by kernel_rfl) (by kernel_rfl) (by kernel_rfl) (by kernel_rfl)) ?_
  intro W base args ds gs before hval0 hW hcnd hsz0 _
  have hval : ∀ (j : Nat) t v, Tryz.f5.params[j]? = some t → args[j]? = some v → Value.okWide Tryz.prog W .any base t v := hval0
  have hW' := hW
  obtain ⟨p, q, hA0, hV, rfl, hfz, hnd⟩ := hW
  have hA : DataW.TrodAll enc Tryz.prog W 0 (fun _ => true) true Tryz.f5.params.toList args.toList ds p := hA0
  rw [Tryz.params5] at hA hval
  obtain ⟨v0, vs0, d0, ds0, p0, q0, hargs, rfl, rfl, h0, r0⟩ := trodAll_cons hA
  obtain ⟨v1, vs1, d1, ds1, p1, q1, rfl, rfl, rfl, h1, r1⟩ := trodAll_cons r0
  obtain ⟨rfl, rfl, rfl⟩ := trodAll_nil r1
  obtain rfl : args = #[v0, v1] := by cases args; simp_all
  obtain ⟨rfl, rfl⟩ := trodVars_none hV
  obtain ⟨a0, len0, cap0, rfl⟩ := okWide_slice Tryz.underlying24 (hval 0 24 v0 rfl rfl)
  have k0 := h0
  have lt0 : ∀ x ∈ p0, x.block < W.heap.size := by obtain ⟨m, hm⟩ := k0; exact DataW.trod_lt m _ _ _ hm
  obtain ⟨z0, w0⟩ : ∃ zs : List Int, (a0 = none ∧ len0 = 0 ∧ cap0 = 0 ∧ zs = []) ∨ ∃ x, a0 = some x ∧ len0 ≤ cap0 ∧ cap0 ≤ maxLen ∧ zs.length = cap0 ∧ (∀ i, i < zs.length → W.cell? (x.add i) = some (.int .i64 (zs.getD i 0))) := by
    obtain ⟨fuel, hf⟩ := h0
    rcases open_ints Tryz.underlying24 Tryz.underlying3 (by kernel_rfl) hf with ⟨hcs, _⟩ | ⟨x, l, c, zs, hcs, _, hl, hm, hz, _, hcell, hwz⟩
    · simp [Value.cells] at hcs
      obtain ⟨rfl, rfl, rfl⟩ := hcs
      exact ⟨[], .inl ⟨rfl, rfl, rfl, rfl⟩⟩
    · simp [Value.cells] at hcs
      obtain ⟨rfl, rfl, rfl⟩ := hcs
      exact ⟨zs, .inr ⟨_, rfl, hl, hm, by simpa using hz, hcell⟩⟩
  obtain ⟨a1, rfl, rfl, rfl⟩ := open_bool Tryz.underlying4 (hval 1 4 v1 rfl rfl) h1
  clear hA0 hval0 hsz0
  refine (calls_true (ρ := id) (TL.law13_FixSolved (z0.take len0) a1) ⟨rfl, fun j x v hx hv => ?_⟩).mono fun e W' ⟨he, bel⟩ => ?_
  · match j with
    | 0 => simp at hx hv; subst hx hv; exact vr_ints w0
    | 1 => simp at hx hv; subst hx hv; exact .b _
    | j + 2 => simp at hx
  subst he
  exact ⟨_, rfl, _, _, _, [], _, [], hW', trodAll_mk1 (shut_bool Tryz.underlying4 _), (trodAll_cons_mk (Below.trod laidOut (by kernel_rfl) (of_decide_eq_true (by kernel_rfl)) k0 bel lt0) (trodAll_cons_mk (shut_bool Tryz.underlying4 _) trodAll_mk0)), rfl, bel.frame _, fun h => by cases h⟩

theorem over : Rows.fixSolvedRow.holds Tryz.pinned (OpenSpec.ofChange Rows.fixSolvedSpec) :=
  OpenClaim.holds_of_wide 5 Tryz.f5 rfl rfl rfl rfl rfl rfl rfl ⟨rfl, rfl, rfl, rfl, rfl⟩ rfl rfl rfl rfl rfl (by kernel_rfl) Tryz.func5 (by kernel_rfl)
    (of_decide_eq_true (by kernel_rfl)) (by unfold Func.isWrapper; first | (rw [if_pos (by decide +kernel)]; kernel_rfl) | (rw [if_neg (by decide +kernel)]; exact ⟨rfl, rfl⟩))
    (fun os started H enc _ => lifted os started H enc)

end Go.Proofs.YtofeaajoohiijaaGreat.fixSolved
namespace Go.Proofs.YtofeaajoohiijaaGreat
/-- The row, under a short name, for the claim. -/
theorem fixSolved_holds : Rows.FixSolvedSaid := fixSolved.over
#print axioms fixSolved_holds
end Go.Proofs.YtofeaajoohiijaaGreat
