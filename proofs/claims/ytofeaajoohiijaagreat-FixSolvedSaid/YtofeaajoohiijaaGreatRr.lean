/- One, of two kinds; the calls whose answers the document fixes. -/
import Derived.Test.YtofeaajoohiijaaGreatRq
import Derived.Test.YtofeaajoohiijaaGreatTLt
import Derived.Test.YtofeaajoohiijaaGreatMg
import Derived.Test.YtofeaajoohiijaaGreatRa
namespace Go.TL
open Go Go.Proofs
set_option maxRecDepth 4000

/-- A constraint of the first two kinds. -/
def one01 (n : Nat) (d : List Dom) (c : Con) : Option (Option (List Dom)) := if c.kind = 1 then allM n d c else if c.kind = 0 then linM n d c else none

theorem fix_One01 (n : Nat) (d : List Dom) (c : Con) (r : Option (List Dom)) (hr : one01 n d c = some r) (hl : c.vars.length ≤ lim) (hv : ∀ v ∈ c.vars, 0 ≤ v ∧ v < d.length) (hdl : d.length ≤ lim) (hd : smallDoms d) (hne : c.vars ≠ [])
    (hk : c.kind = 0 → c.vars.length = c.coefs.length ∧ ∀ k ∈ c.coefs, k ≠ 0 ∧ -9223372036854775808 < k ∧ k ≤ 9223372036854775807) :
    Pure Tryz.prog 11 [encDoms d, encCon c] (encTold r) := by
  refine Pure.of' (closed_encTold r) fun H => go11 (by simp) ?_
  unfold Tryz.f11
  have hX : V.agg [V.i .i64 c.kind, encInts c.vars, encInts c.coefs, V.i .i64 c.op, V.i .i64 c.rhs, encRows c.rows, V.i .i64 c.b] = encCon c := rfl
  unfold one01 at hr
  by_cases h1 : c.kind = 1
  · rw [if_pos h1] at hr
    simp [vint, hX]
    rw [if_pos h1]
    refine (unlike_Prune d c n r hr hl hv hdl hd hne).use ?_
    simp [encTold]
  · rw [if_neg h1] at hr
    by_cases h0 : c.kind = 0
    · rw [if_pos h0] at hr
      have e2 : ¬ c.kind = 2 := by omega
      have e3 : ¬ c.kind = 3 := by omega
      have e4 : ¬ c.kind = 4 := by omega
      have e5 : ¬ c.kind = 5 := by omega
      have e6 : ¬ c.kind = 6 := by omega
      simp [vint, hX, h1, e2, e3, e4, e5, e6]
      refine (linear_Prune d c n r hr hl (hk h0).1 hne hv hdl (fun y hy => (hd y hy).1) (hk h0).2).use ?_
      simp [encTold]
    · rw [if_neg h0] at hr; cases hr

def fxl (rhs : Int) : List Con := [⟨0, [0, 1], [1, 1], 0, rhs, [], 0⟩, ⟨1, [0, 1], [], 0, 0, [], 0⟩, ⟨0, [0], [-1], 0, -2, [], 0⟩]
def fxd : List Dom := [[⟨0, 3⟩], [⟨0, 3⟩]]

def fxGood (d : List Dom) : Prop := d.length = 2 ∧ smallDoms d

instance : DecidableEq (Option (Option (List Dom))) := inferInstance

theorem fx2 : allFixM (one01 20) (fxl 2) 20 fxd = some (some [[⟨2, 2⟩], [⟨0, 0⟩]]) := by kernel_rfl
theorem fx1 : allFixM (one01 20) (fxl 1) 20 fxd = some none := by kernel_rfl

theorem fx_All (rhs : Int) (r : Option (List Dom)) (hr : allFixM (one01 20) (fxl rhs) 20 fxd = some r) (H : List Obj) (lv : V) (hlv : LV H lv (fxl rhs)) :
    Fn Tryz.prog 9 [encDoms fxd, lv] H fun x G => x = encTold r ∧ G = H := by
  have hsm : smallDoms fxd := by
    intro y hy
    simp [fxd] at hy
    subst hy
    exact ⟨by simp, fun r hr => by simp at hr; subst hr; simp⟩
  refine Fn.close ((fix_AllN (one01 20) (fxl rhs) 3 20 2 fxd r hr fxGood (by simp [fxd, lim]) hsm (fun _ => ⟨rfl, hsm⟩) (fun d h => h) (by simp [lim]) (fun c hc d r hg h => ?_) (by simp [fxl, lim]) (by omega) (by simp [fxl]) (by simp [lim]) H lv hlv).mono fun x G ⟨⟨n, hn⟩, hf⟩ => ⟨n, hn, hf⟩)
  have hl := hg.1
  have hc' : c.vars ≠ [] ∧ c.vars.length ≤ 2 ∧ (∀ v ∈ c.vars, 0 ≤ v ∧ v < 2) ∧ c.op ≠ 2 ∧ (c.kind = 0 → c.vars.length = c.coefs.length ∧ ∀ k ∈ c.coefs, k ≠ 0 ∧ -9223372036854775808 < k ∧ k ≤ 9223372036854775807) := by
    simp [fxl] at hc
    rcases hc with rfl | rfl | rfl <;> simp
  refine ⟨fix_One01 20 d c r h (by have := hc'.2.1; simp [lim]; omega) (by intro v hv; have := hc'.2.2.1 v hv; omega) (by rw [hl]; simp [lim]) hg.2 hc'.1 hc'.2.2.2.2, ?_⟩
  rintro now rfl
  unfold one01 at h
  split at h
  · have := allM_small hg.2 h; exact ⟨this.1.trans hl, this.2⟩
  · split at h
    · have := linM_small hc'.2.2.2.1 hg.2 h; exact ⟨this.1.trans hl, this.2⟩
    · cases h

@[simp] theorem seqK_normal (P : Program) (N : Nat) (b : Code) (Q : Post) (σ : Slots) (H : List Obj) : seqK P N b Q .normal σ H = AWP P N b σ H Q := rfl

theorem law13_fixed : Pure Tryz.prog 7 [] (.b true) := by
  refine Pure.of' (.b _) fun H => Fn.ofA Tryz.func7 78 [.tmp 0] rfl rfl rfl (by kernel_rfl) (by simp) ?_
  unfold Tryz.f7
  simp only [Option.getD_some]
  refine .seq (.ofX ?_)
  simp
  refine .seq (.ofX ?_)
  simp
  refine .seq (AWP.region ?_)
  refine opsW_op ?_
  simp [List.range'_succ]
  refine opsW_op ?_
  simp [List.range'_succ]
  refine opsW_wk ?_
  simp
  refine ⟨encCon ⟨0, [0, 1], [1, 1], 0, 2, [], 0⟩, Wk.con (.refl _) .emp, ?_⟩
  refine opsW_op ?_
  simp [List.range'_succ]
  refine opsW_wk ?_
  simp
  refine ⟨encCon ⟨1, [0, 1], [], 0, 0, [], 0⟩, Wk.con .emp .emp, ?_⟩
  refine opsW_op ?_
  simp [List.range'_succ]
  refine opsW_op ?_
  simp [List.range'_succ]
  refine opsW_wk ?_
  simp
  refine ⟨encCon ⟨0, [0], [-1], 0, -2, [], 0⟩, Wk.con (.refl _) .emp, ?_⟩
  refine opsW_own ?_
  unfold buildOwnC
  simp [List.range'_succ]
  refine opsW_op ?_
  simp
  show AWP _ _ _ _ _ _
  refine .ofX ?_
  simp
  refine ⟨rfl, ?_⟩
  refine (fx_All 2 _ fx2 (H ++ [.row 7 ((fxl 2).map encCon)]) (.sl H.length 3 0 3 none) (.inr ⟨H.length, rfl, by simp⟩)).mono fun x G hx => ?_
  obtain ⟨rfl, rfl⟩ := hx
  have hs1 : solvedM [[⟨2, 2⟩], [⟨0, 0⟩]] = ([2, 0], true) := by decide
  have hs2 : solvedM [[⟨0, 3⟩]] = ([], false) := by decide
  have hf1 := fix_Solved [[⟨2, 2⟩], [⟨0, 0⟩]] (by simp [lim]) (by simp [lim])
  have hf2 := fix_Solved [[⟨0, 3⟩]] (by simp [lim]) (by simp [lim])
  rw [hs1] at hf1
  rw [hs2] at hf2
  simp [encTold]
  refine hf1.use ?_
  simp [List.range'_succ]
  refine hf2.use ?_
  simp [encCon, vint, fxl, splice, mkEl, List.range'_succ]
  refine (fx_All 1 _ fx1 (H ++ [.row 7 ((fxl 1).map encCon)]) (.sl H.length 3 0 3 none) (.inr ⟨H.length, rfl, by simp⟩)).mono fun x G hx => ?_
  obtain ⟨rfl, rfl⟩ := hx
  simp [encTold, List.range'_succ]
  refine (R3_Same [[⟨2, 2⟩], [⟨0, 0⟩]] [[⟨2, 2⟩], [⟨0, 0⟩]] (by simp [lim]) (by simp [lim])).use ?_
  simp [List.range'_succ]
  refine (R2_Nums [2, 0] [2, 0] (by simp)).use ?_
  simp

end Go.TL
