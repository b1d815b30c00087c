/- Ranges over functions: the iterators over a slice's numbers and over a domain's values, and what collects them (lines of two worked proofs of the guide, turned to this program). -/
import Derived.RangeFuncNested
import Derived.RangeFuncBound
import Derived.RangeFuncCalls
import Derived.RangeFuncBox
import Derived.RangeFuncLeaves
import Derived.Shelf.Abstract
import Derived.Shelf.RegionOpen
import Derived.WalkKit
import Derived.OwnWalkIn
import Derived.TacticsInMore
import Derived.LoopNIn
import Derived.LoopIn
import Derived.Maps.AppendAt
import Derived.Test.YtofeaajoohiijaaGreatProg
import Derived.Test.YtofeaajoohiijaaGreatChecked
namespace Go.Proofs.TLi
open Go Go.Proofs Go.RowKit Go.Shelf

attribute [local go_sem] Oper.semAt_some

/-- What a round keeps: what lay below n₀, and all cells of ranges. -/
def Kp (n₀ : Nat) (T : TypeId) (W W' : World) : Prop := Below n₀ W W' ∧ ∀ (b : Nat) (arr : Array Value) (fr : Nat × Nat), W.heap[b]? = some (Go.Obj.cells arr T fr) → W'.heap[b]? = some (Go.Obj.cells arr T fr)
theorem Kp.refl (n₀ : Nat) (T : TypeId) (W : World) : Kp n₀ T W W := ⟨Below.refl _ _, fun _ _ _ h => h⟩
theorem Kp.trans {n₀ : Nat} {T : TypeId} {A B C : World} (h : Kp n₀ T A B) (k : Kp n₀ T B C) : Kp n₀ T A C := ⟨h.1.trans k.1, fun b arr fr e => k.2 b arr fr (h.2 b arr fr e)⟩
theorem Kp.putObj {n₀ : Nat} {T : TypeId} {w : World} (hn : n₀ ≤ w.heap.size) (W : World) (l : Nat) (o o' : Obj) (hl : w.heap.size ≤ l) (h : W.heap[l]? = some o) (ho : o.isCells = false) (hw : o.isWalk = false) : Kp n₀ T W (W.putObj l o') :=
  ⟨belowK_b hn W l o o' hl h ho hw, fun b arr fr e => by
    have hne : b ≠ l := by rintro rfl; rw [h] at e; cases e; cases ho
    rw [World.putObj_heap_other hne]; exact e⟩

def upto {α : Type} (f : Nat → α) (k : Nat) : List α := (List.range k).map f
theorem upto_succ {α : Type} (f : Nat → α) (k : Nat) : upto f (k + 1) = upto f k ++ [f k] := by simp [upto, List.range_succ]
theorem upto_length {α : Type} (f : Nat → α) (k : Nat) : (upto f k).length = k := by simp [upto]
theorem upto_all (zs : List Int) : upto (fun j => zs[j]?.getD 0) zs.length = zs := by
  apply List.ext_getElem
  · simp [upto]
  · intro i h1 h2
    simp [upto, h2]
theorem upto_take (zs : List Int) {k : Nat} (hk : k ≤ zs.length) : upto (fun j => zs[j]?.getD 0) k = zs.take k := by
  apply List.ext_getElem
  · simp [upto, hk]
  · intro i h1 h2
    have : i < zs.length := by simp [upto] at h1; omega
    simp [upto, this]

set_option maxRecDepth 100000 in
set_option maxHeartbeats 2000000 in
theorem values1_in (F : Fence) (n : Nat) (h7 : F.fn 106) (hro : F.round = none) (hn : 1 ≤ n) (l Bs n₀ b off len cap : Nat) (T : TypeId) (zs : List Int) (hreach : len * 8 ≤ 140737488351232) (hb : b < n₀) (J Jx : List Int → World → Prop)
    (hY : ∀ pre x W, J pre W → pre.length < len → YieldAt F (n - 1) Tryz.prog l #[.int .i64 x] W fun e W' =>
      (e = .returned (.bool true) ∧ J (pre ++ [x]) W' ∧ Kp n₀ T W W') ∨ (e = .returned (.bool false) ∧ Jx (pre ++ [x]) W'))
    (W : World) (hBs : W.cell? ⟨Bs, 0, none⟩ = some (.slice (some ⟨b, off, none⟩) len cap)) (hc : ∀ j, j < len → W.cell? ⟨b, off + j, none⟩ = some (.int .i64 (zs[j]?.getD 0))) (h0 : J [] W) :
    CallsIn F n Tryz.prog 106 #[.func (.yield l) #[] #[], .pointer (some ⟨Bs, 0, none⟩)] W fun e W' => (∃ v, e = .returned v) ∧
      ((∃ ys, ys = upto (fun j => zs[j]?.getD 0) len ∧ J ys W') ∨ (∃ pre, (∃ k, k ≤ len ∧ pre = upto (fun j => zs[j]?.getD 0) k) ∧ Jx pre W')) := by
  refine callsIn_of_wp Tryz.func106 rfl h7 ?_ hro
  simp only [Tryz.ntmps106, List.size_toArray, List.length_cons, List.length_nil, Nat.reduceAdd, Nat.reduceSub, Array.replicate_succ, Array.replicate_zero, List.push_toArray, List.append_toArray, List.nil_append, List.cons_append]
  gi_wp2
  gi_loopw [7] (fun i wr => ∃ k : Nat, k ≤ len ∧ i = .int .i64 k ∧ J (upto (fun j => zs[j]?.getD 0) k) wr ∧ Kp n₀ T W wr)
    (fun i _ => len - (intOf i).toNat)
  case atStart => exact ⟨0, Nat.zero_le _, rfl, h0, Kp.refl _ _ _⟩
  case round =>
    obtain ⟨k, hk, rfl, hJs, hnx⟩ := hrel
    have hcx : k < len → wr.cell? ⟨b, off + k, none⟩ = some (.int .i64 (zs[k]?.getD 0)) := fun h => (hnx.1.cell (p := ⟨b, off + k, none⟩) hb).trans (hc k h)
    by_cases hlt : k < len
    · obtain ⟨fn, tmps, assign, body, hy, hR⟩ := hY _ (zs[k]?.getD 0) wr hJs (by rw [upto_length]; exact hlt)
      have hcx' := hcx hlt
      gi_wp2
      refine hR.mono ?_
      rintro e W3 (⟨rfl, hJ3, hk3⟩ | ⟨rfl, hJx3⟩)
      · -- THE ROUND GOES ON
        gi_wp2
        go_roundw
        case rel => exact ⟨k + 1, by omega, by simp, by rw [upto_succ]; exact hJ3, hnx.trans hk3⟩
        case measure => simp [intOf]; omega
      · gi_wp2
        refine bodyPost_ret (results_none rfl _ _ _) rfl ?_
        exact ⟨⟨_, rfl⟩, .inr ⟨_, ⟨k + 1, by omega, (upto_succ _ _).symm⟩, hJx3⟩⟩
    · obtain rfl : k = len := by omega
      gi_wp2
      go_end0
      exact ⟨⟨_, rfl⟩, .inl ⟨_, rfl, hJs⟩⟩

set_option maxRecDepth 100000 in
set_option maxHeartbeats 1000000 in
theorem values1_nil_in (F : Fence) (n : Nat) (h7 : F.fn 106) (hro : F.round = none) (l Bs : Nat) (a0 : Option Addr) (c0 : Nat) (J : List Int → World → Prop) (W : World) (hBs : W.cell? ⟨Bs, 0, none⟩ = some (.slice a0 0 c0)) (h0 : J [] W) :
    CallsIn F n Tryz.prog 106 #[.func (.yield l) #[] #[], .pointer (some ⟨Bs, 0, none⟩)] W fun e W' => (∃ v, e = .returned v) ∧ J [] W' := by
  refine callsIn_of_wp Tryz.func106 rfl h7 ?_ hro
  simp only [Tryz.ntmps106, List.size_toArray, List.length_cons, List.length_nil, Nat.reduceAdd, Nat.reduceSub, Array.replicate_succ, Array.replicate_zero, List.push_toArray, List.append_toArray, List.nil_append, List.cons_append]
  gi_wp2
  gi_loopw [7] (fun i wr => i = .int .i64 0 ∧ J [] wr) (fun _ _ => 0)
  case atStart => exact ⟨rfl, h0⟩
  case round =>
    obtain ⟨rfl, hJs⟩ := hrel
    gi_wp2
    go_end0
    exact ⟨⟨_, rfl⟩, hJs⟩


/-- The slice value sv holds the numbers zs, in a block below n₀. -/
def Ints (n₀ : Nat) (W : World) (sv : Value) (zs : List Int) : Prop :=
  (zs = [] ∧ ∃ a c, sv = .slice a 0 c) ∨ ∃ b off cap, sv = .slice (some ⟨b, off, none⟩) zs.length cap ∧ b < n₀ ∧ ∀ j, j < zs.length → W.cell? ⟨b, off + j, none⟩ = some (.int .i64 (zs[j]?.getD 0))
theorem Ints.below {n₀ : Nat} {A B : World} (h : Below n₀ A B) {sv : Value} {zs : List Int} : Ints n₀ A sv zs → Ints n₀ B sv zs
  | .inl e => .inl e
  | .inr ⟨b, off, cap, e, hb, hc⟩ => .inr ⟨b, off, cap, e, hb, fun j hj => (h.cell (p := ⟨b, off + j, none⟩) hb).trans (hc j hj)⟩

theorem values_stops (F : Fence) (n : Nat) (h7 : F.fn 106) (hro : F.round = none) (hn : 1 ≤ n) (Bs n₀ : Nat) (T : TypeId) (sv : Value) (zs : List Int) (hreach : zs.length * 8 ≤ 140737488351232) (w : World) (hBs : Bs < w.heap.size) (hn₀ : n₀ ≤ w.heap.size)
    (hc : w.cell? ⟨Bs, 0, none⟩ = some sv) (hI : Ints n₀ w sv zs) :
    SeqStopsK F n Tryz.prog 106 #[.pointer (some ⟨Bs, 0, none⟩)] (fun x : Int => #[Value.int .i64 x]) (Kp n₀ T) (fun ys => ys = zs) (fun pre => pre <+: zs) zs.length w := fun l J Jx W hW _ _ hY h0 => by
  have hc' := (hW.cell (p := ⟨Bs, 0, none⟩) hBs).trans hc
  rcases hI.below (hW.mono hn₀) with ⟨rfl, a, c, rfl⟩ | ⟨b, off, cap, rfl, hb, hcs⟩
  · exact (values1_nil_in F n h7 hro l Bs a c J W hc' h0).mono fun e W' ⟨he, hj⟩ => ⟨he, .inl ⟨_, rfl, hj⟩⟩
  · refine (values1_in F n h7 hro hn l Bs n₀ b off zs.length cap T zs hreach hb J Jx hY W hc' hcs h0).mono ?_
    rintro e W' ⟨he, ⟨ys, rfl, hj⟩ | ⟨pre, ⟨k, hk, rfl⟩, hj⟩⟩
    · exact ⟨he, .inl ⟨_, upto_all zs, hj⟩⟩
    · exact ⟨he, .inr ⟨_, by rw [upto_take zs hk]; exact List.take_prefix _ _, hj⟩⟩

theorem infoI : (Tryz.prog.info? 3).map (fun i => (i.zero, i.size, i.bytes)) = some (some (.int .i64 0), 1, 8) := by kernel_rfl

theorem kp_append {W w1 : World} {n₀ B : Nat} {T t e : TypeId} {v v' : Value} {k : Nat} {xs : List Value} {tmp : Obj} (hTt : T ≠ t) (hTe : T ≠ e)
    (hv : Boxed W B t v) (hte : t ≠ e) (hrow : W.ownsRow n₀ e 1 v k xs) (hgrow : (W.alloc tmp).grownBy w1 v.ownBlock) (b : Nat) (arr : Array Value) (fr : Nat × Nat) (h : W.heap[b]? = some (.cells arr T fr)) :
    (w1.setCell ⟨B, 0, none⟩ v').heap[b]? = some (.cells arr T fr) := by
  have hbl : b < W.heap.size := (Array.getElem?_eq_some_iff.1 h).1
  have hbB : b ≠ B := by
    rintro rfl
    rw [show W.heap[b]? = _ from hv] at h
    cases h; exact hTt rfl
  have h1 : (W.alloc tmp).heap[b]? = some (.cells arr T fr) := (Below.heap_alloc W tmp b hbl).trans h
  have h2 : w1.heap[b]? = some (.cells arr T fr) := by
    rw [hgrow.block b (by simp; omega) ?_]; exact h1
    rcases hrow.2 with ⟨rfl, _⟩ | ⟨g, cap, cur, rfl, _, hgb, _⟩
    · simp [Value.ownBlock]
    · simp only [Value.ownBlock]
      intro e'
      cases e'
      rw [hgb] at h
      cases h; exact hTe rfl
  rw [← h2]
  exact (grownBy_setCell' w1 B v').block b (Array.getElem?_eq_some_iff.1 h2).1 (by simp [hbB])

set_option maxRecDepth 100000 in
set_option maxHeartbeats 2000000 in
theorem appendSeq_in (n g : Nat) (lb : Array Value) (eg : ∀ args w, (callFunc g args).run Tryz.prog w = .ok (.enter g args) w) (hn : 3 ≤ n) (zs : List Int) (N : Nat) (T : TypeId) (hT : T ≠ 24 ∧ T ≠ 3) (hlen : N ≤ maxLen) (hbytes : N * 8 ≤ 140737488355328) (w : World)
    (hseq : ∀ W, Below w.heap.size w W → SeqStopsK Fence.wide (n - 1) Tryz.prog g lb (fun x : Int => #[Value.int .i64 x]) (Kp w.heap.size T) (fun ys => ys = zs) (fun pre => pre <+: zs) N W) :
    CallsIn Fence.wide n Tryz.prog 107 #[.slice none 0 0, .func (.func g) #[] lb] w fun e W' => ∃ v, e = .returned v ∧ W'.ownsRow w.heap.size 3 1 v zs.length (zs.map (Value.int .i64)) ∧ (v = .slice none 0 0 ↔ zs = []) ∧ Below w.heap.size w W' := by
  have h1 : 1 ≤ n := by omega
  have hro : Fence.wide.round = none := rfl
  obtain ⟨i0, hi, hz0, hz1, hz2⟩ := info_parts infoI
  refine callsIn_of_wp_marks Tryz.func107 rfl trivial ?_ hro
  simp only [Tryz.ntmps107, List.size_toArray, List.length_cons, List.length_nil, Nat.reduceAdd, Nat.reduceSub, Array.replicate_succ, Array.replicate_zero, List.push_toArray, List.append_toArray, List.nil_append, List.cons_append]
  gi_wp2
  have bO := Boxed.new w 24 (.slice none 0 0)
  have hB0 : Below w.heap.size w (w.alloc (.cells #[.slice none 0 0] 24)) := (Below.refl _ w).alloc (Nat.le_refl _) _
  refine wpIn_rangeFunc_ownG hro h1 (gf := g) (lb := lb) rfl trivial eg
    (hseq _ hB0) Kp.trans (Kp.putObj (by simp)) (Below.refl _ _) (fun _ => rfl)
    (fun pre W => (∃ v, Boxed W w.heap.size 24 v ∧ W.ownsRow w.heap.size 3 1 v pre.length (pre.map (Value.int .i64)) ∧ (v = .slice none 0 0 ↔ pre = [])) ∧ Below w.heap.size w W)
    (fun _ _ _ => False)
    (OwnFrom.and (Own.from (holdsRow_own w.heap.size w.heap.size 24 3 1 (fun pre => pre.length) (fun pre => pre.map (Value.int .i64)) (fun pre v => v = .slice none 0 0 ↔ pre = [])) _) (ownFrom_below (Nat.le_refl _) (by simp)))
    (fun _ _ _ _ _ hs _ _ => hs)
    ⟨⟨_, bO, World.ownsRow_nil _ _ _ _, by simp⟩, hB0⟩
    (fun x => { tmps := #[.slice none 0 0, .func (.func g) #[] lb, .pointer (some ⟨w.heap.size, 0, none⟩), undef, .slice none 0 0, .int .i64 x, .func (.func g) #[] lb, .int .i64 x, undef, undef, undef, undef, undef], defers := [] }) ?assign ?body ?done ?stop
  case assign =>
    intro l x W K hK
    gi_wp2
    exact hK
  case body =>
    rintro l pre x W ⟨⟨v, hv, hrow, hnil⟩, hB⟩ hlt
    have hc := hv.cell
    gi_wp2_with (gi_at_builtin; refine wpListIn_append_own _ rfl _ _ 24 rfl w.heap.size 3 i0 (.int .i64 0) 1 8 Tryz.underlying24 hi hz0 hz1 hz2 rfl (by decide) _ _ _ rfl (hrow.alloc _) ⟨W.heap.size, 0, none⟩ 1 1 [.int .i64 x] rfl rfl (cell_one_new _ _ _) (by simp [Value.oneCell']) (by omega) (by omega) (by have := hB.size; simp; omega) ?_; intro v' w1 hown' hgrow _; obtain ⟨g', cap', rfl⟩ := ownsRow_succ hown'; obtain ⟨hv1, hv2, hr2, hk2, hb2⟩ := hv.appended (by decide) hrow hB.size (Nat.le_refl _) hown' hgrow; have hkp := kp_append (v' := .slice (some ⟨g', 0, none⟩) (pre.length + 1) cap') hT.1 hT.2 hv (by decide) hrow hgrow; have hc1 := hv1.cell; have hf1 := hv1.frozen)
    exact ⟨hk2.from _, ⟨hb2, hkp⟩, ⟨_, hv2, by simpa using hr2, by simp⟩, hB.trans hb2⟩
  case done =>
    rintro D ys W hD rfl ⟨⟨v, hv, hrow, hnil⟩, hB⟩ hK
    have hc := hv.cell
    gi_wp2
    refine ⟨by simp, .inl ⟨_, _, rfl, run_takeDeferred hK, ?_⟩⟩
    exact ⟨_, results_tmp rfl _ _ _, v, rfl, ownsRow_putObj hrow _ hK rfl, hnil, hB.trans (belowK_b (w := w) (Nat.le_refl _) W D _ _ (by simp at hD; omega) hK rfl rfl)⟩
  case stop =>
    rintro D c pre W _ _ h _
    exact h.elim

def rgv (r : Int × Int) : List Int := (List.range (r.2 - r.1 + 1).toNat).map fun (i : Nat) => r.1 + (i : Int)
def come (d : List (Int × Int)) (k j : Nat) : List Int := ((d.take k).flatMap rgv ++ ((d[k]?.map rgv).getD []).take j).take 4097

theorem rgv_length (r : Int × Int) : (rgv r).length = (r.2 - r.1 + 1).toNat := by simp [rgv]
theorem rgv_get (r : Int × Int) {j : Nat} (h : j < (rgv r).length) : (rgv r)[j] = r.1 + j := by simp [rgv]
theorem come_le (d : List (Int × Int)) (k j : Nat) : (come d k j).length ≤ 4097 := by unfold come; rw [List.length_take]; omega
theorem come_eq {d : List (Int × Int)} {k : Nat} (h : k < d.length) (j : Nat) : come d k j = ((d.take k).flatMap rgv ++ (rgv d[k]).take j).take 4097 := by simp [come, h]
theorem come_next {d : List (Int × Int)} {k : Nat} (h : k < d.length) : come d (k + 1) 0 = ((d.take k).flatMap rgv ++ rgv d[k]).take 4097 := by
  simp only [come, List.take_zero, List.append_nil]
  rw [List.take_succ_eq_append_getElem h, List.flatMap_append]; simp
theorem come_step {d : List (Int × Int)} {k j : Nat} (h : k < d.length) (hj : j < (rgv d[k]).length) (hl : (come d k j).length ≤ 4096) : come d k (j + 1) = come d k j ++ [d[k].1 + j] := by
  rw [come_eq h] at hl ⊢
  rw [come_eq h, List.take_succ_eq_append_getElem hj, ← List.append_assoc, rgv_get]
  rw [List.length_take] at hl
  rw [List.take_of_length_le (i := 4097) (l := (d.take k).flatMap rgv ++ (rgv d[k]).take j) (by omega)]
  rw [List.take_of_length_le]
  rw [List.length_append, List.length_singleton]; omega
theorem come_end {d : List (Int × Int)} {k j : Nat} (h : k < d.length) (hj : j ≤ (rgv d[k]).length) (hd : j = (rgv d[k]).length ∨ 4097 ≤ (come d k j).length) : come d k j = come d (k + 1) 0 := by
  rw [come_next h]
  rcases hd with rfl | hd
  · rw [come_eq h, List.take_length]
  · rw [come_eq h] at hd ⊢
    rw [List.length_take] at hd
    have hsp : (d.take k).flatMap rgv ++ rgv d[k] = ((d.take k).flatMap rgv ++ (rgv d[k]).take j) ++ (rgv d[k]).drop j := by rw [List.append_assoc, List.take_append_drop]
    rw [hsp, List.take_append_of_le_length (l₁ := (d.take k).flatMap rgv ++ (rgv d[k]).take j) (by omega)]
theorem come_pre {d : List (Int × Int)} {k : Nat} (h : k < d.length) (j : Nat) : come d k j <+: (d.flatMap rgv).take 4097 := by
  rw [come_eq h]
  have hsp : d.flatMap rgv = ((d.take k).flatMap rgv ++ (rgv d[k]).take j) ++ ((rgv d[k]).drop j ++ (d.drop (k + 1)).flatMap rgv) := by
    conv => lhs; rw [← List.take_append_drop k d, List.flatMap_append, List.drop_eq_getElem_cons h, List.flatMap_cons, ← List.take_append_drop j (rgv d[k])]
    simp only [List.append_assoc]
  rw [hsp, List.take_append (l₁ := (d.take k).flatMap rgv ++ (rgv d[k]).take j)]
  exact List.prefix_append _ _

set_option maxRecDepth 100000 in
set_option maxHeartbeats 2000000 in
theorem all1_in (F : Fence) (n : Nat) (h7 : F.fn 108) (hro : F.round = none) (hn : 1 ≤ n) (l Bs n₀ b off cap : Nat) (d : List (Int × Int)) (hreach : d.length * 16 ≤ 140737488351232) (hb : b < n₀)
    (hbig : ∀ r ∈ d, -4611686018427387904 ≤ r.1 ∧ r.2 ≤ 4611686018427387904) (J Jx : List Int → World → Prop)
    (hY : ∀ pre x W, J pre W → pre.length < 4097 → YieldAt F (n - 1) Tryz.prog l #[.int .i64 x] W fun e W' =>
      (e = .returned (.bool true) ∧ J (pre ++ [x]) W' ∧ Kp n₀ 43 W W') ∨ (e = .returned (.bool false) ∧ Jx (pre ++ [x]) W'))
    (W : World) (hJ : AbidesFrom W.heap.size J) (hn₀ : n₀ ≤ W.heap.size) (hBs : W.cell? ⟨Bs, 0, none⟩ = some (.slice (some ⟨b, off, none⟩) d.length cap))
    (hc : ∀ j, j < d.length → W.cell? ⟨b, off + j * 2, none⟩ = some (.int .i64 (d[j]?.getD (0, 0)).1) ∧ W.cell? ⟨b, off + j * 2 + 1, none⟩ = some (.int .i64 (d[j]?.getD (0, 0)).2)) (h0 : J [] W) :
    CallsIn F n Tryz.prog 108 #[.func (.yield l) #[] #[], .pointer (some ⟨Bs, 0, none⟩)] W fun e W' => (∃ v, e = .returned v) ∧
      ((∃ ys, ys = (d.flatMap rgv).take 4097 ∧ J ys W') ∨ (∃ pre, pre <+: (d.flatMap rgv).take 4097 ∧ Jx pre W')) := by
  refine callsIn_of_wp Tryz.func108 rfl h7 ?_ hro
  simp only [Tryz.ntmps108, List.size_toArray, List.length_cons, List.length_nil, Nat.reduceAdd, Nat.reduceSub, Array.replicate_succ, Array.replicate_zero, List.push_toArray, List.append_toArray, List.nil_append, List.cons_append]
  gi_wp2
  gi_loopw [3, 9] (fun m i wr => ∃ k : Nat, k ≤ d.length ∧ i = .int .i64 k ∧ m = .int .i64 (come d k 0).length ∧ J (come d k 0) wr ∧ Kp n₀ 43 W wr)
    (fun _ i _ => d.length - (intOf i).toNat)
  case atStart => exact ⟨0, Nat.zero_le _, rfl, by simp [come], by simpa [come] using h0, Kp.refl _ _ _⟩
  case round =>
    obtain ⟨k, hk, rfl, rfl, hJs, hnx⟩ := hrel
    obtain ⟨wo, rfl⟩ : ∃ x, x = wr := ⟨_, rfl⟩
    have hcx : k < d.length → wo.cell? ⟨b, off + k * 2, none⟩ = some (.int .i64 (d[k]?.getD (0, 0)).1) ∧ wo.cell? ⟨b, off + k * 2 + 1, none⟩ = some (.int .i64 (d[k]?.getD (0, 0)).2) :=
      fun h => ⟨(hnx.1.cell (p := ⟨b, off + k * 2, none⟩) hb).trans (hc k h).1, (hnx.1.cell (p := ⟨b, off + k * 2 + 1, none⟩) hb).trans (hc k h).2⟩
    by_cases hlt : k < d.length
    · have hcx' := hcx hlt
      obtain ⟨h1, h2⟩ := hcx'
      gi_wp2
      have hbg := hbig _ (List.getElem_mem hlt)
      have hW1 : n₀ ≤ wo.heap.size := Nat.le_trans hn₀ hnx.1.size
      have hcell0 : (wo.alloc (.cells #[.int .i64 d[k].1, .int .i64 d[k].2] 43)).heap[wo.heap.size]? = some (.cells #[.int .i64 d[k].1, .int .i64 d[k].2] 43 (0, 0)) := World.alloc_heap_new  wo _
      have hkp0 : Kp n₀ 43 W (wo.alloc (.cells #[.int .i64 d[k].1, .int .i64 d[k].2] 43)) := hnx.trans ⟨(Below.refl _ wo).alloc hW1 _, fun b arr fr e => (Below.heap_alloc  wo _ b (Array.getElem?_eq_some_iff.1 e).1).trans e⟩
      have hJ0 : J (come d k 0) (wo.alloc (.cells #[.int .i64 d[k].1, .int .i64 d[k].2] 43)) := hJ _ _ _ none hJs (World.grownBy_alloc  wo _ none) (fun r e => by cases e)
      gi_loopw [3, 6] (fun m v wq => ∃ j : Nat, j ≤ (rgv d[k]).length ∧ v = .int .i64 (d[k].1 + j) ∧ m = .int .i64 (come d k j).length ∧ J (come d k j) wq ∧ Kp n₀ 43 (wo.alloc (.cells #[.int .i64 d[k].1, .int .i64 d[k].2] 43)) wq)
        (fun _ v _ => (d[k].2 + 1 - intOf v).toNat)
      case atStart => exact ⟨0, Nat.zero_le _, by simp, rfl, hJ0, Kp.refl _ _ _⟩
      case round =>
        obtain ⟨j, hj, rfl, rfl, hJq, hkq⟩ := hrel
        have hxc := hkq.2 _ _ _ hcell0
        have hx1 : wr.cell? ⟨wo.heap.size, 1, none⟩ = some (.int .i64 d[k].2) := by simp [World.cell?, hxc]
        have hlen := rgv_length d[k]
        have hcl := come_le d k j
        have hend : ¬ (d[k].1 + j ≤ d[k].2 ∧ (come d k j).length ≤ 4096) → come d k j = come d (k + 1) 0 := fun h => come_end hlt hj (by
          by_cases h1 : d[k].1 + j ≤ d[k].2
          · exact .inr (by have h2 : ¬ (come d k j).length ≤ 4096 := fun h2 => h ⟨h1, h2⟩
                           omega)
          · exact .inl (by omega))
        have hKp3 : Kp n₀ 43 W wr := hkp0.trans hkq
        by_cases hg1 : d[k].1 + j ≤ d[k].2
        · by_cases hg2 : ((come d k j).length : Int) ≤ 4096
          · obtain ⟨fn, tmps, assign, body, hy, hR⟩ := hY _ (d[k].1 + j) wr hJq (by omega)
            have hst := come_step hlt (j := j) (by omega) (by omega)
            gi_wp2
            refine hR.mono ?_
            rintro e W3 (⟨rfl, hJ3, hk3⟩ | ⟨rfl, hJx3⟩)
            · gi_wp2
              go_roundw
              case rel => exact ⟨j + 1, by omega, by simp; omega, by rw [hst]; simp, by rw [hst]; exact hJ3, hkq.trans hk3⟩
              case measure => simp [intOf]; omega
            · gi_wp2
              refine bodyPost_ret (results_none rfl _ _ _) rfl ?_
              exact ⟨⟨_, rfl⟩, .inr ⟨_, by rw [← hst]; exact come_pre hlt _, hJx3⟩⟩
          · gi_wp2
            go_roundw
            have he := hend (fun h => hg2 (by omega))
            case rel => have he := hend (fun h => hg2 (by omega)); exact ⟨k + 1, by omega, by simp, by rw [he], by rw [← he]; exact hJq, hKp3⟩
            case measure => simp [intOf]; omega
        · gi_wp2
          go_roundw
          have he := hend (fun h => hg1 h.1)
          case rel => exact ⟨k + 1, by omega, by simp, by rw [he], by rw [← he]; exact hJq, hKp3⟩
          case measure => simp [intOf]; omega
    · obtain rfl : k = d.length := by omega
      gi_wp2
      go_end0
      exact ⟨⟨_, rfl⟩, .inl ⟨_, by simp [come], hJs⟩⟩

set_option maxRecDepth 100000 in
set_option maxHeartbeats 1000000 in
theorem all1_nil_in (F : Fence) (n : Nat) (h7 : F.fn 108) (hro : F.round = none) (l Bs : Nat) (a0 : Option Addr) (c0 : Nat) (J : List Int → World → Prop) (W : World) (hBs : W.cell? ⟨Bs, 0, none⟩ = some (.slice a0 0 c0)) (h0 : J [] W) :
    CallsIn F n Tryz.prog 108 #[.func (.yield l) #[] #[], .pointer (some ⟨Bs, 0, none⟩)] W fun e W' => (∃ v, e = .returned v) ∧ J [] W' := by
  refine callsIn_of_wp Tryz.func108 rfl h7 ?_ hro
  simp only [Tryz.ntmps108, List.size_toArray, List.length_cons, List.length_nil, Nat.reduceAdd, Nat.reduceSub, Array.replicate_succ, Array.replicate_zero, List.push_toArray, List.append_toArray, List.nil_append, List.cons_append]
  gi_wp2
  gi_loopw [3, 9] (fun m i wr => i = .int .i64 0 ∧ m = .int .i64 0 ∧ J [] wr) (fun _ _ _ => 0)
  case atStart => exact ⟨rfl, rfl, h0⟩
  case round =>
    obtain ⟨rfl, rfl, hJs⟩ := hrel
    gi_wp2
    go_end0
    exact ⟨⟨_, rfl⟩, hJs⟩

/-- The slice value sv holds the ranges d, in a block below n₀. -/
def Rgs (n₀ : Nat) (W : World) (sv : Value) (d : List (Int × Int)) : Prop :=
  (d = [] ∧ ∃ a c, sv = .slice a 0 c) ∨ ∃ b off cap, sv = .slice (some ⟨b, off, none⟩) d.length cap ∧ b < n₀ ∧
    ∀ j, j < d.length → W.cell? ⟨b, off + j * 2, none⟩ = some (.int .i64 (d[j]?.getD (0, 0)).1) ∧ W.cell? ⟨b, off + j * 2 + 1, none⟩ = some (.int .i64 (d[j]?.getD (0, 0)).2)
theorem Rgs.below {n₀ : Nat} {A B : World} (h : Below n₀ A B) {sv : Value} {zs : List (Int × Int)} : Rgs n₀ A sv zs → Rgs n₀ B sv zs
  | .inl e => .inl e
  | .inr ⟨b, off, cap, e, hb, hc⟩ => .inr ⟨b, off, cap, e, hb, fun j hj => ⟨(h.cell (p := ⟨b, off + j * 2, none⟩) hb).trans (hc j hj).1, (h.cell (p := ⟨b, off + j * 2 + 1, none⟩) hb).trans (hc j hj).2⟩⟩

theorem all_stops (F : Fence) (n : Nat) (h7 : F.fn 108) (hro : F.round = none) (hn : 1 ≤ n) (Bs n₀ : Nat) (sv : Value) (d : List (Int × Int)) (hreach : d.length * 16 ≤ 140737488351232) (hbig : ∀ r ∈ d, -4611686018427387904 ≤ r.1 ∧ r.2 ≤ 4611686018427387904) (w : World) (hBs : Bs < w.heap.size) (hn₀ : n₀ ≤ w.heap.size)
    (hc : w.cell? ⟨Bs, 0, none⟩ = some sv) (hI : Rgs n₀ w sv d) :
    SeqStopsK F n Tryz.prog 108 #[.pointer (some ⟨Bs, 0, none⟩)] (fun x : Int => #[Value.int .i64 x]) (Kp n₀ 43) (fun ys => ys = (d.flatMap rgv).take 4097) (fun pre => pre <+: (d.flatMap rgv).take 4097) 4097 w := fun l J Jx W hW hJ _ hY h0 => by
  have hc' := (hW.cell (p := ⟨Bs, 0, none⟩) hBs).trans hc
  rcases hI.below (hW.mono hn₀) with ⟨rfl, a, c, rfl⟩ | ⟨b, off, cap, rfl, hb, hcs⟩
  · exact (all1_nil_in F n h7 hro l Bs a c J W hc' h0).mono fun e W' ⟨he, hj⟩ => ⟨he, .inl ⟨_, rfl, hj⟩⟩
  · exact all1_in F n h7 hro hn l Bs n₀ b off cap d hreach hb hbig J Jx hY W hJ (Nat.le_trans hn₀ hW.size) hc' hcs h0

set_option maxRecDepth 100000 in
set_option maxHeartbeats 1000000 in
theorem collect_in (n g : Nat) (lb : Array Value) (eg : ∀ args w, (callFunc g args).run Tryz.prog w = .ok (.enter g args) w) (hn : 4 ≤ n) (zs : List Int) (N : Nat) (T : TypeId) (hT : T ≠ 24 ∧ T ≠ 3) (hlen : N ≤ maxLen) (hbytes : N * 8 ≤ 140737488355328) (w : World)
    (hseq : ∀ W, Below w.heap.size w W → SeqStopsK Fence.wide (n - 1 - 1) Tryz.prog g lb (fun x : Int => #[Value.int .i64 x]) (Kp w.heap.size T) (fun ys => ys = zs) (fun pre => pre <+: zs) N W) :
    CallsIn Fence.wide n Tryz.prog 84 #[.func (.func g) #[] lb] w fun e W' => ∃ v, e = .returned v ∧ W'.ownsRow w.heap.size 3 1 v zs.length (zs.map (Value.int .i64)) ∧ (v = .slice none 0 0 ↔ zs = []) ∧ Below w.heap.size w W' := by
  have h1 : 1 ≤ n := by omega
  have ha := appendSeq_in (n - 1) g lb eg (by omega) zs N T hT hlen hbytes w hseq
  have hfA : Fence.wide.fn 107 := trivial
  refine callsIn_of_wp Tryz.func84 rfl trivial ?_ rfl
  simp only [Tryz.ntmps84, List.size_toArray, List.length_cons, List.length_nil, Nat.reduceAdd, Nat.reduceSub, Array.replicate_succ, Array.replicate_zero, List.push_toArray, List.append_toArray, List.nil_append, List.cons_append]
  gi_wp2_with (gi_at_call 107; refine ha.mono ?_; rintro e w' ⟨v, rfl, hrow, hnil, hb⟩)
  go_ret
  exact ⟨v, rfl, hrow, hnil, hb⟩

end Go.Proofs.TLi
