/- slices.Sort: of an own row of whole numbers. -/
import Derived.Test.YtofeaajoohiijaaGreatMc
import Derived.Test.YtofeaajoohiijaaGreatShs
namespace Go.TL
open Go Go.Proofs Go.Sort

def insI (x : Int) : List Int → List Int
  | [] => [x]
  | y :: l => if x ≤ y then x :: y :: l else y :: insI x l
/-- Whole numbers, rising. -/
def sortI : List Int → List Int
  | [] => []
  | x :: l => insI x (sortI l)
theorem insI_perm (x : Int) : ∀ l, (insI x l).Perm (x :: l)
  | [] => .refl _
  | y :: l => by
    unfold insI; split
    · exact .refl _
    · exact ((insI_perm x l).cons y).trans (.swap x y l)
theorem sortI_perm : ∀ l, (sortI l).Perm l
  | [] => .refl _
  | x :: l => (insI_perm x _).trans ((sortI_perm l).cons x)
theorem insI_sorted (x : Int) : ∀ l, l.Pairwise (· ≤ ·) → (insI x l).Pairwise (· ≤ ·)
  | [], _ => by simp [insI]
  | y :: l, h => by
    rw [List.pairwise_cons] at h
    unfold insI; split
    · rename_i hxy
      refine List.pairwise_cons.2 ⟨fun z hz => ?_, List.pairwise_cons.2 h⟩
      rcases List.mem_cons.1 hz with rfl | hz
      · exact hxy
      · exact Int.le_trans hxy (h.1 z hz)
    · rename_i hxy
      refine List.pairwise_cons.2 ⟨fun z hz => ?_, insI_sorted x l h.2⟩
      rcases List.mem_cons.1 ((insI_perm x l).mem_iff.1 hz) with rfl | hz
      · omega
      · exact h.1 z hz
theorem sortI_sorted : ∀ l, (sortI l).Pairwise (· ≤ ·)
  | [] => .nil
  | x :: l => insI_sorted x _ (sortI_sorted l)
theorem sortI_length (l : List Int) : (sortI l).length = l.length := (sortI_perm l).length_eq
theorem mem_sortI {l : List Int} {x : Int} : x ∈ sortI l ↔ x ∈ l := (sortI_perm l).mem_iff
theorem sorted_unique {l m : List Int} (h : l.Perm m) (hl : l.Pairwise (· ≤ ·)) (hm : m.Pairwise (· ≤ ·)) : l = m :=
  List.Perm.eq_of_pairwise (le := fun x y => decide (x ≤ y)) (fun a b _ _ h1 h2 => by simp at h1 h2; omega) (hl.imp (by intro a b h; simpa using h)) (hm.imp (by intro a b h; simpa using h)) h
theorem sortI_eq {l m : List Int} (h : l.Perm m) (hs : m.Pairwise (· ≤ ·)) : sortI l = m := sorted_unique ((sortI_perm l).trans h) (sortI_sorted l) hs
theorem mergeSort_sortI (l : List Int) : (l.mergeSort fun x y => decide (x ≤ y)) = sortI l := by
  refine sorted_unique ((List.mergeSort_perm l _).trans (sortI_perm l).symm) ?_ (sortI_sorted l)
  have := List.pairwise_mergeSort (le := fun x y : Int => decide (x ≤ y)) (by intro a b c; simp; omega) (by intro a b; simp; omega) l
  exact this.imp (by intro a b h; simpa using h)

theorem shape_at {w : World} {b : Nat} {arr : Array Value} {t : TypeId} {fr : Nat × Nat} (h : w.heap[b]? = some (.cells arr t fr)) : w.shape? b = some (t, arr.size) := by
  simp [World.shape?, h]

theorem heap_putRow_same {enc : Int → Value} {w : World} {blk : Nat} {d : Array Int} {arr : Array Value} {t : TypeId} (h : w.heap[blk]? = some (.cells arr t (0, 0))) : (putRow enc w blk 0 d).heap[blk]? = some (.cells (putCells enc 0 d arr) t (0, 0)) := by
  simp [putRow, mapBlock, Array.getElem?_modify, h, onCells]

theorem heap_putRow_other {enc : Int → Value} {w : World} {blk b : Nat} {d : Array Int} (h : b ≠ blk) : (putRow enc w blk 0 d).heap[b]? = w.heap[b]? := by
  simp [putRow, mapBlock, Array.getElem?_modify, Ne.symm h]

theorem slices_Sort_row (l : List Int) (hl : l.length ≤ lim) (o : Nat) (H : List Obj) (ho : H[o]? = some (.row 1 (l.map vint))) :
    Fn Tryz.prog 74 [.sl o l.length 0 l.length none] H fun r H' => r = .tup [] ∧ H' = H.set o (.row 1 ((sortI l).map vint)) := by
  unfold lim at hl
  refine ⟨by kernel_rfl, fun w ρ vs s hv => ?_⟩
  obtain ⟨hn, hv⟩ := hv
  obtain ⟨v, rfl⟩ : ∃ v, vs = #[v] := by
    rcases vs with ⟨_ | ⟨v, _ | _⟩⟩ <;> simp at hn
    exact ⟨v, rfl⟩
  have hx := hv 0 _ v rfl rfl
  cases hx with
  | sl _ _ _ _ _ _ ho' h1' hh' =>
    obtain ⟨c, t, sz, rfl, a1, a2, a3, a4, a5, a6⟩ := (hh' _ _ ho).2 (by simp)
    obtain ⟨arr, ta, e0, f0, k0, c0⟩ := s.row o 1 _ ho
    have hlen : l.length ≤ arr.size := by simpa using f0
    have hcell : ∀ j, (hj : j < l.length) → arr[j]? = some (.int .i64 l[j]) := by
      intro j hj
      obtain ⟨u, hu, hr⟩ := c0 j (vint l[j]) 0 (vint l[j]) (by simp [hj]) rfl
      cases hr
      simpa using hu
    have hH : Holds (Value.int .i64) w (ρ o) (0 * 1) l.toArray := by
      intro j hj
      have hj' : j < l.length := by simpa using hj
      refine ⟨?_, ?_⟩
      · simp [World.cell?, e0, hcell j hj', hj']
      · simp [World.frozen?, e0]
    refine (AnyG.slices_Sort_int Tryz.sortI (ρ o) (0 * 1) c l w hH (s.lt ho (by simp)) (by omega)).mono ?_
    rintro e w' ⟨rfl, n, os, rfl⟩
    rw [mergeSort_sortI]
    have hb : ρ o < w.heap.size := s.lt ho (by simp)
    have hsz2 : (putRow (Value.int .i64) (Sort.ahead w n) (ρ o) (0 * 1) (sortI l).toArray).heap.size = w.heap.size := by simp [Sort.ahead]
    have hsame : ∀ b, b < w.heap.size → b ≠ ρ o → (grow (putRow (Value.int .i64) (Sort.ahead w n) (ρ o) (0 * 1) (sortI l).toArray) os).heap[b]? = w.heap[b]? := by
      intro b h1 h2
      rw [heap_grow_old _ _ (by rw [hsz2]; exact h1), Nat.zero_mul, heap_putRow_other h2]; rfl
    have hnew : (grow (putRow (Value.int .i64) (Sort.ahead w n) (ρ o) (0 * 1) (sortI l).toArray) os).heap[ρ o]? = some (.cells (putCells (Value.int .i64) 0 (sortI l).toArray arr) ta (0, 0)) := by
      rw [heap_grow_old _ _ (by rw [hsz2]; exact hb), Nat.zero_mul, heap_putRow_same (w := Sort.ahead w n) e0]
    have hput := sim_put (w' := grow (putRow (Value.int .i64) (Sort.ahead w n) (ρ o) (0 * 1) (sortI l).toArray) os) (es' := (sortI l).map vint) s ho (.inl rfl) (by rw [size_grow, hsz2]; omega) hsame (by simp [sortI_length]) (fun _ => ⟨rfl, by rw [shape_at hnew, shape_at e0]; simp [putCells]⟩) hnew
      (by simp [sortI_length, putCells]; exact hlen) (by intro e he; obtain ⟨y, _, rfl⟩ := List.mem_map.1 he; rfl) (by
        intro i e j x h1 h2
        rw [List.getElem?_map] at h1
        obtain ⟨y, hy, rfl⟩ := Option.map_eq_some_iff.1 h1
        have hi : i < (sortI l).length := (List.getElem?_eq_some_iff.1 hy).1
        have hi2 : i < l.length := by rw [← sortI_length l]; exact hi
        obtain ⟨rfl, rfl⟩ : j = 0 ∧ x = vint y := by
          match j with
          | 0 => simp at h2; exact ⟨rfl, h2.symm⟩
          | j + 1 => simp at h2
        refine ⟨.int .i64 y, ?_, .i _ _⟩
        have h5 : i < arr.size := by omega
        have h6 : ∀ (q : Array Int), i < q.size → q[i]? = some y → q[i]! = y := fun q h7 h8 => by rw [getElem!_pos q i h7]; rw [Array.getElem?_eq_getElem h7] at h8; exact Option.some.inj h8
        simp only [putCells, Nat.mul_one, Nat.add_zero]
        rw [Array.getElem?_mapIdx, Array.getElem?_eq_getElem h5]
        simp only [Option.map_some]
        rw [if_pos ⟨Nat.zero_le _, by simp; exact hi⟩]
        rw [Nat.sub_zero, h6 _ (by simp; exact hi) (by simp; exact hy)])
    refine ⟨.tuple #[], .tup [], _, _, rfl, ?_, hput.1, hput.2, rfl, rfl⟩
    exact .tup _ _ rfl (by simp)

theorem slices_Sort_none (H : List Obj) (x : V) (hx : x = .emp) :
    Fn Tryz.prog 74 [x] H fun r H' => r = .tup [] ∧ H' = H := by
  subst hx
  refine ⟨by kernel_rfl, fun w ρ vs s hv => ?_⟩
  obtain ⟨hn, hv⟩ := hv
  obtain ⟨v, rfl⟩ : ∃ v, vs = #[v] := by
    rcases vs with ⟨_ | ⟨v, _ | _⟩⟩ <;> simp at hn
    exact ⟨v, rfl⟩
  have hx := hv 0 _ v rfl rfl
  cases hx with
  | emp a =>
    refine (AnyG.slices_Sort_int_none Tryz.sortI a 0 w).mono ?_
    rintro e w' ⟨rfl, rfl⟩
    exact ⟨.tuple #[], .tup [], ρ, H, rfl, .tup _ _ rfl (by simp), s, .refl _ _ _, rfl, rfl⟩

end Go.TL
