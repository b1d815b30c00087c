/- Numbers that are watched: walks. -/
import Derived.Test.YtofeaajoohiijaaGreatRb
import Derived.Test.YtofeaajoohiijaaGreatMb
namespace Go.TL
open Go Go.Proofs

theorem ints_small (l : List Int) (hl : l.length ≤ lim) : Pure Tryz.prog 131 [encInts l] (.b (l.all smallM)) := by
  unfold lim at hl
  refine Pure.of' (.b _) fun H => go131 (by simp) ?_
  unfold Tryz.f131
  simp
  refine AWP.loopC (fun n σ H' => ∃ k : Nat, k ≤ l.length ∧ n = l.length - k ∧ H' = H ∧ σ 5 = encInts l ∧ σ 6 = vint l.length ∧ σ 7 = vint k ∧ (l.take k).all smallM = true) l.length ⟨0, by simp [vint, encInts]⟩ ?_
  rintro n σ H' ⟨k, hk, rfl, rfl, h0, h1, h5, hv⟩
  by_cases hlt : k < l.length
  · have hg : l[k]? = some l[k] := List.getElem?_eq_getElem hlt
    simp [h0, h1, h5, encInts, vint, hlt, hg, wrap_succ hlt (by omega)]
    have hs : smallM l[k] = (decide (-4611686018427387904 ≤ l[k]) && decide (l[k] ≤ 4611686018427387904)) := rfl
    by_cases h1 : -4611686018427387904 ≤ l[k]
    · rw [if_pos h1, if_pos h1, if_neg (by omega)]
      split
      · rename_i h2
        exact ⟨_, List.getElem_mem hlt, by rw [hs]; simp; omega⟩
      · rename_i h2
        refine ⟨l.length - (k + 1), by omega, k + 1, by omega, rfl, rfl, fun x hx => ?_⟩
        rw [List.take_succ_eq_append_getElem hlt, List.mem_append] at hx
        rcases hx with hx | hx
        · exact List.all_eq_true.1 hv x hx
        · simp at hx; subst hx; rw [hs]; simp; omega
    · rw [if_neg h1]
      exact ⟨by omega, _, List.getElem_mem hlt, by rw [hs]; simp; omega⟩
  · simp [h0, h1, h5, vint, hlt]
    obtain rfl : k = l.length := by omega
    simpa using hv

theorem u64_wrap (n : Int) : IntKind.u64.wrap n = n % 18446744073709551616 := by
  have e1 : IntKind.u64.bits = 64 := rfl
  have e2 : IntKind.u64.signed = false := rfl
  simp only [IntKind.wrap, e1, e2]
  simp

theorem and32 (x : Nat) : x &&& 4294967295 = x % 4294967296 := by
  have := Nat.and_two_pow_sub_one_eq_mod x 32
  simpa using this

theorem ints_size (n : Int) (h : smallM n = true) : Pure Tryz.prog 133 [vint n] (.i .u64 n.natAbs) := by
  simp [smallM] at h
  refine Pure.of' (.i _ _) fun H => go133 (by simp) ?_
  unfold Tryz.f133
  simp [vint, u64_wrap]
  split <;> omega

theorem mul64 (x y : Nat) (hx : x ≤ 4611686018427387904) (hy : y ≤ 4611686018427387904) : Pure Tryz.prog 132 [.i .u64 x, .i .u64 y] (.tup [.i .u64 ((x * y / 18446744073709551616 : Nat) : Int), .i .u64 ((x * y % 18446744073709551616 : Nat) : Int)]) := by
  refine Pure.of' (.tup _ (by simp [closed_i])) fun H => go132 (by simp) ?_
  unfold Tryz.f132
  simp
  have e1 : IntKind.u64.bits = 64 := rfl
  have e2 : ∀ a : Int, a.fdiv (2 ^ min 32 64) = a / 4294967296 := fun a => Int.fdiv_eq_ediv_of_nonneg _ (by decide)
  simp only [e1, u64_wrap, e2]
  have e3 : ∀ a : Nat, (a % 2 ^ 64 &&& 4294967295 % 2 ^ 64 : Nat) = a % 4294967296 := fun a => by
    have : (4294967295 % 2 ^ 64 : Nat) = 4294967295 := by decide
    rw [this, and32]; omega
  have e4 : ∀ a : Nat, (a &&& 4294967295 % 2 ^ 64 : Nat) = a % 4294967296 := fun a => by
    have : (4294967295 % 2 ^ 64 : Nat) = 4294967295 := by decide
    rw [this, and32]
  simp only [e3, e4]
  refine ⟨?_, trivial⟩
  obtain ⟨x0, hx0⟩ : ∃ x0, x % 4294967296 = x0 := ⟨_, rfl⟩
  obtain ⟨x1, hx1⟩ : ∃ x1, x / 4294967296 = x1 := ⟨_, rfl⟩
  obtain ⟨y0, hy0⟩ : ∃ y0, y % 4294967296 = y0 := ⟨_, rfl⟩
  obtain ⟨y1, hy1⟩ : ∃ y1, y / 4294967296 = y1 := ⟨_, rfl⟩
  have hxe : x = x1 * 4294967296 + x0 := by omega
  have hye : y = y1 * 4294967296 + y0 := by omega
  have hprod : x * y = x1 * y1 * 18446744073709551616 + (x1 * y0 + x0 * y1) * 4294967296 + x0 * y0 := by
    rw [hxe, hye]; grind
  have b1 : x1 * y1 ≤ 4294967295 * 4294967295 := Nat.mul_le_mul (by omega) (by omega)
  have b2 : x1 * y0 ≤ 4294967295 * 4294967295 := Nat.mul_le_mul (by omega) (by omega)
  have b3 : x0 * y1 ≤ 4294967295 * 4294967295 := Nat.mul_le_mul (by omega) (by omega)
  have b4 : x0 * y0 ≤ 4294967295 * 4294967295 := Nat.mul_le_mul (by omega) (by omega)
  have hX : (x : Int) / 4294967296 = (x1 : Int) := by omega
  have hY : (y : Int) / 4294967296 = (y1 : Int) := by omega
  have m1 : (x0 : Int) % 18446744073709551616 = x0 := by omega
  have m2 : (y0 : Int) % 18446744073709551616 = y0 := by omega
  have hxy : (x : Int) * y = ((x * y : Nat) : Int) := by simp
  have p1 : (x1 : Int) * y1 = ((x1 * y1 : Nat) : Int) := by simp
  have p2 : (x1 : Int) * y0 = ((x1 * y0 : Nat) : Int) := by simp
  have p3 : (x0 : Int) * y1 = ((x0 * y1 : Nat) : Int) := by simp
  have p4 : (x0 : Int) * y0 = ((x0 * y0 : Nat) : Int) := by simp
  rw [hx0, hy0, hX, hY, m1, m2, hxy, p1, p2, p3, p4, hprod]
  generalize x1 * y1 = A at *
  generalize x1 * y0 = B at *
  generalize x0 * y1 = C at *
  generalize x0 * y0 = D at *
  clear hprod hxy p1 p2 p3 p4 hxe hye
  omega

theorem ints_Mul (a b : Int) : Pure Tryz.prog 111 [vint a, vint b] (.tup [vint (mulM a b).1, .b (mulM a b).2]) := by
  refine Pure.of' (.tup _ (by simp [vint, closed_i, closed_b])) fun H => go111 (by simp) ?_
  unfold Tryz.f111
  have h1 := ints_small [a, b] (by simp [lim])
  simp only [encInts, List.map_cons, List.map_nil, vint] at h1
  simp [vint, List.range'_succ]
  refine h1.use ?_
  simp
  by_cases hs : smallM a = true ∧ smallM b = true
  · obtain ⟨ha, hb⟩ := hs
    simp [ha, hb]
    refine (ints_size a ha).use ?_
    simp
    refine (ints_size b hb).use ?_
    simp
    have ha' := ha; have hb' := hb
    simp [smallM] at ha' hb'
    refine (mul64 a.natAbs b.natAbs (by omega) (by omega)).use ?_
    simp
    obtain ⟨M, hM⟩ : ∃ M : Nat, a.natAbs * b.natAbs = M := ⟨_, rfl⟩
    have hMi : (a.natAbs : Int) * b.natAbs = M := by rw [← hM]; simp
    have hab : (a * b).natAbs = M := by rw [Int.natAbs_mul]; exact hM
    have hb1 : M ≤ 4611686018427387904 * 4611686018427387904 := hM ▸ Nat.mul_le_mul (by omega) (by omega)
    have hsg : a * b = if a < 0 ↔ b < 0 then (M : Int) else -M := by
      by_cases h1 : a < 0 <;> by_cases h2 : b < 0
      · have := Int.mul_pos_of_neg_of_neg h1 h2
        simp [h1, h2]; omega
      · have := Int.mul_nonpos_of_nonpos_of_nonneg (Int.le_of_lt h1) (Int.not_lt.1 h2)
        simp [h1, h2]; omega
      · have := Int.mul_nonpos_of_nonneg_of_nonpos (Int.not_lt.1 h1) (Int.le_of_lt h2)
        simp [h1, h2]; omega
      · have := Int.mul_nonneg (Int.not_lt.1 h1) (Int.not_lt.1 h2)
        simp [h1, h2]; omega
    rw [hMi]
    have hw : ∀ n : Int, -4611686018427387904 ≤ n → n ≤ 4611686018427387904 → IntKind.i64.wrap n = n := fun n h1 h2 => wrap_ok (by omega) (by omega)
    by_cases hbig : M ≤ 4611686018427387904
    · have hs' : smallM (a * b) = true := by simp [smallM]; omega
      have hm : mulM a b = (a * b, true) := by simp [mulM, ha, hb, hs']
      have h0 : (M : Int) / 18446744073709551616 = 0 := by omega
      have h1 : (M : Int) % 18446744073709551616 = M := by omega
      simp only [h0, h1, if_true, hm, and_true]
      rw [if_neg (by omega), hw M (by omega) (by omega), hw (-M) (by omega) (by omega), hsg]
      split <;> rfl
    · have hs' : smallM (a * b) = false := by simp [smallM]; omega
      have hm : mulM a b = (0, false) := by simp [mulM, hs']
      rw [hm]
      split
      · rename_i h0
        rw [if_pos (by omega)]
        exact ⟨rfl, rfl⟩
      · rename_i h0
        exact ⟨h0, rfl, rfl⟩
  · have hm : mulM a b = (0, false) := by
      unfold mulM
      rw [if_neg]
      simp
      intro h1 h2
      exact absurd ⟨h1, h2⟩ hs
    have : (smallM a && smallM b) = false := by
      cases h1 : smallM a <;> cases h2 : smallM b <;> simp [h1, h2] at hs ⊢
    simp [this, hm]
    exact fun h1 h2 => absurd ⟨h1, h2⟩ hs

end Go.TL
