/- The queue of constraints, and what all tell: walks. -/
import Derived.Test.YtofeaajoohiijaaGreatRo
namespace Go.TL
open Go Go.Proofs
set_option maxRecDepth 4000

variable {H0 H : List Obj} {lv : V} {l : List Con} {oQ oO oU : Nat} {us : List (Int × V)} {op : List Int} {U : List (Int × List Int)}

def nextM (n : Nat) (op : List Int) : Option Int := (upI n).find? fun i => decide (i ∈ op)

/-- Constraints that are read: a list, or an own row that stays. -/
def LV (H0 : List Obj) (lv : V) (l : List Con) : Prop := lv = encCons l ∨ ∃ o, lv = .sl o l.length 0 l.length none ∧ H0[o]? = some (.row 7 (l.map encCon))

theorem LV.lenC (h : LV H0 lv l) {G : List Obj} (hp : ∃ news, G = H0 ++ news) (P : Program) (t : TypeId) (K : V → Prop) (hs : (selem P t).isSome = true) : TL.lenC P t lv G K = K (.i .i64 l.length) := by
  rcases h with rfl | ⟨o, rfl, ho⟩
  · simp [hs]
  · obtain ⟨n, rfl⟩ := hp
    have : (H0 ++ n)[o]? = some (.row 7 (l.map encCon)) := by rw [List.getElem?_append_left (List.getElem?_eq_some_iff.1 ho).1]; exact ho
    simp [lenC_sl, hs, this]

theorem LV.row (h : LV H0 lv l) {G : List Obj} (hp : ∃ news, G = H0 ++ news) : lv = encCons l ∨ ∃ o, o < H0.length ∧ lv = .sl o l.length 0 l.length none ∧ G[o]? = some (.row 7 (l.map encCon)) := by
  rcases h with rfl | ⟨o, rfl, ho⟩
  · exact .inl rfl
  · obtain ⟨n, rfl⟩ := hp
    exact .inr ⟨o, (List.getElem?_eq_some_iff.1 ho).1, rfl, by rw [List.getElem?_append_left (List.getElem?_eq_some_iff.1 ho).1]; exact ho⟩

theorem LV.more (h : LV H0 lv l) {G : List Obj} (hp : ∃ news, G = H0 ++ news) : LV G lv l := by
  rcases h with rfl | ⟨o, rfl, ho⟩
  · exact .inl rfl
  · obtain ⟨n, rfl⟩ := hp
    exact .inr ⟨o, rfl, by rw [List.getElem?_append_left (List.getElem?_eq_some_iff.1 ho).1]; exact ho⟩

theorem LV.storable (h : LV H0 lv l) : TL.storable lv = true := by
  rcases h with rfl | ⟨o, rfl, ho⟩ <;> rfl
theorem LV.boxable (h : LV H0 lv l) : TL.boxable lv = true := by
  rcases h with rfl | ⟨o, rfl, ho⟩ <;> rfl
theorem LV.cells (h : LV H0 lv l) : cellsOf lv = [lv] := by
  rcases h with rfl | ⟨o, rfl, ho⟩ <;> rfl

theorem fix_next (hl : l.length ≤ lim) (hlv : LV H0 lv l) (h : QInv H0 H lv oQ oO oU us op U) :
    Fn Tryz.prog 21 [.ptr oQ 1 0 0] H fun x G => match nextM l.length op with
      | none => x = .tup [vint 0, .b false] ∧ G = H
      | some i => x = .tup [vint i, .b true] ∧ G = H.set oO (.map (imap (seenV (op.erase i)))) := by
  unfold lim at hl
  refine go21 (by simp) ?_
  unfold Tryz.f21
  have hlen := hlv.lenC h.pre Tryz.prog 23
  simp [h.hq, hlen]
  refine AWP.loopC (fun n σ G => ∃ k : Nat, k ≤ l.length ∧ n = l.length - k ∧ H = G ∧ nextM l.length op = ((upI l.length).drop k).find? (fun i => decide (i ∈ op)) ∧ σ 0 = .ptr oQ 1 0 0 ∧ σ 9 = vint l.length ∧ σ 10 = vint k) l.length ⟨0, by omega, by simp, rfl, by simp [nextM], by simp [vint]⟩ ?_
  rintro n σ G ⟨k, hk, rfl, rfl, hn, h0, h9, h10⟩
  by_cases hlt : k < l.length
  · rw [upI_drop hlt, List.find?_cons] at hn
    by_cases hm : (k : Int) ∈ op
    · simp [hm] at hn
      simp [h0, h9, h10, vint, hlt, h.hq, h.ho, h.ne, mres, hm, hn, idel_seenV]
    · simp [hm] at hn
      simp [h0, h9, h10, vint, hlt, h.hq, h.ho, h.ne, mres, hm, wrap_succ hlt (by omega)]
      exact ⟨l.length - (k + 1), by omega, k + 1, by omega, rfl, hn, by omega⟩
  · obtain rfl : k = l.length := by omega
    rw [List.drop_eq_nil_of_le (by simp [upI])] at hn
    simp at hn
    simp [h0, h9, h10, vint, hn]

theorem fix_changed (v : Int) (hU : ∀ v xs, uget U v = some xs → xs.length ≤ lim) (h : QInv H0 H lv oQ oO oU us op U) :
    Fn Tryz.prog 23 [.ptr oQ 1 0 0, vint v] H fun x G => x = .tup [] ∧ G = H.set oO (.map (imap (seenV (((uget U v).getD []).foldl addI op)))) := by
  refine go23 (by simp) ?_
  unfold Tryz.f23
  rcases hu : uget U v with _ | xs
  · have hn := h.use.no v hu
    simp [h.hq, h.hu, mres, hn, vint]
    refine AWP.loopC (fun n σ G => H = G ∧ σ 12 = vint 0 ∧ σ 13 = vint 0) 0 ⟨rfl, by simp [vint]⟩ ?_
    rintro n σ G ⟨rfl, h12, h13⟩
    simp [h12, h13, vint, set_self h.ho]
  · obtain ⟨hne, o, h2, h3, h4⟩ := h.use.so v xs hu
    have hxl := hU v xs hu
    unfold lim at hxl
    have hoO : o ≠ oO := by rintro rfl; rw [h.ho] at h4; cases h4
    simp [h.hq, h.hu, mres, h2, h4, vint]
    refine AWP.loopC (fun n σ G => ∃ k : Nat, k ≤ xs.length ∧ n = xs.length - k ∧ G = H.set oO (.map (imap (seenV ((xs.take k).foldl addI op)))) ∧ σ 0 = .ptr oQ 1 0 0 ∧ σ 11 = .sl o xs.length 0 xs.length none ∧ σ 12 = vint xs.length ∧ σ 13 = vint k) xs.length ⟨0, by omega, by simp, by simp [set_self h.ho], by simp [vint]⟩ ?_
    rintro n σ G ⟨k, hk, rfl, rfl, h0, h11, h12, h13⟩
    have hq := h.setOp ((xs.take k).foldl addI op)
    have hrow : (H.set oO (.map (imap (seenV ((xs.take k).foldl addI op)))))[o]? = some (.row 1 (xs.map vint)) := by rw [List.getElem?_set_ne (Ne.symm hoO)]; exact h4
    by_cases hlt : k < xs.length
    · have e : (xs.take (k + 1)).foldl addI op = addI ((xs.take k).foldl addI op) xs[k] := by rw [List.take_succ_eq_append_getElem hlt, List.foldl_append]; rfl
      simp [h0, h11, h12, h13, vint, hlt, hrow, hq.hq, hq.ho, wrap_succ hlt (by omega), iput_addI]
      exact ⟨xs.length - (k + 1), by omega, k + 1, by omega, rfl, by rw [e], by omega⟩
    · obtain rfl : k = xs.length := by omega
      simp [h0, h11, h12, h13, vint]

def begunF : Int → List Con → List (Int × List Int) → List (Int × List Int)
  | _, [], U => U
  | i, c :: l, U => begunF (i + 1) l ((usesM c).foldl (fun U v => uput U v i) U)
def begunM (l : List Con) : List (Int × List Int) := begunF 0 l []

theorem addI_upI (k : Nat) : addI (upI k) k = upI (k + 1) := by
  unfold addI
  rw [if_neg (by simp [upI]; intro x hx; omega)]
  simp [upI, List.range_succ]

theorem usesM_le (c : Con) : (usesM c).length ≤ c.vars.length + 1 := by
  unfold usesM
  refine Nat.le_trans (compactM_le _) ?_
  rw [sortI_length]; split <;> simp

/-- No list of uses is longer. -/
def ULe (N : Nat) (U : List (Int × List Int)) : Prop := ∀ v xs, uget U v = some xs → xs.length ≤ N

theorem ULe.put {N : Nat} {U : List (Int × List Int)} (h : ULe N U) (v i : Int) : ULe (N + 1) (uput U v i) := by
  intro w xs hw
  rw [uget_uput] at hw
  split at hw
  · cases hw
    rcases hu : uget U v with _ | ys
    · simp
    · have := h v ys hu; simp; omega
  · exact Nat.le_succ_of_le (h w xs hw)

theorem ULe.mono {N M : Nat} {U : List (Int × List Int)} (h : ULe N U) (hm : N ≤ M) : ULe M U := fun v xs hx => Nat.le_trans (h v xs hx) hm

theorem ULe.fold (i : Int) : ∀ (ws : List Int) {N : Nat} {U : List (Int × List Int)}, ULe N U → ULe (N + ws.length) (ws.foldl (fun U v => uput U v i) U)
  | [], N, U, h => h
  | v :: ws, N, U, h => by
    have := ULe.fold i ws (h.put v i)
    rw [List.foldl_cons]
    exact this.mono (by simp; omega)

theorem begunF_le {M : Nat} : ∀ (l : List Con) (i : Int) {N : Nat} {U : List (Int × List Int)}, (∀ c ∈ l, c.vars.length + 1 ≤ M) → ULe N U → ULe (N + l.length * M) (begunF i l U)
  | [], i, N, U, _, h => by simpa [begunF] using h
  | c :: l, i, N, U, hM, h => by
    have h1 := ULe.fold i (usesM c) h
    have h2 := begunF_le l (i + 1) (N := N + M) (fun c hc => hM c (by simp [hc])) (h1.mono (by have := usesM_le c; have := hM c (by simp); omega))
    unfold begunF
    exact h2.mono (by simp only [List.length_cons, Nat.add_mul, Nat.one_mul]; omega)

theorem begunM_le {M : Nat} (l : List Con) (hM : ∀ c ∈ l, c.vars.length + 1 ≤ M) : ULe (l.length * M) (begunM l) := by
  have := begunF_le (N := 0) (U := []) l 0 hM (fun v xs h => by cases h)
  unfold begunM
  simpa using this

theorem lenV_uses (h : QInv H0 H lv oQ oO oU us op U) {N : Nat} (hN : ULe N U) (v : Int) : lenV ((iget us v).getD .emp) ≤ N := by
  rcases hu : uget U v with _ | xs
  · rw [h.use.no v hu]; simp
  · obtain ⟨_, o, h2, _⟩ := h.use.so v xs hu
    rw [h2]; exact hN v xs hu

theorem fix_begun (l : List Con) (M : Nat) (hl : l.length * M ≤ lim) (hM1 : 1 ≤ M) (hv : ∀ c ∈ l, c.vars.length + 1 ≤ M) (hv2 : M ≤ lim) (H : List Obj) (hlv : LV H lv l) :
    Fn Tryz.prog 20 [lv] H fun x G => ∃ oQ oO oU us, x = .ptr oQ 1 0 0 ∧ QInv H G lv oQ oO oU us (upI l.length) (begunM l) := by
  have hl1 : l.length ≤ l.length * M := Nat.le_mul_of_pos_right _ hM1
  unfold lim at hl hv2
  refine go20 (by simp) ?_
  unfold Tryz.f20
  have hlen := fun (G : List Obj) (hp : ∃ news, G = H ++ news) K => hlv.lenC hp Tryz.prog 23 K (by simp)
  simp [hlv.storable, hlv.boxable, hlv.cells, hlen]
  refine AWP.loopC (fun n σ G => ∃ (k : Nat) (us : List (Int × V)) (U : List (Int × List Int)), k ≤ l.length ∧ n = l.length - k ∧ begunF k (l.drop k) U = begunM l ∧ QInv H G lv (H.length + 2) H.length (H.length + 1) us (upI k) U ∧ ULe (k * M) U ∧
    σ 3 = .ptr (H.length + 2) 1 0 0 ∧ σ 13 = lv ∧ σ 14 = vint l.length ∧ σ 15 = vint k) l.length
    ⟨0, [], [], by omega, by simp, by simp [begunM], ⟨app_at 2, app_at 0, app_at 1, ⟨fun _ _ => rfl, fun v xs h => by simp [uget] at h, fun v v' o n n' h => by simp [iget] at h⟩, by omega, by omega, by omega, by omega, _, rfl⟩, (fun v xs h => by cases h), by simp [vint]⟩ ?_
  rintro n σ G ⟨k, us, U, hk, rfl, hU, hq, hle, h3, h13, h14, h15⟩
  by_cases hlt : k < l.length
  · obtain ⟨c, hc⟩ : ∃ c, l[k] = c := ⟨_, rfl⟩
    have hcl := hv c (hc ▸ List.getElem_mem hlt)
    have hul := usesM_le c
    have hkm : (k + 1) * M ≤ l.length * M := Nat.mul_le_mul_right _ hlt
    rw [Nat.add_mul, Nat.one_mul] at hkm
    rw [List.drop_eq_getElem_cons hlt, hc, begunF] at hU
    have hq1 := (hq.more [.row 7 [encCon c]]).setOp (upI (k + 1))
    have hq0 := hq.more [.row 7 [encCon c]]
    have hbox : (G ++ [Go.TL.Obj.row 7 [encCon c]])[G.length]? = some (.row 7 [encCon c]) := by simp
    have hOG : H.length ≠ G.length := by have := (List.getElem?_eq_some_iff.1 hq.ho).1; omega
    have hbox1 : ((G ++ [Go.TL.Obj.row 7 [encCon c]]).set H.length (.map (imap (seenV (upI (k + 1))))))[G.length]? = some (.row 7 [encCon c]) := by rw [List.getElem?_set_ne hOG]; exact hbox
    have hX : V.agg [V.i .i64 c.kind, encInts c.vars, encInts c.coefs, V.i .i64 c.op, V.i .i64 c.rhs, encRows c.rows, V.i .i64 c.b] = encCon c := rfl
    have hbox2 := (List.getElem?_eq_some_iff.1 hbox1).2
    rcases hlv.row hq.pre with hlc | ⟨oL, hLl, hlc, hrow⟩
    case' inl => simp [h3, h13.trans hlc, h14, h15, vint, hlt, hc, hX, hq0.hq, hq0.ho, iput_addI, addI_upI, hbox2]
    case' inr => simp [hrow, h3, h13.trans hlc, h14, h15, vint, hlt, hc, hX, hq0.hq, hq0.ho, iput_addI, addI_upI, hbox2]
    all_goals
      refine (model_Uses c (by simp [lim]; omega)).use ?_
      generalize (G ++ [Go.TL.Obj.row 7 [encCon c]]).set H.length (.map (imap (seenV (upI (k + 1))))) = G0 at hq1
      simp [h3, h13, h14, h15]
      generalize usesM c = ws at hul hU
      refine AWP.loopC (fun n' σ' G' => ∃ (j : Nat) (us' : List (Int × V)) (U' : List (Int × List Int)), j ≤ ws.length ∧ n' = ws.length - j ∧ (ws.drop j).foldl (fun U v => uput U v k) U' = ws.foldl (fun U v => uput U v k) U ∧ QInv H G' lv (H.length + 2) H.length (H.length + 1) us' (upI (k + 1)) U' ∧ ULe (k * M + j) U' ∧
        σ' 3 = .ptr (H.length + 2) 1 0 0 ∧ σ' 4 = vint k ∧ σ' 13 = lv ∧ σ' 14 = vint l.length ∧ σ' 15 = vint k ∧ σ' 26 = encInts ws ∧ σ' 27 = vint ws.length ∧ σ' 28 = vint j) ws.length ⟨0, us, U, by omega, by simp, by simp, hq1, hle, by simp [vint, encCons, h3, h13, h14, h15]⟩ ?_
      rintro n' σ' G' ⟨j, us', U', hj, rfl, hf, hq', hle', g3, g4, g13, g14, g15, g26, g27, g28⟩
      by_cases hjt : j < ws.length
      · obtain ⟨v, hv⟩ : ∃ v, ws[j] = v := ⟨_, rfl⟩
        rw [List.drop_eq_getElem_cons hjt, hv, List.foldl_cons] at hf
        have hp := hq'.put v k
        simp [g3, g4, g13, g14, g15, g26, g27, g28, encInts, vint, hjt, hv]
        refine AWP.drawL [13, 14] [1, 2, 3, 6, 7, 8] follows (by kernel_rfl) (by kernel_rfl) ?_
        simp [g3, g4, g13, g14, g15, g26, g27, g28, encInts, vint, hjt, hv, hq'.hq, hq'.hu, mres, List.range'_succ]
        have hlv := lenV_uses hq' hle' v
        refine ⟨by omega, by omega, appendV_mono hp fun x' G2 hx => ?_⟩
        obtain ⟨hu2, hq2⟩ := hx
        have hQ2 : G2[H.length + 2]? = some (.row 3 [.agg [lv, .map H.length, .map (H.length + 1)]]) := by
          have := hq2.hq; rwa [List.getElem?_set_ne (by omega)] at this
        simp [g3, g4, g13, g14, g15, g26, g27, g28, vint, hu2, hQ2, wrap_succ hjt (by omega)]
        exact ⟨ws.length - (j + 1), by omega, j + 1, by omega, rfl, iput us' v x', uput U' v k, hf, hq2, hle'.put v k, by simp [encInts]⟩
      · obtain rfl : j = ws.length := by omega
        simp at hf
        simp [g3, g4, g13, g14, g15, g26, g27, g28, vint, wrap_succ hlt (by omega)]
        refine ⟨l.length - (k + 1), by omega, k + 1, by omega, rfl, us', U', by rw [hf]; exact hU, hq', hle'.mono (by rw [Nat.add_mul, Nat.one_mul]; omega), by simp [encCons]⟩
  · obtain rfl : k = l.length := by omega
    rw [List.drop_eq_nil_of_le (Nat.le_refl _)] at hU
    simp [begunF] at hU
    subst hU
    simp [h3, h13, h14, h15, vint]
    exact ⟨_, _, _, hq⟩

end Go.TL
