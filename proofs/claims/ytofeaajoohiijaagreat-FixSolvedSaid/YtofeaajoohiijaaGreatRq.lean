/- What all constraints tell: walked. -/
import Derived.Test.YtofeaajoohiijaaGreatRp
namespace Go.TL
open Go Go.Proofs
set_option maxRecDepth 4000

def chStep (U : List (Int × List Int)) (out now : List Dom) (op : List Int) (v : Int) : List Int := if at' out v = at' now v then op else ((uget U v).getD []).foldl addI op

def allQ (one : List Dom → Con → Option (Option (List Dom))) (l : List Con) (U : List (Int × List Int)) : Nat → List Dom → List Int → Option (Option (List Dom))
  | 0, _, _ => none
  | n + 1, out, op => match nextM l.length op with
    | none => some (some out)
    | some i => match one out (l.getD i.toNat default) with
      | none => none
      | some none => some none
      | some (some now) => allQ one l U n now ((upI out.length).foldl (chStep U out now) (op.erase i))

def allFixM (one : List Dom → Con → Option (Option (List Dom))) (l : List Con) (n : Nat) (d : List Dom) : Option (Option (List Dom)) :=
  if [] ∈ d then some none else allQ one l (begunM l) n d (upI l.length)

variable {H0 H : List Obj} {lv : V} {l : List Con} {oQ oO oU : Nat} {us : List (Int × V)} {op : List Int} {U : List (Int × List Int)}

theorem QInv.kill (h : QInv H0 H lv oQ oO oU us op U) {o : Nat} (ho : o < H0.length) : QInv (H0.set o .dead) (H.set o .dead) lv oQ oO oU us op U := by
  have key : ∀ {p : Nat} {ob : Obj}, H0.length ≤ p → H[p]? = some ob → (H.set o .dead)[p]? = some ob := by
    intro p ob hp hx; rw [List.getElem?_set_ne (by omega)]; exact hx
  refine ⟨key h.bq h.hq, key h.bo h.ho, key h.bu h.hu, ⟨h.use.no, fun v xs hx => ?_, h.use.inj⟩, h.ne, by simpa using h.bq, by simpa using h.bo, by simpa using h.bu, ?_⟩
  · obtain ⟨h1, p, h2, h3, h4⟩ := h.use.so v xs hx
    exact ⟨h1, p, h2, by simpa using h3, key h3 h4⟩
  · obtain ⟨n, rfl⟩ := h.pre
    exact ⟨n, List.set_append_left _ _ ho⟩

theorem nextM_mem {n : Nat} {op : List Int} {i : Int} (h : nextM n op = some i) : 0 ≤ i ∧ i < n ∧ i ∈ op := by
  have h1 := List.find?_some h
  have h2 := List.mem_of_find?_eq_some h
  simp [upI] at h1 h2
  obtain ⟨a, ha, rfl⟩ := h2
  exact ⟨by omega, by omega, h1⟩

theorem fix_AllN (one : List Dom → Con → Option (Option (List Dom))) (l : List Con) (M n N : Nat) (d : List Dom) (r : Option (List Dom)) (hr : allFixM one l n d = some r) (good : List Dom → Prop) (hd0 : d.length ≤ lim) (hds : smallDoms d) (hd : [] ∉ d → good d)
    (hgood : ∀ d, good d → d.length = N ∧ smallDoms d) (hN : N ≤ lim)
    (hone : ∀ c ∈ l, ∀ d r, good d → one d c = some r → Pure Tryz.prog 11 [encDoms d, encCon c] (encTold r) ∧ ∀ now, r = some now → good now)
    (hl : l.length * M ≤ lim) (hM1 : 1 ≤ M) (hv : ∀ c ∈ l, c.vars.length + 1 ≤ M) (hv2 : M ≤ lim) (H : List Obj) (lv : V) (hlv : LV H lv l) :
    Fn Tryz.prog 9 [encDoms d, lv] H fun x G => (∃ news, G = H ++ news) ∧ Frz H.length G x (encTold r) := by
  have hbg := fun G hG => fix_begun l M hl hM1 hv hv2 G (hlv.more hG)
  have hU := (begunM_le l hv).mono hl
  have hl1 : l.length ≤ l.length * M := Nat.le_mul_of_pos_right _ hM1
  have hll : l.length ≤ lim := Nat.le_trans hl1 hl
  unfold lim at hd0 hN
  refine go9 (by simp) ?_
  unfold Tryz.f9
  simp
  refine AWP.loopC (fun m σ G => ∃ k : Nat, k ≤ d.length ∧ m = d.length - k ∧ Acc H 1 G (σ 6) ((d.take k).map encDom) ∧ ¬ [] ∈ d.take k ∧ σ 1 = lv ∧ σ 15 = encDoms d ∧ σ 16 = vint d.length ∧ σ 17 = vint k) d.length
    ⟨0, by omega, by simp, by simpa using Acc.nil _ 1, by simp, by simp [vint, encDoms]⟩ ?_
  rintro m σ G ⟨k, hk, rfl, hacc, hnn, h1, h15, h16, h17⟩
  by_cases hlt : k < d.length
  · have hL : lenV (σ 6) = k := by rw [hacc.lenV]; simp; omega
    simp [h1, h15, h16, h17, encDoms, encDom, vint, hlt]
    split
    · rename_i h
      have hm : [] ∈ d := h ▸ List.getElem_mem hlt
      unfold allFixM at hr
      rw [if_pos hm] at hr
      cases hr
      simp [encTold]
      exact ⟨hacc.pre, .tup2 .emp (.closed _ (.b _))⟩
    · rename_i h
      refine (clone_dom d[k] (Nat.le_trans (hds _ (List.getElem_mem hlt)).1 (by simp [lim]))).use ?_
      simp [hL]
      refine ⟨by omega, by omega, hacc.app (by simp) (by simp) fun x' G' hacc' _ _ => ?_⟩
      simp [h1, h15, h16, h17, vint, wrap_succ hlt (by omega)]
      refine ⟨d.length - (k + 1), by omega, k + 1, by omega, rfl, ?_, ?_, by simp [encDoms]⟩
      · rw [take_map_succ _ hlt]
        exact hacc'
      · rw [List.take_succ_eq_append_getElem hlt, List.mem_append]
        rintro (h' | h')
        · exact hnn h'
        · simp at h'; exact h (by first | exact h' | exact h'.symm)
  · obtain rfl : k = d.length := by omega
    rw [List.take_length] at hnn hacc
    unfold allFixM at hr
    rw [if_neg hnn] at hr
    simp [h1, h15, h16, h17, vint]
    refine (hbg G hacc.pre).mono fun x G1 hx => ?_
    obtain ⟨oQ, oO, oU, us, rfl, hq⟩ := hx
    simp
    -- the domains become a list
    rcases hacc.row with ⟨hnil, hx⟩ | ⟨o, ho1, ho2, hx⟩
    case' inl =>
      refine AWP.freezeE 6 (by simp [hx]) ?_
      rw [show ([] : List V) = d.map encDom from hnil.symm]
      have hpre := hacc.pre
      have hq2 := hq
    case' inr =>
      have hol : o < G.length := (List.getElem?_eq_some_iff.1 ho2).1
      have hrow : G1[o]? = some (.row 1 (d.map encDom)) := by obtain ⟨m, rfl⟩ := hq.pre; rw [List.getElem?_append_left hol]; exact ho2
      refine AWP.freeze 6 o (n := d.length) (es := d.map encDom) (by simp [hx]) hrow (by simp) ?_
      have hpre := pre_set hacc.pre ho1 .dead
      have hq2 := hq.kill hol
      generalize G1.set o .dead = G1 at hq2 ⊢
      generalize G.set o .dead = G at hq2 hpre
      clear hq hrow hacc
    all_goals
      refine AWP.loopC (fun m σ' G' => ∃ (out : List Dom) (op : List Int), allQ one l (begunM l) m out op = some r ∧ good out ∧ QInv G G' lv oQ oO oU us op (begunM l) ∧ σ' 1 = lv ∧ σ' 6 = encDoms out ∧ σ' 9 = .ptr oQ 1 0 0) n ⟨d, _, hr, hd hnn, hq2, by simp [h1, encDoms]⟩ ?_
      rintro m σ' G' ⟨out, op, hr', hgd, hq', g1, g6, g9⟩
      have hG := hgood out hgd
      have hlvG := hlv.more hpre
      have hpre' : ∃ news, G' = H ++ news := by
        obtain ⟨n1, e1⟩ := hpre; obtain ⟨n2, e2⟩ := hq'.pre; exact ⟨n1 ++ n2, by rw [e2, e1, List.append_assoc]⟩
      cases m with
      | zero => cases hr'
      | succ m =>
        unfold allQ at hr'
        simp [g1, g6, g9]
        refine (fix_next hll hlvG hq').mono fun x G3 hx => ?_
        rcases hn : nextM l.length op with _ | i
        · rw [hn] at hr' hx
          obtain ⟨rfl, rfl⟩ := hx
          cases hr'
          simp [g6, encTold]
          obtain ⟨n1, e1⟩ := hpre
          obtain ⟨n2, e2⟩ := hq'.pre
          exact ⟨⟨n1 ++ n2, by rw [e2, e1, List.append_assoc]⟩, .closed _ (closed_encTold (some out))⟩
        · rw [hn] at hr' hx
          obtain ⟨rfl, rfl⟩ := hx
          obtain ⟨hi0, hi1, _⟩ := nextM_mem hn
          have hil : i.toNat < l.length := by omega
          have hci : l.getD i.toNat default = l[i.toNat] := by rw [List.getD_eq_getElem?_getD, List.getElem?_eq_getElem hil]; rfl
          have hcm := List.getElem_mem hil
          simp only [hci] at hr'
          obtain ⟨c, hc⟩ : ∃ c, l[i.toNat] = c := ⟨_, rfl⟩
          rw [hc] at hr' hcm
          have hq1 := hq'.setOp (op.erase i)
          rcases ho : one out c with _ | now
          · rw [ho] at hr'; cases hr'
          · rw [ho] at hr'
            obtain ⟨hP, hgn⟩ := hone c hcm out now hgd ho
            have hpre1 : ∃ news, G'.set oO (.map (imap (seenV (op.erase i)))) = H ++ news := by
              obtain ⟨n1, e1⟩ := hpre; obtain ⟨n2, e2⟩ := hq1.pre; exact ⟨n1 ++ n2, by rw [e2, e1, List.append_assoc]⟩
            have hrow := hlv.row hpre1
            generalize G'.set oO (.map (imap (seenV (op.erase i)))) = G4 at hq1 hpre1 hrow
            rcases hrow with hlc | ⟨oL, hLl, hlc, hrow⟩
            case' inl => simp [g1.trans hlc, g6, g9, vint, hi0, hi1, hc]
            case' inr => simp [g1.trans hlc, hrow, g6, g9, vint, hi0, hi1, hc]
            all_goals
              refine hP.use ?_
              cases now with
              | none =>
                cases hr'
                simp [encTold]
                obtain ⟨n1, e1⟩ := hpre
                obtain ⟨n2, e2⟩ := hq1.pre
                exact ⟨⟨n1 ++ n2, by rw [e2, e1, List.append_assoc]⟩, .tup2 .emp (.closed _ (.b _))⟩
              | some now =>
                simp only at hr'
                have hgn := hgn now rfl
                have hGn := hgood now hgn
                simp [encTold, g6]
                refine AWP.loopC (fun q σ2 G5 => ∃ (j : Nat) (op' : List Int), j ≤ out.length ∧ q = out.length - j ∧ ((upI out.length).drop j).foldl (chStep (begunM l) out now) op' = (upI out.length).foldl (chStep (begunM l) out now) (op.erase i) ∧ QInv G G5 lv oQ oO oU us op' (begunM l) ∧
                  σ2 1 = lv ∧ σ2 6 = encDoms out ∧ σ2 9 = .ptr oQ 1 0 0 ∧ σ2 12 = encDoms now ∧ σ2 52 = vint out.length ∧ σ2 53 = vint j) out.length ⟨0, op.erase i, by omega, by simp, by simp, hq1, by simp [vint, g1, g6, g9]⟩ ?_
                rintro q σ2 G5 ⟨j, op', hj, rfl, hf, hq5, k1, k6, k9, k12, k52, k53⟩
                by_cases hjt : j < out.length
                · have hjn : j < now.length := by omega
                  have hS := dom_Same out[j] now[j] (Nat.le_trans (hG.2 _ (List.getElem_mem hjt)).1 (by simp [lim]))
                  have hat : at' out (j : Int) = out[j] := by unfold at'; simp [hjt]
                  have hat2 : at' now (j : Int) = now[j] := by unfold at'; simp [hjn]
                  rw [upI_drop hjt, List.foldl_cons, chStep, hat, hat2] at hf
                  simp [k1, k6, k9, k12, k52, k53, vint, hjt]
                  refine AWP.drawL [] [] follows (by kernel_rfl) (by kernel_rfl) ?_
                  simp [k1, k6, k9, k12, k52, k53, encDoms, vint, hjt, hjn]
                  refine callE_use hS ?_
                  by_cases he : out[j] = now[j]
                  · rw [if_pos he] at hf
                    simp [k1, k6, k9, k12, k52, k53, vint, he, wrap_succ hjt (by omega)]
                    exact ⟨out.length - (j + 1), by omega, j + 1, by omega, rfl, op', hf, hq5, by simp [encDoms]⟩
                  · rw [if_neg he] at hf
                    simp [k1, k6, k9, k12, k52, k53, vint, he]
                    refine (fix_changed (j : Int) hU hq5).mono fun x G6 hx => ?_
                    obtain ⟨rfl, rfl⟩ := hx
                    simp [k1, k6, k9, k12, k52, k53, vint, wrap_succ hjt (by omega)]
                    exact ⟨out.length - (j + 1), by omega, j + 1, by omega, rfl, _, hf, hq5.setOp _, by simp [encDoms]⟩
                · obtain rfl : j = out.length := by omega
                  rw [List.drop_eq_nil_of_le (by simp [upI])] at hf
                  simp at hf
                  simp [k1, k6, k9, k12, k52, k53, vint]
                  exact ⟨m, by omega, now, op', by rw [hf]; exact hr', hgn, hq5, rfl⟩

theorem fix_All (one : List Dom → Con → Option (Option (List Dom))) (l : List Con) (M n N : Nat) (d : List Dom) (r : Option (List Dom)) (hr : allFixM one l n d = some r) (good : List Dom → Prop) (hd0 : d.length ≤ lim) (hds : smallDoms d) (hd : [] ∉ d → good d)
    (hgood : ∀ d, good d → d.length = N ∧ smallDoms d) (hN : N ≤ lim)
    (hone : ∀ c ∈ l, ∀ d r, good d → one d c = some r → Pure Tryz.prog 11 [encDoms d, encCon c] (encTold r) ∧ ∀ now, r = some now → good now)
    (hl : l.length * M ≤ lim) (hM1 : 1 ≤ M) (hv : ∀ c ∈ l, c.vars.length + 1 ≤ M) (hv2 : M ≤ lim) :
    Pure Tryz.prog 9 [encDoms d, encCons l] (encTold r) :=
  .of fun H => (fix_AllN one l M n N d r hr good hd0 hds hd hgood hN hone hl hM1 hv hv2 H (encCons l) (.inl rfl)).mono fun _ _ ⟨⟨n, hn⟩, h⟩ => ⟨n, hn, h⟩

end Go.TL
