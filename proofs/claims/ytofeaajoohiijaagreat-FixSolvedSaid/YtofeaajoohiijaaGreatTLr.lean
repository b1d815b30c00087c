/- The tree logic: a row's elements, many at once. -/
import Derived.Test.YtofeaajoohiijaaGreatTLq
namespace Go.TL
open Go

/-- Some elements that stand beside each other are replaced. -/
theorem sim_span {ρ : Nat → Nat} {H : List Obj} {w : World} (s : Sim ρ H w) {o k off : Nat} {es ys : List V} {arr : Array Value} {t : TypeId} {news : List Value} (ho : H[o]? = some (.row k es)) (e0 : w.heap[ρ o]? = some (.cells arr t (0, 0)))
    (hfit : off + ys.length ≤ es.length) (hl : news.length = ys.length * k) (hk : ∀ e ∈ ys, (cellsOf e).length = k)
    (hn : ∀ (i : Nat) e (j : Nat) x, ys[i]? = some e → (cellsOf e)[j]? = some x → ∃ v, news[i * k + j]? = some v ∧ VR w ρ H x v) :
    ∃ ρ', Sim ρ' (H.set o (.row k (es.take off ++ ys ++ es.drop (off + ys.length)))) (w.setRow (ρ o) (arr.toList.take (off * k) ++ news ++ arr.toList.drop (off * k + news.length)).toArray) ∧
      Evo w ρ H (w.setRow (ρ o) (arr.toList.take (off * k) ++ news ++ arr.toList.drop (off * k + news.length)).toArray) ρ' (H.set o (.row k (es.take off ++ ys ++ es.drop (off + ys.length)))) := by
  obtain ⟨arr0, tt, e0', f0, k0, c0⟩ := s.row o k es ho
  rw [e0] at e0'
  simp only [Option.some.injEq, Go.Obj.cells.injEq] at e0'
  obtain ⟨rfl, rfl, -⟩ := e0'
  have hmul : (off + ys.length) * k ≤ es.length * k := Nat.mul_le_mul_right _ hfit
  rw [Nat.add_mul] at hmul
  generalize harr : (arr.toList.take (off * k) ++ news ++ arr.toList.drop (off * k + news.length)).toArray = arr'
  have hsz : arr'.size = arr.size := by rw [← harr]; simp; omega
  have hget : ∀ q, arr'[q]? = if off * k ≤ q ∧ q < off * k + news.length then news[q - off * k]? else arr[q]? := by
    intro q
    rw [← harr]
    have := splice_get arr.toList (off * k) news (by simp; omega) q
    rw [List.getElem?_toArray, this]
    simp
  have hes : ∀ a, (es.take off ++ ys ++ es.drop (off + ys.length))[a]? = if off ≤ a ∧ a < off + ys.length then ys[a - off]? else es[a]? := fun a => splice_get es off ys hfit a
  refine ⟨_, sim_put (w' := w.setRow (ρ o) arr') s ho (es' := es.take off ++ ys ++ es.drop (off + ys.length)) (blk := ρ o) (arr := arr') (t := t) (.inl rfl)
    (by simp [World.setRow]) (fun b _ hb => setRow_other w _ b _ hb) (by simp; omega) (fun _ => ⟨rfl, by simp only [World.shape?]; rw [setRow_heap w _ arr arr' t (0, 0) e0, e0]; simp [hsz]⟩)
    (setRow_heap w _ arr arr' t (0, 0) e0) (by simp; rw [hsz, show min off es.length + (ys.length + (es.length - (off + ys.length))) = es.length by omega]; exact f0)
    (by
      intro y hy
      simp only [List.mem_append] at hy
      rcases hy with (hy | hy) | hy
      · exact k0 y (List.mem_of_mem_take hy)
      · exact hk y hy
      · exact k0 y (List.mem_of_mem_drop hy))
    (by
      intro a y b z hy hz
      rw [hes] at hy
      rw [hget]
      split at hy
      · rename_i ha
        have hyk := hk y (List.mem_of_getElem? hy)
        have hb : b < k := by rw [← hyk]; exact (List.getElem?_eq_some_iff.1 hz).1
        obtain ⟨u, hu, hv⟩ := hn _ _ _ _ hy hz
        obtain ⟨d, rfl⟩ : ∃ d, a = off + d := ⟨a - off, by omega⟩
        have hd : d < ys.length := by omega
        have h1 : (d + 1) * k ≤ ys.length * k := Nat.mul_le_mul_right _ hd
        rw [Nat.add_mul, Nat.one_mul] at h1
        have e1 : (off + d) * k = off * k + d * k := Nat.add_mul _ _ _
        rw [Nat.add_sub_cancel_left] at hu
        refine ⟨u, ?_, hv⟩
        rw [if_pos (by omega), ← hu]
        congr 1; omega
      · rename_i ha
        have hyk := k0 y (List.mem_of_getElem? hy)
        have hb : b < k := by rw [← hyk]; exact (List.getElem?_eq_some_iff.1 hz).1
        obtain ⟨u, hu, hv⟩ := c0 _ _ _ _ hy hz
        refine ⟨u, ?_, hv⟩
        rw [if_neg ?_]; · exact hu
        rintro ⟨q1, q2⟩
        apply ha
        refine ⟨?_, ?_⟩
        · rcases Nat.lt_or_ge a off with h | h
          · have := Nat.mul_le_mul_right k h
            rw [Nat.succ_mul] at this
            omega
          · exact h
        · rcases Nat.lt_or_ge a (off + ys.length) with h | h
          · exact h
          · have := Nat.mul_le_mul_right k h
            rw [Nat.add_mul] at this
            omega)⟩

def clearC (P : Program) (t : TypeId) (x : V) (H : List Obj) (K : V → List Obj → Prop) : Prop :=
  match selem P t with
  | some e =>
    match csz P e, zeroV P e with
    | some k, some z =>
      match x with
      | .emp => K (.tup []) H
      | .lst [] => K (.tup []) H
      | .sl o n off len _ =>
        match H[o]? with
        | some (.row k' es) => es.length = n ∧ k' = k ∧ boxable z = true ∧ (cellsOf z).length = k ∧ (cellsOf z).all storable = true ∧ off + len ≤ n ∧
          K (.tup []) (H.set o (.row k (es.take off ++ List.replicate len z ++ es.drop (off + len))))
        | _ => False
      | _ => False
    | _, _ => False
  | none => False

theorem run_clear {P : Program} {t ty : TypeId} {x : V} {w : World} {ρ : Nat → Nat} {H : List Obj} {K : V → List Obj → Prop} (s : Sim ρ H w) {v : Value} (hx : VR w ρ H x v) (h : clearC P t x H K) :
    ∃ y u w' ρ' H', (Builtin.clear_ #[t] ty #[v]).run P w = .ok u w' ∧ VR w' ρ' H' y u ∧ Sim ρ' H' w' ∧ Evo w ρ H w' ρ' H' ∧ K y H' := by
  have et : ∀ w' ρ' H', VR w' ρ' H' (.tup []) (.tuple #[]) := fun _ _ _ => .tup _ _ rfl (by simp)
  unfold clearC at h
  split at h
  · rename_i e he
    have hu := of_selem he
    have none_ : ∀ a c, (Builtin.clear_ #[t] ty #[.slice a 0 c]).run P w = .ok (.tuple #[]) w := by
      intro a c; cases a <;> simp [Builtin.clear_, run_underlying hu]
    split at h
    · rename_i k z hk hz
      split at h
      · cases hx with | emp a => exact ⟨_, _, w, ρ, H, none_ _ _, et _ _ _, s, .refl _ _ _, h⟩
      · cases hx with
        | lnil a c => exact ⟨_, _, w, ρ, H, none_ _ _, et _ _ _, s, .refl _ _ _, h⟩
        | lst _ _ _ _ _ _ hne => exact absurd rfl hne
      · rename_i o n off len cap
        split at h
        · rename_i k' es hr
          obtain ⟨hn, rfl, hzb, hzc, hzs, hle, hK⟩ := h
          cases hx with
          | sl _ _ _ _ _ _ ho h1 hh =>
            obtain ⟨c, tt, sz, rfl, a1, a2, a3, a4, a5, a6⟩ := (hh _ _ hr).2 hn
            by_cases h0 : len = 0
            · subst h0
              have : H.set o (.row k' (es.take off ++ List.replicate 0 z ++ es.drop (off + 0))) = H := by
                simp
                apply List.ext_getElem?
                intro j
                rw [List.getElem?_set]
                by_cases hj : o = j
                · subst hj
                  have : H[o] = .row k' es := by rw [List.getElem?_eq_getElem ho] at hr; exact Option.some.inj hr
                  simp [ho, this]
                · simp [hj]
              rw [this] at hK
              exact ⟨_, _, w, ρ, H, none_ _ _, et _ _ _, s, .refl _ _ _, hK⟩
            · obtain ⟨vz, hzr, hzVR⟩ := zero_run hz
              obtain ⟨z1, z2⟩ := (hzVR w ρ H).cells hzb
              rw [hzc] at z1
              obtain ⟨arr, t2, e0, f0, k0, c0⟩ := s.row o k' es hr
              have hmul : (off + len) * k' ≤ es.length * k' := Nat.mul_le_mul_right _ (by omega)
              rw [Nat.add_mul] at hmul
              let news : List Value := (Builtin.zeroCells vz.cells len).toList
              have hnews : ∀ q, q < len * k' → news[q]? = vz.cells[q % k']? := by
                intro q hq
                have hk0 : 0 < k' := by
                  rcases Nat.eq_zero_or_pos k' with h' | h'
                  · subst h'; simp at hq
                  · exact h'
                have hq' : q % k' < vz.cells.size := by rw [z1]; exact Nat.mod_lt _ hk0
                simp [news, Builtin.zeroCells, z1, hq]
                rw [getElem!_pos vz.cells _ hq', getElem?_pos vz.cells _ hq']
              have hnl : news.length = len * k' := by
                simp [news, Builtin.zeroCells, z1]
              have h1c : ∀ u ∈ news, u.oneCell' = true := by
                intro u hu
                obtain ⟨q, hq⟩ := List.mem_iff_getElem?.1 hu
                have hql : q < len * k' := by rw [← hnl]; exact (List.getElem?_eq_some_iff.1 hq).1
                rw [hnews q hql] at hq
                have hk0 : 0 < k' := by
                  rcases Nat.eq_zero_or_pos k' with h' | h'
                  · subst h'; simp at hql
                  · exact h'
                have hqk : q % k' < (cellsOf z).length := by rw [hzc]; exact Nat.mod_lt _ hk0
                obtain ⟨u', hu', hv'⟩ := z2 _ _ (List.getElem?_eq_getElem hqk)
                rw [hq] at hu'
                cases hu'
                exact hv'.one (by rw [List.all_eq_true] at hzs; exact hzs _ (List.getElem_mem hqk))
              have hrun := run_storeCells_at P (ρ o) (off * k') t2 news 0 arr w e0 (by omega) h1c
              simp only [Nat.add_zero] at hrun
              obtain ⟨ρ', s', g⟩ := sim_span (off := off) (ys := List.replicate len z) (news := news) s hr e0 (by simp; omega) (by simp [hnl]) (by intro a ha; rw [(List.mem_replicate.1 ha).2]; exact hzc)
                (by
                  intro a y j x h1 h2
                  rw [List.getElem?_replicate] at h1
                  split at h1
                  · rename_i ha
                    cases h1
                    have hj : j < k' := by rw [← hzc]; exact (List.getElem?_eq_some_iff.1 h2).1
                    obtain ⟨u, hu, hx⟩ := z2 j x h2
                    refine ⟨u, ?_, hx⟩
                    have hak : (a + 1) * k' ≤ len * k' := Nat.mul_le_mul_right _ ha
                    rw [Nat.add_mul, Nat.one_mul] at hak
                    rw [hnews _ (by omega)]
                    have : (a * k' + j) % k' = j := by rw [Nat.mul_comm, Nat.mul_add_mod]; exact Nat.mod_eq_of_lt hj
                    rw [this]; exact hu
                  · cases h1)
              simp only [List.length_replicate] at s' g
              refine ⟨_, .tuple #[], _, _, _, ?_, et _ _ _, s', g, hK⟩
              have hzr' := hzr w
              cases len with
              | zero => exact absurd rfl h0
              | succ len =>
                simp [Builtin.clear_, run_underlying hu, hzr']
                rw [show (Builtin.zeroCells vz.cells (len + 1)).toList = news from rfl, hrun, List.append_assoc]
                rfl
        · exact h.elim
      · exact h.elim
    · exact h.elim
  · exact h.elim

end Go.TL
