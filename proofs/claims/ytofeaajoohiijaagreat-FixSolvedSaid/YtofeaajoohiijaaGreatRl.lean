/- All others: values for variables: walks. -/
import Derived.Test.YtofeaajoohiijaaGreatRk
namespace Go.TL
open Go Go.Proofs
set_option maxRecDepth 4000

structure MS where
  seen : List Int
  by_ : List (Int × Int)

def bget : List (Int × Int) → Int → Option Int
  | [], _ => none
  | e :: l, n => if n = e.1 then some e.2 else bget l n
def bput : List (Int × Int) → Int → Int → List (Int × Int)
  | [], n, x => [(n, x)]
  | e :: l, n, x => if n = e.1 then (e.1, x) :: l else e :: bput l n x

def seenV (l : List Int) : List (Int × V) := l.map fun v => (v, V.b true)
def byV (l : List (Int × Int)) : List (Int × V) := l.map fun p => (p.1, vint p.2)

@[simp] theorem iget_seenV (n : Int) : ∀ l, iget (seenV l) n = if n ∈ l then some (.b true) else none
  | [] => rfl
  | e :: l => by
    have h := iget_seenV n l
    simp only [seenV, List.map_cons, iget] at h ⊢
    by_cases hn : n = e
    · simp [hn]
    · rw [if_neg hn, h]; simp [hn]
theorem iput_seenV (n : Int) : ∀ l, n ∉ l → iput (seenV l) n (.b true) = seenV (l ++ [n])
  | [], _ => rfl
  | e :: l, h => by
    simp at h
    have ih := iput_seenV n l h.2
    simp only [seenV, List.map_cons, iput, List.cons_append] at ih ⊢
    rw [if_neg h.1, ih]
@[simp] theorem iget_byV (n : Int) : ∀ l, iget (byV l) n = (bget l n).map vint
  | [] => rfl
  | e :: l => by
    have h := iget_byV n l
    simp only [byV, List.map_cons, iget, bget] at h ⊢
    by_cases hn : n = e.1 <;> simp [hn, h]
@[simp] theorem iput_byV (n x : Int) : ∀ l, iput (byV l) n (.i .i64 x) = byV (bput l n x)
  | [] => rfl
  | e :: l => by
    have h := iput_byV n x l
    simp only [byV, List.map_cons, iput, bput] at h ⊢
    by_cases hn : n = e.1
    · simp [hn, vint]
    · rw [if_neg hn, if_neg hn, h]; rfl

def tryL (rec : Int → MS → Option (Bool × MS)) (i : Int) : List Int → MS → Option (Bool × MS)
  | [], s => some (false, s)
  | v :: vs, s =>
    if v ∈ s.seen then tryL rec i vs s
    else match bget s.by_ v with
      | none => some (true, ⟨s.seen ++ [v], bput s.by_ v i⟩)
      | some k => match rec k ⟨s.seen ++ [v], s.by_⟩ with
        | none => none
        | some (true, s2) => some (true, ⟨s2.seen, bput s2.by_ v i⟩)
        | some (false, s2) => tryL rec i vs s2

def rowAt (l : List (List Int)) (i : Int) : List Int := l.getD i.toNat []
def tryM (l : List (List Int)) : Nat → Int → MS → Option (Bool × MS)
  | 0, _, _ => none
  | n + 1, i, s => tryL (tryM l n) i (rowAt l i) s

structure TInv (H : List Obj) (l : List (List Int)) (oM oB oV oT oS oY : Nat) (s : MS) : Prop where
  hm : H[oM]? = some (.row 2 [.agg [encRows l, .map oY]])
  hb : H[oB]? = some (.row 1 [.ptr oM 1 0 0])
  hv : H[oV]? = some (.row 1 [.map oS])
  ht : H[oT]? = some (.row 1 [.clo 105 [.ptr oB 1 0 0, .ptr oV 1 0 0, .ptr oT 1 0 0]])
  hs : H[oS]? = some (.map (imap (seenV s.seen)))
  hy : H[oY]? = some (.map (imap (byV s.by_)))
  ne : oS ≠ oY

theorem TInv.seen {H : List Obj} {l : List (List Int)} {oM oB oV oT oS oY : Nat} {s : MS} (h : TInv H l oM oB oV oT oS oY s) (q : List Int) : TInv (H.set oS (.map (imap (seenV q)))) l oM oB oV oT oS oY ⟨q, s.by_⟩ := by
  have key : ∀ {o k : Nat} {es : List V}, H[o]? = some (Go.TL.Obj.row k es) → (H.set oS (.map (imap (seenV q))))[o]? = some (.row k es) := by
    intro o k es ho
    rw [List.getElem?_set_ne]; exact ho
    rintro rfl; rw [h.hs] at ho; cases ho
  refine ⟨key h.hm, key h.hb, key h.hv, key h.ht, by simp [(List.getElem?_eq_some_iff.1 h.hs).1], ?_, h.ne⟩
  rw [List.getElem?_set_ne h.ne]; exact h.hy

theorem TInv.by_ {H : List Obj} {l : List (List Int)} {oM oB oV oT oS oY : Nat} {s : MS} (h : TInv H l oM oB oV oT oS oY s) (q : List (Int × Int)) : TInv (H.set oY (.map (imap (byV q)))) l oM oB oV oT oS oY ⟨s.seen, q⟩ := by
  have key : ∀ {o k : Nat} {es : List V}, H[o]? = some (Go.TL.Obj.row k es) → (H.set oY (.map (imap (byV q))))[o]? = some (.row k es) := by
    intro o k es ho
    rw [List.getElem?_set_ne]; exact ho
    rintro rfl; rw [h.hy] at ho; cases ho
  refine ⟨key h.hm, key h.hb, key h.hv, key h.ht, ?_, by simp [(List.getElem?_eq_some_iff.1 h.hy).1], h.ne⟩
  rw [List.getElem?_set_ne h.ne.symm]; exact h.hs

/-- What became of the objects: the two maps alone may be others. -/
def TOut (H : List Obj) (oS oY : Nat) (s : MS) (G : List Obj) : Prop := G = (H.set oS (.map (imap (seenV s.seen)))).set oY (.map (imap (byV s.by_)))

theorem TOut.of {H : List Obj} {l : List (List Int)} {oM oB oV oT oS oY : Nat} {s : MS} (h : TInv H l oM oB oV oT oS oY s) : TOut H oS oY s H := by
  unfold TOut; rw [set_self h.hs, set_self h.hy]

theorem TOut.seen {H G : List Obj} {oS oY : Nat} {s : MS} (hne : oS ≠ oY) (h : TOut H oS oY s G) (q : List Int) : TOut H oS oY ⟨q, s.by_⟩ (G.set oS (.map (imap (seenV q)))) := by
  unfold TOut at *
  rw [h, List.set_comm _ _ hne.symm, List.set_set]

theorem TOut.by_ {H G : List Obj} {oS oY : Nat} {s : MS} (h : TOut H oS oY s G) (q : List (Int × Int)) : TOut H oS oY ⟨s.seen, q⟩ (G.set oY (.map (imap (byV q)))) := by
  unfold TOut at *
  rw [h, List.set_set]

theorem TOut.trans {H G G' : List Obj} {oS oY : Nat} {s s' : MS} (hne : oS ≠ oY) (h : TOut H oS oY s G) (h' : TOut G oS oY s' G') : TOut H oS oY s' G' := by
  unfold TOut at *
  rw [h', h, List.set_comm _ _ hne.symm, List.set_set, List.set_set]

theorem row_get {l : List (List Int)} {i : Int} (h0 : 0 ≤ i) (h1 : i < l.length) : l[i.toNat]? = some (rowAt l i) := by
  unfold rowAt
  rw [List.getD_eq_getElem?_getD, List.getElem?_eq_getElem (by omega)]; rfl
theorem row_getE {l : List (List Int)} {v : Int} {h : v.toNat < l.length} : l[v.toNat]'h = rowAt l v := by
  unfold rowAt
  rw [List.getD_eq_getElem?_getD, List.getElem?_eq_getElem h]
  rfl

/-- Who has values is among the variables. -/
def byOk (n : Nat) (s : MS) : Prop := ∀ p ∈ s.by_, 0 ≤ p.2 ∧ p.2 < n

theorem bget_mem : ∀ {l : List (Int × Int)} {v k : Int}, bget l v = some k → ∃ p ∈ l, p.2 = k
  | e :: l, v, k, h => by
    unfold bget at h
    split at h
    · cases h; exact ⟨e, by simp, rfl⟩
    · obtain ⟨p, hp, e2⟩ := bget_mem h
      exact ⟨p, by simp [hp], e2⟩
theorem bput_mem : ∀ {l : List (Int × Int)} {v k : Int} {p : Int × Int}, p ∈ bput l v k → p ∈ l ∨ p.2 = k
  | [], v, k, p, h => by simp [bput] at h; subst h; exact .inr rfl
  | e :: l, v, k, p, h => by
    unfold bput at h
    split at h
    · simp at h; rcases h with rfl | h
      · exact .inr rfl
      · exact .inl (by simp [h])
    · simp at h; rcases h with rfl | h
      · exact .inl (by simp)
      · rcases bput_mem h with h | h
        · exact .inl (by simp [h])
        · exact .inr h

theorem byOk_put {n : Nat} {s : List (Int × Int)} {q : List Int} {v i : Int} (h : ∀ p ∈ s, 0 ≤ p.2 ∧ p.2 < (n : Int)) (h0 : 0 ≤ i) (h1 : i < n) : byOk n ⟨q, bput s v i⟩ := by
  intro p hp
  rcases bput_mem hp with hp | hp
  · exact h p hp
  · rw [hp]; exact ⟨h0, h1⟩

theorem tryL_ok {m : Nat} {rec : Int → MS → Option (Bool × MS)} {i : Int} (h0 : 0 ≤ i) (h1 : i < m) (hrec : ∀ k s r, rec k s = some r → 0 ≤ k → k < m → byOk m s → byOk m r.2) : ∀ (vs : List Int) (s : MS) (r : Bool × MS), tryL rec i vs s = some r → byOk m s → byOk m r.2
  | [], s, r, h, hb => by simp [tryL] at h; subst h; exact hb
  | v :: vs, s, r, h, hb => by
    unfold tryL at h
    split at h
    · exact tryL_ok h0 h1 hrec vs s r h hb
    · split at h
      · cases h; exact byOk_put hb h0 h1
      · rename_i k hk
        obtain ⟨p, hp, rfl⟩ := bget_mem hk
        split at h
        · cases h
        · rename_i s2 e
          cases h
          exact byOk_put (hrec _ _ _ e (hb p hp).1 (hb p hp).2 hb) h0 h1
        · rename_i s2 e
          exact tryL_ok h0 h1 hrec vs s2 r h (hrec _ _ _ e (hb p hp).1 (hb p hp).2 hb)

theorem tryM_ok {l : List (List Int)} : ∀ (n : Nat) (i : Int) (s : MS) (r : Bool × MS), tryM l n i s = some r → 0 ≤ i → i < l.length → byOk l.length s → byOk l.length r.2
  | 0, _, _, _, h, _, _, _ => by cases h
  | n + 1, i, s, r, h, h0, h1, hb => tryL_ok h0 h1 (fun k s r => tryM_ok n k s r) _ s r h hb

theorem tryL_drop (rec : Int → MS → Option (Bool × MS)) (i : Int) (ws : List Int) (k : Nat) (s : MS) (h : k < ws.length) : tryL rec i (ws.drop k) s =
    if ws[k] ∈ s.seen then tryL rec i (ws.drop (k + 1)) s
    else match bget s.by_ ws[k] with
      | none => some (true, ⟨s.seen ++ [ws[k]], bput s.by_ ws[k] i⟩)
      | some q => match rec q ⟨s.seen ++ [ws[k]], s.by_⟩ with
        | none => none
        | some (true, s2) => some (true, ⟨s2.seen, bput s2.by_ ws[k] i⟩)
        | some (false, s2) => tryL rec i (ws.drop (k + 1)) s2 := by
  rw [List.drop_eq_getElem_cons h]; rfl

theorem give1 (l : List (List Int)) (hl : ∀ r ∈ l, r.length ≤ lim) : ∀ (n : Nat) (i : Int) (s : MS) (r : Bool × MS), tryM l n i s = some r → 0 ≤ i → i < l.length → byOk l.length s →
    ∀ (H : List Obj) (oM oB oV oT oS oY : Nat), TInv H l oM oB oV oT oS oY s →
    Fn Tryz.prog 105 [vint i, .ptr oB 1 0 0, .ptr oV 1 0 0, .ptr oT 1 0 0] H fun x G => x = .b r.1 ∧ TOut H oS oY r.2 G ∧ TInv G l oM oB oV oT oS oY r.2 := by
  intro n
  induction n with
  | zero => intro i s r h; cases h
  | succ n ih =>
    intro i s r hr h0 h1 hby H oM oB oV oT oS oY hinv
    have hri := row_get h0 h1
    obtain ⟨ws, hws⟩ : ∃ ws, rowAt l i = ws := ⟨_, rfl⟩
    have hwl : ws.length ≤ lim := by rw [← hws]; exact hl _ (List.mem_of_getElem? hri)
    unfold lim at hwl
    unfold tryM at hr
    rw [hws] at hr hri
    refine go105 (by simp) ?_
    unfold Tryz.f105
    have hil : i < l.length := h1
    simp [hinv.hb, hinv.hm, encRows, vint, h0, hil, row_getE, hws]
    refine AWP.loopC (fun n' σ G => ∃ (k : Nat) (s' : MS), k ≤ ws.length ∧ n' = ws.length - k ∧ tryL (tryM l n) i (ws.drop k) s' = some r ∧ byOk l.length s' ∧ TInv G l oM oB oV oT oS oY s' ∧ TOut H oS oY s' G ∧
      σ 0 = vint i ∧ σ 1 = .ptr oB 1 0 0 ∧ σ 2 = .ptr oV 1 0 0 ∧ σ 3 = .ptr oT 1 0 0 ∧ σ 16 = encInts ws ∧ σ 17 = vint ws.length ∧ σ 18 = vint k) ws.length ⟨0, s, by omega, by simp, by simpa using hr, hby, hinv, .of hinv, by simp [vint]⟩ ?_
    rintro n' σ G ⟨k, s', hk, rfl, hr', hby', hinv', hout, g0, g1, g2, g3, g16, g17, g18⟩
    by_cases hlt : k < ws.length
    · rw [tryL_drop _ _ _ _ _ hlt] at hr'
      obtain ⟨v, hv⟩ : ∃ v, ws[k] = v := ⟨_, rfl⟩
      have hg : ws[k]? = some v := by rw [← hv]; exact List.getElem?_eq_getElem hlt
      rw [hv] at hr'
      by_cases hs : v ∈ s'.seen
      · rw [if_pos hs] at hr'
        simp [g0, g1, g2, g3, g16, g17, g18, encInts, vint, hlt, hv, hinv'.hv, hinv'.hs, mres, hs, wrap_succ hlt (by omega)]
        exact ⟨ws.length - (k + 1), by omega, k + 1, by omega, rfl, s', hr', hby', hinv', hout, by simp [encInts]⟩
      · rw [if_neg hs] at hr'
        have hinv1 := hinv'.seen (s'.seen ++ [v])
        have hout1 := hout.seen hinv.ne (s'.seen ++ [v])
        have hip := iput_seenV v s'.seen hs
        rcases hb : bget s'.by_ v with _ | q
        · rw [hb] at hr'
          cases hr'
          simp [g0, g1, g2, g3, g16, g17, g18, encInts, vint, hlt, hv, hinv'.hv, hinv'.hs, mres, hs, hip, hinv1.hb, hinv1.hm, hinv1.hy, hb]
          exact ⟨hout1.by_ _, hinv1.by_ _⟩
        · rw [hb] at hr'
          obtain ⟨p, hp, rfl⟩ := bget_mem hb
          have hq := hby' p hp
          simp only at hr'
          rcases hrec : tryM l n p.2 ⟨s'.seen ++ [v], s'.by_⟩ with _ | ⟨t, s2⟩
          · rw [hrec] at hr'; cases hr'
          · rw [hrec] at hr'
            have hcall := ih p.2 _ _ hrec hq.1 hq.2 hby' _ oM oB oV oT oS oY hinv1
            have hok2 := tryM_ok n p.2 _ _ hrec hq.1 hq.2 hby'
            simp [g0, g1, g2, g3, g16, g17, g18, encInts, vint, hlt, hv, hinv'.hv, hinv'.hs, mres, hs, hip, hinv1.hb, hinv1.hm, hinv1.hy, hinv1.ht, hb]
            refine hcall.mono fun x G2 hx => ?_
            obtain ⟨rfl, hout2, hinv2⟩ := hx
            have hout3 := hout1.trans hinv.ne hout2
            cases t
            · simp only at hr'
              simp [g0, g1, g2, g3, g16, g17, g18, vint, wrap_succ hlt (by omega)]
              exact ⟨ws.length - (k + 1), by omega, k + 1, by omega, rfl, s2, hr', hok2, hinv2, hout3, by simp [encInts, vint]⟩
            · simp only at hr'
              cases hr'
              simp [g0, g1, g2, g3, g16, g17, g18, vint, hinv2.hb, hinv2.hm, hinv2.hy]
              exact ⟨hout3.by_ _, hinv2.by_ _⟩
    · obtain rfl : k = ws.length := by omega
      simp [tryL] at hr'
      subst hr'
      simp [g0, g1, g2, g3, g16, g17, g18, vint]
      exact ⟨hout, hinv'⟩

theorem app_at {H xs : List Obj} (j : Nat) : (H ++ xs)[H.length + j]? = xs[j]? := by
  rw [List.getElem?_append_right (by omega), Nat.add_sub_cancel_left]

theorem give (l : List (List Int)) (hl : ∀ r ∈ l, r.length ≤ lim) (n : Nat) (i : Int) (b : List (Int × Int)) (r : Bool × MS) (hr : tryM l n i ⟨[], b⟩ = some r) (h0 : 0 ≤ i) (h1 : i < l.length) (hby : byOk l.length ⟨[], b⟩)
    (H : List Obj) (oM oY : Nat) (hM : H[oM]? = some (.row 2 [.agg [encRows l, .map oY]])) (hY : H[oY]? = some (.map (imap (byV b)))) :
    Fn Tryz.prog 76 [.ptr oM 1 0 0, vint i] H fun x G => x = .b r.1 ∧ ∃ news, G = H.set oY (.map (imap (byV r.2.by_))) ++ news := by
  have hMl : oM < H.length := (List.getElem?_eq_some_iff.1 hM).1
  have hYl : oY < H.length := (List.getElem?_eq_some_iff.1 hY).1
  refine go76 (by simp) ?_
  unfold Tryz.f76
  simp
  have hinv : TInv (H ++ [Go.TL.Obj.row 1 [.ptr oM 1 0 0], .map [], .row 1 [.map (H.length + 1)], .row 1 [.clo 105 [.ptr H.length 1 0 0, .ptr (H.length + 2) 1 0 0, .ptr (H.length + 3) 1 0 0]]]) l oM H.length (H.length + 2) (H.length + 3) (H.length + 1) oY ⟨[], b⟩ :=
    ⟨by rw [List.getElem?_append_left hMl]; exact hM, app_at 0, app_at 2, app_at 3, app_at 1, by rw [List.getElem?_append_left hYl]; exact hY, by omega⟩
  refine ⟨rfl, rfl, (give1 l hl n i _ r hr h0 h1 hby _ _ _ _ _ _ _ hinv).mono fun x G hx => ?_⟩
  obtain ⟨rfl, hout, _⟩ := hx
  simp
  unfold TOut at hout
  rw [hout, List.set_append_right _ _ (by omega), List.set_append_left _ _ hYl]
  exact ⟨_, rfl⟩

def matchL (l : List (List Int)) (n : Nat) : List Int → List (Int × Int) → Option (Option (List (Int × Int)))
  | [], b => some (some b)
  | i :: is, b => match tryM l n i ⟨[], b⟩ with
    | none => none
    | some (true, s) => matchL l n is s.by_
    | some (false, _) => some none
def upI (n : Nat) : List Int := (List.range n).map fun (i : Nat) => (i : Int)
def matchM (l : List (List Int)) (n : Nat) : Option (Option (List (Int × Int))) := matchL l n (upI l.length) []

theorem upI_drop {n k : Nat} (h : k < n) : (upI n).drop k = (k : Int) :: (upI n).drop (k + 1) := by
  have hk : k < (upI n).length := by simp [upI]; exact h
  rw [List.drop_eq_getElem_cons hk]; simp [upI]

theorem unlike_matched (l : List (List Int)) (hll : l.length ≤ lim) (hl : ∀ r ∈ l, r.length ≤ lim) (n : Nat) (r : Option (List (Int × Int))) (hr : matchM l n = some r) (H : List Obj) :
    Fn Tryz.prog 44 [encRows l] H fun x G => ∃ y, x = .tup [y, .b r.isSome] ∧ ∃ news, G = H ++ news := by
  unfold lim at hll
  refine go44 (by simp) ?_
  unfold Tryz.f44
  simp
  refine AWP.loopC (fun m σ G => ∃ (k : Nat) (b : List (Int × Int)), k ≤ l.length ∧ m = l.length - k ∧ matchL l n ((upI l.length).drop k) b = some r ∧ byOk l.length ⟨[], b⟩ ∧ (∃ news, G = H ++ news) ∧ G[H.length + 1]? = some (.row 2 [.agg [encRows l, .map H.length]]) ∧ G[H.length]? = some (.map (imap (byV b))) ∧
    σ 4 = .ptr (H.length + 1) 1 0 0 ∧ σ 10 = encRows l ∧ σ 11 = vint l.length ∧ σ 12 = vint k) l.length ⟨0, [], by omega, by simp, by simpa [matchM] using hr, (fun p hp => by cases hp), by simp, app_at 1, app_at 0, by simp [vint]⟩ ?_
  rintro m σ G ⟨k, b, hk, rfl, hr', hby, ⟨news, hG⟩, hM, hY, h4, h10, h11, h12⟩
  by_cases hlt : k < l.length
  · rw [upI_drop hlt] at hr'
    unfold matchL at hr'
    rcases hrec : tryM l n k ⟨[], b⟩ with _ | ⟨t, s2⟩
    · rw [hrec] at hr'; cases hr'
    · rw [hrec] at hr'
      have hok := tryM_ok n k _ _ hrec (by omega) (by omega) hby
      have hgv := give l hl n k b _ hrec (by omega) (by omega) hby G (H.length + 1) H.length hM hY
      have hYl : H.length < G.length := (List.getElem?_eq_some_iff.1 hY).1
      have hMl : H.length + 1 < G.length := (List.getElem?_eq_some_iff.1 hM).1
      simp [h4, h10, h11, h12, vint, hlt]
      refine hgv.mono fun x G2 hx => ?_
      obtain ⟨rfl, news2, rfl⟩ := hx
      have hpre : ∃ q, G.set H.length (.map (imap (byV s2.by_))) ++ news2 = H ++ q := by
        rw [hG, List.set_append_right _ _ (Nat.le_refl _), List.append_assoc]; exact ⟨_, rfl⟩
      cases t
      · simp only at hr'
        cases hr'
        simp
        exact hpre
      · simp only at hr'
        simp [h4, h10, h11, h12, vint, wrap_succ hlt (by omega)]
        refine ⟨l.length - (k + 1), by omega, k + 1, by omega, rfl, s2.by_, hr', hok, hpre, ?_, ?_, by omega⟩
        · rw [List.getElem?_append_left (by simp; exact hMl), List.getElem?_set_ne (by omega)]; exact hM
        · rw [List.getElem?_append_left (by simp; exact hYl)]; simp [hYl]
  · obtain rfl : k = l.length := by omega
    have hnil : (upI l.length).drop l.length = [] := List.drop_eq_nil_of_le (by simp [upI])
    rw [hnil] at hr'
    cases hr'
    simp [h4, h10, h11, h12, vint]
    exact ⟨news, hG⟩

end Go.TL
