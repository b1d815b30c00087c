/- The tree logic, part fourteen: a region whose order is open. -/
import Derived.Test.YtofeaajoohiijaaGreatTLm
namespace Go.TL
open Go

def eqK (x : V) (H : List Obj) : V → List Obj → Prop := fun y H' => y = x ∧ H' = H
theorem eqK_apply (x : V) (H : List Obj) (y : V) (H' : List Obj) : eqK x H y H' = (y = x ∧ H' = H) := rfl

def insens : Op → Bool
  | .move _ | .assign _ | .pick .. | .binOp .. | .unOp .. | .convert .. | .extract .. | .field .. | .build .. => true
  | .call { callee := .builtin .min, .. } | .call { callee := .builtin .max, .. } => true
  | _ => false

def bafter (all : List Oper) (j i : Nat) : Bool := match all[j]? with | some o => o.after.any fun e => Region.binds .any e && e.on == i | none => false

def looks (all : List Oper) (o : Oper) : List Tmp := (o.op.operands.toList.filterMap fun | .tmp t => some t | _ => none) ++ (match o.guard with | some (g, _) => (gslot all g).toList | none => [])

/-- Behind which later effects may operation i come? -/
def loose (all : List Oper) (effs : List Nat) (i : Nat) : Bool :=
  match all[i]? with
  | some o => !insens o.op && effs.any fun e => decide (i < e) && !bafter all e i
  | none => false

def pairOk (all : List Oper) (effs : List Nat) (i j : Nat) : Bool :=
  match all[i]?, all[j]? with
  | some a, some b =>
    (match a.dst, b.dst with | some d, some d' => d != d' | _, _ => true) &&
    (bafter all j i || ((match a.dst with | some d => !(looks all b).contains d | none => true) && (match b.dst with | some d => !(looks all a).contains d | none => true) &&
      (!effs.contains i || insens b.op && !effs.contains j)))
  | _, _ => true

def drawOk (ops : Array Oper) (effs : List Nat) : Bool :=
  let all := ops.toList
  let n := all.length
  ((List.range n).all fun j => (List.range j).all fun i => pairOk all effs i j) &&
  (all.zipIdx.all fun (o, j) => o.after.all fun e => !Region.binds .any e || decide (e.on < j)) &&
  (effs.all fun e => decide (e < n)) && (all.all fun o => (match o.op with | .select .. => false | _ => true))

def drawC (P : Program) (N : Nat) (all : List Oper) (effs : List Nat) : Nat → List (Op × Slots × V) → List Oper → Slots → List Obj → (Slots → List Obj → Prop) → Prop
  | _, _, [], σ, H, K => K σ H
  | i, pend, o :: r, σ, H, K =>
    let run := if effs.contains i then ∃ x H', opC P o.op σ H (eqK x H') ∧ (∀ p ∈ pend, opC P p.1 p.2.1 H' (eqK p.2.2 H')) ∧ drawC P N all effs (i + 1) pend r (aput N σ o.dst x) H' K
      else ∃ x, opC P o.op σ H (eqK x H) ∧ drawC P N all effs (i + 1) (if loose all effs i then (o.op, σ, x) :: pend else pend) r (aput N σ o.dst x) H K
    match o.guard with
    | none => run
    | some (j, want) =>
      match gslot all j with
      | some t => if t < N then guardW (σ t) want run (drawC P N all effs (i + 1) pend r (aput N σ o.dst .any) H K) else False
      | none => False

/-- Is the operation carried out, by these slots? -/
def Goes (all : List Oper) (o : Oper) (N : Nat) (σ : Slots) (b : Bool) : Prop :=
  match o.guard with
  | none => b = true
  | some (j, want) => ∃ t x, gslot all j = some t ∧ t < N ∧ σ t = .b x ∧ b = (x == want)

structure StepOk (P : Program) (N : Nat) (all : List Oper) (effs : List Nat) (val : Nat → V) (Hs : Nat → List Obj) (σs : Nat → Slots) (j : Nat) (o : Oper) : Prop where
  slots : σs (j + 1) = aput N (σs j) o.dst (val j)
  same : j ∉ effs → Hs (j + 1) = Hs j
  goes : ∃ b, Goes all o N (σs j) b ∧ (b = true → opC P o.op (σs j) (Hs j) (eqK (val j) (Hs (j + 1)))) ∧ (b = false → val j = .any ∧ Hs (j + 1) = Hs j) ∧
    (b = true → j ∉ effs → loose all effs j = true → ∀ m, j < m → m ≤ all.length → opC P o.op (σs j) (Hs m) (eqK (val j) (Hs m)))

/-- What a text-order run leaves from operation i on. -/
def RunRes (P : Program) (N : Nat) (all : List Oper) (effs : List Nat) (K : Slots → List Obj → Prop) (i n : Nat) (pend : List (Op × Slots × V)) (σ : Slots) (H : List Obj) : Prop :=
  ∃ (val : Nat → V) (Hs : Nat → List Obj) (σs : Nat → Slots), σs i = σ ∧ Hs i = H ∧ K (σs (i + n)) (Hs (i + n)) ∧
      (∀ p ∈ pend, ∀ m, i ≤ m → m ≤ i + n → opC P p.1 p.2.1 (Hs m) (eqK p.2.2 (Hs m))) ∧
      ∀ j o, i ≤ j → all[j]? = some o → StepOk P N all effs val Hs σs j o

theorem drawC_run {P : Program} {N : Nat} {all : List Oper} {effs : List Nat} {K : Slots → List Obj → Prop} : ∀ (r : List Oper) (i : Nat) (pend : List (Op × Slots × V)) (σ : Slots) (H : List Obj),
    all.drop i = r → (∀ p ∈ pend, opC P p.1 p.2.1 H (eqK p.2.2 H)) → drawC P N all effs i pend r σ H K →
    RunRes P N all effs K i r.length pend σ H
  | [], i, pend, σ, H, hd, hp, h => by
    refine ⟨fun _ => .any, fun _ => H, fun _ => σ, rfl, rfl, h, fun p hp' m _ _ => hp p hp', fun j o hij ho => ?_⟩
    have : all.length ≤ i := List.drop_eq_nil_iff.1 hd
    have := (List.getElem?_eq_some_iff.1 ho).1
    omega
  | o :: r, i, pend, σ, H, hd, hp, h => by
    have hlt : i < all.length := by
      rcases Nat.lt_or_ge i all.length with h' | h'
      · exact h'
      · rw [List.drop_eq_nil_of_le h'] at hd; cases hd
    have hd' : all.drop (i + 1) = r := by rw [List.drop_eq_getElem_cons hlt] at hd; injection hd
    have hoi : all[i]? = some o := by rw [List.drop_eq_getElem_cons hlt] at hd; injection hd with h1 _; rw [List.getElem?_eq_getElem hlt, h1]
    have hlen : all.length = i + (r.length + 1) := by
      have := congrArg List.length hd; simp at this; omega
    -- what is behind, put together with what is here
    have join : ∀ (x : V) (H' : List Obj) (pend' : List (Op × Slots × V)), (∀ p ∈ pend', opC P p.1 p.2.1 H' (eqK p.2.2 H')) → (∀ p ∈ pend, p ∈ pend') →
        drawC P N all effs (i + 1) pend' r (aput N σ o.dst x) H' K → (i ∉ effs → H' = H) →
        (∃ b, Goes all o N σ b ∧ (b = true → opC P o.op σ H (eqK x H')) ∧ (b = false → x = .any ∧ H' = H) ∧ (b = true → i ∉ effs → loose all effs i = true → (o.op, σ, x) ∈ pend')) →
        RunRes P N all effs K i (r.length + 1) pend σ H := by
      intro x H' pend' hp' hsub hrest hsame hgo
      obtain ⟨val, Hs, σs, e1, e2, hk, hpp, hst⟩ := drawC_run r (i + 1) pend' _ H' hd' hp' hrest
      refine ⟨fun j => if j = i then x else val j, fun j => if j = i then H else Hs j, fun j => if j = i then σ else σs j, if_pos rfl, if_pos rfl, ?_, ?_, ?_⟩
      · have n1 : ¬ (i + (r.length + 1) = i) := by omega
        simp only [if_neg n1]
        rw [show i + (r.length + 1) = i + 1 + r.length by omega]; exact hk
      · intro p hpm m h1 h2
        by_cases hm : m = i
        · simp only [hm, if_true]; exact hp p hpm
        · simp only [if_neg hm]; exact hpp p (hsub p hpm) m (by omega) (by omega)
      · intro j o' hij ho'
        by_cases hj : j = i
        · subst hj
          rw [hoi] at ho'
          cases ho'
          have n1 : ¬ (j + 1 = j) := by omega
          refine ⟨?_, ?_, ?_⟩
          · simp only [if_neg n1, if_true]; exact e1
          · intro hne; simp only [if_neg n1, if_true]; rw [e2]; exact hsame hne
          · obtain ⟨b, g1, g2, g3, g4⟩ := hgo
            refine ⟨b, by simpa using g1, fun hb => ?_, fun hb => ?_, fun hb hne hl m h1 h2 => ?_⟩
            · simp only [if_neg n1, if_true]; rw [e2]; exact g2 hb
            · simp only [if_neg n1, if_true]; rw [e2]; exact g3 hb
            · have nm : ¬ (m = j) := by omega
              simp only [if_neg nm, if_true]
              exact hpp _ (g4 hb hne hl) m (by omega) (by omega)
        · obtain ⟨s1, s2, b, g1, g2, g3, g4⟩ := hst j o' (by omega) ho'
          have n1 : ¬ (j + 1 = i) := by omega
          refine ⟨?_, ?_, b, ?_, ?_, ?_, ?_⟩
          · simp only [if_neg n1, if_neg hj]; exact s1
          · simp only [if_neg n1, if_neg hj]; exact s2
          · simp only [if_neg hj]; exact g1
          · simp only [if_neg n1, if_neg hj]; exact g2
          · simp only [if_neg n1, if_neg hj]; exact g3
          · intro hb hne hl m h1 h2
            simp only [if_neg hj, if_neg (show ¬ (m = i) by omega)]
            exact g4 hb hne hl m h1 h2
    have run : ∀ (b : Bool), b = true → Goes all o N σ b → (if effs.contains i then ∃ x H', opC P o.op σ H (eqK x H') ∧ (∀ p ∈ pend, opC P p.1 p.2.1 H' (eqK p.2.2 H')) ∧ drawC P N all effs (i + 1) pend r (aput N σ o.dst x) H' K
      else ∃ x, opC P o.op σ H (eqK x H) ∧ drawC P N all effs (i + 1) (if loose all effs i then (o.op, σ, x) :: pend else pend) r (aput N σ o.dst x) H K) → RunRes P N all effs K i (r.length + 1) pend σ H := by
      intro b hb hg hr
      split at hr
      · rename_i hc
        obtain ⟨x, H', h1, h2, h3⟩ := hr
        have hmem : i ∈ effs := by simpa using hc
        exact join x H' pend h2 (fun p hp => hp) h3 (fun hne => absurd hmem hne) ⟨b, hg, fun _ => h1, (fun hf => absurd (hb.symm.trans hf) (by decide)), fun _ hne => absurd hmem hne⟩
      · rename_i hc
        obtain ⟨x, h1, h3⟩ := hr
        refine join x H _ ?_ ?_ h3 (fun _ => rfl) ⟨b, hg, fun _ => h1, (fun hf => absurd (hb.symm.trans hf) (by decide)), fun _ _ hl => by rw [if_pos hl]; simp⟩
        · intro p hpm
          split at hpm
          · rcases List.mem_cons.1 hpm with rfl | hpm
            · exact h1
            · exact hp p hpm
          · exact hp p hpm
        · intro p hpm
          split
          · exact List.mem_cons_of_mem _ hpm
          · exact hpm
    simp only [drawC] at h
    simp only [List.length_cons]
    cases hg : o.guard with
    | none =>
      rw [hg] at h
      exact run true rfl (by unfold Goes; rw [hg]) h
    | some jw =>
      obtain ⟨j, want⟩ := jw
      rw [hg] at h
      simp only at h
      cases ht : gslot all j with
      | none => rw [ht] at h; exact h.elim
      | some t =>
        rw [ht] at h
        simp only at h
        by_cases htN : t < N
        · rw [if_pos htN] at h
          unfold guardW at h
          split at h
          · rename_i x hx
            have hgo : Goes all o N σ (x == want) := by unfold Goes; rw [hg]; exact ⟨t, x, ht, htN, hx, rfl⟩
            by_cases hxw : x = want
            · rw [if_pos hxw] at h
              exact run (x == want) (by simp [hxw]) hgo h
            · rw [if_neg hxw] at h
              exact join .any H pend hp (fun p hp => hp) h (fun _ => rfl) ⟨x == want, hgo, fun hb => absurd (by simpa using hb) hxw, fun _ => ⟨rfl, rfl⟩, fun hb => absurd (by simpa using hb) hxw⟩
          · exact h.elim
        · rw [if_neg htN] at h; exact h.elim

/-- An operation looks at its operands alone. -/
theorem opC_congr {P : Program} {op : Op} {σ σ' : Slots} {H : List Obj} {K : V → List Obj → Prop} (h : ∀ t, .tmp t ∈ op.operands.toList → σ t = σ' t) (hc : opC P op σ H K) : opC P op σ' H K := by
  have he : ∀ q, q ∈ op.operands.toList → ev σ q = ev σ' q := by
    intro q hq
    cases q with
    | tmp t => exact h t hq
    | _ => rfl
  have hm : ∀ (l : List Operand), (∀ q ∈ l, q ∈ op.operands.toList) → l.map (ev σ) = l.map (ev σ') := fun l hl => List.map_congr_left fun q hq => he q (hl q hq)
  have hpm : ∀ (l : List (Nat × Operand)), (∀ p ∈ l, p.2 ∈ op.operands.toList) → (l.map fun p => (p.1, ev σ p.2)) = l.map fun p => (p.1, ev σ' p.2) := fun l hl => List.map_congr_left fun p hp => by rw [he p.2 (hl p hp)]
  cases op <;> simp only [opC] at hc ⊢ <;> try exact hc
  case move x => rwa [he x (by simp [Op.operands])] at hc
  case assign x => rwa [he x (by simp [Op.operands])] at hc
  case pick c a b => rwa [he c (by simp [Op.operands]), he a (by simp [Op.operands]), he b (by simp [Op.operands])] at hc
  case box t x => rwa [he x (by simp [Op.operands])] at hc
  case build t ps => rwa [hpm ps.toList (fun p hp => by simp only [Op.operands]; exact List.mem_map_of_mem hp)] at hc
  case buildSlice t n ps => rwa [hpm ps.toList (fun p hp => by simp only [Op.operands]; exact List.mem_map_of_mem hp)] at hc
  case load t a => rwa [he a (by simp [Op.operands])] at hc
  case store t a x => rwa [he a (by simp [Op.operands]), he x (by simp [Op.operands])] at hc
  case nilCheck x => rwa [he x (by simp [Op.operands])] at hc
  case binOp op t x y u => rwa [he x (by simp [Op.operands]), he y (by simp [Op.operands])] at hc
  case makeMap t r =>
    cases r with
    | none => exact hc
    | some q => rwa [show (some q).map (ev σ) = (some q).map (ev σ') from congrArg some (he q (by simp [Op.operands]))] at hc
  case lookup t m k ok => rwa [he m (by simp [Op.operands]), he k (by simp [Op.operands])] at hc
  case mapUpdate t m k x => rwa [he m (by simp [Op.operands]), he k (by simp [Op.operands]), he x (by simp [Op.operands])] at hc
  case insert t m k x => rwa [he m (by simp [Op.operands]), he k (by simp [Op.operands]), he x (by simp [Op.operands])] at hc
  case unOp op t x => rwa [he x (by simp [Op.operands])] at hc
  case convert s d x => rwa [he x (by simp [Op.operands])] at hc
  case makeFunc fn f c => rwa [hm f.toList (fun q hq => by simp [Op.operands] at hq ⊢; exact .inl hq), hm c.toList (fun q hq => by simp [Op.operands] at hq ⊢; exact .inr hq)] at hc
  case makeSlice t l c => rwa [he l (by simp [Op.operands]), he c (by simp [Op.operands])] at hc
  case slice t x lo hi mx =>
    have ho : ∀ (o : Option Operand), (∀ q, o = some q → q ∈ (Op.slice t x lo hi mx).operands.toList) → o.map (ev σ) = o.map (ev σ') := by
      intro o hq
      cases o with
      | none => rfl
      | some q => exact congrArg some (he q (hq q rfl))
    rwa [he x (by simp [Op.operands]), ho lo (by rintro q rfl; simp [Op.operands]), ho hi (by rintro q rfl; simp [Op.operands]), ho mx (by rintro q rfl; simp [Op.operands])] at hc
  case fieldAddr s x f => rwa [he x (by simp [Op.operands])] at hc
  case field t x f => rwa [he x (by simp [Op.operands])] at hc
  case indexAddr t x ix => rwa [he x (by simp [Op.operands]), he ix (by simp [Op.operands])] at hc
  case index t x ix => rwa [he x (by simp [Op.operands]), he ix (by simp [Op.operands])] at hc
  case extract x i => rwa [he x (by simp [Op.operands])] at hc
  case call c =>
    obtain ⟨callee, args, ts⟩ := c
    cases callee with
    | value f =>
      simp only at hc ⊢
      rwa [he f (by simp [Op.operands, Call.operands]), hm args.toList (fun q hq => by simp [Op.operands, Call.operands] at hq ⊢; exact .inr hq)] at hc
    | builtin b =>
      simp only at hc ⊢
      rwa [hm args.toList (fun q hq => by simp [Op.operands, Call.operands] at hq ⊢; exact hq)] at hc
    | invoke r m => exact hc

theorem opC_insens {P : Program} {op : Op} {σ : Slots} {H H₂ : List Obj} {x : V} (hi : insens op = true) (h : opC P op σ H (eqK x H)) : opC P op σ H₂ (eqK x H₂) := by
  cases op <;> simp only [insens, Bool.false_eq_true] at hi <;> simp only [opC] at h ⊢
  case move => simpa [eqK] using h
  case assign => simpa [eqK] using h
  case pick c a b => 
    unfold condW at h ⊢
    split at h
    · split at h
      · rename_i ht; rw [if_pos ht]; exact ⟨h.1, rfl⟩
      · rename_i ht; rw [if_neg ht]; exact ⟨h.1, rfl⟩
    · exact h.elim
  case build t ps =>
    unfold buildC at h ⊢
    split at h
    · have : ∀ pl ps cells, buildV pl (fun cs => eqK x H (.agg cs) H) cells ps → buildV pl (fun cs => eqK x H₂ (.agg cs) H₂) cells ps := by
        intro pl ps
        induction ps with
        | nil => exact fun cells h => ⟨h.1, rfl⟩
        | cons p ps ih =>
          intro cells h
          simp only [buildV] at h ⊢
          split at h
          · exact ⟨h.1, h.2.1, h.2.2.1, ih _ h.2.2.2⟩
          · exact h.elim
      exact this _ _ _ h
    · exact h.elim
  case binOp op t a b u =>
    have e : ∀ z, atH (eqK x H) H z → atH (eqK x H₂) H₂ z := fun z h => ⟨h.1, rfl⟩
    split at h
    · rename_i hn
      rw [if_pos hn]
      unfold nilCmpC at h ⊢
      refine ⟨h.1, ?_⟩
      have h := h.2
      split at h
      · exact ⟨e _ h.1, e _ h.2⟩
      · exact ⟨e _ h.1, e _ h.2⟩
      · exact e _ h
      · exact h.elim
    rename_i hn
    rw [if_neg hn]
    unfold binC at h ⊢
    split at h
    · split at h
      · exact ⟨h.1, e _ h.2⟩
      · exact ⟨h.1, e _ h.2⟩
      · refine ⟨h.1, ?_⟩
        have h2 := h.2
        unfold intBin at h2 ⊢
        split at h2 <;> first | exact e _ h2 | exact ⟨h2.1, e _ h2.2⟩ | exact h2.elim
    · unfold strBin at h ⊢
      split at h <;> first | exact e _ h | exact ⟨h.1, e _ h.2⟩ | exact h.elim
    · refine ⟨h.1, ?_⟩
      have h2 := h.2
      split at h2 <;> first | exact e _ h2 | exact h2.elim
    · refine ⟨h.1, ?_⟩
      have h2 := h.2
      split at h2 <;> first | exact e _ h2 | exact h2.elim
    · exact h.elim
  case unOp op t a =>
    unfold unC at h ⊢
    split at h <;> first | exact ⟨h.1, rfl⟩ | exact h.elim
  case convert s d a =>
    unfold convC at h ⊢
    split at h
    · exact ⟨h.1, h.2.1, rfl⟩
    · exact h.elim
  case extract a i =>
    unfold extractC at h ⊢
    split at h
    · split at h
      · exact ⟨h.1, rfl⟩
      · exact h.elim
    · exact h.elim
  case field t a f =>
    unfold fieldC at h ⊢
    split at h
    · split at h
      · split at h
        · exact ⟨h.1, h.2.1, rfl⟩
        · exact h.elim
      · split at h
        · exact ⟨h.1, rfl⟩
        · exact h.elim
      · exact h.elim
    · exact h.elim
  case call c =>
    obtain ⟨callee, args, ts⟩ := c
    cases callee with
    | value f => cases hi
    | invoke r m => cases hi
    | builtin b =>
      cases b <;> simp only [Bool.false_eq_true] at hi <;> simp only at h ⊢
      all_goals
        unfold biC at h ⊢
        split at h
        · rename_i hb _ _; cases hb
        · rename_i hb _ _; cases hb
        · first
            | (unfold min2C at h ⊢; split at h
               · exact ⟨h.1, h.2.1, rfl⟩
               · exact h.elim)
            | (rename_i hb _; cases hb)
        · first
            | (unfold max2C at h ⊢; split at h
               · exact ⟨h.1, h.2.1, rfl⟩
               · exact h.elim)
            | (rename_i hb _; cases hb)
        · rename_i hb _ _; cases hb
        · rename_i hb _ _; cases hb
        · exact h.elim

end Go.TL
