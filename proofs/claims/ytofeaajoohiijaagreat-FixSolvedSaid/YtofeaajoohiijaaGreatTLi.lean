/- The tree logic, part nine: struct literals, arithmetic, lengths. -/
import Derived.Test.YtofeaajoohiijaaGreatTLh
import Derived.Laws.StructEq
namespace Go.TL
open Go

def places (P : Program) (t : TypeId) : Option (List (Nat × Nat)) :=
  match P.underlying t with
  | some (.struct fields) => fields.toList.mapM (fun f => (P.info? f.type).map fun i => (f.offset, i.size))
  | _ => none

def buildV (pl : List (Nat × Nat)) (K : List V → Prop) : List V → List (Nat × V) → Prop
  | cells, [] => K cells
  | cells, (i, v) :: r =>
    match pl[i]? with
    | some (off, sz) => (cellsOf v).length = sz ∧ boxable v = true ∧ off + sz ≤ cells.length ∧ buildV pl K (splice cells off (cellsOf v)) r
    | none => False

def buildC (P : Program) (t : TypeId) (ps : List (Nat × V)) (H : List Obj) (K : V → List Obj → Prop) : Prop :=
  match places P t, zeroV P t with
  | some pl, some (.agg z) => buildV pl (fun cs => K (.agg cs) H) z ps
  | _, _ => False

theorem fill_buildV {w : World} {ρ : Nat → Nat} {H : List Obj} {pl : List (Nat × Nat)} {K : List V → Prop} : ∀ (ps : List (Nat × V)) (vps : List (Nat × Value)) (cells : List V) (cs : Array Value),
    vps.map (·.1) = ps.map (·.1) → (∀ (j : Nat) p q, ps[j]? = some p → vps[j]? = some q → VR w ρ H p.2 q.2) →
    cells.length = cs.size → (∀ (j : Nat) x v, cells[j]? = some x → cs[j]? = some v → VR w ρ H x v) → buildV pl K cells ps →
    ∃ cells' cs', Instr.fill (fun i => pl[i]?) cs vps = some cs' ∧ cells'.length = cs'.size ∧ (∀ (j : Nat) x v, cells'[j]? = some x → cs'[j]? = some v → VR w ρ H x v) ∧ K cells'
  | [], [], cells, cs, _, _, hl, hv, h => ⟨cells, cs, rfl, hl, hv, h⟩
  | [], _ :: _, _, _, hf, _, _, _, _ => by simp at hf
  | _ :: _, [], _, _, hf, _, _, _, _ => by simp at hf
  | (i, v) :: ps, (i', u) :: vps, cells, cs, hf, hps, hl, hv, h => by
    simp only [List.map_cons, List.cons.injEq] at hf
    obtain ⟨rfl, hf⟩ := hf
    simp only [buildV] at h
    split at h
    · rename_i off sz hp
      obtain ⟨rfl, hb, hfit, h⟩ := h
      have hvu : VR w ρ H v u := hps 0 _ _ rfl rfl
      obtain ⟨hc, hcv⟩ := hvu.cells hb
      obtain ⟨c1, e1, z1, g1⟩ := fill_step (fun i => pl[i]?) cs i' u vps off (by rw [hc]; exact hp) (by rw [hc]; omega)
      rw [e1]
      refine fill_buildV ps vps (splice cells off (cellsOf v)) c1 hf (fun j p q a b => hps (j + 1) p q (by simpa using a) (by simpa using b)) (by rw [splice_length hfit, hl, z1]) ?_ h
      intro j x y hx hy
      unfold splice at hx
      rw [splice_get _ _ _ hfit] at hx
      rw [g1, hc] at hy
      split at hx
      · rename_i hb'
        rw [if_pos hb'] at hy
        obtain ⟨u', hu', hx'⟩ := hcv _ _ hx
        rw [hu'] at hy; cases hy; exact hx'
      · rename_i hb'
        rw [if_neg hb'] at hy
        exact hv j x y hx hy
    · exact h.elim

theorem run_buildC {P : Program} {t : TypeId} {ps : List (Nat × V)} {vps : List (Nat × Value)} {w : World} {ρ : Nat → Nat} {H : List Obj} {K : V → List Obj → Prop}
    (hfst : vps.map (·.1) = ps.map (·.1)) (hps : ∀ (j : Nat) p q, ps[j]? = some p → vps[j]? = some q → VR w ρ H p.2 q.2) (h : buildC P t ps H K) :
    ∃ y u, (Instr.build t vps.toArray).run P w = .ok u w ∧ VR w ρ H y u ∧ K y H := by
  unfold buildC at h
  split at h
  · rename_i pl z hpl hz
    unfold zeroV at hz
    cases hi : P.info? t with
    | none => rw [hi] at hz; simp at hz
    | some it =>
      rw [hi] at hz
      simp only [Option.bind_some] at hz
      cases hzz : it.zero with
      | none => rw [hzz] at hz; simp at hz
      | some zv =>
        rw [hzz] at hz
        cases zv with
        | agg cs =>
          simp only [Option.some.injEq, V.agg.injEq] at hz
          subst hz
          obtain ⟨cells', cs', e1, l1, v1, k1⟩ := fill_buildV (w := w) (ρ := ρ) (H := H) ps vps _ cs hfst hps (by simp) (by
            intro j x v h1 h2
            rw [List.getElem?_map, Array.getElem?_toList, h2] at h1
            simp at h1
            subst h1
            exact VR_ofV _ _ _ _) h
          refine ⟨.agg cells', .agg cs', ?_, .agg _ _ l1 v1, k1⟩
          unfold places at hpl
          split at hpl
          · rename_i fields hu
            refine run_build w t vps.toArray cs' ?_
            unfold Program.built
            rw [hi, hu]
            simp only [hzz, hpl, Value.cells]
            simpa using e1
          · cases hpl
        | _ => simp [ofV] at hz <;> (try split at hz) <;> simp at hz
  · exact h.elim

/-! ### Two operands -/

def intBin (op : BinOp) (k : IntKind) (a b : Int) (K : V → Prop) : Prop :=
  match op with
  | .add => K (.i k (k.wrap (a + b)))
  | .sub => K (.i k (k.wrap (a - b)))
  | .mul => K (.i k (k.wrap (a * b)))
  | .quo => b ≠ 0 ∧ K (.i k (k.wrap (a.tdiv b)))
  | .rem => b ≠ 0 ∧ K (.i k (a.tmod b))
  | .and => K (.i k (k.wrap (BitVec.ofInt k.bits a &&& BitVec.ofInt k.bits b).toNat))
  | .eql => K (.b (a == b))
  | .neq => K (.b (a != b))
  | .lss => K (.b (decide (a < b)))
  | .leq => K (.b (decide (a ≤ b)))
  | .gtr => K (.b (decide (a > b)))
  | .geq => K (.b (decide (a ≥ b)))
  | _ => False

def strBin (op : BinOp) (a b : ByteArray) (K : V → Prop) : Prop :=
  match op with
  | .add => a.size + b.size ≤ 9223372036854775807 ∧ K (.s (a ++ b))
  | .eql => K (.b (a.toList == b.toList))
  | .neq => K (.b (!(a.toList == b.toList)))
  | _ => False

/-- A struct of whole numbers alone. -/
def intStruct (P : Program) (t : TypeId) (n : Nat) : Bool :=
  match P.underlying t with
  | some (.struct fs) => fs.size == n && !P.stoodInHeld t && !P.eqGuardType P.depth t && fs.toList.zipIdx.all fun p => p.1.name != "_" && p.1.offset == p.2 && (match P.underlying p.1.type with | some (.int _) => true | _ => false) && tagg P p.1.type == some false
  | _ => false

def eqInts : List V → List V → Option Bool
  | [], [] => some true
  | .i k a :: xs, .i k' b :: ys => if k = k' then (match eqInts xs ys with | some r => some (a == b && r) | none => none) else none
  | _, _ => none

theorem eq_ints {P : Program} {w : World} {ρ : Nat → Nat} {H : List Obj} {d : Nat} {xs ys : Array Value} : ∀ (fs : List Field) (cs ds : List V) (i : Nat) (b : Bool), eqInts cs ds = some b → cs.length = fs.length →
    (∀ (j : Nat) x, cs[j]? = some x → ∃ v, xs[i + j]? = some v ∧ VR w ρ H x v) → (∀ (j : Nat) x, ds[j]? = some x → ∃ v, ys[i + j]? = some v ∧ VR w ρ H x v) →
    ((fs.zipIdx i).all fun p => p.1.name != "_" && p.1.offset == p.2 && (match P.underlying p.1.type with | some (.int _) => true | _ => false) && tagg P p.1.type == some false) = true →
    (Op.eqFields (d + 1) xs ys fs).run P w = .ok b w
  | [], cs, ds, i, b, he, hl, _, _, _ => by
    obtain rfl : cs = [] := List.eq_nil_of_length_eq_zero hl
    cases ds with
    | nil => simp [eqInts] at he; subst he; simp [Op.eqFields]
    | cons => simp [eqInts] at he
  | f :: fs, cs, ds, i, b, he, hl, hx, hy, hf => by
    simp only [List.zipIdx_cons, List.all_cons, Bool.and_eq_true, bne_iff_ne, ne_eq, beq_iff_eq] at hf
    obtain ⟨⟨⟨⟨f1, f2⟩, f3⟩, f4⟩, f5⟩ := hf
    cases cs with
    | nil => simp at hl
    | cons c cs =>
      cases ds with
      | nil => cases c <;> simp [eqInts] at he
      | cons e ds =>
        cases c with
        | i k a =>
          cases e with
          | i k' b' =>
            simp only [eqInts] at he
            split at he
            · rename_i hk
              subst hk
              split at he
              · rename_i r hr
                cases he
                obtain ⟨v, v1, v2⟩ := hx 0 _ rfl
                obtain ⟨u, u1, u2⟩ := hy 0 _ rfl
                have := v2.inv_i; subst this
                have := u2.inv_i; subst this
                have ih := eq_ints (d := d) fs cs ds (i + 1) r hr (by simpa using hl) (fun j x h => by have := hx (j + 1) x (by simpa using h); rwa [show i + (j + 1) = i + 1 + j by omega] at this)
                  (fun j x h => by have := hy (j + 1) x (by simpa using h); rwa [show i + (j + 1) = i + 1 + j by omega] at this) (by simpa using f5)
                have p1 : (part f.type xs f.offset).run P w = .ok (.int k a) w := by
                  rw [f2]; simp only [part, Sem.run_bind, run_isAgg f4, Result.andThen_ok, Bool.false_eq_true, if_false]; simp at v1; simp [v1]
                have p2 : (part f.type ys f.offset).run P w = .ok (.int k b') w := by
                  rw [f2]; simp only [part, Sem.run_bind, run_isAgg f4, Result.andThen_ok, Bool.false_eq_true, if_false]; simp at u1; simp [u1]
                split at f3
                · rename_i kk hkk
                  have e1 := run_equalIn_int (P := P) w d f.type k kk a b' hkk
                  rw [Op.eqFields]
                  simp only [if_pos f1, Sem.run_bind, p1, p2, e1, Result.andThen_ok]
                  cases hab : a == b'
                  · simp
                  · simpa using ih
                · cases f3
              · cases he
            · cases he
          | _ => simp [eqInts] at he
        | _ => simp [eqInts] at he

def binC (P : Program) (op : BinOp) (t : TypeId) (x y : V) (K : V → Prop) : Prop :=
  match x, y with
  | .i k a, .i k' b =>
    match op with
    | .shl => 0 ≤ b ∧ K (.i k (k.wrap (a * 2 ^ min b.toNat k.bits)))
    | .shr => 0 ≤ b ∧ K (.i k (a.fdiv (2 ^ min b.toNat k.bits)))
    | _ => k = k' ∧ intBin op k a b K
  | .s a, .s b => strBin op a b K
  | .b a, .b b => isBoolT P t = true ∧
    match op with
    | .eql => K (.b (a == b))
    | .neq => K (.b (!(a == b)))
    | _ => False
  | .agg xs, .agg ys => intStruct P t xs.length = true ∧
    match op, eqInts xs ys with
    | .eql, some b => K (.b b)
    | .neq, some b => K (.b !b)
    | _, _ => False
  | _, _ => False

theorem run_bin {P : Program} {op : BinOp} {t : TypeId} {x y : V} {ox oy : Operand} {w : World} {ρ : Nat → Nat} {H : List Obj} {K : V → Prop} {vx vy : Value} (hx : VR w ρ H x vx) (hy : VR w ρ H y vy)
    (h : binC P op t x y K) : ∃ z u, (do eqGuard op t ox oy vx vy; binOp op t vx vy).run P w = .ok u w ∧ VR w ρ H z u ∧ K z := by
  unfold binC at h
  split at h
  · rename_i k a k' b
    have e1 := hx.inv_i; have e2 := hy.inv_i
    subst e1 e2
    have hg : (eqGuard op t ox oy (.int k a) (.int k' b)).run P w = .ok () w := by
      unfold eqGuard; split <;> simp
    cases op
    case shl =>
      obtain ⟨h0, hk⟩ := h
      exact ⟨_, _, by simp only [Sem.run_bind, hg, Result.andThen_ok, binOp, Op.shift, if_neg (show ¬ b < 0 by omega)]; rfl, .i _ _, hk⟩
    case shr =>
      obtain ⟨h0, hk⟩ := h
      exact ⟨_, _, by simp only [Sem.run_bind, hg, Result.andThen_ok, binOp, Op.shift, if_neg (show ¬ b < 0 by omega)]; rfl, .i _ _, hk⟩
    all_goals
      obtain ⟨rfl, h⟩ := h
      simp only [intBin] at h
    case quo => exact ⟨_, _, by simp only [Sem.run_bind, hg, Result.andThen_ok, binOp, ne_eq, not_true_eq_false, if_false, Op.intDiv, if_neg h.1]; rfl, .i _ _, h.2⟩
    case rem => exact ⟨_, _, by simp only [Sem.run_bind, hg, Result.andThen_ok, binOp, ne_eq, not_true_eq_false, if_false, Op.intDiv, if_neg h.1]; rfl, .i _ _, h.2⟩
    all_goals first
      | exact h.elim
      | exact ⟨_, _, by simp only [Sem.run_bind, hg, Result.andThen_ok, binOp, ne_eq, not_true_eq_false, if_false, Op.intArith, Op.intCmp, Op.intBits]; rfl, by first | exact .i _ _ | exact .b _, h⟩
  · rename_i a b
    have e1 := hx.inv_s; have e2 := hy.inv_s
    subst e1 e2
    have hg : (eqGuard op t ox oy (.string a) (.string b)).run P w = .ok () w := by
      unfold eqGuard; split <;> simp
    cases op <;> simp only [strBin] at h
    case add =>
      have hle : ¬ (((a.size + b.size : Nat) : Int) > IntKind.i64.max) := by
        have : IntKind.i64.max = 9223372036854775807 := by decide
        rw [this]; omega
      exact ⟨_, _, by simp only [Sem.run_bind, hg, Result.andThen_ok, binOp, Op.stringOp, if_neg hle]; rfl, .s _, h.2⟩
    all_goals first
      | exact h.elim
      | exact ⟨_, _, by simp only [Sem.run_bind, hg, Result.andThen_ok, binOp, Op.stringOp]; rfl, .b _, h⟩
  · rename_i a b
    obtain ⟨hb, h⟩ := h
    have hu := of_isBoolT hb
    have e1 := hx.inv_b; have e2 := hy.inv_b
    subst e1 e2
    have hg : (eqGuard op t ox oy (.bool a) (.bool b)).run P w = .ok () w := by
      unfold eqGuard; split <;> simp
    have he : (Op.equal t (.bool a) (.bool b)).run P w = .ok (a == b) w := by
      have e9 : ∀ d, (Op.equalIn (d + 1) t (.bool a) (.bool b)).run P w = .ok (a == b) w := fun d => by simp [Op.equalIn, run_underlying hu]
      exact e9 9999
    split at h
    · exact ⟨_, _, by simp only [Sem.run_bind, hg, Result.andThen_ok, binOp, he]; rfl, .b _, h⟩
    · exact ⟨_, _, by simp only [Sem.run_bind, hg, Result.andThen_ok, binOp, he]; rfl, .b _, h⟩
    · exact h.elim
  · rename_i xs ys
    obtain ⟨hst, h⟩ := h
    cases hx with
    | agg _ vs hl hv =>
      cases hy with
      | agg _ us hl' hv' =>
        unfold intStruct at hst
        split at hst
        · rename_i fs hu
          simp only [Bool.and_eq_true, beq_iff_eq, Bool.not_eq_true'] at hst
          obtain ⟨⟨⟨t1, t2⟩, t3⟩, t4⟩ := hst
          have hg : (eqGuard op t ox oy (.agg vs) (.agg us)).run P w = .ok () w := run_eqGuard_agg (P := P) w op t ox oy vs us t3
          have hf : P.fieldsOf t = fs := by simp [Program.fieldsOf, hu]
          have he : ∀ b, eqInts xs ys = some b → (Op.equalIn 10000 t (.agg vs) (.agg us)).run P w = .ok b w := by
            intro b hb
            rw [run_equalIn_struct (P := P) w 9999 t vs us (by rw [hf]; exact hu) t2, hf]
            refine eq_ints (ρ := ρ) (H := H) fs.toList xs ys 0 b hb (by simp [t1]) (fun j x hj => ?_) (fun j x hj => ?_) t4
            · have hlt : j < vs.size := by rw [← hl]; exact (List.getElem?_eq_some_iff.1 hj).1
              exact ⟨vs[j], by simp [hlt], hv _ _ _ hj (Array.getElem?_eq_getElem hlt)⟩
            · have hlt : j < us.size := by rw [← hl']; exact (List.getElem?_eq_some_iff.1 hj).1
              exact ⟨us[j], by simp [hlt], hv' _ _ _ hj (Array.getElem?_eq_getElem hlt)⟩
          split at h
          · rename_i b hb
            exact ⟨_, .bool b, by simp only [Sem.run_bind, hg, Result.andThen_ok, run_eql_struct, he b hb], .b _, h⟩
          · rename_i b hb
            exact ⟨_, .bool !b, by simp only [Sem.run_bind, hg, Result.andThen_ok, run_neq_struct, he b hb], .b _, h⟩
          · exact h.elim
        · cases hst
  · exact h.elim

def isNilCmp (op : BinOp) (y : Operand) : Bool :=
  match y with
  | .const (.slice none _ _) => (match op with | .eql => true | .neq => true | _ => false)
  | _ => false

/-- Is a slice nil? Of one without elements both answers may come. -/
def nilCmpC (P : Program) (op : BinOp) (t : TypeId) (x : V) (K : V → Prop) : Prop :=
  (selem P t).isSome = true ∧
  match x with
  | .emp => K (.b true) ∧ K (.b false)
  | .lst [] => K (.b true) ∧ K (.b false)
  | .lst (_ :: _) => K (.b (match op with | .eql => false | _ => true))
  | _ => False

theorem run_nilCmp {P : Program} {op : BinOp} {t : TypeId} {x : V} {ox y : Operand} {w : World} {ρ : Nat → Nat} {H : List Obj} {K : V → Prop} {vx : Value} (hn : isNilCmp op y = true) (hx : VR w ρ H x vx) (h : nilCmpC P op t x K) :
    ∃ c, y = .const c ∧ ∃ z u, (do eqGuard op t ox y vx c; binOp op t vx c).run P w = .ok u w ∧ VR w ρ H z u ∧ K z := by
  unfold isNilCmp at hn
  split at hn
  · rename_i l c
    refine ⟨_, rfl, ?_⟩
    obtain ⟨hs, h⟩ := h
    obtain ⟨e, he⟩ := Option.isSome_iff_exists.1 hs
    have hu := of_selem he
    have eq : ∀ a n m, (Op.equal t (.slice a n m) (.slice none l c)).run P w = .ok a.isNone w := by
      intro a n m
      have e9 : ∀ d, (Op.equalIn (d + 1) t (.slice a n m) (.slice none l c)).run P w = .ok a.isNone w := fun d => by
        cases a <;> simp [Op.equalIn, run_underlying hu]
      exact e9 9999
    have hg : ∀ a n m, (eqGuard op t ox (.const (.slice none l c)) (.slice a n m) (.slice none l c)).run P w = .ok () w := by
      intro a n m; unfold eqGuard; split <;> simp
    have both : ∀ a n m, vx = .slice a n m → K (.b true) → K (.b false) → ∃ z u, (do eqGuard op t ox (.const (.slice none l c)) vx (.slice none l c); binOp op t vx (.slice none l c)).run P w = .ok u w ∧ VR w ρ H z u ∧ K z := by
      rintro a n m rfl h1 h2
      cases op <;> simp at hn
      · refine ⟨.b a.isNone, .bool a.isNone, by simp only [Sem.run_bind, hg, Result.andThen_ok, binOp, eq]; rfl, .b _, ?_⟩
        cases a <;> assumption
      · refine ⟨.b !a.isNone, .bool !a.isNone, by simp only [Sem.run_bind, hg, Result.andThen_ok, binOp, eq]; rfl, .b _, ?_⟩
        cases a <;> assumption
    split at h
    · cases hx with
      | emp a => exact both _ _ _ rfl h.1 h.2
    · cases hx with
      | lnil a c => exact both _ _ _ rfl h.1 h.2
      | lst _ _ _ _ _ _ hne => exact absurd rfl hne
    · cases hx with
      | lst =>
        cases op <;> simp at hn
        · exact ⟨.b false, .bool false, by simp only [Sem.run_bind, hg, Result.andThen_ok, binOp, eq]; rfl, .b _, h⟩
        · exact ⟨.b true, .bool true, by simp only [Sem.run_bind, hg, Result.andThen_ok, binOp, eq]; rfl, .b _, h⟩
    · exact h.elim
  · cases hn

def unC (op : UnOp) (x : V) (K : V → Prop) : Prop :=
  match op, x with
  | .neg, .i k n => K (.i k (k.wrap (0 - n)))
  | .not, .b t => K (.b !t)
  | _, _ => False

theorem run_un {P : Program} {op : UnOp} {x : V} {w : World} {ρ : Nat → Nat} {H : List Obj} {K : V → Prop} {vx : Value} (hx : VR w ρ H x vx) (h : unC op x K) :
    ∃ z u, (Op.unary op vx).run P w = .ok u w ∧ VR w ρ H z u ∧ K z := by
  unfold unC at h
  split at h
  · have := hx.inv_i; subst this
    exact ⟨_, _, rfl, .i _ _, h⟩
  · have := hx.inv_b; subst this
    exact ⟨_, _, rfl, .b _, h⟩
  · exact h.elim

def lenC (P : Program) (t : TypeId) (x : V) (H : List Obj) (K : V → Prop) : Prop :=
  match x with
  | .s b => isStr P t = true ∧ K (.i .i64 b.size)
  | .lst es => (selem P t).isSome = true ∧ K (.i .i64 es.length)
  | .emp => (selem P t).isSome = true ∧ K (.i .i64 0)
  | .sl o n _ len _ => (selem P t).isSome = true ∧ (match H[o]? with | some (.row _ es) => es.length = n | _ => False) ∧ K (.i .i64 len)
  | _ => False

theorem run_len {P : Program} {t ty : TypeId} {x : V} {w : World} {ρ : Nat → Nat} {H : List Obj} {K : V → Prop} {vx : Value} (hx : VR w ρ H x vx) (h : lenC P t x H K) :
    ∃ z u, (Builtin.len_ #[t] ty #[vx]).run P w = .ok u w ∧ VR w ρ H z u ∧ K z := by
  have sl : ∀ (n : Nat) a c, vx = .slice a n c → (selem P t).isSome = true → (Builtin.len_ #[t] ty #[vx]).run P w = .ok (.int .i64 n) w := by
    rintro n a c rfl hs
    obtain ⟨e, he⟩ := Option.isSome_iff_exists.1 hs
    simp [Builtin.len_, run_underlying (of_selem he), goInt]
  unfold lenC at h
  split at h
  · obtain ⟨hs, hk⟩ := h
    have := hx.inv_s; subst this
    exact ⟨_, _, by simp [Builtin.len_, run_underlying (of_isStr hs), goInt], .i _ _, hk⟩
  · obtain ⟨hs, hk⟩ := h
    cases hx with
    | lnil a c => exact ⟨_, _, sl _ _ _ rfl hs, .i _ _, hk⟩
    | lst => exact ⟨_, _, sl _ _ _ rfl hs, .i _ _, hk⟩
  · obtain ⟨hs, hk⟩ := h
    cases hx with
    | emp a => exact ⟨_, _, sl _ _ _ rfl hs, .i _ _, hk⟩
  · obtain ⟨hs, hl, hk⟩ := h
    cases hx with
    | sl _ _ _ _ _ _ ho h1 hh =>
      split at hl
      · rename_i k es hr
        obtain ⟨c, tt, sz, rfl, _⟩ := (hh _ _ hr).2 hl
        exact ⟨_, _, sl _ _ _ rfl hs, .i _ _, hk⟩
      · exact hl.elim
  · exact h.elim

def fieldC (P : Program) (t : TypeId) (x : V) (f : Nat) (K : V → Prop) : Prop :=
  match x, fieldOf P t f with
  | .agg cs, some (off, ft) =>
    match tagg P ft with
    | some true => (match csz P ft with | some n => off + n ≤ cs.length ∧ K (.agg ((cs.drop off).take n)) | none => False)
    | some false => (match cs[off]? with | some y => K y | none => False)
    | none => False
  | _, _ => False

theorem run_field {P : Program} {t : TypeId} {f : Nat} {x : V} {w : World} {ρ : Nat → Nat} {H : List Obj} {K : V → Prop} {vx : Value} (hx : VR w ρ H x vx) (h : fieldC P t x f K) :
    ∃ z u, (Instr.field t vx f).run P w = .ok u w ∧ VR w ρ H z u ∧ K z := by
  unfold fieldC at h
  split at h
  · rename_i cs off ft hf
    unfold fieldOf at hf
    split at hf
    · rename_i fs hu
      cases hfs : fs[f]? with
      | none => rw [hfs] at hf; cases hf
      | some fd =>
        rw [hfs] at hf
        simp only [Option.map_some, Option.some.injEq, Prod.mk.injEq] at hf
        obtain ⟨rfl, rfl⟩ := hf
        cases hx with
        | agg _ vs hl hv =>
          split at h
          · rename_i ha
            split at h
            · rename_i n hn
              obtain ⟨hle, hk⟩ := h
              refine ⟨_, .agg (vs.extract fd.offset (fd.offset + n)), ?_, .agg ((cs.drop fd.offset).take n) _ (by simp; omega) ?_, hk⟩
              · simp [Instr.field, run_underlying hu, hfs, asAgg, part, run_isAgg ha, run_sizeOf hn]
              · intro j x v h1 h2
                rw [List.getElem?_take] at h1
                split at h1
                · rw [List.getElem?_drop] at h1
                  rw [Array.getElem?_extract] at h2
                  split at h2
                  · exact hv _ _ _ h1 h2
                  · cases h2
                · cases h1
            · exact h.elim
          · rename_i ha
            split at h
            · rename_i y hy
              have hlt : fd.offset < vs.size := by rw [← hl]; exact (List.getElem?_eq_some_iff.1 hy).1
              refine ⟨y, vs[fd.offset], ?_, hv _ _ _ hy (Array.getElem?_eq_getElem hlt), h⟩
              simp [Instr.field, run_underlying hu, hfs, asAgg, part, run_isAgg ha, hlt]
            · exact h.elim
          · exact h.elim
    · cases hf
  · exact h.elim

end Go.TL
