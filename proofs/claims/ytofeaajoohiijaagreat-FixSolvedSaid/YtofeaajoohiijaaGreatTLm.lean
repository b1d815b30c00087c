/- The tree logic, part thirteen: code, as equations. -/
import Derived.Test.YtofeaajoohiijaaGreatTLl
namespace Go.TL
open Go

def codeC (P : Program) (N : Nat) : Code → Slots → List Obj → Post → Prop
  | .skip, σ, H, Q => Q .normal σ H
  | .label _, σ, H, Q => Q .normal σ H
  | .ret, σ, H, Q => Q .ret σ H
  | .exit id, σ, H, Q => Q (.exit id) σ H
  | .seq a b, σ, H, Q => codeC P N a σ H (fun e σ' H' => match e with | .normal => codeC P N b σ' H' Q | e => Q e σ' H')
  | .cond c a b, σ, H, Q => condW (ev σ c) (codeC P N a σ H Q) (codeC P N b σ H Q)
  | .block id c, σ, H, Q => codeC P N c σ H (blockK id Q)
  | .region _ ops false, σ, H, Q => opsC P N ops.toList ops.toList σ H (Q .normal)
  | c, σ, H, Q => AWP P N c σ H Q

def seqC (P : Program) (N : Nat) (b : Code) (Q : Post) : Post := fun e σ' H' => match e with | .normal => codeC P N b σ' H' Q | e => Q e σ' H'

theorem codeC_sound {P : Program} {N : Nat} : ∀ (c : Code) (σ : Slots) (H : List Obj) (Q : Post), codeC P N c σ H Q → AWP P N c σ H Q := by
  intro c
  induction c with
  | skip => exact fun σ H Q h => .skip h
  | label l => exact fun σ H Q h => .label h
  | ret => exact fun σ H Q h => .ret h
  | exit id => exact fun σ H Q h => .exit h
  | seq a b iha ihb =>
    intro σ H Q h
    refine .seq ((iha σ H _ h).mono fun e σ' H' hq => ?_)
    cases e with
    | normal => exact ihb _ _ _ hq
    | _ => exact hq
  | cond c a b iha ihb =>
    intro σ H Q h
    refine .cond ?_
    simp only [codeC] at h
    unfold condW at h ⊢
    split at h
    · rename_i t ht
      cases t with
      | true => exact iha _ _ _ h
      | false => exact ihb _ _ _ h
    · exact h.elim
  | block id c ih => exact fun σ H Q h => .block (ih _ _ _ h)
  | region id ops draw =>
    intro σ H Q h
    cases draw with
    | false => exact .reg h
    | true => exact h
  | _ => exact fun σ H Q h => h

/-! The kernel is not to look into these: their equations alone say what they are. -/
theorem opX_ex : ∃ f : Program → Op → Slots → List Obj → (V → List Obj → Prop) → Prop, f = opC := ⟨_, rfl⟩
noncomputable def opX := Classical.choose opX_ex
theorem opX_eq : opX = opC := Classical.choose_spec opX_ex
theorem opsX_ex : ∃ f : Program → Nat → List Oper → List Oper → Slots → List Obj → (Slots → List Obj → Prop) → Prop, f = opsC := ⟨_, rfl⟩
noncomputable def opsX := Classical.choose opsX_ex
theorem opsX_eq : opsX = opsC := Classical.choose_spec opsX_ex
theorem opKX_ex : ∃ f : Program → Nat → List Oper → List Oper → Option Nat → Slots → (Slots → List Obj → Prop) → V → List Obj → Prop, f = opK := ⟨_, rfl⟩
noncomputable def opKX := Classical.choose opKX_ex
theorem opKX_eq : opKX = opK := Classical.choose_spec opKX_ex
theorem codeX_ex : ∃ f : Program → Nat → Code → Slots → List Obj → Post → Prop, f = codeC := ⟨_, rfl⟩
noncomputable def codeX := Classical.choose codeX_ex
theorem codeX_eq : codeX = codeC := Classical.choose_spec codeX_ex
theorem seqX_ex : ∃ f : Program → Nat → Code → Post → Post, f = seqC := ⟨_, rfl⟩
noncomputable def seqX := Classical.choose seqX_ex
theorem seqX_eq : seqX = seqC := Classical.choose_spec seqX_ex
theorem blockX_ex : ∃ f : Nat → Post → Post, f = blockK := ⟨_, rfl⟩
noncomputable def blockX := Classical.choose blockX_ex
theorem blockX_eq : blockX = blockK := Classical.choose_spec blockX_ex
theorem updX_ex : ∃ f : Slots → Nat → V → Slots, f = upd := ⟨_, rfl⟩
noncomputable def updX := Classical.choose updX_ex
theorem updX_eq : updX = upd := Classical.choose_spec updX_ex
theorem aputX_ex : ∃ f : Nat → Slots → Option Nat → V → Slots, f = aput := ⟨_, rfl⟩
noncomputable def aputX := Classical.choose aputX_ex
theorem aputX_eq : aputX = aput := Classical.choose_spec aputX_ex

section
variable (P : Program) (N : Nat) (σ : Slots) (H : List Obj) (Q : Post)
theorem codeX_skip : codeX P N .skip σ H Q = Q .normal σ H := by rw [codeX_eq]; rfl
theorem codeX_label (l : Nat) : codeX P N (.label l) σ H Q = Q .normal σ H := by rw [codeX_eq]; rfl
theorem codeX_ret : codeX P N .ret σ H Q = Q .ret σ H := by rw [codeX_eq]; rfl
theorem codeX_exit (id : Nat) : codeX P N (.exit id) σ H Q = Q (.exit id) σ H := by rw [codeX_eq]; rfl
theorem codeX_seq (a b : Code) : codeX P N (.seq a b) σ H Q = codeX P N a σ H (seqX P N b Q) := by rw [codeX_eq, seqX_eq]; rfl
theorem codeX_cond (c : Operand) (a b : Code) : codeX P N (.cond c a b) σ H Q = condW (ev σ c) (codeX P N a σ H Q) (codeX P N b σ H Q) := by rw [codeX_eq]; rfl
theorem codeX_block (id : Nat) (c : Code) : codeX P N (.block id c) σ H Q = codeX P N c σ H (blockX id Q) := by rw [codeX_eq, blockX_eq]; rfl
theorem codeX_region (id : Nat) (ops : List Oper) : codeX P N (.region id ops.toArray false) σ H Q = opsX P N ops ops σ H (Q .normal) := by rw [codeX_eq, opsX_eq]; rfl
theorem codeX_draw (id : Nat) (ops : Array Oper) : codeX P N (.region id ops true) σ H Q = AWP P N (.region id ops true) σ H Q := by rw [codeX_eq]; rfl
theorem codeX_loop (c : Code) : codeX P N (.loop c) σ H Q = AWP P N (.loop c) σ H Q := by rw [codeX_eq]; rfl
theorem seqX_normal (b : Code) : seqX P N b Q .normal σ H = codeX P N b σ H Q := by rw [seqX_eq, codeX_eq]; rfl
theorem seqX_ret (b : Code) : seqX P N b Q .ret σ H = Q .ret σ H := by rw [seqX_eq]; rfl
theorem seqX_exit (b : Code) (id : Nat) : seqX P N b Q (.exit id) σ H = Q (.exit id) σ H := by rw [seqX_eq]; rfl
theorem blockX_normal (id : Nat) : blockX id Q .normal σ H = Q .normal σ H := by rw [blockX_eq]; rfl
theorem blockX_ret (id : Nat) : blockX id Q .ret σ H = Q .ret σ H := by rw [blockX_eq]; rfl
theorem blockX_exit (id id' : Nat) : blockX id Q (.exit id') σ H = if id' = id then Q .normal σ H else Q (.exit id') σ H := by rw [blockX_eq]; rfl
theorem updX_apply (d : Nat) (x : V) (t : Nat) : updX σ d x t = if t = d then x else σ t := by rw [updX_eq]; rfl
theorem aputX_none (x : V) : aputX N σ none x = σ := by rw [aputX_eq]; rfl
theorem aputX_some (d : Nat) (x : V) : aputX N σ (some d) x = if d < N then updX σ d x else σ := by rw [aputX_eq, updX_eq]; rfl

variable (all r : List Oper) (K : Slots → List Obj → Prop)
theorem opKX_apply (d : Option Nat) (x : V) : opKX P N all r d σ K x H = opsX P N all r (aputX N σ d x) H K := by rw [opKX_eq, opsX_eq, aputX_eq]; rfl
theorem opsX_nil : opsX P N all [] σ H K = K σ H := by rw [opsX_eq]; rfl
theorem opsX_cons (dst : Option Tmp) (op : Op) (ty : TypeId) (pos : String) (after : Array Edge) :
    opsX P N all (⟨dst, op, ty, pos, after, none⟩ :: r) σ H K = opX P op σ H (opKX P N all r dst σ K) := by rw [opsX_eq, opX_eq, opKX_eq]; rfl
theorem opsX_guard (dst : Option Tmp) (op : Op) (ty : TypeId) (pos : String) (after : Array Edge) (j : Nat) (want : Bool) :
    opsX P N all (⟨dst, op, ty, pos, after, some (j, want)⟩ :: r) σ H K = match gslot all j with
      | some t => if t < N then guardW (σ t) want (opX P op σ H (opKX P N all r dst σ K)) (opsX P N all r (aputX N σ dst .any) H K) else False
      | none => False := by rw [opsX_eq, opX_eq, opKX_eq, aputX_eq]; rfl

variable (L : V → List Obj → Prop)
theorem opX_move (x : Operand) : opX P (.move x) σ H L = L (ev σ x) H := by rw [opX_eq]; rfl
theorem opX_assign (x : Operand) : opX P (.assign x) σ H L = L (ev σ x) H := by rw [opX_eq]; rfl
theorem opX_pick (c a b : Operand) : opX P (.pick c a b) σ H L = condW (ev σ c) (L (ev σ a) H) (L (ev σ b) H) := by rw [opX_eq]; rfl
theorem opX_alloc (t : TypeId) : opX P (.alloc t) σ H L = allocC P t H L := by rw [opX_eq]; rfl
theorem opX_box (t : TypeId) (x : Operand) : opX P (.box t x) σ H L = boxC (ev σ x) H L := by rw [opX_eq]; rfl
theorem opX_build (t : TypeId) (ps : List (Nat × Operand)) : opX P (.build t ps.toArray) σ H L = buildC P t (ps.map fun p => (p.1, ev σ p.2)) H L := by rw [opX_eq]; rfl
theorem opX_buildSlice (t : TypeId) (n : Nat) (ps : List (Nat × Operand)) : opX P (.buildSlice t n ps.toArray) σ H L = buildSliceC P t n (ps.map fun p => (p.1, ev σ p.2)) H L := by rw [opX_eq]; rfl
theorem opX_load (t : TypeId) (a : Operand) : opX P (.load t a) σ H L = loadC P t (ev σ a) H L := by rw [opX_eq]; rfl
theorem opX_store (t : TypeId) (a x : Operand) : opX P (.store t a x) σ H L = storeC P t (ev σ a) (ev σ x) H L := by rw [opX_eq]; rfl
theorem opX_nil (x : Operand) : opX P (.nilCheck x) σ H L = nilC (ev σ x) H L := by rw [opX_eq]; rfl
theorem opX_bin (op : BinOp) (t : TypeId) (x y : Operand) (u : TypeId) : opX P (.binOp op t x y u) σ H L = if isNilCmp op y = true then nilCmpC P op t (ev σ x) (atH L H) else binC P op t (ev σ x) (ev σ y) (atH L H) := by rw [opX_eq]; rfl
theorem opX_makeMap (t : TypeId) (r : Option Operand) : opX P (.makeMap t r) σ H L = makeMapC (r.map (ev σ)) H L := by rw [opX_eq]; rfl
theorem opX_lookup (t : TypeId) (m k : Operand) (ok : Bool) : opX P (.lookup t m k ok) σ H L = lookupC P t (ev σ m) (ev σ k) ok H (atH L H) := by rw [opX_eq]; rfl
theorem opX_mapUpdate (t : TypeId) (m k x : Operand) : opX P (.mapUpdate t m k x) σ H L = mapUpdateC P t (ev σ m) (ev σ k) (ev σ x) H L := by rw [opX_eq]; rfl
theorem opX_insert (t : TypeId) (m k x : Operand) : opX P (.insert t m k x) σ H L = mapUpdateC P t (ev σ m) (ev σ k) (ev σ x) H L := by rw [opX_eq]; rfl
theorem opX_un (op : UnOp) (t : TypeId) (x : Operand) : opX P (.unOp op t x) σ H L = unC op (ev σ x) (atH L H) := by rw [opX_eq]; rfl
theorem opX_convert (s d : TypeId) (x : Operand) : opX P (.convert s d x) σ H L = convC P s d (ev σ x) (atH L H) := by rw [opX_eq]; rfl
theorem opX_makeFunc (fn : Go.Fn) (first captured : List Operand) : opX P (.makeFunc fn first.toArray captured.toArray) σ H L = makeFuncC fn (first.map (ev σ)) (captured.map (ev σ)) (atH L H) := by rw [opX_eq]; rfl
theorem opX_makeSlice (t : TypeId) (l c : Operand) : opX P (.makeSlice t l c) σ H L = makeSliceC P t (ev σ l) (ev σ c) H L := by rw [opX_eq]; rfl
theorem opX_slice (t : TypeId) (x : Operand) (lo hi mx : Option Operand) : opX P (.slice t x lo hi mx) σ H L = sliceC P t (ev σ x) (lo.map (ev σ)) (hi.map (ev σ)) (mx.map (ev σ)) H L := by rw [opX_eq]; rfl
theorem opX_fieldAddr (s : TypeId) (x : Operand) (f : Nat) : opX P (.fieldAddr s x f) σ H L = fieldAddrC P s (ev σ x) f H L := by rw [opX_eq]; rfl
theorem opX_field (t : TypeId) (x : Operand) (f : Nat) : opX P (.field t x f) σ H L = fieldC P t (ev σ x) f (atH L H) := by rw [opX_eq]; rfl
theorem opX_indexAddr (t : TypeId) (x ix : Operand) : opX P (.indexAddr t x ix) σ H L = indexAddrC P t (ev σ x) (ev σ ix) H L := by rw [opX_eq]; rfl
theorem opX_index (t : TypeId) (x ix : Operand) : opX P (.index t x ix) σ H L = strIndexC P t (ev σ x) (ev σ ix) (atH L H) := by rw [opX_eq]; rfl
theorem opX_extract (x : Operand) (i : Nat) : opX P (.extract x i) σ H L = extractC (ev σ x) i (atH L H) := by rw [opX_eq]; rfl
theorem opX_call (f : Operand) (args : List Operand) (ts : Array TypeId) : opX P (.call { callee := .value f, args := args.toArray, argTypes := ts }) σ H L = callC P (ev σ f) (args.map (ev σ)) H L := by rw [opX_eq]; rfl
theorem opX_builtin (b : Builtin) (args : List Operand) (ts : List TypeId) : opX P (.call { callee := .builtin b, args := args.toArray, argTypes := ts.toArray }) σ H L = biC P b (args.map (ev σ)) ts H L := by rw [opX_eq]; rfl
end

def loopK (I : Nat → Slots → List Obj → Prop) (n : Nat) (Q : Post) : Post := fun e σ' H' => match e with | .normal => ∃ m, m < n ∧ I m σ' H' | e => Q e σ' H'
theorem loopK_normal (I : Nat → Slots → List Obj → Prop) (n : Nat) (Q : Post) (σ : Slots) (H : List Obj) : loopK I n Q .normal σ H = ∃ m, m < n ∧ I m σ H := rfl
theorem loopK_ret (I : Nat → Slots → List Obj → Prop) (n : Nat) (Q : Post) (σ : Slots) (H : List Obj) : loopK I n Q .ret σ H = Q .ret σ H := rfl
theorem loopK_exit (I : Nat → Slots → List Obj → Prop) (n : Nat) (Q : Post) (id : Nat) (σ : Slots) (H : List Obj) : loopK I n Q (.exit id) σ H = Q (.exit id) σ H := rfl

theorem AWP.loopC {P : Program} {N : Nat} {c : Code} {σ : Slots} {H : List Obj} {Q : Post} (I : Nat → Slots → List Obj → Prop) (n : Nat) (h₀ : I n σ H)
    (round : ∀ n σ H, I n σ H → codeX P N c σ H (loopK I n Q)) : AWP P N (.loop c) σ H Q :=
  AWP.loop I n h₀ fun n σ H hI => codeC_sound _ _ _ _ (codeX_eq ▸ round n σ H hI)

def retR (P : Program) (rs : List ResultVar) (σ : Slots) (H : List Obj) (k : V → List Obj → Prop) : Prop :=
  match rs with
  | [.tmp t] => k (σ t) H
  | [.tmp t, .tmp u] => k (.tup [σ t, σ u]) H
  | [.tmp t, .tmp u, .tmp v] => k (.tup [σ t, σ u, σ v]) H
  | [.tmp t, .tmp u, .tmp v, .tmp x] => k (.tup [σ t, σ u, σ v, σ x]) H
  | [.tmp t, .tmp u, .tmp v, .tmp x, .tmp y] => k (.tup [σ t, σ u, σ v, σ x, σ y]) H
  | [] => k (.tup []) H
  | [.cell a t] => loadC P t (σ a) H k
  | [.cell a t, .tmp u] => loadC P t (σ a) H fun x H' => k (.tup [x, σ u]) H'
  | [.cell a t, .tmp u, .tmp v] => loadC P t (σ a) H fun x H' => k (.tup [x, σ u, σ v]) H'
  | _ => False

theorem loadC_heap {P : Program} {t : TypeId} {x : V} {H : List Obj} {K : V → List Obj → Prop} (h : loadC P t x H K) : loadC P t x H fun y H' => H' = H ∧ K y H := by
  unfold loadC at h ⊢
  split at h
  · split at h
    · exact ⟨rfl, h⟩
    · exact h.elim
  · split at h
    · exact ⟨h.1, rfl, h.2⟩
    · exact h.elim
  · exact h.elim

theorem run_loadVar {P : Program} {t : TypeId} {x : V} {w : World} {ρ : Nat → Nat} {H : List Obj} {K : V → List Obj → Prop} (s : Sim ρ H w) {v : Value} (hv : VR w ρ H x v) (h : loadC P t x H K) :
    ∃ y u ad, v = .pointer (some ad) ∧ (loadVar t ad).run P w = .ok u w ∧ VR w ρ H y u ∧ K y H := by
  obtain ⟨y, u, h1, h2, h3⟩ := run_loadAt s hv h
  have : ∃ b, behind H x = some b := by
    unfold loadC at h
    split at h
    · rename_i cs hb _; exact ⟨_, hb⟩
    · rename_i cs hb _; exact ⟨_, hb⟩
    · exact h.elim
  obtain ⟨b, hb⟩ := this
  obtain ⟨blk, off, rfl, -⟩ := hv.behind s hb
  exact ⟨y, u, _, rfl, by simpa [Instr.loadAt, Instr.sureAddr] using h1, h2, h3⟩

/-- What is wanted where a function ends: of its results and the objects. -/
def retK (P : Program) (rs : List ResultVar) (R : V → List Obj → Prop) : Post
  | .normal, σ, H => retR P rs σ H R
  | .ret, σ, H => retR P rs σ H R
  | _, _, _ => False
theorem retK_normal (P : Program) (rs : List ResultVar) (R : V → List Obj → Prop) (σ : Slots) (H : List Obj) : retK P rs R .normal σ H = retR P rs σ H R := rfl
theorem retK_ret (P : Program) (rs : List ResultVar) (R : V → List Obj → Prop) (σ : Slots) (H : List Obj) : retK P rs R .ret σ H = retR P rs σ H R := rfl

theorem results_ofR {P : Program} {fn : Func} {rs : List ResultVar} (hr : fn.results.toList = rs) {σ : Slots} {H : List Obj} {ρ : Nat → Nat} {a : Act} {w : World} {N : Nat} (hs : SimA N σ H ρ a w) {R : V → List Obj → Prop} (h : retR P rs σ H R) :
    ∃ v x, (results fn a.tmps).run P w = .ok v w ∧ VR w ρ H x v ∧ R x H := by
  obtain ⟨nm, og, ta, pa, rt, nf, nt, res, bd, nr, ou, fi, el, ln, me, tn⟩ := fn
  obtain ⟨res⟩ := res
  subst hr
  unfold retR at h
  simp only at h
  have pick : ∀ a' t (K : V → List Obj → Prop), loadC P t (σ a') H K → ∃ y u ad, a.tmps[a']?.getD undef = .pointer (some ad) ∧ (loadVar t ad).run P w = .ok u w ∧ VR w ρ H y u ∧ K y H :=
    fun a' t K h => run_loadVar hs.sim (by simpa using hs.slot a') h
  split at h
  · exact ⟨_, _, by simp [results], hs.slot _, h⟩
  case h_7 =>
    rename_i l a' t
    obtain ⟨y, u, ad, h0, h1, h2, h3⟩ := pick _ _ _ h
    exact ⟨u, y, by simp [results, h0, asAddr, h1], h2, h3⟩
  case h_8 =>
    rename_i l a' t u'
    obtain ⟨y, u, ad, h0, h1, h2, h3⟩ := pick _ _ _ h
    refine ⟨.tuple #[u, a.tmps.getD u' undef], _, by simp [results, h0, asAddr, h1], .tup _ _ rfl (fun j x v g1 g2 => ?_), h3⟩
    rcases j with _ | _ | j <;> simp at g1 g2
    · subst g1; subst g2; exact h2
    · subst g1; subst g2; simpa using hs.slot _
  case h_9 =>
    rename_i l a' t u' v'
    obtain ⟨y, u, ad, h0, h1, h2, h3⟩ := pick _ _ _ h
    refine ⟨.tuple #[u, a.tmps.getD u' undef, a.tmps.getD v' undef], _, by simp [results, h0, asAddr, h1], .tup _ _ rfl (fun j x v g1 g2 => ?_), h3⟩
    rcases j with _ | _ | _ | j <;> simp at g1 g2
    · subst g1; subst g2; exact h2
    · subst g1; subst g2; simpa using hs.slot _
    · subst g1; subst g2; simpa using hs.slot _
  all_goals first
    | exact h.elim
    | exact ⟨_, _, by simp [results]; rfl, .tup _ _ rfl (fun j x v h1 h2 => by
        rcases j with _ | _ | _ | _ | _ | j <;> simp at h1 h2 <;> (try subst h1) <;> (try subst h2) <;> first | exact hs.slot _ | (simpa using hs.slot _)), h⟩

theorem Fn.ofC {P : Program} {f : FuncId} {fn : Func} {args : List V} {H : List Obj} {R : V → List Obj → Prop} (hf : P.funcs[f]? = some fn) (N : Nat) (c : Code) (rs : List ResultVar) (hN : fn.ntmps = N)
    (hb : fn.body = some c) (hr : fn.results.toList = rs) (hgood : goodFn P f = true) (hn : args.length ≤ N) (h : codeX P N c (argSlots args) H (retK P rs R)) : Fn P f args H R := by
  subst hN
  rw [codeX_eq] at h
  refine .of_body' hf hb hgood hn (retK P rs R) (fun σ H ρ a w hs hq => results_ofR hr hs (hq.elim id id)) (fun e σ H h1 h2 hq => ?_) (codeC_sound _ _ _ _ h)
  cases e <;> first | exact h1 rfl | exact h2 rfl | exact hq

theorem Fn.ofB {P : Program} {f : FuncId} {fn : Func} {args : List V} {H : List Obj} {R : V → List Obj → Prop} (hf : P.funcs[f]? = some fn) (N : Nat) (rs : List ResultVar) (hN : fn.ntmps = N)
    (hb : fn.body.isSome = true) (hr : fn.results.toList = rs) (hgood : goodFn P f = true) (hn : args.length ≤ N) (h : codeX P N (fn.body.getD .skip) (argSlots args) H (retK P rs R)) : Fn P f args H R := by
  obtain ⟨c, hc⟩ := Option.isSome_iff_exists.1 hb
  rw [hc] at h
  exact .ofC hf N c rs hN hc hr hgood hn h

/-! One equation a constructor: of a value that is not told these stay folded. -/
section
variable (P : Program) (t : TypeId) (H : List Obj) (K : V → List Obj → Prop) (L : V → Prop)
theorem behind_iptr (cs : List V) : behind H (.iptr cs) = some cs := rfl
theorem behind_ptr (o n i j : Nat) : behind H (.ptr o n i j) = match H[o]? with
    | some (.row _ es) => if es.length = n then (es[i]?).map fun e => (cellsOf e).drop j else none
    | _ => none := rfl
theorem loadC_iptr (cs : List V) : loadC P t (.iptr cs) H K = match some cs, tagg P t with
  | some cs, some false => match cs with | c :: _ => K c H | [] => False
  | some cs, some true => match csz P t with | some n => n ≤ cs.length ∧ K (.agg (cs.take n)) H | none => False
  | _, _ => False := rfl
theorem loadC_ptr (o n i j : Nat) : loadC P t (.ptr o n i j) H K = match behind H (.ptr o n i j), tagg P t with
  | some cs, some false => match cs with | c :: _ => K c H | [] => False
  | some cs, some true => match csz P t with | some n => n ≤ cs.length ∧ K (.agg (cs.take n)) H | none => False
  | _, _ => False := rfl
theorem indexAddrC_lst (es : List V) (k : IntKind) (i : Int) : indexAddrC P t (.lst es) (.i k i) H K = match selem P t with
  | some e => match csz P e with
    | some k => 0 ≤ i ∧ match es[i.toNat]? with
        | some y => (cellsOf y).length = k ∧ K (.iptr (cellsOf y)) H
        | none => False
    | none => False
  | none => False := by unfold indexAddrC; cases selem P t <;> rfl
theorem indexAddrC_sl (o n off len : Nat) (c : Option Nat) (k : IntKind) (i : Int) : indexAddrC P t (.sl o n off len c) (.i k i) H K = match selem P t with
  | some e => match csz P e with
    | some k => 0 ≤ i ∧ i < len ∧ match H[o]? with
        | some (.row k' es) => k' = k ∧ es.length = n ∧ K (.ptr o n (off + i.toNat) 0) H
        | _ => False
    | none => False
  | none => False := by unfold indexAddrC; cases selem P t <;> rfl
theorem lenC_s (b : ByteArray) : lenC P t (.s b) H L = (isStr P t = true ∧ L (.i .i64 b.size)) := rfl
theorem lenC_lst (es : List V) : lenC P t (.lst es) H L = ((selem P t).isSome = true ∧ L (.i .i64 es.length)) := rfl
theorem lenC_emp : lenC P t .emp H L = ((selem P t).isSome = true ∧ L (.i .i64 0)) := rfl
theorem lenC_sl (o n off len : Nat) (c : Option Nat) : lenC P t (.sl o n off len c) H L = ((selem P t).isSome = true ∧ (match H[o]? with | some (.row _ es) => es.length = n | _ => False) ∧ L (.i .i64 len)) := rfl
end

attribute [simp] codeX_skip codeX_label codeX_ret codeX_exit codeX_seq codeX_cond codeX_block codeX_region codeX_loop codeX_draw seqX_normal seqX_ret seqX_exit blockX_normal blockX_ret blockX_exit
  loopK_normal loopK_ret loopK_exit retK_normal retK_ret retR opsX_nil opsX_cons opsX_guard opKX_apply atH_apply ev ofV updX_apply aputX_none aputX_some condW guardW gslot loadC_iptr loadC_ptr behind_iptr behind_ptr fieldAddrC indexAddrC_lst indexAddrC_sl
  opX_move opX_assign opX_pick opX_alloc opX_box opX_build opX_buildSlice opX_load opX_store opX_nil opX_bin opX_un opX_convert opX_makeFunc opX_makeSlice opX_slice opX_fieldAddr opX_field opX_indexAddr opX_index
  opX_extract opX_call opX_builtin sliceC bnd
  slRes storeC boxC allocC buildSliceC buildC buildV binC intBin strBin unC lenC_s lenC_lst lenC_emp lenC_sl fieldC nilC convC extractC strIndexC min2C max2C makeSliceC makeFuncC callC biC appendC elems_lst elems_emp elems_row isSl_lst isSl_emp isSl_row lenV_sl lenV_lst lenV_emp cellsOf_i storable_i boxable_i cellsOf_b storable_b boxable_b cellsOf_s storable_s boxable_s cellsOf_emp storable_emp boxable_emp cellsOf_lst storable_lst boxable_lst cellsOf_agg storable_agg boxable_agg cellsOf_sl storable_sl boxable_sl cellsOf_ptr storable_ptr boxable_ptr cellsOf_iptr storable_iptr boxable_iptr cellsOf_map storable_map boxable_map cellsOf_clo storable_clo boxable_clo cellsOf_raw storable_raw boxable_raw
  mkEl splice argSlots opX_makeMap opX_lookup opX_mapUpdate opX_insert makeMapC lookupC mapUpdateC deleteC clearC isNilCmp nilCmpC mres eqInts

end Go.TL
