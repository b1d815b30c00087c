/- The tree logic, part eleven: an operation's walk, and a region's. -/
import Derived.Test.YtofeaajoohiijaaGreatTLj
namespace Go.TL
open Go

theorem nil_ok {P : Program} {o : Oper} {a : Act} {w : World} {q : Operand} (ho : o.op = .nilCheck q) {v : Value} (hq : a.eval q = v)
    (hv : (∃ ad, v = .pointer (some ad)) ∨ ∃ f c, v = .func (.func f) #[] c) : (execOp a.eval o).run P w = .ok (.value v) w := by
  rcases hv with ⟨ad, rfl⟩ | ⟨f, c, rfl⟩ <;> simp [execOp, ho, hq]

theorem opC_sound {P : Program} {N : Nat} {o : Oper} {σ : Slots} {H : List Obj} {K : V → List Obj → Prop} (h : opC P o.op σ H K) : OpW P N o σ H K := by
  intro a w ρ hs next Q kk
  unfold opC at h
  split at h
  case h_1 x ho => exact wp_value hs kk ⟨_, _, by simp [execOp, ho], hs.ev x, h⟩
  case h_2 x ho => exact wp_value hs kk ⟨_, _, by simp [execOp, ho], hs.ev x, h⟩
  case h_3 c x y ho =>
    have hc := hs.ev c
    unfold condW at h
    split at h
    · rename_i t ht
      rw [ht] at hc
      have hc' := hc.inv_b
      cases t with
      | true => exact wp_value hs kk ⟨_, _, by simp [execOp, ho, hc', asBool], hs.ev x, by simpa using h⟩
      | false => exact wp_value hs kk ⟨_, _, by simp [execOp, ho, hc', asBool], hs.ev y, by simpa using h⟩
    · exact h.elim
  case h_4 t ho =>
    obtain ⟨y, u, w', ρ', H', hr, r⟩ := run_alloc (P := P) hs.sim h
    exact wp_value' kk ⟨y, u, w', ρ', H', by simp [execOp, ho, hr], r⟩
  case h_5 t x ho =>
    obtain ⟨y, u, w', ρ', H', hr, r⟩ := run_box (P := P) (t := t) hs.sim (hs.ev x) h
    exact wp_value' kk ⟨y, u, w', ρ', H', by simp [execOp, ho, hr], r⟩
  case h_6 t ps ho =>
    obtain ⟨e1, e2, e3⟩ := parts_eq hs ps
    obtain ⟨y, u, hr, r⟩ := run_buildC (P := P) e2 e3 h
    exact wp_value hs kk ⟨y, u, by simp only [execOp, ho, e1]; simp [hr], r⟩
  case h_7 t n ps ho =>
    obtain ⟨e1, e2, e3⟩ := parts_eq hs ps
    obtain ⟨y, u, w', hr, r1, r2, r3, r4⟩ := run_buildSlice (P := P) hs.sim e2 e3 h
    exact wp_value' kk ⟨y, u, w', ρ, H, by simp only [execOp, ho, e1]; simp [hr], r1, r2, r3, r4⟩
  case h_8 t x ho =>
    obtain ⟨y, u, hr, r⟩ := run_loadAt (P := P) hs.sim (hs.ev x) h
    exact wp_value hs kk ⟨y, u, by simp [execOp, ho, hr], r⟩
  case h_9 t ad x ho =>
    obtain ⟨w', ρ', H', hr, s', g, hk⟩ := run_storeAt (P := P) hs.sim (hs.ev ad) (hs.ev x) h
    unfold Oper.wp
    have : (execOp a.eval o).run P w = .ok .skip w' := by simp [execOp, ho, hr]
    rw [this]
    exact kk _ w' ρ' _ H' hk s' g (.any _)
  case h_10 x ho =>
    have hv := hs.ev x
    unfold nilC at h
    split at h
    · rename_i cs hx
      rw [hx] at hv
      have : ∃ ad, a.eval x = .pointer (some ad) := by
        generalize a.eval x = v at hv
        cases hv with
        | iptr => exact ⟨_, rfl⟩
      exact wp_value hs kk ⟨_, _, nil_ok ho rfl (.inl this), hs.ev x, h⟩
    · rename_i o' n i j hx
      obtain ⟨hb, hk⟩ := h
      obtain ⟨cs, hcs⟩ := Option.isSome_iff_exists.1 hb
      rw [hx] at hv
      obtain ⟨blk, off, e, _⟩ := hv.behind hs.sim hcs
      exact wp_value hs kk ⟨_, _, nil_ok ho rfl (.inl ⟨_, e⟩), hs.ev x, hk⟩
    · rename_i f cs hx
      rw [hx] at hv
      have : ∃ f c, a.eval x = .func (.func f) #[] c := by
        generalize a.eval x = v at hv
        cases hv with
        | clo => exact ⟨_, _, rfl⟩
      exact wp_value hs kk ⟨_, _, nil_ok ho rfl (.inr this), hs.ev x, h⟩
    · exact h.elim
  case h_11 op t x y yt ho =>
    split at h
    · rename_i hn
      obtain ⟨c, rfl, z, u, hr, hv, hk⟩ := run_nilCmp (P := P) (ox := x) hn (hs.ev x) h
      refine wp_value hs kk ⟨z, u, ?_, hv, hk⟩
      simp only [execOp, ho]
      rw [Sem.run_bind, show a.eval (.const c) = c from rfl, hr]
      rfl
    obtain ⟨z, u, hr, hv, hk⟩ := run_bin (P := P) (ox := x) (oy := y) (hs.ev x) (hs.ev y) h
    refine wp_value hs kk ⟨z, u, ?_, hv, hk⟩
    simp only [execOp, ho]
    rw [Sem.run_bind, hr]
    rfl
  case h_12 op t x ho =>
    obtain ⟨z, u, hr, hv, hk⟩ := run_un (P := P) (hs.ev x) h
    exact wp_value hs kk ⟨z, u, by simp [execOp, ho, hr], hv, hk⟩
  case h_13 s d x ho =>
    have hv := hs.ev x
    unfold convC at h
    split at h
    · rename_i k0 n k hx hd
      obtain ⟨hsd, hk⟩ := h
      rw [hx] at hv
      have hx' := hv.inv_i
      obtain ⟨ds, hds⟩ := Option.isSome_iff_exists.1 hsd
      refine wp_value hs kk ⟨_, _, ?_, .i _ _, hk⟩
      cases ds <;> simp [execOp, ho, convert, run_underlying hds, run_underlying hd, hx', Conv.intToInt] <;> rfl
    · exact h.elim
  case h_14 fn first captured ho =>
    unfold makeFuncC at h
    split at h
    · rename_i f hf
      have hfe : first = #[] := by
        have := congrArg List.length hf
        simp at this
        exact this
      subst hfe
      have hvs := VRs_map hs captured
      refine wp_value hs kk ⟨_, .func (.func f) #[] (captured.map a.eval), by simp [execOp, ho, Instr.makeFunc], .clo f _ _ hvs.1 hvs.2, h⟩
    · exact h.elim
  case h_15 t l c ho =>
    obtain ⟨y, u, w', ρ', H', hr, r⟩ := run_makeSlice (P := P) hs.sim (hs.ev l) (hs.ev c) h
    exact wp_value' kk ⟨y, u, w', ρ', H', by simp [execOp, ho, hr], r⟩
  case h_16 t x lo hi mx ho =>
    obtain ⟨a1, a2⟩ := opt_eq hs lo
    obtain ⟨b1, b2⟩ := opt_eq hs hi
    obtain ⟨c1, c2⟩ := opt_eq hs mx
    obtain ⟨y, u, hr, r⟩ := run_sliceAt (P := P) (hs.ev x) a1 a2 b1 b2 c1 c2 h
    exact wp_value hs kk ⟨y, u, by simp [execOp, ho, hr], r⟩
  case h_17 s x f ho =>
    obtain ⟨y, u, hr, r⟩ := run_fieldAt (P := P) (hs.ev x) h
    exact wp_value hs kk ⟨y, u, by simp [execOp, ho, hr], r⟩
  case h_18 t x f ho =>
    obtain ⟨y, u, hr, r⟩ := run_field (P := P) (hs.ev x) h
    exact wp_value hs kk ⟨y, u, by simp [execOp, ho, hr], r⟩
  case h_19 t x ix ho =>
    obtain ⟨y, u, hr, r⟩ := run_indexAt (P := P) (hs.ev x) (hs.ev ix) h
    exact wp_value hs kk ⟨y, u, by simp [execOp, ho, hr], r⟩
  case h_20 t x ix ho =>
    have hv := hs.ev x
    have hi := hs.ev ix
    unfold strIndexC at h
    split at h
    · rename_i b k i hx hix
      obtain ⟨hst, h0, h1, hk⟩ := h
      rw [hx] at hv; rw [hix] at hi
      have e1 := hv.inv_s; have e2 := hi.inv_i
      have hlt : i.toNat < b.size := by omega
      have hb : b[i.toNat]? = some (b.get! i.toNat) := by
        rw [getElem?_pos b i.toNat hlt]
        have hlt' : i.toNat < b.data.size := hlt
        exact congrArg some (getElem!_pos b.data i.toNat hlt').symm
      refine wp_value hs kk ⟨_, .int .u8 (b.get! i.toNat).toNat, ?_, .i _ _, hk⟩
      simp [execOp, ho, e1, e2, Instr.index, asIntOf, run_underlying (of_isStr hst), h0, hb]
    · exact h.elim
  case h_21 x i ho =>
    have hv := hs.ev x
    unfold extractC at h
    split at h
    · rename_i vs hx
      rw [hx] at hv
      split at h
      · rename_i y hy
        generalize hq : a.eval x = v at hv
        cases hv with
        | tup _ us hl hvv =>
          have hlt : i < us.size := by rw [← hl]; exact (List.getElem?_eq_some_iff.1 hy).1
          refine wp_value hs kk ⟨y, us[i], ?_, hvv _ _ _ hy (Array.getElem?_eq_getElem hlt), h⟩
          simp [execOp, ho, hq, Instr.extract, hlt]
      · exact h.elim
    · exact h.elim
  case h_22 t r ho =>
    obtain ⟨hr0, hK⟩ := h
    cases r with
    | some r => cases hr0
    | none =>
      obtain ⟨y, u, w', ρ', H', hr, rr⟩ := run_makeMap (P := P) (t := t) hs.sim ⟨rfl, hK⟩
      exact wp_value' kk ⟨y, u, w', ρ', H', by simp [execOp, ho, hr], rr⟩
  case h_23 t m k ok ho =>
    obtain ⟨y, u, hr, r⟩ := run_lookup (P := P) hs.sim (hs.ev m) (hs.ev k) h
    exact wp_value hs kk ⟨y, u, by simp [execOp, ho, hr], r⟩
  case h_24 t m k x ho =>
    obtain ⟨w', H', hr, s', g, hk⟩ := run_mapUpdate (P := P) hs.sim (hs.ev m) (hs.ev k) (hs.ev x) h
    unfold Oper.wp
    have : (execOp a.eval o).run P w = .ok .skip w' := by simp [execOp, ho, hr]
    rw [this]
    exact kk _ w' ρ _ H' hk s' g (.any _)
  case h_25 t m k x ho =>
    obtain ⟨w', H', hr, s', g, hk⟩ := run_mapUpdate (P := P) hs.sim (hs.ev m) (hs.ev k) (hs.ev x) h
    unfold Oper.wp
    have : (execOp a.eval o).run P w = .ok .skip w' := by simp [execOp, ho, hr]
    rw [this]
    exact kk _ w' ρ _ H' hk s' g (.any _)
  case h_26 f args ts ho =>
    have hv := hs.ev f
    unfold callC at h
    split at h
    · rename_i fid caps hf
      rw [hf] at hv
      generalize hq : a.eval f = v at hv
      cases hv with
      | clo _ _ us hl hvv =>
        have hcall := h.2 w ρ (args.map a.eval ++ us) hs.sim (VRs.append (VRs_map hs args) ⟨hl, hvv⟩)
        have hg := h.1
        have hrun : (execOp a.eval o).run P w = .ok (.enter fid (args.map a.eval ++ us)) w := by
          unfold goodFn at hg
          cases hfn : P.funcs[fid]? with
          | none => rw [hfn] at hg; cases hg
          | some fn =>
            rw [hfn] at hg
            simp only [Bool.and_eq_true, bne_iff_ne, ne_eq] at hg
            obtain ⟨g1, g2⟩ := hg
            have g2' : fn.body ≠ none := by intro hb; rw [hb] at g2; cases g2
            simp [execOp, ho, resolve, hq, Deferred.ofValue, invoke, callFunc, hfn, g1, g2']
        unfold Oper.wp
        rw [hrun]
        refine hcall.mono ?_
        rintro e w' ⟨v, x, ρ', H', rfl, hx, s', g, hk⟩
        exact kk v w' ρ' x H' hk s' g hx
    · exact h.elim
  case h_27 b args ts ho =>
    obtain ⟨args⟩ := args
    obtain ⟨ts⟩ := ts
    simp only at h
    unfold biC at h
    split at h
    · rename_i x t ha
      match args, ha with
      | [y], ha =>
        simp at ha
        obtain ⟨z, u, hr, hv, hk⟩ := run_len (P := P) (t := t) (ty := o.type) (ha ▸ hs.ev y) h
        exact wp_value hs kk ⟨z, u, by simp [execOp, ho, resolve, invoke, builtin, hr], hv, hk⟩
    · rename_i x y t t' ha
      match args, ha with
      | [p, q], ha =>
        simp at ha
        obtain ⟨r, u, w', ρ', H', hr, rr⟩ := run_append (P := P) (t := t) (t' := t') (ty := o.type) hs.sim (ha.1 ▸ hs.ev p) (ha.2 ▸ hs.ev q) h
        exact wp_value' kk ⟨r, u, w', ρ', H', by simp [execOp, ho, resolve, invoke, builtin, hr], rr⟩
    · rename_i x y ha
      match args, ha with
      | [p, q], ha =>
        simp at ha
        unfold min2C at h
        split at h
        · obtain ⟨rfl, hk⟩ := h
          have e1 := (ha.1 ▸ hs.ev p).inv_i
          have e2 := (ha.2 ▸ hs.ev q).inv_i
          exact wp_value hs kk ⟨_, _, by simp [execOp, ho, resolve, invoke, builtin, Builtin.min_, e1, e2, Builtin.min2]; rfl, .i _ _, hk⟩
        · exact h.elim
    · rename_i x y ha
      match args, ha with
      | [p, q], ha =>
        simp at ha
        unfold max2C at h
        split at h
        · obtain ⟨rfl, hk⟩ := h
          have e1 := (ha.1 ▸ hs.ev p).inv_i
          have e2 := (ha.2 ▸ hs.ev q).inv_i
          exact wp_value hs kk ⟨_, _, by simp [execOp, ho, resolve, invoke, builtin, Builtin.max_, e1, e2, Builtin.max2]; rfl, .i _ _, hk⟩
        · exact h.elim
    · rename_i m k t t' ha
      match args, ha with
      | [p, q], ha =>
        simp at ha
        obtain ⟨r, u, w', ρ', H', hr, rr⟩ := run_delete (P := P) (t := t) (t' := t') (ty := o.type) hs.sim (ha.1 ▸ hs.ev p) (ha.2 ▸ hs.ev q) h
        exact wp_value' kk ⟨r, u, w', ρ', H', by simp [execOp, ho, resolve, invoke, builtin, hr], rr⟩
    · rename_i x t ha
      match args, ha with
      | [p], ha =>
        simp at ha
        obtain ⟨r, u, w', ρ', H', hr, rr⟩ := run_clear (P := P) (t := t) (ty := o.type) hs.sim (ha ▸ hs.ev p) h
        exact wp_value' kk ⟨r, u, w', ρ', H', by simp [execOp, ho, resolve, invoke, builtin, hr], rr⟩
    · exact h.elim
  case h_28 => exact h.elim

/-! ### Regions -/

def opsC (P : Program) (N : Nat) (all : List Oper) : List Oper → Slots → List Obj → (Slots → List Obj → Prop) → Prop
  | [], σ, H, K => K σ H
  | o :: r, σ, H, K =>
    match o.guard with
    | none => opC P o.op σ H fun x H' => opsC P N all r (aput N σ o.dst x) H' K
    | some (j, want) =>
      match gslot all j with
      | some t => if t < N then guardW (σ t) want (opC P o.op σ H fun x H' => opsC P N all r (aput N σ o.dst x) H' K) (opsC P N all r (aput N σ o.dst .any) H K) else False
      | none => False

/-- What comes behind an operation: not looked into until what it yields is there. -/
def opK (P : Program) (N : Nat) (all r : List Oper) (d : Option Nat) (σ : Slots) (K : Slots → List Obj → Prop) : V → List Obj → Prop :=
  fun x H' => opsC P N all r (aput N σ d x) H' K
theorem opK_apply (P : Program) (N : Nat) (all r : List Oper) (d : Option Nat) (σ : Slots) (K : Slots → List Obj → Prop) (x : V) (H : List Obj) :
    opK P N all r d σ K x H = opsC P N all r (aput N σ d x) H K := rfl
theorem opsC_nil (P : Program) (N : Nat) (all : List Oper) (σ : Slots) (H : List Obj) (K : Slots → List Obj → Prop) : opsC P N all [] σ H K = K σ H := rfl
theorem opsC_cons (P : Program) (N : Nat) (all r : List Oper) (dst : Option Tmp) (op : Op) (ty : TypeId) (pos : String) (after : Array Edge) (σ : Slots) (H : List Obj) (K : Slots → List Obj → Prop) :
    opsC P N all (⟨dst, op, ty, pos, after, none⟩ :: r) σ H K = opC P op σ H (opK P N all r dst σ K) := rfl
theorem opsC_guard (P : Program) (N : Nat) (all r : List Oper) (dst : Option Tmp) (op : Op) (ty : TypeId) (pos : String) (after : Array Edge) (j : Nat) (want : Bool) (σ : Slots) (H : List Obj) (K : Slots → List Obj → Prop) :
    opsC P N all (⟨dst, op, ty, pos, after, some (j, want)⟩ :: r) σ H K = match gslot all j with
      | some t => if t < N then guardW (σ t) want (opC P op σ H (opK P N all r dst σ K)) (opsC P N all r (aput N σ dst .any) H K) else False
      | none => False := rfl

theorem opsC_sound {P : Program} {N : Nat} {all : List Oper} {K : Slots → List Obj → Prop} : ∀ (ops : List Oper) (σ : Slots) (H : List Obj), opsC P N all ops σ H K → opsW P N all ops σ H K
  | [], _, _, h => h
  | o :: r, σ, H, h => by
    have step : (opC P o.op σ H fun x H' => opsC P N all r (aput N σ o.dst x) H' K) → OpW P N o σ H fun x H' => opsW P N all r (aput N σ o.dst x) H' K := by
      intro h
      intro a w ρ hs next Q kk
      exact opC_sound h a w ρ hs next Q fun v w' ρ' x H' hk => kk v w' ρ' x H' (opsC_sound r _ _ hk)
    simp only [opsC, opsW] at h ⊢
    split
    · rename_i hg
      rw [hg] at h
      exact step h
    · rename_i j want hg
      rw [hg] at h
      simp only at h
      split
      · rename_i t ht
        rw [ht] at h
        simp only at h
        split
        · rename_i htN
          rw [if_pos htN] at h
          unfold guardW at h ⊢
          split
          · rename_i b hb
            rw [hb] at h
            simp only at h
            split
            · rename_i hw; rw [if_pos hw] at h; exact step h
            · rename_i hw; rw [if_neg hw] at h; exact opsC_sound r _ _ h
          · rename_i hb
            split at h
            · rename_i b hb'; exact absurd hb' (hb b)
            · exact h
        · rename_i htN
          rw [if_neg htN] at h; exact h
      · rename_i ht
        rw [ht] at h; exact h

theorem AWP.reg {P : Program} {N id : Nat} {ops : Array Oper} {σ : Slots} {H : List Obj} {Q : Post} (h : opsC P N ops.toList ops.toList σ H (Q .normal)) :
    AWP P N (.region id ops false) σ H Q := AWP.region (opsC_sound _ _ _ h)

end Go.TL
