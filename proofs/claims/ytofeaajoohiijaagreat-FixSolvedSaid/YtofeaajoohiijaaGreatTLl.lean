/- The tree logic, part twelve: functions that only answer. -/
import Derived.Test.YtofeaajoohiijaaGreatTLk
namespace Go.TL
open Go

/-- A value without own objects. -/
inductive Closed : V → Prop
  | any : Closed .any
  | i (k : IntKind) (n : Int) : Closed (.i k n)
  | b (x : Bool) : Closed (.b x)
  | s (x : ByteArray) : Closed (.s x)
  | emp : Closed .emp
  | raw (v : Value) : Closed (.raw v)
  | lst (es : List V) (h : ∀ e ∈ es, Closed e) : Closed (.lst es)
  | agg (es : List V) (h : ∀ e ∈ es, Closed e) : Closed (.agg es)
  | tup (es : List V) (h : ∀ e ∈ es, Closed e) : Closed (.tup es)
  | iptr (es : List V) (h : ∀ e ∈ es, Closed e) : Closed (.iptr es)
  | clo (f : FuncId) (es : List V) (h : ∀ e ∈ es, Closed e) : Closed (.clo f es)

theorem closed_any : Closed .any ↔ True := iff_true_intro .any
theorem closed_i (k : IntKind) (n : Int) : Closed (.i k n) ↔ True := iff_true_intro (.i k n)
theorem closed_b (x : Bool) : Closed (.b x) ↔ True := iff_true_intro (.b x)
theorem closed_s (x : ByteArray) : Closed (.s x) ↔ True := iff_true_intro (.s x)
theorem closed_emp : Closed .emp ↔ True := iff_true_intro .emp
theorem closed_lst (es : List V) : Closed (.lst es) ↔ ∀ e ∈ es, Closed e := ⟨fun h => by cases h; assumption, .lst es⟩
theorem closed_agg (es : List V) : Closed (.agg es) ↔ ∀ e ∈ es, Closed e := ⟨fun h => by cases h; assumption, .agg es⟩
theorem closed_tup (es : List V) : Closed (.tup es) ↔ ∀ e ∈ es, Closed e := ⟨fun h => by cases h; assumption, .tup es⟩

theorem closed_cells {x : V} (h : Closed x) : ∀ c ∈ cellsOf x, Closed c := by
  cases h with
  | agg es h => exact h
  | _ => intro c hc; simp [cellsOf] at hc; subst hc; constructor <;> assumption

theorem VR.closed {w : World} {ρ ρ' : Nat → Nat} {H H' : List Obj} (hu : ∀ b, Unowned ρ' H' b → Unowned ρ H b) {x : V} (hc : Closed x) : ∀ {v : Value}, VR w ρ' H' x v → VR w ρ H x v := by
  induction hc with
  | any => exact fun _ => .any _
  | i k n => intro v h; cases h; exact .i k n
  | b x => intro v h; cases h; exact .b x
  | s x => intro v h; cases h; exact .s x
  | emp => intro v h; cases h; exact .emp _
  | raw u => intro v h; cases h; exact .raw u
  | lst es hh ih =>
    intro v h
    cases h with
    | lnil a c => exact .lnil a c
    | lst _ blk off c k f hne hc hk hb hu' hcell hv =>
      refine .lst es blk off c k f hne hc hk hb (hu _ hu') hcell fun i e j x h1 h2 => ?_
      have hv' := hv i e j x h1 h2
      have he := List.mem_of_getElem? h1
      have hx := List.mem_of_getElem? h2
      cases e with
      | agg cs =>
        have := ih _ he (VR.agg cs ((List.range cs.length).map (fun j => f i j)).toArray (by simp) (fun jj x u a b => by
          have hjl : jj < cs.length := (List.getElem?_eq_some_iff.1 a).1
          simp [hjl] at b
          subst b
          exact hv i _ jj x h1 a))
        have hjl : j < cs.length := (List.getElem?_eq_some_iff.1 h2).1
        cases this with
        | agg _ _ _ hvv => exact hvv j x _ h2 (by simp [hjl])
      | _ => simp [cellsOf] at hx; subst hx; exact ih _ he hv'
  | agg es hh ih =>
    intro v h
    cases h with
    | agg _ vs hl hv => exact .agg es vs hl fun j x u a b => ih _ (List.mem_of_getElem? a) (hv j x u a b)
  | tup es hh ih =>
    intro v h
    cases h with
    | tup _ vs hl hv => exact .tup es vs hl fun j x u a b => ih _ (List.mem_of_getElem? a) (hv j x u a b)
  | iptr es hh ih =>
    intro v h
    cases h with
    | iptr _ blk off f hb hu' hcell hv => exact .iptr es blk off f hb (hu _ hu') hcell fun j x a => ih _ (List.mem_of_getElem? a) (hv j x a)
  | clo f es hh ih =>
    intro v h
    cases h with
    | clo _ _ vs hl hv => exact .clo f es vs hl fun j x u a b => ih _ (List.mem_of_getElem? a) (hv j x u a b)

theorem app_get {H news : List Obj} {o : Nat} (ho : o < H.length) : (H ++ news)[o]? = H[o]? := List.getElem?_append_left ho

/-- What held of the old objects alone holds of them alone again. -/
theorem VR.down {w w' : World} {ρ ρ' : Nat → Nat} {H news : List Obj} (hρ : ∀ (o : Nat) ob, H[o]? = some ob → ob ≠ .dead → ρ' o = ρ o) {x : V} {v₀ : Value} (h₀ : VR w ρ H x v₀) :
    ∀ {v : Value}, VR w' ρ' (H ++ news) x v → VR w' ρ H x v := by
  have hu : ∀ b, Unowned ρ' (H ++ news) b → Unowned ρ H b := by
    intro b hu o ob ho hd e
    have hlt : o < H.length := (List.getElem?_eq_some_iff.1 ho).1
    exact hu o ob (by rw [app_get hlt]; exact ho) hd (by rw [hρ o ob ho hd]; exact e)
  induction h₀ with
  | any => exact fun _ => .any _
  | i k n => intro v h; cases h; exact .i k n
  | b x => intro v h; cases h; exact .b x
  | s x => intro v h; cases h; exact .s x
  | emp => intro v h; cases h; exact .emp _
  | raw u => intro v h; cases h; exact .raw u
  | lnil =>
    intro v h
    cases h with
    | lnil a c => exact .lnil a c
    | lst _ _ _ _ _ _ hne => exact absurd rfl hne
  | lst es blk off c k f hne hc hk hb hu0 hcell hv ih =>
    intro v h
    cases h with
    | lnil => exact absurd rfl hne
    | lst _ blk' off' c' k' f' hne' hc' hk' hb' hu' hcell' hv' =>
      exact .lst es blk' off' c' k' f' hne' hc' hk' hb' (hu _ hu') hcell' fun i e j x h1 h2 => ih i e j x h1 h2 (hv' i e j x h1 h2)
  | agg cs vs hl hv ih =>
    intro v h
    cases h with
    | agg _ vs' hl' hv' =>
      refine .agg cs vs' hl' fun j x u a b => ?_
      have hj : j < vs.size := by rw [← hl]; exact (List.getElem?_eq_some_iff.1 a).1
      exact ih j x _ a (Array.getElem?_eq_getElem hj) (hv' j x u a b)
  | tup cs vs hl hv ih =>
    intro v h
    cases h with
    | tup _ vs' hl' hv' =>
      refine .tup cs vs' hl' fun j x u a b => ?_
      have hj : j < vs.size := by rw [← hl]; exact (List.getElem?_eq_some_iff.1 a).1
      exact ih j x _ a (Array.getElem?_eq_getElem hj) (hv' j x u a b)
  | clo f cs vs hl hv ih =>
    intro v h
    cases h with
    | clo _ _ vs' hl' hv' =>
      refine .clo f cs vs' hl' fun j x u a b => ?_
      have hj : j < vs.size := by rw [← hl]; exact (List.getElem?_eq_some_iff.1 a).1
      exact ih j x _ a (Array.getElem?_eq_getElem hj) (hv' j x u a b)
  | sl o n off len cap v₀ ho h1 hh =>
    intro v h
    cases h with
    | sl _ _ _ _ _ _ ho' h1' hh' =>
      refine .sl o n off len cap v ho h1' fun k es he => ?_
      obtain ⟨a, b⟩ := hh' k es (by rw [app_get ho]; exact he)
      refine ⟨a, fun hlen => ?_⟩
      obtain ⟨c, t, sz, e1, e2, e3, e4, e5, e6, e7⟩ := b hlen
      rw [hρ o _ he (by simp)] at e1 e5
      exact ⟨c, t, sz, e1, e2, e3, e4, e5, e6, e7⟩
  | ptr o n i j v₀ ho h1 hh =>
    intro v h
    cases h with
    | ptr _ _ _ _ _ ho' h1' hh' =>
      refine .ptr o n i j v ho h1' fun k es he => ?_
      obtain ⟨a, b⟩ := hh' k es (by rw [app_get ho]; exact he)
      exact ⟨a, fun hlen => by rw [← hρ o _ he (by simp)]; exact b hlen⟩
  | iptr cs blk off f hb hu0 hcell hv ih =>
    intro v h
    cases h with
    | iptr _ blk' off' f' hb' hu' hcell' hv' => exact .iptr cs blk' off' f' hb' (hu _ hu') hcell' fun j x a => ih j x a (hv' j x a)
  | map o v₀ ho h1 hh =>
    intro v h
    cases h with
    | map _ _ ho' h1' hh' => exact .map o v ho h1' fun es he => by rw [← hρ o _ he (by simp)]; exact hh' es (by rw [app_get ho]; exact he)

/-- A value, its own new rows told as lists. -/
inductive Frz (n₀ : Nat) (H : List Obj) : V → V → Prop
  | closed (x : V) (h : Closed x) : Frz n₀ H x x
  | sl (o n off len : Nat) (cap : Option Nat) (k : Nat) (es ys : List V) (hn : n₀ ≤ o) (ho : H[o]? = some (.row k es)) (hl : es.length = n) (hle : off + len ≤ n) (hys : ys.length = len)
      (h : ∀ (i : Nat) e y, i < len → es[off + i]? = some e → ys[i]? = some y → Frz n₀ H e y) : Frz n₀ H (.sl o n off len cap) (.lst ys)
  | emp : Frz n₀ H .emp (.lst [])
  | agg (cs ds : List V) (hl : cs.length = ds.length) (h : ∀ (j : Nat) x y, cs[j]? = some x → ds[j]? = some y → Frz n₀ H x y) : Frz n₀ H (.agg cs) (.agg ds)
  | tup (cs ds : List V) (hl : cs.length = ds.length) (h : ∀ (j : Nat) x y, cs[j]? = some x → ds[j]? = some y → Frz n₀ H x y) : Frz n₀ H (.tup cs) (.tup ds)
  | clo (f : FuncId) (cs ds : List V) (hl : cs.length = ds.length) (h : ∀ (j : Nat) x y, cs[j]? = some x → ds[j]? = some y → Frz n₀ H x y) : Frz n₀ H (.clo f cs) (.clo f ds)
  | ptr (o n i k : Nat) (es : List V) (e : V) (ds : List V) (hn : n₀ ≤ o) (ho : H[o]? = some (.row k es)) (hl : es.length = n) (he : es[i]? = some e) (hd : (cellsOf e).length = ds.length)
      (h : ∀ (j : Nat) x y, (cellsOf e)[j]? = some x → ds[j]? = some y → Frz n₀ H x y) : Frz n₀ H (.ptr o n i 0) (.iptr ds)

theorem Frz.cells {n₀ : Nat} {H : List Obj} {e y : V} (h : Frz n₀ H e y) : (cellsOf y).length = (cellsOf e).length := by
  cases h with
  | agg cs ds hl => exact hl.symm
  | _ => rfl

theorem VR.frz {w : World} {ρ ρ' : Nat → Nat} {H news : List Obj} (s : Sim ρ' (H ++ news) w) (hρ : ∀ (o : Nat) ob, H[o]? = some ob → ob ≠ .dead → ρ' o = ρ o) {x y : V}
    (hf : Frz H.length (H ++ news) x y) : ∀ {v : Value}, VR w ρ' (H ++ news) x v → VR w ρ H y v := by
  have hu : ∀ b, Unowned ρ' (H ++ news) b → Unowned ρ H b := by
    intro b hu o ob ho hd e
    have hlt : o < H.length := (List.getElem?_eq_some_iff.1 ho).1
    exact hu o ob (by rw [app_get hlt]; exact ho) hd (by rw [hρ o ob ho hd]; exact e)
  induction hf with
  | closed x h => intro v hv; exact hv.closed hu h
  | emp => intro v hv; cases hv; exact .lnil _ _
  | agg cs ds hl h ih =>
    intro v hv
    cases hv with
    | agg _ vs hl' hv' =>
      refine .agg ds vs (hl ▸ hl') fun j y u a b => ?_
      have hj : j < cs.length := by rw [hl]; exact (List.getElem?_eq_some_iff.1 a).1
      exact ih j _ y (List.getElem?_eq_getElem hj) a (hv' j _ u (List.getElem?_eq_getElem hj) b)
  | tup cs ds hl h ih =>
    intro v hv
    cases hv with
    | tup _ vs hl' hv' =>
      refine .tup ds vs (hl ▸ hl') fun j y u a b => ?_
      have hj : j < cs.length := by rw [hl]; exact (List.getElem?_eq_some_iff.1 a).1
      exact ih j _ y (List.getElem?_eq_getElem hj) a (hv' j _ u (List.getElem?_eq_getElem hj) b)
  | clo f cs ds hl h ih =>
    intro v hv
    cases hv with
    | clo _ _ vs hl' hv' =>
      refine .clo f ds vs (hl ▸ hl') fun j y u a b => ?_
      have hj : j < cs.length := by rw [hl]; exact (List.getElem?_eq_some_iff.1 a).1
      exact ih j _ y (List.getElem?_eq_getElem hj) a (hv' j _ u (List.getElem?_eq_getElem hj) b)
  | ptr o n i k es e ds hn ho hl he hd h ih =>
    intro v hv
    cases hv with
    | ptr _ _ _ _ _ ho' h1' hh' =>
      have hv0 := (hh' _ _ ho).2 hl
      subst hv0
      obtain ⟨arr, ta, e0, f0, k0, c0⟩ := s.row o k es ho
      refine .iptr ds (ρ' o) (i * k + 0) (fun j => (arr[i * k + j]?).getD undef) (s.lt ho (by simp)) ?_ ?_ ?_
      · intro o1 ob1 h1 d1 e1
        have hlt : o1 < H.length := (List.getElem?_eq_some_iff.1 h1).1
        have := s.inj o1 o _ _ (by rw [app_get hlt]; exact h1) d1 ho (by simp) (by rw [hρ o1 _ h1 d1]; exact e1)
        omega
      · intro j y h2
        have hj : j < (cellsOf e).length := by rw [hd]; exact (List.getElem?_eq_some_iff.1 h2).1
        obtain ⟨u, hu', _⟩ := c0 i e j _ he (List.getElem?_eq_getElem hj)
        simp only [World.cell?, e0]
        rw [hu']
        simp only [Option.isSome_none, Bool.false_eq_true, if_false, Option.getD_some, Nat.add_zero]
        exact hu'
      · intro j y h2
        have hj : j < (cellsOf e).length := by rw [hd]; exact (List.getElem?_eq_some_iff.1 h2).1
        obtain ⟨u, hu', hx⟩ := c0 i e j _ he (List.getElem?_eq_getElem hj)
        rw [hu']
        simp only [Option.getD_some]
        exact ih j _ y (List.getElem?_eq_getElem hj) h2 hx
  | sl o n off len cap k es ys hn ho hl hle hys h ih =>
    intro v hv
    cases hv with
    | sl _ _ _ _ _ _ ho' h1' hh' =>
      obtain ⟨c, t, sz, rfl, a1, a2, a3, a4, a5, a6⟩ := (hh' _ _ ho).2 hl
      by_cases hz : ys = []
      · subst hz
        simp at hys
        subst hys
        exact .lnil _ _
      · subst hys
        obtain ⟨arr, ta, e0, f0, k0, c0⟩ := s.row o k es ho
        have hget : ∀ (i : Nat) y, ys[i]? = some y → ∃ e, es[off + i]? = some e ∧ Frz H.length (H ++ news) e y := by
          intro i y hy
          have hi : i < ys.length := (List.getElem?_eq_some_iff.1 hy).1
          have he := List.getElem?_eq_getElem (show off + i < es.length by omega)
          exact ⟨_, he, h i _ y hi he hy⟩
        refine .lst ys (ρ' o) (off * k) c k (fun i j => (arr[(off + i) * k + j]?).getD undef) hz a1 ?_ (s.lt ho (by simp)) ?_ ?_ ?_
        · intro y hy
          obtain ⟨i, hi⟩ := List.mem_iff_getElem?.1 hy
          obtain ⟨e, he, hf⟩ := hget i y hi
          rw [hf.cells]; exact k0 e (List.mem_of_getElem? he)
        · intro o1 ob1 h1 d1 e1
          have hlt : o1 < H.length := (List.getElem?_eq_some_iff.1 h1).1
          have := s.inj o1 o _ _ (by rw [app_get hlt]; exact h1) d1 ho (by simp) (by rw [hρ o1 _ h1 d1]; exact e1)
          omega
        · intro i y j x h1 h2
          obtain ⟨e, he, hf⟩ := hget i y h1
          have hj : j < (cellsOf e).length := by rw [← hf.cells]; exact (List.getElem?_eq_some_iff.1 h2).1
          obtain ⟨u, hu', _⟩ := c0 (off + i) e j _ he (List.getElem?_eq_getElem hj)
          simp only [World.cell?, e0]
          rw [hu']
          simp only [Option.isSome_none, Bool.false_eq_true, if_false, Option.getD_some]
          rw [← Nat.add_mul]; exact hu'
        · intro i y j x h1 h2
          obtain ⟨e, he, hf⟩ := hget i y h1
          have hj : j < (cellsOf e).length := by rw [← hf.cells]; exact (List.getElem?_eq_some_iff.1 h2).1
          obtain ⟨u, hu', hx⟩ := c0 (off + i) e j _ he (List.getElem?_eq_getElem hj)
          rw [hu']
          simp only [Option.getD_some]
          have hi : i < ys.length := (List.getElem?_eq_some_iff.1 h1).1
          -- by the element as a whole
          have whole : ∀ (ve : Value), VR w ρ' (H ++ news) e ve → VR w ρ H y ve := fun ve hve => ih i e y hi he h1 hve
          have key : ∀ (cs : List V), e = .agg cs → VR w ρ H x u := by
            rintro cs rfl
            have hve : VR w ρ' (H ++ news) (.agg cs) (.agg ((List.range cs.length).map fun j => (arr[(off + i) * k + j]?).getD undef).toArray) := by
              refine .agg _ _ (by simp) fun jj z uu a b => ?_
              have hjl : jj < cs.length := (List.getElem?_eq_some_iff.1 a).1
              simp [hjl] at b
              obtain ⟨u2, hu2, hx2⟩ := c0 (off + i) _ jj z he a
              rw [hu2] at b
              simp at b
              rw [← b]; exact hx2
            have := whole _ hve
            cases hf with
            | closed _ _ =>
              cases this with
              | agg _ _ _ hvv =>
                have := hvv j x _ h2 (by have : j < cs.length := hj; simp [this]; rfl)
                rw [hu'] at this; exact this
            | agg _ ds _ _ =>
              cases this with
              | agg _ _ _ hvv =>
                have := hvv j x _ h2 (by have : j < cs.length := hj; simp [this]; rfl)
                rw [hu'] at this; exact this
          have one : cellsOf e = [e] → cellsOf y = [y] → VR w ρ H x u := by
            intro he1 hy1
            rw [hy1] at h2
            have hj0 : j = 0 := by rw [he1] at hj; simp at hj; exact hj
            subst hj0
            simp at h2
            subst h2
            refine whole u ?_
            have : (cellsOf e)[0] = e := by simp [he1]
            rw [this] at hx
            exact hx
          cases e with
          | agg cs => exact key cs rfl
          | _ =>
            refine one rfl ?_
            cases hf <;> rfl

/-- A function that only answers: nothing that was is touched. -/
def Pure (P : Program) (f : FuncId) (args : List V) (r : V) : Prop := ∀ H, Fn P f args H fun x H' => x = r ∧ H' = H

theorem Pure.use {P : Program} {f : FuncId} {args : List V} {r : V} {H : List Obj} {K : V → List Obj → Prop} (h : Pure P f args r) (k : K r H) : Fn P f args H K :=
  (h H).mono fun _ _ ⟨e1, e2⟩ => by rw [e1, e2]; exact k

theorem Pure.of {P : Program} {f : FuncId} {args : List V} {r : V} (h : ∀ H, Fn P f args H fun x H' => ∃ news, H' = H ++ news ∧ Frz H.length H' x r) : Pure P f args r := by
  intro H
  refine ⟨(h H).1, fun w ρ vs s hv => ((h H).2 w ρ vs s hv).mono ?_⟩
  rintro e w' ⟨v, x, ρ', H', rfl, hx, s', g, news, rfl, hf⟩
  have hρ : ∀ (o : Nat) ob, H[o]? = some ob → ob ≠ .dead → ρ' o = ρ o := by
    intro o ob ho hd
    have hlt : o < H.length := (List.getElem?_eq_some_iff.1 ho).1
    cases ob with
    | dead => exact absurd rfl hd
    | row k es =>
      rcases g.row o k es ho with hdd | ⟨es', he, _, hr⟩
      · rw [app_get hlt, ho] at hdd; cases hdd
      · rw [app_get hlt, ho] at he
        cases he
        exact (hr rfl).1
    | map es =>
      rcases g.map o es ho with hdd | ⟨es', he, hr⟩
      · rw [app_get hlt, ho] at hdd; cases hdd
      · exact hr
  have hE : Evo w ρ H w' ρ H := by
    refine ⟨g.size, Nat.le_refl _, fun b hb hu => ⟨(g.froz b hb hu).1, hu⟩, fun _ h => h, fun o k es ho => .inr ⟨es, ho, Nat.le_refl _, fun _ => ⟨rfl, ?_⟩⟩, fun o es ho => .inr ⟨es, ho, rfl⟩, g.io⟩
    have hlt : o < H.length := (List.getElem?_eq_some_iff.1 ho).1
    rcases g.row o k es ho with hdd | ⟨es', he, _, hr⟩
    · rw [app_get hlt, ho] at hdd; cases hdd
    · rw [app_get hlt, ho] at he
      cases he
      exact (hr rfl).2
  refine ⟨v, r, ρ, H, rfl, hx.frz s' hρ hf, ⟨s.inj, fun o k es ho => ?_, fun o es ho => ?_⟩, hE, rfl, rfl⟩
  · have hlt : o < H.length := (List.getElem?_eq_some_iff.1 ho).1
    obtain ⟨arr, t, e0, f0, k0, c0⟩ := s'.row o k es (by rw [app_get hlt]; exact ho)
    obtain ⟨arr₀, t₀, _, _, _, d0⟩ := s.row o k es ho
    rw [hρ o _ ho (by simp)] at e0
    refine ⟨arr, t, e0, f0, k0, fun i e j x h1 h2 => ?_⟩
    obtain ⟨u, hu, hx'⟩ := c0 i e j x h1 h2
    obtain ⟨u₀, _, hx₀⟩ := d0 i e j x h1 h2
    exact ⟨u, hu, VR.down hρ hx₀ hx'⟩
  · have hlt : o < H.length := (List.getElem?_eq_some_iff.1 ho).1
    obtain ⟨ents, c, e0, z0, c0⟩ := s'.map o es (by rw [app_get hlt]; exact ho)
    obtain ⟨ents₀, c₀, _, _, d0⟩ := s.map o es ho
    rw [hρ o _ ho (by simp)] at e0
    refine ⟨ents, c, e0, z0, fun i kx h1 => ?_⟩
    obtain ⟨en, a1, a2, a3⟩ := c0 i kx h1
    obtain ⟨en₀, b1, b2, b3⟩ := d0 i kx h1
    exact ⟨en, a1, VR.down hρ b2 a2, VR.down hρ b3 a3⟩

end Go.TL
