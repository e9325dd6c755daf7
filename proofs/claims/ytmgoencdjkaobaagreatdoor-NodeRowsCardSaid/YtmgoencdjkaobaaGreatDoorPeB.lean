/- States of the calculus 'Pe', what a piece of code does from one ('Awp'), what a call does ('VH', 'V'), and the rules for code that is no region. No program in sight; no conditions. -/
import Derived.Test.YtmgoencdjkaobaaGreatDoorPeA
import Derived.Test.YtmgoencdjkaobaaGreatDoorPeW
set_option linter.unusedVariables false
namespace Go.Pe

theorem HeapRel.below [Glob] {X : Env} {w w' : World} {h : List AObj} {bs : List (Option Nat)} (r : HeapRel X w h bs) (f : Fr w h bs w' h bs) (g : ∀ b, b < w.heap.size → w'.heap[b]? = w.heap[b]?) : HeapRel X w' h bs := by
  refine ⟨r.len, r.inj, r.notX, fun b hb => Nat.lt_of_lt_of_le (r.Xlt b hb) f.size, r.pur, r.shape, r.nil, fun o ob b h1 h2 => ?_, r.gl.fr f, r.ev, r.yN, yR_fr f r.yR⟩
  obtain ⟨C, hC, hs, hx⟩ := r.lies o ob b h1 h2
  have hb : b < w.heap.size := (Array.getElem?_eq_some_iff.1 hC).1
  exact ⟨C, (g b hb).trans hC, hs, fun j x k y e1 e2 => (hx j x k y e1 e2).imp fun v hv => ⟨hv.1, hv.2.fr f⟩⟩

theorem Fr.of_below {w w' : World} (b : Go.RowKit.Below w.heap.size w w') (h : List AObj) (bs : List (Option Nat)) : Fr w h bs w' h bs :=
  ⟨b.os, b.tape, b.output, b.size, fun k hk _ => b.block k hk, fun _ hm _ => hm, fun _ ob0 e => ⟨ob0, e, rfl, rfl, Nat.le_refl _, fun _ => ⟨rfl, rfl, fun k C _ _ hC => ⟨C, (b.block k (Array.getElem?_eq_some_iff.1 hC).1).trans hC, rfl⟩⟩⟩⟩

/-- A state: how many temporaries, those that are known, the objects. -/
structure St where
  nt : Nat
  base : Nat
  tm : List (Nat × AV)
  h : List AObj
def St.set (s : St) (d : Nat) (v : AV) : St := { s with tm := (d, v) :: s.tm }
inductive AEx where
  | norm
  | exit (id : Nat)
  | ret
  | pan (v : AV)
inductive Out where
  | ret (v : AV)
  | pan (v : AV)

/-- The marks of loops that are over, among the deferred calls: no call hangs on them. -/
def Marks [Glob] (lo : Option Nat) (w : World) (bs : List (Option Nat)) : List Deferred → Prop
  | [] => True
  | d :: ds => (∃ D, d = { target := .collected D, args := #[] } ∧ (Glob.exc = none ∧ ∃ n, lo = some n ∧ n ≤ D) ∧ w.heap[D]? = some (.deferred (some [])) ∧ some D ∉ bs ∧ ∀ d' ∈ ds, d' ≠ d) ∧ Marks lo w bs ds
theorem Marks.fr [Glob] {lo : Option Nat} {w w' : World} {h h' : List AObj} {bs bs' : List (Option Nat)} (f : Fr w h bs w' h' bs') : ∀ {ds : List Deferred}, Marks lo w bs ds → Marks lo w' bs' ds
  | [], _ => trivial
  | d :: ds, ⟨⟨D, h1, h2, h3, h4, h5⟩, m⟩ => by
    have hlt : D < w.heap.size := (Array.getElem?_eq_some_iff.1 h3).1
    exact ⟨⟨D, h1, h2, (f.far D hlt h4).trans h3, fun hm => h4 (f.fresh D hm hlt), h5⟩, m.fr f⟩
theorem Marks.take [Glob] {lo : Option Nat} {w : World} {bs : List (Option Nat)} (N : Nat) : ∀ {ds : List Deferred}, Marks lo w bs ds → Marks lo w (bs.take N) ds
  | [], _ => trivial
  | d :: ds, ⟨⟨D, h1, h2, h3, h4, h5⟩, m⟩ => ⟨⟨D, h1, h2, h3, fun hm => h4 (List.mem_of_mem_take hm), h5⟩, m.take N⟩
theorem Marks.nil [Glob] {w : World} {bs : List (Option Nat)} : ∀ {ds : List Deferred}, Marks none w bs ds → ds = []
  | [], _ => rfl
  | d :: ds, ⟨⟨D, _, ⟨_, n, h, _⟩, _⟩, _⟩ => by cases h

structure StRel [Glob] (X : Env) (lo : Option Nat) (w : World) (a : Act) (bs : List (Option Nat)) (s : St) : Prop where
  heap : HeapRel X w s.h bs
  nt : a.tmps.size = s.nt
  tm : ∀ t, Rep X w s.h bs (lk s.tm t) (a.tmps.getD t undef)
  df : Marks lo w bs a.defers
  bn : X.N ≤ s.base

variable [Glob]
/-- A world as it is, and as it would be if the round that has been broken off had not begun. -/
def Poked (w1 w : World) : Prop := w = w1 ∨ ∃ (l : Nat) (r r' : Loop), Glob.exc = some l ∧ w1.heap[l]? = some (.loop r) ∧ w = w1.putObj l (.loop r')
theorem Poked.eq {w1 w : World} (h : Poked w1 w) (he : Glob.exc = none) : w = w1 := by
  rcases h with h | ⟨l, r, r', h, _⟩
  · exact h
  · rw [he] at h; cases h
/-- What a piece of code comes to, as the world sees it. -/
def lift (X : Env) (lo : Option Nat) (w0 : World) (h0 : List AObj) (b0 : List (Option Nat)) (Q : AEx → St → Prop) : Exit → Act → World → Prop
  | .normal, a, w => ∃ s bs, Q .norm s ∧ StRel X lo w a bs s ∧ Fr w0 h0 b0 w s.h bs ∧ h0.length ≤ s.base
  | .exit id, a, w => ∃ s bs, Q (.exit id) s ∧ StRel X lo w a bs s ∧ Fr w0 h0 b0 w s.h bs ∧ h0.length ≤ s.base
  | .ret, a, w => ∃ s bs, Q .ret s ∧ StRel X lo w a bs s ∧ Fr w0 h0 b0 w s.h bs ∧ h0.length ≤ s.base
  | .panic ch, a, w => ∃ v x h bs w1, Poked w1 w ∧ ch = [{ v := x, recovered := false }] ∧ Q (.pan v) ⟨0, 0, [], h⟩ ∧ HeapRel X w1 h bs ∧ Rep X w1 h bs v x ∧ Fr w0 h0 b0 w1 h bs ∧ Marks lo w1 bs a.defers
  | _, _, _ => False

/-- It holds no range over a function. -/
def flat : Code → Bool
  | .seq a b => flat a && flat b
  | .cond _ a b => flat a && flat b
  | .block _ a => flat a
  | .loop a => flat a
  | .scope a => flat a
  | .rangeFunc .. => false
  | _ => true
/-- From state s the code comes to Q. -/
def Awp (P : Program) (c : Code) (Q : AEx → St → Prop) (s : St) : Prop :=
  ∀ (X : Env) (lo : Option Nat) (w0 : World) (h0 : List AObj) (b0 : List (Option Nat)) (w : World) (a : Act) (bs : List (Option Nat)), StRel X lo w a bs s → Fr w0 h0 b0 w s.h bs → h0.length ≤ s.base → ∀ ro, (ro = none ∧ lo = some w0.heap.size ∨ flat c = true) → wpR ro P c (lift X lo w0 h0 b0 Q) a w

theorem lift_mono {X : Env} {lo : Option Nat} {w0 : World} {h0 : List AObj} {b0 : List (Option Nat)} {Q Q' : AEx → St → Prop} (hq : ∀ e s, Q e s → Q' e s) : ∀ e a w, lift X lo w0 h0 b0 Q e a w → lift X lo w0 h0 b0 Q' e a w
  | .normal, _, _, ⟨s, bs, q, r⟩ => ⟨s, bs, hq _ _ q, r⟩
  | .exit _, _, _, ⟨s, bs, q, r⟩ => ⟨s, bs, hq _ _ q, r⟩
  | .ret, _, _, ⟨s, bs, q, r⟩ => ⟨s, bs, hq _ _ q, r⟩
  | .panic _, _, _, ⟨v, x, h, bs, w1, p, e, q, r⟩ => ⟨v, x, h, bs, w1, p, e, hq _ _ q, r⟩
  | .goto _, _, _, h => h
  | .outgrown, _, _, h => h
theorem Awp.mono {P : Program} {c : Code} {Q Q' : AEx → St → Prop} {s : St} (h : Awp P c Q s) (hq : ∀ e s, Q e s → Q' e s) : Awp P c Q' s :=
  fun X lo w0 h0 b0 w a bs r f g ro hf => wpR_mono (h X lo w0 h0 b0 w a bs r f g ro hf) (lift_mono hq)

/-- What is known may be forgotten: temporaries, and objects to which nothing leads. -/
structure Wk (s s' : St) : Prop where
  nt : s'.nt = s.nt
  base : s'.base = s.base
  le : s'.base ≤ s'.h.length
  N : s'.h = s.h.take s'.h.length
  tm : ∀ p ∈ s'.tm, p.2 = .any ∨ (lk s.tm p.1 = p.2 ∧ p.2.refs ≤ s'.h.length)
  obj : ∀ ob ∈ s'.h, ob.pur = true ∨ refsL ob.xs ≤ s'.h.length

omit [Glob] in
theorem lk_mem : ∀ (l : List (Nat × AV)) (t : Nat), lk l t = .any ∨ (t, lk l t) ∈ l
  | [], _ => .inl rfl
  | (u, v) :: r, t => by
    simp only [lk]
    split
    · rename_i e; subst e; exact .inr (List.mem_cons_self ..)
    · rcases lk_mem r t with h | h
      · exact .inl h
      · exact .inr (List.mem_cons_of_mem _ h)

theorem HeapRel.take {X : Env} {w : World} {h : List AObj} {bs : List (Option Nat)} (r : HeapRel X w h bs) (N : Nat) (hXN : X.N ≤ N) (hp : ∀ ob ∈ h.take N, ob.pur = true ∨ refsL ob.xs ≤ N) : HeapRel X w (h.take N) (bs.take N) := by
  refine ⟨by simp [r.len], fun i j b e1 e2 => r.inj i j b (getElem?_take_some e1) (getElem?_take_some e2), fun b hb => r.notX b (List.mem_of_mem_take hb), r.Xlt, fun ob ho => r.pur ob (List.mem_of_mem_take ho), fun ob ho => r.shape ob (List.mem_of_mem_take ho), fun o ob e1 e2 => r.nil o ob (getElem?_take_some e1) (getElem?_take_some e2), fun o ob b e1 e2 => ?_, r.gl.sub fun b hb => List.mem_of_mem_take hb, r.ev, by rw [List.length_take]; have := r.yN; omega, fun l rr tm e => by
    obtain ⟨h1, h2, h3⟩ := r.yR l rr tm e
    exact ⟨h1, fun hm => h2 (List.mem_of_mem_take hm), fun t => ⟨(h3 t).1, (h3 t).2.take N (Nat.le_trans (h3 t).1 hXN)⟩⟩⟩
  obtain ⟨C, hC, hs, hx⟩ := r.lies o ob b (getElem?_take_some e1) (getElem?_take_some e2)
  refine ⟨C, hC, hs, fun j x k y g1 g2 => (hx j x k y g1 g2).imp fun v hv => ⟨hv.1, hv.2.take N ?_⟩⟩
  have hm := List.mem_of_getElem? e1
  have hxm := List.mem_of_getElem? g1
  rcases hp ob hm with hq | hq
  · have hx := pureL_iff.1 (r.pur ob (List.mem_of_mem_take hm) hq) x hxm
    have : y.pure = true := by
      cases x with
      | agg l => simp only [AV.cells] at g2; simp only [AV.pure] at hx; exact pureL_iff.1 hx y (List.mem_of_getElem? g2)
      | _ => simp only [AV.cells] at g2; cases k <;> simp at g2; subst g2; exact hx
    rw [pure_refs y this]; exact Nat.zero_le _
  · have hx := refsL_iff.1 hq x hxm
    cases x with
    | agg l => simp only [AV.cells] at g2; simp only [AV.refs] at hx; exact refsL_iff.1 hx y (List.mem_of_getElem? g2)
    | _ => simp only [AV.cells] at g2; cases k <;> simp at g2; subst g2; exact hx

omit [Glob] in
theorem Fr.take {w0 w : World} {h0 h : List AObj} {b0 bs : List (Option Nat)} (f : Fr w0 h0 b0 w h bs) (N : Nat) (hN : h0.length ≤ N) : Fr w0 h0 b0 w (h.take N) (bs.take N) := by
  refine ⟨f.os, f.tape, f.output, f.size, f.far, fun b hb => f.fresh b (List.mem_of_mem_take hb), fun o ob0 e => ?_⟩
  obtain ⟨ob, g, a, c, v, k⟩ := f.obj o ob0 e
  have ho : o < N := Nat.lt_of_lt_of_le (List.getElem?_eq_some_iff.1 e).1 hN
  refine ⟨ob, getElem?_take_lt g ho, a, c, v, fun e2 => ⟨?_, (k e2).2⟩⟩
  rw [List.getElem?_take, if_pos ho]; exact (k e2).1

theorem StRel.weak {X : Env} {lo : Option Nat} {w : World} {a : Act} {bs : List (Option Nat)} {s s' : St} (r : StRel X lo w a bs s) (k : Wk s s') : StRel X lo w a (bs.take s'.h.length) s' := by
  have hh := r.heap.take s'.h.length (by have := r.bn; have := k.base; have := k.le; omega) (by rw [← k.N]; exact k.obj)
  rw [← k.N] at hh
  refine ⟨hh, by rw [r.nt, k.nt], fun t => ?_, r.df.take _, by rw [k.base]; exact r.bn⟩
  rcases lk_mem s'.tm t with e | e
  · rw [e]; exact .any _
  · rcases k.tm _ e with h1 | ⟨h1, h2⟩
    · rw [show lk s'.tm t = .any from h1]; exact .any _
    · have := (r.tm t).take s'.h.length (by rw [h1]; exact h2)
      rw [h1, ← k.N] at this; exact this

theorem Awp.weak {P : Program} {c : Code} {Q : AEx → St → Prop} {s s' : St} (k : Wk s s') (h : Awp P c Q s') : Awp P c Q s := by
  intro X lo w0 h0 b0 w a bs r f g
  have hl : h0.length ≤ s'.h.length := by have := k.le; have := k.base; omega
  have := f.take s'.h.length hl
  rw [← k.N] at this
  exact h X lo w0 h0 b0 w a (bs.take s'.h.length) (r.weak k) this (by rw [k.base]; exact g)

theorem Fr.push {X : Env} {w w' : World} {h : List AObj} {bs : List (Option Nat)} (r : HeapRel X w h bs) (b : Go.RowKit.Below w.heap.size w w') (ob : AObj) (nb : Option Nat) (hnb : ∀ k, nb = some k → w.heap.size ≤ k) :
    Fr w h bs w' (h ++ [ob]) (bs ++ [nb]) := by
  refine ⟨b.os, b.tape, b.output, b.size, fun k hk _ => b.block k hk, fun k hm hk => ?_, fun o ob0 e => ?_⟩
  · rw [List.mem_append] at hm
    rcases hm with hm | hm
    · exact hm
    · simp only [List.mem_singleton] at hm
      have := hnb k hm.symm; omega
  · have ho := (List.getElem?_eq_some_iff.1 e).1
    refine ⟨ob0, by rw [List.getElem?_append_left ho]; exact e, rfl, rfl, Nat.le_refl _, fun _ => ⟨?_, rfl, fun k C _ _ hC => ⟨C, (b.block k (Array.getElem?_eq_some_iff.1 hC).1).trans hC, rfl⟩⟩⟩
    rw [List.getElem?_append_left (by rw [r.len]; exact ho)]

theorem HeapRel.push {X : Env} {w w' : World} {h : List AObj} {bs : List (Option Nat)} (r : HeapRel X w h bs) (b : Go.RowKit.Below w.heap.size w w') (ob : AObj) (nb : Option Nat) (hnb : ∀ k, nb = some k → w.heap.size ≤ k)
    (hp : ob.pur = true → pureL ob.xs = true) (hsh : ∀ x ∈ ob.xs, x.cells.length = ob.sz ∧ (ob.pur = true → ∀ y ∈ x.cells, y.one = true)) (hnone : nb = none → ob.xs = [])
    (hsome : ∀ k, nb = some k → ∃ C : Array Value, w'.heap[k]? = some (.cells C ob.ty (0, 0)) ∧ ob.xs.length * ob.sz ≤ C.size ∧
      ∀ (j : Nat) (x : AV) (k : Nat) (y : AV), ob.xs[j]? = some x → x.cells[k]? = some y → ∃ v, C[j * ob.sz + k]? = some v ∧ Rep X w h bs y v) :
    HeapRel X w' (h ++ [ob]) (bs ++ [nb]) := by
  have f := Fr.push r b ob nb hnb
  have hlt : ∀ i k : Nat, bs[i]? = some (some k) → k < w.heap.size := by
    intro i k e
    have hi : i < h.length := by rw [← r.len]; exact (List.getElem?_eq_some_iff.1 e).1
    obtain ⟨C, hC, _⟩ := r.lies i h[i] k (List.getElem?_eq_getElem hi) e
    exact (Array.getElem?_eq_some_iff.1 hC).1
  have hcase : ∀ (i : Nat) (x : Option Nat), (bs ++ [nb])[i]? = some x → bs[i]? = some x ∨ (i = bs.length ∧ x = nb) := by
    intro i x e
    rw [List.getElem?_append] at e
    split at e
    · exact .inl e
    · rename_i hi
      have : i - bs.length = 0 := by have := (List.getElem?_eq_some_iff.1 e).1; simp at this; omega
      rw [this] at e
      simp at e
      exact .inr ⟨by omega, e.symm⟩
  have hcase2 : ∀ (i : Nat) (x : AObj), (h ++ [ob])[i]? = some x → h[i]? = some x ∨ (i = h.length ∧ x = ob) := by
    intro i x e
    rw [List.getElem?_append] at e
    split at e
    · exact .inl e
    · rename_i hi
      have : i - h.length = 0 := by have := (List.getElem?_eq_some_iff.1 e).1; simp at this; omega
      rw [this] at e
      simp at e
      exact .inr ⟨by omega, e.symm⟩
  refine ⟨by simp [r.len], ?_, ?_, fun k hk => Nat.lt_of_lt_of_le (r.Xlt k hk) b.size, ?_, ?_, ?_, ?_, r.gl.fr f, r.ev, by simp; have := r.yN; omega, yR_fr f r.yR⟩
  · intro i j k e1 e2
    rcases hcase i _ e1 with e1 | ⟨i1, e1⟩ <;> rcases hcase j _ e2 with e2 | ⟨i2, e2⟩
    · exact r.inj i j k e1 e2
    · have := hlt i k e1; have := hnb k e2.symm; omega
    · have := hlt j k e2; have := hnb k e1.symm; omega
    · omega
  · intro k hk
    rw [List.mem_append] at hk
    rcases hk with hk | hk
    · exact r.notX k hk
    · simp only [List.mem_singleton] at hk
      intro hx
      have := r.Xlt k hx; have := hnb k hk.symm; omega
  · intro o ho
    rw [List.mem_append] at ho
    rcases ho with ho | ho
    · exact r.pur o ho
    · simp only [List.mem_singleton] at ho; subst ho; exact hp
  · intro o ho
    rw [List.mem_append] at ho
    rcases ho with ho | ho
    · exact r.shape o ho
    · simp only [List.mem_singleton] at ho; subst ho; exact hsh
  · intro o x e1 e2
    rcases hcase2 o x e1 with e1 | ⟨i1, rfl⟩
    · rcases hcase o _ e2 with e2 | ⟨i2, e2⟩
      · exact r.nil o x e1 e2
      · have := (List.getElem?_eq_some_iff.1 e1).1; have := r.len; omega
    · rcases hcase o _ e2 with e2 | ⟨i2, e2⟩
      · have := (List.getElem?_eq_some_iff.1 e2).1; have := r.len; omega
      · exact hnone e2.symm
  · intro o x k e1 e2
    rcases hcase2 o x e1 with e1 | ⟨i1, rfl⟩
    · rcases hcase o _ e2 with e2 | ⟨i2, e2⟩
      · obtain ⟨C, hC, hs, hx⟩ := r.lies o x k e1 e2
        exact ⟨C, (b.block k (hlt o k e2)).trans hC, hs, fun j y i z g1 g2 => (hx j y i z g1 g2).imp fun v hv => ⟨hv.1, hv.2.fr f⟩⟩
      · have := (List.getElem?_eq_some_iff.1 e1).1; have := r.len; omega
    · rcases hcase o _ e2 with e2 | ⟨i2, e2⟩
      · have := (List.getElem?_eq_some_iff.1 e2).1; have := r.len; omega
      · obtain ⟨C, hC, hs, hx⟩ := hsome k e2.symm
        exact ⟨C, hC, hs, fun j y i z g1 g2 => (hx j y i z g1 g2).imp fun v hv => ⟨hv.1, hv.2.fr f⟩⟩

def thenQ (K : St → Prop) (Q : AEx → St → Prop) : AEx → St → Prop
  | .norm, s => K s
  | e, s => Q e s

theorem lift_then {X : Env} {lo : Option Nat} {w0 : World} {h0 : List AObj} {b0 : List (Option Nat)} {K : St → Prop} {Q : AEx → St → Prop} {K' : Act → World → Prop} (hK : ∀ a w s bs, K s → StRel X lo w a bs s → Fr w0 h0 b0 w s.h bs → h0.length ≤ s.base → K' a w) :
    ∀ e a w, lift X lo w0 h0 b0 (thenQ K Q) e a w → Exit.then K' (lift X lo w0 h0 b0 Q) e a w
  | .normal, _, _, ⟨s, bs, q, r, f, g⟩ => hK _ _ s bs q r f g
  | .exit _, _, _, ⟨s, bs, q, r⟩ => ⟨s, bs, q, r⟩
  | .ret, _, _, ⟨s, bs, q, r⟩ => ⟨s, bs, q, r⟩
  | .panic _, _, _, ⟨v, x, h, bs, w1, p, e, q, r⟩ => ⟨v, x, h, bs, w1, p, e, q, r⟩
  | .goto _, _, _, h => h
  | .outgrown, _, _, h => h

section
variable {P : Program} {Q : AEx → St → Prop} {s : St}
theorem awp_skip (h : Q .norm s) : Awp P .skip Q s := fun X _ _ _ _ _ _ bs r f g _ _ => wpR_skip ⟨s, bs, h, r, f, g⟩
theorem awp_ret (h : Q .ret s) : Awp P .ret Q s := fun X _ _ _ _ _ _ bs r f g _ _ => wpR_ret ⟨s, bs, h, r, f, g⟩
theorem awp_exit {id : Nat} (h : Q (.exit id) s) : Awp P (.exit id) Q s := fun X _ _ _ _ _ _ bs r f g _ _ => wpR_exit ⟨s, bs, h, r, f, g⟩
theorem awp_seq {x y : Code} (h : Awp P x (thenQ (Awp P y Q) Q) s) : Awp P (.seq x y) Q s := by
  intro X lo w0 h0 b0 w a bs r f g ro hf
  simp only [flat, Bool.and_eq_true] at hf
  refine wpR_seq (wpR_mono (h X lo w0 h0 b0 w a bs r f g ro (hf.imp id (·.1))) (lift_then ?_))
  intro a' w' s' bs' k r' f' g'
  exact k X lo w0 h0 b0 w' a' bs' r' f' g' ro (hf.imp id (·.2))
theorem awp_seq_k {x y : Code} (h : ∀ K : St → Prop, (∀ s, Awp P y Q s → K s) → Awp P x (thenQ K Q) s) : Awp P (.seq x y) Q s := awp_seq (h _ fun _ h => h)

omit [Glob] in
theorem Rep.bool_inv {X : Env} {w : World} {h : List AObj} {bs : List (Option Nat)} {b : Bool} {v : Value} (r : Rep X w h bs (.bool b) v) : v = .bool b := by cases r; rfl

theorem StRel.known {X : Env} {lo : Option Nat} {w : World} {a : Act} {bs : List (Option Nat)} {s : St} (r : StRel X lo w a bs s) (t : Nat) {v : AV} (h : lk s.tm t = v) : StRel X lo w a bs (s.set t v) :=
  ⟨r.heap, r.nt, fun u => by
    show Rep X w s.h bs (lk ((t, v) :: s.tm) u) _
    simp only [lk]
    split
    · rename_i e; subst e; rw [← h]; exact r.tm t
    · exact r.tm u, r.df, r.bn⟩

/-- A branch: what was asked is known behind it. -/
theorem awp_cond {t : Nat} {x y : Code} {b : Bool} (hc : lk s.tm t = .bool b) (h1 : b = true → Awp P x Q (s.set t (.bool true))) (h2 : b = false → Awp P y Q (s.set t (.bool false))) : Awp P (.cond (.tmp t) x y) Q s := by
  intro X lo w0 h0 b0 w a bs r f g ro hf
  simp only [flat, Bool.and_eq_true] at hf
  have hb := (by have := r.tm t; rw [hc] at this; exact this.bool_inv : a.tmps.getD t undef = .bool b)
  cases b with
  | true => exact wpR_cond_true hb (h1 rfl X lo w0 h0 b0 w a bs (r.known t hc) f g ro (hf.imp id (·.1)))
  | false => exact wpR_cond_false hb (h2 rfl X lo w0 h0 b0 w a bs (r.known t hc) f g ro (hf.imp id (·.2)))
theorem awp_cond_const {x y : Code} {b : Bool} (h : Awp P (if b then x else y) Q s) : Awp P (.cond (.const (.bool b)) x y) Q s := fun X lo w0 h0 b0 w a bs r f g ro hf => wpR_cond (t := b) rfl (h X lo w0 h0 b0 w a bs r f g ro (hf.imp id fun h2 => by simp only [flat, Bool.and_eq_true] at h2; cases b <;> simp [h2.1, h2.2]))

def blockQ (id : Nat) (Q : AEx → St → Prop) : AEx → St → Prop
  | .exit i, s => if i = id then Q .norm s else Q (.exit i) s
  | e, s => Q e s
theorem awp_block {id : Nat} {c : Code} (h : Awp P c (blockQ id Q) s) : Awp P (.block id c) Q s := by
  intro X lo w0 h0 b0 w a bs r f g ro hf
  refine wpR_block (wpR_mono (h X lo w0 h0 b0 w a bs r f g ro hf) ?_)
  intro e a' w' q
  cases e with
  | normal => exact q
  | exit i =>
    obtain ⟨s', bs', q, r⟩ := q
    simp only [blockQ] at q
    simp only [Exit.inBlock]
    split
    · rename_i e; rw [if_pos e] at q; exact ⟨s', bs', q, r⟩
    · rename_i e; rw [if_neg e] at q; exact ⟨s', bs', q, r⟩
  | ret => exact q
  | panic _ => exact q
  | goto _ => exact q
  | outgrown => exact q
theorem awp_scope {c : Code} (h : Awp P c Q s) : Awp P (.scope c) Q s := by
  intro X lo w0 h0 b0 w a bs r f g ro hf
  refine wpR_scope (wpR_mono (h X lo w0 h0 b0 w a bs r f g ro hf) ?_)
  intro e a' w' q
  cases e with
  | goto _ => exact q
  | _ => exact q
theorem awp_label {l : Nat} (h : Q .norm s) : Awp P (.label l) Q s := fun X _ _ _ _ _ _ bs r f g _ _ => wpR_label ⟨s, bs, h, r, f, g⟩

/-- What holds of the one holds of the other. -/
structure Le (s s' : St) : Prop where
  nt : s'.nt = s.nt
  base : s'.base = s.base
  go : ∀ (X : Env) (lo : Option Nat) (w0 : World) (h0 : List AObj) (b0 : List (Option Nat)) (w : World) (a : Act) (bs : List (Option Nat)), StRel X lo w a bs s → Fr w0 h0 b0 w s.h bs → h0.length ≤ s.base → ∃ bs', StRel X lo w a bs' s' ∧ Fr w0 h0 b0 w s'.h bs'
theorem Le.refl (s : St) : Le s s := ⟨rfl, rfl, fun X lo w0 h0 b0 w a bs r f g => ⟨bs, r, f⟩⟩
theorem Le.trans {s s' s'' : St} (l : Le s s') (m : Le s' s'') : Le s s'' := ⟨m.nt.trans l.nt, m.base.trans l.base, fun X lo w0 h0 b0 w a bs r f g =>
  let ⟨b1, r1, f1⟩ := l.go X lo w0 h0 b0 w a bs r f g
  m.go X lo w0 h0 b0 w a b1 r1 f1 (l.base ▸ g)⟩
theorem Wk.to {s s' : St} (k : Wk s s') : Le s s' := ⟨k.nt, k.base, fun X lo w0 h0 b0 w a bs r f g => by
  have hl : h0.length ≤ s'.h.length := by have := k.le; have := k.base; omega
  have f2 := f.take s'.h.length hl
  rw [← k.N] at f2
  exact ⟨_, r.weak k, f2⟩⟩
theorem Awp.le {P : Program} {c : Code} {Q : AEx → St → Prop} {s s' : St} (k : Le s s') (h : Awp P c Q s') : Awp P c Q s := fun X lo w0 h0 b0 w a bs r f g =>
  let ⟨b1, r1, f1⟩ := k.go X lo w0 h0 b0 w a bs r f g
  h X lo w0 h0 b0 w a b1 r1 f1 (by rw [k.base]; exact g)

/-- A temporary's value in its place. -/
def setT (t : Nat) (v : AV) : List (Nat × AV) → List (Nat × AV)
  | [] => []
  | (u, x) :: r => if u = t then (u, v) :: r else (u, x) :: setT t v r
omit [Glob] in
theorem lk_setT (t : Nat) (v : AV) : ∀ (l : List (Nat × AV)) (u : Nat), lk (setT t v l) u = .any ∨ (u = t ∧ lk (setT t v l) u = v) ∨ (u ≠ t ∧ lk (setT t v l) u = lk l u)
  | [], u => .inl rfl
  | (k, x) :: r, u => by
    simp only [setT]
    split
    · rename_i e
      simp only [lk]
      by_cases h : k = u
      · exact .inr (.inl ⟨h ▸ e, by rw [if_pos h]⟩)
      · exact .inr (.inr ⟨fun h2 => h (e.trans h2.symm), by rw [if_neg h]; simp [h]⟩)
    · rename_i e
      simp only [lk]
      by_cases h : k = u
      · exact .inr (.inr ⟨fun h2 => e (h.trans h2), by rw [if_pos h]; simp [h]⟩)
      · rw [if_neg h, if_neg h]; exact lk_setT t v r u
/-- An own row that is not laid yet, for a nil slice. -/
theorem Le.ghost {nt b : Nat} {tm : List (Nat × AV)} {h : List AObj} (t sz ty : Nat) (ht : lk tm t = .nils) : Le ⟨nt, b, tm, h⟩ ⟨nt, b, setT t (.osl h.length 0 0 0) tm, h ++ [⟨0, sz, ty, true, []⟩]⟩ := by
  refine ⟨rfl, rfl, fun X lo w0 h0 b0 w a bs r f g => ?_⟩
  have hb : Go.RowKit.Below w.heap.size w w := Go.RowKit.Below.refl _ _
  have fp := Fr.push r.heap hb ⟨0, sz, ty, true, []⟩ none (by simp)
  refine ⟨bs ++ [none], ⟨r.heap.push hb ⟨0, sz, ty, true, []⟩ none (by simp) (by simp [pureL]) (by simp) (by simp) (by simp), r.nt, fun u => ?_, r.df.fr fp, r.bn⟩, f.trans fp⟩
  show Rep X w (h ++ [⟨0, sz, ty, true, []⟩]) (bs ++ [none]) (lk (setT t (AV.osl h.length 0 0 0) tm) u) _
  rcases lk_setT t (AV.osl h.length 0 0 0) tm u with e | ⟨rfl, e⟩ | ⟨_, e⟩ <;> rw [e]
  · exact .any _
  · have := r.tm u
    rw [show lk (St.tm ⟨nt, b, tm, h⟩) u = .nils from ht] at this
    cases hv : a.tmps.getD u undef <;> rw [hv] at this <;> cases this
    exact .oslN _ 0 ⟨0, sz, ty, true, []⟩ (by simp) rfl (by rw [← r.heap.len]; simp)
  · exact (r.tm u).fr fp

/-- A loop, by a number that falls with each round; behind a round what is no longer wanted is forgotten. -/
theorem awp_loop {c : Code} (I : Nat → St → Prop) (n : Nat) (h0 : I n s)
    (round : ∀ m s, I m s → Awp P c (thenQ (fun s' => ∃ s'' m', Le s' s'' ∧ m' < m ∧ I m' s'') Q) s) : Awp P (.loop c) Q s := by
  intro X lo w0 h0' b0 w a bs r f g ro hf
  let J : Nat → Act → World → Prop := fun m a w => ∃ s bs, I m s ∧ StRel X lo w a bs s ∧ Fr w0 h0' b0 w s.h bs ∧ h0'.length ≤ s.base
  have hex : ∀ a w, (∃ m, J m a w) → ∃ m, J m a w ∧ ∀ k, J k a w → m ≤ k := by
    intro a w ⟨m, hm⟩
    induction m using Nat.strongRecOn with
    | _ m ih =>
      by_cases hk : ∃ k, k < m ∧ J k a w
      · obtain ⟨k, hk, hj⟩ := hk
        exact ih k hk hj
      · exact ⟨m, hm, fun k hj => by
          rcases Nat.lt_or_ge k m with h | h
          · exact absurd ⟨k, h, hj⟩ hk
          · exact h⟩
  let μ : Act → World → Nat := fun a w => @dite _ (∃ m, J m a w) (Classical.propDecidable _) (fun h => (hex a w h).choose) (fun _ => 0)
  have hμ : ∀ a w (h : ∃ m, J m a w), J (μ a w) a w ∧ ∀ k, J k a w → μ a w ≤ k := by
    intro a w h
    have e : μ a w = (hex a w h).choose := by simp only [μ]; rw [dif_pos h]
    rw [e]; exact (hex a w h).choose_spec
  refine wpR_loop (fun a w => ∃ m, J m a w) μ ⟨n, s, bs, h0, r, f, g⟩ ?_
  intro a w hI
  obtain ⟨⟨s1, bs1, i1, r1, f1, g1⟩, hmin⟩ := hμ a w hI
  refine wpR_mono (round _ _ i1 X lo w0 h0' b0 w a bs1 r1 f1 g1 ro hf) (lift_then ?_)
  rintro a' w' s' bs' ⟨s'', m', k, hlt, hi⟩ r' f' g'
  obtain ⟨bs2, r2, f2⟩ := k.go X lo w0 h0' b0 w' a' bs' r' f' g'
  have hj : J m' a' w' := ⟨s'', bs2, hi, r2, f2, by rw [k.base]; exact g'⟩
  exact ⟨⟨m', hj⟩, Nat.lt_of_le_of_lt ((hμ a' w' ⟨m', hj⟩).2 m' hj) hlt⟩
end

/-- The values of some. -/
def RepL (X : Env) (w : World) (h : List AObj) (bs : List (Option Nat)) (l : List AV) (vs : List Value) : Prop := vs.length = l.length ∧ ∀ (j : Nat) (x : AV) (v : Value), l[j]? = some x → vs[j]? = some v → Rep X w h bs x v
/-- How a call ends. -/
def post (X : Env) (w : World) (h : List AObj) (bs : List (Option Nat)) (R : Out → List AObj → Prop) (e : Ending) (w' : World) : Prop :=
  ∃ h' bs' v x w1, HeapRel X w1 h' bs' ∧ Fr w h bs w1 h' bs' ∧ Rep X w1 h' bs' v x ∧ ((e = .returned x ∧ w' = w1 ∧ R (.ret v) h') ∨ (e = .panicked [{ v := x, recovered := false }] ∧ Poked w1 w' ∧ R (.pan v) h'))
/-- What a call of the yield of the loop that is being gone round comes to. -/
def VY (P : Program) (args : List AV) (h : List AObj) (R : Out → List AObj → Prop) : Prop :=
  ∀ (X : Env) (w : World) (bs : List (Option Nat)) (vs : List Value) (l : Nat) (r : Loop) (tm : List (Nat × AV)), X.y = some (l, r, tm) → HeapRel X w h bs → RepL X w h bs args vs →
    vs.length = r.params.size ∧ RoundIn Fence.wide 0 P l r.fn ((r.params.zip vs.toArray).foldl (fun t (p, v) => t.setIfInBounds p v) r.tmps) r.assign r.body w (post X w h bs R)
/-- What a call with these arguments, over these objects, comes to. -/
def VH (P : Program) (f : FuncId) (args : List AV) (h : List AObj) (R : Out → List AObj → Prop) : Prop :=
  ∀ (X : Env) (w : World) (bs : List (Option Nat)) (vs : List Value), HeapRel X w h bs → RepL X w h bs args vs → Calls P f vs.toArray w (post X w h bs R)
theorem VH.mono {P : Program} {f : FuncId} {args : List AV} {h : List AObj} {R R' : Out → List AObj → Prop} (v : VH P f args h R) (hr : ∀ o h', R o h' → R' o h') : VH P f args h R' :=
  fun X w bs vs hh hl => (v X w bs vs hh hl).mono fun _ _ ⟨h', bs', a, x, w1, p, q, r, z⟩ => ⟨h', bs', a, x, w1, p, q, r, z.imp (fun y => ⟨y.1, y.2.1, hr _ _ y.2.2⟩) (fun y => ⟨y.1, y.2.1, hr _ _ y.2.2⟩)⟩
theorem post_mono {X : Env} {w : World} {h : List AObj} {bs : List (Option Nat)} {R R' : Out → List AObj → Prop} (hr : ∀ o h', R o h' → R' o h') {e : Ending} {w' : World} : post X w h bs R e w' → post X w h bs R' e w'
  | ⟨h', bs', a, x, w1, p, q, r, z⟩ => ⟨h', bs', a, x, w1, p, q, r, z.imp (fun y => ⟨y.1, y.2.1, hr _ _ y.2.2⟩) (fun y => ⟨y.1, y.2.1, hr _ _ y.2.2⟩)⟩
theorem VY.mono {P : Program} {args : List AV} {h : List AObj} {R R' : Out → List AObj → Prop} (v : VY P args h R) (hr : ∀ o h', R o h' → R' o h') : VY P args h R' :=
  fun X w bs vs l r tm hy hh hl => let ⟨a, b⟩ := v X w bs vs l r tm hy hh hl; ⟨a, RoundIn.mono b fun _ _ => post_mono hr⟩
/-- What a call of pure arguments comes to, whatever objects there are. -/
def V (P : Program) (f : FuncId) (args : List AV) (o : Out) : Prop := ∀ h, VH P f args h fun o' h' => o' = o ∧ h' = h

end Go.Pe
