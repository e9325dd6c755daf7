/- A block of the callee's own that its caller's objects do not see: hidden, turned, shown. No program in sight; no conditions. -/
import Derived.Test.YtmgoencdjkaobaaGreatDoorPeJ
set_option linter.unusedVariables false
set_option linter.unusedSimpArgs false
namespace Go.Pe

/-- Only block D has turned. -/
structure Chg (D : Nat) (w w' : World) : Prop where
  os : w'.os = w.os
  tape : w'.tape = w.tape
  output : w'.output = w.output
  size : w'.heap.size = w.heap.size
  far : ∀ b, b ≠ D → w'.heap[b]? = w.heap[b]?
theorem Chg.setCell (w : World) (D : Nat) (v : Value) : Chg D w (w.setCell ⟨D, 0, none⟩ v) := by
  refine ⟨rfl, rfl, rfl, by simp [World.setCell], fun b hb => ?_⟩
  simp [World.setCell, Array.getElem?_modify, Ne.symm hb]
theorem Rep.more {X X' : Env} {w : World} {h : List AObj} {bs : List (Option Nat)} {a : AV} {v : Value} (ho : ∀ b, b < w.heap.size → X'.own b → X.own b) (hy : X'.y = X.y) (r : Rep X w h bs a v) : Rep X' w h bs a v := by
  induction r with
  | any v => exact .any v
  | bool b => exact .bool b
  | int k n => exact .int k n
  | flt k b => exact .flt k b
  | str s => exact .str s
  | nilp => exact .nilp
  | nilf => exact .nilf
  | nili => exact .nili
  | nils => exact .nils
  | slE sz a c => exact .slE sz a c
  | sl sz xs b off c vs hne hp hc hm hlt hX hb hsz hcell _ ih => exact .sl sz xs b off c vs hne hp hc hm hlt (fun h => hX (ho b hlt h)) hb hsz hcell ih
  | oslN o ver ob hob hv hb => exact .oslN o ver ob hob hv hb
  | osl o ver off len c ob b C hob hv hb hlen hlc hcm hC hcap => exact .osl o ver off len c ob b C hob hv hb hlen hlc hcm hC hcap
  | oslE o ver off ob hob hv hoff a => exact .oslE o ver off ob hob hv hoff a
  | oslS o ver off len ob hob hv A n c => exact .oslS o ver off len ob hob hv A n c
  | ptr o ver i k ob b hob hv hb => exact .ptr o ver i k ob b hob hv hb
  | ptrS o ver i k ob hob hv p => exact .ptrS o ver i k ob hob hv p
  | rp xs b off vs hp hlt hX hb hone hcell _ ih => exact .rp xs b off vs hp hlt (fun h => hX (ho b hlt h)) hb hone hcell ih
  | fn f l cs hl _ ih => exact .fn f l cs hl ih
  | iface t a v _ ih => exact .iface t a v ih
  | agg l cs hl _ ih => exact .agg l cs hl ih
  | tup l cs hl _ ih => exact .tup l cs hl ih
  | yld c hc => exact .yld c (hy.trans hc)
theorem Rep.chg {X X' : Env} {w w' : World} {D : Nat} {h : List AObj} {bs : List (Option Nat)} {a : AV} {v : Value} (ho : ∀ b, X'.own b → X.own b) (hD : X.own D) (hDb : some D ∉ bs) (hy : X'.y = X.y) (c : Chg D w w') (r : Rep X w h bs a v) : Rep X' w' h bs a v := by
  induction r with
  | any v => exact .any v
  | bool b => exact .bool b
  | int k n => exact .int k n
  | flt k b => exact .flt k b
  | str s => exact .str s
  | nilp => exact .nilp
  | nilf => exact .nilf
  | nili => exact .nili
  | nils => exact .nils
  | slE sz a c => exact .slE sz a c
  | sl sz xs b off c' vs hne hp hc hm hlt hX hb hsz hcell _ ih => exact .sl sz xs b off c' vs hne hp hc hm (by rw [c.size]; exact hlt) (fun h => hX (ho b h)) hb hsz (fun j x k y e1 e2 => by rw [cell_far (c.far b (fun e => hX (e ▸ hD)))]; exact hcell j x k y e1 e2) ih
  | oslN o ver ob hob hv hb => exact .oslN o ver ob hob hv hb
  | osl o ver off len c' ob b C hob hv hb hlen hlc hcm hC hcap => exact .osl o ver off len c' ob b C hob hv hb hlen hlc hcm (by rw [c.far b (fun e => hDb (e ▸ List.mem_of_getElem? hb))]; exact hC) hcap
  | oslE o ver off ob hob hv hoff a => exact .oslE o ver off ob hob hv hoff a
  | oslS o ver off len ob hob hv A n c => exact .oslS o ver off len ob hob hv A n c
  | ptr o ver i k ob b hob hv hb => exact .ptr o ver i k ob b hob hv hb
  | ptrS o ver i k ob hob hv p => exact .ptrS o ver i k ob hob hv p
  | rp xs b off vs hp hlt hX hb hone hcell _ ih => exact .rp xs b off vs hp (by rw [c.size]; exact hlt) (fun h => hX (ho b h)) hb hone (fun k y e => by rw [cell_far (c.far b (fun e => hX (e ▸ hD)))]; exact hcell k y e) ih
  | fn f l cs hl _ ih => exact .fn f l cs hl ih
  | iface t a v _ ih => exact .iface t a v ih
  | agg l cs hl _ ih => exact .agg l cs hl ih
  | tup l cs hl _ ih => exact .tup l cs hl ih
  | yld c hc => exact .yld c (hy.trans hc)
theorem Fr.chg {w0 w w' : World} {D : Nat} {h0 h : List AObj} {b0 bs : List (Option Nat)} (f : Fr w0 h0 b0 w h bs) (c : Chg D w w') (hD : w0.heap.size ≤ D) : Fr w0 h0 b0 w' h bs := by
  refine ⟨c.os.trans f.os, c.tape.trans f.tape, c.output.trans f.output, by rw [c.size]; exact f.size, fun b hb hn => (c.far b (by omega)).trans (f.far b hb hn), f.fresh, fun o ob0 e => ?_⟩
  obtain ⟨ob, g, a, c', v, k⟩ := f.obj o ob0 e
  refine ⟨ob, g, a, c', v, fun e2 => ⟨(k e2).1, (k e2).2.1, fun b C t e3 e4 => ?_⟩⟩
  have hlt : b < w0.heap.size := (Array.getElem?_eq_some_iff.1 e4).1
  obtain ⟨C', h1, h2⟩ := (k e2).2.2 b C t e3 e4
  exact ⟨C', (c.far b (by omega)).trans h1, h2⟩

section
variable [Glob] [Top]
theorem HeapRel.none {X : Env} {w : World} {h : List AObj} {bs : List (Option Nat)} (r : HeapRel X w h bs) : X.y = .none ∧ X.N = 0 := (Top.top.2 X).1 r.ev
/-- A new block, hidden. -/
theorem HeapRel.hideNew {X : Env} {w : World} {h : List AObj} {bs : List (Option Nat)} (r : HeapRel X w h bs) (o : Obj) : HeapRel ⟨fun b => X.own b ∨ b = w.heap.size, 0, .none⟩ (w.alloc o) h bs ∧ Fr w h bs (w.alloc o) h bs ∧
    ∀ a v, Rep X w h bs a v → Rep ⟨fun b => X.own b ∨ b = w.heap.size, 0, .none⟩ (w.alloc o) h bs a v := by
  obtain ⟨y0, n0⟩ := r.none
  have hb : Go.RowKit.Below w.heap.size w (w.alloc o) := below_alloc w o
  have f := Fr.of_below hb h bs
  have rep : ∀ {a v}, Rep X w h bs a v → Rep ⟨fun b => X.own b ∨ b = w.heap.size, 0, .none⟩ (w.alloc o) h bs a v := fun hr => (hr.more (X' := ⟨fun b => X.own b ∨ b = w.heap.size, 0, .none⟩) (fun b hlt hb => by rcases hb with hb | hb; exact hb; omega) y0.symm).fr f
  refine ⟨⟨r.len, r.inj, fun b hb' => ?_, fun b hb' => ?_, r.pur, r.shape, r.nil, fun o' ob b e1 e2 => ?_, r.gl.fr f, (Top.top.2 _).2 ⟨rfl, rfl⟩, Nat.zero_le _, fun l rc tm e => by cases e⟩, f, fun a v hr => rep hr⟩
  · rintro (h1 | h1)
    · exact r.notX b hb' h1
    · have := r.lt hb'; omega
  · rcases hb' with h1 | h1
    · exact Nat.lt_of_lt_of_le (r.Xlt b h1) f.size
    · rw [h1]; simp
  · obtain ⟨C, hC, hs, hx⟩ := r.lies o' ob b e1 e2
    exact ⟨C, (hb.block b (Array.getElem?_eq_some_iff.1 hC).1).trans hC, hs, fun j x k y g1 g2 => (hx j x k y g1 g2).imp fun v hv => ⟨hv.1, rep hv.2⟩⟩
/-- The hidden block turned, and no longer hidden. -/
theorem HeapRel.showNew {X : Env} {D : Nat} {w w' : World} {h : List AObj} {bs : List (Option Nat)} (hX : X.y = .none ∧ X.N = 0) (r : HeapRel ⟨fun b => X.own b ∨ b = D, 0, .none⟩ w h bs) (c : Chg D w w') (hn : Glob.n ≤ D) : HeapRel X w' h bs ∧
    ∀ a v, Rep ⟨fun b => X.own b ∨ b = D, 0, .none⟩ w h bs a v → Rep X w' h bs a v := by
  have hD : some D ∉ bs := fun hm => r.notX D hm (.inr rfl)
  have rep : ∀ {a v}, Rep ⟨fun b => X.own b ∨ b = D, 0, .none⟩ w h bs a v → Rep X w' h bs a v := fun hr => hr.chg (X := ⟨fun b => X.own b ∨ b = D, 0, .none⟩) (X' := X) (fun b hb => Or.inl hb) (Or.inr rfl) hD hX.1 c
  refine ⟨⟨r.len, r.inj, fun b hb hx => r.notX b hb (.inl hx), fun b hb => by rw [c.size]; exact r.Xlt b (.inl hb), r.pur, r.shape, r.nil, fun o' ob b e1 e2 => ?_, ⟨Glob.kept (fun b hb => c.far b (by omega)) r.gl.laid, by rw [c.size]; exact r.gl.size, r.gl.own⟩, (Top.top.2 _).2 hX, by rw [hX.2]; exact Nat.zero_le _, fun l rc tm e => by rw [hX.1] at e; cases e⟩, fun a v hr => rep hr⟩
  obtain ⟨C, hC, hs, hx⟩ := r.lies o' ob b e1 e2
  exact ⟨C, (c.far b (fun e => hD (e ▸ List.mem_of_getElem? e2))).trans hC, hs, fun j x k y g1 g2 => (hx j x k y g1 g2).imp fun v hv => ⟨hv.1, rep hv.2⟩⟩
end
/-- The same values, and an empty row where there was the zero slice. -/
inductive Sub : AV → AV → Prop
  | refl (a : AV) : Sub a a
  | nils (sz : Nat) : Sub .nils (.sl sz [])
  | agg (l m : List AV) (hl : l.length = m.length) (h : ∀ (j : Nat) (x y : AV), l[j]? = some x → m[j]? = some y → Sub x y) : Sub (.agg l) (.agg m)
  | tup (l m : List AV) (hl : l.length = m.length) (h : ∀ (j : Nat) (x y : AV), l[j]? = some x → m[j]? = some y → Sub x y) : Sub (.tup l) (.tup m)
theorem Rep.sub {X : Env} {w : World} {h : List AObj} {bs : List (Option Nat)} {a b : AV} (s : Sub a b) : ∀ {v : Value}, Rep X w h bs a v → Rep X w h bs b v := by
  induction s with
  | refl => exact fun r => r
  | nils sz => intro v r; cases r; exact .slE sz none 0
  | agg l m hl _ ih =>
    intro v r
    cases r with
    | agg _ cs hc hr =>
      refine .agg m cs (by omega) fun j y v e1 e2 => ?_
      have hj : j < l.length := by have := (List.getElem?_eq_some_iff.mp e1).1; omega
      exact ih j l[j] y (List.getElem?_eq_getElem hj) e1 (hr j l[j] v (List.getElem?_eq_getElem hj) e2)
  | tup l m hl _ ih =>
    intro v r
    cases r with
    | tup _ cs hc hr =>
      refine .tup m cs (by omega) fun j y v e1 e2 => ?_
      have hj : j < l.length := by have := (List.getElem?_eq_some_iff.mp e1).1; omega
      exact ih j l[j] y (List.getElem?_eq_getElem hj) e1 (hr j l[j] v (List.getElem?_eq_getElem hj) e2)
inductive SubL : List AV → List AV → Prop
  | nil : SubL [] []
  | cons {a b : AV} {l m : List AV} (h : Sub a b) (t : SubL l m) : SubL (a :: l) (b :: m)
theorem SubL.get {l m : List AV} (s : SubL l m) : l.length = m.length ∧ ∀ (j : Nat) (x y : AV), l[j]? = some x → m[j]? = some y → Sub x y := by
  induction s with
  | nil => exact ⟨rfl, fun j x y e => by simp at e⟩
  | cons h t ih =>
    refine ⟨by simp [ih.1], fun j x y e1 e2 => ?_⟩
    cases j with
    | zero => simp at e1 e2; subst e1; subst e2; exact h
    | succ j => exact ih.2 j x y (by simpa using e1) (by simpa using e2)
theorem Sub.aggL {l m : List AV} (s : SubL l m) : Sub (.agg l) (.agg m) := .agg l m s.get.1 s.get.2
theorem Sub.tupL {l m : List AV} (s : SubL l m) : Sub (.tup l) (.tup m) := .tup l m s.get.1 s.get.2
section
variable [Glob] {P : Program} {f : FuncId}
theorem V.weak {args : List AV} {a b : AV} (v : V P f args (.ret a)) (s : Sub a b) : V P f args (.ret b) := by
  intro h X w bs vs hh hl
  refine (v h X w bs vs hh hl).mono ?_
  rintro e w' ⟨h', bs', o, x, w1, p, q, r, z⟩
  rcases z with ⟨z1, z2, z3, z4⟩ | ⟨z1, z2, z3, z4⟩
  · cases z3; exact ⟨h', bs', b, x, w1, p, q, r.sub s, .inl ⟨z1, z2, rfl, z4⟩⟩
  · cases z3
theorem V.args {args args' : List AV} {o : Out} (v : V P f args' o) (s : SubL args args') : V P f args o := by
  intro h X w bs vs hh hl
  refine v h X w bs vs hh ⟨by rw [hl.1, s.get.1], fun j y u e1 e2 => ?_⟩
  have hj : j < args.length := by have := (List.getElem?_eq_some_iff.mp e1).1; rw [s.get.1]; exact this
  exact (hl.2 j args[j] u (List.getElem?_eq_getElem hj) e2).sub (s.get.2 j args[j] y (List.getElem?_eq_getElem hj) e1)
end
section
variable [Glob] {P : Program} {Q : AEx → St → Prop}
/-- What was laid in a round, and is not led to any more, is forgotten. -/
theorem Le.drop {nt b : Nat} {tm : List (Nat × AV)} {h g : List AObj} (hb : b ≤ h.length) (ho : ∀ ob ∈ h, ob.pur = true ∨ refsL ob.xs ≤ h.length) (ht : ∀ p ∈ tm, lk tm p.1 = p.2 ∧ p.2.refs ≤ h.length) : Le ⟨nt, b, tm, h ++ g⟩ ⟨nt, b, tm, h⟩ :=
  Wk.to ⟨rfl, rfl, hb, by simp, fun p hp => .inr (ht p hp), ho⟩
/-- A loop by an index that rises; what a round laid and left is forgotten. -/
theorem aw_indexD {outs : List Nat} {a : AC} {nt b : Nat} {tm : List (Nat × AV)} {h : List AObj} {σ : Type} (n : Nat) (J : Nat → σ → Prop) (T : Nat → σ → List (Nat × AV)) (H : Nat → σ → List AObj) (v0 : σ) (l0 : Le ⟨nt, b, outs.map fun t => (t, lk tm t), h⟩ ⟨nt, b, T 0 v0, H 0 v0⟩) (h0 : J 0 v0)
    (hd : ∀ i v, b ≤ (H i v).length ∧ (∀ ob ∈ H i v, ob.pur = true ∨ refsL ob.xs ≤ (H i v).length) ∧ ∀ p ∈ T i v, lk (T i v) p.1 = p.2 ∧ p.2.refs ≤ (H i v).length)
    (hr : ∀ i v, i ≤ n → J i v → Aw P a (thenQ (fun s' => ∃ i' v' g, (i < i' ∧ i' ≤ n) ∧ J i' v' ∧ proj outs s' = ⟨nt, b, T i' v', H i' v' ++ g⟩) Q) ⟨nt, b, T i v, H i v⟩) : Aw P (.loop outs a) Q ⟨nt, b, tm, h⟩ := by
  refine ⟨fun m s => ∃ i v, i ≤ n ∧ m = n - i ∧ J i v ∧ s = ⟨nt, b, T i v, H i v⟩, n, _, l0, ⟨0, v0, Nat.zero_le _, rfl, h0, rfl⟩, ?_⟩
  rintro m s ⟨i, v, hi, rfl, hj, rfl⟩
  refine Aw_mono (fun e s' q => ?_) (hr i v hi hj)
  cases e with
  | norm =>
    obtain ⟨i', v', g, h1, h2, h3⟩ := q
    refine ⟨_, n - i', ?_, by omega, i', v', h1.2, rfl, h2, rfl⟩
    rw [h3]
    exact Le.drop (hd i' v').1 (hd i' v').2.1 (hd i' v').2.2
  | _ => exact q
theorem aw_forD {outs : List Nat} {a : AC} {nt b : Nat} {tm : List (Nat × AV)} {h : List AObj} (n : Nat) (J : Nat → Prop) (T : Nat → List (Nat × AV)) (l0 : (outs.map fun t => (t, lk tm t)) = T 0) (h0 : J 0)
    (hd : b ≤ h.length ∧ (∀ ob ∈ h, ob.pur = true ∨ refsL ob.xs ≤ h.length) ∧ ∀ i, ∀ p ∈ T i, lk (T i) p.1 = p.2 ∧ p.2.refs ≤ h.length)
    (hr : ∀ i, i ≤ n → J i → Aw P a (thenQ (fun s' => ∃ i' g, (i < i' ∧ i' ≤ n) ∧ J i' ∧ proj outs s' = ⟨nt, b, T i', h ++ g⟩) Q) ⟨nt, b, T i, h⟩) : Aw P (.loop outs a) Q ⟨nt, b, tm, h⟩ := by
  refine aw_indexD n (fun i (_ : Unit) => J i) (fun i _ => T i) (fun _ _ => h) () (by rw [l0]; exact Le.refl _) h0 (fun i _ => ⟨hd.1, hd.2.1, hd.2.2 i⟩) fun i _ hi hj => Aw_mono (fun e s' q => ?_) (hr i hi hj)
  cases e with
  | norm => obtain ⟨i', g, h1, h2, h3⟩ := q; exact ⟨i', (), g, h1, h2, h3⟩
  | _ => exact q
end
theorem frz_lo (N : Nat) (h : List AObj) (x : AV) : x.refs ≤ N → frz N h x = x := by
  refine AV.rec (motive_1 := fun x => x.refs ≤ N → frz N h x = x) (motive_2 := fun l => refsL l ≤ N → frzL N h l = l) ?_ ?_ ?_ ?_ ?_ ?_ ?_ ?_ ?_ ?_ ?_ ?_ ?_ ?_ ?_ ?_ ?_ ?_ ?_ ?_ x
  all_goals try (intros; simp_all [frz, frzL, AV.refs, refsL]; done)
  · intro o ver off len h
    simp only [AV.refs] at h
    rw [frz, if_pos (by omega)]
  · intro o ver i k h
    simp only [AV.refs] at h
    rw [frz, if_pos (by omega)]
  · intro a l iha ihl h
    simp only [refsL] at h
    rw [frzL, iha (by omega), ihl (by omega)]
/-- How a walk ends with all objects kept. -/
theorem endQ_keep {base : Nat} {K : Out → List AObj → Prop} {mk : AV → Out} {h : List AObj} {v : AV} (hb : base ≤ h.length) (ho : ∀ ob ∈ h, ob.pur = true ∨ refsL ob.xs ≤ h.length) (hr : v.refs ≤ h.length) (hK : K (mk v) h) : endQ base K mk h v :=
  ⟨h.length, ⟨hb, Nat.le_refl _, by simpa using ho, by rw [frz_lo _ _ _ hr]; exact hr⟩, by rw [frz_lo _ _ _ hr, List.take_length]; exact hK⟩
end Go.Pe
